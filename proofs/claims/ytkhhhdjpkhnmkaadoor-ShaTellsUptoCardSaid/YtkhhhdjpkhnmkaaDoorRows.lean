/-
  NARROWER THAN 'FOR EVERY INPUT', by the rows' own cells (each row's printed sentence says how): ShaPads: laid · ShaBlocks: laid · ShaExtends: laid · ShaRefuses: laid · ShaGoes: laid · ShaInputs: laid · ShaApart: laid · ShaTells: laid.
  DERIVED. THE GIVEN ROWS OF THIS SEAT. 8 by the template 'for every input the law returns true; each argument reads behind the call as it read before'; 0 by the template 'total and deterministic' (their statements: YtkhhhdjpkhnmkaaDoorTotals.lean).
  GIVEN WITH THE SEED: the statements are not yours to turn. If you find one false, say at which input.
  Laid BY PROGRAM, IN A SANDBOX (cutbox-rows.mjs): the forced cells as the released guide's own fill.sh prints them over the translation 7803fca926700c8d… (all of the seat's roots in one cut). By AI agents, Wed Nov 11 2026. No macro, syntax, notation, axiom, sorry.
-/
import Derived.Test.YtkhhhdjpkhnmkaaDoorChecked
import GoSem.Claim
import GoSem.ClaimJoined
import GoSem.ClaimMapViews
import Derived.JoinedTies
import Derived.KernelRfl
namespace Go.Proofs.YtkhhhdjpkhnmkaaDoor
/- THE CELL 'sum', in the pinned program and in every row, IS THE sha256 OF THE DUMP (.gsa) THAT YtkhhhdjpkhnmkaaDoorProg.lean LOADS. Nothing in Lean hashes anything: it is a label: what it is worth is what the hold of that sum in a sandbox is worth. -/
noncomputable def Tryd.pinned : Pinned := { name := "ytkhhhdjpkhnmkaadoor", sum := "7803fca926700c8de852baf0ac1993bf848a611d2e997c90e79a7d8045bb765a", checked := Tryd.checked }
namespace Rows
def none {H : Type} : Left H := { results := [], args := [] }

/- WHAT THE LISTED PACKAGE-LEVEL VARIABLES READ AS WHEN THE CALL BEGINS. Each datum BY PROGRAM (the guide's laid-datum.mjs) off the statement by which the dump's own 'gosem.cut.vars' lays the variable. In a bare row this is a premise. The card (YtkhhhdjpkhnmkaaDoorCards.lean) ties it to the program's text. -/
def laid_voussoir_sha_k {H : Type} : DataW H := .agg [.lit (.int .u32 1116352408), .lit (.int .u32 1899447441), .lit (.int .u32 3049323471), .lit (.int .u32 3921009573), .lit (.int .u32 961987163), .lit (.int .u32 1508970993), .lit (.int .u32 2453635748), .lit (.int .u32 2870763221), .lit (.int .u32 3624381080), .lit (.int .u32 310598401), .lit (.int .u32 607225278), .lit (.int .u32 1426881987), .lit (.int .u32 1925078388), .lit (.int .u32 2162078206), .lit (.int .u32 2614888103), .lit (.int .u32 3248222580), .lit (.int .u32 3835390401), .lit (.int .u32 4022224774), .lit (.int .u32 264347078), .lit (.int .u32 604807628), .lit (.int .u32 770255983), .lit (.int .u32 1249150122), .lit (.int .u32 1555081692), .lit (.int .u32 1996064986), .lit (.int .u32 2554220882), .lit (.int .u32 2821834349), .lit (.int .u32 2952996808), .lit (.int .u32 3210313671), .lit (.int .u32 3336571891), .lit (.int .u32 3584528711), .lit (.int .u32 113926993), .lit (.int .u32 338241895), .lit (.int .u32 666307205), .lit (.int .u32 773529912), .lit (.int .u32 1294757372), .lit (.int .u32 1396182291), .lit (.int .u32 1695183700), .lit (.int .u32 1986661051), .lit (.int .u32 2177026350), .lit (.int .u32 2456956037), .lit (.int .u32 2730485921), .lit (.int .u32 2820302411), .lit (.int .u32 3259730800), .lit (.int .u32 3345764771), .lit (.int .u32 3516065817), .lit (.int .u32 3600352804), .lit (.int .u32 4094571909), .lit (.int .u32 275423344), .lit (.int .u32 430227734), .lit (.int .u32 506948616), .lit (.int .u32 659060556), .lit (.int .u32 883997877), .lit (.int .u32 958139571), .lit (.int .u32 1322822218), .lit (.int .u32 1537002063), .lit (.int .u32 1747873779), .lit (.int .u32 1955562222), .lit (.int .u32 2024104815), .lit (.int .u32 2227730452), .lit (.int .u32 2361852424), .lit (.int .u32 2428436474), .lit (.int .u32 2756734187), .lit (.int .u32 3204031479), .lit (.int .u32 3329325298)]
def laid_voussoir_sha_first {H : Type} : DataW H := .agg [.lit (.int .u32 1779033703), .lit (.int .u32 3144134277), .lit (.int .u32 1013904242), .lit (.int .u32 2773480762), .lit (.int .u32 1359893119), .lit (.int .u32 2600822924), .lit (.int .u32 528734635), .lit (.int .u32 1541459225)]
def laid_voussoir_voussoirref01_k {H : Type} : DataW H := .agg [.lit (.int .u32 1116352408), .lit (.int .u32 1899447441), .lit (.int .u32 3049323471), .lit (.int .u32 3921009573), .lit (.int .u32 961987163), .lit (.int .u32 1508970993), .lit (.int .u32 2453635748), .lit (.int .u32 2870763221), .lit (.int .u32 3624381080), .lit (.int .u32 310598401), .lit (.int .u32 607225278), .lit (.int .u32 1426881987), .lit (.int .u32 1925078388), .lit (.int .u32 2162078206), .lit (.int .u32 2614888103), .lit (.int .u32 3248222580), .lit (.int .u32 3835390401), .lit (.int .u32 4022224774), .lit (.int .u32 264347078), .lit (.int .u32 604807628), .lit (.int .u32 770255983), .lit (.int .u32 1249150122), .lit (.int .u32 1555081692), .lit (.int .u32 1996064986), .lit (.int .u32 2554220882), .lit (.int .u32 2821834349), .lit (.int .u32 2952996808), .lit (.int .u32 3210313671), .lit (.int .u32 3336571891), .lit (.int .u32 3584528711), .lit (.int .u32 113926993), .lit (.int .u32 338241895), .lit (.int .u32 666307205), .lit (.int .u32 773529912), .lit (.int .u32 1294757372), .lit (.int .u32 1396182291), .lit (.int .u32 1695183700), .lit (.int .u32 1986661051), .lit (.int .u32 2177026350), .lit (.int .u32 2456956037), .lit (.int .u32 2730485921), .lit (.int .u32 2820302411), .lit (.int .u32 3259730800), .lit (.int .u32 3345764771), .lit (.int .u32 3516065817), .lit (.int .u32 3600352804), .lit (.int .u32 4094571909), .lit (.int .u32 275423344), .lit (.int .u32 430227734), .lit (.int .u32 506948616), .lit (.int .u32 659060556), .lit (.int .u32 883997877), .lit (.int .u32 958139571), .lit (.int .u32 1322822218), .lit (.int .u32 1537002063), .lit (.int .u32 1747873779), .lit (.int .u32 1955562222), .lit (.int .u32 2024104815), .lit (.int .u32 2227730452), .lit (.int .u32 2361852424), .lit (.int .u32 2428436474), .lit (.int .u32 2756734187), .lit (.int .u32 3204031479), .lit (.int .u32 3329325298)]
def laid_voussoir_voussoirref01_first {H : Type} : DataW H := .agg [.lit (.int .u32 1779033703), .lit (.int .u32 3144134277), .lit (.int .u32 1013904242), .lit (.int .u32 2773480762), .lit (.int .u32 1359893119), .lit (.int .u32 2600822924), .lit (.int .u32 528734635), .lit (.int .u32 1541459225)]

/-- 'voussoirlaw01.ShaPads': WHATEVER THE INPUT: true; the input reads as it did. -/
def shaPadsSpec : ChangeSpec := { name := "shaPads", fn := fun _ => fun
  | [d1, d2] => { results := [.lit (.bool true)], args := [d1, d2] }
  | _ => none }
def shaPadsRow : OpenClaim := { program := "ytkhhhdjpkhnmkaadoor", sum := "7803fca926700c8de852baf0ac1993bf848a611d2e997c90e79a7d8045bb765a", func := "voussoir/voussoirlaw01.ShaPads", spec := "shaPads", named := ["voussoir/sha.first", "voussoir/sha.k"], apart := false, laid := [("voussoir/sha.k", laid_voussoir_sha_k), ("voussoir/sha.first", laid_voussoir_sha_first)] }
def ShaPadsSaid : Prop := shaPadsRow.holds Tryd.pinned (OpenSpec.ofChange shaPadsSpec)

/-- ITS FALSE NEIGHBOUR: 'it returns false'. Refute it at one input. -/
def shaPadsWrong : ChangeSpec := { name := "shaPads", fn := fun _ => fun
  | [d1, d2] => { results := [.lit (.bool false)], args := [d1, d2] }
  | _ => none }
def ShaPadsWrongFalsely : Prop := shaPadsRow.holds Tryd.pinned (OpenSpec.ofChange shaPadsWrong)

/-- 'voussoirlaw01.ShaBlocks': WHATEVER THE INPUT: true; the input reads as it did. -/
def shaBlocksSpec : ChangeSpec := { name := "shaBlocks", fn := fun _ => fun
  | [d1, d2] => { results := [.lit (.bool true)], args := [d1, d2] }
  | _ => none }
def shaBlocksRow : OpenClaim := { program := "ytkhhhdjpkhnmkaadoor", sum := "7803fca926700c8de852baf0ac1993bf848a611d2e997c90e79a7d8045bb765a", func := "voussoir/voussoirlaw01.ShaBlocks", spec := "shaBlocks", named := ["voussoir/sha.first", "voussoir/sha.k", "voussoir/voussoirref01.k"], apart := false, laid := [("voussoir/voussoirref01.k", laid_voussoir_voussoirref01_k), ("voussoir/sha.k", laid_voussoir_sha_k), ("voussoir/sha.first", laid_voussoir_sha_first)] }
def ShaBlocksSaid : Prop := shaBlocksRow.holds Tryd.pinned (OpenSpec.ofChange shaBlocksSpec)

/-- ITS FALSE NEIGHBOUR: 'it returns false'. Refute it at one input. -/
def shaBlocksWrong : ChangeSpec := { name := "shaBlocks", fn := fun _ => fun
  | [d1, d2] => { results := [.lit (.bool false)], args := [d1, d2] }
  | _ => none }
def ShaBlocksWrongFalsely : Prop := shaBlocksRow.holds Tryd.pinned (OpenSpec.ofChange shaBlocksWrong)

/-- 'voussoirlaw01.ShaExtends': WHATEVER THE INPUT: true; the input reads as it did. -/
def shaExtendsSpec : ChangeSpec := { name := "shaExtends", fn := fun _ => fun
  | [d1, d2] => { results := [.lit (.bool true)], args := [d1, d2] }
  | _ => none }
def shaExtendsRow : OpenClaim := { program := "ytkhhhdjpkhnmkaadoor", sum := "7803fca926700c8de852baf0ac1993bf848a611d2e997c90e79a7d8045bb765a", func := "voussoir/voussoirlaw01.ShaExtends", spec := "shaExtends", named := ["voussoir/sha.first", "voussoir/sha.k"], apart := false, laid := [("voussoir/sha.k", laid_voussoir_sha_k), ("voussoir/sha.first", laid_voussoir_sha_first)] }
def ShaExtendsSaid : Prop := shaExtendsRow.holds Tryd.pinned (OpenSpec.ofChange shaExtendsSpec)

/-- ITS FALSE NEIGHBOUR: 'it returns false'. Refute it at one input. -/
def shaExtendsWrong : ChangeSpec := { name := "shaExtends", fn := fun _ => fun
  | [d1, d2] => { results := [.lit (.bool false)], args := [d1, d2] }
  | _ => none }
def ShaExtendsWrongFalsely : Prop := shaExtendsRow.holds Tryd.pinned (OpenSpec.ofChange shaExtendsWrong)

/-- 'voussoirlaw01.ShaRefuses': WHATEVER THE INPUT: true; the input reads as it did. -/
def shaRefusesSpec : ChangeSpec := { name := "shaRefuses", fn := fun _ => fun
  | [d1, d2, d3] => { results := [.lit (.bool true)], args := [d1, d2, d3] }
  | _ => none }
def shaRefusesRow : OpenClaim := { program := "ytkhhhdjpkhnmkaadoor", sum := "7803fca926700c8de852baf0ac1993bf848a611d2e997c90e79a7d8045bb765a", func := "voussoir/voussoirlaw01.ShaRefuses", spec := "shaRefuses", named := ["voussoir/sha.first", "voussoir/sha.k"], apart := false, laid := [("voussoir/sha.k", laid_voussoir_sha_k), ("voussoir/sha.first", laid_voussoir_sha_first)] }
def ShaRefusesSaid : Prop := shaRefusesRow.holds Tryd.pinned (OpenSpec.ofChange shaRefusesSpec)

/-- ITS FALSE NEIGHBOUR: 'it returns false'. Refute it at one input. -/
def shaRefusesWrong : ChangeSpec := { name := "shaRefuses", fn := fun _ => fun
  | [d1, d2, d3] => { results := [.lit (.bool false)], args := [d1, d2, d3] }
  | _ => none }
def ShaRefusesWrongFalsely : Prop := shaRefusesRow.holds Tryd.pinned (OpenSpec.ofChange shaRefusesWrong)

/-- 'voussoirlaw01.ShaGoes': WHATEVER THE INPUT: true; the input reads as it did. -/
def shaGoesSpec : ChangeSpec := { name := "shaGoes", fn := fun _ => fun
  | [d] => { results := [.lit (.bool true)], args := [d] }
  | _ => none }
def shaGoesRow : OpenClaim := { program := "ytkhhhdjpkhnmkaadoor", sum := "7803fca926700c8de852baf0ac1993bf848a611d2e997c90e79a7d8045bb765a", func := "voussoir/voussoirlaw01.ShaGoes", spec := "shaGoes", named := ["voussoir/sha.first", "voussoir/sha.k"], apart := false, laid := [("voussoir/sha.k", laid_voussoir_sha_k), ("voussoir/sha.first", laid_voussoir_sha_first)] }
def ShaGoesSaid : Prop := shaGoesRow.holds Tryd.pinned (OpenSpec.ofChange shaGoesSpec)

/-- ITS FALSE NEIGHBOUR: 'it returns false'. Refute it at one input. -/
def shaGoesWrong : ChangeSpec := { name := "shaGoes", fn := fun _ => fun
  | [d] => { results := [.lit (.bool false)], args := [d] }
  | _ => none }
def ShaGoesWrongFalsely : Prop := shaGoesRow.holds Tryd.pinned (OpenSpec.ofChange shaGoesWrong)

/-- 'voussoirlaw01.ShaInputs': WHATEVER THE INPUT: true; the input reads as it did. -/
def shaInputsSpec : ChangeSpec := { name := "shaInputs", fn := fun _ => fun
  | [d1, d2, d3] => { results := [.lit (.bool true)], args := [d1, d2, d3] }
  | _ => none }
def shaInputsRow : OpenClaim := { program := "ytkhhhdjpkhnmkaadoor", sum := "7803fca926700c8de852baf0ac1993bf848a611d2e997c90e79a7d8045bb765a", func := "voussoir/voussoirlaw01.ShaInputs", spec := "shaInputs", inPlace := ["internal/abi.NoEscape"], named := ["voussoir/sha.first", "voussoir/sha.k"], apart := false, laid := [("voussoir/sha.k", laid_voussoir_sha_k), ("voussoir/sha.first", laid_voussoir_sha_first)] }
def ShaInputsSaid : Prop := shaInputsRow.holds Tryd.pinned (OpenSpec.ofChange shaInputsSpec)

/-- ITS FALSE NEIGHBOUR: 'it returns false'. Refute it at one input. -/
def shaInputsWrong : ChangeSpec := { name := "shaInputs", fn := fun _ => fun
  | [d1, d2, d3] => { results := [.lit (.bool false)], args := [d1, d2, d3] }
  | _ => none }
def ShaInputsWrongFalsely : Prop := shaInputsRow.holds Tryd.pinned (OpenSpec.ofChange shaInputsWrong)

/-- 'voussoirlaw01.ShaApart': WHATEVER THE INPUT: true; the input reads as it did. -/
def shaApartSpec : ChangeSpec := { name := "shaApart", fn := fun _ => fun
  | [d1, d2, d3, d4] => { results := [.lit (.bool true)], args := [d1, d2, d3, d4] }
  | _ => none }
def shaApartRow : OpenClaim := { program := "ytkhhhdjpkhnmkaadoor", sum := "7803fca926700c8de852baf0ac1993bf848a611d2e997c90e79a7d8045bb765a", func := "voussoir/voussoirlaw01.ShaApart", spec := "shaApart", inPlace := ["internal/abi.NoEscape"], named := ["voussoir/sha.first", "voussoir/sha.k"], apart := false, laid := [("voussoir/sha.k", laid_voussoir_sha_k), ("voussoir/sha.first", laid_voussoir_sha_first)] }
def ShaApartSaid : Prop := shaApartRow.holds Tryd.pinned (OpenSpec.ofChange shaApartSpec)

/-- ITS FALSE NEIGHBOUR: 'it returns false'. Refute it at one input. -/
def shaApartWrong : ChangeSpec := { name := "shaApart", fn := fun _ => fun
  | [d1, d2, d3, d4] => { results := [.lit (.bool false)], args := [d1, d2, d3, d4] }
  | _ => none }
def ShaApartWrongFalsely : Prop := shaApartRow.holds Tryd.pinned (OpenSpec.ofChange shaApartWrong)

/-- 'voussoirlaw01.ShaTells': WHATEVER THE INPUT: true; the input reads as it did. -/
def shaTellsSpec : ChangeSpec := { name := "shaTells", fn := fun _ => fun
  | [d1, d2, d3, d4, d5, d6] => { results := [.lit (.bool true)], args := [d1, d2, d3, d4, d5, d6] }
  | _ => none }
def shaTellsRow : OpenClaim := { program := "ytkhhhdjpkhnmkaadoor", sum := "7803fca926700c8de852baf0ac1993bf848a611d2e997c90e79a7d8045bb765a", func := "voussoir/voussoirlaw01.ShaTells", spec := "shaTells", inPlace := ["internal/abi.NoEscape"], named := ["voussoir/sha.first", "voussoir/sha.k", "voussoir/voussoirref01.first", "voussoir/voussoirref01.k"], apart := false, laid := [("voussoir/voussoirref01.k", laid_voussoir_voussoirref01_k), ("voussoir/voussoirref01.first", laid_voussoir_voussoirref01_first), ("voussoir/sha.k", laid_voussoir_sha_k), ("voussoir/sha.first", laid_voussoir_sha_first)] }
def ShaTellsSaid : Prop := shaTellsRow.holds Tryd.pinned (OpenSpec.ofChange shaTellsSpec)

/-- ITS FALSE NEIGHBOUR: 'it returns false'. Refute it at one input. -/
def shaTellsWrong : ChangeSpec := { name := "shaTells", fn := fun _ => fun
  | [d1, d2, d3, d4, d5, d6] => { results := [.lit (.bool false)], args := [d1, d2, d3, d4, d5, d6] }
  | _ => none }
def ShaTellsWrongFalsely : Prop := shaTellsRow.holds Tryd.pinned (OpenSpec.ofChange shaTellsWrong)

/- THE SECOND FORM. 'bulk': how many values and letters a reading holds, each counted each time it is reached (what is shared counts as often as it is met; a slice's spare places count too). A statement '..UptoSaid' is the law's where the arguments, and the package variables that the reading takes, are together of bulk at most 1048576: NARROWER than '..Said'. Prove '..Said' where nothing that the law and all that it calls make is longer than what came in: it says more and counts as full. Else prove '..UptoSaid'. A law counts once. -/
mutual
def uptoBulk {H : Type} : DataW H → Nat
  | .lit (.string bytes) => bytes.length + 1
  | .lit _ => 1
  | .nil => 1
  | .ptr d => uptoBulk d + 1
  | .slice elems spare => uptoBulkAll elems + uptoBulkAll spare + 1
  | .agg parts => uptoBulkAll parts + 1
  | .iface _ d => uptoBulk d + 1
  | .map entries => uptoBulkEntries entries + 1
  | .held _ => 1
def uptoBulkAll {H : Type} : List (DataW H) → Nat
  | [] => 0
  | d :: r => uptoBulk d + uptoBulkAll r
def uptoBulkEntries {H : Type} : List (Lit × DataW H) → Nat
  | [] => 0
  | x :: r => uptoBulkEntry x + uptoBulkEntries r
def uptoBulkEntry {H : Type} : Lit × DataW H → Nat
  | (.string bytes, d) => bytes.length + uptoBulk d + 1
  | (_, d) => uptoBulk d + 1
 end
def uptoSmall : (H : Type) → List (DataW H) → Bool := fun _ ds => decide (uptoBulkAll ds ≤ 1048576)
def OpenSpec.upto (s : _root_.Go.ChangeSpec) : _root_.Go.OpenSpec := { _root_.Go.OpenSpec.ofChange s with cond := some uptoSmall }

/-- 'voussoirlaw01.ShaPads', WHERE WHAT IT READS IS OF BULK AT MOST 1048576: true; the input reads as it did. -/
def shaPadsUptoRow : OpenClaim := { program := "ytkhhhdjpkhnmkaadoor", sum := "7803fca926700c8de852baf0ac1993bf848a611d2e997c90e79a7d8045bb765a", func := "voussoir/voussoirlaw01.ShaPads", spec := "shaPads", named := ["voussoir/sha.first", "voussoir/sha.k"], apart := false, laid := [("voussoir/sha.k", laid_voussoir_sha_k), ("voussoir/sha.first", laid_voussoir_sha_first)], narrowed := true }
def ShaPadsUptoSaid : Prop := shaPadsUptoRow.holds Tryd.pinned (OpenSpec.upto shaPadsSpec)

/-- 'voussoirlaw01.ShaBlocks', WHERE WHAT IT READS IS OF BULK AT MOST 1048576: true; the input reads as it did. -/
def shaBlocksUptoRow : OpenClaim := { program := "ytkhhhdjpkhnmkaadoor", sum := "7803fca926700c8de852baf0ac1993bf848a611d2e997c90e79a7d8045bb765a", func := "voussoir/voussoirlaw01.ShaBlocks", spec := "shaBlocks", named := ["voussoir/sha.first", "voussoir/sha.k", "voussoir/voussoirref01.k"], apart := false, laid := [("voussoir/voussoirref01.k", laid_voussoir_voussoirref01_k), ("voussoir/sha.k", laid_voussoir_sha_k), ("voussoir/sha.first", laid_voussoir_sha_first)], narrowed := true }
def ShaBlocksUptoSaid : Prop := shaBlocksUptoRow.holds Tryd.pinned (OpenSpec.upto shaBlocksSpec)

/-- 'voussoirlaw01.ShaExtends', WHERE WHAT IT READS IS OF BULK AT MOST 1048576: true; the input reads as it did. -/
def shaExtendsUptoRow : OpenClaim := { program := "ytkhhhdjpkhnmkaadoor", sum := "7803fca926700c8de852baf0ac1993bf848a611d2e997c90e79a7d8045bb765a", func := "voussoir/voussoirlaw01.ShaExtends", spec := "shaExtends", named := ["voussoir/sha.first", "voussoir/sha.k"], apart := false, laid := [("voussoir/sha.k", laid_voussoir_sha_k), ("voussoir/sha.first", laid_voussoir_sha_first)], narrowed := true }
def ShaExtendsUptoSaid : Prop := shaExtendsUptoRow.holds Tryd.pinned (OpenSpec.upto shaExtendsSpec)

/-- 'voussoirlaw01.ShaRefuses', WHERE WHAT IT READS IS OF BULK AT MOST 1048576: true; the input reads as it did. -/
def shaRefusesUptoRow : OpenClaim := { program := "ytkhhhdjpkhnmkaadoor", sum := "7803fca926700c8de852baf0ac1993bf848a611d2e997c90e79a7d8045bb765a", func := "voussoir/voussoirlaw01.ShaRefuses", spec := "shaRefuses", named := ["voussoir/sha.first", "voussoir/sha.k"], apart := false, laid := [("voussoir/sha.k", laid_voussoir_sha_k), ("voussoir/sha.first", laid_voussoir_sha_first)], narrowed := true }
def ShaRefusesUptoSaid : Prop := shaRefusesUptoRow.holds Tryd.pinned (OpenSpec.upto shaRefusesSpec)

/-- 'voussoirlaw01.ShaGoes', WHERE WHAT IT READS IS OF BULK AT MOST 1048576: true; the input reads as it did. -/
def shaGoesUptoRow : OpenClaim := { program := "ytkhhhdjpkhnmkaadoor", sum := "7803fca926700c8de852baf0ac1993bf848a611d2e997c90e79a7d8045bb765a", func := "voussoir/voussoirlaw01.ShaGoes", spec := "shaGoes", named := ["voussoir/sha.first", "voussoir/sha.k"], apart := false, laid := [("voussoir/sha.k", laid_voussoir_sha_k), ("voussoir/sha.first", laid_voussoir_sha_first)], narrowed := true }
def ShaGoesUptoSaid : Prop := shaGoesUptoRow.holds Tryd.pinned (OpenSpec.upto shaGoesSpec)

/-- 'voussoirlaw01.ShaInputs', WHERE WHAT IT READS IS OF BULK AT MOST 1048576: true; the input reads as it did. -/
def shaInputsUptoRow : OpenClaim := { program := "ytkhhhdjpkhnmkaadoor", sum := "7803fca926700c8de852baf0ac1993bf848a611d2e997c90e79a7d8045bb765a", func := "voussoir/voussoirlaw01.ShaInputs", spec := "shaInputs", inPlace := ["internal/abi.NoEscape"], named := ["voussoir/sha.first", "voussoir/sha.k"], apart := false, laid := [("voussoir/sha.k", laid_voussoir_sha_k), ("voussoir/sha.first", laid_voussoir_sha_first)], narrowed := true }
def ShaInputsUptoSaid : Prop := shaInputsUptoRow.holds Tryd.pinned (OpenSpec.upto shaInputsSpec)

/-- 'voussoirlaw01.ShaApart', WHERE WHAT IT READS IS OF BULK AT MOST 1048576: true; the input reads as it did. -/
def shaApartUptoRow : OpenClaim := { program := "ytkhhhdjpkhnmkaadoor", sum := "7803fca926700c8de852baf0ac1993bf848a611d2e997c90e79a7d8045bb765a", func := "voussoir/voussoirlaw01.ShaApart", spec := "shaApart", inPlace := ["internal/abi.NoEscape"], named := ["voussoir/sha.first", "voussoir/sha.k"], apart := false, laid := [("voussoir/sha.k", laid_voussoir_sha_k), ("voussoir/sha.first", laid_voussoir_sha_first)], narrowed := true }
def ShaApartUptoSaid : Prop := shaApartUptoRow.holds Tryd.pinned (OpenSpec.upto shaApartSpec)

/-- 'voussoirlaw01.ShaTells', WHERE WHAT IT READS IS OF BULK AT MOST 1048576: true; the input reads as it did. -/
def shaTellsUptoRow : OpenClaim := { program := "ytkhhhdjpkhnmkaadoor", sum := "7803fca926700c8de852baf0ac1993bf848a611d2e997c90e79a7d8045bb765a", func := "voussoir/voussoirlaw01.ShaTells", spec := "shaTells", inPlace := ["internal/abi.NoEscape"], named := ["voussoir/sha.first", "voussoir/sha.k", "voussoir/voussoirref01.first", "voussoir/voussoirref01.k"], apart := false, laid := [("voussoir/voussoirref01.k", laid_voussoir_voussoirref01_k), ("voussoir/voussoirref01.first", laid_voussoir_voussoirref01_first), ("voussoir/sha.k", laid_voussoir_sha_k), ("voussoir/sha.first", laid_voussoir_sha_first)], narrowed := true }
def ShaTellsUptoSaid : Prop := shaTellsUptoRow.holds Tryd.pinned (OpenSpec.upto shaTellsSpec)

end Rows
end Go.Proofs.YtkhhhdjpkhnmkaaDoor
