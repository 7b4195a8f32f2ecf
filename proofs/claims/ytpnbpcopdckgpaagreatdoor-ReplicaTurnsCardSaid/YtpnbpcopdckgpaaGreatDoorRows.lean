/-
  NARROWER THAN 'FOR EVERY INPUT', by the rows' own cells (each row's printed sentence says how): ReplicaTells: laid · ReplicaLeads: laid · ReplicaIDs: laid · ReplicaTurns: laid · ReplicaGoes: laid · ReplicaRefuses: laid · ReplicaOnce: laid.
  DERIVED. THE GIVEN ROWS OF THIS SEAT. 7 by the template 'for every input the law returns true; each argument reads behind the call as it read before'; 0 by the template 'total and deterministic' (their statements: YtpnbpcopdckgpaaGreatDoorTotals.lean).
  GIVEN WITH THE SEED: the statements are not yours to turn. If you find one false, say at which input.
  Laid BY PROGRAM, IN A SANDBOX (cutbox-rows.mjs): the forced cells as the released guide's own fill.sh prints them over the translation 0772e6bdffe018df… (all of the seat's roots in one cut). By AI agents, Wed Nov 11 2026. No macro, syntax, notation, axiom, sorry.
-/
import Derived.Test.YtpnbpcopdckgpaaGreatDoorChecked
import GoSem.Claim
import GoSem.ClaimJoined
import GoSem.ClaimMapViews
import Derived.JoinedTies
import Derived.KernelRfl
namespace Go.Proofs.YtpnbpcopdckgpaaGreatDoor
/- THE CELL 'sum', in the pinned program and in every row, IS THE sha256 OF THE DUMP (.gsa) THAT YtpnbpcopdckgpaaGreatDoorProg.lean LOADS. Nothing in Lean hashes anything: it is a label: what it is worth is what the hold of that sum in a sandbox is worth. -/
noncomputable def Tryz.pinned : Pinned := { name := "ytpnbpcopdckgpaagreatdoor", sum := "0772e6bdffe018df99724bf63cad99c1b4c7c39f4725a3d583f539349f2db3a7", checked := Tryz.checked }
namespace Rows
def none {H : Type} : Left H := { results := [], args := [] }

/- WHAT THE LISTED PACKAGE-LEVEL VARIABLES READ AS WHEN THE CALL BEGINS. Each datum BY PROGRAM (the guide's laid-datum.mjs) off the statement by which the dump's own 'gosem.cut.vars' lays the variable. In a bare row this is a premise. The card (YtpnbpcopdckgpaaGreatDoorCards.lean) ties it to the program's text. -/
def laid_voussoir_voussoirref01_k {H : Type} : DataW H := .agg [.lit (.int .u32 1116352408), .lit (.int .u32 1899447441), .lit (.int .u32 3049323471), .lit (.int .u32 3921009573), .lit (.int .u32 961987163), .lit (.int .u32 1508970993), .lit (.int .u32 2453635748), .lit (.int .u32 2870763221), .lit (.int .u32 3624381080), .lit (.int .u32 310598401), .lit (.int .u32 607225278), .lit (.int .u32 1426881987), .lit (.int .u32 1925078388), .lit (.int .u32 2162078206), .lit (.int .u32 2614888103), .lit (.int .u32 3248222580), .lit (.int .u32 3835390401), .lit (.int .u32 4022224774), .lit (.int .u32 264347078), .lit (.int .u32 604807628), .lit (.int .u32 770255983), .lit (.int .u32 1249150122), .lit (.int .u32 1555081692), .lit (.int .u32 1996064986), .lit (.int .u32 2554220882), .lit (.int .u32 2821834349), .lit (.int .u32 2952996808), .lit (.int .u32 3210313671), .lit (.int .u32 3336571891), .lit (.int .u32 3584528711), .lit (.int .u32 113926993), .lit (.int .u32 338241895), .lit (.int .u32 666307205), .lit (.int .u32 773529912), .lit (.int .u32 1294757372), .lit (.int .u32 1396182291), .lit (.int .u32 1695183700), .lit (.int .u32 1986661051), .lit (.int .u32 2177026350), .lit (.int .u32 2456956037), .lit (.int .u32 2730485921), .lit (.int .u32 2820302411), .lit (.int .u32 3259730800), .lit (.int .u32 3345764771), .lit (.int .u32 3516065817), .lit (.int .u32 3600352804), .lit (.int .u32 4094571909), .lit (.int .u32 275423344), .lit (.int .u32 430227734), .lit (.int .u32 506948616), .lit (.int .u32 659060556), .lit (.int .u32 883997877), .lit (.int .u32 958139571), .lit (.int .u32 1322822218), .lit (.int .u32 1537002063), .lit (.int .u32 1747873779), .lit (.int .u32 1955562222), .lit (.int .u32 2024104815), .lit (.int .u32 2227730452), .lit (.int .u32 2361852424), .lit (.int .u32 2428436474), .lit (.int .u32 2756734187), .lit (.int .u32 3204031479), .lit (.int .u32 3329325298)]
def laid_voussoir_voussoirref01_first {H : Type} : DataW H := .agg [.lit (.int .u32 1779033703), .lit (.int .u32 3144134277), .lit (.int .u32 1013904242), .lit (.int .u32 2773480762), .lit (.int .u32 1359893119), .lit (.int .u32 2600822924), .lit (.int .u32 528734635), .lit (.int .u32 1541459225)]
def laid_voussoir_sha_k {H : Type} : DataW H := .agg [.lit (.int .u32 1116352408), .lit (.int .u32 1899447441), .lit (.int .u32 3049323471), .lit (.int .u32 3921009573), .lit (.int .u32 961987163), .lit (.int .u32 1508970993), .lit (.int .u32 2453635748), .lit (.int .u32 2870763221), .lit (.int .u32 3624381080), .lit (.int .u32 310598401), .lit (.int .u32 607225278), .lit (.int .u32 1426881987), .lit (.int .u32 1925078388), .lit (.int .u32 2162078206), .lit (.int .u32 2614888103), .lit (.int .u32 3248222580), .lit (.int .u32 3835390401), .lit (.int .u32 4022224774), .lit (.int .u32 264347078), .lit (.int .u32 604807628), .lit (.int .u32 770255983), .lit (.int .u32 1249150122), .lit (.int .u32 1555081692), .lit (.int .u32 1996064986), .lit (.int .u32 2554220882), .lit (.int .u32 2821834349), .lit (.int .u32 2952996808), .lit (.int .u32 3210313671), .lit (.int .u32 3336571891), .lit (.int .u32 3584528711), .lit (.int .u32 113926993), .lit (.int .u32 338241895), .lit (.int .u32 666307205), .lit (.int .u32 773529912), .lit (.int .u32 1294757372), .lit (.int .u32 1396182291), .lit (.int .u32 1695183700), .lit (.int .u32 1986661051), .lit (.int .u32 2177026350), .lit (.int .u32 2456956037), .lit (.int .u32 2730485921), .lit (.int .u32 2820302411), .lit (.int .u32 3259730800), .lit (.int .u32 3345764771), .lit (.int .u32 3516065817), .lit (.int .u32 3600352804), .lit (.int .u32 4094571909), .lit (.int .u32 275423344), .lit (.int .u32 430227734), .lit (.int .u32 506948616), .lit (.int .u32 659060556), .lit (.int .u32 883997877), .lit (.int .u32 958139571), .lit (.int .u32 1322822218), .lit (.int .u32 1537002063), .lit (.int .u32 1747873779), .lit (.int .u32 1955562222), .lit (.int .u32 2024104815), .lit (.int .u32 2227730452), .lit (.int .u32 2361852424), .lit (.int .u32 2428436474), .lit (.int .u32 2756734187), .lit (.int .u32 3204031479), .lit (.int .u32 3329325298)]
def laid_voussoir_sha_first {H : Type} : DataW H := .agg [.lit (.int .u32 1779033703), .lit (.int .u32 3144134277), .lit (.int .u32 1013904242), .lit (.int .u32 2773480762), .lit (.int .u32 1359893119), .lit (.int .u32 2600822924), .lit (.int .u32 528734635), .lit (.int .u32 1541459225)]

/-- 'voussoirlaw14.ReplicaTells': WHATEVER THE INPUT: true; the input reads as it did. -/
def replicaTellsSpec : ChangeSpec := { name := "replicaTells", fn := fun _ => fun
  | [d1, d2, d3] => { results := [.lit (.bool true)], args := [d1, d2, d3] }
  | _ => none }
def replicaTellsRow : OpenClaim := { program := "ytpnbpcopdckgpaagreatdoor", sum := "0772e6bdffe018df99724bf63cad99c1b4c7c39f4725a3d583f539349f2db3a7", func := "voussoir/voussoirlaw14.ReplicaTells", spec := "replicaTells", inPlace := ["internal/abi.NoEscape", "internal/bytealg.MakeNoZero"], unfollowed := true, recurses := true, named := ["voussoir/voussoirref01.first", "voussoir/voussoirref01.k", "voussoir/sha.first", "voussoir/sha.k"], apart := false, laid := [("voussoir/voussoirref01.k", laid_voussoir_voussoirref01_k), ("voussoir/voussoirref01.first", laid_voussoir_voussoirref01_first), ("voussoir/sha.k", laid_voussoir_sha_k), ("voussoir/sha.first", laid_voussoir_sha_first)] }
def ReplicaTellsSaid : Prop := replicaTellsRow.holds Tryz.pinned (OpenSpec.ofChange replicaTellsSpec)

/-- ITS FALSE NEIGHBOUR: 'it returns false'. Refute it at one input. -/
def replicaTellsWrong : ChangeSpec := { name := "replicaTells", fn := fun _ => fun
  | [d1, d2, d3] => { results := [.lit (.bool false)], args := [d1, d2, d3] }
  | _ => none }
def ReplicaTellsWrongFalsely : Prop := replicaTellsRow.holds Tryz.pinned (OpenSpec.ofChange replicaTellsWrong)

/-- 'voussoirlaw14.ReplicaLeads': WHATEVER THE INPUT: true; the input reads as it did. -/
def replicaLeadsSpec : ChangeSpec := { name := "replicaLeads", fn := fun _ => fun
  | [d] => { results := [.lit (.bool true)], args := [d] }
  | _ => none }
def replicaLeadsRow : OpenClaim := { program := "ytpnbpcopdckgpaagreatdoor", sum := "0772e6bdffe018df99724bf63cad99c1b4c7c39f4725a3d583f539349f2db3a7", func := "voussoir/voussoirlaw14.ReplicaLeads", spec := "replicaLeads", inPlace := ["internal/abi.NoEscape", "internal/bytealg.MakeNoZero"], unfollowed := true, recurses := true, named := ["voussoir/voussoirref01.first", "voussoir/voussoirref01.k", "voussoir/sha.first", "voussoir/sha.k"], apart := false, laid := [("voussoir/voussoirref01.k", laid_voussoir_voussoirref01_k), ("voussoir/voussoirref01.first", laid_voussoir_voussoirref01_first), ("voussoir/sha.k", laid_voussoir_sha_k), ("voussoir/sha.first", laid_voussoir_sha_first)] }
def ReplicaLeadsSaid : Prop := replicaLeadsRow.holds Tryz.pinned (OpenSpec.ofChange replicaLeadsSpec)

/-- ITS FALSE NEIGHBOUR: 'it returns false'. Refute it at one input. -/
def replicaLeadsWrong : ChangeSpec := { name := "replicaLeads", fn := fun _ => fun
  | [d] => { results := [.lit (.bool false)], args := [d] }
  | _ => none }
def ReplicaLeadsWrongFalsely : Prop := replicaLeadsRow.holds Tryz.pinned (OpenSpec.ofChange replicaLeadsWrong)

/-- 'voussoirlaw14.ReplicaIDs': WHATEVER THE INPUT: true; the input reads as it did. -/
def replicaIDsSpec : ChangeSpec := { name := "replicaIDs", fn := fun _ => fun
  | [d1, d2, d3, d4, d5, d6] => { results := [.lit (.bool true)], args := [d1, d2, d3, d4, d5, d6] }
  | _ => none }
def replicaIDsRow : OpenClaim := { program := "ytpnbpcopdckgpaagreatdoor", sum := "0772e6bdffe018df99724bf63cad99c1b4c7c39f4725a3d583f539349f2db3a7", func := "voussoir/voussoirlaw14.ReplicaIDs", spec := "replicaIDs", inPlace := ["internal/abi.NoEscape", "internal/bytealg.MakeNoZero"], unfollowed := true, recurses := true, named := ["voussoir/voussoirref01.first", "voussoir/voussoirref01.k", "voussoir/sha.first", "voussoir/sha.k"], apart := false, laid := [("voussoir/voussoirref01.k", laid_voussoir_voussoirref01_k), ("voussoir/voussoirref01.first", laid_voussoir_voussoirref01_first), ("voussoir/sha.k", laid_voussoir_sha_k), ("voussoir/sha.first", laid_voussoir_sha_first)] }
def ReplicaIDsSaid : Prop := replicaIDsRow.holds Tryz.pinned (OpenSpec.ofChange replicaIDsSpec)

/-- ITS FALSE NEIGHBOUR: 'it returns false'. Refute it at one input. -/
def replicaIDsWrong : ChangeSpec := { name := "replicaIDs", fn := fun _ => fun
  | [d1, d2, d3, d4, d5, d6] => { results := [.lit (.bool false)], args := [d1, d2, d3, d4, d5, d6] }
  | _ => none }
def ReplicaIDsWrongFalsely : Prop := replicaIDsRow.holds Tryz.pinned (OpenSpec.ofChange replicaIDsWrong)

/-- 'voussoirlaw14.ReplicaTurns': WHATEVER THE INPUT: true; the input reads as it did. -/
def replicaTurnsSpec : ChangeSpec := { name := "replicaTurns", fn := fun _ => fun
  | [d1, d2] => { results := [.lit (.bool true)], args := [d1, d2] }
  | _ => none }
def replicaTurnsRow : OpenClaim := { program := "ytpnbpcopdckgpaagreatdoor", sum := "0772e6bdffe018df99724bf63cad99c1b4c7c39f4725a3d583f539349f2db3a7", func := "voussoir/voussoirlaw14.ReplicaTurns", spec := "replicaTurns", inPlace := ["internal/abi.NoEscape", "internal/bytealg.MakeNoZero"], unfollowed := true, recurses := true, named := ["voussoir/voussoirref01.first", "voussoir/voussoirref01.k", "voussoir/sha.first", "voussoir/sha.k"], apart := false, laid := [("voussoir/voussoirref01.k", laid_voussoir_voussoirref01_k), ("voussoir/voussoirref01.first", laid_voussoir_voussoirref01_first), ("voussoir/sha.k", laid_voussoir_sha_k), ("voussoir/sha.first", laid_voussoir_sha_first)] }
def ReplicaTurnsSaid : Prop := replicaTurnsRow.holds Tryz.pinned (OpenSpec.ofChange replicaTurnsSpec)

/-- ITS FALSE NEIGHBOUR: 'it returns false'. Refute it at one input. -/
def replicaTurnsWrong : ChangeSpec := { name := "replicaTurns", fn := fun _ => fun
  | [d1, d2] => { results := [.lit (.bool false)], args := [d1, d2] }
  | _ => none }
def ReplicaTurnsWrongFalsely : Prop := replicaTurnsRow.holds Tryz.pinned (OpenSpec.ofChange replicaTurnsWrong)

/-- 'voussoirlaw14.ReplicaGoes': WHATEVER THE INPUT: true; the input reads as it did. -/
def replicaGoesSpec : ChangeSpec := { name := "replicaGoes", fn := fun _ => fun
  | [d1, d2] => { results := [.lit (.bool true)], args := [d1, d2] }
  | _ => none }
def replicaGoesRow : OpenClaim := { program := "ytpnbpcopdckgpaagreatdoor", sum := "0772e6bdffe018df99724bf63cad99c1b4c7c39f4725a3d583f539349f2db3a7", func := "voussoir/voussoirlaw14.ReplicaGoes", spec := "replicaGoes", inPlace := ["internal/abi.NoEscape", "internal/bytealg.MakeNoZero"], unfollowed := true, recurses := true, named := ["voussoir/voussoirref01.first", "voussoir/voussoirref01.k", "voussoir/sha.first", "voussoir/sha.k"], apart := false, laid := [("voussoir/voussoirref01.k", laid_voussoir_voussoirref01_k), ("voussoir/voussoirref01.first", laid_voussoir_voussoirref01_first), ("voussoir/sha.k", laid_voussoir_sha_k), ("voussoir/sha.first", laid_voussoir_sha_first)] }
def ReplicaGoesSaid : Prop := replicaGoesRow.holds Tryz.pinned (OpenSpec.ofChange replicaGoesSpec)

/-- ITS FALSE NEIGHBOUR: 'it returns false'. Refute it at one input. -/
def replicaGoesWrong : ChangeSpec := { name := "replicaGoes", fn := fun _ => fun
  | [d1, d2] => { results := [.lit (.bool false)], args := [d1, d2] }
  | _ => none }
def ReplicaGoesWrongFalsely : Prop := replicaGoesRow.holds Tryz.pinned (OpenSpec.ofChange replicaGoesWrong)

/-- 'voussoirlaw14.ReplicaRefuses': WHATEVER THE INPUT: true; the input reads as it did. -/
def replicaRefusesSpec : ChangeSpec := { name := "replicaRefuses", fn := fun _ => fun
  | [d1, d2] => { results := [.lit (.bool true)], args := [d1, d2] }
  | _ => none }
def replicaRefusesRow : OpenClaim := { program := "ytpnbpcopdckgpaagreatdoor", sum := "0772e6bdffe018df99724bf63cad99c1b4c7c39f4725a3d583f539349f2db3a7", func := "voussoir/voussoirlaw14.ReplicaRefuses", spec := "replicaRefuses", inPlace := ["internal/abi.NoEscape", "internal/bytealg.MakeNoZero"], unfollowed := true, recurses := true, named := ["voussoir/voussoirref01.first", "voussoir/voussoirref01.k", "voussoir/sha.first", "voussoir/sha.k"], apart := false, laid := [("voussoir/voussoirref01.k", laid_voussoir_voussoirref01_k), ("voussoir/voussoirref01.first", laid_voussoir_voussoirref01_first), ("voussoir/sha.k", laid_voussoir_sha_k), ("voussoir/sha.first", laid_voussoir_sha_first)] }
def ReplicaRefusesSaid : Prop := replicaRefusesRow.holds Tryz.pinned (OpenSpec.ofChange replicaRefusesSpec)

/-- ITS FALSE NEIGHBOUR: 'it returns false'. Refute it at one input. -/
def replicaRefusesWrong : ChangeSpec := { name := "replicaRefuses", fn := fun _ => fun
  | [d1, d2] => { results := [.lit (.bool false)], args := [d1, d2] }
  | _ => none }
def ReplicaRefusesWrongFalsely : Prop := replicaRefusesRow.holds Tryz.pinned (OpenSpec.ofChange replicaRefusesWrong)

/-- 'voussoirlaw14.ReplicaOnce': WHATEVER THE INPUT: true; the input reads as it did. -/
def replicaOnceSpec : ChangeSpec := { name := "replicaOnce", fn := fun _ => fun
  | [d] => { results := [.lit (.bool true)], args := [d] }
  | _ => none }
def replicaOnceRow : OpenClaim := { program := "ytpnbpcopdckgpaagreatdoor", sum := "0772e6bdffe018df99724bf63cad99c1b4c7c39f4725a3d583f539349f2db3a7", func := "voussoir/voussoirlaw14.ReplicaOnce", spec := "replicaOnce", inPlace := ["internal/abi.NoEscape", "internal/bytealg.MakeNoZero"], unfollowed := true, recurses := true, named := ["voussoir/voussoirref01.first", "voussoir/voussoirref01.k", "voussoir/sha.first", "voussoir/sha.k"], apart := false, laid := [("voussoir/voussoirref01.k", laid_voussoir_voussoirref01_k), ("voussoir/voussoirref01.first", laid_voussoir_voussoirref01_first), ("voussoir/sha.k", laid_voussoir_sha_k), ("voussoir/sha.first", laid_voussoir_sha_first)] }
def ReplicaOnceSaid : Prop := replicaOnceRow.holds Tryz.pinned (OpenSpec.ofChange replicaOnceSpec)

/-- ITS FALSE NEIGHBOUR: 'it returns false'. Refute it at one input. -/
def replicaOnceWrong : ChangeSpec := { name := "replicaOnce", fn := fun _ => fun
  | [d] => { results := [.lit (.bool false)], args := [d] }
  | _ => none }
def ReplicaOnceWrongFalsely : Prop := replicaOnceRow.holds Tryz.pinned (OpenSpec.ofChange replicaOnceWrong)

/- THE SECOND FORM. 'bulk': how many values and letters a reading holds, each counted each time it is reached (what is shared counts as often as it is met; a slice's spare places count too). A statement '..UptoSaid' is the law's where the arguments, and the package variables that the reading takes, are together of bulk at most 1048576: NARROWER than '..Said'. Prove '..Said' where nothing that the law and all that it calls make is longer than what came in: it says more and counts as full. Else prove '..UptoSaid'. A law counts once. -/
mutual
def uptoBulk {H : Type} : DataW H → Nat
  | .lit (.string bytes) => bytes.length + 1
  | .lit _ => 1
  | .nil => 1
  | .ptr d => uptoBulk d + 1
  | .slice elems spare => uptoBulkAll elems + uptoBulkAll spare + 1
  | .agg parts => uptoBulkAll parts + 1
  | .iface _ d => uptoBulk d + 1
  | .map entries => uptoBulkEntries entries + 1
  | .held _ => 1
def uptoBulkAll {H : Type} : List (DataW H) → Nat
  | [] => 0
  | d :: r => uptoBulk d + uptoBulkAll r
def uptoBulkEntries {H : Type} : List (Lit × DataW H) → Nat
  | [] => 0
  | x :: r => uptoBulkEntry x + uptoBulkEntries r
def uptoBulkEntry {H : Type} : Lit × DataW H → Nat
  | (.string bytes, d) => bytes.length + uptoBulk d + 1
  | (_, d) => uptoBulk d + 1
 end
def uptoSmall : (H : Type) → List (DataW H) → Bool := fun _ ds => decide (uptoBulkAll ds ≤ 1048576)
def OpenSpec.upto (s : _root_.Go.ChangeSpec) : _root_.Go.OpenSpec := { _root_.Go.OpenSpec.ofChange s with cond := some uptoSmall }

/-- 'voussoirlaw14.ReplicaTells', WHERE WHAT IT READS IS OF BULK AT MOST 1048576: true; the input reads as it did. -/
def replicaTellsUptoRow : OpenClaim := { program := "ytpnbpcopdckgpaagreatdoor", sum := "0772e6bdffe018df99724bf63cad99c1b4c7c39f4725a3d583f539349f2db3a7", func := "voussoir/voussoirlaw14.ReplicaTells", spec := "replicaTells", inPlace := ["internal/abi.NoEscape", "internal/bytealg.MakeNoZero"], unfollowed := true, recurses := true, named := ["voussoir/voussoirref01.first", "voussoir/voussoirref01.k", "voussoir/sha.first", "voussoir/sha.k"], apart := false, laid := [("voussoir/voussoirref01.k", laid_voussoir_voussoirref01_k), ("voussoir/voussoirref01.first", laid_voussoir_voussoirref01_first), ("voussoir/sha.k", laid_voussoir_sha_k), ("voussoir/sha.first", laid_voussoir_sha_first)], narrowed := true }
def ReplicaTellsUptoSaid : Prop := replicaTellsUptoRow.holds Tryz.pinned (OpenSpec.upto replicaTellsSpec)

/-- 'voussoirlaw14.ReplicaLeads', WHERE WHAT IT READS IS OF BULK AT MOST 1048576: true; the input reads as it did. -/
def replicaLeadsUptoRow : OpenClaim := { program := "ytpnbpcopdckgpaagreatdoor", sum := "0772e6bdffe018df99724bf63cad99c1b4c7c39f4725a3d583f539349f2db3a7", func := "voussoir/voussoirlaw14.ReplicaLeads", spec := "replicaLeads", inPlace := ["internal/abi.NoEscape", "internal/bytealg.MakeNoZero"], unfollowed := true, recurses := true, named := ["voussoir/voussoirref01.first", "voussoir/voussoirref01.k", "voussoir/sha.first", "voussoir/sha.k"], apart := false, laid := [("voussoir/voussoirref01.k", laid_voussoir_voussoirref01_k), ("voussoir/voussoirref01.first", laid_voussoir_voussoirref01_first), ("voussoir/sha.k", laid_voussoir_sha_k), ("voussoir/sha.first", laid_voussoir_sha_first)], narrowed := true }
def ReplicaLeadsUptoSaid : Prop := replicaLeadsUptoRow.holds Tryz.pinned (OpenSpec.upto replicaLeadsSpec)

/-- 'voussoirlaw14.ReplicaIDs', WHERE WHAT IT READS IS OF BULK AT MOST 1048576: true; the input reads as it did. -/
def replicaIDsUptoRow : OpenClaim := { program := "ytpnbpcopdckgpaagreatdoor", sum := "0772e6bdffe018df99724bf63cad99c1b4c7c39f4725a3d583f539349f2db3a7", func := "voussoir/voussoirlaw14.ReplicaIDs", spec := "replicaIDs", inPlace := ["internal/abi.NoEscape", "internal/bytealg.MakeNoZero"], unfollowed := true, recurses := true, named := ["voussoir/voussoirref01.first", "voussoir/voussoirref01.k", "voussoir/sha.first", "voussoir/sha.k"], apart := false, laid := [("voussoir/voussoirref01.k", laid_voussoir_voussoirref01_k), ("voussoir/voussoirref01.first", laid_voussoir_voussoirref01_first), ("voussoir/sha.k", laid_voussoir_sha_k), ("voussoir/sha.first", laid_voussoir_sha_first)], narrowed := true }
def ReplicaIDsUptoSaid : Prop := replicaIDsUptoRow.holds Tryz.pinned (OpenSpec.upto replicaIDsSpec)

/-- 'voussoirlaw14.ReplicaTurns', WHERE WHAT IT READS IS OF BULK AT MOST 1048576: true; the input reads as it did. -/
def replicaTurnsUptoRow : OpenClaim := { program := "ytpnbpcopdckgpaagreatdoor", sum := "0772e6bdffe018df99724bf63cad99c1b4c7c39f4725a3d583f539349f2db3a7", func := "voussoir/voussoirlaw14.ReplicaTurns", spec := "replicaTurns", inPlace := ["internal/abi.NoEscape", "internal/bytealg.MakeNoZero"], unfollowed := true, recurses := true, named := ["voussoir/voussoirref01.first", "voussoir/voussoirref01.k", "voussoir/sha.first", "voussoir/sha.k"], apart := false, laid := [("voussoir/voussoirref01.k", laid_voussoir_voussoirref01_k), ("voussoir/voussoirref01.first", laid_voussoir_voussoirref01_first), ("voussoir/sha.k", laid_voussoir_sha_k), ("voussoir/sha.first", laid_voussoir_sha_first)], narrowed := true }
def ReplicaTurnsUptoSaid : Prop := replicaTurnsUptoRow.holds Tryz.pinned (OpenSpec.upto replicaTurnsSpec)

/-- 'voussoirlaw14.ReplicaGoes', WHERE WHAT IT READS IS OF BULK AT MOST 1048576: true; the input reads as it did. -/
def replicaGoesUptoRow : OpenClaim := { program := "ytpnbpcopdckgpaagreatdoor", sum := "0772e6bdffe018df99724bf63cad99c1b4c7c39f4725a3d583f539349f2db3a7", func := "voussoir/voussoirlaw14.ReplicaGoes", spec := "replicaGoes", inPlace := ["internal/abi.NoEscape", "internal/bytealg.MakeNoZero"], unfollowed := true, recurses := true, named := ["voussoir/voussoirref01.first", "voussoir/voussoirref01.k", "voussoir/sha.first", "voussoir/sha.k"], apart := false, laid := [("voussoir/voussoirref01.k", laid_voussoir_voussoirref01_k), ("voussoir/voussoirref01.first", laid_voussoir_voussoirref01_first), ("voussoir/sha.k", laid_voussoir_sha_k), ("voussoir/sha.first", laid_voussoir_sha_first)], narrowed := true }
def ReplicaGoesUptoSaid : Prop := replicaGoesUptoRow.holds Tryz.pinned (OpenSpec.upto replicaGoesSpec)

/-- 'voussoirlaw14.ReplicaRefuses', WHERE WHAT IT READS IS OF BULK AT MOST 1048576: true; the input reads as it did. -/
def replicaRefusesUptoRow : OpenClaim := { program := "ytpnbpcopdckgpaagreatdoor", sum := "0772e6bdffe018df99724bf63cad99c1b4c7c39f4725a3d583f539349f2db3a7", func := "voussoir/voussoirlaw14.ReplicaRefuses", spec := "replicaRefuses", inPlace := ["internal/abi.NoEscape", "internal/bytealg.MakeNoZero"], unfollowed := true, recurses := true, named := ["voussoir/voussoirref01.first", "voussoir/voussoirref01.k", "voussoir/sha.first", "voussoir/sha.k"], apart := false, laid := [("voussoir/voussoirref01.k", laid_voussoir_voussoirref01_k), ("voussoir/voussoirref01.first", laid_voussoir_voussoirref01_first), ("voussoir/sha.k", laid_voussoir_sha_k), ("voussoir/sha.first", laid_voussoir_sha_first)], narrowed := true }
def ReplicaRefusesUptoSaid : Prop := replicaRefusesUptoRow.holds Tryz.pinned (OpenSpec.upto replicaRefusesSpec)

/-- 'voussoirlaw14.ReplicaOnce', WHERE WHAT IT READS IS OF BULK AT MOST 1048576: true; the input reads as it did. -/
def replicaOnceUptoRow : OpenClaim := { program := "ytpnbpcopdckgpaagreatdoor", sum := "0772e6bdffe018df99724bf63cad99c1b4c7c39f4725a3d583f539349f2db3a7", func := "voussoir/voussoirlaw14.ReplicaOnce", spec := "replicaOnce", inPlace := ["internal/abi.NoEscape", "internal/bytealg.MakeNoZero"], unfollowed := true, recurses := true, named := ["voussoir/voussoirref01.first", "voussoir/voussoirref01.k", "voussoir/sha.first", "voussoir/sha.k"], apart := false, laid := [("voussoir/voussoirref01.k", laid_voussoir_voussoirref01_k), ("voussoir/voussoirref01.first", laid_voussoir_voussoirref01_first), ("voussoir/sha.k", laid_voussoir_sha_k), ("voussoir/sha.first", laid_voussoir_sha_first)], narrowed := true }
def ReplicaOnceUptoSaid : Prop := replicaOnceUptoRow.holds Tryz.pinned (OpenSpec.upto replicaOnceSpec)

end Rows
end Go.Proofs.YtpnbpcopdckgpaaGreatDoor
