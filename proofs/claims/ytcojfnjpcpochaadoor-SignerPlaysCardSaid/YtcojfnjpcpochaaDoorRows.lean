/-
  NARROWER THAN 'FOR EVERY INPUT', by the rows' own cells (each row's printed sentence says how): SignerPlays: laid · SignerBack: laid · SignerGoes: laid · SignerWhole: laid · SignerKeys: laid · SignerEnds: laid.
  DERIVED. THE GIVEN ROWS OF THIS SEAT. 6 by the template 'for every input the law returns true; each argument reads behind the call as it read before'; 0 by the template 'total and deterministic' (their statements: YtcojfnjpcpochaaDoorTotals.lean).
  GIVEN WITH THE SEED: the statements are not yours to turn. If you find one false, say at which input.
  Laid BY PROGRAM, IN A SANDBOX (cutbox-rows.mjs): the forced cells as the released guide's own fill.sh prints them over the translation a99a360f90035f20… (all of the seat's roots in one cut). By AI agents, Wed Nov 11 2026. No macro, syntax, notation, axiom, sorry.
-/
import Derived.Test.YtcojfnjpcpochaaDoorChecked
import GoSem.Claim
import GoSem.ClaimJoined
import GoSem.ClaimMapViews
import Derived.JoinedTies
import Derived.KernelRfl
namespace Go.Proofs.YtcojfnjpcpochaaDoor
/- THE CELL 'sum', in the pinned program and in every row, IS THE sha256 OF THE DUMP (.gsa) THAT YtcojfnjpcpochaaDoorProg.lean LOADS. Nothing in Lean hashes anything: it is a label: what it is worth is what the hold of that sum in a sandbox is worth. -/
noncomputable def Tryd.pinned : Pinned := { name := "ytcojfnjpcpochaadoor", sum := "a99a360f90035f20652f9114192c969db48da0b4e00f67f167ef65b28cb1e0c9", checked := Tryd.checked }
namespace Rows
def none {H : Type} : Left H := { results := [], args := [] }

/- WHAT THE LISTED PACKAGE-LEVEL VARIABLES READ AS WHEN THE CALL BEGINS. Each datum BY PROGRAM (the guide's laid-datum.mjs) off the statement by which the dump's own 'gosem.cut.vars' lays the variable. In a bare row this is a premise. The card (YtcojfnjpcpochaaDoorCards.lean) ties it to the program's text. -/
def laid_voussoir_voussoirref01_k {H : Type} : DataW H := .agg [.lit (.int .u32 1116352408), .lit (.int .u32 1899447441), .lit (.int .u32 3049323471), .lit (.int .u32 3921009573), .lit (.int .u32 961987163), .lit (.int .u32 1508970993), .lit (.int .u32 2453635748), .lit (.int .u32 2870763221), .lit (.int .u32 3624381080), .lit (.int .u32 310598401), .lit (.int .u32 607225278), .lit (.int .u32 1426881987), .lit (.int .u32 1925078388), .lit (.int .u32 2162078206), .lit (.int .u32 2614888103), .lit (.int .u32 3248222580), .lit (.int .u32 3835390401), .lit (.int .u32 4022224774), .lit (.int .u32 264347078), .lit (.int .u32 604807628), .lit (.int .u32 770255983), .lit (.int .u32 1249150122), .lit (.int .u32 1555081692), .lit (.int .u32 1996064986), .lit (.int .u32 2554220882), .lit (.int .u32 2821834349), .lit (.int .u32 2952996808), .lit (.int .u32 3210313671), .lit (.int .u32 3336571891), .lit (.int .u32 3584528711), .lit (.int .u32 113926993), .lit (.int .u32 338241895), .lit (.int .u32 666307205), .lit (.int .u32 773529912), .lit (.int .u32 1294757372), .lit (.int .u32 1396182291), .lit (.int .u32 1695183700), .lit (.int .u32 1986661051), .lit (.int .u32 2177026350), .lit (.int .u32 2456956037), .lit (.int .u32 2730485921), .lit (.int .u32 2820302411), .lit (.int .u32 3259730800), .lit (.int .u32 3345764771), .lit (.int .u32 3516065817), .lit (.int .u32 3600352804), .lit (.int .u32 4094571909), .lit (.int .u32 275423344), .lit (.int .u32 430227734), .lit (.int .u32 506948616), .lit (.int .u32 659060556), .lit (.int .u32 883997877), .lit (.int .u32 958139571), .lit (.int .u32 1322822218), .lit (.int .u32 1537002063), .lit (.int .u32 1747873779), .lit (.int .u32 1955562222), .lit (.int .u32 2024104815), .lit (.int .u32 2227730452), .lit (.int .u32 2361852424), .lit (.int .u32 2428436474), .lit (.int .u32 2756734187), .lit (.int .u32 3204031479), .lit (.int .u32 3329325298)]
def laid_voussoir_voussoirref01_first {H : Type} : DataW H := .agg [.lit (.int .u32 1779033703), .lit (.int .u32 3144134277), .lit (.int .u32 1013904242), .lit (.int .u32 2773480762), .lit (.int .u32 1359893119), .lit (.int .u32 2600822924), .lit (.int .u32 528734635), .lit (.int .u32 1541459225)]
def laid_voussoir_sha_k {H : Type} : DataW H := .agg [.lit (.int .u32 1116352408), .lit (.int .u32 1899447441), .lit (.int .u32 3049323471), .lit (.int .u32 3921009573), .lit (.int .u32 961987163), .lit (.int .u32 1508970993), .lit (.int .u32 2453635748), .lit (.int .u32 2870763221), .lit (.int .u32 3624381080), .lit (.int .u32 310598401), .lit (.int .u32 607225278), .lit (.int .u32 1426881987), .lit (.int .u32 1925078388), .lit (.int .u32 2162078206), .lit (.int .u32 2614888103), .lit (.int .u32 3248222580), .lit (.int .u32 3835390401), .lit (.int .u32 4022224774), .lit (.int .u32 264347078), .lit (.int .u32 604807628), .lit (.int .u32 770255983), .lit (.int .u32 1249150122), .lit (.int .u32 1555081692), .lit (.int .u32 1996064986), .lit (.int .u32 2554220882), .lit (.int .u32 2821834349), .lit (.int .u32 2952996808), .lit (.int .u32 3210313671), .lit (.int .u32 3336571891), .lit (.int .u32 3584528711), .lit (.int .u32 113926993), .lit (.int .u32 338241895), .lit (.int .u32 666307205), .lit (.int .u32 773529912), .lit (.int .u32 1294757372), .lit (.int .u32 1396182291), .lit (.int .u32 1695183700), .lit (.int .u32 1986661051), .lit (.int .u32 2177026350), .lit (.int .u32 2456956037), .lit (.int .u32 2730485921), .lit (.int .u32 2820302411), .lit (.int .u32 3259730800), .lit (.int .u32 3345764771), .lit (.int .u32 3516065817), .lit (.int .u32 3600352804), .lit (.int .u32 4094571909), .lit (.int .u32 275423344), .lit (.int .u32 430227734), .lit (.int .u32 506948616), .lit (.int .u32 659060556), .lit (.int .u32 883997877), .lit (.int .u32 958139571), .lit (.int .u32 1322822218), .lit (.int .u32 1537002063), .lit (.int .u32 1747873779), .lit (.int .u32 1955562222), .lit (.int .u32 2024104815), .lit (.int .u32 2227730452), .lit (.int .u32 2361852424), .lit (.int .u32 2428436474), .lit (.int .u32 2756734187), .lit (.int .u32 3204031479), .lit (.int .u32 3329325298)]
def laid_voussoir_sha_first {H : Type} : DataW H := .agg [.lit (.int .u32 1779033703), .lit (.int .u32 3144134277), .lit (.int .u32 1013904242), .lit (.int .u32 2773480762), .lit (.int .u32 1359893119), .lit (.int .u32 2600822924), .lit (.int .u32 528734635), .lit (.int .u32 1541459225)]

/-- 'voussoirlaw07.SignerPlays': WHATEVER THE INPUT: true; the input reads as it did. -/
def signerPlaysSpec : ChangeSpec := { name := "signerPlays", fn := fun _ => fun
  | [d1, d2, d3, d4] => { results := [.lit (.bool true)], args := [d1, d2, d3, d4] }
  | _ => none }
def signerPlaysRow : OpenClaim := { program := "ytcojfnjpcpochaadoor", sum := "a99a360f90035f20652f9114192c969db48da0b4e00f67f167ef65b28cb1e0c9", func := "voussoir/voussoirlaw07.SignerPlays", spec := "signerPlays", inPlace := ["internal/abi.NoEscape"], unfollowed := true, recurses := true, named := ["voussoir/sha.first", "voussoir/sha.k", "voussoir/voussoirref01.first", "voussoir/voussoirref01.k"], apart := false, laid := [("voussoir/voussoirref01.k", laid_voussoir_voussoirref01_k), ("voussoir/voussoirref01.first", laid_voussoir_voussoirref01_first), ("voussoir/sha.k", laid_voussoir_sha_k), ("voussoir/sha.first", laid_voussoir_sha_first)] }
def SignerPlaysSaid : Prop := signerPlaysRow.holds Tryd.pinned (OpenSpec.ofChange signerPlaysSpec)

/-- ITS FALSE NEIGHBOUR: 'it returns false'. Refute it at one input. -/
def signerPlaysWrong : ChangeSpec := { name := "signerPlays", fn := fun _ => fun
  | [d1, d2, d3, d4] => { results := [.lit (.bool false)], args := [d1, d2, d3, d4] }
  | _ => none }
def SignerPlaysWrongFalsely : Prop := signerPlaysRow.holds Tryd.pinned (OpenSpec.ofChange signerPlaysWrong)

/-- 'voussoirlaw07.SignerBack': WHATEVER THE INPUT: true; the input reads as it did. -/
def signerBackSpec : ChangeSpec := { name := "signerBack", fn := fun _ => fun
  | [d1, d2, d3] => { results := [.lit (.bool true)], args := [d1, d2, d3] }
  | _ => none }
def signerBackRow : OpenClaim := { program := "ytcojfnjpcpochaadoor", sum := "a99a360f90035f20652f9114192c969db48da0b4e00f67f167ef65b28cb1e0c9", func := "voussoir/voussoirlaw07.SignerBack", spec := "signerBack", inPlace := ["internal/abi.NoEscape"], unfollowed := true, recurses := true, named := ["voussoir/sha.first", "voussoir/sha.k"], apart := false, laid := [("voussoir/sha.k", laid_voussoir_sha_k), ("voussoir/sha.first", laid_voussoir_sha_first)] }
def SignerBackSaid : Prop := signerBackRow.holds Tryd.pinned (OpenSpec.ofChange signerBackSpec)

/-- ITS FALSE NEIGHBOUR: 'it returns false'. Refute it at one input. -/
def signerBackWrong : ChangeSpec := { name := "signerBack", fn := fun _ => fun
  | [d1, d2, d3] => { results := [.lit (.bool false)], args := [d1, d2, d3] }
  | _ => none }
def SignerBackWrongFalsely : Prop := signerBackRow.holds Tryd.pinned (OpenSpec.ofChange signerBackWrong)

/-- 'voussoirlaw07.SignerGoes': WHATEVER THE INPUT: true; the input reads as it did. -/
def signerGoesSpec : ChangeSpec := { name := "signerGoes", fn := fun _ => fun
  | [d1, d2, d3, d4] => { results := [.lit (.bool true)], args := [d1, d2, d3, d4] }
  | _ => none }
def signerGoesRow : OpenClaim := { program := "ytcojfnjpcpochaadoor", sum := "a99a360f90035f20652f9114192c969db48da0b4e00f67f167ef65b28cb1e0c9", func := "voussoir/voussoirlaw07.SignerGoes", spec := "signerGoes", inPlace := ["internal/abi.NoEscape"], unfollowed := true, recurses := true, named := ["voussoir/sha.first", "voussoir/sha.k"], apart := false, laid := [("voussoir/sha.k", laid_voussoir_sha_k), ("voussoir/sha.first", laid_voussoir_sha_first)] }
def SignerGoesSaid : Prop := signerGoesRow.holds Tryd.pinned (OpenSpec.ofChange signerGoesSpec)

/-- ITS FALSE NEIGHBOUR: 'it returns false'. Refute it at one input. -/
def signerGoesWrong : ChangeSpec := { name := "signerGoes", fn := fun _ => fun
  | [d1, d2, d3, d4] => { results := [.lit (.bool false)], args := [d1, d2, d3, d4] }
  | _ => none }
def SignerGoesWrongFalsely : Prop := signerGoesRow.holds Tryd.pinned (OpenSpec.ofChange signerGoesWrong)

/-- 'voussoirlaw07.SignerWhole': WHATEVER THE INPUT: true; the input reads as it did. -/
def signerWholeSpec : ChangeSpec := { name := "signerWhole", fn := fun _ => fun
  | [d1, d2, d3, d4] => { results := [.lit (.bool true)], args := [d1, d2, d3, d4] }
  | _ => none }
def signerWholeRow : OpenClaim := { program := "ytcojfnjpcpochaadoor", sum := "a99a360f90035f20652f9114192c969db48da0b4e00f67f167ef65b28cb1e0c9", func := "voussoir/voussoirlaw07.SignerWhole", spec := "signerWhole", inPlace := ["internal/abi.NoEscape"], unfollowed := true, recurses := true, named := ["voussoir/sha.first", "voussoir/sha.k"], apart := false, laid := [("voussoir/sha.k", laid_voussoir_sha_k), ("voussoir/sha.first", laid_voussoir_sha_first)] }
def SignerWholeSaid : Prop := signerWholeRow.holds Tryd.pinned (OpenSpec.ofChange signerWholeSpec)

/-- ITS FALSE NEIGHBOUR: 'it returns false'. Refute it at one input. -/
def signerWholeWrong : ChangeSpec := { name := "signerWhole", fn := fun _ => fun
  | [d1, d2, d3, d4] => { results := [.lit (.bool false)], args := [d1, d2, d3, d4] }
  | _ => none }
def SignerWholeWrongFalsely : Prop := signerWholeRow.holds Tryd.pinned (OpenSpec.ofChange signerWholeWrong)

/-- 'voussoirlaw07.SignerKeys': WHATEVER THE INPUT: true; the input reads as it did. -/
def signerKeysSpec : ChangeSpec := { name := "signerKeys", fn := fun _ => fun
  | [d1, d2, d3, d4] => { results := [.lit (.bool true)], args := [d1, d2, d3, d4] }
  | _ => none }
def signerKeysRow : OpenClaim := { program := "ytcojfnjpcpochaadoor", sum := "a99a360f90035f20652f9114192c969db48da0b4e00f67f167ef65b28cb1e0c9", func := "voussoir/voussoirlaw07.SignerKeys", spec := "signerKeys", inPlace := ["internal/abi.NoEscape"], unfollowed := true, recurses := true, named := ["voussoir/sha.first", "voussoir/sha.k"], apart := false, laid := [("voussoir/sha.k", laid_voussoir_sha_k), ("voussoir/sha.first", laid_voussoir_sha_first)] }
def SignerKeysSaid : Prop := signerKeysRow.holds Tryd.pinned (OpenSpec.ofChange signerKeysSpec)

/-- ITS FALSE NEIGHBOUR: 'it returns false'. Refute it at one input. -/
def signerKeysWrong : ChangeSpec := { name := "signerKeys", fn := fun _ => fun
  | [d1, d2, d3, d4] => { results := [.lit (.bool false)], args := [d1, d2, d3, d4] }
  | _ => none }
def SignerKeysWrongFalsely : Prop := signerKeysRow.holds Tryd.pinned (OpenSpec.ofChange signerKeysWrong)

/-- 'voussoirlaw07.SignerEnds': WHATEVER THE INPUT: true; the input reads as it did. -/
def signerEndsSpec : ChangeSpec := { name := "signerEnds", fn := fun _ => fun
  | [d1, d2, d3, d4] => { results := [.lit (.bool true)], args := [d1, d2, d3, d4] }
  | _ => none }
def signerEndsRow : OpenClaim := { program := "ytcojfnjpcpochaadoor", sum := "a99a360f90035f20652f9114192c969db48da0b4e00f67f167ef65b28cb1e0c9", func := "voussoir/voussoirlaw07.SignerEnds", spec := "signerEnds", inPlace := ["internal/abi.NoEscape"], unfollowed := true, recurses := true, named := ["voussoir/sha.first", "voussoir/sha.k"], apart := false, laid := [("voussoir/sha.k", laid_voussoir_sha_k), ("voussoir/sha.first", laid_voussoir_sha_first)] }
def SignerEndsSaid : Prop := signerEndsRow.holds Tryd.pinned (OpenSpec.ofChange signerEndsSpec)

/-- ITS FALSE NEIGHBOUR: 'it returns false'. Refute it at one input. -/
def signerEndsWrong : ChangeSpec := { name := "signerEnds", fn := fun _ => fun
  | [d1, d2, d3, d4] => { results := [.lit (.bool false)], args := [d1, d2, d3, d4] }
  | _ => none }
def SignerEndsWrongFalsely : Prop := signerEndsRow.holds Tryd.pinned (OpenSpec.ofChange signerEndsWrong)

/- THE SECOND FORM. 'bulk': how many values and letters a reading holds, each counted each time it is reached (what is shared counts as often as it is met; a slice's spare places count too). A statement '..UptoSaid' is the law's where the arguments, and the package variables that the reading takes, are together of bulk at most 1048576: NARROWER than '..Said'. Prove '..Said' where nothing that the law and all that it calls make is longer than what came in: it says more and counts as full. Else prove '..UptoSaid'. A law counts once. -/
mutual
def uptoBulk {H : Type} : DataW H → Nat
  | .lit (.string bytes) => bytes.length + 1
  | .lit _ => 1
  | .nil => 1
  | .ptr d => uptoBulk d + 1
  | .slice elems spare => uptoBulkAll elems + uptoBulkAll spare + 1
  | .agg parts => uptoBulkAll parts + 1
  | .iface _ d => uptoBulk d + 1
  | .map entries => uptoBulkEntries entries + 1
  | .held _ => 1
def uptoBulkAll {H : Type} : List (DataW H) → Nat
  | [] => 0
  | d :: r => uptoBulk d + uptoBulkAll r
def uptoBulkEntries {H : Type} : List (Lit × DataW H) → Nat
  | [] => 0
  | x :: r => uptoBulkEntry x + uptoBulkEntries r
def uptoBulkEntry {H : Type} : Lit × DataW H → Nat
  | (.string bytes, d) => bytes.length + uptoBulk d + 1
  | (_, d) => uptoBulk d + 1
 end
def uptoSmall : (H : Type) → List (DataW H) → Bool := fun _ ds => decide (uptoBulkAll ds ≤ 1048576)
def OpenSpec.upto (s : _root_.Go.ChangeSpec) : _root_.Go.OpenSpec := { _root_.Go.OpenSpec.ofChange s with cond := some uptoSmall }

/-- 'voussoirlaw07.SignerPlays', WHERE WHAT IT READS IS OF BULK AT MOST 1048576: true; the input reads as it did. -/
def signerPlaysUptoRow : OpenClaim := { program := "ytcojfnjpcpochaadoor", sum := "a99a360f90035f20652f9114192c969db48da0b4e00f67f167ef65b28cb1e0c9", func := "voussoir/voussoirlaw07.SignerPlays", spec := "signerPlays", inPlace := ["internal/abi.NoEscape"], unfollowed := true, recurses := true, named := ["voussoir/sha.first", "voussoir/sha.k", "voussoir/voussoirref01.first", "voussoir/voussoirref01.k"], apart := false, laid := [("voussoir/voussoirref01.k", laid_voussoir_voussoirref01_k), ("voussoir/voussoirref01.first", laid_voussoir_voussoirref01_first), ("voussoir/sha.k", laid_voussoir_sha_k), ("voussoir/sha.first", laid_voussoir_sha_first)], narrowed := true }
def SignerPlaysUptoSaid : Prop := signerPlaysUptoRow.holds Tryd.pinned (OpenSpec.upto signerPlaysSpec)

/-- 'voussoirlaw07.SignerBack', WHERE WHAT IT READS IS OF BULK AT MOST 1048576: true; the input reads as it did. -/
def signerBackUptoRow : OpenClaim := { program := "ytcojfnjpcpochaadoor", sum := "a99a360f90035f20652f9114192c969db48da0b4e00f67f167ef65b28cb1e0c9", func := "voussoir/voussoirlaw07.SignerBack", spec := "signerBack", inPlace := ["internal/abi.NoEscape"], unfollowed := true, recurses := true, named := ["voussoir/sha.first", "voussoir/sha.k"], apart := false, laid := [("voussoir/sha.k", laid_voussoir_sha_k), ("voussoir/sha.first", laid_voussoir_sha_first)], narrowed := true }
def SignerBackUptoSaid : Prop := signerBackUptoRow.holds Tryd.pinned (OpenSpec.upto signerBackSpec)

/-- 'voussoirlaw07.SignerGoes', WHERE WHAT IT READS IS OF BULK AT MOST 1048576: true; the input reads as it did. -/
def signerGoesUptoRow : OpenClaim := { program := "ytcojfnjpcpochaadoor", sum := "a99a360f90035f20652f9114192c969db48da0b4e00f67f167ef65b28cb1e0c9", func := "voussoir/voussoirlaw07.SignerGoes", spec := "signerGoes", inPlace := ["internal/abi.NoEscape"], unfollowed := true, recurses := true, named := ["voussoir/sha.first", "voussoir/sha.k"], apart := false, laid := [("voussoir/sha.k", laid_voussoir_sha_k), ("voussoir/sha.first", laid_voussoir_sha_first)], narrowed := true }
def SignerGoesUptoSaid : Prop := signerGoesUptoRow.holds Tryd.pinned (OpenSpec.upto signerGoesSpec)

/-- 'voussoirlaw07.SignerWhole', WHERE WHAT IT READS IS OF BULK AT MOST 1048576: true; the input reads as it did. -/
def signerWholeUptoRow : OpenClaim := { program := "ytcojfnjpcpochaadoor", sum := "a99a360f90035f20652f9114192c969db48da0b4e00f67f167ef65b28cb1e0c9", func := "voussoir/voussoirlaw07.SignerWhole", spec := "signerWhole", inPlace := ["internal/abi.NoEscape"], unfollowed := true, recurses := true, named := ["voussoir/sha.first", "voussoir/sha.k"], apart := false, laid := [("voussoir/sha.k", laid_voussoir_sha_k), ("voussoir/sha.first", laid_voussoir_sha_first)], narrowed := true }
def SignerWholeUptoSaid : Prop := signerWholeUptoRow.holds Tryd.pinned (OpenSpec.upto signerWholeSpec)

/-- 'voussoirlaw07.SignerKeys', WHERE WHAT IT READS IS OF BULK AT MOST 1048576: true; the input reads as it did. -/
def signerKeysUptoRow : OpenClaim := { program := "ytcojfnjpcpochaadoor", sum := "a99a360f90035f20652f9114192c969db48da0b4e00f67f167ef65b28cb1e0c9", func := "voussoir/voussoirlaw07.SignerKeys", spec := "signerKeys", inPlace := ["internal/abi.NoEscape"], unfollowed := true, recurses := true, named := ["voussoir/sha.first", "voussoir/sha.k"], apart := false, laid := [("voussoir/sha.k", laid_voussoir_sha_k), ("voussoir/sha.first", laid_voussoir_sha_first)], narrowed := true }
def SignerKeysUptoSaid : Prop := signerKeysUptoRow.holds Tryd.pinned (OpenSpec.upto signerKeysSpec)

/-- 'voussoirlaw07.SignerEnds', WHERE WHAT IT READS IS OF BULK AT MOST 1048576: true; the input reads as it did. -/
def signerEndsUptoRow : OpenClaim := { program := "ytcojfnjpcpochaadoor", sum := "a99a360f90035f20652f9114192c969db48da0b4e00f67f167ef65b28cb1e0c9", func := "voussoir/voussoirlaw07.SignerEnds", spec := "signerEnds", inPlace := ["internal/abi.NoEscape"], unfollowed := true, recurses := true, named := ["voussoir/sha.first", "voussoir/sha.k"], apart := false, laid := [("voussoir/sha.k", laid_voussoir_sha_k), ("voussoir/sha.first", laid_voussoir_sha_first)], narrowed := true }
def SignerEndsUptoSaid : Prop := signerEndsUptoRow.holds Tryd.pinned (OpenSpec.upto signerEndsSpec)

end Rows
end Go.Proofs.YtcojfnjpcpochaaDoor
