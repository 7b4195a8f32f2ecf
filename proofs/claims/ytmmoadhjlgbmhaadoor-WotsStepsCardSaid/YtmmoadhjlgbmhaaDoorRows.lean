/-
  NARROWER THAN 'FOR EVERY INPUT', by the rows' own cells (each row's printed sentence says how): WotsTells: laid · WotsWalks: laid · WotsBack: laid · WotsDigits: laid · WotsOn: laid · WotsSteps: laid · WotsEnds: laid.
  DERIVED. THE GIVEN ROWS OF THIS SEAT. 7 by the template 'for every input the law returns true; each argument reads behind the call as it read before'; 0 by the template 'total and deterministic' (their statements: YtmmoadhjlgbmhaaDoorTotals.lean).
  GIVEN WITH THE SEED: the statements are not yours to turn. If you find one false, say at which input.
  Laid BY PROGRAM, IN A SANDBOX (cutbox-rows.mjs): the forced cells as the released guide's own fill.sh prints them over the translation a818516e98172680… (all of the seat's roots in one cut). By AI agents, Wed Nov 11 2026. No macro, syntax, notation, axiom, sorry.
-/
import Derived.Test.YtmmoadhjlgbmhaaDoorChecked
import GoSem.Claim
import GoSem.ClaimJoined
import GoSem.ClaimMapViews
import Derived.JoinedTies
import Derived.KernelRfl
namespace Go.Proofs.YtmmoadhjlgbmhaaDoor
/- THE CELL 'sum', in the pinned program and in every row, IS THE sha256 OF THE DUMP (.gsa) THAT YtmmoadhjlgbmhaaDoorProg.lean LOADS. Nothing in Lean hashes anything: it is a label: what it is worth is what the hold of that sum in a sandbox is worth. -/
noncomputable def Tryd.pinned : Pinned := { name := "ytmmoadhjlgbmhaadoor", sum := "a818516e98172680f4f9bd58568715a3f7d01b0a8bae5d902083656208a247d4", checked := Tryd.checked }
namespace Rows
def none {H : Type} : Left H := { results := [], args := [] }

/- WHAT THE LISTED PACKAGE-LEVEL VARIABLES READ AS WHEN THE CALL BEGINS. Each datum BY PROGRAM (the guide's laid-datum.mjs) off the statement by which the dump's own 'gosem.cut.vars' lays the variable. In a bare row this is a premise. The card (YtmmoadhjlgbmhaaDoorCards.lean) ties it to the program's text. -/
def laid_voussoir_voussoirref01_k {H : Type} : DataW H := .agg [.lit (.int .u32 1116352408), .lit (.int .u32 1899447441), .lit (.int .u32 3049323471), .lit (.int .u32 3921009573), .lit (.int .u32 961987163), .lit (.int .u32 1508970993), .lit (.int .u32 2453635748), .lit (.int .u32 2870763221), .lit (.int .u32 3624381080), .lit (.int .u32 310598401), .lit (.int .u32 607225278), .lit (.int .u32 1426881987), .lit (.int .u32 1925078388), .lit (.int .u32 2162078206), .lit (.int .u32 2614888103), .lit (.int .u32 3248222580), .lit (.int .u32 3835390401), .lit (.int .u32 4022224774), .lit (.int .u32 264347078), .lit (.int .u32 604807628), .lit (.int .u32 770255983), .lit (.int .u32 1249150122), .lit (.int .u32 1555081692), .lit (.int .u32 1996064986), .lit (.int .u32 2554220882), .lit (.int .u32 2821834349), .lit (.int .u32 2952996808), .lit (.int .u32 3210313671), .lit (.int .u32 3336571891), .lit (.int .u32 3584528711), .lit (.int .u32 113926993), .lit (.int .u32 338241895), .lit (.int .u32 666307205), .lit (.int .u32 773529912), .lit (.int .u32 1294757372), .lit (.int .u32 1396182291), .lit (.int .u32 1695183700), .lit (.int .u32 1986661051), .lit (.int .u32 2177026350), .lit (.int .u32 2456956037), .lit (.int .u32 2730485921), .lit (.int .u32 2820302411), .lit (.int .u32 3259730800), .lit (.int .u32 3345764771), .lit (.int .u32 3516065817), .lit (.int .u32 3600352804), .lit (.int .u32 4094571909), .lit (.int .u32 275423344), .lit (.int .u32 430227734), .lit (.int .u32 506948616), .lit (.int .u32 659060556), .lit (.int .u32 883997877), .lit (.int .u32 958139571), .lit (.int .u32 1322822218), .lit (.int .u32 1537002063), .lit (.int .u32 1747873779), .lit (.int .u32 1955562222), .lit (.int .u32 2024104815), .lit (.int .u32 2227730452), .lit (.int .u32 2361852424), .lit (.int .u32 2428436474), .lit (.int .u32 2756734187), .lit (.int .u32 3204031479), .lit (.int .u32 3329325298)]
def laid_voussoir_voussoirref01_first {H : Type} : DataW H := .agg [.lit (.int .u32 1779033703), .lit (.int .u32 3144134277), .lit (.int .u32 1013904242), .lit (.int .u32 2773480762), .lit (.int .u32 1359893119), .lit (.int .u32 2600822924), .lit (.int .u32 528734635), .lit (.int .u32 1541459225)]
def laid_voussoir_sha_k {H : Type} : DataW H := .agg [.lit (.int .u32 1116352408), .lit (.int .u32 1899447441), .lit (.int .u32 3049323471), .lit (.int .u32 3921009573), .lit (.int .u32 961987163), .lit (.int .u32 1508970993), .lit (.int .u32 2453635748), .lit (.int .u32 2870763221), .lit (.int .u32 3624381080), .lit (.int .u32 310598401), .lit (.int .u32 607225278), .lit (.int .u32 1426881987), .lit (.int .u32 1925078388), .lit (.int .u32 2162078206), .lit (.int .u32 2614888103), .lit (.int .u32 3248222580), .lit (.int .u32 3835390401), .lit (.int .u32 4022224774), .lit (.int .u32 264347078), .lit (.int .u32 604807628), .lit (.int .u32 770255983), .lit (.int .u32 1249150122), .lit (.int .u32 1555081692), .lit (.int .u32 1996064986), .lit (.int .u32 2554220882), .lit (.int .u32 2821834349), .lit (.int .u32 2952996808), .lit (.int .u32 3210313671), .lit (.int .u32 3336571891), .lit (.int .u32 3584528711), .lit (.int .u32 113926993), .lit (.int .u32 338241895), .lit (.int .u32 666307205), .lit (.int .u32 773529912), .lit (.int .u32 1294757372), .lit (.int .u32 1396182291), .lit (.int .u32 1695183700), .lit (.int .u32 1986661051), .lit (.int .u32 2177026350), .lit (.int .u32 2456956037), .lit (.int .u32 2730485921), .lit (.int .u32 2820302411), .lit (.int .u32 3259730800), .lit (.int .u32 3345764771), .lit (.int .u32 3516065817), .lit (.int .u32 3600352804), .lit (.int .u32 4094571909), .lit (.int .u32 275423344), .lit (.int .u32 430227734), .lit (.int .u32 506948616), .lit (.int .u32 659060556), .lit (.int .u32 883997877), .lit (.int .u32 958139571), .lit (.int .u32 1322822218), .lit (.int .u32 1537002063), .lit (.int .u32 1747873779), .lit (.int .u32 1955562222), .lit (.int .u32 2024104815), .lit (.int .u32 2227730452), .lit (.int .u32 2361852424), .lit (.int .u32 2428436474), .lit (.int .u32 2756734187), .lit (.int .u32 3204031479), .lit (.int .u32 3329325298)]
def laid_voussoir_sha_first {H : Type} : DataW H := .agg [.lit (.int .u32 1779033703), .lit (.int .u32 3144134277), .lit (.int .u32 1013904242), .lit (.int .u32 2773480762), .lit (.int .u32 1359893119), .lit (.int .u32 2600822924), .lit (.int .u32 528734635), .lit (.int .u32 1541459225)]

/-- 'voussoirlaw05.WotsTells': WHATEVER THE INPUT: true; the input reads as it did. -/
def wotsTellsSpec : ChangeSpec := { name := "wotsTells", fn := fun _ => fun
  | [d1, d2, d3, d4] => { results := [.lit (.bool true)], args := [d1, d2, d3, d4] }
  | _ => none }
def wotsTellsRow : OpenClaim := { program := "ytmmoadhjlgbmhaadoor", sum := "a818516e98172680f4f9bd58568715a3f7d01b0a8bae5d902083656208a247d4", func := "voussoir/voussoirlaw05.WotsTells", spec := "wotsTells", inPlace := ["internal/abi.NoEscape"], unfollowed := true, recurses := true, named := ["voussoir/sha.first", "voussoir/sha.k", "voussoir/voussoirref01.first", "voussoir/voussoirref01.k"], apart := false, laid := [("voussoir/voussoirref01.k", laid_voussoir_voussoirref01_k), ("voussoir/voussoirref01.first", laid_voussoir_voussoirref01_first), ("voussoir/sha.k", laid_voussoir_sha_k), ("voussoir/sha.first", laid_voussoir_sha_first)] }
def WotsTellsSaid : Prop := wotsTellsRow.holds Tryd.pinned (OpenSpec.ofChange wotsTellsSpec)

/-- ITS FALSE NEIGHBOUR: 'it returns false'. Refute it at one input. -/
def wotsTellsWrong : ChangeSpec := { name := "wotsTells", fn := fun _ => fun
  | [d1, d2, d3, d4] => { results := [.lit (.bool false)], args := [d1, d2, d3, d4] }
  | _ => none }
def WotsTellsWrongFalsely : Prop := wotsTellsRow.holds Tryd.pinned (OpenSpec.ofChange wotsTellsWrong)

/-- 'voussoirlaw05.WotsWalks': WHATEVER THE INPUT: true; the input reads as it did. -/
def wotsWalksSpec : ChangeSpec := { name := "wotsWalks", fn := fun _ => fun
  | [d1, d2, d3, d4] => { results := [.lit (.bool true)], args := [d1, d2, d3, d4] }
  | _ => none }
def wotsWalksRow : OpenClaim := { program := "ytmmoadhjlgbmhaadoor", sum := "a818516e98172680f4f9bd58568715a3f7d01b0a8bae5d902083656208a247d4", func := "voussoir/voussoirlaw05.WotsWalks", spec := "wotsWalks", inPlace := ["internal/abi.NoEscape"], unfollowed := true, recurses := true, named := ["voussoir/sha.first", "voussoir/sha.k", "voussoir/voussoirref01.first", "voussoir/voussoirref01.k"], apart := false, laid := [("voussoir/voussoirref01.k", laid_voussoir_voussoirref01_k), ("voussoir/voussoirref01.first", laid_voussoir_voussoirref01_first), ("voussoir/sha.k", laid_voussoir_sha_k), ("voussoir/sha.first", laid_voussoir_sha_first)] }
def WotsWalksSaid : Prop := wotsWalksRow.holds Tryd.pinned (OpenSpec.ofChange wotsWalksSpec)

/-- ITS FALSE NEIGHBOUR: 'it returns false'. Refute it at one input. -/
def wotsWalksWrong : ChangeSpec := { name := "wotsWalks", fn := fun _ => fun
  | [d1, d2, d3, d4] => { results := [.lit (.bool false)], args := [d1, d2, d3, d4] }
  | _ => none }
def WotsWalksWrongFalsely : Prop := wotsWalksRow.holds Tryd.pinned (OpenSpec.ofChange wotsWalksWrong)

/-- 'voussoirlaw05.WotsBack': WHATEVER THE INPUT: true; the input reads as it did. -/
def wotsBackSpec : ChangeSpec := { name := "wotsBack", fn := fun _ => fun
  | [d1, d2, d3] => { results := [.lit (.bool true)], args := [d1, d2, d3] }
  | _ => none }
def wotsBackRow : OpenClaim := { program := "ytmmoadhjlgbmhaadoor", sum := "a818516e98172680f4f9bd58568715a3f7d01b0a8bae5d902083656208a247d4", func := "voussoir/voussoirlaw05.WotsBack", spec := "wotsBack", inPlace := ["internal/abi.NoEscape"], unfollowed := true, recurses := true, named := ["voussoir/sha.first", "voussoir/sha.k"], apart := false, laid := [("voussoir/sha.k", laid_voussoir_sha_k), ("voussoir/sha.first", laid_voussoir_sha_first)] }
def WotsBackSaid : Prop := wotsBackRow.holds Tryd.pinned (OpenSpec.ofChange wotsBackSpec)

/-- ITS FALSE NEIGHBOUR: 'it returns false'. Refute it at one input. -/
def wotsBackWrong : ChangeSpec := { name := "wotsBack", fn := fun _ => fun
  | [d1, d2, d3] => { results := [.lit (.bool false)], args := [d1, d2, d3] }
  | _ => none }
def WotsBackWrongFalsely : Prop := wotsBackRow.holds Tryd.pinned (OpenSpec.ofChange wotsBackWrong)

/-- 'voussoirlaw05.WotsDigits': WHATEVER THE INPUT: true; the input reads as it did. -/
def wotsDigitsSpec : ChangeSpec := { name := "wotsDigits", fn := fun _ => fun
  | [d1, d2] => { results := [.lit (.bool true)], args := [d1, d2] }
  | _ => none }
def wotsDigitsRow : OpenClaim := { program := "ytmmoadhjlgbmhaadoor", sum := "a818516e98172680f4f9bd58568715a3f7d01b0a8bae5d902083656208a247d4", func := "voussoir/voussoirlaw05.WotsDigits", spec := "wotsDigits", inPlace := ["internal/abi.NoEscape"], unfollowed := true, recurses := true, named := ["voussoir/sha.first", "voussoir/sha.k"], apart := false, laid := [("voussoir/sha.k", laid_voussoir_sha_k), ("voussoir/sha.first", laid_voussoir_sha_first)] }
def WotsDigitsSaid : Prop := wotsDigitsRow.holds Tryd.pinned (OpenSpec.ofChange wotsDigitsSpec)

/-- ITS FALSE NEIGHBOUR: 'it returns false'. Refute it at one input. -/
def wotsDigitsWrong : ChangeSpec := { name := "wotsDigits", fn := fun _ => fun
  | [d1, d2] => { results := [.lit (.bool false)], args := [d1, d2] }
  | _ => none }
def WotsDigitsWrongFalsely : Prop := wotsDigitsRow.holds Tryd.pinned (OpenSpec.ofChange wotsDigitsWrong)

/-- 'voussoirlaw05.WotsOn': WHATEVER THE INPUT: true; the input reads as it did. -/
def wotsOnSpec : ChangeSpec := { name := "wotsOn", fn := fun _ => fun
  | [d1, d2, d3, d4, d5] => { results := [.lit (.bool true)], args := [d1, d2, d3, d4, d5] }
  | _ => none }
def wotsOnRow : OpenClaim := { program := "ytmmoadhjlgbmhaadoor", sum := "a818516e98172680f4f9bd58568715a3f7d01b0a8bae5d902083656208a247d4", func := "voussoir/voussoirlaw05.WotsOn", spec := "wotsOn", inPlace := ["internal/abi.NoEscape"], unfollowed := true, recurses := true, named := ["voussoir/sha.first", "voussoir/sha.k"], apart := false, laid := [("voussoir/sha.k", laid_voussoir_sha_k), ("voussoir/sha.first", laid_voussoir_sha_first)] }
def WotsOnSaid : Prop := wotsOnRow.holds Tryd.pinned (OpenSpec.ofChange wotsOnSpec)

/-- ITS FALSE NEIGHBOUR: 'it returns false'. Refute it at one input. -/
def wotsOnWrong : ChangeSpec := { name := "wotsOn", fn := fun _ => fun
  | [d1, d2, d3, d4, d5] => { results := [.lit (.bool false)], args := [d1, d2, d3, d4, d5] }
  | _ => none }
def WotsOnWrongFalsely : Prop := wotsOnRow.holds Tryd.pinned (OpenSpec.ofChange wotsOnWrong)

/-- 'voussoirlaw05.WotsSteps': WHATEVER THE INPUT: true; the input reads as it did. -/
def wotsStepsSpec : ChangeSpec := { name := "wotsSteps", fn := fun _ => fun
  | [d1, d2, d3, d4] => { results := [.lit (.bool true)], args := [d1, d2, d3, d4] }
  | _ => none }
def wotsStepsRow : OpenClaim := { program := "ytmmoadhjlgbmhaadoor", sum := "a818516e98172680f4f9bd58568715a3f7d01b0a8bae5d902083656208a247d4", func := "voussoir/voussoirlaw05.WotsSteps", spec := "wotsSteps", inPlace := ["internal/abi.NoEscape"], unfollowed := true, recurses := true, named := ["voussoir/sha.first", "voussoir/sha.k"], apart := false, laid := [("voussoir/sha.k", laid_voussoir_sha_k), ("voussoir/sha.first", laid_voussoir_sha_first)] }
def WotsStepsSaid : Prop := wotsStepsRow.holds Tryd.pinned (OpenSpec.ofChange wotsStepsSpec)

/-- ITS FALSE NEIGHBOUR: 'it returns false'. Refute it at one input. -/
def wotsStepsWrong : ChangeSpec := { name := "wotsSteps", fn := fun _ => fun
  | [d1, d2, d3, d4] => { results := [.lit (.bool false)], args := [d1, d2, d3, d4] }
  | _ => none }
def WotsStepsWrongFalsely : Prop := wotsStepsRow.holds Tryd.pinned (OpenSpec.ofChange wotsStepsWrong)

/-- 'voussoirlaw05.WotsEnds': WHATEVER THE INPUT: true; the input reads as it did. -/
def wotsEndsSpec : ChangeSpec := { name := "wotsEnds", fn := fun _ => fun
  | [d1, d2, d3] => { results := [.lit (.bool true)], args := [d1, d2, d3] }
  | _ => none }
def wotsEndsRow : OpenClaim := { program := "ytmmoadhjlgbmhaadoor", sum := "a818516e98172680f4f9bd58568715a3f7d01b0a8bae5d902083656208a247d4", func := "voussoir/voussoirlaw05.WotsEnds", spec := "wotsEnds", inPlace := ["internal/abi.NoEscape"], unfollowed := true, recurses := true, named := ["voussoir/sha.first", "voussoir/sha.k"], apart := false, laid := [("voussoir/sha.k", laid_voussoir_sha_k), ("voussoir/sha.first", laid_voussoir_sha_first)] }
def WotsEndsSaid : Prop := wotsEndsRow.holds Tryd.pinned (OpenSpec.ofChange wotsEndsSpec)

/-- ITS FALSE NEIGHBOUR: 'it returns false'. Refute it at one input. -/
def wotsEndsWrong : ChangeSpec := { name := "wotsEnds", fn := fun _ => fun
  | [d1, d2, d3] => { results := [.lit (.bool false)], args := [d1, d2, d3] }
  | _ => none }
def WotsEndsWrongFalsely : Prop := wotsEndsRow.holds Tryd.pinned (OpenSpec.ofChange wotsEndsWrong)

/- THE SECOND FORM. 'bulk': how many values and letters a reading holds, each counted each time it is reached (what is shared counts as often as it is met; a slice's spare places count too). A statement '..UptoSaid' is the law's where the arguments, and the package variables that the reading takes, are together of bulk at most 1048576: NARROWER than '..Said'. Prove '..Said' where nothing that the law and all that it calls make is longer than what came in: it says more and counts as full. Else prove '..UptoSaid'. A law counts once. -/
mutual
def uptoBulk {H : Type} : DataW H → Nat
  | .lit (.string bytes) => bytes.length + 1
  | .lit _ => 1
  | .nil => 1
  | .ptr d => uptoBulk d + 1
  | .slice elems spare => uptoBulkAll elems + uptoBulkAll spare + 1
  | .agg parts => uptoBulkAll parts + 1
  | .iface _ d => uptoBulk d + 1
  | .map entries => uptoBulkEntries entries + 1
  | .held _ => 1
def uptoBulkAll {H : Type} : List (DataW H) → Nat
  | [] => 0
  | d :: r => uptoBulk d + uptoBulkAll r
def uptoBulkEntries {H : Type} : List (Lit × DataW H) → Nat
  | [] => 0
  | x :: r => uptoBulkEntry x + uptoBulkEntries r
def uptoBulkEntry {H : Type} : Lit × DataW H → Nat
  | (.string bytes, d) => bytes.length + uptoBulk d + 1
  | (_, d) => uptoBulk d + 1
 end
def uptoSmall : (H : Type) → List (DataW H) → Bool := fun _ ds => decide (uptoBulkAll ds ≤ 1048576)
def OpenSpec.upto (s : _root_.Go.ChangeSpec) : _root_.Go.OpenSpec := { _root_.Go.OpenSpec.ofChange s with cond := some uptoSmall }

/-- 'voussoirlaw05.WotsTells', WHERE WHAT IT READS IS OF BULK AT MOST 1048576: true; the input reads as it did. -/
def wotsTellsUptoRow : OpenClaim := { program := "ytmmoadhjlgbmhaadoor", sum := "a818516e98172680f4f9bd58568715a3f7d01b0a8bae5d902083656208a247d4", func := "voussoir/voussoirlaw05.WotsTells", spec := "wotsTells", inPlace := ["internal/abi.NoEscape"], unfollowed := true, recurses := true, named := ["voussoir/sha.first", "voussoir/sha.k", "voussoir/voussoirref01.first", "voussoir/voussoirref01.k"], apart := false, laid := [("voussoir/voussoirref01.k", laid_voussoir_voussoirref01_k), ("voussoir/voussoirref01.first", laid_voussoir_voussoirref01_first), ("voussoir/sha.k", laid_voussoir_sha_k), ("voussoir/sha.first", laid_voussoir_sha_first)], narrowed := true }
def WotsTellsUptoSaid : Prop := wotsTellsUptoRow.holds Tryd.pinned (OpenSpec.upto wotsTellsSpec)

/-- 'voussoirlaw05.WotsWalks', WHERE WHAT IT READS IS OF BULK AT MOST 1048576: true; the input reads as it did. -/
def wotsWalksUptoRow : OpenClaim := { program := "ytmmoadhjlgbmhaadoor", sum := "a818516e98172680f4f9bd58568715a3f7d01b0a8bae5d902083656208a247d4", func := "voussoir/voussoirlaw05.WotsWalks", spec := "wotsWalks", inPlace := ["internal/abi.NoEscape"], unfollowed := true, recurses := true, named := ["voussoir/sha.first", "voussoir/sha.k", "voussoir/voussoirref01.first", "voussoir/voussoirref01.k"], apart := false, laid := [("voussoir/voussoirref01.k", laid_voussoir_voussoirref01_k), ("voussoir/voussoirref01.first", laid_voussoir_voussoirref01_first), ("voussoir/sha.k", laid_voussoir_sha_k), ("voussoir/sha.first", laid_voussoir_sha_first)], narrowed := true }
def WotsWalksUptoSaid : Prop := wotsWalksUptoRow.holds Tryd.pinned (OpenSpec.upto wotsWalksSpec)

/-- 'voussoirlaw05.WotsBack', WHERE WHAT IT READS IS OF BULK AT MOST 1048576: true; the input reads as it did. -/
def wotsBackUptoRow : OpenClaim := { program := "ytmmoadhjlgbmhaadoor", sum := "a818516e98172680f4f9bd58568715a3f7d01b0a8bae5d902083656208a247d4", func := "voussoir/voussoirlaw05.WotsBack", spec := "wotsBack", inPlace := ["internal/abi.NoEscape"], unfollowed := true, recurses := true, named := ["voussoir/sha.first", "voussoir/sha.k"], apart := false, laid := [("voussoir/sha.k", laid_voussoir_sha_k), ("voussoir/sha.first", laid_voussoir_sha_first)], narrowed := true }
def WotsBackUptoSaid : Prop := wotsBackUptoRow.holds Tryd.pinned (OpenSpec.upto wotsBackSpec)

/-- 'voussoirlaw05.WotsDigits', WHERE WHAT IT READS IS OF BULK AT MOST 1048576: true; the input reads as it did. -/
def wotsDigitsUptoRow : OpenClaim := { program := "ytmmoadhjlgbmhaadoor", sum := "a818516e98172680f4f9bd58568715a3f7d01b0a8bae5d902083656208a247d4", func := "voussoir/voussoirlaw05.WotsDigits", spec := "wotsDigits", inPlace := ["internal/abi.NoEscape"], unfollowed := true, recurses := true, named := ["voussoir/sha.first", "voussoir/sha.k"], apart := false, laid := [("voussoir/sha.k", laid_voussoir_sha_k), ("voussoir/sha.first", laid_voussoir_sha_first)], narrowed := true }
def WotsDigitsUptoSaid : Prop := wotsDigitsUptoRow.holds Tryd.pinned (OpenSpec.upto wotsDigitsSpec)

/-- 'voussoirlaw05.WotsOn', WHERE WHAT IT READS IS OF BULK AT MOST 1048576: true; the input reads as it did. -/
def wotsOnUptoRow : OpenClaim := { program := "ytmmoadhjlgbmhaadoor", sum := "a818516e98172680f4f9bd58568715a3f7d01b0a8bae5d902083656208a247d4", func := "voussoir/voussoirlaw05.WotsOn", spec := "wotsOn", inPlace := ["internal/abi.NoEscape"], unfollowed := true, recurses := true, named := ["voussoir/sha.first", "voussoir/sha.k"], apart := false, laid := [("voussoir/sha.k", laid_voussoir_sha_k), ("voussoir/sha.first", laid_voussoir_sha_first)], narrowed := true }
def WotsOnUptoSaid : Prop := wotsOnUptoRow.holds Tryd.pinned (OpenSpec.upto wotsOnSpec)

/-- 'voussoirlaw05.WotsSteps', WHERE WHAT IT READS IS OF BULK AT MOST 1048576: true; the input reads as it did. -/
def wotsStepsUptoRow : OpenClaim := { program := "ytmmoadhjlgbmhaadoor", sum := "a818516e98172680f4f9bd58568715a3f7d01b0a8bae5d902083656208a247d4", func := "voussoir/voussoirlaw05.WotsSteps", spec := "wotsSteps", inPlace := ["internal/abi.NoEscape"], unfollowed := true, recurses := true, named := ["voussoir/sha.first", "voussoir/sha.k"], apart := false, laid := [("voussoir/sha.k", laid_voussoir_sha_k), ("voussoir/sha.first", laid_voussoir_sha_first)], narrowed := true }
def WotsStepsUptoSaid : Prop := wotsStepsUptoRow.holds Tryd.pinned (OpenSpec.upto wotsStepsSpec)

/-- 'voussoirlaw05.WotsEnds', WHERE WHAT IT READS IS OF BULK AT MOST 1048576: true; the input reads as it did. -/
def wotsEndsUptoRow : OpenClaim := { program := "ytmmoadhjlgbmhaadoor", sum := "a818516e98172680f4f9bd58568715a3f7d01b0a8bae5d902083656208a247d4", func := "voussoir/voussoirlaw05.WotsEnds", spec := "wotsEnds", inPlace := ["internal/abi.NoEscape"], unfollowed := true, recurses := true, named := ["voussoir/sha.first", "voussoir/sha.k"], apart := false, laid := [("voussoir/sha.k", laid_voussoir_sha_k), ("voussoir/sha.first", laid_voussoir_sha_first)], narrowed := true }
def WotsEndsUptoSaid : Prop := wotsEndsUptoRow.holds Tryd.pinned (OpenSpec.upto wotsEndsSpec)

end Rows
end Go.Proofs.YtmmoadhjlgbmhaaDoor
