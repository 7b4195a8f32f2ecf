/-
  No cell of these rows narrows 'for every input' (looked for: loops, veiled, ifaces, maps, wideKeys, modest, calm, conditions, laid).
  DERIVED. THE GIVEN ROWS OF THIS SEAT. 5 by the template 'for every input the law returns true; each argument reads behind the call as it read before'; 0 by the template 'total and deterministic' (their statements: YtjmbendppcildaaTotals.lean).
  GIVEN WITH THE SEED: the statements are not yours to turn. If you find one false, say at which input.
  Laid BY PROGRAM, IN A SANDBOX (cutbox-rows.mjs): the forced cells as the released guide's own fill.sh prints them over the translation 93f120c207c4e0ee… (all of the seat's roots in one cut). By AI agents, Wed Nov 11 2026. No macro, syntax, notation, axiom, sorry.
-/
import Derived.Test.YtjmbendppcildaaChecked
import GoSem.Claim
import GoSem.ClaimJoined
import GoSem.ClaimMapViews
import Derived.JoinedTies
import Derived.KernelRfl
namespace Go.Proofs.Ytjmbendppcildaa
/- THE CELL 'sum', in the pinned program and in every row, IS THE sha256 OF THE DUMP (.gsa) THAT YtjmbendppcildaaProg.lean LOADS. Nothing in Lean hashes anything: it is a label: what it is worth is what the hold of that sum in a sandbox is worth. -/
noncomputable def Try.pinned : Pinned := { name := "ytjmbendppcildaa", sum := "93f120c207c4e0ee83a2071bb8bce80415217e13e1afe3884d33daabf7e668f8", checked := Try.checked }
namespace Rows
def none {H : Type} : Left H := { results := [], args := [] }

/-- 'voussoirlaw12.JournalLasts': WHATEVER THE INPUT: true; the input reads as it did. -/
def journalLastsSpec : ChangeSpec := { name := "journalLasts", fn := fun _ => fun
  | [d] => { results := [.lit (.bool true)], args := [d] }
  | _ => none }
def journalLastsRow : OpenClaim := { program := "ytjmbendppcildaa", sum := "93f120c207c4e0ee83a2071bb8bce80415217e13e1afe3884d33daabf7e668f8", func := "voussoir/voussoirlaw12.JournalLasts", spec := "journalLasts", inPlace := ["internal/abi.NoEscape", "internal/bytealg.MakeNoZero"], apart := false }
def JournalLastsSaid : Prop := journalLastsRow.holds Try.pinned (OpenSpec.ofChange journalLastsSpec)

/-- ITS FALSE NEIGHBOUR: 'it returns false'. Refute it at one input. -/
def journalLastsWrong : ChangeSpec := { name := "journalLasts", fn := fun _ => fun
  | [d] => { results := [.lit (.bool false)], args := [d] }
  | _ => none }
def JournalLastsWrongFalsely : Prop := journalLastsRow.holds Try.pinned (OpenSpec.ofChange journalLastsWrong)

/-- 'voussoirlaw12.JournalCounts': WHATEVER THE INPUT: true; the input reads as it did. -/
def journalCountsSpec : ChangeSpec := { name := "journalCounts", fn := fun _ => fun
  | [d1, d2] => { results := [.lit (.bool true)], args := [d1, d2] }
  | _ => none }
def journalCountsRow : OpenClaim := { program := "ytjmbendppcildaa", sum := "93f120c207c4e0ee83a2071bb8bce80415217e13e1afe3884d33daabf7e668f8", func := "voussoir/voussoirlaw12.JournalCounts", spec := "journalCounts", inPlace := ["internal/abi.NoEscape", "internal/bytealg.MakeNoZero"], apart := false }
def JournalCountsSaid : Prop := journalCountsRow.holds Try.pinned (OpenSpec.ofChange journalCountsSpec)

/-- ITS FALSE NEIGHBOUR: 'it returns false'. Refute it at one input. -/
def journalCountsWrong : ChangeSpec := { name := "journalCounts", fn := fun _ => fun
  | [d1, d2] => { results := [.lit (.bool false)], args := [d1, d2] }
  | _ => none }
def JournalCountsWrongFalsely : Prop := journalCountsRow.holds Try.pinned (OpenSpec.ofChange journalCountsWrong)

/-- 'voussoirlaw12.JournalTears': WHATEVER THE INPUT: true; the input reads as it did. -/
def journalTearsSpec : ChangeSpec := { name := "journalTears", fn := fun _ => fun
  | [d1, d2, d3, d4, d5] => { results := [.lit (.bool true)], args := [d1, d2, d3, d4, d5] }
  | _ => none }
def journalTearsRow : OpenClaim := { program := "ytjmbendppcildaa", sum := "93f120c207c4e0ee83a2071bb8bce80415217e13e1afe3884d33daabf7e668f8", func := "voussoir/voussoirlaw12.JournalTears", spec := "journalTears", inPlace := ["internal/abi.NoEscape", "internal/bytealg.MakeNoZero"], apart := false }
def JournalTearsSaid : Prop := journalTearsRow.holds Try.pinned (OpenSpec.ofChange journalTearsSpec)

/-- ITS FALSE NEIGHBOUR: 'it returns false'. Refute it at one input. -/
def journalTearsWrong : ChangeSpec := { name := "journalTears", fn := fun _ => fun
  | [d1, d2, d3, d4, d5] => { results := [.lit (.bool false)], args := [d1, d2, d3, d4, d5] }
  | _ => none }
def JournalTearsWrongFalsely : Prop := journalTearsRow.holds Try.pinned (OpenSpec.ofChange journalTearsWrong)

/-- 'voussoirlaw12.JournalArms': WHATEVER THE INPUT: true; the input reads as it did. -/
def journalArmsSpec : ChangeSpec := { name := "journalArms", fn := fun _ => fun
  | [d1, d2] => { results := [.lit (.bool true)], args := [d1, d2] }
  | _ => none }
def journalArmsRow : OpenClaim := { program := "ytjmbendppcildaa", sum := "93f120c207c4e0ee83a2071bb8bce80415217e13e1afe3884d33daabf7e668f8", func := "voussoir/voussoirlaw12.JournalArms", spec := "journalArms", inPlace := ["internal/abi.NoEscape", "internal/bytealg.MakeNoZero"], apart := false }
def JournalArmsSaid : Prop := journalArmsRow.holds Try.pinned (OpenSpec.ofChange journalArmsSpec)

/-- ITS FALSE NEIGHBOUR: 'it returns false'. Refute it at one input. -/
def journalArmsWrong : ChangeSpec := { name := "journalArms", fn := fun _ => fun
  | [d1, d2] => { results := [.lit (.bool false)], args := [d1, d2] }
  | _ => none }
def JournalArmsWrongFalsely : Prop := journalArmsRow.holds Try.pinned (OpenSpec.ofChange journalArmsWrong)

/-- 'voussoirlaw12.JournalOther': WHATEVER THE INPUT: true; the input reads as it did. -/
def journalOtherSpec : ChangeSpec := { name := "journalOther", fn := fun _ => fun
  | [d1, d2] => { results := [.lit (.bool true)], args := [d1, d2] }
  | _ => none }
def journalOtherRow : OpenClaim := { program := "ytjmbendppcildaa", sum := "93f120c207c4e0ee83a2071bb8bce80415217e13e1afe3884d33daabf7e668f8", func := "voussoir/voussoirlaw12.JournalOther", spec := "journalOther", inPlace := ["internal/abi.NoEscape", "internal/bytealg.MakeNoZero"], apart := false }
def JournalOtherSaid : Prop := journalOtherRow.holds Try.pinned (OpenSpec.ofChange journalOtherSpec)

/-- ITS FALSE NEIGHBOUR: 'it returns false'. Refute it at one input. -/
def journalOtherWrong : ChangeSpec := { name := "journalOther", fn := fun _ => fun
  | [d1, d2] => { results := [.lit (.bool false)], args := [d1, d2] }
  | _ => none }
def JournalOtherWrongFalsely : Prop := journalOtherRow.holds Try.pinned (OpenSpec.ofChange journalOtherWrong)

/- THE SECOND FORM. 'bulk': how many values and letters a reading holds, each counted each time it is reached (what is shared counts as often as it is met; a slice's spare places count too). A statement '..UptoSaid' is the law's where the arguments, and the package variables that the reading takes, are together of bulk at most 1048576: NARROWER than '..Said'. Prove '..Said' where nothing that the law and all that it calls make is longer than what came in: it says more and counts as full. Else prove '..UptoSaid'. A law counts once. -/
mutual
def uptoBulk {H : Type} : DataW H → Nat
  | .lit (.string bytes) => bytes.length + 1
  | .lit _ => 1
  | .nil => 1
  | .ptr d => uptoBulk d + 1
  | .slice elems spare => uptoBulkAll elems + uptoBulkAll spare + 1
  | .agg parts => uptoBulkAll parts + 1
  | .iface _ d => uptoBulk d + 1
  | .map entries => uptoBulkEntries entries + 1
  | .held _ => 1
def uptoBulkAll {H : Type} : List (DataW H) → Nat
  | [] => 0
  | d :: r => uptoBulk d + uptoBulkAll r
def uptoBulkEntries {H : Type} : List (Lit × DataW H) → Nat
  | [] => 0
  | x :: r => uptoBulkEntry x + uptoBulkEntries r
def uptoBulkEntry {H : Type} : Lit × DataW H → Nat
  | (.string bytes, d) => bytes.length + uptoBulk d + 1
  | (_, d) => uptoBulk d + 1
 end
def uptoSmall : (H : Type) → List (DataW H) → Bool := fun _ ds => decide (uptoBulkAll ds ≤ 1048576)
def OpenSpec.upto (s : _root_.Go.ChangeSpec) : _root_.Go.OpenSpec := { _root_.Go.OpenSpec.ofChange s with cond := some uptoSmall }

/-- 'voussoirlaw12.JournalLasts', WHERE WHAT IT READS IS OF BULK AT MOST 1048576: true; the input reads as it did. -/
def journalLastsUptoRow : OpenClaim := { program := "ytjmbendppcildaa", sum := "93f120c207c4e0ee83a2071bb8bce80415217e13e1afe3884d33daabf7e668f8", func := "voussoir/voussoirlaw12.JournalLasts", spec := "journalLasts", inPlace := ["internal/abi.NoEscape", "internal/bytealg.MakeNoZero"], apart := false, narrowed := true }
def JournalLastsUptoSaid : Prop := journalLastsUptoRow.holds Try.pinned (OpenSpec.upto journalLastsSpec)

/-- 'voussoirlaw12.JournalCounts', WHERE WHAT IT READS IS OF BULK AT MOST 1048576: true; the input reads as it did. -/
def journalCountsUptoRow : OpenClaim := { program := "ytjmbendppcildaa", sum := "93f120c207c4e0ee83a2071bb8bce80415217e13e1afe3884d33daabf7e668f8", func := "voussoir/voussoirlaw12.JournalCounts", spec := "journalCounts", inPlace := ["internal/abi.NoEscape", "internal/bytealg.MakeNoZero"], apart := false, narrowed := true }
def JournalCountsUptoSaid : Prop := journalCountsUptoRow.holds Try.pinned (OpenSpec.upto journalCountsSpec)

/-- 'voussoirlaw12.JournalTears', WHERE WHAT IT READS IS OF BULK AT MOST 1048576: true; the input reads as it did. -/
def journalTearsUptoRow : OpenClaim := { program := "ytjmbendppcildaa", sum := "93f120c207c4e0ee83a2071bb8bce80415217e13e1afe3884d33daabf7e668f8", func := "voussoir/voussoirlaw12.JournalTears", spec := "journalTears", inPlace := ["internal/abi.NoEscape", "internal/bytealg.MakeNoZero"], apart := false, narrowed := true }
def JournalTearsUptoSaid : Prop := journalTearsUptoRow.holds Try.pinned (OpenSpec.upto journalTearsSpec)

/-- 'voussoirlaw12.JournalArms', WHERE WHAT IT READS IS OF BULK AT MOST 1048576: true; the input reads as it did. -/
def journalArmsUptoRow : OpenClaim := { program := "ytjmbendppcildaa", sum := "93f120c207c4e0ee83a2071bb8bce80415217e13e1afe3884d33daabf7e668f8", func := "voussoir/voussoirlaw12.JournalArms", spec := "journalArms", inPlace := ["internal/abi.NoEscape", "internal/bytealg.MakeNoZero"], apart := false, narrowed := true }
def JournalArmsUptoSaid : Prop := journalArmsUptoRow.holds Try.pinned (OpenSpec.upto journalArmsSpec)

/-- 'voussoirlaw12.JournalOther', WHERE WHAT IT READS IS OF BULK AT MOST 1048576: true; the input reads as it did. -/
def journalOtherUptoRow : OpenClaim := { program := "ytjmbendppcildaa", sum := "93f120c207c4e0ee83a2071bb8bce80415217e13e1afe3884d33daabf7e668f8", func := "voussoir/voussoirlaw12.JournalOther", spec := "journalOther", inPlace := ["internal/abi.NoEscape", "internal/bytealg.MakeNoZero"], apart := false, narrowed := true }
def JournalOtherUptoSaid : Prop := journalOtherUptoRow.holds Try.pinned (OpenSpec.upto journalOtherSpec)

end Rows
end Go.Proofs.Ytjmbendppcildaa
