/- A region that draws its order: operations that yield the same in every world are taken first, in their own order; what is left then comes in a forced order. -/
import Derived.Test.YtmifllopcbjliaaDoorM
import Derived.StillTail
import Derived.OrdersHeld
namespace Go.Proofs.YtmifllopcbjliaaDoor.V
open Go Go.RowKit

section
variable {P : Program} {ops : Array Oper} {Q : Exit → Act → World → Prop} {md : Region.Mode}

/-- operations that yield one value each, whatever the world -/
def wpTake (P : Program) (ops : Array Oper) (K : Act → Prop) : List Oper → Act → Prop
  | [], a => K a
  | o :: r, a => ∃ v, YieldsIf P ops (fun _ => True) o v a ∧ wpTake P ops K r (a.put o.dst v)
theorem wpTake_nil {K : Act → Prop} {a : Act} (h : K a) : wpTake P ops K [] a := h
theorem wpTake_step {K : Act → Prop} {a : Act} {o : Oper} {r : List Oper} {v : Value} (hw : Region.wanted o (yielded ops a.tmps) = true) (hy : ∀ w, (execOp a.eval o).run P w = .ok (.value v) w)
    (h : wpTake P ops K r (a.put o.dst v)) : wpTake P ops K (o :: r) a := ⟨v, .inl ⟨hw, fun w _ => hy w⟩, h⟩

theorem anyH_of_any : ∀ (fuel : Nat) (listed : Array Bool) (a : Act) (w : World), wpAny P md ops Q fuel listed a w → wpAnyH P md ops Q (fun _ => True) fuel listed a w
  | 0, _, _, _, h => h
  | fuel + 1, _, _, _, h => ⟨h.1, fun i hi => wpOp_mono (fun a' w' h' => ⟨trivial, anyH_of_any fuel _ a' w' h'⟩) (h.2 i hi)⟩

theorem anyH_lex {g : Nat} (hsel : Region.noSelect ops = true) (hQ : ∀ c o v a w, Q (.panic c) (Act.put a o v) w → Q (.panic c) a w) {tail : List Oper} (hg : tail.length = g) :
    ∀ (l : List Oper) (k : Nat) (listed : Array Bool) (a : Act) (w : World), (∀ j, (l ++ tail)[j]? = ops[k + j]?) → Region.lexHead md ops g l.length k listed = true →
      wpTake P ops (fun a' => wpList P ops Q tail a' w) l a → wpAnyH P md ops Q (fun _ => True) (l.length + g) listed a w
  | [], k, listed, a, w, hl, hB, h => by
    subst hg
    rw [List.length_nil, Nat.zero_add]
    exact anyH_of_any _ _ _ _ (wpAny_of_seq tail k listed a w (fun j => by simpa using hl j) hB h)
  | o :: l, k, listed, a, w, hl, hB, h => by
    have h0 : ops[k]? = some o := by simpa using (hl 0).symm
    simp only [List.length_cons, Region.lexHead, Bool.and_eq_true] at hB
    obtain ⟨⟨hr, hf⟩, hB'⟩ := hB
    obtain ⟨v, hy, hK⟩ := h
    have := wpAnyH_take (md := md) (Q := Q) (fuel := l.length + g) h0 hsel hf hr (fun c a w => hQ c _ _ a w) hy trivial
      (anyH_lex hsel hQ hg l (k + 1) _ _ w (fun j => by have := hl (j + 1); simpa [Nat.add_assoc, Nat.add_comm 1 j] using this) hB' hK)
    rw [List.length_cons, Nat.add_right_comm]
    exact this

def Region.takeB (ops : Array Oper) (n : Nat) : Bool :=
  Region.noSelect ops && decide (n ≤ ops.size) && Region.lexHead .any ops (ops.size - n) n 0 (Array.replicate ops.size false)

theorem region_take {id : Nat} {a : Act} {w : World} {l : List Oper} (n : Nat) (hm : P.follows .mixedOrders = true) (hB : Region.takeB l.toArray n = true)
    (h : wpTake P l.toArray (fun a' => wpList P l.toArray (NoPanic Q) (l.drop n) a' w.drew) (l.take n) a) : (Code.region id l.toArray true).wp P Q a w := by
  simp only [Region.takeB, Bool.and_eq_true, decide_eq_true_eq] at hB
  obtain ⟨⟨hsel, hn⟩, hlex⟩ := hB
  have hn' : n ≤ l.length := by simpa using hn
  have htl : (l.take n).length = n := by simp; omega
  refine wp_region_noPanic (wp_region_held (S := fun _ => True) hm ?_)
  have := anyH_lex (md := .any) (Q := NoPanic Q) (g := l.toArray.size - n) hsel (fun c o v a w hp => hp) (tail := l.drop n) (by simp) (l.take n) 0 (Array.replicate l.toArray.size false) a w.drew
    (fun j => by simp) (by rw [htl]; exact hlex) h
  rw [htl, show n + (l.toArray.size - n) = l.toArray.size by simp; omega] at this
  exact this
end
end Go.Proofs.YtmifllopcbjliaaDoor.V
