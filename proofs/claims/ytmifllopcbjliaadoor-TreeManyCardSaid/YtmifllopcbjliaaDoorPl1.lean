/- A text of parts tells its parts; noughts behind a text. No program in sight. -/
import Derived.Test.YtmifllopcbjliaaDoorShaL
namespace Go.Proofs.YtmifllopcbjliaaDoor.V

theorem be4_inj {x y : UInt32} (h : be4 x = be4 y) : x = y := by
  have h1 := word_be4 x []
  rw [h, word_be4] at h1
  exact h1.symm
/-- unlike domains or parts give unlike texts -/
theorem flat_inj : ∀ (a b : List (List UInt8)), (∀ p ∈ a, p.length < 4294967296) → (∀ p ∈ b, p.length < 4294967296) →
    (a.flatMap fun p => be4 (UInt32.ofNat p.length) ++ p) = (b.flatMap fun p => be4 (UInt32.ofNat p.length) ++ p) → a = b
  | [], [], _, _, _ => rfl
  | [], q :: b, _, _, h => by
    have := congrArg List.length h
    simp [be4_length] at this <;> omega
  | p :: a, [], _, _, h => by
    have := congrArg List.length h
    simp [be4_length] at this <;> omega
  | p :: a, q :: b, ha, hb, h => by
    simp only [List.flatMap_cons, List.append_assoc] at h
    obtain ⟨h1, h2⟩ := List.append_inj h rfl
    have h3 := congrArg UInt32.toNat (be4_inj h1)
    have hp := ha p (by simp)
    have hq := hb q (by simp)
    simp only [UInt32.toNat_ofNat'] at h3
    have hl : p.length = q.length := by omega
    obtain ⟨h4, h5⟩ := List.append_inj h2 hl
    rw [h4, flat_inj a b (fun x hx => ha x (by simp [hx])) (fun x hx => hb x (by simp [hx])) h5]
theorem input_inj {d e : UInt8} {a b : List (List UInt8)} (ha : ∀ p ∈ a, p.length < 4294967296) (hb : ∀ p ∈ b, p.length < 4294967296) : input d a = input e b ↔ d = e ∧ a = b := by
  constructor
  · intro h
    simp only [input, List.cons.injEq] at h
    exact ⟨h.1, flat_inj a b ha hb h.2⟩
  · rintro ⟨rfl, rfl⟩
    rfl
theorem sum_length (l : List UInt8) : (sum l).length = 32 := St.text_length _
theorem tag_length (d : UInt8) (ps : List (List UInt8)) : (tag d ps).length = 32 := St.text_length _
/-- a text, cut or filled with noughts to a length -/
def fit (n : Nat) (l : List UInt8) : List UInt8 := l.take n ++ List.replicate (n - (l.take n).length) 0
theorem fit_length (n : Nat) (l : List UInt8) : (fit n l).length = n := by simp [fit]; omega
/-- two unlike texts of a list have one sum -/
def Coll (L : List (List UInt8)) : Prop := ∃ x ∈ L, ∃ y ∈ L, x ≠ y ∧ sum x = sum y
theorem Coll.mono {L M : List (List UInt8)} (h : Coll L) (hs : ∀ x ∈ L, x ∈ M) : Coll M := by
  obtain ⟨x, hx, y, hy, hne, he⟩ := h
  exact ⟨x, hs x hx, y, hs y hy, hne, he⟩
theorem Coll.of {x y : List UInt8} {L : List (List UInt8)} (hx : x ∈ L) (hy : y ∈ L) (he : sum x = sum y) : x = y ∨ Coll L := by
  by_cases h : x = y
  · exact .inl h
  · exact .inr ⟨x, hx, y, hy, h, he⟩
end Go.Proofs.YtmifllopcbjliaaDoor.V
