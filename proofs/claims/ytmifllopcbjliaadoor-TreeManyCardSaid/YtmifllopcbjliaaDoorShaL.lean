/- Plain laws of SHA-256: a state out of its text; going on block by block; what the padding holds. -/
import Derived.Test.YtmifllopcbjliaaDoorShaM
namespace Go.Proofs.YtmifllopcbjliaaDoor.V

theorem word_be4 (x : UInt32) (r : List UInt8) : wordOf (be4 x ++ r) = x := by
  apply UInt32.toNat_inj.1
  have hx := x.toNat_lt
  simp only [wordOf, be4, nth, List.cons_append, List.nil_append, List.getElem?_cons_zero, List.getElem?_cons_succ, Option.getD_some, shl32, shr32, UInt32.toNat_or, UInt32.toNat_ofNat', UInt8.toNat_toUInt32, UInt32.toNat_toUInt8]
  generalize x.toNat = n at hx ⊢
  apply Nat.eq_of_testBit_eq
  intro i
  have h32 : ∀ j, 32 ≤ j → n.testBit j = false := fun j hj => Nat.testBit_lt_two_pow (Nat.lt_of_lt_of_le hx (Nat.pow_le_pow_right (by decide) hj))
  simp only [← Nat.shiftLeft_eq, ← Nat.shiftRight_eq_div_pow, Nat.testBit_or, Nat.testBit_mod_two_pow, Nat.testBit_shiftLeft, Nat.testBit_shiftRight]
  by_cases a : 32 ≤ i
  · rw [h32 i a]; simp; omega
  · by_cases b : 24 ≤ i
    · have : 24 + (i - 24) = i := by omega
      rw [this]; generalize n.testBit i = b; cases b <;> simp <;> omega
    · by_cases c : 16 ≤ i
      · have : 16 + (i - 16) = i := by omega
        rw [this]; generalize n.testBit i = b; cases b <;> simp <;> omega
      · by_cases d : 8 ≤ i
        · have : 8 + (i - 8) = i := by omega
          rw [this]; generalize n.testBit i = b; cases b <;> simp <;> omega
        · generalize n.testBit i = b; cases b <;> simp <;> omega

theorem be4_length (x : UInt32) : (be4 x).length = 4 := rfl
theorem readSt_text (s : St) : readSt s.text = s := by
  obtain ⟨a, b, c, d, e, f, g, h⟩ := s
  have drop4 : ∀ (x : UInt32) (r : List UInt8), (be4 x ++ r).drop 4 = r := fun x r => rfl
  have e : (St.mk a b c d e f g h).text = be4 a ++ (be4 b ++ (be4 c ++ (be4 d ++ (be4 e ++ (be4 f ++ (be4 g ++ (be4 h ++ []))))))) := rfl
  rw [e]
  unfold readSt
  have d8 : ∀ (l : List UInt8), l.drop 8 = (l.drop 4).drop 4 := fun l => by rw [List.drop_drop]
  have d12 : ∀ (l : List UInt8), l.drop 12 = ((l.drop 4).drop 4).drop 4 := fun l => by simp only [List.drop_drop]
  have d16 : ∀ (l : List UInt8), l.drop 16 = (((l.drop 4).drop 4).drop 4).drop 4 := fun l => by simp only [List.drop_drop]
  have d20 : ∀ (l : List UInt8), l.drop 20 = ((((l.drop 4).drop 4).drop 4).drop 4).drop 4 := fun l => by simp only [List.drop_drop]
  have d24 : ∀ (l : List UInt8), l.drop 24 = (((((l.drop 4).drop 4).drop 4).drop 4).drop 4).drop 4 := fun l => by simp only [List.drop_drop]
  have d28 : ∀ (l : List UInt8), l.drop 28 = ((((((l.drop 4).drop 4).drop 4).drop 4).drop 4).drop 4).drop 4 := fun l => by simp only [List.drop_drop]
  rw [d8, d12, d16, d20, d24, d28]
  simp only [drop4, word_be4]

theorem eat_append (m n : Nat) : ∀ (v : St) (x y : List UInt8), x.length = 64 * m → eat (m + n) v (x ++ y) = eat n (eat m v x) y := by
  induction m with
  | zero =>
    intro v x y h
    obtain rfl : x = [] := List.eq_nil_of_length_eq_zero (by omega)
    simp [eat]
  | succ m ih =>
    intro v x y h
    rw [Nat.succ_add, eat, eat, List.take_append_of_le_length (by omega), List.drop_append_of_le_length (by omega)]
    exact ih _ _ _ (by rw [List.length_drop]; omega)

/-- THE SUM GOES ON: behind a text and its padding -/
theorem sum_on (s t : List UInt8) : eat ((t ++ pad ((s ++ pad s.length).length + t.length)).length / 64) (sumSt s) (t ++ pad ((s ++ pad s.length).length + t.length)) = sumSt ((s ++ pad s.length) ++ t) := by
  have h1 := pad_len s.length
  have h2 := pad_len ((s ++ pad s.length).length + t.length)
  have e : sumSt ((s ++ pad s.length) ++ t) = eat (((s ++ pad s.length) ++ (t ++ pad ((s ++ pad s.length).length + t.length))).length / 64) first ((s ++ pad s.length) ++ (t ++ pad ((s ++ pad s.length).length + t.length))) := by
    unfold sumSt
    simp only [List.length_append, List.append_assoc, Nat.add_assoc]
  rw [e]
  have hl : (s ++ pad s.length).length = 64 * ((s ++ pad s.length).length / 64) := by rw [List.length_append]; omega
  generalize hA : s ++ pad s.length = A at *
  generalize hR : t ++ pad (A.length + t.length) = R at *
  have hq : (A ++ R).length / 64 = A.length / 64 + R.length / 64 := by rw [List.length_append]; omega
  rw [hq, eat_append _ _ _ _ _ hl]
  congr 1
  unfold sumSt
  rw [hA]

def padTail (n : Nat) : List UInt8 := be4 (UInt64.toUInt32 (shr64 (8 * UInt64.ofNat n) 32)) ++ be4 (8 * UInt32.ofNat n)
theorem pad_length (n : Nat) : (pad n).length = noughts n + 9 := by simp [pad, be4]
theorem pad_first (n : Nat) : nth (pad n) 0 = 128 := rfl
theorem pad_mid (n i : Nat) (h0 : 1 ≤ i) (h1 : i < noughts n + 1) : nth (pad n) i = 0 := by
  obtain ⟨j, rfl⟩ : ∃ j, i = j + 1 := ⟨i - 1, by omega⟩
  unfold nth pad
  rw [List.getElem?_cons_succ, List.getElem?_append_left (by simp; omega)]
  simp only [List.getElem?_replicate]
  split <;> rfl
theorem pad_last (n j : Nat) (hn : n < 2305843009213693952) (h : j < 8) : (nth (pad n) (noughts n + 1 + j)).toNat = 8 * n / 256 ^ (7 - j) % 256 := by
  have e : nth (pad n) (noughts n + 1 + j) = nth (padTail n) j := by
    unfold nth pad padTail
    rw [show noughts n + 1 + j = (noughts n + j) + 1 by omega, List.getElem?_cons_succ, List.getElem?_append_right (by simp)]
    simp
  rw [e]
  have hj : j = 0 ∨ j = 1 ∨ j = 2 ∨ j = 3 ∨ j = 4 ∨ j = 5 ∨ j = 6 ∨ j = 7 := by omega
  rcases hj with rfl | rfl | rfl | rfl | rfl | rfl | rfl | rfl <;>
    simp [nth, padTail, be4, shr32, shr64] <;> omega
/-- the padding tells how long the text was -/
theorem pad_inj {n m : Nat} (hn : n < 2305843009213693952) (hm : m < 2305843009213693952) (h : pad n = pad m) : n = m := by
  have hl : noughts n = noughts m := by
    have := congrArg List.length h
    rw [pad_length, pad_length] at this
    omega
  have hb : ∀ j < 8, 8 * n / 256 ^ (7 - j) % 256 = 8 * m / 256 ^ (7 - j) % 256 := fun j hj => by
    rw [← pad_last n j hn hj, ← pad_last m j hm hj, h, hl]
  have h0 := hb 0 (by decide)
  have h1 := hb 1 (by decide)
  have h2 := hb 2 (by decide)
  have h3 := hb 3 (by decide)
  have h4 := hb 4 (by decide)
  have h5 := hb 5 (by decide)
  have h6 := hb 6 (by decide)
  have h7 := hb 7 (by decide)
  simp at h0 h1 h2 h3 h4 h5 h6 h7
  omega
theorem long_step (n j : Nat) (hj : j < 8) : 256 * (8 * n / 256 ^ (8 - j)) + 8 * n / 256 ^ (7 - j) % 256 = 8 * n / 256 ^ (8 - (j + 1)) := by
  have e1 : 8 - (j + 1) = 7 - j := by omega
  have e2 : 256 ^ (8 - j) = 256 ^ (7 - j) * 256 := by rw [show 8 - j = (7 - j) + 1 by omega, Nat.pow_succ]
  rw [e1, e2, ← Nat.div_div_eq_div_mul]
  have := Nat.div_add_mod (8 * n / 256 ^ (7 - j)) 256
  omega
/-- which of n things a raw number speaks of -/
def pickN (c : Int) (n : Nat) : Nat := ((if c < 0 then -(c + 1) else c) % n).toNat
theorem pickN_lt (c : Int) (n : Nat) (h : 0 < n) : pickN c n < n := by
  unfold pickN
  have := Int.emod_lt_of_pos (if c < 0 then -(c + 1) else c) (b := n) (by omega)
  have := Int.emod_nonneg (if c < 0 then -(c + 1) else c) (b := n) (by omega)
  omega
end Go.Proofs.YtmifllopcbjliaaDoor.V
