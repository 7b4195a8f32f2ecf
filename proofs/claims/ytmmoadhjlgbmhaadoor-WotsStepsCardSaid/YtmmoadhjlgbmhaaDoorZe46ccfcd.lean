import Derived.Test.YtmmoadhjlgbmhaaDoorZ6cf0c1ef
import Derived.Test.YtmmoadhjlgbmhaaDoorZ615b4703
section
/- SHA-256 as plain mathematics: words, rounds, blocks, sums; no program in sight. -/
namespace Go.Proofs.YtmmoadhjlgbmhaaDoor.V

def wordOf (l : List UInt8) : UInt32 := shl32 (nth l 0).toUInt32 24 ||| shl32 (nth l 1).toUInt32 16 ||| shl32 (nth l 2).toUInt32 8 ||| (nth l 3).toUInt32
/-- turned to the right -/
def ror (x : UInt32) (n : Nat) : UInt32 := shl32 x (32 - n) ||| shr32 x n
def be4 (x : UInt32) : List UInt8 := [(shr32 x 24).toUInt8, (shr32 x 16).toUInt8, (shr32 x 8).toUInt8, x.toUInt8]

structure St where
  a : UInt32
  b : UInt32
  c : UInt32
  d : UInt32
  e : UInt32
  f : UInt32
  g : UInt32
  h : UInt32

/-- a round -/
def rnd (s : St) (kw : UInt32) : St :=
  let t := s.h + (ror s.e 6 ^^^ ror s.e 11 ^^^ ror s.e 25) + (s.e &&& s.f ^^^ ~~~s.e &&& s.g) + kw
  let u := (ror s.a 2 ^^^ ror s.a 13 ^^^ ror s.a 22) + (s.a &&& s.b ^^^ s.a &&& s.c ^^^ s.b &&& s.c)
  ⟨t + u, s.a, s.b, s.c, s.d + t, s.e, s.f, s.g⟩
def St.add (s t : St) : St := ⟨s.a + t.a, s.b + t.b, s.c + t.c, s.d + t.d, s.e + t.e, s.f + t.f, s.g + t.g, s.h + t.h⟩
def St.words (s : St) : List UInt32 := [s.a, s.b, s.c, s.d, s.e, s.f, s.g, s.h]

def lget (l : List UInt32) (i : Nat) : UInt32 := l[i]?.getD 0
def sig0 (x : UInt32) : UInt32 := ror x 7 ^^^ ror x 18 ^^^ shr32 x 3
def sig1 (x : UInt32) : UInt32 := ror x 17 ^^^ ror x 19 ^^^ shr32 x 10
/-- the next word of a block's schedule -/
def nxt (blk : List UInt8) (l : List UInt32) : UInt32 :=
  if l.length < 16 then wordOf (blk.drop (4 * l.length)) else lget l (l.length - 16) + sig0 (lget l (l.length - 15)) + lget l (l.length - 7) + sig1 (lget l (l.length - 2))
def sched (blk : List UInt8) : Nat → List UInt32
  | 0 => []
  | n + 1 => sched blk n ++ [nxt blk (sched blk n)]
theorem sched_length (blk : List UInt8) (n : Nat) : (sched blk n).length = n := by
  induction n with
  | zero => rfl
  | succ n ih => simp [sched, ih]

def kTab : List UInt32 := [
  0x428a2f98, 0x71374491, 0xb5c0fbcf, 0xe9b5dba5, 0x3956c25b, 0x59f111f1, 0x923f82a4, 0xab1c5ed5,
  0xd807aa98, 0x12835b01, 0x243185be, 0x550c7dc3, 0x72be5d74, 0x80deb1fe, 0x9bdc06a7, 0xc19bf174,
  0xe49b69c1, 0xefbe4786, 0x0fc19dc6, 0x240ca1cc, 0x2de92c6f, 0x4a7484aa, 0x5cb0a9dc, 0x76f988da,
  0x983e5152, 0xa831c66d, 0xb00327c8, 0xbf597fc7, 0xc6e00bf3, 0xd5a79147, 0x06ca6351, 0x14292967,
  0x27b70a85, 0x2e1b2138, 0x4d2c6dfc, 0x53380d13, 0x650a7354, 0x766a0abb, 0x81c2c92e, 0x92722c85,
  0xa2bfe8a1, 0xa81a664b, 0xc24b8b70, 0xc76c51a3, 0xd192e819, 0xd6990624, 0xf40e3585, 0x106aa070,
  0x19a4c116, 0x1e376c08, 0x2748774c, 0x34b0bcb5, 0x391c0cb3, 0x4ed8aa4a, 0x5b9cca4f, 0x682e6ff3,
  0x748f82ee, 0x78a5636f, 0x84c87814, 0x8cc70208, 0x90befffa, 0xa4506ceb, 0xbef9a3f7, 0xc67178f2]
def first : St := ⟨0x6a09e667, 0xbb67ae85, 0x3c6ef372, 0xa54ff53a, 0x510e527f, 0x9b05688c, 0x1f83d9ab, 0x5be0cd19⟩

def rounds (v : St) (w : List UInt32) : Nat → St
  | 0 => v
  | n + 1 => rnd (rounds v w n) (lget kTab n + lget w n)
/-- the state behind a block -/
def mixed (v : St) (blk : List UInt8) : St := v.add (rounds v (sched blk 64) 64)

def St.text (s : St) : List UInt8 := s.words.flatMap be4
theorem flat_be4_length (l : List UInt32) : (l.flatMap be4).length = 4 * l.length := by
  induction l with
  | nil => rfl
  | cons x l ih => simp only [List.flatMap_cons, List.length_append, ih, List.length_cons]; simp [be4]; omega
theorem take_words (s : St) (n : Nat) (h : n < 8) : (s.words.take (n + 1)).flatMap be4 = (s.words.take n).flatMap be4 ++ be4 (lget s.words n) := by
  have h1 : n < s.words.length := h
  rw [List.take_succ_eq_append_getElem h1, List.flatMap_append]
  simp [lget, h1]
def readSt (l : List UInt8) : St := ⟨wordOf l, wordOf (l.drop 4), wordOf (l.drop 8), wordOf (l.drop 12), wordOf (l.drop 16), wordOf (l.drop 20), wordOf (l.drop 24), wordOf (l.drop 28)⟩
theorem St.text_length (s : St) : s.text.length = 32 := by simp [St.text, St.words, be4]

/-- block by block -/
def eat : Nat → St → List UInt8 → St
  | 0, v, _ => v
  | n + 1, v, l => eat n (mixed v (l.take 64)) (l.drop 64)
def noughts (n : Nat) : Nat := (119 - n % 64) % 64
def pad (n : Nat) : List UInt8 := 128 :: (List.replicate (noughts n) 0 ++ (be4 (UInt64.toUInt32 (shr64 (8 * UInt64.ofNat n) 32)) ++ be4 (8 * UInt32.ofNat n)))
theorem pad_len (n : Nat) : 9 ≤ (pad n).length ∧ (pad n).length ≤ 72 ∧ (n + (pad n).length) % 64 = 0 := by
  have : (pad n).length = noughts n + 9 := by simp [pad, be4]
  rw [this]
  unfold noughts
  omega
def sumSt (l : List UInt8) : St := eat ((l ++ pad l.length).length / 64) first (l ++ pad l.length)
def sum (l : List UInt8) : List UInt8 := (sumSt l).text
def input (d : UInt8) (ps : List (List UInt8)) : List UInt8 := d :: ps.flatMap fun p => be4 (UInt32.ofNat p.length) ++ p
def tag (d : UInt8) (ps : List (List UInt8)) : List UInt8 := sum (input d ps)
end Go.Proofs.YtmmoadhjlgbmhaaDoor.V
end
section
/- Plain laws of SHA-256: a state out of its text; going on block by block; what the padding holds. -/
namespace Go.Proofs.YtmmoadhjlgbmhaaDoor.V

theorem word_be4 (x : UInt32) (r : List UInt8) : wordOf (be4 x ++ r) = x := by
  apply UInt32.toNat_inj.1
  have hx := x.toNat_lt
  simp only [wordOf, be4, nth, List.cons_append, List.nil_append, List.getElem?_cons_zero, List.getElem?_cons_succ, Option.getD_some, shl32, shr32, UInt32.toNat_or, UInt32.toNat_ofNat', UInt8.toNat_toUInt32, UInt32.toNat_toUInt8]
  generalize x.toNat = n at hx ⊢
  apply Nat.eq_of_testBit_eq
  intro i
  have h32 : ∀ j, 32 ≤ j → n.testBit j = false := fun j hj => Nat.testBit_lt_two_pow (Nat.lt_of_lt_of_le hx (Nat.pow_le_pow_right (by decide) hj))
  simp only [← Nat.shiftLeft_eq, ← Nat.shiftRight_eq_div_pow, Nat.testBit_or, Nat.testBit_mod_two_pow, Nat.testBit_shiftLeft, Nat.testBit_shiftRight]
  by_cases a : 32 ≤ i
  · rw [h32 i a]; simp; omega
  · by_cases b : 24 ≤ i
    · have : 24 + (i - 24) = i := by omega
      rw [this]; generalize n.testBit i = b; cases b <;> simp <;> omega
    · by_cases c : 16 ≤ i
      · have : 16 + (i - 16) = i := by omega
        rw [this]; generalize n.testBit i = b; cases b <;> simp <;> omega
      · by_cases d : 8 ≤ i
        · have : 8 + (i - 8) = i := by omega
          rw [this]; generalize n.testBit i = b; cases b <;> simp <;> omega
        · generalize n.testBit i = b; cases b <;> simp <;> omega

theorem be4_length (x : UInt32) : (be4 x).length = 4 := rfl
theorem readSt_text (s : St) : readSt s.text = s := by
  obtain ⟨a, b, c, d, e, f, g, h⟩ := s
  have drop4 : ∀ (x : UInt32) (r : List UInt8), (be4 x ++ r).drop 4 = r := fun x r => rfl
  have e : (St.mk a b c d e f g h).text = be4 a ++ (be4 b ++ (be4 c ++ (be4 d ++ (be4 e ++ (be4 f ++ (be4 g ++ (be4 h ++ []))))))) := rfl
  rw [e]
  unfold readSt
  have d8 : ∀ (l : List UInt8), l.drop 8 = (l.drop 4).drop 4 := fun l => by rw [List.drop_drop]
  have d12 : ∀ (l : List UInt8), l.drop 12 = ((l.drop 4).drop 4).drop 4 := fun l => by simp only [List.drop_drop]
  have d16 : ∀ (l : List UInt8), l.drop 16 = (((l.drop 4).drop 4).drop 4).drop 4 := fun l => by simp only [List.drop_drop]
  have d20 : ∀ (l : List UInt8), l.drop 20 = ((((l.drop 4).drop 4).drop 4).drop 4).drop 4 := fun l => by simp only [List.drop_drop]
  have d24 : ∀ (l : List UInt8), l.drop 24 = (((((l.drop 4).drop 4).drop 4).drop 4).drop 4).drop 4 := fun l => by simp only [List.drop_drop]
  have d28 : ∀ (l : List UInt8), l.drop 28 = ((((((l.drop 4).drop 4).drop 4).drop 4).drop 4).drop 4).drop 4 := fun l => by simp only [List.drop_drop]
  rw [d8, d12, d16, d20, d24, d28]
  simp only [drop4, word_be4]

theorem eat_append (m n : Nat) : ∀ (v : St) (x y : List UInt8), x.length = 64 * m → eat (m + n) v (x ++ y) = eat n (eat m v x) y := by
  induction m with
  | zero =>
    intro v x y h
    obtain rfl : x = [] := List.eq_nil_of_length_eq_zero (by omega)
    simp [eat]
  | succ m ih =>
    intro v x y h
    rw [Nat.succ_add, eat, eat, List.take_append_of_le_length (by omega), List.drop_append_of_le_length (by omega)]
    exact ih _ _ _ (by rw [List.length_drop]; omega)

/-- THE SUM GOES ON: behind a text and its padding -/
theorem sum_on (s t : List UInt8) : eat ((t ++ pad ((s ++ pad s.length).length + t.length)).length / 64) (sumSt s) (t ++ pad ((s ++ pad s.length).length + t.length)) = sumSt ((s ++ pad s.length) ++ t) := by
  have h1 := pad_len s.length
  have h2 := pad_len ((s ++ pad s.length).length + t.length)
  have e : sumSt ((s ++ pad s.length) ++ t) = eat (((s ++ pad s.length) ++ (t ++ pad ((s ++ pad s.length).length + t.length))).length / 64) first ((s ++ pad s.length) ++ (t ++ pad ((s ++ pad s.length).length + t.length))) := by
    unfold sumSt
    simp only [List.length_append, List.append_assoc, Nat.add_assoc]
  rw [e]
  have hl : (s ++ pad s.length).length = 64 * ((s ++ pad s.length).length / 64) := by rw [List.length_append]; omega
  generalize hA : s ++ pad s.length = A at *
  generalize hR : t ++ pad (A.length + t.length) = R at *
  have hq : (A ++ R).length / 64 = A.length / 64 + R.length / 64 := by rw [List.length_append]; omega
  rw [hq, eat_append _ _ _ _ _ hl]
  congr 1
  unfold sumSt
  rw [hA]

def padTail (n : Nat) : List UInt8 := be4 (UInt64.toUInt32 (shr64 (8 * UInt64.ofNat n) 32)) ++ be4 (8 * UInt32.ofNat n)
theorem pad_length (n : Nat) : (pad n).length = noughts n + 9 := by simp [pad, be4]
theorem pad_first (n : Nat) : nth (pad n) 0 = 128 := rfl
theorem pad_mid (n i : Nat) (h0 : 1 ≤ i) (h1 : i < noughts n + 1) : nth (pad n) i = 0 := by
  obtain ⟨j, rfl⟩ : ∃ j, i = j + 1 := ⟨i - 1, by omega⟩
  unfold nth pad
  rw [List.getElem?_cons_succ, List.getElem?_append_left (by simp; omega)]
  simp only [List.getElem?_replicate]
  split <;> rfl
theorem pad_last (n j : Nat) (hn : n < 2305843009213693952) (h : j < 8) : (nth (pad n) (noughts n + 1 + j)).toNat = 8 * n / 256 ^ (7 - j) % 256 := by
  have e : nth (pad n) (noughts n + 1 + j) = nth (padTail n) j := by
    unfold nth pad padTail
    rw [show noughts n + 1 + j = (noughts n + j) + 1 by omega, List.getElem?_cons_succ, List.getElem?_append_right (by simp)]
    simp
  rw [e]
  have hj : j = 0 ∨ j = 1 ∨ j = 2 ∨ j = 3 ∨ j = 4 ∨ j = 5 ∨ j = 6 ∨ j = 7 := by omega
  rcases hj with rfl | rfl | rfl | rfl | rfl | rfl | rfl | rfl <;>
    simp [nth, padTail, be4, shr32, shr64] <;> omega
/-- the padding tells how long the text was -/
theorem pad_inj {n m : Nat} (hn : n < 2305843009213693952) (hm : m < 2305843009213693952) (h : pad n = pad m) : n = m := by
  have hl : noughts n = noughts m := by
    have := congrArg List.length h
    rw [pad_length, pad_length] at this
    omega
  have hb : ∀ j < 8, 8 * n / 256 ^ (7 - j) % 256 = 8 * m / 256 ^ (7 - j) % 256 := fun j hj => by
    rw [← pad_last n j hn hj, ← pad_last m j hm hj, h, hl]
  have h0 := hb 0 (by decide)
  have h1 := hb 1 (by decide)
  have h2 := hb 2 (by decide)
  have h3 := hb 3 (by decide)
  have h4 := hb 4 (by decide)
  have h5 := hb 5 (by decide)
  have h6 := hb 6 (by decide)
  have h7 := hb 7 (by decide)
  simp at h0 h1 h2 h3 h4 h5 h6 h7
  omega
theorem long_step (n j : Nat) (hj : j < 8) : 256 * (8 * n / 256 ^ (8 - j)) + 8 * n / 256 ^ (7 - j) % 256 = 8 * n / 256 ^ (8 - (j + 1)) := by
  have e1 : 8 - (j + 1) = 7 - j := by omega
  have e2 : 256 ^ (8 - j) = 256 ^ (7 - j) * 256 := by rw [show 8 - j = (7 - j) + 1 by omega, Nat.pow_succ]
  rw [e1, e2, ← Nat.div_div_eq_div_mul]
  have := Nat.div_add_mod (8 * n / 256 ^ (7 - j)) 256
  omega
/-- which of n things a raw number speaks of -/
def pickN (c : Int) (n : Nat) : Nat := ((if c < 0 then -(c + 1) else c) % n).toNat
theorem pickN_lt (c : Int) (n : Nat) (h : 0 < n) : pickN c n < n := by
  unfold pickN
  have := Int.emod_lt_of_pos (if c < 0 then -(c + 1) else c) (b := n) (by omega)
  have := Int.emod_nonneg (if c < 0 then -(c + 1) else c) (b := n) (by omega)
  omega
end Go.Proofs.YtmmoadhjlgbmhaaDoor.V
end
section
/- A text of parts tells its parts; noughts behind a text. No program in sight. -/
namespace Go.Proofs.YtmmoadhjlgbmhaaDoor.V

theorem be4_inj {x y : UInt32} (h : be4 x = be4 y) : x = y := by
  have h1 := word_be4 x []
  rw [h, word_be4] at h1
  exact h1.symm
/-- unlike domains or parts give unlike texts -/
theorem flat_inj : ∀ (a b : List (List UInt8)), (∀ p ∈ a, p.length < 4294967296) → (∀ p ∈ b, p.length < 4294967296) →
    (a.flatMap fun p => be4 (UInt32.ofNat p.length) ++ p) = (b.flatMap fun p => be4 (UInt32.ofNat p.length) ++ p) → a = b
  | [], [], _, _, _ => rfl
  | [], q :: b, _, _, h => by
    have := congrArg List.length h
    simp [be4_length] at this <;> omega
  | p :: a, [], _, _, h => by
    have := congrArg List.length h
    simp [be4_length] at this <;> omega
  | p :: a, q :: b, ha, hb, h => by
    simp only [List.flatMap_cons, List.append_assoc] at h
    obtain ⟨h1, h2⟩ := List.append_inj h rfl
    have h3 := congrArg UInt32.toNat (be4_inj h1)
    have hp := ha p (by simp)
    have hq := hb q (by simp)
    simp only [UInt32.toNat_ofNat'] at h3
    have hl : p.length = q.length := by omega
    obtain ⟨h4, h5⟩ := List.append_inj h2 hl
    rw [h4, flat_inj a b (fun x hx => ha x (by simp [hx])) (fun x hx => hb x (by simp [hx])) h5]
theorem input_inj {d e : UInt8} {a b : List (List UInt8)} (ha : ∀ p ∈ a, p.length < 4294967296) (hb : ∀ p ∈ b, p.length < 4294967296) : input d a = input e b ↔ d = e ∧ a = b := by
  constructor
  · intro h
    simp only [input, List.cons.injEq] at h
    exact ⟨h.1, flat_inj a b ha hb h.2⟩
  · rintro ⟨rfl, rfl⟩
    rfl
theorem sum_length (l : List UInt8) : (sum l).length = 32 := St.text_length _
theorem tag_length (d : UInt8) (ps : List (List UInt8)) : (tag d ps).length = 32 := St.text_length _
/-- a text, cut or filled with noughts to a length -/
def fit (n : Nat) (l : List UInt8) : List UInt8 := l.take n ++ List.replicate (n - (l.take n).length) 0
theorem fit_length (n : Nat) (l : List UInt8) : (fit n l).length = n := by simp [fit]; omega
/-- two unlike texts of a list have one sum -/
def Coll (L : List (List UInt8)) : Prop := ∃ x ∈ L, ∃ y ∈ L, x ≠ y ∧ sum x = sum y
theorem Coll.mono {L M : List (List UInt8)} (h : Coll L) (hs : ∀ x ∈ L, x ∈ M) : Coll M := by
  obtain ⟨x, hx, y, hy, hne, he⟩ := h
  exact ⟨x, hs x hx, y, hs y hy, hne, he⟩
theorem Coll.of {x y : List UInt8} {L : List (List UInt8)} (hx : x ∈ L) (hy : y ∈ L) (he : sum x = sum y) : x = y ∨ Coll L := by
  by_cases h : x = y
  · exact .inl h
  · exact .inr ⟨x, hx, y, hy, h, he⟩
end Go.Proofs.YtmmoadhjlgbmhaaDoor.V
end
section
/- What layer 5 computes, in plain Lean: digits, steps, walks, keys, signatures; and the stage's theorems on them. -/
namespace Go.Proofs.YtmmoadhjlgbmhaaDoor.V
abbrev Txw := List UInt8
def nrm (n : Int) : Nat := if n < 0 ∨ 4294967296 < n then 0 else n.toNat
theorem nrm_le (n : Int) : nrm n ≤ 4294967296 := by unfold nrm; split <;> omega
def laidN (n : Int) : Txw := beS (UInt64.ofNat (nrm n)) 8
theorem laidN_length (n : Int) : (laidN n).length = 8 := beS_length _ _
def hiD (d : Txw) (i : Nat) : Nat := (nth d i).toNat / 16
def loD (d : Txw) (i : Nat) : Nat := (nth d i).toNat % 16
theorem hiD_lt (d : Txw) (i : Nat) : hiD d i < 16 := by unfold hiD; have := (nth d i).toNat_lt; omega
theorem loD_lt (d : Txw) (i : Nat) : loD d i < 16 := by unfold loD; omega
def dgs (d : Txw) : Nat → List Nat
  | 0 => []
  | m + 1 => dgs d m ++ [hiD d m, loD d m]
def lackD (d : Txw) : Nat → Nat
  | 0 => 0
  | m + 1 => lackD d m + (30 - hiD d m - loD d m)
theorem dgs_length (d : Txw) : ∀ m, (dgs d m).length = 2 * m
  | 0 => rfl
  | m + 1 => by simp [dgs, dgs_length d m]; omega
theorem lackD_le (d : Txw) : ∀ m, lackD d m ≤ 30 * m
  | 0 => Nat.le_refl _
  | m + 1 => by have := lackD_le d m; simp only [lackD]; omega
def digitsD (d : Txw) : List Nat := dgs d 4 ++ [lackD d 4 / 16, lackD d 4 % 16]
def digitsT (msg : Txw) : List Nat := digitsD (tag 1 [msg])
theorem digitsT_length (msg : Txw) : (digitsT msg).length = 10 := by simp [digitsT, digitsD, dgs_length]
def nget (l : List Nat) (i : Nat) : Nat := l[i]?.getD 0
/-- the digits, one by one -/
theorem digitsD_list (d : Txw) : digitsD d = [hiD d 0, loD d 0, hiD d 1, loD d 1, hiD d 2, loD d 2, hiD d 3, loD d 3, lackD d 4 / 16, lackD d 4 % 16] := rfl
theorem digits_ten (d : Txw) : ∃ a0 a1 a2 a3 a4 a5 a6 a7 a8 a9 : Nat, digitsD d = [a0, a1, a2, a3, a4, a5, a6, a7, a8, a9] ∧ a0 < 16 ∧ a1 < 16 ∧ a2 < 16 ∧ a3 < 16 ∧ a4 < 16 ∧ a5 < 16 ∧ a6 < 16 ∧ a7 < 16 ∧ a8 < 16 ∧ a9 < 16 ∧
    (15 - a0) + (15 - a1) + (15 - a2) + (15 - a3) + (15 - a4) + (15 - a5) + (15 - a6) + (15 - a7) = 16 * a8 + a9 := by
  have h0 := hiD_lt d 0; have h1 := loD_lt d 0; have h2 := hiD_lt d 1; have h3 := loD_lt d 1; have h4 := hiD_lt d 2; have h5 := loD_lt d 2; have h6 := hiD_lt d 3; have h7 := loD_lt d 3
  refine ⟨_, _, _, _, _, _, _, _, _, _, digitsD_list d, h0, h1, h2, h3, h4, h5, h6, h7, ?_, ?_, ?_⟩
  · have := lackD_le d 4; omega
  · omega
  · simp only [lackD]; omega
theorem digits_lt (d : Txw) (i : Nat) : nget (digitsD d) i < 16 := by
  obtain ⟨a0, a1, a2, a3, a4, a5, a6, a7, a8, a9, he, h0, h1, h2, h3, h4, h5, h6, h7, h8, h9, _⟩ := digits_ten d
  rw [he]
  match i with
  | 0 => exact h0
  | 1 => exact h1
  | 2 => exact h2
  | 3 => exact h3
  | 4 => exact h4
  | 5 => exact h5
  | 6 => exact h6
  | 7 => exact h7
  | 8 => exact h8
  | 9 => exact h9
  | _ + 10 => exact (by decide : (0 : Nat) < 16)
def wstep (c a : Int) (v : Txw) : Txw := (tag 2 [laidN c, laidN a, v]).take 16
theorem wstep_length (c a : Int) (v : Txw) : (wstep c a v).length = 16 := by simp [wstep, tag_length]
def walkN (c : Int) : Nat → Int → Txw → Txw
  | 0, _, v => v
  | n + 1, a, v => walkN c n (a + 1) (wstep c a v)
def walkT (c a b : Int) (v : Txw) : Txw := if a < 0 ∨ 15 < b then v else walkN c (b - a).toNat a v
theorem walkN_add (c : Int) : ∀ (m n : Nat) (a : Int) (v : Txw), walkN c (m + n) a v = walkN c n (a + m) (walkN c m a v)
  | 0, n, a, v => by simp [walkN]
  | m + 1, n, a, v => by
    rw [show m + 1 + n = (m + n) + 1 by omega]
    show walkN c (m + n) (a + 1) (wstep c a v) = walkN c n (a + ((m + 1 : Nat) : Int)) (walkN c m (a + 1) (wstep c a v))
    rw [walkN_add c m n]
    congr 1
    omega
theorem walkN_length (c : Int) : ∀ (n : Nat) (a : Int) (v : Txw), v.length = 16 → (walkN c n a v).length = 16
  | 0, _, _, h => h
  | n + 1, a, v, _ => walkN_length c n _ _ (wstep_length c a v)
theorem walkT_length (c a b : Int) (v : Txw) (h : v.length = 16) : (walkT c a b v).length = 16 := by
  unfold walkT
  split
  · exact h
  · exact walkN_length _ _ _ _ h
/-- to walk on from where one came is to walk all the way -/
theorem walk_on (c : Int) (a b e : Nat) (v : Txw) (h1 : a ≤ b) (h2 : b ≤ e) (h3 : e ≤ 15) : walkT c b e (walkT c a b v) = walkT c a e v := by
  unfold walkT
  rw [if_neg (by omega), if_neg (by omega), if_neg (by omega)]
  rw [show ((e : Int) - (a : Int)).toNat = (b - a) + (e - b) by omega, walkN_add, show ((b : Int) - (a : Int)).toNat = b - a by omega, show ((e : Int) - (b : Int)).toNat = e - b by omega]
  congr 1
  omega
theorem walk_stay (c : Int) (b : Int) (v : Txw) : walkT c b b v = v := by
  unfold walkT
  split
  · rfl
  · rw [show (b - b).toNat = 0 by omega]; rfl
def secretT (seed : Txw) (leaf c : Int) : Txw := (tag 3 [seed, laidN leaf, laidN c]).take 16
theorem secretT_length (seed : Txw) (leaf c : Int) : (secretT seed leaf c).length = 16 := by simp [secretT, tag_length]
/-- one behind the other -/
def joinL (f : Nat → Txw) : Nat → Txw
  | 0 => []
  | n + 1 => joinL f n ++ f n
def endsL (f : Nat → Txw) (n : Nat) : List Txw := (List.range n).map f
theorem endsL_succ (f : Nat → Txw) (n : Nat) : endsL f (n + 1) = endsL f n ++ [f n] := by simp [endsL, List.range_succ]
theorem endsL_length (f : Nat → Txw) (n : Nat) : (endsL f n).length = n := by simp [endsL]
theorem joinL_length (f : Nat → Txw) (h : ∀ c, (f c).length = 16) : ∀ n, (joinL f n).length = 16 * n
  | 0 => rfl
  | n + 1 => by rw [joinL, List.length_append, joinL_length f h n, h]; omega
theorem joinL_piece (f : Nat → Txw) (h : ∀ c, (f c).length = 16) : ∀ (n c : Nat), c < n → ((joinL f n).drop (16 * c)).take 16 = f c
  | n + 1, c, hc => by
    have hl := joinL_length f h n
    rw [joinL]
    by_cases hcn : c = n
    · subst hcn
      rw [List.drop_append_of_le_length (by omega), List.drop_of_length_le (by omega), List.nil_append, List.take_of_length_le (by rw [h]; omega)]
    · rw [List.drop_append_of_le_length (by omega), List.take_append_of_le_length (by rw [List.length_drop]; omega)]
      exact joinL_piece f h n c (by omega)
def pubF (seed : Txw) (leaf : Int) (c : Nat) : Txw := walkT c 0 15 (secretT seed leaf c)
def signF (seed : Txw) (leaf : Int) (d : List Nat) (c : Nat) : Txw := walkT c 0 (nget d c) (secretT seed leaf c)
def fromF (sig : Txw) (d : List Nat) (c : Nat) : Txw := walkT c (nget d c) 15 ((sig.drop (16 * c)).take 16)
def pubT (seed : Txw) (leaf : Int) : Txw := tag 4 (endsL (pubF seed leaf) 10)
def signT (seed : Txw) (leaf : Int) (msg : Txw) : Txw := joinL (signF seed leaf (digitsT msg)) 10
def fromT (sig msg : Txw) : Txw := if sig.length = 160 then tag 4 (endsL (fromF sig (digitsT msg)) 10) else []
theorem signF_length (seed : Txw) (leaf : Int) (d : List Nat) (c : Nat) : (signF seed leaf d c).length = 16 := walkT_length _ _ _ _ (secretT_length _ _ _)
theorem signT_length (seed : Txw) (leaf : Int) (msg : Txw) : (signT seed leaf msg).length = 160 := joinL_length _ (signF_length _ _ _) 10
/-- From of what was signed is the public key -/
theorem sign_ends (seed : Txw) (leaf : Int) (msg : Txw) (c : Nat) (hc : c < 10) : fromF (signT seed leaf msg) (digitsT msg) c = pubF seed leaf c := by
  unfold fromF signT
  rw [joinL_piece _ (signF_length _ _ _) 10 c hc]
  unfold signF pubF
  have := digits_lt (tag 1 [msg]) c
  exact walk_on c 0 (nget (digitsT msg) c) 15 _ (Nat.zero_le _) (by show nget (digitsD _) c ≤ 15; omega) (Nat.le_refl _)
theorem sign_back (seed : Txw) (leaf : Int) (msg : Txw) : fromT (signT seed leaf msg) msg = pubT seed leaf := by
  unfold fromT pubT
  rw [if_pos (signT_length _ _ _)]
  congr 1
  unfold endsL
  exact List.map_congr_left fun c hc => sign_ends seed leaf msg c (by simpa using hc)
theorem pubF_length (seed : Txw) (leaf : Int) (c : Nat) : (pubF seed leaf c).length = 16 := walkT_length _ _ _ _ (secretT_length _ _ _)
theorem fromF_length (sig : Txw) (d : List Nat) (c : Nat) (h : sig.length = 160) (hc : c < 10) : (fromF sig d c).length = 16 := walkT_length _ _ _ _ (by rw [List.length_take, List.length_drop]; omega)
/-- of unlike digits some one is lower in the one, and some other one in the other -/
theorem digits_apart (x y : Txw) (h : ∀ i, i < 10 → ¬ nget (digitsD x) i < nget (digitsD y) i) : digitsD x = digitsD y := by
  obtain ⟨a0, a1, a2, a3, a4, a5, a6, a7, a8, a9, ha, u0, u1, u2, u3, u4, u5, u6, u7, -, -, hs⟩ := digits_ten x
  obtain ⟨b0, b1, b2, b3, b4, b5, b6, b7, b8, b9, hb, v0, v1, v2, v3, v4, v5, v6, v7, -, -, ht⟩ := digits_ten y
  rw [ha, hb] at h
  have q0 : ¬ a0 < b0 := h 0 (by decide)
  have q1 : ¬ a1 < b1 := h 1 (by decide)
  have q2 : ¬ a2 < b2 := h 2 (by decide)
  have q3 : ¬ a3 < b3 := h 3 (by decide)
  have q4 : ¬ a4 < b4 := h 4 (by decide)
  have q5 : ¬ a5 < b5 := h 5 (by decide)
  have q6 : ¬ a6 < b6 := h 6 (by decide)
  have q7 : ¬ a7 < b7 := h 7 (by decide)
  have q8 : ¬ a8 < b8 := h 8 (by decide)
  have q9 : ¬ a9 < b9 := h 9 (by decide)
  rw [ha, hb]
  simp only [List.cons.injEq, and_true]
  omega
end Go.Proofs.YtmmoadhjlgbmhaaDoor.V
end
section
/- Layer 5, by abstract steps: numbers laid, digits, steps, walks; the document's own. -/
namespace Go.Proofs.YtmmoadhjlgbmhaaDoor.E
open Go Go.RowKit Go.Proofs.YtmmoadhjlgbmhaaDoor.V
attribute [local go_sem] B_size B_append B_extract mk_B B_toList take_drop_len List.length_drop List.length_take sgn32 sgn64 add32 sub32 mul32 add64 sub64 mul64 mul64_8 and32 or32 xor32 and64 or64 xor64 shl32_run shr32_run shl64_run shr64_run not32 not32' xor32_all w_u32_u8 w_u64_u8 w_i64_u8 w_u8_u32 w_u8_u64 w_u32_u64 w_u64_u32 w_u8_u8 w_u32_u32 w_u64_u64
attribute [local go_sem ↓] run_index_B' add32 sub32 mul32 add64 sub64 mul64 mul64_8 and32 or32 xor32 and64 or64 xor64 shl32_run shr32_run shl64_run shr64_run not32 not32' xor32_all w_u32_u8 w_u64_u8 w_i64_u8 w_u8_u32 w_u8_u64 w_u32_u64 w_u64_u32 w_u8_u8 w_u32_u32 w_u64_u64 w_u64_nat w_u32_nat w_u8_nat
theorem nrm_cases (n : Int) : n < 0 ∨ (0 ≤ n ∧ 4294967296 < n) ∨ (0 ≤ n ∧ n ≤ 4294967296) := by omega
theorem nrm_0 {n : Int} (h : n < 0 ∨ 4294967296 < n) : nrm n = 0 := if_pos h
theorem nrm_n {n : Int} (h : 0 ≤ n ∧ n ≤ 4294967296) : nrm n = n.toNat := if_neg (by omega)
theorem drop0 (x : UInt64) : [] ++ beS x 8 = beS x 8 := rfl
attribute [local irreducible] sum tag input
theorem laid_fc {G : List (Nat × Array Value)} (n : Int) : FC Tryd.prog G 38 [.v (.int .i64 n)] [] (sA (laidN n)) [] := by
  refine FC.of_wp [2] Tryd.func38 rfl rfl rfl rfl (by first | trivial | (simp; first | done | fail) | exact ⟨trivial, hbel _⟩) (by first | trivial | (simp; first | done | fail) | exact ⟨trivial, hbel _⟩) (by exact Nat.le_of_ble_eq_true rfl) ?_
  intro A hG hnA hAB
  unfold start
  refine WP.rs hG ?_
  refine Ch.pu gdN (by exact ⟨rfl, trivial⟩) (OpS.assign) (by first | exact trivial | exact ⟨rfl, trivial⟩) rfl ?_
  refine Ch.nil ?_
  refine WP.seqJ (fun σ => ∃ m : Nat, m = nrm n ∧ σ = ⟨17, ls [(0, .v (.int .i64 (m : Int)))], lh [], blt 0⟩) ?_ ?_
  · skip
    rcases nrm_cases n with hq | hq | hq
    · have hs := hq
      refine WP.rs hG ?_
      refine Ch.pu gdN (by exact ⟨rfl, trivial⟩) (OpS.move) (by first | exact trivial | exact ⟨rfl, trivial⟩) rfl ?_
      refine Ch.pu gdN (by exact ⟨rfl, rfl, trivial⟩) (OpS.int (v' := .bool true) rfl (by first | (simp [hs]; done) | (have hs2 := hs; simp; omega) | fail)) (by first | exact trivial | exact ⟨rfl, trivial⟩) rfl ?_
      refine Ch.pu gdN (by exact ⟨rfl, trivial⟩) (OpS.move) (by first | exact trivial | exact ⟨rfl, trivial⟩) rfl ?_
      refine Ch.skU (gdF rfl rfl rfl) rfl ?_
      refine Ch.skU (gdF rfl rfl rfl) rfl ?_
      refine Ch.pu gdN (by first | exact ⟨rfl, rfl, trivial⟩ | exact ⟨rfl, rfl, rfl, trivial⟩) (OpS.pickT) (by first | exact trivial | exact ⟨rfl, trivial⟩) rfl ?_
      refine Ch.nil ?_
      refine WP.cond_true rfl ?_
      refine WP.rg hG ?_
      refine Ch.pu gdN (by exact ⟨rfl, trivial⟩) (OpS.assign) (by first | exact trivial | exact ⟨rfl, trivial⟩) rfl ?_
      refine Ch.nil ?_
      refine ⟨_, (Ent.of [] ?_ ?_ ?_ ?_).se, 0, (nrm_0 (.inl hs)).symm, rfl⟩
      · exact (fun i hi => by rw [hnA] at hi; simp only [List.length_cons, List.length_nil] at hi ⊢; first | exact absurd hi (Nat.not_lt_zero _) | (revert i; decide))
      · (repeat (first | exact trivial | (refine And.intro ⟨(by first | trivial | (simp; first | done | fail) | exact ⟨trivial, hbel _⟩), _, rfl, (by first | exact .rfl _ | exact .nil | exact .of_eq (by simp; first | done | fail) | exact AV.wk.sh (by simp; first | done | fail) | exact .untip _ _ _)⟩ ?_)))
      · (repeat (first | exact trivial | (refine And.intro ⟨rfl, (by first | trivial | (simp; first | done | fail) | exact ⟨trivial, hbel _⟩), (by first | rfl | (simp; first | done | fail))⟩ ?_)))
      · simp [rn]
    · have hs := hq
      refine WP.rs hG ?_
      refine Ch.pu gdN (by exact ⟨rfl, trivial⟩) (OpS.move) (by first | exact trivial | exact ⟨rfl, trivial⟩) rfl ?_
      refine Ch.pu gdN (by exact ⟨rfl, rfl, trivial⟩) (OpS.int (v' := .bool false) rfl (by first | (simp [hs]; done) | (have hs2 := hs; simp; omega) | fail)) (by first | exact trivial | exact ⟨rfl, trivial⟩) rfl ?_
      refine Ch.pu gdN (by exact ⟨rfl, trivial⟩) (OpS.move) (by first | exact trivial | exact ⟨rfl, trivial⟩) rfl ?_
      refine Ch.pu (by exact gdT rfl rfl) (by exact ⟨rfl, trivial⟩) (OpS.move) (by first | exact trivial | exact ⟨rfl, trivial⟩) rfl ?_
      refine Ch.pu (by exact gdT rfl rfl) (by exact ⟨rfl, rfl, trivial⟩) (OpS.int (v' := .bool true) rfl (by first | (simp [hs]; done) | (have hs2 := hs; simp; omega) | fail)) (by first | exact trivial | exact ⟨rfl, trivial⟩) rfl ?_
      refine Ch.pu gdN (by first | exact ⟨rfl, rfl, trivial⟩ | exact ⟨rfl, rfl, rfl, trivial⟩) (OpS.pickF) (by first | exact trivial | exact ⟨rfl, trivial⟩) rfl ?_
      refine Ch.nil ?_
      refine WP.cond_true rfl ?_
      refine WP.rg hG ?_
      refine Ch.pu gdN (by exact ⟨rfl, trivial⟩) (OpS.assign) (by first | exact trivial | exact ⟨rfl, trivial⟩) rfl ?_
      refine Ch.nil ?_
      refine ⟨_, (Ent.of [] ?_ ?_ ?_ ?_).se, 0, (nrm_0 (.inr hs.2)).symm, rfl⟩
      · exact (fun i hi => by rw [hnA] at hi; simp only [List.length_cons, List.length_nil] at hi ⊢; first | exact absurd hi (Nat.not_lt_zero _) | (revert i; decide))
      · (repeat (first | exact trivial | (refine And.intro ⟨(by first | trivial | (simp; first | done | fail) | exact ⟨trivial, hbel _⟩), _, rfl, (by first | exact .rfl _ | exact .nil | exact .of_eq (by simp; first | done | fail) | exact AV.wk.sh (by simp; first | done | fail) | exact .untip _ _ _)⟩ ?_)))
      · (repeat (first | exact trivial | (refine And.intro ⟨rfl, (by first | trivial | (simp; first | done | fail) | exact ⟨trivial, hbel _⟩), (by first | rfl | (simp; first | done | fail))⟩ ?_)))
      · simp [rn]
    · have hs := hq
      obtain ⟨m, rfl⟩ : ∃ m : Nat, n = (m : Int) := ⟨n.toNat, by omega⟩
      refine WP.rs hG ?_
      refine Ch.pu gdN (by exact ⟨rfl, trivial⟩) (OpS.move) (by first | exact trivial | exact ⟨rfl, trivial⟩) rfl ?_
      refine Ch.pu gdN (by exact ⟨rfl, rfl, trivial⟩) (OpS.int (v' := .bool false) rfl (by first | (simp [hs]; done) | (have hs2 := hs; simp; omega) | fail)) (by first | exact trivial | exact ⟨rfl, trivial⟩) rfl ?_
      refine Ch.pu gdN (by exact ⟨rfl, trivial⟩) (OpS.move) (by first | exact trivial | exact ⟨rfl, trivial⟩) rfl ?_
      refine Ch.pu (by exact gdT rfl rfl) (by exact ⟨rfl, trivial⟩) (OpS.move) (by first | exact trivial | exact ⟨rfl, trivial⟩) rfl ?_
      refine Ch.pu (by exact gdT rfl rfl) (by exact ⟨rfl, rfl, trivial⟩) (OpS.int (v' := .bool false) rfl (by first | (simp [hs]; done) | (have hs2 := hs; simp; omega) | fail)) (by first | exact trivial | exact ⟨rfl, trivial⟩) rfl ?_
      refine Ch.pu gdN (by first | exact ⟨rfl, rfl, trivial⟩ | exact ⟨rfl, rfl, rfl, trivial⟩) (OpS.pickF) (by first | exact trivial | exact ⟨rfl, trivial⟩) rfl ?_
      refine Ch.nil ?_
      refine WP.cond_false rfl ?_
      refine WP.skip ?_
      refine ⟨_, (Ent.of [] ?_ ?_ ?_ ?_).se, m, by rw [nrm_n hs, Int.toNat_natCast], rfl⟩
      · exact (fun i hi => by rw [hnA] at hi; simp only [List.length_cons, List.length_nil] at hi ⊢; first | exact absurd hi (Nat.not_lt_zero _) | (revert i; decide))
      · (repeat (first | exact trivial | (refine And.intro ⟨(by first | trivial | (simp; first | done | fail) | exact ⟨trivial, hbel _⟩), _, rfl, (by first | exact .rfl _ | exact .nil | exact .of_eq (by simp; first | done | fail) | exact AV.wk.sh (by simp; first | done | fail) | exact .untip _ _ _)⟩ ?_)))
      · (repeat (first | exact trivial | (refine And.intro ⟨rfl, (by first | trivial | (simp; first | done | fail) | exact ⟨trivial, hbel _⟩), (by first | rfl | (simp; first | done | fail))⟩ ?_)))
      · simp [rn]
  · rintro σ ⟨m, hm, rfl⟩
    refine WP.rs hG ?_
    refine Ch.callH (FC.split (newWriter_fc)) [] 0 gdN (by repeat (first | exact EvL.nil | (apply EvL.cons; exact rfl))) (by exact trivial) rfl rfl (by decide) (by decide) (by first | ((conv => lhs; simp only [AV.ren, AV.renL, AO.ren, renL_b, renL_s, renL_w, renL_i, renL_append, ren_b, ren_s, ren_w, ren_i, pi_n, pi_0, pi_s, pi_1, pi_2, pi_3, pi_4, chOld, chNew, nuNew, hpl, Option.map_some, Option.map_none, List.length_cons, List.length_nil, List.take_succ_cons, List.take_zero, List.take_nil, List.drop_succ_cons, List.drop_zero, List.drop_nil, List.cons_append, List.nil_append, Nat.zero_add, Nat.add_zero, Nat.reduceAdd]); all_goals rfl) | rfl) (by first | ((conv => lhs; simp only [AV.ren, AV.renL, AO.ren, renL_b, renL_s, renL_w, renL_i, renL_append, ren_b, ren_s, ren_w, ren_i, pi_n, pi_0, pi_s, pi_1, pi_2, pi_3, pi_4, chOld, chNew, nuNew, hpl, Option.map_some, Option.map_none, List.length_cons, List.length_nil, List.take_succ_cons, List.take_zero, List.take_nil, List.drop_succ_cons, List.drop_zero, List.drop_nil, List.cons_append, List.nil_append, Nat.zero_add, Nat.add_zero, Nat.reduceAdd]); all_goals rfl) | rfl) (by first | ((conv => lhs; simp only [AV.ren, AV.renL, AO.ren, renL_b, renL_s, renL_w, renL_i, renL_append, ren_b, ren_s, ren_w, ren_i, pi_n, pi_0, pi_s, pi_1, pi_2, pi_3, pi_4, chOld, chNew, nuNew, hpl, Option.map_some, Option.map_none, List.length_cons, List.length_nil, List.take_succ_cons, List.take_zero, List.take_nil, List.drop_succ_cons, List.drop_zero, List.drop_nil, List.cons_append, List.nil_append, Nat.zero_add, Nat.add_zero, Nat.reduceAdd]); all_goals rfl) | rfl) (by first | ((conv => lhs; simp only [AV.ren, AV.renL, AO.ren, renL_b, renL_s, renL_w, renL_i, renL_append, ren_b, ren_s, ren_w, ren_i, pi_n, pi_0, pi_s, pi_1, pi_2, pi_3, pi_4, chOld, chNew, nuNew, hpl, Option.map_some, Option.map_none, List.length_cons, List.length_nil, List.take_succ_cons, List.take_zero, List.take_nil, List.drop_succ_cons, List.drop_zero, List.drop_nil, List.cons_append, List.nil_append, Nat.zero_add, Nat.add_zero, Nat.reduceAdd]); all_goals rfl) | rfl) (by first | exact trivial | exact ⟨rfl, trivial⟩ | exact ⟨rfl, rfl, trivial⟩ | exact ⟨rfl, rfl, rfl, trivial⟩ | exact ⟨rfl, rfl, rfl, rfl, trivial⟩) (by first | exact trivial | exact ⟨rfl, trivial⟩ | exact ⟨rfl, rfl, trivial⟩ | exact ⟨rfl, rfl, rfl, trivial⟩ | exact ⟨rfl, rfl, rfl, rfl, trivial⟩) rfl ?_
    refine Ch.pu gdN (by exact ⟨rfl, trivial⟩) (OpS.assign) (by first | exact trivial | exact ⟨rfl, trivial⟩) rfl ?_
    refine Ch.nil ?_
    refine WP.rs hG ?_
    refine Ch.pu gdN (by exact ⟨rfl, trivial⟩) (OpS.move) (by first | exact trivial | exact ⟨rfl, trivial⟩) rfl ?_
    refine Ch.pu gdN (by exact ⟨rfl, trivial⟩) (OpS.move) (by first | exact trivial | exact ⟨rfl, trivial⟩) rfl ?_
    refine Ch.pu gdN (by exact ⟨rfl, trivial⟩) (OpS.conv rfl rfl (by first | exact cv_u32_u8 _ | exact cv_u64_u8 _ | exact cv_i64_u8 _ | exact cv_u8_u32 _ | exact cv_u8_u64 _ | exact cv_u32_u64 _ | exact cv_u64_u32 _ | exact cv_u8_u8 _ | exact cv_u32_u32 _ | exact cv_u64_u64 _ | exact wr64 (by omega) | exact cv_u64_nat _ | exact cv_u32_nat _ | exact cv_u8_nat _ | exact rfl)) (by first | exact trivial | exact ⟨rfl, trivial⟩) rfl ?_
    refine Ch.callH (FC.split (wNum_fc [] (UInt64.ofNat m) (by simp))) [0,1] 2 gdN (by repeat (first | exact EvL.nil | (apply EvL.cons; exact rfl))) (by exact (And.intro (by first | exact .rfl _ | exact .untip _ _ _ | exact .nil | exact .func _ | exact AV.wk.sh (renL_s _ _) | exact AV.wk.tip rfl (by first | exact renL_b _ _ | exact renL_s _ _ | exact renL_i _ _ | exact renL_w _ _) | exact AV.wk.sh (by simp; first | done | fail)) (And.intro (by first | exact .rfl _ | exact .untip _ _ _ | exact .nil | exact .func _ | exact AV.wk.sh (renL_s _ _) | exact AV.wk.tip rfl (by first | exact renL_b _ _ | exact renL_s _ _ | exact renL_i _ _ | exact renL_w _ _) | exact AV.wk.sh (by simp; first | done | fail)) trivial))) rfl rfl (by decide) (by decide) (by first | ((conv => lhs; simp only [AV.ren, AV.renL, AO.ren, renL_b, renL_s, renL_w, renL_i, renL_append, ren_b, ren_s, ren_w, ren_i, pi_n, pi_0, pi_s, pi_1, pi_2, pi_3, pi_4, chOld, chNew, nuNew, hpl, Option.map_some, Option.map_none, List.length_cons, List.length_nil, List.take_succ_cons, List.take_zero, List.take_nil, List.drop_succ_cons, List.drop_zero, List.drop_nil, List.cons_append, List.nil_append, Nat.zero_add, Nat.add_zero, Nat.reduceAdd]); all_goals rfl) | rfl) (by first | ((conv => lhs; simp only [AV.ren, AV.renL, AO.ren, renL_b, renL_s, renL_w, renL_i, renL_append, ren_b, ren_s, ren_w, ren_i, pi_n, pi_0, pi_s, pi_1, pi_2, pi_3, pi_4, chOld, chNew, nuNew, hpl, Option.map_some, Option.map_none, List.length_cons, List.length_nil, List.take_succ_cons, List.take_zero, List.take_nil, List.drop_succ_cons, List.drop_zero, List.drop_nil, List.cons_append, List.nil_append, Nat.zero_add, Nat.add_zero, Nat.reduceAdd]); all_goals rfl) | rfl) (by first | ((conv => lhs; simp only [AV.ren, AV.renL, AO.ren, renL_b, renL_s, renL_w, renL_i, renL_append, ren_b, ren_s, ren_w, ren_i, pi_n, pi_0, pi_s, pi_1, pi_2, pi_3, pi_4, chOld, chNew, nuNew, hpl, Option.map_some, Option.map_none, List.length_cons, List.length_nil, List.take_succ_cons, List.take_zero, List.take_nil, List.drop_succ_cons, List.drop_zero, List.drop_nil, List.cons_append, List.nil_append, Nat.zero_add, Nat.add_zero, Nat.reduceAdd]); all_goals rfl) | rfl) (by first | ((conv => lhs; simp only [AV.ren, AV.renL, AO.ren, renL_b, renL_s, renL_w, renL_i, renL_append, ren_b, ren_s, ren_w, ren_i, pi_n, pi_0, pi_s, pi_1, pi_2, pi_3, pi_4, chOld, chNew, nuNew, hpl, Option.map_some, Option.map_none, List.length_cons, List.length_nil, List.take_succ_cons, List.take_zero, List.take_nil, List.drop_succ_cons, List.drop_zero, List.drop_nil, List.cons_append, List.nil_append, Nat.zero_add, Nat.add_zero, Nat.reduceAdd]); all_goals rfl) | rfl) (by first | exact trivial | exact ⟨rfl, trivial⟩ | exact ⟨rfl, rfl, trivial⟩ | exact ⟨rfl, rfl, rfl, trivial⟩ | exact ⟨rfl, rfl, rfl, rfl, trivial⟩) (by first | exact trivial | exact ⟨rfl, trivial⟩ | exact ⟨rfl, rfl, trivial⟩ | exact ⟨rfl, rfl, rfl, trivial⟩ | exact ⟨rfl, rfl, rfl, rfl, trivial⟩) rfl ?_
    refine Ch.nil ?_
    refine WP.rs hG ?_
    refine Ch.pu gdN (by exact ⟨rfl, trivial⟩) (OpS.move) (by first | exact trivial | exact ⟨rfl, trivial⟩) rfl ?_
    refine Ch.callH (FC.split (wBytes_fc (beS (UInt64.ofNat m) 8))) [0,2] 3 gdN (by repeat (first | exact EvL.nil | (apply EvL.cons; exact rfl))) (by exact (And.intro (by first | exact .rfl _ | exact .untip _ _ _ | exact .nil | exact .func _ | exact AV.wk.sh (renL_s _ _) | exact AV.wk.tip rfl (by first | exact renL_b _ _ | exact renL_s _ _ | exact renL_i _ _ | exact renL_w _ _) | exact AV.wk.sh (by simp; first | done | fail)) trivial)) rfl rfl (by decide) (by decide) (by first | ((conv => lhs; simp only [AV.ren, AV.renL, AO.ren, renL_b, renL_s, renL_w, renL_i, renL_append, ren_b, ren_s, ren_w, ren_i, pi_n, pi_0, pi_s, pi_1, pi_2, pi_3, pi_4, chOld, chNew, nuNew, hpl, Option.map_some, Option.map_none, List.length_cons, List.length_nil, List.take_succ_cons, List.take_zero, List.take_nil, List.drop_succ_cons, List.drop_zero, List.drop_nil, List.cons_append, List.nil_append, Nat.zero_add, Nat.add_zero, Nat.reduceAdd]); all_goals rfl) | rfl) (by first | ((conv => lhs; simp only [AV.ren, AV.renL, AO.ren, renL_b, renL_s, renL_w, renL_i, renL_append, ren_b, ren_s, ren_w, ren_i, pi_n, pi_0, pi_s, pi_1, pi_2, pi_3, pi_4, chOld, chNew, nuNew, hpl, Option.map_some, Option.map_none, List.length_cons, List.length_nil, List.take_succ_cons, List.take_zero, List.take_nil, List.drop_succ_cons, List.drop_zero, List.drop_nil, List.cons_append, List.nil_append, Nat.zero_add, Nat.add_zero, Nat.reduceAdd]); all_goals rfl) | rfl) (by first | ((conv => lhs; simp only [AV.ren, AV.renL, AO.ren, renL_b, renL_s, renL_w, renL_i, renL_append, ren_b, ren_s, ren_w, ren_i, pi_n, pi_0, pi_s, pi_1, pi_2, pi_3, pi_4, chOld, chNew, nuNew, hpl, Option.map_some, Option.map_none, List.length_cons, List.length_nil, List.take_succ_cons, List.take_zero, List.take_nil, List.drop_succ_cons, List.drop_zero, List.drop_nil, List.cons_append, List.nil_append, Nat.zero_add, Nat.add_zero, Nat.reduceAdd]); all_goals rfl) | rfl) (by first | ((conv => lhs; simp only [AV.ren, AV.renL, AO.ren, renL_b, renL_s, renL_w, renL_i, renL_append, ren_b, ren_s, ren_w, ren_i, pi_n, pi_0, pi_s, pi_1, pi_2, pi_3, pi_4, chOld, chNew, nuNew, hpl, Option.map_some, Option.map_none, List.length_cons, List.length_nil, List.take_succ_cons, List.take_zero, List.take_nil, List.drop_succ_cons, List.drop_zero, List.drop_nil, List.cons_append, List.nil_append, Nat.zero_add, Nat.add_zero, Nat.reduceAdd]); all_goals rfl) | rfl) (by first | exact trivial | exact ⟨rfl, trivial⟩ | exact ⟨rfl, rfl, trivial⟩ | exact ⟨rfl, rfl, rfl, trivial⟩ | exact ⟨rfl, rfl, rfl, rfl, trivial⟩) (by first | exact trivial | exact ⟨rfl, trivial⟩ | exact ⟨rfl, rfl, trivial⟩ | exact ⟨rfl, rfl, rfl, trivial⟩ | exact ⟨rfl, rfl, rfl, rfl, trivial⟩) rfl ?_
    refine Ch.pu gdN (by exact ⟨rfl, trivial⟩) (OpS.assign) (by first | exact trivial | exact ⟨rfl, trivial⟩) rfl ?_
    refine Ch.nil ?_
    exact WP.ret (Ret.one rfl (.of_eq (by rw [hm]; rfl)) trivial hnA)
theorem rlaid_fc {G : List (Nat × Array Value)} (n : Int) : FC Tryd.prog G 39 [.v (.int .i64 n)] [] (sA (laidN n)) [] := by
  refine FC.of_wp [2] Tryd.func39 rfl rfl rfl rfl (by first | trivial | (simp; first | done | fail) | exact ⟨trivial, hbel _⟩) (by first | trivial | (simp; first | done | fail) | exact ⟨trivial, hbel _⟩) (by exact Nat.le_of_ble_eq_true rfl) ?_
  intro A hG hnA hAB
  unfold start
  refine WP.rs hG ?_
  refine Ch.pu gdN (by exact ⟨rfl, trivial⟩) (OpS.assign) (by first | exact trivial | exact ⟨rfl, trivial⟩) rfl ?_
  refine Ch.nil ?_
  refine WP.seqJ (fun σ => ∃ m : Nat, m = nrm n ∧ σ = ⟨17, ls [(0, .v (.int .i64 (m : Int)))], lh [], blt 0⟩) ?_ ?_
  · skip
    rcases nrm_cases n with hq | hq | hq
    · have hs := hq
      refine WP.rs hG ?_
      refine Ch.pu gdN (by exact ⟨rfl, trivial⟩) (OpS.move) (by first | exact trivial | exact ⟨rfl, trivial⟩) rfl ?_
      refine Ch.pu gdN (by exact ⟨rfl, rfl, trivial⟩) (OpS.int (v' := .bool true) rfl (by first | (simp [hs]; done) | (have hs2 := hs; simp; omega) | fail)) (by first | exact trivial | exact ⟨rfl, trivial⟩) rfl ?_
      refine Ch.pu gdN (by exact ⟨rfl, trivial⟩) (OpS.move) (by first | exact trivial | exact ⟨rfl, trivial⟩) rfl ?_
      refine Ch.skU (gdF rfl rfl rfl) rfl ?_
      refine Ch.skU (gdF rfl rfl rfl) rfl ?_
      refine Ch.pu gdN (by first | exact ⟨rfl, rfl, trivial⟩ | exact ⟨rfl, rfl, rfl, trivial⟩) (OpS.pickT) (by first | exact trivial | exact ⟨rfl, trivial⟩) rfl ?_
      refine Ch.nil ?_
      refine WP.cond_true rfl ?_
      refine WP.rg hG ?_
      refine Ch.pu gdN (by exact ⟨rfl, trivial⟩) (OpS.assign) (by first | exact trivial | exact ⟨rfl, trivial⟩) rfl ?_
      refine Ch.nil ?_
      refine ⟨_, (Ent.of [] ?_ ?_ ?_ ?_).se, 0, (nrm_0 (.inl hs)).symm, rfl⟩
      · exact (fun i hi => by rw [hnA] at hi; simp only [List.length_cons, List.length_nil] at hi ⊢; first | exact absurd hi (Nat.not_lt_zero _) | (revert i; decide))
      · (repeat (first | exact trivial | (refine And.intro ⟨(by first | trivial | (simp; first | done | fail) | exact ⟨trivial, hbel _⟩), _, rfl, (by first | exact .rfl _ | exact .nil | exact .of_eq (by simp; first | done | fail) | exact AV.wk.sh (by simp; first | done | fail) | exact .untip _ _ _)⟩ ?_)))
      · (repeat (first | exact trivial | (refine And.intro ⟨rfl, (by first | trivial | (simp; first | done | fail) | exact ⟨trivial, hbel _⟩), (by first | rfl | (simp; first | done | fail))⟩ ?_)))
      · simp [rn]
    · have hs := hq
      refine WP.rs hG ?_
      refine Ch.pu gdN (by exact ⟨rfl, trivial⟩) (OpS.move) (by first | exact trivial | exact ⟨rfl, trivial⟩) rfl ?_
      refine Ch.pu gdN (by exact ⟨rfl, rfl, trivial⟩) (OpS.int (v' := .bool false) rfl (by first | (simp [hs]; done) | (have hs2 := hs; simp; omega) | fail)) (by first | exact trivial | exact ⟨rfl, trivial⟩) rfl ?_
      refine Ch.pu gdN (by exact ⟨rfl, trivial⟩) (OpS.move) (by first | exact trivial | exact ⟨rfl, trivial⟩) rfl ?_
      refine Ch.pu (by exact gdT rfl rfl) (by exact ⟨rfl, trivial⟩) (OpS.move) (by first | exact trivial | exact ⟨rfl, trivial⟩) rfl ?_
      refine Ch.pu (by exact gdT rfl rfl) (by exact ⟨rfl, rfl, trivial⟩) (OpS.int (v' := .bool true) rfl (by first | (simp [hs]; done) | (have hs2 := hs; simp; omega) | fail)) (by first | exact trivial | exact ⟨rfl, trivial⟩) rfl ?_
      refine Ch.pu gdN (by first | exact ⟨rfl, rfl, trivial⟩ | exact ⟨rfl, rfl, rfl, trivial⟩) (OpS.pickF) (by first | exact trivial | exact ⟨rfl, trivial⟩) rfl ?_
      refine Ch.nil ?_
      refine WP.cond_true rfl ?_
      refine WP.rg hG ?_
      refine Ch.pu gdN (by exact ⟨rfl, trivial⟩) (OpS.assign) (by first | exact trivial | exact ⟨rfl, trivial⟩) rfl ?_
      refine Ch.nil ?_
      refine ⟨_, (Ent.of [] ?_ ?_ ?_ ?_).se, 0, (nrm_0 (.inr hs.2)).symm, rfl⟩
      · exact (fun i hi => by rw [hnA] at hi; simp only [List.length_cons, List.length_nil] at hi ⊢; first | exact absurd hi (Nat.not_lt_zero _) | (revert i; decide))
      · (repeat (first | exact trivial | (refine And.intro ⟨(by first | trivial | (simp; first | done | fail) | exact ⟨trivial, hbel _⟩), _, rfl, (by first | exact .rfl _ | exact .nil | exact .of_eq (by simp; first | done | fail) | exact AV.wk.sh (by simp; first | done | fail) | exact .untip _ _ _)⟩ ?_)))
      · (repeat (first | exact trivial | (refine And.intro ⟨rfl, (by first | trivial | (simp; first | done | fail) | exact ⟨trivial, hbel _⟩), (by first | rfl | (simp; first | done | fail))⟩ ?_)))
      · simp [rn]
    · have hs := hq
      obtain ⟨m, rfl⟩ : ∃ m : Nat, n = (m : Int) := ⟨n.toNat, by omega⟩
      refine WP.rs hG ?_
      refine Ch.pu gdN (by exact ⟨rfl, trivial⟩) (OpS.move) (by first | exact trivial | exact ⟨rfl, trivial⟩) rfl ?_
      refine Ch.pu gdN (by exact ⟨rfl, rfl, trivial⟩) (OpS.int (v' := .bool false) rfl (by first | (simp [hs]; done) | (have hs2 := hs; simp; omega) | fail)) (by first | exact trivial | exact ⟨rfl, trivial⟩) rfl ?_
      refine Ch.pu gdN (by exact ⟨rfl, trivial⟩) (OpS.move) (by first | exact trivial | exact ⟨rfl, trivial⟩) rfl ?_
      refine Ch.pu (by exact gdT rfl rfl) (by exact ⟨rfl, trivial⟩) (OpS.move) (by first | exact trivial | exact ⟨rfl, trivial⟩) rfl ?_
      refine Ch.pu (by exact gdT rfl rfl) (by exact ⟨rfl, rfl, trivial⟩) (OpS.int (v' := .bool false) rfl (by first | (simp [hs]; done) | (have hs2 := hs; simp; omega) | fail)) (by first | exact trivial | exact ⟨rfl, trivial⟩) rfl ?_
      refine Ch.pu gdN (by first | exact ⟨rfl, rfl, trivial⟩ | exact ⟨rfl, rfl, rfl, trivial⟩) (OpS.pickF) (by first | exact trivial | exact ⟨rfl, trivial⟩) rfl ?_
      refine Ch.nil ?_
      refine WP.cond_false rfl ?_
      refine WP.skip ?_
      refine ⟨_, (Ent.of [] ?_ ?_ ?_ ?_).se, m, by rw [nrm_n hs, Int.toNat_natCast], rfl⟩
      · exact (fun i hi => by rw [hnA] at hi; simp only [List.length_cons, List.length_nil] at hi ⊢; first | exact absurd hi (Nat.not_lt_zero _) | (revert i; decide))
      · (repeat (first | exact trivial | (refine And.intro ⟨(by first | trivial | (simp; first | done | fail) | exact ⟨trivial, hbel _⟩), _, rfl, (by first | exact .rfl _ | exact .nil | exact .of_eq (by simp; first | done | fail) | exact AV.wk.sh (by simp; first | done | fail) | exact .untip _ _ _)⟩ ?_)))
      · (repeat (first | exact trivial | (refine And.intro ⟨rfl, (by first | trivial | (simp; first | done | fail) | exact ⟨trivial, hbel _⟩), (by first | rfl | (simp; first | done | fail))⟩ ?_)))
      · simp [rn]
  · rintro σ ⟨m, hm, rfl⟩
    refine WP.rs hG ?_
    refine Ch.callH (FC.split (rnewWriter_fc)) [] 0 gdN (by repeat (first | exact EvL.nil | (apply EvL.cons; exact rfl))) (by exact trivial) rfl rfl (by decide) (by decide) (by first | ((conv => lhs; simp only [AV.ren, AV.renL, AO.ren, renL_b, renL_s, renL_w, renL_i, renL_append, ren_b, ren_s, ren_w, ren_i, pi_n, pi_0, pi_s, pi_1, pi_2, pi_3, pi_4, chOld, chNew, nuNew, hpl, Option.map_some, Option.map_none, List.length_cons, List.length_nil, List.take_succ_cons, List.take_zero, List.take_nil, List.drop_succ_cons, List.drop_zero, List.drop_nil, List.cons_append, List.nil_append, Nat.zero_add, Nat.add_zero, Nat.reduceAdd]); all_goals rfl) | rfl) (by first | ((conv => lhs; simp only [AV.ren, AV.renL, AO.ren, renL_b, renL_s, renL_w, renL_i, renL_append, ren_b, ren_s, ren_w, ren_i, pi_n, pi_0, pi_s, pi_1, pi_2, pi_3, pi_4, chOld, chNew, nuNew, hpl, Option.map_some, Option.map_none, List.length_cons, List.length_nil, List.take_succ_cons, List.take_zero, List.take_nil, List.drop_succ_cons, List.drop_zero, List.drop_nil, List.cons_append, List.nil_append, Nat.zero_add, Nat.add_zero, Nat.reduceAdd]); all_goals rfl) | rfl) (by first | ((conv => lhs; simp only [AV.ren, AV.renL, AO.ren, renL_b, renL_s, renL_w, renL_i, renL_append, ren_b, ren_s, ren_w, ren_i, pi_n, pi_0, pi_s, pi_1, pi_2, pi_3, pi_4, chOld, chNew, nuNew, hpl, Option.map_some, Option.map_none, List.length_cons, List.length_nil, List.take_succ_cons, List.take_zero, List.take_nil, List.drop_succ_cons, List.drop_zero, List.drop_nil, List.cons_append, List.nil_append, Nat.zero_add, Nat.add_zero, Nat.reduceAdd]); all_goals rfl) | rfl) (by first | ((conv => lhs; simp only [AV.ren, AV.renL, AO.ren, renL_b, renL_s, renL_w, renL_i, renL_append, ren_b, ren_s, ren_w, ren_i, pi_n, pi_0, pi_s, pi_1, pi_2, pi_3, pi_4, chOld, chNew, nuNew, hpl, Option.map_some, Option.map_none, List.length_cons, List.length_nil, List.take_succ_cons, List.take_zero, List.take_nil, List.drop_succ_cons, List.drop_zero, List.drop_nil, List.cons_append, List.nil_append, Nat.zero_add, Nat.add_zero, Nat.reduceAdd]); all_goals rfl) | rfl) (by first | exact trivial | exact ⟨rfl, trivial⟩ | exact ⟨rfl, rfl, trivial⟩ | exact ⟨rfl, rfl, rfl, trivial⟩ | exact ⟨rfl, rfl, rfl, rfl, trivial⟩) (by first | exact trivial | exact ⟨rfl, trivial⟩ | exact ⟨rfl, rfl, trivial⟩ | exact ⟨rfl, rfl, rfl, trivial⟩ | exact ⟨rfl, rfl, rfl, rfl, trivial⟩) rfl ?_
    refine Ch.pu gdN (by exact ⟨rfl, trivial⟩) (OpS.assign) (by first | exact trivial | exact ⟨rfl, trivial⟩) rfl ?_
    refine Ch.nil ?_
    refine WP.rs hG ?_
    refine Ch.pu gdN (by exact ⟨rfl, trivial⟩) (OpS.move) (by first | exact trivial | exact ⟨rfl, trivial⟩) rfl ?_
    refine Ch.pu gdN (by exact ⟨rfl, trivial⟩) (OpS.move) (by first | exact trivial | exact ⟨rfl, trivial⟩) rfl ?_
    refine Ch.pu gdN (by exact ⟨rfl, trivial⟩) (OpS.conv rfl rfl (by first | exact cv_u32_u8 _ | exact cv_u64_u8 _ | exact cv_i64_u8 _ | exact cv_u8_u32 _ | exact cv_u8_u64 _ | exact cv_u32_u64 _ | exact cv_u64_u32 _ | exact cv_u8_u8 _ | exact cv_u32_u32 _ | exact cv_u64_u64 _ | exact wr64 (by omega) | exact cv_u64_nat _ | exact cv_u32_nat _ | exact cv_u8_nat _ | exact rfl)) (by first | exact trivial | exact ⟨rfl, trivial⟩) rfl ?_
    refine Ch.callH (FC.split (rwNum_fc [] (UInt64.ofNat m) (by simp))) [0] 1 gdN (by repeat (first | exact EvL.nil | (apply EvL.cons; exact rfl))) (by exact (And.intro (by first | exact .rfl _ | exact .untip _ _ _ | exact .nil | exact .func _ | exact AV.wk.sh (renL_s _ _) | exact AV.wk.tip rfl (by first | exact renL_b _ _ | exact renL_s _ _ | exact renL_i _ _ | exact renL_w _ _) | exact AV.wk.sh (by simp; first | done | fail)) (And.intro (by first | exact .rfl _ | exact .untip _ _ _ | exact .nil | exact .func _ | exact AV.wk.sh (renL_s _ _) | exact AV.wk.tip rfl (by first | exact renL_b _ _ | exact renL_s _ _ | exact renL_i _ _ | exact renL_w _ _) | exact AV.wk.sh (by simp; first | done | fail)) trivial))) rfl rfl (by decide) (by decide) (by first | ((conv => lhs; simp only [AV.ren, AV.renL, AO.ren, renL_b, renL_s, renL_w, renL_i, renL_append, ren_b, ren_s, ren_w, ren_i, pi_n, pi_0, pi_s, pi_1, pi_2, pi_3, pi_4, chOld, chNew, nuNew, hpl, Option.map_some, Option.map_none, List.length_cons, List.length_nil, List.take_succ_cons, List.take_zero, List.take_nil, List.drop_succ_cons, List.drop_zero, List.drop_nil, List.cons_append, List.nil_append, Nat.zero_add, Nat.add_zero, Nat.reduceAdd]); all_goals rfl) | rfl) (by first | ((conv => lhs; simp only [AV.ren, AV.renL, AO.ren, renL_b, renL_s, renL_w, renL_i, renL_append, ren_b, ren_s, ren_w, ren_i, pi_n, pi_0, pi_s, pi_1, pi_2, pi_3, pi_4, chOld, chNew, nuNew, hpl, Option.map_some, Option.map_none, List.length_cons, List.length_nil, List.take_succ_cons, List.take_zero, List.take_nil, List.drop_succ_cons, List.drop_zero, List.drop_nil, List.cons_append, List.nil_append, Nat.zero_add, Nat.add_zero, Nat.reduceAdd]); all_goals rfl) | rfl) (by first | ((conv => lhs; simp only [AV.ren, AV.renL, AO.ren, renL_b, renL_s, renL_w, renL_i, renL_append, ren_b, ren_s, ren_w, ren_i, pi_n, pi_0, pi_s, pi_1, pi_2, pi_3, pi_4, chOld, chNew, nuNew, hpl, Option.map_some, Option.map_none, List.length_cons, List.length_nil, List.take_succ_cons, List.take_zero, List.take_nil, List.drop_succ_cons, List.drop_zero, List.drop_nil, List.cons_append, List.nil_append, Nat.zero_add, Nat.add_zero, Nat.reduceAdd]); all_goals rfl) | rfl) (by first | ((conv => lhs; simp only [AV.ren, AV.renL, AO.ren, renL_b, renL_s, renL_w, renL_i, renL_append, ren_b, ren_s, ren_w, ren_i, pi_n, pi_0, pi_s, pi_1, pi_2, pi_3, pi_4, chOld, chNew, nuNew, hpl, Option.map_some, Option.map_none, List.length_cons, List.length_nil, List.take_succ_cons, List.take_zero, List.take_nil, List.drop_succ_cons, List.drop_zero, List.drop_nil, List.cons_append, List.nil_append, Nat.zero_add, Nat.add_zero, Nat.reduceAdd]); all_goals rfl) | rfl) (by first | exact trivial | exact ⟨rfl, trivial⟩ | exact ⟨rfl, rfl, trivial⟩ | exact ⟨rfl, rfl, rfl, trivial⟩ | exact ⟨rfl, rfl, rfl, rfl, trivial⟩) (by first | exact trivial | exact ⟨rfl, trivial⟩ | exact ⟨rfl, rfl, trivial⟩ | exact ⟨rfl, rfl, rfl, trivial⟩ | exact ⟨rfl, rfl, rfl, rfl, trivial⟩) rfl ?_
    refine Ch.nil ?_
    refine WP.rs hG ?_
    refine Ch.pu gdN (by exact ⟨rfl, trivial⟩) (OpS.move) (by first | exact trivial | exact ⟨rfl, trivial⟩) rfl ?_
    refine Ch.callH (FC.split (rwBytes_fc (beS (UInt64.ofNat m) 8))) [0] 1 gdN (by repeat (first | exact EvL.nil | (apply EvL.cons; exact rfl))) (by exact (And.intro (by first | exact .rfl _ | exact .untip _ _ _ | exact .nil | exact .func _ | exact AV.wk.sh (renL_s _ _) | exact AV.wk.tip rfl (by first | exact renL_b _ _ | exact renL_s _ _ | exact renL_i _ _ | exact renL_w _ _) | exact AV.wk.sh (by simp; first | done | fail)) trivial)) rfl rfl (by decide) (by decide) (by first | ((conv => lhs; simp only [AV.ren, AV.renL, AO.ren, renL_b, renL_s, renL_w, renL_i, renL_append, ren_b, ren_s, ren_w, ren_i, pi_n, pi_0, pi_s, pi_1, pi_2, pi_3, pi_4, chOld, chNew, nuNew, hpl, Option.map_some, Option.map_none, List.length_cons, List.length_nil, List.take_succ_cons, List.take_zero, List.take_nil, List.drop_succ_cons, List.drop_zero, List.drop_nil, List.cons_append, List.nil_append, Nat.zero_add, Nat.add_zero, Nat.reduceAdd]); all_goals rfl) | rfl) (by first | ((conv => lhs; simp only [AV.ren, AV.renL, AO.ren, renL_b, renL_s, renL_w, renL_i, renL_append, ren_b, ren_s, ren_w, ren_i, pi_n, pi_0, pi_s, pi_1, pi_2, pi_3, pi_4, chOld, chNew, nuNew, hpl, Option.map_some, Option.map_none, List.length_cons, List.length_nil, List.take_succ_cons, List.take_zero, List.take_nil, List.drop_succ_cons, List.drop_zero, List.drop_nil, List.cons_append, List.nil_append, Nat.zero_add, Nat.add_zero, Nat.reduceAdd]); all_goals rfl) | rfl) (by first | ((conv => lhs; simp only [AV.ren, AV.renL, AO.ren, renL_b, renL_s, renL_w, renL_i, renL_append, ren_b, ren_s, ren_w, ren_i, pi_n, pi_0, pi_s, pi_1, pi_2, pi_3, pi_4, chOld, chNew, nuNew, hpl, Option.map_some, Option.map_none, List.length_cons, List.length_nil, List.take_succ_cons, List.take_zero, List.take_nil, List.drop_succ_cons, List.drop_zero, List.drop_nil, List.cons_append, List.nil_append, Nat.zero_add, Nat.add_zero, Nat.reduceAdd]); all_goals rfl) | rfl) (by first | ((conv => lhs; simp only [AV.ren, AV.renL, AO.ren, renL_b, renL_s, renL_w, renL_i, renL_append, ren_b, ren_s, ren_w, ren_i, pi_n, pi_0, pi_s, pi_1, pi_2, pi_3, pi_4, chOld, chNew, nuNew, hpl, Option.map_some, Option.map_none, List.length_cons, List.length_nil, List.take_succ_cons, List.take_zero, List.take_nil, List.drop_succ_cons, List.drop_zero, List.drop_nil, List.cons_append, List.nil_append, Nat.zero_add, Nat.add_zero, Nat.reduceAdd]); all_goals rfl) | rfl) (by first | exact trivial | exact ⟨rfl, trivial⟩ | exact ⟨rfl, rfl, trivial⟩ | exact ⟨rfl, rfl, rfl, trivial⟩ | exact ⟨rfl, rfl, rfl, rfl, trivial⟩) (by first | exact trivial | exact ⟨rfl, trivial⟩ | exact ⟨rfl, rfl, trivial⟩ | exact ⟨rfl, rfl, rfl, trivial⟩ | exact ⟨rfl, rfl, rfl, rfl, trivial⟩) rfl ?_
    refine Ch.pu gdN (by exact ⟨rfl, trivial⟩) (OpS.assign) (by first | exact trivial | exact ⟨rfl, trivial⟩) rfl ?_
    refine Ch.nil ?_
    exact WP.ret (Ret.one rfl (.of_eq (by rw [hm]; rfl)) trivial hnA)
end Go.Proofs.YtmmoadhjlgbmhaaDoor.E
end
section
/- The walks of the small functions of layer 1: word, lay, right, read, String, round. -/
namespace Go.Proofs.YtmmoadhjlgbmhaaDoor.V
open Go Go.RowKit
attribute [local go_sem] B_size B_append B_extract mk_B B_toList take_drop_len List.length_drop List.length_take sgn32 sgn64 add32 sub32 mul32 add64 sub64 mul64 mul64_8 and32 or32 xor32 and64 or64 xor64 shl32_run shr32_run shl64_run shr64_run not32 not32' xor32_all w_u32_u8 w_u64_u8 w_i64_u8 w_u8_u32 w_u8_u64 w_u32_u64 w_u64_u32 w_u8_u8 w_u32_u32 w_u64_u64
attribute [local go_sem ↓] run_index_B' add32 sub32 mul32 add64 sub64 mul64 mul64_8 and32 or32 xor32 and64 or64 xor64 shl32_run shr32_run shl64_run shr64_run not32 not32' xor32_all w_u32_u8 w_u64_u8 w_i64_u8 w_u8_u32 w_u8_u64 w_u32_u64 w_u64_u32 w_u8_u8 w_u32_u32 w_u64_u64 w_u64_nat w_u32_nat w_u8_nat

set_option maxHeartbeats 400000 in
theorem word_ok (l : List UInt8) (w : World) (h4 : 4 ≤ l.length) :
    Calls Tryd.prog 66 #[.string (B l)] w fun e w' => e = .returned (.int .u32 (U32 (wordOf l))) ∧ ∃ n, w' = w.drewN n := by
  have g0 : (0:Int) < (l.length : Int) := by omega
  have g1 : (1:Int) < (l.length : Int) := by omega
  have g2 : (2:Int) < (l.length : Int) := by omega
  have g3 : (3:Int) < (l.length : Int) := by omega
  go_enter Tryd.func66, Tryd.ntmps66
  go_wp2
  go_quiet (fail)
  go_wp2
  go_ret
  exact ⟨rfl, _, rfl⟩

set_option maxHeartbeats 400000 in
theorem rotl_ok (x : UInt32) (n : Nat) (w : World) (h0 : 0 < n) (h1 : n < 32) :
    Calls Tryd.prog 72 #[.int .u32 (U32 x), .int .i64 (-(n : Int))] w fun e w' => e = .returned (.int .u32 (U32 (ror x n))) ∧ w = w' := by
  have k1 : bits BinOp.and IntKind.u64 (IntKind.u64.wrap (-(n : Int))) 31 = ((32 - n : Nat) : Int) := by
    rw [IntKind.wrap_u64, show (-(n : Int)) % 18446744073709551616 = ((18446744073709551616 - n : Nat) : Int) by omega, show (31 : Int) = ((31 : Nat) : Int) from rfl,
      u64_and_nat _ _ (by omega) (by omega), nat_mask5]
    omega
  have k2 : IntKind.u64.wrap (32 - ((32 - n : Nat) : Int)) = ((n : Nat) : Int) := by rw [IntKind.wrap_u64]; omega
  have k3 : (0 : Int) ≤ ((32 - n : Nat) : Int) := by omega
  go_enter Tryd.func72, Tryd.ntmps72
  go_wp2
  go_ret
  exact ⟨rfl, rfl⟩

set_option maxHeartbeats 400000 in
theorem right_ok (x : UInt32) (n : Int) (w : World) (h0 : 0 < n) (h1 : n < 32) :
    Calls Tryd.prog 67 #[.int .u32 (U32 x), .int .i64 n] w fun e w' => e = .returned (.int .u32 (U32 (ror x n.toNat))) ∧ w = w' := by
  obtain ⟨n, rfl⟩ := Int.eq_ofNat_of_zero_le (Int.le_of_lt h0)
  rw [Int.toNat_natCast]
  go_enter Tryd.func67, Tryd.ntmps67
  go_wp2_with fail
  refine (rotl_ok x n _ (by omega) (by omega)).mono ?_
  rintro e w' ⟨rfl, rfl⟩
  go_wp2
  go_ret
  exact ⟨rfl, rfl⟩

/-- a row of bytes comes back, grown -/
def RetBytes (w : World) (base : Nat) (v : Value) (l : List UInt8) (e : Ending) (w' : World) : Prop :=
  ∃ v', e = .returned v' ∧ obytes w' base v' l ∧ Fr v.ownBlock.toList w w' ∧ (v'.ownBlock = v.ownBlock ∨ ∃ k, v'.ownBlock = some k ∧ w.heap.size ≤ k)

set_option maxHeartbeats 400000 in
theorem lay_ok (x : UInt32) (base : Nat) (v : Value) (l : List UInt8) (w : World) (hown : obytes w base v l) (hb : l.length + 4 ≤ 140737488355328) (hbase : base ≤ w.heap.size) :
    Calls Tryd.prog 59 #[v, .int .u32 (U32 x)] w (RetBytes w base v (l ++ be4 x)) := by
  go_enter Tryd.func59, Tryd.ntmps59
  go_wp2_with (at_builtin; refine wpList_ap_bytes rfl _ _ _ rfl base v l rfl ?own _ (be4 x) 4 rfl ?src hb ?base ?_)
  case own => exact hown.alloc _
  case src => exact Src.new _ _ Tryd.underlying49 #[_, _, _, _] _ (bvs_one (be4 x))
  case base => simp; omega
  intro v' w' h1 h2 h3
  have HF : Hid (Fr v.ownBlock.toList w w') := Lib.hid (((Fr.refl _ w).alloc _).grown h2 (fun k hk => .inl (by simp [hk])))
  have H3 : Hid (v'.ownBlock = v.ownBlock ∨ ∃ k, v'.ownBlock = some k ∧ w.heap.size ≤ k) := Lib.hid (h3.imp id fun h => ⟨_, h, by simp⟩)
  clear h2 h3
  go_wp2
  go_ret
  exact ⟨v', rfl, h1, HF.out, H3.out⟩

def St.cells (s : St) : Array Value := #[.int .u32 (U32 s.a), .int .u32 (U32 s.b), .int .u32 (U32 s.c), .int .u32 (U32 s.d), .int .u32 (U32 s.e), .int .u32 (U32 s.f), .int .u32 (U32 s.g), .int .u32 (U32 s.h)]
theorem cells8 {w : World} {g : Nat} {s : St} {T : TypeId} (hg : w.heap[g]? = some (.cells s.cells T (0, 0))) :
    w.cell? ⟨g, 0, none⟩ = some (.int .u32 (U32 s.a)) ∧ w.cell? ⟨g, 1, none⟩ = some (.int .u32 (U32 s.b)) ∧ w.cell? ⟨g, 2, none⟩ = some (.int .u32 (U32 s.c)) ∧ w.cell? ⟨g, 3, none⟩ = some (.int .u32 (U32 s.d)) ∧
    w.cell? ⟨g, 4, none⟩ = some (.int .u32 (U32 s.e)) ∧ w.cell? ⟨g, 5, none⟩ = some (.int .u32 (U32 s.f)) ∧ w.cell? ⟨g, 6, none⟩ = some (.int .u32 (U32 s.g)) ∧ w.cell? ⟨g, 7, none⟩ = some (.int .u32 (U32 s.h)) ∧
    ∀ o, w.frozen? ⟨g, o, none⟩ = false := by
  refine ⟨?_, ?_, ?_, ?_, ?_, ?_, ?_, ?_, fun o => frozen_of_row w g o s.cells T hg⟩ <;> (rw [cell_of_row w g _ s.cells T (0, 0) hg]; rfl)

set_option maxHeartbeats 1000000 in
set_option maxRecDepth 100000 in
theorem round_ok (g : Nat) (s : St) (kw : UInt32) (T : TypeId) (w : World) (hg : w.heap[g]? = some (.cells s.cells T (0, 0))) :
    Calls Tryd.prog 68 #[.pointer (some ⟨g, 0, none⟩), .int .u32 (U32 kw)] w fun e w' => e = .returned (.tuple #[]) ∧ Fr [g] w w' ∧ w'.heap[g]? = some (.cells (rnd s kw).cells T (0, 0)) := by
  obtain ⟨c0, c1, c2, c3, c4, c5, c6, c7, fz⟩ := cells8 hg
  have HG := Lib.hid hg
  clear hg
  go_enter Tryd.func68, Tryd.ntmps68
  go_wp2
  go_quiet (fail)
  go_wp2
  go_quiet ((go_at_call 67; first | exact quiet_left (right_ok _ _ _ (by decide) (by decide)) | exact quiet_add_left (right_ok _ _ _ (by decide) (by decide))))
  go_wp2_with (go_at_call 67; refine (right_ok _ _ _ (by decide) (by decide)).mono ?_; rintro e w' ⟨rfl, rfl⟩)
  have HS : ∀ (j : Nat) (v : Value), [Value.int .u32 (U32 s.a), .int .u32 (U32 s.b), .int .u32 (U32 s.c), .int .u32 (U32 s.d), .int .u32 (U32 s.e), .int .u32 (U32 s.f), .int .u32 (U32 s.g)][j]? = some v → w.cell? ((⟨g, 0, none⟩ : Addr).add j) = some v := by
    intro j v hj
    have hadd : (⟨g, 0, none⟩ : Addr).add j = ⟨g, j, none⟩ := by unfold Addr.add; split <;> simp_all
    rw [hadd]
    rw [cell_of_row w g j s.cells T (0, 0) HG.out, ← hj]
    have hj7 : j < 7 := (List.getElem?_eq_some_iff.1 hj).1
    have : j = 0 ∨ j = 1 ∨ j = 2 ∨ j = 3 ∨ j = 4 ∨ j = 5 ∨ j = 6 := by omega
    rcases this with rfl | rfl | rfl | rfl | rfl | rfl | rfl <;> rfl
  have HS' := Lib.hid HS
  clear HS
  go_region_law ((refine step_copy_row rfl (.tmp 78) (.tmp 81) 89 89 rfl 67 Tryd.underlying89 u32size g 1 7 7 ⟨g, 0, none⟩ 7 8 ?h1 ?h2 s.cells T ?h3 [.int .u32 (U32 s.a), .int .u32 (U32 s.b), .int .u32 (U32 s.c), .int .u32 (U32 s.d), .int .u32 (U32 s.e), .int .u32 (U32 s.f), .int .u32 (U32 s.g)] ?h4 ?h5 ?h6 ?h7 ?h8; (case h1 => simp [Act.eval, Act.put]); (case h2 => simp [Act.eval, Act.put]); (case h3 => exact HG.out); (case h4 => rfl); (case h5 => exact HS'.out); (case h6 => exact Nat.le_refl 8); (case h7 => simp [Value.oneCell']); intro w1 hg1 hf1))
  have hg2 : w1.heap[g]? = some (.cells (St.cells ⟨s.a, s.a, s.b, s.c, s.d, s.e, s.f, s.g⟩) T (0, 0)) := hg1
  have HF := Lib.hid hf1
  have HG2 := Lib.hid hg2
  clear hg1 hf1 c0 c1 c2 c3 c4 c5 c6 c7 fz HS'
  obtain ⟨c0, c1, c2, c3, c4, c5, c6, c7, fz⟩ := cells8 hg2
  clear hg2
  dsimp only at c0 c1 c2 c3 c4 c5 c6 c7
  go_wp2
  go_region
  go_wp2
  go_end0
  refine ⟨rfl, ?_, ?_⟩
  · refine Fr.drew (Fr.setCell (Fr.setCell (((Fr.refl [g] w).drewN _).drew.trans HF.out) (.inl (by simp)) _) (.inl (by simp)) _)
  · rw [heap_drew]
    exact (heap_setCell (heap_setCell HG2.out _) _)

end Go.Proofs.YtmmoadhjlgbmhaaDoor.V
end
