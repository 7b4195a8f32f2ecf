import Derived.Test.YtpnbpcopdckgpaaGreatDoorZ1dc047f2
import Derived.Test.YtpnbpcopdckgpaaGreatDoorZb1546aba
namespace Go.Proofs.YtpnbpcopdckgpaaGreatDoor.V
def wordOf (l : List UInt8) : UInt32 := shl32 (nth l 0).toUInt32 24 ||| shl32 (nth l 1).toUInt32 16 ||| shl32 (nth l 2).toUInt32 8 ||| (nth l 3).toUInt32
def ror (x : UInt32) (n : Nat) : UInt32 := shl32 x (32 - n) ||| shr32 x n
def be4 (x : UInt32) : List UInt8 := [(shr32 x 24).toUInt8, (shr32 x 16).toUInt8, (shr32 x 8).toUInt8, x.toUInt8]
structure St where
 a : UInt32
 b : UInt32
 c : UInt32
 d : UInt32
 e : UInt32
 f : UInt32
 g : UInt32
 h : UInt32
def rnd (s : St) (kw : UInt32) : St :=
 let t := s.h + (ror s.e 6 ^^^ ror s.e 11 ^^^ ror s.e 25) + (s.e &&& s.f ^^^ ~~~s.e &&& s.g) + kw
 let u := (ror s.a 2 ^^^ ror s.a 13 ^^^ ror s.a 22) + (s.a &&& s.b ^^^ s.a &&& s.c ^^^ s.b &&& s.c)
 ⟨t + u, s.a, s.b, s.c, s.d + t, s.e, s.f, s.g⟩
def St.add (s t : St) : St := ⟨s.a + t.a, s.b + t.b, s.c + t.c, s.d + t.d, s.e + t.e, s.f + t.f, s.g + t.g, s.h + t.h⟩
def St.words (s : St) : List UInt32 := [s.a, s.b, s.c, s.d, s.e, s.f, s.g, s.h]
def lget (l : List UInt32) (i : Nat) : UInt32 := l[i]?.getD 0
def sig0 (x : UInt32) : UInt32 := ror x 7 ^^^ ror x 18 ^^^ shr32 x 3
def sig1 (x : UInt32) : UInt32 := ror x 17 ^^^ ror x 19 ^^^ shr32 x 10
def nxt (blk : List UInt8) (l : List UInt32) : UInt32 :=
 if l.length < 16 then wordOf (blk.drop (4 * l.length)) else lget l (l.length - 16) + sig0 (lget l (l.length - 15)) + lget l (l.length - 7) + sig1 (lget l (l.length - 2))
def sched (blk : List UInt8) : Nat → List UInt32
 | 0 => []
 | n + 1 => sched blk n ++ [nxt blk (sched blk n)]
theorem sched_length (blk : List UInt8) (n : Nat) : (sched blk n).length = n := by
 induction n with
 | zero => rfl
 | succ n ih => simp [sched, ih]
def kTab : List UInt32 := [
 0x428a2f98, 0x71374491, 0xb5c0fbcf, 0xe9b5dba5, 0x3956c25b, 0x59f111f1, 0x923f82a4, 0xab1c5ed5,
 0xd807aa98, 0x12835b01, 0x243185be, 0x550c7dc3, 0x72be5d74, 0x80deb1fe, 0x9bdc06a7, 0xc19bf174,
 0xe49b69c1, 0xefbe4786, 0x0fc19dc6, 0x240ca1cc, 0x2de92c6f, 0x4a7484aa, 0x5cb0a9dc, 0x76f988da,
 0x983e5152, 0xa831c66d, 0xb00327c8, 0xbf597fc7, 0xc6e00bf3, 0xd5a79147, 0x06ca6351, 0x14292967,
 0x27b70a85, 0x2e1b2138, 0x4d2c6dfc, 0x53380d13, 0x650a7354, 0x766a0abb, 0x81c2c92e, 0x92722c85,
 0xa2bfe8a1, 0xa81a664b, 0xc24b8b70, 0xc76c51a3, 0xd192e819, 0xd6990624, 0xf40e3585, 0x106aa070,
 0x19a4c116, 0x1e376c08, 0x2748774c, 0x34b0bcb5, 0x391c0cb3, 0x4ed8aa4a, 0x5b9cca4f, 0x682e6ff3,
 0x748f82ee, 0x78a5636f, 0x84c87814, 0x8cc70208, 0x90befffa, 0xa4506ceb, 0xbef9a3f7, 0xc67178f2]
def first : St := ⟨0x6a09e667, 0xbb67ae85, 0x3c6ef372, 0xa54ff53a, 0x510e527f, 0x9b05688c, 0x1f83d9ab, 0x5be0cd19⟩
def rounds (v : St) (w : List UInt32) : Nat → St
 | 0 => v
 | n + 1 => rnd (rounds v w n) (lget kTab n + lget w n)
def mixed (v : St) (blk : List UInt8) : St := v.add (rounds v (sched blk 64) 64)
def St.text (s : St) : List UInt8 := s.words.flatMap be4
theorem flat_be4_length (l : List UInt32) : (l.flatMap be4).length = 4 * l.length := by
 induction l with
 | nil => rfl
 | cons x l ih => simp only [List.flatMap_cons, List.length_append, ih, List.length_cons]; simp [be4]; omega
theorem take_words (s : St) (n : Nat) (h : n < 8) : (s.words.take (n + 1)).flatMap be4 = (s.words.take n).flatMap be4 ++ be4 (lget s.words n) := by
 have h1 : n < s.words.length := h
 rw [List.take_succ_eq_append_getElem h1, List.flatMap_append]
 simp [lget, h1]
def readSt (l : List UInt8) : St := ⟨wordOf l, wordOf (l.drop 4), wordOf (l.drop 8), wordOf (l.drop 12), wordOf (l.drop 16), wordOf (l.drop 20), wordOf (l.drop 24), wordOf (l.drop 28)⟩
theorem St.text_length (s : St) : s.text.length = 32 := by simp [St.text, St.words, be4]
def eat : Nat → St → List UInt8 → St
 | 0, v, _ => v
 | n + 1, v, l => eat n (mixed v (l.take 64)) (l.drop 64)
def noughts (n : Nat) : Nat := (119 - n % 64) % 64
def pad (n : Nat) : List UInt8 := 128 :: (List.replicate (noughts n) 0 ++ (be4 (UInt64.toUInt32 (shr64 (8 * UInt64.ofNat n) 32)) ++ be4 (8 * UInt32.ofNat n)))
theorem pad_len (n : Nat) : 9 ≤ (pad n).length ∧ (pad n).length ≤ 72 ∧ (n + (pad n).length) % 64 = 0 := by
 have : (pad n).length = noughts n + 9 := by simp [pad, be4]
 rw [this]
 unfold noughts
 omega
def sumSt (l : List UInt8) : St := eat ((l ++ pad l.length).length / 64) first (l ++ pad l.length)
def sum (l : List UInt8) : List UInt8 := (sumSt l).text
def input (d : UInt8) (ps : List (List UInt8)) : List UInt8 := d :: ps.flatMap fun p => be4 (UInt32.ofNat p.length) ++ p
def tag (d : UInt8) (ps : List (List UInt8)) : List UInt8 := sum (input d ps)
theorem word_be4 (x : UInt32) (r : List UInt8) : wordOf (be4 x ++ r) = x := by
 apply UInt32.toNat_inj.1
 have hx := x.toNat_lt
 simp only [wordOf, be4, nth, List.cons_append, List.nil_append, List.getElem?_cons_zero, List.getElem?_cons_succ, Option.getD_some, shl32, shr32, UInt32.toNat_or, UInt32.toNat_ofNat', UInt8.toNat_toUInt32, UInt32.toNat_toUInt8]
 generalize x.toNat = n at hx ⊢
 apply Nat.eq_of_testBit_eq
 intro i
 have h32 : ∀ j, 32 ≤ j → n.testBit j = false := fun j hj => Nat.testBit_lt_two_pow (Nat.lt_of_lt_of_le hx (Nat.pow_le_pow_right (by decide) hj))
 simp only [← Nat.shiftLeft_eq, ← Nat.shiftRight_eq_div_pow, Nat.testBit_or, Nat.testBit_mod_two_pow, Nat.testBit_shiftLeft, Nat.testBit_shiftRight]
 by_cases a : 32 ≤ i
 · rw [h32 i a]; simp; omega
 by_cases b : 24 ≤ i
 ·
  have : 24 + (i - 24) = i := by omega
  rw [this]; generalize n.testBit i = b; cases b <;> simp <;> omega
 by_cases c : 16 ≤ i
 ·
  have : 16 + (i - 16) = i := by omega
  rw [this]; generalize n.testBit i = b; cases b <;> simp <;> omega
 by_cases d : 8 ≤ i
 ·
  have : 8 + (i - 8) = i := by omega
  rw [this]; generalize n.testBit i = b; cases b <;> simp <;> omega
 generalize n.testBit i = b; cases b <;> simp <;> omega
theorem be4_length (x : UInt32) : (be4 x).length = 4 := rfl
theorem readSt_text (s : St) : readSt s.text = s := by
 obtain ⟨a, b, c, d, e, f, g, h⟩ := s
 have drop4 : ∀ (x : UInt32) (r : List UInt8), (be4 x ++ r).drop 4 = r := fun x r => rfl
 have e : (St.mk a b c d e f g h).text = be4 a ++ (be4 b ++ (be4 c ++ (be4 d ++ (be4 e ++ (be4 f ++ (be4 g ++ (be4 h ++ []))))))) := rfl
 rw [e]
 unfold readSt
 have d8 : ∀ (l : List UInt8), l.drop 8 = (l.drop 4).drop 4 := fun l => by rw [List.drop_drop]
 have d12 : ∀ (l : List UInt8), l.drop 12 = ((l.drop 4).drop 4).drop 4 := fun l => by simp only [List.drop_drop]
 have d16 : ∀ (l : List UInt8), l.drop 16 = (((l.drop 4).drop 4).drop 4).drop 4 := fun l => by simp only [List.drop_drop]
 have d20 : ∀ (l : List UInt8), l.drop 20 = ((((l.drop 4).drop 4).drop 4).drop 4).drop 4 := fun l => by simp only [List.drop_drop]
 have d24 : ∀ (l : List UInt8), l.drop 24 = (((((l.drop 4).drop 4).drop 4).drop 4).drop 4).drop 4 := fun l => by simp only [List.drop_drop]
 have d28 : ∀ (l : List UInt8), l.drop 28 = ((((((l.drop 4).drop 4).drop 4).drop 4).drop 4).drop 4).drop 4 := fun l => by simp only [List.drop_drop]
 rw [d8, d12, d16, d20, d24, d28]
 simp only [drop4, word_be4]
theorem eat_append (m n : Nat) : ∀ (v : St) (x y : List UInt8), x.length = 64 * m → eat (m + n) v (x ++ y) = eat n (eat m v x) y := by
 induction m with
 | zero =>
  intro v x y h
  obtain rfl : x = [] := List.eq_nil_of_length_eq_zero (by omega)
  simp [eat]
 | succ m ih =>
  intro v x y h
  rw [Nat.succ_add, eat, eat, List.take_append_of_le_length (by omega), List.drop_append_of_le_length (by omega)]
  exact ih _ _ _ (by rw [List.length_drop]; omega)
def padTail (n : Nat) : List UInt8 := be4 (UInt64.toUInt32 (shr64 (8 * UInt64.ofNat n) 32)) ++ be4 (8 * UInt32.ofNat n)
def pickN (c : Int) (n : Nat) : Nat := ((if c < 0 then -(c + 1) else c) % n).toNat
theorem sum_length (l : List UInt8) : (sum l).length = 32 := St.text_length _
theorem tag_length (d : UInt8) (ps : List (List UInt8)) : (tag d ps).length = 32 := St.text_length _
def fit (n : Nat) (l : List UInt8) : List UInt8 := l.take n ++ List.replicate (n - (l.take n).length) 0
def Coll (L : List (List UInt8)) : Prop := ∃ x ∈ L, ∃ y ∈ L, x ≠ y ∧ sum x = sum y
theorem Coll.mono {L M : List (List UInt8)} (h : Coll L) (hs : ∀ x ∈ L, x ∈ M) : Coll M := by
 obtain ⟨x, hx, y, hy, hne, he⟩ := h
 exact ⟨x, hs x hx, y, hs y hy, hne, he⟩
theorem Coll.of {x y : List UInt8} {L : List (List UInt8)} (hx : x ∈ L) (hy : y ∈ L) (he : sum x = sum y) : x = y ∨ Coll L := by
 by_cases h : x = y
 · exact .inl h
 exact .inr ⟨x, hx, y, hy, h, he⟩
abbrev Txt := List UInt8
def node (a b : Txt) : Txt := tag 5 [a, b]
def inp2 (a b : Txt) : Txt := input 5 [a, b]
theorem node_eq (a b : Txt) : node a b = sum (inp2 a b) := rfl
theorem node_length (a b : Txt) : (node a b).length = 32 := tag_length _ _
theorem inp2_length (a b : Txt) : (inp2 a b).length = a.length + b.length + 9 := by
 simp [inp2, input, be4_length]
 omega
def pairsL {β : Type} (f : Txt → Txt → β) : List Txt → List β
 | a :: b :: r => f a b :: pairsL f r
 | _ => []
theorem pairsL_length {β : Type} (f : Txt → Txt → β) : ∀ l : List Txt, (pairsL f l).length = l.length / 2
 | [] => rfl
 | [_] => by simp [pairsL]
 | a :: b :: r => by
  show (pairsL f r).length + 1 = (r.length + 1 + 1) / 2
  rw [pairsL_length f r]
  omega
def tget (l : List Txt) (i : Nat) : Txt := l[i]?.getD []
theorem tget_mem {l : List Txt} {i : Nat} (h : i < l.length) : tget l i ∈ l := by
 rw [tget, List.getElem?_eq_getElem h]
 exact List.getElem_mem h
theorem tget_some {l : List Txt} {i : Nat} (h : i < l.length) : l[i]? = some (tget l i) := by
 rw [tget, List.getElem?_eq_getElem h]
 rfl
theorem pairsL_append {β : Type} (f : Txt → Txt → β) : ∀ (n : Nat) (a b : List Txt), a.length = 2 * n → pairsL f (a ++ b) = pairsL f a ++ pairsL f b
 | 0, a, b, h => by
  obtain rfl : a = [] := List.eq_nil_of_length_eq_zero (by omega)
  rfl
 | n + 1, a, b, h => by
  match a, h with
  | x :: y :: a, h =>
   show f x y :: pairsL f (a ++ b) = f x y :: pairsL f a ++ pairsL f b
   rw [pairsL_append f n a b (by simp at h; omega)]
   rfl
theorem pairsL_step {β : Type} (f : Txt → Txt → β) (l : List Txt) (m : Nat) (h : 2 * m + 1 < l.length) : pairsL f (l.take (2 * (m + 1))) = pairsL f (l.take (2 * m)) ++ [f (tget l (2 * m)) (tget l (2 * m + 1))] := by
 have h1 : l.take (2 * (m + 1)) = l.take (2 * m) ++ [tget l (2 * m), tget l (2 * m + 1)] := by
  have e : 2 * (m + 1) = 2 * m + 1 + 1 := by omega
  rw [e, List.take_succ_eq_append_getElem h, List.take_succ_eq_append_getElem (by omega : 2 * m < l.length), List.append_assoc]
  have a := tget_some (l := l) (i := 2 * m) (by omega)
  have b := tget_some (l := l) (i := 2 * m + 1) h
  rw [List.getElem?_eq_getElem (by omega)] at a
  rw [List.getElem?_eq_getElem h] at b
  rw [Option.some.inj a, Option.some.inj b]
  rfl
 rw [h1, pairsL_append f m _ _ (by rw [List.length_take]; omega)]
 rfl
theorem pairsL_last {β : Type} (f : Txt → Txt → β) (l : List Txt) (m : Nat) (h1 : 2 * m ≤ l.length) (h2 : l.length ≤ 2 * m + 1) : pairsL f (l.take (2 * m)) = pairsL f l := by
 have h := pairsL_append f m (l.take (2 * m)) (l.drop (2 * m)) (by rw [List.length_take]; omega)
 rw [List.take_append_drop] at h
 rw [h]
 have : (l.drop (2 * m)).length ≤ 1 := by rw [List.length_drop]; omega
 match l.drop (2 * m), this with
 | [], _ => simp [pairsL]
 | [_], _ => simp [pairsL]
theorem pairs_mem_length {l : List Txt} : ∀ x ∈ pairsL node l, x.length = 32 := by
 match l with
 | [] => intro x hx; cases hx
 | [_] => intro x hx; cases hx
 | a :: b :: r =>
  intro x hx
  rcases List.mem_cons.1 hx with rfl | hx
  · exact node_length _ _
  exact pairs_mem_length (l := r) x hx
def sib (i : Nat) : Nat := if i % 2 = 0 then i + 1 else i - 1
theorem sib_lt {i n : Nat} (h : i < 2 * n) : sib i < 2 * n := by unfold sib; split <;> omega
def par (x : Txt) (i : Nat) (s : Txt) : Txt := if i % 2 = 0 then node x s else node s x
def parI (x : Txt) (i : Nat) (s : Txt) : Txt := if i % 2 = 0 then inp2 x s else inp2 s x
theorem par_eq (x : Txt) (i : Nat) (s : Txt) : par x i s = sum (parI x i s) := by unfold par parI; split <;> rfl
theorem par_length (x : Txt) (i : Nat) (s : Txt) : (par x i s).length = 32 := by rw [par_eq]; exact sum_length _
def rootN : Nat → List Txt → Txt
 | 0, l => tget l 0
 | n + 1, l => rootN n (pairsL node l)
def pathN : Nat → List Txt → Nat → List Txt
 | 0, _, _ => []
 | n + 1, l, i => tget l (sib i) :: pathN n (pairsL node l) (i / 2)
def inputsN : Nat → List Txt → List Txt
 | 0, _ => []
 | n + 1, l => pairsL inp2 l ++ inputsN n (pairsL node l)
def climbL : Txt → Nat → List Txt → Txt
 | x, _, [] => x
 | x, i, s :: p => climbL (par x i s) (i / 2) p
def climbedL : Txt → Nat → List Txt → List Txt
 | _, _, [] => []
 | x, i, s :: p => parI x i s :: climbedL (par x i s) (i / 2) p
theorem pathN_length : ∀ (n : Nat) (l : List Txt) (i : Nat), (pathN n l i).length = n
 | 0, _, _ => rfl
 | n + 1, l, i => by simp [pathN, pathN_length n]
theorem half_len {l : List Txt} {h : Nat} (hl : l.length = 2 ^ (h + 1)) : (pairsL node l).length = 2 ^ h := by
 rw [pairsL_length, hl, Nat.pow_succ]
 omega
theorem pathN_mem : ∀ (n : Nat) (l : List Txt) (i : Nat), l.length = 2 ^ n → i < 2 ^ n → (∀ x ∈ l, x.length = 32) → ∀ x ∈ pathN n l i, x.length = 32
 | 0, _, _, _, _, _, x, hx => by cases hx
 | n + 1, l, i, hl, hi, h32, x, hx => by
  have hp : 2 ^ (n + 1) = 2 * 2 ^ n := by rw [Nat.pow_succ]; omega
  rcases List.mem_cons.1 hx with rfl | hx
  · exact h32 _ (tget_mem (by have := sib_lt (i := i) (n := 2 ^ n) (by omega); omega))
  exact pathN_mem n _ _ (half_len hl) (by omega) pairs_mem_length x hx
def mayN (n : Nat) : Bool := n == 1 || n == 2 || n == 4 || n == 8 || n == 16 || n == 32 || n == 64 || n == 128
theorem mayN_iff {n : Nat} : mayN n = true ↔ ∃ h, h ≤ 7 ∧ n = 2 ^ h := by
 constructor
 ·
  intro h
  simp only [mayN, Bool.or_eq_true, beq_iff_eq] at h
  rcases h with ((((((h | h) | h) | h) | h) | h) | h) | h
  · exact ⟨0, by omega, h⟩
  · exact ⟨1, by omega, h⟩
  · exact ⟨2, by omega, h⟩
  · exact ⟨3, by omega, h⟩
  · exact ⟨4, by omega, h⟩
  · exact ⟨5, by omega, h⟩
  · exact ⟨6, by omega, h⟩
  exact ⟨7, by omega, h⟩
 rintro ⟨h, hh, rfl⟩
 have : h = 0 ∨ h = 1 ∨ h = 2 ∨ h = 3 ∨ h = 4 ∨ h = 5 ∨ h = 6 ∨ h = 7 := by omega
 rcases this with rfl | rfl | rfl | rfl | rfl | rfl | rfl | rfl <;> rfl
theorem mayN_pow {h : Nat} (hh : h ≤ 7) : mayN (2 ^ h) = true := mayN_iff.2 ⟨h, hh, rfl⟩
def rootT (l : List Txt) : Txt := if mayN l.length then rootN (Nat.log2 l.length) l else []
def pathT (l : List Txt) (i : Int) : List Txt := if mayN l.length ∧ 0 ≤ i ∧ i < l.length then pathN (Nat.log2 l.length) l i.toNat else []
def inputsT (l : List Txt) : List Txt := if mayN l.length then inputsN (Nat.log2 l.length) l else []
def climbT (x : Txt) (i : Int) (p : List Txt) : Txt := climbL x i.toNat p
def climbedT (x : Txt) (i : Int) (p : List Txt) : List Txt := climbedL x i.toNat p
theorem pathT_eq {l : List Txt} {h i : Nat} (hh : h ≤ 7) (hl : l.length = 2 ^ h) (hi : i < 2 ^ h) : pathT l (i : Int) = pathN h l i := by
 rw [pathT, hl, mayN_pow hh, Nat.log2_two_pow, if_pos ⟨rfl, by omega, by omega⟩]
 rfl
abbrev Txw := List UInt8
def nrm (n : Int) : Nat := if n < 0 ∨ 4294967296 < n then 0 else n.toNat
def laidN (n : Int) : Txw := beS (UInt64.ofNat (nrm n)) 8
theorem laidN_length (n : Int) : (laidN n).length = 8 := beS_length _ _
def hiD (d : Txw) (i : Nat) : Nat := (nth d i).toNat / 16
def loD (d : Txw) (i : Nat) : Nat := (nth d i).toNat % 16
theorem hiD_lt (d : Txw) (i : Nat) : hiD d i < 16 := by unfold hiD; have := (nth d i).toNat_lt; omega
theorem loD_lt (d : Txw) (i : Nat) : loD d i < 16 := by unfold loD; omega
def dgs (d : Txw) : Nat → List Nat
 | 0 => []
 | m + 1 => dgs d m ++ [hiD d m, loD d m]
def lackD (d : Txw) : Nat → Nat
 | 0 => 0
 | m + 1 => lackD d m + (30 - hiD d m - loD d m)
theorem dgs_length (d : Txw) : ∀ m, (dgs d m).length = 2 * m
 | 0 => rfl
 | m + 1 => by simp [dgs, dgs_length d m]; omega
theorem lackD_le (d : Txw) : ∀ m, lackD d m ≤ 30 * m
 | 0 => Nat.le_refl _
 | m + 1 => by have := lackD_le d m; simp only [lackD]; omega
def digitsD (d : Txw) : List Nat := dgs d 4 ++ [lackD d 4 / 16, lackD d 4 % 16]
def digitsT (msg : Txw) : List Nat := digitsD (tag 1 [msg])
theorem digitsT_length (msg : Txw) : (digitsT msg).length = 10 := by simp [digitsT, digitsD, dgs_length]
def nget (l : List Nat) (i : Nat) : Nat := l[i]?.getD 0
theorem digitsD_list (d : Txw) : digitsD d = [hiD d 0, loD d 0, hiD d 1, loD d 1, hiD d 2, loD d 2, hiD d 3, loD d 3, lackD d 4 / 16, lackD d 4 % 16] := rfl
theorem digits_ten (d : Txw) : ∃ a0 a1 a2 a3 a4 a5 a6 a7 a8 a9 : Nat, digitsD d = [a0, a1, a2, a3, a4, a5, a6, a7, a8, a9] ∧ a0 < 16 ∧ a1 < 16 ∧ a2 < 16 ∧ a3 < 16 ∧ a4 < 16 ∧ a5 < 16 ∧ a6 < 16 ∧ a7 < 16 ∧ a8 < 16 ∧ a9 < 16 ∧
  (15 - a0) + (15 - a1) + (15 - a2) + (15 - a3) + (15 - a4) + (15 - a5) + (15 - a6) + (15 - a7) = 16 * a8 + a9 := by
 have h0 := hiD_lt d 0; have h1 := loD_lt d 0; have h2 := hiD_lt d 1; have h3 := loD_lt d 1; have h4 := hiD_lt d 2; have h5 := loD_lt d 2; have h6 := hiD_lt d 3; have h7 := loD_lt d 3
 refine ⟨_, _, _, _, _, _, _, _, _, _, digitsD_list d, h0, h1, h2, h3, h4, h5, h6, h7, ?_, ?_, ?_⟩
 · have := lackD_le d 4; omega
 · omega
 simp only [lackD]; omega
theorem digits_lt (d : Txw) (i : Nat) : nget (digitsD d) i < 16 := by
 obtain ⟨a0, a1, a2, a3, a4, a5, a6, a7, a8, a9, he, h0, h1, h2, h3, h4, h5, h6, h7, h8, h9, _⟩ := digits_ten d
 rw [he]
 match i with
 | 0 => exact h0
 | 1 => exact h1
 | 2 => exact h2
 | 3 => exact h3
 | 4 => exact h4
 | 5 => exact h5
 | 6 => exact h6
 | 7 => exact h7
 | 8 => exact h8
 | 9 => exact h9
 | _ + 10 => exact (by decide : (0 : Nat) < 16)
def wstep (c a : Int) (v : Txw) : Txw := (tag 2 [laidN c, laidN a, v]).take 16
theorem wstep_length (c a : Int) (v : Txw) : (wstep c a v).length = 16 := by simp [wstep, tag_length]
def walkN (c : Int) : Nat → Int → Txw → Txw
 | 0, _, v => v
 | n + 1, a, v => walkN c n (a + 1) (wstep c a v)
def walkT (c a b : Int) (v : Txw) : Txw := if a < 0 ∨ 15 < b then v else walkN c (b - a).toNat a v
theorem walkN_length (c : Int) : ∀ (n : Nat) (a : Int) (v : Txw), v.length = 16 → (walkN c n a v).length = 16
 | 0, _, _, h => h
 | n + 1, a, v, _ => walkN_length c n _ _ (wstep_length c a v)
theorem walkT_length (c a b : Int) (v : Txw) (h : v.length = 16) : (walkT c a b v).length = 16 := by
 unfold walkT
 split
 · exact h
 exact walkN_length _ _ _ _ h
def secretT (seed : Txw) (leaf c : Int) : Txw := (tag 3 [seed, laidN leaf, laidN c]).take 16
theorem secretT_length (seed : Txw) (leaf c : Int) : (secretT seed leaf c).length = 16 := by simp [secretT, tag_length]
def joinL (f : Nat → Txw) : Nat → Txw
 | 0 => []
 | n + 1 => joinL f n ++ f n
def endsL (f : Nat → Txw) (n : Nat) : List Txw := (List.range n).map f
theorem endsL_succ (f : Nat → Txw) (n : Nat) : endsL f (n + 1) = endsL f n ++ [f n] := by simp [endsL, List.range_succ]
theorem endsL_length (f : Nat → Txw) (n : Nat) : (endsL f n).length = n := by simp [endsL]
theorem joinL_length (f : Nat → Txw) (h : ∀ c, (f c).length = 16) : ∀ n, (joinL f n).length = 16 * n
 | 0 => rfl
 | n + 1 => by rw [joinL, List.length_append, joinL_length f h n, h]; omega
def pubF (seed : Txw) (leaf : Int) (c : Nat) : Txw := walkT c 0 15 (secretT seed leaf c)
def signF (seed : Txw) (leaf : Int) (d : List Nat) (c : Nat) : Txw := walkT c 0 (nget d c) (secretT seed leaf c)
def fromF (sig : Txw) (d : List Nat) (c : Nat) : Txw := walkT c (nget d c) 15 ((sig.drop (16 * c)).take 16)
def pubT (seed : Txw) (leaf : Int) : Txw := tag 4 (endsL (pubF seed leaf) 10)
def signT (seed : Txw) (leaf : Int) (msg : Txw) : Txw := joinL (signF seed leaf (digitsT msg)) 10
def fromT (sig msg : Txw) : Txw := if sig.length = 160 then tag 4 (endsL (fromF sig (digitsT msg)) 10) else []
theorem signF_length (seed : Txw) (leaf : Int) (d : List Nat) (c : Nat) : (signF seed leaf d c).length = 16 := walkT_length _ _ _ _ (secretT_length _ _ _)
theorem signT_length (seed : Txw) (leaf : Int) (msg : Txw) : (signT seed leaf msg).length = 160 := joinL_length _ (signF_length _ _ _) 10
theorem pubF_length (seed : Txw) (leaf : Int) (c : Nat) : (pubF seed leaf c).length = 16 := walkT_length _ _ _ _ (secretT_length _ _ _)
def leavesT (seed : Txt) (h : Nat) : List Txt := (List.range (2 ^ h)).map fun i : Nat => pubT seed (i : Int)
theorem leavesT_length (seed : Txt) (h : Nat) : (leavesT seed h).length = 2 ^ h := by simp [leavesT]
theorem leavesT_32 (seed : Txt) (h : Nat) : ∀ x ∈ leavesT seed h, x.length = 32 := by
 intro x hx
 obtain ⟨i, -, rfl⟩ := List.mem_map.1 hx
 exact tag_length _ _
def pieceT (s : Txt) : Txt := beS (UInt64.ofNat s.length) 4 ++ s
theorem pieceT_length (s : Txt) : (pieceT s).length = 4 + s.length := by unfold pieceT; rw [List.length_append, beS_length]
def keyT (seed : Txt) (h : Nat) : Txt := beS (UInt64.ofNat h) 8 ++ rootN h (leavesT seed h)
theorem rootN_length : ∀ (n : Nat) (l : List Txt), l.length = 2 ^ n → (∀ x ∈ l, x.length = 32) → (rootN n l).length = 32
 | 0, l, hl, h => h _ (tget_mem (by rw [hl]; decide))
 | n + 1, l, hl, h => rootN_length n (pairsL node l) (half_len hl) (fun x hx => pairs_mem_length x hx)
theorem keyT_length (seed : Txt) (h : Nat) : (keyT seed h).length = 40 := by
 unfold keyT
 rw [List.length_append, beS_length, rootN_length h _ (leavesT_length _ _) (leavesT_32 _ _)]
def sigT (seed : Txt) (h i : Nat) (msg : Txt) : Txt := beS (UInt64.ofNat i) 8 ++ pieceT (signT seed (i : Int) msg) ++ ((pathN h (leavesT seed h) i).map pieceT).flatten
def rdP (f0 : Bool) (r0 : Txt × Bool) : Nat → List Txt × Bool × Txt × Bool
 | 0 => ([], f0, r0)
 | k + 1 => ((rdP f0 r0 k).1 ++ [(rdText 32 (rdP f0 r0 k).2.2).1], (rdP f0 r0 k).2.1 && decide ((rdText 32 (rdP f0 r0 k).2.2).1.length = 32), (rdText 32 (rdP f0 r0 k).2.2).2)
def verF (msg : Txt) (h : Nat) (pub : Txt) (n : UInt64) (s : Txt) (p : List Txt × Bool × Txt × Bool) : Bool :=
 if p.2.1 = true ∧ p.2.2.2 = false ∧ p.2.2.1 = [] ∧ n.toNat < 2 ^ h then decide (climbL (fromT s msg) n.toNat p.1 = pub.drop 8) else false
def verG (msg : Txt) (h : Nat) (pub sig : Txt) : Bool :=
 verF msg h pub (rdNum (sig, false)).1 (rdText 160 (rdNum (sig, false)).2).1 (rdP (decide ((rdText 160 (rdNum (sig, false)).2).1.length = 160)) (rdText 160 (rdNum (sig, false)).2).2 h)
def verifyT (pub msg sig : Txt) : Bool :=
 if pub.length ≠ 40 then false else if 7 < (valU (pub.take 8)).toNat then false else verG msg (valU (pub.take 8)).toNat pub sig
theorem rdNum_back (x : UInt64) (rest : Txt) : rdNum (beS x 8 ++ rest, false) = (x, rest, false) := by
 have hl := beS_length x 8
 unfold rdNum
 rw [rdCut_fit (by rw [List.length_append]; omega), if_neg (by simp), List.take_left' hl, List.drop_left' hl, valU_be8]
theorem rdText_back (most : Nat) (s rest : Txt) (h : s.length ≤ most) (hm : most < 4294967296) : rdText most (pieceT s ++ rest, false) = (s, rest, false) := by
 have hl := beS_length (UInt64.ofNat s.length) 4
 unfold rdText pieceT
 rw [List.append_assoc, rdCut_fit (by rw [List.length_append]; omega), if_neg (by simp), List.take_left' hl, List.drop_left' hl]
 have hv : (valU (beS (UInt64.ofNat s.length) 4)).toNat = s.length := by
  rw [valU_beS _ _ (by decide), UInt64.toNat_ofNat', Nat.mod_eq_of_lt (by omega), Nat.mod_eq_of_lt (by omega)]
 rw [hv, if_neg (by omega), rdCut_fit (by rw [List.length_append]; omega), List.take_left' rfl, List.drop_left' rfl]
theorem pw7 {h : Nat} (hh : h ≤ 7) : 2 ^ h ≤ 128 := Nat.pow_le_pow_right (n := 2) (by decide) hh
theorem key_tail (seed : Txt) (h : Nat) : (keyT seed h).drop 8 = rootN h (leavesT seed h) := List.drop_left' (beS_length _ _)
theorem rdNum_len (r : Txt × Bool) : (rdNum r).2.1.length ≤ r.1.length := (rdCut_len 8 r).2
end Go.Proofs.YtpnbpcopdckgpaaGreatDoor.V
