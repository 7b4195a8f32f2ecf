import Derived.Test.YtmifllopcbjliaaDoorZ6a76b27e
section
/- What layer 6 computes, in plain Lean: nodes, levels, roots, paths, climbs; and the stage's theorems on them. -/
namespace Go.Proofs.YtmifllopcbjliaaDoor.V

abbrev Txt := List UInt8
def node (a b : Txt) : Txt := tag 5 [a, b]
def inp2 (a b : Txt) : Txt := input 5 [a, b]
theorem node_eq (a b : Txt) : node a b = sum (inp2 a b) := rfl
theorem node_length (a b : Txt) : (node a b).length = 32 := tag_length _ _
theorem inp2_length (a b : Txt) : (inp2 a b).length = a.length + b.length + 9 := by
  simp [inp2, input, be4_length]
  omega
theorem inp2_inj {a b c d : Txt} (ha : a.length < 4294967296) (hb : b.length < 4294967296) (hc : c.length < 4294967296) (hd : d.length < 4294967296) (h : inp2 a b = inp2 c d) : a = c ∧ b = d := by
  have := (input_inj (d := 5) (e := 5) (a := [a, b]) (b := [c, d]) (by simp [ha, hb]) (by simp [hc, hd])).1 h
  simpa using this.2
/-- what comes of each two that stand side by side -/
def pairsL {β : Type} (f : Txt → Txt → β) : List Txt → List β
  | a :: b :: r => f a b :: pairsL f r
  | _ => []
theorem pairsL_length {β : Type} (f : Txt → Txt → β) : ∀ l : List Txt, (pairsL f l).length = l.length / 2
  | [] => rfl
  | [_] => by simp [pairsL]
  | a :: b :: r => by
    show (pairsL f r).length + 1 = (r.length + 1 + 1) / 2
    rw [pairsL_length f r]
    omega
def tget (l : List Txt) (i : Nat) : Txt := l[i]?.getD []
theorem tget_mem {l : List Txt} {i : Nat} (h : i < l.length) : tget l i ∈ l := by
  rw [tget, List.getElem?_eq_getElem h]
  exact List.getElem_mem h
theorem tget_some {l : List Txt} {i : Nat} (h : i < l.length) : l[i]? = some (tget l i) := by
  rw [tget, List.getElem?_eq_getElem h]
  rfl
theorem pairsL_get {β : Type} (f : Txt → Txt → β) : ∀ (l : List Txt) (j : Nat), 2 * j + 1 < l.length → (pairsL f l)[j]? = some (f (tget l (2 * j)) (tget l (2 * j + 1)))
  | [], _, h => by simp at h
  | [_], _, h => by simp at h
  | a :: b :: r, 0, _ => rfl
  | a :: b :: r, j + 1, h => by
    show (pairsL f r)[j]? = _
    rw [pairsL_get f r j (by simp at h; omega)]
    rfl
theorem tget_pairs (l : List Txt) (j : Nat) (h : 2 * j + 1 < l.length) : tget (pairsL node l) j = node (tget l (2 * j)) (tget l (2 * j + 1)) := by
  rw [tget, pairsL_get node l j h]
  rfl
theorem pairsL_append {β : Type} (f : Txt → Txt → β) : ∀ (n : Nat) (a b : List Txt), a.length = 2 * n → pairsL f (a ++ b) = pairsL f a ++ pairsL f b
  | 0, a, b, h => by
    obtain rfl : a = [] := List.eq_nil_of_length_eq_zero (by omega)
    rfl
  | n + 1, a, b, h => by
    match a, h with
    | x :: y :: a, h =>
      show f x y :: pairsL f (a ++ b) = f x y :: pairsL f a ++ pairsL f b
      rw [pairsL_append f n a b (by simp at h; omega)]
      rfl
theorem pairsL_step {β : Type} (f : Txt → Txt → β) (l : List Txt) (m : Nat) (h : 2 * m + 1 < l.length) : pairsL f (l.take (2 * (m + 1))) = pairsL f (l.take (2 * m)) ++ [f (tget l (2 * m)) (tget l (2 * m + 1))] := by
  have h1 : l.take (2 * (m + 1)) = l.take (2 * m) ++ [tget l (2 * m), tget l (2 * m + 1)] := by
    have e : 2 * (m + 1) = 2 * m + 1 + 1 := by omega
    rw [e, List.take_succ_eq_append_getElem h, List.take_succ_eq_append_getElem (by omega : 2 * m < l.length), List.append_assoc]
    have a := tget_some (l := l) (i := 2 * m) (by omega)
    have b := tget_some (l := l) (i := 2 * m + 1) h
    rw [List.getElem?_eq_getElem (by omega)] at a
    rw [List.getElem?_eq_getElem h] at b
    rw [Option.some.inj a, Option.some.inj b]
    rfl
  rw [h1, pairsL_append f m _ _ (by rw [List.length_take]; omega)]
  rfl
theorem pairsL_last {β : Type} (f : Txt → Txt → β) (l : List Txt) (m : Nat) (h1 : 2 * m ≤ l.length) (h2 : l.length ≤ 2 * m + 1) : pairsL f (l.take (2 * m)) = pairsL f l := by
  have h := pairsL_append f m (l.take (2 * m)) (l.drop (2 * m)) (by rw [List.length_take]; omega)
  rw [List.take_append_drop] at h
  rw [h]
  have : (l.drop (2 * m)).length ≤ 1 := by rw [List.length_drop]; omega
  match l.drop (2 * m), this with
  | [], _ => simp [pairsL]
  | [_], _ => simp [pairsL]
theorem pairsL_take {β : Type} (f : Txt → Txt → β) (l : List Txt) (m : Nat) (h : 2 * m ≤ l.length) : pairsL f (l.take (2 * m)) = (pairsL f l).take m ∧ pairsL f (l.drop (2 * m)) = (pairsL f l).drop m := by
  have hl : (l.take (2 * m)).length = 2 * m := by rw [List.length_take]; omega
  have h := pairsL_append f m (l.take (2 * m)) (l.drop (2 * m)) hl
  rw [List.take_append_drop] at h
  have hm : (pairsL f (l.take (2 * m))).length = m := by rw [pairsL_length, hl]; omega
  rw [h]
  constructor
  · rw [List.take_append_of_le_length (by omega)]
    exact (List.take_of_length_le (Nat.le_of_eq hm)).symm
  · rw [List.drop_append_of_le_length (by omega), show (pairsL f (l.take (2 * m))).drop m = [] from List.drop_of_length_le (Nat.le_of_eq hm)]
    rfl
theorem pairs_mem_length {l : List Txt} : ∀ x ∈ pairsL node l, x.length = 32 := by
  match l with
  | [] => intro x hx; cases hx
  | [_] => intro x hx; cases hx
  | a :: b :: r =>
    intro x hx
    rcases List.mem_cons.1 hx with rfl | hx
    · exact node_length _ _
    · exact pairs_mem_length (l := r) x hx

/-- the one beside -/
def sib (i : Nat) : Nat := if i % 2 = 0 then i + 1 else i - 1
theorem sib_sib (i : Nat) : sib (sib i) = i := by unfold sib; split <;> split <;> omega
theorem sib_half (i : Nat) : sib i / 2 = i / 2 := by unfold sib; split <;> omega
theorem sib_lt {i n : Nat} (h : i < 2 * n) : sib i < 2 * n := by unfold sib; split <;> omega
/-- the parent of two, one of which is told -/
def par (x : Txt) (i : Nat) (s : Txt) : Txt := if i % 2 = 0 then node x s else node s x
def parI (x : Txt) (i : Nat) (s : Txt) : Txt := if i % 2 = 0 then inp2 x s else inp2 s x
theorem par_eq (x : Txt) (i : Nat) (s : Txt) : par x i s = sum (parI x i s) := by unfold par parI; split <;> rfl
theorem par_length (x : Txt) (i : Nat) (s : Txt) : (par x i s).length = 32 := by rw [par_eq]; exact sum_length _
theorem par_get (l : List Txt) (i n : Nat) (h : i < 2 * n) (hl : l.length = 2 * n) : par (tget l i) i (tget l (sib i)) = tget (pairsL node l) (i / 2) := by
  rw [tget_pairs l (i / 2) (by omega)]
  unfold par sib
  split
  · rw [show 2 * (i / 2) = i by omega]
  · rw [show 2 * (i / 2) = i - 1 by omega, show i - 1 + 1 = i by omega]
def rootN : Nat → List Txt → Txt
  | 0, l => tget l 0
  | n + 1, l => rootN n (pairsL node l)
def pathN : Nat → List Txt → Nat → List Txt
  | 0, _, _ => []
  | n + 1, l, i => tget l (sib i) :: pathN n (pairsL node l) (i / 2)
def inputsN : Nat → List Txt → List Txt
  | 0, _ => []
  | n + 1, l => pairsL inp2 l ++ inputsN n (pairsL node l)
def climbL : Txt → Nat → List Txt → Txt
  | x, _, [] => x
  | x, i, s :: p => climbL (par x i s) (i / 2) p
def climbedL : Txt → Nat → List Txt → List Txt
  | _, _, [] => []
  | x, i, s :: p => parI x i s :: climbedL (par x i s) (i / 2) p
theorem pathN_length : ∀ (n : Nat) (l : List Txt) (i : Nat), (pathN n l i).length = n
  | 0, _, _ => rfl
  | n + 1, l, i => by simp [pathN, pathN_length n]
theorem climbedL_length : ∀ (p : List Txt) (x : Txt) (i : Nat), (climbedL x i p).length = p.length
  | [], _, _ => rfl
  | s :: p, x, i => by simp [climbedL, climbedL_length p]
theorem half_len {l : List Txt} {h : Nat} (hl : l.length = 2 ^ (h + 1)) : (pairsL node l).length = 2 ^ h := by
  rw [pairsL_length, hl, Nat.pow_succ]
  omega
theorem inputsN_length : ∀ (n : Nat) (l : List Txt), l.length = 2 ^ n → (inputsN n l).length + 1 = 2 ^ n
  | 0, _, _ => rfl
  | n + 1, l, hl => by
    have := inputsN_length n (pairsL node l) (half_len hl)
    simp only [inputsN, List.length_append, pairsL_length, hl, Nat.pow_succ] at *
    omega
theorem pathN_mem : ∀ (n : Nat) (l : List Txt) (i : Nat), l.length = 2 ^ n → i < 2 ^ n → (∀ x ∈ l, x.length = 32) → ∀ x ∈ pathN n l i, x.length = 32
  | 0, _, _, _, _, _, x, hx => by cases hx
  | n + 1, l, i, hl, hi, h32, x, hx => by
    have hp : 2 ^ (n + 1) = 2 * 2 ^ n := by rw [Nat.pow_succ]; omega
    rcases List.mem_cons.1 hx with rfl | hx
    · exact h32 _ (tget_mem (by have := sib_lt (i := i) (n := 2 ^ n) (by omega); omega))
    · exact pathN_mem n _ _ (half_len hl) (by omega) pairs_mem_length x hx
/-- Climb of a leaf and its path is the root -/
theorem climb_path : ∀ (n : Nat) (l : List Txt) (i : Nat), l.length = 2 ^ n → i < 2 ^ n → climbL (tget l i) i (pathN n l i) = rootN n l
  | 0, l, i, _, hi => by
    obtain rfl : i = 0 := by simp at hi; exact hi
    rfl
  | n + 1, l, i, hl, hi => by
    have hp : 2 ^ (n + 1) = 2 * 2 ^ n := by rw [Nat.pow_succ]; omega
    show climbL (par (tget l i) i (tget l (sib i))) (i / 2) (pathN n (pairsL node l) (i / 2)) = rootN n (pairsL node l)
    rw [par_get l i (2 ^ n) (by omega) (by omega)]
    exact climb_path n _ _ (half_len hl) (by omega)
theorem pairs_mem {l : List Txt} {j : Nat} {β : Type} (f : Txt → Txt → β) (h : 2 * j + 1 < l.length) : f (tget l (2 * j)) (tget l (2 * j + 1)) ∈ pairsL f l :=
  List.mem_of_getElem? (pairsL_get f l j h)
theorem small {x : Txt} (h : x.length = 32) : x.length < 4294967296 := by omega
/-- what climbs to the root is the leaf there -/
theorem sound : ∀ (n : Nat) (l : List Txt) (i : Nat) (x : Txt) (p : List Txt), l.length = 2 ^ n → i < 2 ^ n → (∀ y ∈ l, y.length = 32) → x.length = 32 → p.length = n → (∀ y ∈ p, y.length = 32) → climbL x i p = rootN n l →
    (x = tget l i ∧ p = pathN n l i) ∨ Coll (inputsN n l ++ climbedL x i p)
  | 0, l, i, x, p, hl, hi, h32, hx, hp, hp32, he => by
    obtain rfl : p = [] := List.eq_nil_of_length_eq_zero hp
    obtain rfl : i = 0 := by simp at hi; exact hi
    exact .inl ⟨he, rfl⟩
  | n + 1, l, i, x, p, hl, hi, h32, hx, hp, hp32, he => by
    have h2 : 2 ^ (n + 1) = 2 * 2 ^ n := by rw [Nat.pow_succ]; omega
    match p, hp with
    | s :: p, hp =>
      have ih := sound n (pairsL node l) (i / 2) (par x i s) p (half_len hl) (by omega) pairs_mem_length (par_length _ _ _) (by simpa using hp) (fun y hy => hp32 y (by simp [hy])) he
      rcases ih with ⟨h1, hq⟩ | hc
      · have hj : 2 * (i / 2) + 1 < l.length := by omega
        have hs : s.length = 32 := hp32 s (by simp)
        have ha : (tget l i).length = 32 := h32 _ (tget_mem (by omega))
        have hb : (tget l (sib i)).length = 32 := h32 _ (tget_mem (by have := sib_lt (i := i) (n := 2 ^ n) (by omega); omega))
        rw [← par_get l i (2 ^ n) (by omega) (by omega)] at h1
        rw [par_eq, par_eq] at h1
        have hm : parI (tget l i) i (tget l (sib i)) ∈ pairsL inp2 l := by
          have := pairs_mem inp2 hj
          unfold parI sib
          split
          · rw [show 2 * (i / 2) = i by omega] at this; exact this
          · rw [show 2 * (i / 2) = i - 1 by omega, show i - 1 + 1 = i by omega] at this; exact this
        rcases Coll.of (x := parI x i s) (y := parI (tget l i) i (tget l (sib i))) (L := inputsN (n + 1) l ++ climbedL x i (s :: p)) (by simp [climbedL]) (by simp [inputsN, hm]) h1 with h3 | h3
        · refine .inl ?_
          have h4 : x = tget l i ∧ s = tget l (sib i) := by
            unfold parI at h3
            split at h3
            · exact inp2_inj (small hx) (small hs) (small ha) (small hb) h3
            · have := inp2_inj (small hs) (small hx) (small hb) (small ha) h3
              exact ⟨this.2, this.1⟩
          refine ⟨h4.1, ?_⟩
          show s :: p = tget l (sib i) :: pathN n (pairsL node l) (i / 2)
          rw [← h4.2, ← hq]
        · exact .inr h3
      · refine .inr (hc.mono fun y hy => ?_)
        simp only [inputsN, climbedL, List.mem_append, List.mem_cons] at hy ⊢
        rcases hy with hy | hy
        · exact .inl (.inr hy)
        · exact .inr (.inr hy)
theorem pairs_roots : ∀ (n : Nat) (a b : List Txt), a.length = 2 * n → b.length = 2 * n → (∀ y ∈ a, y.length = 32) → (∀ y ∈ b, y.length = 32) → pairsL node a = pairsL node b → a = b ∨ Coll (pairsL inp2 a ++ pairsL inp2 b)
  | 0, a, b, ha, hb, _, _, _ => by
    obtain rfl : a = [] := List.eq_nil_of_length_eq_zero (by omega)
    obtain rfl : b = [] := List.eq_nil_of_length_eq_zero (by omega)
    exact .inl rfl
  | n + 1, a, b, ha, hb, h1, h2, h => by
    match a, b, ha, hb with
    | x :: y :: a, u :: v :: b, ha, hb =>
      simp only [pairsL, List.cons.injEq] at h
      rcases pairs_roots n a b (by simp at ha; omega) (by simp at hb; omega) (fun z hz => h1 z (by simp [hz])) (fun z hz => h2 z (by simp [hz])) h.2 with h3 | h3
      · rcases Coll.of (x := inp2 x y) (y := inp2 u v) (L := pairsL inp2 (x :: y :: a) ++ pairsL inp2 (u :: v :: b)) (by simp [pairsL]) (by simp [pairsL]) h.1 with h4 | h4
        · obtain ⟨h5, h6⟩ := inp2_inj (small (h1 x (by simp))) (small (h1 y (by simp))) (small (h2 u (by simp))) (small (h2 v (by simp))) h4
          exact .inl (by rw [h5, h6, h3])
        · exact .inr h4
      · refine .inr (h3.mono fun z hz => ?_)
        simp only [pairsL, List.mem_append, List.mem_cons] at hz ⊢
        rcases hz with hz | hz
        · exact .inl (.inr hz)
        · exact .inr (.inr hz)
/-- of unlike leaves the roots are unlike -/
theorem roots : ∀ (n : Nat) (a b : List Txt), a.length = 2 ^ n → b.length = 2 ^ n → (∀ y ∈ a, y.length = 32) → (∀ y ∈ b, y.length = 32) → rootN n a = rootN n b → a = b ∨ Coll (inputsN n a ++ inputsN n b)
  | 0, a, b, ha, hb, _, _, h => by
    match a, b, ha, hb with
    | [x], [y], _, _ => exact .inl (by rw [show x = y from h])
  | n + 1, a, b, ha, hb, h1, h2, h => by
    have hp : 2 ^ (n + 1) = 2 * 2 ^ n := by rw [Nat.pow_succ]; omega
    rcases roots n _ _ (half_len ha) (half_len hb) pairs_mem_length pairs_mem_length h with h3 | h3
    · rcases pairs_roots (2 ^ n) a b (by omega) (by omega) h1 h2 h3 with h4 | h4
      · exact .inl h4
      · refine .inr (h4.mono fun z hz => ?_)
        simp only [inputsN, List.mem_append] at hz ⊢
        rcases hz with hz | hz
        · exact .inl (.inl hz)
        · exact .inr (.inl hz)
    · refine .inr (h3.mono fun z hz => ?_)
      simp only [inputsN, List.mem_append] at hz ⊢
      rcases hz with hz | hz
      · exact .inl (.inr hz)
      · exact .inr (.inr hz)
theorem halves : ∀ (n : Nat) (l : List Txt), l.length = 2 ^ (n + 1) → rootN (n + 1) l = node (rootN n (l.take (2 ^ n))) (rootN n (l.drop (2 ^ n)))
  | 0, l, hl => by
    match l, hl with
    | [a, b], _ => rfl
  | n + 1, l, hl => by
    have h1 : 2 ^ (n + 1) = 2 * 2 ^ n := by rw [Nat.pow_succ]; omega
    have h2 : 2 ^ (n + 1 + 1) = 2 * 2 ^ (n + 1) := by rw [Nat.pow_succ]; omega
    obtain ⟨h3, h4⟩ := pairsL_take node l (2 ^ n) (by omega)
    show rootN (n + 1) (pairsL node l) = node (rootN n (pairsL node (l.take (2 ^ (n + 1))))) (rootN n (pairsL node (l.drop (2 ^ (n + 1)))))
    rw [halves n _ (half_len hl), h1, h3, h4]
/-- a path's last text is the other half's root -/
theorem path_last : ∀ (n : Nat) (l : List Txt) (i : Nat), l.length = 2 ^ (n + 1) → i < 2 ^ (n + 1) → tget (pathN (n + 1) l i) n = if 2 ^ n ≤ i then rootN n (l.take (2 ^ n)) else rootN n (l.drop (2 ^ n))
  | 0, l, i, hl, hi => by
    match l, hl with
    | [a, b], _ =>
      have : i = 0 ∨ i = 1 := by simp at hi; omega
      rcases this with rfl | rfl <;> rfl
  | n + 1, l, i, hl, hi => by
    have h1 : 2 ^ (n + 1) = 2 * 2 ^ n := by rw [Nat.pow_succ]; omega
    have h2 : 2 ^ (n + 1 + 1) = 2 * 2 ^ (n + 1) := by rw [Nat.pow_succ]; omega
    obtain ⟨h3, h4⟩ := pairsL_take node l (2 ^ n) (by omega)
    show tget (pathN (n + 1) (pairsL node l) (i / 2)) n = if 2 ^ (n + 1) ≤ i then rootN n (pairsL node (l.take (2 ^ (n + 1)))) else rootN n (pairsL node (l.drop (2 ^ (n + 1))))
    rw [path_last n _ _ (half_len hl) (by omega), h1, h3, h4]
    by_cases h : 2 ^ n ≤ i / 2
    · rw [if_pos h, if_pos (by omega)]
    · rw [if_neg h, if_neg (by omega)]
theorem path_first (n : Nat) (l : List Txt) (i : Nat) : tget (pathN (n + 1) l i) 0 = tget l (sib i) := rfl
theorem path_sib (n : Nat) (l : List Txt) (i : Nat) : (pathN (n + 1) l (sib i)).drop 1 = (pathN (n + 1) l i).drop 1 := by
  show pathN n _ (sib i / 2) = pathN n _ (i / 2)
  rw [sib_half]
theorem inputs_last : ∀ (n : Nat) (l : List Txt), l.length = 2 ^ (n + 1) → sum (tget (inputsN (n + 1) l) ((inputsN (n + 1) l).length - 1)) = rootN (n + 1) l
  | 0, l, hl => by
    match l, hl with
    | [a, b], _ => rfl
  | n + 1, l, hl => by
    have ih := inputs_last n (pairsL node l) (half_len hl)
    have h0 := inputsN_length (n + 1) (pairsL node l) (half_len hl)
    have h1 : 2 ^ (n + 1) = 2 * 2 ^ n := by rw [Nat.pow_succ]; omega
    have hp : 0 < 2 ^ n := Nat.pow_pos (by decide)
    show sum (tget (pairsL inp2 l ++ inputsN (n + 1) (pairsL node l)) _) = rootN (n + 1) (pairsL node l)
    rw [← ih]
    congr 1
    show ((pairsL inp2 l ++ inputsN (n + 1) (pairsL node l))[(pairsL inp2 l ++ inputsN (n + 1) (pairsL node l)).length - 1]?).getD [] = ((inputsN (n + 1) (pairsL node l))[(inputsN (n + 1) (pairsL node l)).length - 1]?).getD []
    rw [List.length_append, List.getElem?_append_right (by omega)]
    congr 2
    omega
theorem climbed_last : ∀ (p : List Txt) (x : Txt) (i : Nat), p ≠ [] → sum (tget (climbedL x i p) ((climbedL x i p).length - 1)) = climbL x i p
  | [s], x, i, _ => (par_eq x i s).symm
  | s :: t :: p, x, i, _ => by
    have ih := climbed_last (t :: p) (par x i s) (i / 2) (by simp)
    show sum (tget (parI x i s :: climbedL (par x i s) (i / 2) (t :: p)) _) = climbL (par x i s) (i / 2) (t :: p)
    rw [← ih]
    congr 1
theorem climbL_length : ∀ (p : List Txt) (x : Txt) (i : Nat), p ≠ [] → (climbL x i p).length = 32
  | [s], x, i, _ => par_length x i s
  | s :: t :: p, x, i, _ => climbL_length (t :: p) (par x i s) (i / 2) (by simp)

def mayN (n : Nat) : Bool := n == 1 || n == 2 || n == 4 || n == 8 || n == 16 || n == 32 || n == 64 || n == 128
theorem mayN_iff {n : Nat} : mayN n = true ↔ ∃ h, h ≤ 7 ∧ n = 2 ^ h := by
  constructor
  · intro h
    simp only [mayN, Bool.or_eq_true, beq_iff_eq] at h
    rcases h with ((((((h | h) | h) | h) | h) | h) | h) | h
    · exact ⟨0, by omega, h⟩
    · exact ⟨1, by omega, h⟩
    · exact ⟨2, by omega, h⟩
    · exact ⟨3, by omega, h⟩
    · exact ⟨4, by omega, h⟩
    · exact ⟨5, by omega, h⟩
    · exact ⟨6, by omega, h⟩
    · exact ⟨7, by omega, h⟩
  · rintro ⟨h, hh, rfl⟩
    have : h = 0 ∨ h = 1 ∨ h = 2 ∨ h = 3 ∨ h = 4 ∨ h = 5 ∨ h = 6 ∨ h = 7 := by omega
    rcases this with rfl | rfl | rfl | rfl | rfl | rfl | rfl | rfl <;> rfl
theorem mayN_pow {h : Nat} (hh : h ≤ 7) : mayN (2 ^ h) = true := mayN_iff.2 ⟨h, hh, rfl⟩
def rootT (l : List Txt) : Txt := if mayN l.length then rootN (Nat.log2 l.length) l else []
def pathT (l : List Txt) (i : Int) : List Txt := if mayN l.length ∧ 0 ≤ i ∧ i < l.length then pathN (Nat.log2 l.length) l i.toNat else []
def inputsT (l : List Txt) : List Txt := if mayN l.length then inputsN (Nat.log2 l.length) l else []
def climbT (x : Txt) (i : Int) (p : List Txt) : Txt := climbL x i.toNat p
def climbedT (x : Txt) (i : Int) (p : List Txt) : List Txt := climbedL x i.toNat p
theorem rootT_eq {l : List Txt} {h : Nat} (hh : h ≤ 7) (hl : l.length = 2 ^ h) : rootT l = rootN h l := by
  rw [rootT, hl, mayN_pow hh, Nat.log2_two_pow]
  rfl
theorem pathT_eq {l : List Txt} {h i : Nat} (hh : h ≤ 7) (hl : l.length = 2 ^ h) (hi : i < 2 ^ h) : pathT l (i : Int) = pathN h l i := by
  rw [pathT, hl, mayN_pow hh, Nat.log2_two_pow, if_pos ⟨rfl, by omega, by omega⟩]
  rfl
theorem inputsT_eq {l : List Txt} {h : Nat} (hh : h ≤ 7) (hl : l.length = 2 ^ h) : inputsT l = inputsN h l := by
  rw [inputsT, hl, mayN_pow hh, Nat.log2_two_pow]
  rfl
end Go.Proofs.YtmifllopcbjliaaDoor.V
end
section
/- Layer 6, by abstract steps: how many leaves may be, nodes, pairs. -/
namespace Go.Proofs.YtmifllopcbjliaaDoor.E
open Go Go.RowKit Go.Proofs.YtmifllopcbjliaaDoor.V
attribute [local go_sem] B_size B_append B_extract mk_B B_toList take_drop_len List.length_drop List.length_take sgn32 sgn64 add32 sub32 mul32 add64 sub64 mul64 mul64_8 and32 or32 xor32 and64 or64 xor64 shl32_run shr32_run shl64_run shr64_run not32 not32' xor32_all w_u32_u8 w_u64_u8 w_i64_u8 w_u8_u32 w_u8_u64 w_u32_u64 w_u64_u32 w_u8_u8 w_u32_u32 w_u64_u64
attribute [local go_sem ↓] run_index_B' add32 sub32 mul32 add64 sub64 mul64 mul64_8 and32 or32 xor32 and64 or64 xor64 shl32_run shr32_run shl64_run shr64_run not32 not32' xor32_all w_u32_u8 w_u64_u8 w_i64_u8 w_u8_u32 w_u8_u64 w_u32_u64 w_u64_u32 w_u8_u8 w_u32_u32 w_u64_u64 w_u64_nat w_u32_nat w_u8_nat

def oc1 (x : UInt64) : UInt64 := (shr64 x 1 &&& 6148914691236517205) + (x &&& 6148914691236517205)
def oc2 (x : UInt64) : UInt64 := (shr64 x 2 &&& 3689348814741910323) + (x &&& 3689348814741910323)
def oc3 (x : UInt64) : UInt64 := (shr64 x 4 + x) &&& 1085102592571150095
def oc4 (x : UInt64) : UInt64 := x + shr64 x 8
def oc5 (x : UInt64) : UInt64 := x + shr64 x 16
def oc6 (x : UInt64) : UInt64 := x + shr64 x 32
def oc (n : Nat) : UInt64 := oc6 (oc5 (oc4 (oc3 (oc2 (oc1 (UInt64.ofNat n))))))
theorem oc_small : ∀ n : Nat, n ≤ 128 → (oc n).toNat < 2 ^ 63 ∧ (decide ((oc n).toNat &&& 127 = 1) = (mayN n)) := by
  intro n h
  have : ∀ n : Fin 129, (oc n.1).toNat < 2 ^ 63 ∧ (decide ((oc n.1).toNat &&& 127 = 1) = (mayN n.1)) := by decide +kernel
  exact this ⟨n, by omega⟩
attribute [local irreducible] oc1 oc2 oc3 oc4 oc5 oc6
theorem oc1_eq (x : UInt64) : (shr64 x 1 &&& 6148914691236517205) + (x &&& 6148914691236517205) = oc1 x := by unfold oc1; rfl
theorem oc2_eq (x : UInt64) : (shr64 x 2 &&& 3689348814741910323) + (x &&& 3689348814741910323) = oc2 x := by unfold oc2; rfl
theorem oc3_eq (x : UInt64) : (shr64 x 4 + x) &&& 1085102592571150095 = oc3 x := by unfold oc3; rfl
theorem oc4_eq (x : UInt64) : x + shr64 x 8 = oc4 x := by unfold oc4; rfl
theorem oc5_eq (x : UInt64) : x + shr64 x 16 = oc5 x := by unfold oc5; rfl
theorem oc6_eq (x : UInt64) : x + shr64 x 32 = oc6 x := by unfold oc6; rfl
theorem ones64_fc {G : List (Nat × Array Value)} (n : Nat) (hn : n ≤ 128) : FC Tryd.prog G 49 [.v (.int .u64 (U64 (UInt64.ofNat n)))] [] (.v (.int .i64 (((oc n).toNat &&& 127 : Nat) : Int))) [] := by
  have h63 := (oc_small n hn).1
  refine FC.of_wp [2] Tryd.func49 rfl rfl rfl rfl (by first | trivial | (simp; first | done | fail)) (by first | trivial | (simp; first | done | fail)) (by exact Nat.le_of_ble_eq_true rfl) ?_
  intro A hG hnA hAB
  unfold start
  refine WP.rs hG ?_
  refine Ch.pu gdN (by exact ⟨rfl, trivial⟩) (OpS.assign) (by first | exact trivial | exact ⟨rfl, trivial⟩) rfl ?_
  refine Ch.nil ?_
  refine WP.rs hG ?_
  refine Ch.pu gdN (by exact ⟨rfl, trivial⟩) (OpS.move) (by first | exact trivial | exact ⟨rfl, trivial⟩) rfl ?_
  refine Ch.pu gdN (by exact ⟨rfl, rfl, trivial⟩) (OpS.shr_u64 (j := 1) (by decide) rfl) (by first | exact trivial | exact ⟨rfl, trivial⟩) rfl ?_
  refine Ch.pu gdN (by exact ⟨rfl, rfl, trivial⟩) (OpS.and_u64 (b := 6148914691236517205)) (by first | exact trivial | exact ⟨rfl, trivial⟩) rfl ?_
  refine Ch.pu gdN (by exact ⟨rfl, trivial⟩) (OpS.move) (by first | exact trivial | exact ⟨rfl, trivial⟩) rfl ?_
  refine Ch.pu gdN (by exact ⟨rfl, rfl, trivial⟩) (OpS.and_u64 (b := 6148914691236517205)) (by first | exact trivial | exact ⟨rfl, trivial⟩) rfl ?_
  refine Ch.pu gdN (by exact ⟨rfl, rfl, trivial⟩) (OpS.add_u64) (by first | exact trivial | exact ⟨rfl, trivial⟩) rfl ?_
  refine Ch.pu gdN (by exact ⟨rfl, trivial⟩) (OpS.assign) (by first | exact trivial | exact ⟨rfl, trivial⟩) rfl ?_
  refine Ch.nil ?_
  rw [oc1_eq]
  refine WP.rs hG ?_
  refine Ch.pu gdN (by exact ⟨rfl, trivial⟩) (OpS.move) (by first | exact trivial | exact ⟨rfl, trivial⟩) rfl ?_
  refine Ch.pu gdN (by exact ⟨rfl, rfl, trivial⟩) (OpS.shr_u64 (j := 2) (by decide) rfl) (by first | exact trivial | exact ⟨rfl, trivial⟩) rfl ?_
  refine Ch.pu gdN (by exact ⟨rfl, rfl, trivial⟩) (OpS.and_u64 (b := 3689348814741910323)) (by first | exact trivial | exact ⟨rfl, trivial⟩) rfl ?_
  refine Ch.pu gdN (by exact ⟨rfl, trivial⟩) (OpS.move) (by first | exact trivial | exact ⟨rfl, trivial⟩) rfl ?_
  refine Ch.pu gdN (by exact ⟨rfl, rfl, trivial⟩) (OpS.and_u64 (b := 3689348814741910323)) (by first | exact trivial | exact ⟨rfl, trivial⟩) rfl ?_
  refine Ch.pu gdN (by exact ⟨rfl, rfl, trivial⟩) (OpS.add_u64) (by first | exact trivial | exact ⟨rfl, trivial⟩) rfl ?_
  refine Ch.pu gdN (by exact ⟨rfl, trivial⟩) (OpS.assign) (by first | exact trivial | exact ⟨rfl, trivial⟩) rfl ?_
  refine Ch.nil ?_
  rw [oc2_eq]
  refine WP.rs hG ?_
  refine Ch.pu gdN (by exact ⟨rfl, trivial⟩) (OpS.move) (by first | exact trivial | exact ⟨rfl, trivial⟩) rfl ?_
  refine Ch.pu gdN (by exact ⟨rfl, rfl, trivial⟩) (OpS.shr_u64 (j := 4) (by decide) rfl) (by first | exact trivial | exact ⟨rfl, trivial⟩) rfl ?_
  refine Ch.pu gdN (by exact ⟨rfl, trivial⟩) (OpS.move) (by first | exact trivial | exact ⟨rfl, trivial⟩) rfl ?_
  refine Ch.pu gdN (by exact ⟨rfl, rfl, trivial⟩) (OpS.add_u64) (by first | exact trivial | exact ⟨rfl, trivial⟩) rfl ?_
  refine Ch.pu gdN (by exact ⟨rfl, rfl, trivial⟩) (OpS.and_u64 (b := 1085102592571150095)) (by first | exact trivial | exact ⟨rfl, trivial⟩) rfl ?_
  refine Ch.pu gdN (by exact ⟨rfl, trivial⟩) (OpS.assign) (by first | exact trivial | exact ⟨rfl, trivial⟩) rfl ?_
  refine Ch.nil ?_
  rw [oc3_eq]
  refine WP.rs hG ?_
  refine Ch.pu gdN (by exact ⟨rfl, trivial⟩) (OpS.move) (by first | exact trivial | exact ⟨rfl, trivial⟩) rfl ?_
  refine Ch.pu gdN (by exact ⟨rfl, trivial⟩) (OpS.move) (by first | exact trivial | exact ⟨rfl, trivial⟩) rfl ?_
  refine Ch.pu gdN (by exact ⟨rfl, rfl, trivial⟩) (OpS.shr_u64 (j := 8) (by decide) rfl) (by first | exact trivial | exact ⟨rfl, trivial⟩) rfl ?_
  refine Ch.pu gdN (by exact ⟨rfl, rfl, trivial⟩) (OpS.add_u64) (by first | exact trivial | exact ⟨rfl, trivial⟩) rfl ?_
  refine Ch.pu gdN (by exact ⟨rfl, trivial⟩) (OpS.assign) (by first | exact trivial | exact ⟨rfl, trivial⟩) rfl ?_
  refine Ch.nil ?_
  rw [oc4_eq]
  refine WP.rs hG ?_
  refine Ch.pu gdN (by exact ⟨rfl, trivial⟩) (OpS.move) (by first | exact trivial | exact ⟨rfl, trivial⟩) rfl ?_
  refine Ch.pu gdN (by exact ⟨rfl, trivial⟩) (OpS.move) (by first | exact trivial | exact ⟨rfl, trivial⟩) rfl ?_
  refine Ch.pu gdN (by exact ⟨rfl, rfl, trivial⟩) (OpS.shr_u64 (j := 16) (by decide) rfl) (by first | exact trivial | exact ⟨rfl, trivial⟩) rfl ?_
  refine Ch.pu gdN (by exact ⟨rfl, rfl, trivial⟩) (OpS.add_u64) (by first | exact trivial | exact ⟨rfl, trivial⟩) rfl ?_
  refine Ch.pu gdN (by exact ⟨rfl, trivial⟩) (OpS.assign) (by first | exact trivial | exact ⟨rfl, trivial⟩) rfl ?_
  refine Ch.nil ?_
  rw [oc5_eq]
  refine WP.rs hG ?_
  refine Ch.pu gdN (by exact ⟨rfl, trivial⟩) (OpS.move) (by first | exact trivial | exact ⟨rfl, trivial⟩) rfl ?_
  refine Ch.pu gdN (by exact ⟨rfl, trivial⟩) (OpS.move) (by first | exact trivial | exact ⟨rfl, trivial⟩) rfl ?_
  refine Ch.pu gdN (by exact ⟨rfl, rfl, trivial⟩) (OpS.shr_u64 (j := 32) (by decide) rfl) (by first | exact trivial | exact ⟨rfl, trivial⟩) rfl ?_
  refine Ch.pu gdN (by exact ⟨rfl, rfl, trivial⟩) (OpS.add_u64) (by first | exact trivial | exact ⟨rfl, trivial⟩) rfl ?_
  refine Ch.pu gdN (by exact ⟨rfl, trivial⟩) (OpS.assign) (by first | exact trivial | exact ⟨rfl, trivial⟩) rfl ?_
  refine Ch.nil ?_
  rw [oc6_eq]
  have hoc : oc6 (oc5 (oc4 (oc3 (oc2 (oc1 (UInt64.ofNat n)))))) = oc n := rfl
  rw [hoc]
  refine WP.rs hG ?_
  refine Ch.pu gdN (by exact ⟨rfl, trivial⟩) (OpS.move) (by first | exact trivial | exact ⟨rfl, trivial⟩) rfl ?_
  refine Ch.pu gdN (by exact ⟨rfl, trivial⟩) (OpS.conv (k := .i64) rfl rfl (cv_i64_64 (oc n) h63)) (by first | exact trivial | exact ⟨rfl, trivial⟩) rfl ?_
  refine Ch.pu gdN (by exact ⟨rfl, rfl, trivial⟩) (OpS.andN (a := (oc n).toNat) (b := 127) h63 (by decide)) (by first | exact trivial | exact ⟨rfl, trivial⟩) rfl ?_
  refine Ch.pu gdN (by exact ⟨rfl, trivial⟩) (OpS.assign) (by first | exact trivial | exact ⟨rfl, trivial⟩) rfl ?_
  refine Ch.nil ?_
  refine WP.ret (Ret.one rfl (by first | exact .rfl _ | exact .nil | exact .of_eq (by simp; first | done | fail) | exact AV.wk.sh (by simp; first | done | fail) | exact .untip _ _ _) (by first | trivial | simp [AV.bel]) hnA)
theorem ones_fc {G : List (Nat × Array Value)} (n : Nat) (hn : n ≤ 128) : FC Tryd.prog G 41 [.v (.int .u64 (U64 (UInt64.ofNat n)))] [] (.v (.int .i64 (((oc n).toNat &&& 127 : Nat) : Int))) [] := by
  refine FC.of_wp [2] Tryd.func41 rfl rfl rfl rfl (by first | trivial | (simp; first | done | fail)) (by first | trivial | (simp; first | done | fail)) (by exact Nat.le_of_ble_eq_true rfl) ?_
  intro A hG hnA hAB
  unfold start
  refine WP.rs hG ?_
  refine Ch.pu gdN (by exact ⟨rfl, trivial⟩) (OpS.assign) (by first | exact trivial | exact ⟨rfl, trivial⟩) rfl ?_
  refine Ch.nil ?_
  refine WP.seq ?_
  refine WP.cond_false rfl ?_
  refine WP.skip ?_
  refine WP.rs hG ?_
  refine Ch.pu gdN (by exact ⟨rfl, trivial⟩) (OpS.move) (by first | exact trivial | exact ⟨rfl, trivial⟩) rfl ?_
  refine Ch.callP (ones64_fc n hn) gdN (by repeat (first | exact EvL.nil | (apply EvL.cons; exact rfl))) (by exact (And.intro (by first | exact .rfl _ | exact .untip _ _ _ | exact .nil | exact .func _ | exact AV.wk.sh (renL_s _ _) | exact AV.wk.sh (by simp; first | done | fail)) trivial)) (by rfl) rfl ?_
  refine Ch.pu gdN (by exact ⟨rfl, trivial⟩) (OpS.assign) (by first | exact trivial | exact ⟨rfl, trivial⟩) rfl ?_
  refine Ch.nil ?_
  refine WP.ret (Ret.one rfl (by first | exact .rfl _ | exact .nil | exact .of_eq (by simp; first | done | fail) | exact AV.wk.sh (by simp; first | done | fail) | exact .untip _ _ _) (by first | trivial | simp [AV.bel]) hnA)
theorem mayA_fc {G : List (Nat × Array Value)} : FC Tryd.prog G 30 [.v (.int .i64 ((0 : Nat) : Int))] [] (.v (.bool false)) [] := by
  refine FC.of_wp [2] Tryd.func30 rfl rfl rfl rfl (by first | trivial | (simp; first | done | fail)) (by first | trivial | (simp; first | done | fail)) (by exact Nat.le_of_ble_eq_true rfl) ?_
  intro A hG hnA hAB
  unfold start
  refine WP.rs hG ?_
  refine Ch.pu gdN (by exact ⟨rfl, trivial⟩) (OpS.assign) (by first | exact trivial | exact ⟨rfl, trivial⟩) rfl ?_
  refine Ch.nil ?_
  refine WP.rs hG ?_
  refine Ch.pu gdN (by exact ⟨rfl, trivial⟩) (OpS.move) (by first | exact trivial | exact ⟨rfl, trivial⟩) rfl ?_
  refine Ch.pu gdN (by exact ⟨rfl, rfl, trivial⟩) (OpS.int (v' := .bool false) rfl (by simp; first | done | fail)) (by first | exact trivial | exact ⟨rfl, trivial⟩) rfl ?_
  refine Ch.pu gdN (by exact ⟨rfl, trivial⟩) (OpS.move) (by first | exact trivial | exact ⟨rfl, trivial⟩) rfl ?_
  refine Ch.skU (gdF rfl rfl rfl) rfl ?_
  refine Ch.skU (gdF rfl rfl rfl) rfl ?_
  refine Ch.pu gdN (by first | exact ⟨rfl, rfl, trivial⟩ | exact ⟨rfl, rfl, rfl, trivial⟩) (OpS.pickF) (by first | exact trivial | exact ⟨rfl, trivial⟩) rfl ?_
  refine Ch.pu gdN (by exact ⟨rfl, trivial⟩) (OpS.move) (by first | exact trivial | exact ⟨rfl, trivial⟩) rfl ?_
  refine Ch.skU (gdF rfl rfl rfl) rfl ?_
  refine Ch.skU (gdF rfl rfl rfl) rfl ?_
  refine Ch.skU (gdF rfl rfl rfl) rfl ?_
  refine Ch.skU (gdF rfl rfl rfl) rfl ?_
  refine Ch.pu gdN (by first | exact ⟨rfl, rfl, trivial⟩ | exact ⟨rfl, rfl, rfl, trivial⟩) (OpS.pickF) (by first | exact trivial | exact ⟨rfl, trivial⟩) rfl ?_
  refine Ch.pu gdN (by exact ⟨rfl, trivial⟩) (OpS.assign) (by first | exact trivial | exact ⟨rfl, trivial⟩) rfl ?_
  refine Ch.nil ?_
  refine WP.ret (Ret.one rfl (by first | exact .rfl _ | exact .nil | exact .of_eq (by simp; first | done | fail) | exact AV.wk.sh (by simp; first | done | fail) | exact .untip _ _ _) (by first | trivial | simp [AV.bel]) hnA)
theorem mayB_fc {G : List (Nat × Array Value)} (n : Nat) (hn : 128 < n) : FC Tryd.prog G 30 [.v (.int .i64 (n : Int))] [] (.v (.bool false)) [] := by
  refine FC.of_wp [2] Tryd.func30 rfl rfl rfl rfl (by first | trivial | (simp; first | done | fail)) (by first | trivial | (simp; first | done | fail)) (by exact Nat.le_of_ble_eq_true rfl) ?_
  intro A hG hnA hAB
  unfold start
  refine WP.rs hG ?_
  refine Ch.pu gdN (by exact ⟨rfl, trivial⟩) (OpS.assign) (by first | exact trivial | exact ⟨rfl, trivial⟩) rfl ?_
  refine Ch.nil ?_
  refine WP.rs hG ?_
  refine Ch.pu gdN (by exact ⟨rfl, trivial⟩) (OpS.move) (by first | exact trivial | exact ⟨rfl, trivial⟩) rfl ?_
  refine Ch.pu gdN (by exact ⟨rfl, rfl, trivial⟩) (OpS.int (op := .geq) (v' := .bool true) rfl (by simp; omega)) (by first | exact trivial | exact ⟨rfl, trivial⟩) rfl ?_
  refine Ch.pu gdN (by exact ⟨rfl, trivial⟩) (OpS.move) (by first | exact trivial | exact ⟨rfl, trivial⟩) rfl ?_
  refine Ch.pu (by exact gdT rfl rfl) (by exact ⟨rfl, trivial⟩) (OpS.move) (by first | exact trivial | exact ⟨rfl, trivial⟩) rfl ?_
  refine Ch.pu (by exact gdT rfl rfl) (by exact ⟨rfl, rfl, trivial⟩) (OpS.int (op := .leq) (v' := .bool false) rfl (by simp; omega)) (by first | exact trivial | exact ⟨rfl, trivial⟩) rfl ?_
  refine Ch.pu gdN (by first | exact ⟨rfl, rfl, trivial⟩ | exact ⟨rfl, rfl, rfl, trivial⟩) (OpS.pickT) (by first | exact trivial | exact ⟨rfl, trivial⟩) rfl ?_
  refine Ch.pu gdN (by exact ⟨rfl, trivial⟩) (OpS.move) (by first | exact trivial | exact ⟨rfl, trivial⟩) rfl ?_
  refine Ch.skU (gdF rfl rfl rfl) rfl ?_
  refine Ch.skU (gdF rfl rfl rfl) rfl ?_
  refine Ch.skU (gdF rfl rfl rfl) rfl ?_
  refine Ch.skU (gdF rfl rfl rfl) rfl ?_
  refine Ch.pu gdN (by first | exact ⟨rfl, rfl, trivial⟩ | exact ⟨rfl, rfl, rfl, trivial⟩) (OpS.pickF) (by first | exact trivial | exact ⟨rfl, trivial⟩) rfl ?_
  refine Ch.pu gdN (by exact ⟨rfl, trivial⟩) (OpS.assign) (by first | exact trivial | exact ⟨rfl, trivial⟩) rfl ?_
  refine Ch.nil ?_
  refine WP.ret (Ret.one rfl (by first | exact .rfl _ | exact .nil | exact .of_eq (by simp; first | done | fail) | exact AV.wk.sh (by simp; first | done | fail) | exact .untip _ _ _) (by first | trivial | simp [AV.bel]) hnA)
theorem mayC_fc {G : List (Nat × Array Value)} (n : Nat) (h0 : 1 ≤ n) (hn : n ≤ 128) : FC Tryd.prog G 30 [.v (.int .i64 (n : Int))] [] (.v (.bool (mayN n))) [] := by
  have hoc := (oc_small n hn).2
  refine FC.of_wp [2] Tryd.func30 rfl rfl rfl rfl (by first | trivial | (simp; first | done | fail)) (by first | trivial | (simp; first | done | fail)) (by exact Nat.le_of_ble_eq_true rfl) ?_
  intro A hG hnA hAB
  unfold start
  refine WP.rs hG ?_
  refine Ch.pu gdN (by exact ⟨rfl, trivial⟩) (OpS.assign) (by first | exact trivial | exact ⟨rfl, trivial⟩) rfl ?_
  refine Ch.nil ?_
  refine WP.rs hG ?_
  refine Ch.pu gdN (by exact ⟨rfl, trivial⟩) (OpS.move) (by first | exact trivial | exact ⟨rfl, trivial⟩) rfl ?_
  refine Ch.pu gdN (by exact ⟨rfl, rfl, trivial⟩) (OpS.int (op := .geq) (v' := .bool true) rfl (by simp; omega)) (by first | exact trivial | exact ⟨rfl, trivial⟩) rfl ?_
  refine Ch.pu gdN (by exact ⟨rfl, trivial⟩) (OpS.move) (by first | exact trivial | exact ⟨rfl, trivial⟩) rfl ?_
  refine Ch.pu (by exact gdT rfl rfl) (by exact ⟨rfl, trivial⟩) (OpS.move) (by first | exact trivial | exact ⟨rfl, trivial⟩) rfl ?_
  refine Ch.pu (by exact gdT rfl rfl) (by exact ⟨rfl, rfl, trivial⟩) (OpS.int (op := .leq) (v' := .bool true) rfl (by simp; omega)) (by first | exact trivial | exact ⟨rfl, trivial⟩) rfl ?_
  refine Ch.pu gdN (by first | exact ⟨rfl, rfl, trivial⟩ | exact ⟨rfl, rfl, rfl, trivial⟩) (OpS.pickT) (by first | exact trivial | exact ⟨rfl, trivial⟩) rfl ?_
  refine Ch.pu gdN (by exact ⟨rfl, trivial⟩) (OpS.move) (by first | exact trivial | exact ⟨rfl, trivial⟩) rfl ?_
  refine Ch.pu (by exact gdT rfl rfl) (by exact ⟨rfl, trivial⟩) (OpS.move) (by first | exact trivial | exact ⟨rfl, trivial⟩) rfl ?_
  refine Ch.pu (by exact gdT rfl rfl) (by exact ⟨rfl, trivial⟩) (OpS.conv rfl rfl (by first | exact cv_u32_u8 _ | exact cv_u64_u8 _ | exact cv_i64_u8 _ | exact cv_u8_u32 _ | exact cv_u8_u64 _ | exact cv_u32_u64 _ | exact cv_u64_u32 _ | exact cv_u8_u8 _ | exact cv_u32_u32 _ | exact cv_u64_u64 _ | exact wr64 (by omega) | exact cv_u64_nat _ | exact cv_u32_nat _ | exact cv_u8_nat _ | exact rfl)) (by first | exact trivial | exact ⟨rfl, trivial⟩) rfl ?_
  refine Ch.callP (ones_fc n hn) (by exact gdT rfl rfl) (by repeat (first | exact EvL.nil | (apply EvL.cons; exact rfl))) (by exact (And.intro (by first | exact .rfl _ | exact .untip _ _ _ | exact .nil | exact .func _ | exact AV.wk.sh (renL_s _ _) | exact AV.wk.sh (by simp; first | done | fail)) trivial)) (by rfl) rfl ?_
  refine Ch.pu (by exact gdT rfl rfl) (by exact ⟨rfl, rfl, trivial⟩) (OpS.int (op := .eql) (v' := .bool (mayN n)) rfl (by rw [← hoc]; exact natb_eq _ 1)) (by first | exact trivial | exact ⟨rfl, trivial⟩) rfl ?_
  refine Ch.pu gdN (by first | exact ⟨rfl, rfl, trivial⟩ | exact ⟨rfl, rfl, rfl, trivial⟩) (OpS.pickT) (by first | exact trivial | exact ⟨rfl, trivial⟩) rfl ?_
  refine Ch.pu gdN (by exact ⟨rfl, trivial⟩) (OpS.assign) (by first | exact trivial | exact ⟨rfl, trivial⟩) rfl ?_
  refine Ch.nil ?_
  refine WP.ret (Ret.one rfl (by first | exact .rfl _ | exact .nil | exact .of_eq (by simp; first | done | fail) | exact AV.wk.sh (by simp; first | done | fail) | exact .untip _ _ _) (by first | trivial | simp [AV.bel]) hnA)
theorem may_fc {G : List (Nat × Array Value)} (n : Nat) : FC Tryd.prog G 30 [.v (.int .i64 (n : Int))] [] (.v (.bool (mayN n))) [] := by
  by_cases h0 : n = 0
  · subst h0; exact mayA_fc
  · by_cases h1 : n ≤ 128
    · exact mayC_fc n (by omega) h1
    · have : mayN n = false := by
        cases h : mayN n with
        | false => rfl
        | true =>
          obtain ⟨k, hk, rfl⟩ := mayN_iff.1 h
          have := Nat.pow_le_pow_right (n := 2) (by decide) hk
          omega
      rw [this]
      exact mayB_fc n (by omega)
theorem mayT_fc {G : List (Nat × Array Value)} (n : Nat) (h : mayN n = true) : FC Tryd.prog G 30 [.v (.int .i64 (n : Int))] [] (.v (.bool true)) [] := by
  have := may_fc (G := G) n
  rwa [h] at this
theorem mayF_fc {G : List (Nat × Array Value)} (n : Nat) (h : mayN n = false) : FC Tryd.prog G 30 [.v (.int .i64 (n : Int))] [] (.v (.bool false)) [] := by
  have := may_fc (G := G) n
  rwa [h] at this
theorem inp2_le {a b : Txt} (h : a.length + b.length ≤ 140737488355300) : (input 5 [a, b]).length ≤ 140737488355328 := by
  have := inp2_length a b
  unfold inp2 at this
  omega
attribute [local irreducible] sum tag input
theorem tinput_fc {G : List (Nat × Array Value)} (a b : Txt) (h : a.length + b.length ≤ 140737488355300) : FC Tryd.prog G 32 [sA a, sA b] [] (sA (inp2 a b)) [] := by
  refine FC.of_wp [4] Tryd.func32 rfl rfl rfl rfl (by first | trivial | (simp; first | done | fail)) (by first | trivial | (simp; first | done | fail)) (by exact Nat.le_of_ble_eq_true rfl) ?_
  intro A hG hnA hAB
  unfold start
  refine WP.rs hG ?_
  refine Ch.pu gdN (by exact ⟨rfl, trivial⟩) (OpS.assign) (by first | exact trivial | exact ⟨rfl, trivial⟩) rfl ?_
  refine Ch.nil ?_
  refine WP.rs hG ?_
  refine Ch.pu gdN (by exact ⟨rfl, trivial⟩) (OpS.move) (by first | exact trivial | exact ⟨rfl, trivial⟩) rfl ?_
  refine Ch.pu gdN (by exact ⟨rfl, trivial⟩) (OpS.move) (by first | exact trivial | exact ⟨rfl, trivial⟩) rfl ?_
  refine Ch.pup gdN (by repeat (first | exact EvP.nil | (apply EvP.cons; exact rfl))) (OpS.slice1 rfl rfl rfl rfl rfl rfl (by rfl) rfl (by rfl)) rfl ?_
  refine Ch.callP (input_fc 5 [a, b] (inp2_le h)) gdN (by repeat (first | exact EvL.nil | (apply EvL.cons; exact rfl))) (by exact (And.intro (by first | exact .rfl _ | exact .untip _ _ _ | exact .nil | exact .func _ | exact AV.wk.sh (renL_s _ _) | exact AV.wk.sh (by simp; first | done | fail)) (And.intro (by first | exact .rfl _ | exact .untip _ _ _ | exact .nil | exact .func _ | exact AV.wk.sh (renL_s _ _) | exact AV.wk.sh (by simp; first | done | fail)) trivial))) (by rfl) rfl ?_
  refine Ch.pu gdN (by exact ⟨rfl, trivial⟩) (OpS.assign) (by first | exact trivial | exact ⟨rfl, trivial⟩) rfl ?_
  refine Ch.nil ?_
  refine WP.ret (Ret.one rfl (by first | exact .rfl _ | exact .nil | exact .of_eq (by simp; first | done | fail) | exact AV.wk.sh (by simp; first | done | fail) | exact .untip _ _ _) (by first | trivial | simp [AV.bel]) hnA)
theorem node_fc {G : List (Nat × Array Value)} (hm : ShaIn G) (a b : Txt) (h : a.length + b.length ≤ 140737488355300) : FC Tryd.prog G 20 [sA a, sA b] [] (sA (node a b)) [] := by
  have hl := inp2_le h
  refine FC.of_wp [4] Tryd.func20 rfl rfl rfl rfl (by first | trivial | (simp; first | done | fail)) (by first | trivial | (simp; first | done | fail)) (by exact Nat.le_of_ble_eq_true rfl) ?_
  intro A hG hnA hAB
  unfold start
  refine WP.rs hG ?_
  refine Ch.pu gdN (by exact ⟨rfl, trivial⟩) (OpS.assign) (by first | exact trivial | exact ⟨rfl, trivial⟩) rfl ?_
  refine Ch.nil ?_
  refine WP.rs hG ?_
  refine Ch.pu gdN (by exact ⟨rfl, trivial⟩) (OpS.move) (by first | exact trivial | exact ⟨rfl, trivial⟩) rfl ?_
  refine Ch.pu gdN (by exact ⟨rfl, trivial⟩) (OpS.move) (by first | exact trivial | exact ⟨rfl, trivial⟩) rfl ?_
  refine Ch.callP (tinput_fc a b h) gdN (by repeat (first | exact EvL.nil | (apply EvL.cons; exact rfl))) (by exact (And.intro (by first | exact .rfl _ | exact .untip _ _ _ | exact .nil | exact .func _ | exact AV.wk.sh (renL_s _ _) | exact AV.wk.sh (by simp; first | done | fail)) (And.intro (by first | exact .rfl _ | exact .untip _ _ _ | exact .nil | exact .func _ | exact AV.wk.sh (renL_s _ _) | exact AV.wk.sh (by simp; first | done | fail)) trivial))) (by rfl) rfl ?_
  refine Ch.callP (sum_fc hm (inp2 a b) (by unfold inp2; omega)) gdN (by repeat (first | exact EvL.nil | (apply EvL.cons; exact rfl))) (by exact (And.intro (by first | exact .rfl _ | exact .untip _ _ _ | exact .nil | exact .func _ | exact AV.wk.sh (renL_s _ _) | exact AV.wk.sh (by simp; first | done | fail)) trivial)) (by rfl) rfl ?_
  refine Ch.pu gdN (by exact ⟨rfl, trivial⟩) (OpS.assign) (by first | exact trivial | exact ⟨rfl, trivial⟩) rfl ?_
  refine Ch.nil ?_
  exact WP.ret (Ret.one rfl (.of_eq (by simp [node_eq])) trivial hnA)
theorem pairs_fc0 {G : List (Nat × Array Value)} (f : Txt → Txt → Txt) (g : FuncId) (l : List Txt) (hl : l.length ≤ 1000000) (hf : ∀ j, 2 * j + 1 < l.length → FC Tryd.prog G g [sA (tget l (2 * j)), sA (tget l (2 * j + 1))] [] (sA (f (tget l (2 * j)) (tget l (2 * j + 1)))) []) :
    FC Tryd.prog G 31 [.sl none l.length (l.map sA), .v (.func (.func g) #[] #[])] [] (.sl (some 0) (pairsL f l).length ((pairsL f l).map sA)) [some (.tip 9 1 (pairsL f l).length)] := by
  refine FC.of_wp [4] Tryd.func31 rfl rfl rfl rfl ⟨⟨by simp, belL_s _ _⟩, trivial, trivial⟩ trivial (by exact Nat.le_of_ble_eq_true rfl) ?_
  intro A hG hnA hAB
  unfold start
  refine WP.rs hG ?_
  refine Ch.pu gdN (by exact ⟨rfl, trivial⟩) (OpS.assign) (by first | exact trivial | exact ⟨rfl, trivial⟩) rfl ?_
  refine Ch.nil ?_
  refine WP.rs hG ?_
  refine Ch.pu gdN (by exact ⟨rfl, trivial⟩) (OpS.move) (by first | exact trivial | exact ⟨rfl, trivial⟩) rfl ?_
  refine Ch.pu gdN (by exact ⟨rfl, trivial⟩) (OpS.len rfl) (by first | exact trivial | exact ⟨rfl, trivial⟩) rfl ?_
  refine Ch.pu gdN (by exact ⟨rfl, rfl, trivial⟩) (OpS.quo (by omega) (by omega) (by omega)) (by first | exact trivial | exact ⟨rfl, trivial⟩) rfl ?_
  refine Ch.al gdN (by exact ⟨rfl, rfl, trivial⟩) (OpS.makeTip (n := l.length / 2) (bb := 16) 0 rfl rfl rfl rfl rfl (by simp) rfl (by omega) (by unfold maxLen; omega)) (by first | exact trivial | exact ⟨rfl, trivial⟩) (by first | exact trivial | exact ⟨rfl, trivial⟩ | exact ⟨rfl, rfl, trivial⟩) rfl ?_
  refine Ch.pu gdN (by exact ⟨rfl, trivial⟩) (OpS.assign) (by first | exact trivial | exact ⟨rfl, trivial⟩) rfl ?_
  refine Ch.nil ?_
  refine WP.seq ?_
  refine WP.rs hG ?_
  refine Ch.pu gdN (by exact ⟨rfl, trivial⟩) (OpS.assign) (by first | exact trivial | exact ⟨rfl, trivial⟩) rfl ?_
  refine Ch.nil ?_
  refine WP.block ?_
  refine WP.loop (fun k σ => ∃ m ii : Nat, (ii = 2 * m + 1 ∧ m + k = l.length / 2) ∧ σ = ⟨32, ls [(0, .sl none l.length (l.map sA)), (1, .v (.func (.func g) #[] #[])), (5, .sl (some 0) m ((pairsL f (l.take (2 * m))).map sA)), (6, .v (.int .i64 (ii : Int)))], lh [(0, .tip 9 1 m)], blt 1⟩) (l.length / 2) (Ent.of [] ?_ ?_ ?_ ?_).se ⟨0, 1, by omega, rfl⟩ ?_
  · exact (fun i hi => by rw [hnA] at hi; simp only [List.length_cons, List.length_nil] at hi ⊢; first | exact absurd hi (Nat.not_lt_zero _) | (revert i; decide))
  · (repeat (first | exact trivial | (refine And.intro ⟨(by first | trivial | (simp; first | done | fail)), _, rfl, (by first | exact .rfl _ | exact .nil | exact .of_eq (by simp [pairsL]; first | done | fail) | exact AV.wk.sh (by simp [pairsL]; first | done | fail) | exact .untip _ _ _)⟩ ?_)))
  · (repeat (first | exact trivial | (refine And.intro ⟨rfl, (by first | trivial | (simp; first | done | fail)), (by first | rfl | (simp [pairsL]; first | done | fail))⟩ ?_)))
  · simp [rn]
  · rintro k σ ⟨m, ii, ⟨hi, hm⟩, rfl⟩
    refine WP.seq ?_
    refine WP.rs hG ?_
    refine Ch.pu gdN (by exact ⟨rfl, trivial⟩) (OpS.move) (by first | exact trivial | exact ⟨rfl, trivial⟩) rfl ?_
    refine Ch.pu gdN (by exact ⟨rfl, trivial⟩) (OpS.move) (by first | exact trivial | exact ⟨rfl, trivial⟩) rfl ?_
    refine Ch.pu gdN (by exact ⟨rfl, trivial⟩) (OpS.len rfl) (by first | exact trivial | exact ⟨rfl, trivial⟩) rfl ?_
    refine Ch.pu gdN (by exact ⟨rfl, rfl, trivial⟩) (OpS.int rfl (by first | exact wr64 (by omega) | exact rfl)) (by first | exact trivial | exact ⟨rfl, trivial⟩) rfl ?_
    refine Ch.nil ?_
    refine WP.cond rfl ?_ ?_
    · intro ht
      have ht' := of_decide_eq_true ht
      have hc := pairsL_step f l m (by omega)
      have hfm := hf m (by omega)
      have hpl : (pairsL f (l.take (2 * m))).length = m := by rw [pairsL_length, List.length_take]; omega
      have e1 : tget l (2 * m) = el l (ii - 1) := by rw [show ii - 1 = 2 * m by omega]; rfl
      have e2 : tget l (2 * m + 1) = el l ii := by rw [hi]; rfl
      rw [e1, e2] at hc hfm
      refine WP.skip ?_
      refine WP.seq ?_
      refine WP.block ?_
      refine WP.rgD (by kernel_rfl) hG ?_
      refine Ch.pu gdN (by exact ⟨rfl, trivial⟩) (OpS.move) (by first | exact trivial | exact ⟨rfl, trivial⟩) rfl ?_
      refine Ch.pu gdN (by exact ⟨rfl, trivial⟩) (OpS.move) (by first | exact trivial | exact ⟨rfl, trivial⟩) rfl ?_
      refine Ch.pu gdN (by exact ⟨rfl, trivial⟩) (OpS.move) (by first | exact trivial | exact ⟨rfl, trivial⟩) rfl ?_
      refine Ch.pu gdN (by exact ⟨rfl, trivial⟩) (OpS.move) (by first | exact trivial | exact ⟨rfl, trivial⟩) rfl ?_
      refine Ch.pu gdN (by exact ⟨rfl, rfl, trivial⟩) (OpS.int rfl (by first | exact wr64 (by omega) | exact rfl)) (by first | exact trivial | exact ⟨rfl, trivial⟩) rfl ?_
      refine Ch.pu gdN (by exact ⟨rfl, rfl, trivial⟩) (OpS.indexM rfl rfl rfl (by first | with_reducible exact Int.toNat_natCast _ | with_reducible exact tnLit _ _ | with_reducible exact tnLitA _ _ | with_reducible exact tnL _ | with_reducible exact tnA _ _ | with_reducible exact tnM _ _ | with_reducible exact tnMA _ _ _ | exact rfl) (by omega) (by omega) (by first | rfl | (simp; done) | omega)) (by first | exact trivial | exact ⟨rfl, trivial⟩) rfl ?_
      refine Ch.pu gdN (by exact ⟨rfl, trivial⟩) (OpS.loadS rfl rfl) (by first | exact trivial | exact ⟨rfl, trivial⟩) rfl ?_
      refine Ch.pu gdN (by exact ⟨rfl, trivial⟩) (OpS.move) (by first | exact trivial | exact ⟨rfl, trivial⟩) rfl ?_
      refine Ch.pu gdN (by exact ⟨rfl, trivial⟩) (OpS.move) (by first | exact trivial | exact ⟨rfl, trivial⟩) rfl ?_
      refine Ch.pu gdN (by exact ⟨rfl, rfl, trivial⟩) (OpS.indexM rfl rfl rfl (by first | with_reducible exact Int.toNat_natCast _ | with_reducible exact tnLit _ _ | with_reducible exact tnLitA _ _ | with_reducible exact tnL _ | with_reducible exact tnA _ _ | with_reducible exact tnM _ _ | with_reducible exact tnMA _ _ _ | exact rfl) (by omega) (by omega) (by first | rfl | (simp; done) | omega)) (by first | exact trivial | exact ⟨rfl, trivial⟩) rfl ?_
      refine Ch.pu gdN (by exact ⟨rfl, trivial⟩) (OpS.loadS rfl rfl) (by first | exact trivial | exact ⟨rfl, trivial⟩) rfl ?_
      refine Ch.callD (hfm) gdN (by repeat (first | exact EvL.nil | (apply EvL.cons; exact rfl))) (by exact (And.intro (by first | exact .rfl _ | exact .untip _ _ _ | exact .nil | exact .func _ | exact AV.wk.sh (renL_s _ _) | exact AV.wk.sh (by simp; first | done | fail)) (And.intro (by first | exact .rfl _ | exact .untip _ _ _ | exact .nil | exact .func _ | exact AV.wk.sh (renL_s _ _) | exact AV.wk.sh (by simp; first | done | fail)) trivial))) (by rfl) rfl ?_
      refine Ch.pup gdN (by repeat (first | exact EvP.nil | (apply EvP.cons; exact rfl))) (OpS.slice1 rfl rfl rfl rfl rfl rfl (by rfl) rfl (by rfl)) rfl ?_
      refine Ch.al gdN (by exact ⟨rfl, rfl, trivial⟩) (OpS.append (sz := 1) (bb := 16) 1 rfl rfl rfl rfl rfl (by decide) (SrcA.sl rfl (by simp)) (by first | (simp; done) | (simp; assumption)) (by simp) (by unfold maxLen; omega) rfl (by omega)) (by first | exact trivial | exact ⟨rfl, trivial⟩) (by first | exact trivial | exact ⟨rfl, trivial⟩ | exact ⟨rfl, rfl, trivial⟩) rfl ?_
      refine Ch.pu gdN (by exact ⟨rfl, trivial⟩) (OpS.assign) (by first | exact trivial | exact ⟨rfl, trivial⟩) rfl ?_
      refine Ch.nilD ?_ (by kernel_rfl)
      refine WP.rg hG ?_
      refine Ch.pu gdN (by exact ⟨rfl, trivial⟩) (OpS.move) (by first | exact trivial | exact ⟨rfl, trivial⟩) rfl ?_
      refine Ch.pu gdN (by exact ⟨rfl, rfl, trivial⟩) (OpS.int rfl (by first | exact wr64 (by omega) | exact rfl)) (by first | exact trivial | exact ⟨rfl, trivial⟩) rfl ?_
      refine Ch.pu gdN (by exact ⟨rfl, trivial⟩) (OpS.assign) (by first | exact trivial | exact ⟨rfl, trivial⟩) rfl ?_
      refine Ch.nil ?_
      refine ⟨k - 1, _, by omega, (Ent.of [1] ?_ ?_ ?_ ?_).se, m + 1, ii + 2, by omega, rfl⟩
      · exact (fun i hi => by rw [hnA] at hi; simp only [List.length_cons, List.length_nil] at hi ⊢; first | exact absurd hi (Nat.not_lt_zero _) | (revert i; decide))
      · (repeat (first | exact trivial | (refine And.intro ⟨(by first | trivial | (simp; first | done | fail)), _, rfl, (by first | exact .rfl _ | exact .nil | exact .of_eq (by simp [hc]; first | done | fail) | exact AV.wk.sh (by simp [hc]; first | done | fail) | exact .untip _ _ _)⟩ ?_)))
      · (repeat (first | exact trivial | (refine And.intro ⟨rfl, (by first | trivial | (simp; first | done | fail)), (by first | rfl | (simp [hc]; first | done | fail))⟩ ?_)))
      · simp [rn]
    · intro ht
      have ht' := of_decide_eq_false ht
      have hc := pairsL_last f l m (by omega) (by omega)
      have hpl : (pairsL f l).length = m := by rw [pairsL_length]; omega
      refine WP.exit ?_
      refine WP.rs hG ?_
      refine Ch.pu gdN (by exact ⟨rfl, trivial⟩) (OpS.move) (by first | exact trivial | exact ⟨rfl, trivial⟩) rfl ?_
      refine Ch.pu gdN (by exact ⟨rfl, trivial⟩) (OpS.assign) (by first | exact trivial | exact ⟨rfl, trivial⟩) rfl ?_
      refine Ch.nil ?_
      rw [hpl]
      exact WP.ret (Ret.row 0 rfl (.of_eq (by simp [hc])) (by first | trivial | (simp; first | done | fail)) rfl trivial hnA)
theorem pairs_fc {G : List (Nat × Array Value)} (f : Txt → Txt → Txt) (g : FuncId) (l : List Txt) (hl : l.length ≤ 1000000) (hf : ∀ j, 2 * j + 1 < l.length → FC Tryd.prog G g [sA (tget l (2 * j)), sA (tget l (2 * j + 1))] [] (sA (f (tget l (2 * j)) (tget l (2 * j + 1)))) []) :
    FC Tryd.prog G 31 [.sl none l.length (l.map sA), .v (.func (.func g) #[] #[])] [] (.sl none (pairsL f l).length ((pairsL f l).map sA)) [] :=
  (pairs_fc0 f g l hl hf).shut (belL_s _ _) (renL_s _ _)
/-- texts of which two have an input -/
def Mid (l : List Txt) : Prop := ∀ x ∈ l, x.length ≤ 70368744177600
theorem Mid.two {l : List Txt} (h : Mid l) {i j : Nat} (hi : i < l.length) (hj : j < l.length) : (tget l i).length + (tget l j).length ≤ 140737488355300 := by
  have := h _ (tget_mem hi)
  have := h _ (tget_mem hj)
  omega
theorem Mid.pairs {l : List Txt} : Mid (pairsL node l) := fun x hx => by rw [pairs_mem_length x hx]; omega
theorem Mid.of32 {l : List Txt} (h : ∀ x ∈ l, x.length = 32) : Mid l := fun x hx => by rw [h x hx]; omega
theorem pairsNode_fc {G : List (Nat × Array Value)} (hm : ShaIn G) (l : List Txt) (hl : l.length ≤ 1000000) (h : Mid l) :
    FC Tryd.prog G 31 [.sl none l.length (l.map sA), .v (.func (.func 20) #[] #[])] [] (.sl none (pairsL node l).length ((pairsL node l).map sA)) [] :=
  pairs_fc node 20 l hl fun j hj => node_fc hm _ _ (h.two (by omega) hj)
theorem pairsInp_fc {G : List (Nat × Array Value)} (l : List Txt) (hl : l.length ≤ 1000000) (h : Mid l) :
    FC Tryd.prog G 31 [.sl none l.length (l.map sA), .v (.func (.func 32) #[] #[])] [] (.sl none (pairsL inp2 l).length ((pairsL inp2 l).map sA)) [] :=
  pairs_fc inp2 32 l hl fun j hj => tinput_fc _ _ (h.two (by omega) hj)
end Go.Proofs.YtmifllopcbjliaaDoor.E
end
