import Derived.Test.YtmmoadhjlgbmhaaDoorZ3164a14e
import Derived.Test.YtmmoadhjlgbmhaaDoorZ6cf0c1ef
import Derived.StillTail
import Derived.OrdersHeld
import Derived.Test.YtmmoadhjlgbmhaaDoorZed87f923
import Derived.Test.YtmmoadhjlgbmhaaDoorZe46ccfcd
section
/- Rows of words (uint32): read where they lie; a row that the play itself made, and append onto it. -/
namespace Go.Proofs.YtmmoadhjlgbmhaaDoor.V
open Go Go.RowKit

theorem u32info : (Tryd.prog.info? 67).map (fun i => (i.zero, i.size, i.bytes)) = some (some (.int .u32 0), 1, 4) := by kernel_rfl
def wvs (l : List UInt32) : List Value := l.map wv
theorem wvs_length (l : List UInt32) : (wvs l).length = l.length := by simp [wvs]
theorem wvs_append (a b : List UInt32) : wvs (a ++ b) = wvs a ++ wvs b := by simp [wvs]
theorem wvs_one (l : List UInt32) : ∀ u ∈ wvs l, u.oneCell' = true := by
  intro u hu
  obtain ⟨p, _, rfl⟩ := List.mem_map.1 hu
  rfl

/-- a row of words as it lies in memory, in blocks from base on -/
def RWords (w : World) (base : Nat) (v : Value) (l : List UInt32) : Prop :=
  ∃ a cap, v = .slice a l.length cap ∧ ∀ i, i < l.length → ∃ b off, a = some ⟨b, off, none⟩ ∧ base ≤ b ∧ b < w.heap.size ∧ w.cell? ⟨b, off + i, none⟩ = some (.int .u32 (U32 (lget l i)))
theorem RWords.kept {w w' : World} {base : Nat} {v : Value} {l : List UInt32} (h : RWords w base v l) {S : List Nat} (hf : Fr S w w') (hS : ∀ x ∈ S, x < base ∨ w.heap.size ≤ x) : RWords w' base v l := by
  obtain ⟨a, cap, hv, hc⟩ := h
  refine ⟨a, cap, hv, fun i hi => ?_⟩
  obtain ⟨b, off, ha, hb0, hb, hx⟩ := hc i hi
  exact ⟨b, off, ha, hb0, Nat.lt_of_lt_of_le hb hf.size, by rw [hf.cell hb (fun hm => by have := hS b hm; omega)]; exact hx⟩

def owords (w : World) (base : Nat) (v : Value) (l : List UInt32) : Prop := w.ownsRow base 67 1 v l.length (wvs l)
theorem owords_nil (w : World) (base : Nat) : owords w base (.slice none 0 0) [] := World.ownsRow_nil w base _ 1
theorem owords.kept {w w' : World} {base : Nat} {v : Value} {l : List UInt32} (h : owords w base v l) {S : List Nat} (hf : Fr S w w') (hS : ∀ k, v.ownBlock = some k → k ∉ S) : owords w' base v l := hf.own h hS
theorem owords.lt {w : World} {base : Nat} {v : Value} {l : List UInt32} (h : owords w base v l) : ∀ k, v.ownBlock = some k → base ≤ k ∧ k < w.heap.size := World.ownsRow.lt h
theorem owords.words {w : World} {base : Nat} {v : Value} {l : List UInt32} (h : owords w base v l) : RWords w base v l := by
  have hlt := h.lt
  rcases h.2 with ⟨rfl, h0⟩ | ⟨g, cap, cur, rfl, hbg, hg, hnc, hcm, hcs, htake⟩
  · obtain rfl : l = [] := List.eq_nil_of_length_eq_zero h0
    exact ⟨none, 0, rfl, fun i hi => by cases hi⟩
  · refine ⟨_, cap, rfl, fun i hi => ⟨g, 0, rfl, hbg, (hlt g rfl).2, ?_⟩⟩
    have := World.ownsRow.cells h (g := g) rfl i (wv (lget l i)) (by simp [wvs, lget, hi])
    have hadd : (⟨g, 0, none⟩ : Addr).add i = ⟨g, 0 + i, none⟩ := by unfold Addr.add; split <;> simp_all
    rw [hadd] at this
    exact this

theorem wpList_ap_words {ops : Array Oper} {rest : List Oper} {o : Oper} {a : Act} {Q : Exit → Act → World → Prop} {w : World} (hgd : o.guard = none) (s x : Operand) (tx : TypeId)
    (ho : o.op = .call { callee := .builtin .append, args := #[s, x], argTypes := #[89, tx] })
    (base : Nat) (v : Value) (l : List UInt32) (hv : a.eval s = v) (hown : owords w base v l) (xv : Value) (m : List UInt32) (n : Nat) (hx : a.eval x = xv) (hs : Src Tryd.prog 1 tx xv n (wvs m) w)
    (hb : l.length + m.length ≤ 8796093022208) (hbase : base ≤ w.heap.size)
    (h : ∀ v' w', owords w' base v' (l ++ m) → w.grownBy w' v.ownBlock → (v'.ownBlock = v.ownBlock ∨ v'.ownBlock = some w.heap.size) → wpList Tryd.prog ops Q rest (a.put o.dst v') w') : wpList Tryd.prog ops Q (o :: rest) a w := by
  obtain ⟨i, hi, hz, hs1, hb1⟩ := info_parts u32info
  have hn : n = m.length := by have := hs.newsLen; rw [wvs_length] at this; omega
  subst hn
  refine wpList_plain hgd fun K hK => wp_append_any w s x 89 tx ho base 67 i (.int .u32 0) 1 4 Tryd.underlying89 hi hz hs1 hb1 rfl (by decide) v l.length (wvs l) hv hown xv m.length (wvs m) hx hs
    (by unfold maxLen; omega) (by omega) hbase ?_
  intro v' w' h1 h2 h3
  refine hK _ _ (h v' w' ?_ h2 h3)
  unfold owords
  rw [List.length_append, wvs_append]
  exact h1
theorem step_ap_words {ops : Array Oper} {o : Oper} {a : Act} {K : Act → World → Prop} {Q : Exit → Act → World → Prop} {w : World} {E : Prop} (hgd : o.guard = none) (s x : Operand) (tx : TypeId)
    (ho : o.op = .call { callee := .builtin .append, args := #[s, x], argTypes := #[89, tx] })
    (base : Nat) (v : Value) (l : List UInt32) (hv : a.eval s = v) (hown : owords w base v l) (xv : Value) (m : List UInt32) (n : Nat) (hx : a.eval x = xv) (hs : Src Tryd.prog 1 tx xv n (wvs m) w)
    (hb : l.length + m.length ≤ 8796093022208) (hbase : base ≤ w.heap.size)
    (h : ∀ v' w', owords w' base v' (l ++ m) → w.grownBy w' v.ownBlock → (v'.ownBlock = v.ownBlock ∨ v'.ownBlock = some w.heap.size) → K (a.put o.dst v') w') :
    if Region.wanted o (yielded ops a.tmps) = true then Oper.wp Tryd.prog o a w K Q else E := by
  have hw : Region.wanted o (yielded ops a.tmps) = true := by simp [Region.wanted, hgd]
  rw [if_pos hw]
  obtain ⟨i, hi, hz, hs1, hb1⟩ := info_parts u32info
  have hn : n = m.length := by have := hs.newsLen; rw [wvs_length] at this; omega
  subst hn
  refine wp_append_any w s x 89 tx ho base 67 i (.int .u32 0) 1 4 Tryd.underlying89 hi hz hs1 hb1 rfl (by decide) v l.length (wvs l) hv hown xv m.length (wvs m) hx hs
    (by unfold maxLen; omega) (by omega) hbase ?_
  intro v' w' h1 h2 h3
  refine h v' w' ?_ h2 h3
  unfold owords
  rw [List.length_append, wvs_append]
  exact h1
theorem step_ap_bytes {ops : Array Oper} {o : Oper} {a : Act} {K : Act → World → Prop} {Q : Exit → Act → World → Prop} {w : World} {E : Prop} (hgd : o.guard = none) (s x : Operand) (tx : TypeId)
    (ho : o.op = .call { callee := .builtin .append, args := #[s, x], argTypes := #[49, tx] })
    (base : Nat) (v : Value) (l : List UInt8) (hv : a.eval s = v) (hown : obytes w base v l) (xv : Value) (m : List UInt8) (n : Nat) (hx : a.eval x = xv) (hs : Src Tryd.prog 1 tx xv n (bvs m) w)
    (hb : l.length + m.length ≤ 140737488355328) (hbase : base ≤ w.heap.size)
    (h : ∀ v' w', obytes w' base v' (l ++ m) → w.grownBy w' v.ownBlock → (v'.ownBlock = v.ownBlock ∨ v'.ownBlock = some w.heap.size) → K (a.put o.dst v') w') :
    if Region.wanted o (yielded ops a.tmps) = true then Oper.wp Tryd.prog o a w K Q else E := by
  have hw : Region.wanted o (yielded ops a.tmps) = true := by simp [Region.wanted, hgd]
  rw [if_pos hw]
  obtain ⟨i, hi, hz, hs1, hb1⟩ := info_parts u8info
  have hn : n = m.length := by have := hs.newsLen; rw [bvs_length] at this; omega
  subst hn
  refine wp_append_any w s x 49 tx ho base 5 i (.int .u8 0) 1 1 Tryd.underlying49 hi hz hs1 hb1 rfl (by decide) v l.length (bvs l) hv hown xv m.length (bvs m) hx hs
    (by unfold maxLen; omega) (by omega) hbase ?_
  intro v' w' h1 h2 h3
  refine h v' w' ?_ h2 h3
  unfold obytes
  rw [List.length_append, bvs_append]
  exact h1
end Go.Proofs.YtmmoadhjlgbmhaaDoor.V
end
section
/- A region that draws its order: operations that yield the same in every world are taken first, in their own order; what is left then comes in a forced order. -/
namespace Go.Proofs.YtmmoadhjlgbmhaaDoor.V
open Go Go.RowKit

section
variable {P : Program} {ops : Array Oper} {Q : Exit → Act → World → Prop} {md : Region.Mode}

/-- operations that yield one value each, whatever the world -/
def wpTake (P : Program) (ops : Array Oper) (K : Act → Prop) : List Oper → Act → Prop
  | [], a => K a
  | o :: r, a => ∃ v, YieldsIf P ops (fun _ => True) o v a ∧ wpTake P ops K r (a.put o.dst v)
theorem wpTake_nil {K : Act → Prop} {a : Act} (h : K a) : wpTake P ops K [] a := h
theorem wpTake_step {K : Act → Prop} {a : Act} {o : Oper} {r : List Oper} {v : Value} (hw : Region.wanted o (yielded ops a.tmps) = true) (hy : ∀ w, (execOp a.eval o).run P w = .ok (.value v) w)
    (h : wpTake P ops K r (a.put o.dst v)) : wpTake P ops K (o :: r) a := ⟨v, .inl ⟨hw, fun w _ => hy w⟩, h⟩

theorem anyH_of_any : ∀ (fuel : Nat) (listed : Array Bool) (a : Act) (w : World), wpAny P md ops Q fuel listed a w → wpAnyH P md ops Q (fun _ => True) fuel listed a w
  | 0, _, _, _, h => h
  | fuel + 1, _, _, _, h => ⟨h.1, fun i hi => wpOp_mono (fun a' w' h' => ⟨trivial, anyH_of_any fuel _ a' w' h'⟩) (h.2 i hi)⟩

theorem anyH_lex {g : Nat} (hsel : Region.noSelect ops = true) (hQ : ∀ c o v a w, Q (.panic c) (Act.put a o v) w → Q (.panic c) a w) {tail : List Oper} (hg : tail.length = g) :
    ∀ (l : List Oper) (k : Nat) (listed : Array Bool) (a : Act) (w : World), (∀ j, (l ++ tail)[j]? = ops[k + j]?) → Region.lexHead md ops g l.length k listed = true →
      wpTake P ops (fun a' => wpList P ops Q tail a' w) l a → wpAnyH P md ops Q (fun _ => True) (l.length + g) listed a w
  | [], k, listed, a, w, hl, hB, h => by
    subst hg
    rw [List.length_nil, Nat.zero_add]
    exact anyH_of_any _ _ _ _ (wpAny_of_seq tail k listed a w (fun j => by simpa using hl j) hB h)
  | o :: l, k, listed, a, w, hl, hB, h => by
    have h0 : ops[k]? = some o := by simpa using (hl 0).symm
    simp only [List.length_cons, Region.lexHead, Bool.and_eq_true] at hB
    obtain ⟨⟨hr, hf⟩, hB'⟩ := hB
    obtain ⟨v, hy, hK⟩ := h
    have := wpAnyH_take (md := md) (Q := Q) (fuel := l.length + g) h0 hsel hf hr (fun c a w => hQ c _ _ a w) hy trivial
      (anyH_lex hsel hQ hg l (k + 1) _ _ w (fun j => by have := hl (j + 1); simpa [Nat.add_assoc, Nat.add_comm 1 j] using this) hB' hK)
    rw [List.length_cons, Nat.add_right_comm]
    exact this

def Region.takeB (ops : Array Oper) (n : Nat) : Bool :=
  Region.noSelect ops && decide (n ≤ ops.size) && Region.lexHead .any ops (ops.size - n) n 0 (Array.replicate ops.size false)

theorem region_take {id : Nat} {a : Act} {w : World} {l : List Oper} (n : Nat) (hm : P.follows .mixedOrders = true) (hB : Region.takeB l.toArray n = true)
    (h : wpTake P l.toArray (fun a' => wpList P l.toArray (NoPanic Q) (l.drop n) a' w.drew) (l.take n) a) : (Code.region id l.toArray true).wp P Q a w := by
  simp only [Region.takeB, Bool.and_eq_true, decide_eq_true_eq] at hB
  obtain ⟨⟨hsel, hn⟩, hlex⟩ := hB
  have hn' : n ≤ l.length := by simpa using hn
  have htl : (l.take n).length = n := by simp; omega
  refine wp_region_noPanic (wp_region_held (S := fun _ => True) hm ?_)
  have := anyH_lex (md := .any) (Q := NoPanic Q) (g := l.toArray.size - n) hsel (fun c o v a w hp => hp) (tail := l.drop n) (by simp) (l.take n) 0 (Array.replicate l.toArray.size false) a w.drew
    (fun j => by simp) (by rw [htl]; exact hlex) h
  rw [htl, show n + (l.toArray.size - n) = l.toArray.size by simp; omega] at this
  exact this
end
end Go.Proofs.YtmmoadhjlgbmhaaDoor.V
end
section
/- The walks of the document's own answer for layer 1: rot, words, text. -/
namespace Go.Proofs.YtmmoadhjlgbmhaaDoor.V
open Go Go.RowKit
attribute [local go_sem] B_size B_append B_extract mk_B B_toList take_drop_len List.length_drop List.length_take sgn32 sgn64 add32 sub32 mul32 add64 sub64 mul64 mul64_8 and32 or32 xor32 and64 or64 xor64 shl32_run shr32_run shl64_run shr64_run not32 not32' xor32_all w_u32_u8 w_u64_u8 w_i64_u8 w_u8_u32 w_u8_u64 w_u32_u64 w_u64_u32 w_u8_u8 w_u32_u32 w_u64_u64
attribute [local go_sem ↓] run_index_B' add32 sub32 mul32 add64 sub64 mul64 mul64_8 and32 or32 xor32 and64 or64 xor64 shl32_run shr32_run shl64_run shr64_run not32 not32' xor32_all w_u32_u8 w_u64_u8 w_i64_u8 w_u8_u32 w_u8_u64 w_u32_u64 w_u64_u32 w_u8_u8 w_u32_u32 w_u64_u64 w_u64_nat w_u32_nat w_u8_nat

set_option maxHeartbeats 1000000 in
set_option maxRecDepth 100000 in
theorem rot_ok (x : UInt32) (n : Nat) (w : World) (h0 : 0 < n) (h1 : n < 32) :
    Calls Tryd.prog 71 #[.int .u32 (U32 x), .int .i64 n] w fun e w' => e = .returned (.int .u32 (U32 (ror x n))) ∧ ∃ m, w' = w.drewN m := by
  have hn0 : (0 : Int) ≤ (n : Int) := by omega
  have hn1 : (0 : Int) ≤ 32 - (n : Int) := by omega
  have ew : IntKind.i64.wrap (32 - (n : Int)) = 32 - (n : Int) := by rw [IntKind.wrap_i64]; omega
  have et : (32 - (n : Int)).toNat = 32 - n := by omega
  have hr : shr32 x n ||| shl32 x (32 - n) = ror x n := by unfold ror; exact UInt32.or_comm _ _
  have hm : U32 x * 2 ^ (32 - n) % 4294967296 = U32 (shl32 x (32 - n)) := by rw [shl32, u32_ofNat]; unfold U32; rw [Int.natCast_emod, Int.natCast_mul, Int.natCast_pow]; rfl
  go_enter Tryd.func71, Tryd.ntmps71
  go_wp2
  go_quiet (fail)
  go_wp2
  go_ret
  exact ⟨by rw [← hr]; rfl, _, rfl⟩

def wordsOf (s : List UInt8) (n : Nat) : List UInt32 := (List.range n).map fun j => wordOf (s.drop (4 * j))
theorem wordsOf_length (s : List UInt8) (n : Nat) : (wordsOf s n).length = n := by simp [wordsOf]
theorem wordsOf_succ (s : List UInt8) (n : Nat) : wordsOf s (n + 1) = wordsOf s n ++ [wordOf (s.drop (4 * n))] := by simp [wordsOf, List.range_succ]
theorem nth_drop (l : List UInt8) (a b : Nat) : nth (l.drop a) b = nth l (a + b) := by simp [nth]

set_option maxHeartbeats 300000 in
set_option maxRecDepth 100000 in
theorem words_ok (s : List UInt8) (N : Nat) (w : World) (hs : s.length = 4 * N) (hN : N ≤ 1000) :
    Calls Tryd.prog 70 #[.string (B s)] w fun e w' => ∃ v, e = .returned v ∧ owords w' w.heap.size v (wordsOf s N) ∧ Fr [] w w' := by
  go_enter Tryd.func70, Tryd.ntmps70
  go_wp2
  go_loopg [3, 4] N (fun k o i wr => ∃ (n ii : Nat), i = .int .i64 (ii : Int) ∧ Hid (ii = 4 * n ∧ n + k = N) ∧ Hid (owords wr w.heap.size o (wordsOf s n)) ∧ Hid (Fr [] w wr))
  case atStart => exact ⟨0, 0, rfl, ⟨rfl, by omega⟩, (show _ from owords_nil _ _), (show _ from Fr.refl _ _)⟩
  case round =>
    obtain ⟨n, ii, rfl, HN, H1, H2⟩ := hrel
    have h0n : (0 : Int) ≤ (ii : Int) := by omega
    have hii := HN.out
    have ew : IntKind.i64.wrap ((ii : Int) + 4) = (ii : Int) + 4 := by rw [IntKind.wrap_i64]; omega
    by_cases hk : gk = 0
    · subst hk
      have e1 : ¬ ((ii : Int) + 4 ≤ (s.length : Int)) := by omega
      have e2 : n = N := by omega
      have E2 := Lib.hid e2
      clear e2 hii hs
      go_wp2
      go_ret
      exact ⟨_, rfl, by have := H1.out; rw [E2.out] at this; exact this, H2.out⟩
    · have e1 : (ii : Int) + 4 ≤ (s.length : Int) := by omega
      have i0 : (ii : Int) < (s.length : Int) := by omega
      have i1 : (ii : Int) + 1 < (s.length : Int) := by omega
      have i2 : (ii : Int) + 2 < (s.length : Int) := by omega
      have i3 : (ii : Int) + 3 < (s.length : Int) := by omega
      have j1 : (0 : Int) ≤ (ii : Int) + 1 := by omega
      have j2 : (0 : Int) ≤ (ii : Int) + 2 := by omega
      have j3 : (0 : Int) ≤ (ii : Int) + 3 := by omega
      have w1 : IntKind.i64.wrap ((ii : Int) + 1) = (ii : Int) + 1 := by rw [IntKind.wrap_i64]; omega
      have w2 : IntKind.i64.wrap ((ii : Int) + 2) = (ii : Int) + 2 := by rw [IntKind.wrap_i64]; omega
      have w3 : IntKind.i64.wrap ((ii : Int) + 3) = (ii : Int) + 3 := by rw [IntKind.wrap_i64]; omega
      have t1 : ((ii : Int) + 1).toNat = ii + 1 := by omega
      have t2 : ((ii : Int) + 2).toNat = ii + 2 := by omega
      have t3 : ((ii : Int) + 3).toNat = ii + 3 := by omega
      have hx : shl32 (nth s ii).toUInt32 24 ||| shl32 (nth s (ii + 1)).toUInt32 16 ||| shl32 (nth s (ii + 2)).toUInt32 8 ||| (nth s (ii + 3)).toUInt32 = wordOf (s.drop (4 * n)) := by
        unfold wordOf
        rw [nth_drop, nth_drop, nth_drop, nth_drop, hii.1]
        rfl
      generalize hX : wordOf (s.drop (4 * n)) = x at *
      have HX := Lib.hid hX
      have hown2 : owords ((wr.alloc (.cells #[.int .u32 (U32 x)] 67)).drew) w.heap.size u3 (wordsOf s n) := H1.out.kept (S := []) ((Fr.refl [] wr).alloc _).drew (by simp)
      have hsrc2 : Src Tryd.prog 1 89 (.slice (some ⟨wr.heap.size, 0, none⟩) 1 1) 1 (wvs [x]) ((wr.alloc (.cells #[.int .u32 (U32 x)] 67)).drew) :=
        Src.new' wr 89 67 Tryd.underlying89 #[_] _ (wvs_one [x])
      have hb2 : (wordsOf s n).length + [x].length ≤ 8796093022208 := by rw [wordsOf_length]; simp; omega
      have hbase2 : w.heap.size ≤ ((wr.alloc (.cells #[.int .u32 (U32 x)] 67)).drew).heap.size := by have := H2.out.size; simp; omega
      have HO := Lib.hid hown2
      have HSr := Lib.hid hsrc2
      have HBs := Lib.hid hbase2
      have HBb := Lib.hid hb2
      clear hown2 hsrc2 hbase2 hb2 hii hX hs
      go_wp2
      refine region_take 26 (by kernel_rfl) (by kernel_rfl) ?_; simp only [List.take_succ_cons, List.take_zero, List.drop_succ_cons, List.drop_zero]; (repeat ((refine wpTake_step (v := ?_) (by rfl) (fun q => ?_) ?_); rotate_left; focus (go_simp; with_reducible rfl))); try refine wpTake_nil ?_
      go_wp2_with (at_builtin; refine wpList_ap_words rfl _ _ _ rfl w.heap.size u3 (wordsOf s n) rfl HO.out _ [x] 1 rfl HSr.out HBb.out HBs.out ?_)
      intro v1 q1 h1 hg1 ho1
      have H1' := Lib.hid h1
      have H2' : Hid (Fr [] w q1) := (((H2.out.alloc _).drew).trans' (Fr.of_grown hg1) (fun _ h => .inl h) (fun x hx => .inr (H1.out.lt x (by simpa using hx)).1))
      clear h1 hg1 ho1 HO HSr HBs HBb
      go_wp2
      refine NoPanic.normal ?_
      go_wp2
      go_roundg (gk - 1)
      case rel =>
        refine ⟨n + 1, ii + 4, rfl, ⟨by have := HN.out; omega, by have := HN.out; omega⟩, (show owords _ _ _ _ from ?_), H2'⟩
        rw [wordsOf_succ, HX.out]
        exact H1'.out
      case measure => omega

theorem flat_succ (l : List UInt32) (n : Nat) (h : n < l.length) : (l.take (n + 1)).flatMap be4 = (l.take n).flatMap be4 ++ be4 (lget l n) := by
  rw [List.take_succ_eq_append_getElem h, List.flatMap_append]
  simp [lget, h]

set_option maxHeartbeats 1000000 in
set_option maxRecDepth 100000 in
theorem text_ok (base0 : Nat) (v : Value) (l : List UInt32) (w : World) (hl : l.length ≤ 1000) (hS : RWords w base0 v l) :
    Calls Tryd.prog 69 #[v] w fun e w' => e = .returned (.string (B (l.flatMap be4))) ∧ Fr [] w w' := by
  obtain ⟨a, cap, rfl, hc⟩ := hS
  have hpl : (l.length : Int) ≤ 1000 := by omega
  have hp0 : (0 : Int) ≤ (l.length : Int) := by omega
  have HC := Lib.hid hc
  have HL := Lib.hid hl
  clear hc hl
  go_enter Tryd.func69, Tryd.ntmps69
  go_wp2
  go_loopg [3, 4] l.length (fun k o i wr => ∃ (n : Nat), i = .int .i64 (n : Int) ∧ Hid (n + k = l.length) ∧ Hid (obytes wr w.heap.size o ((l.take n).flatMap be4)) ∧ Hid (Fr [] w wr))
  case atStart => exact ⟨0, rfl, (show _ = _ from by omega), (show _ from obytes_nil _ _), (show _ from Fr.refl _ _)⟩
  case round =>
    obtain ⟨n, rfl, HN, H1, H2⟩ := hrel
    have h0n : (0 : Int) ≤ (n : Int) := by omega
    by_cases hk : gk = 0
    · subst hk
      have e1 : (l.length : Int) ≤ (n : Int) := by have := HN.out; omega
      have e2 : l.take n = l := List.take_of_length_le (by omega)
      have E2 := Lib.hid e2
      clear e2
      have hcv := H1.out.text
      go_wp2
      go_ret
      exact ⟨by rw [E2.out]; rfl, H2.out⟩
    · have e1 : (n : Int) < (l.length : Int) := by have := HN.out; omega
      obtain ⟨b, off, rfl, -, hb, hx⟩ := HC.out n (by omega)
      have hx' : wr.cell? ⟨b, off + n, none⟩ = some (.int .u32 (U32 (lget l n))) := by rw [H2.out.cell hb (by simp)]; exact hx
      have hxn := World.new_ne wr _ hx'
      have ew : IntKind.i64.wrap ((n : Int) + 1) = (n : Int) + 1 := by rw [IntKind.wrap_i64]; omega
      have hwr := H2.out.size
      have HNe : some b ≠ u3.ownBlock := by intro h; have h3 := (H1.out.lt _ h.symm).1; omega
      generalize hX : lget l n = x at *
      have HX := Lib.hid hX
      have HBlt : b < ((wr.alloc (.cells (bvs (be4 x)).toArray 5)).drew).heap.size := by simp; omega
      have hall : ((wr.alloc (.cells (bvs (be4 x)).toArray 5)).drew).cell? ⟨b, off + n, none⟩ = some (.int .u32 (U32 x)) := by
        rw [(((Fr.refl [] wr).alloc (.cells (bvs (be4 x)).toArray 5)).drew).cell (by omega) (by simp)]
        exact hx'
      have HO : Hid (obytes ((wr.alloc (.cells (bvs (be4 x)).toArray 5)).drew) w.heap.size u3 ((l.take n).flatMap be4)) := H1.out.kept (S := []) ((Fr.refl [] wr).alloc _).drew (by simp)
      have HSr : Hid (Src Tryd.prog 1 49 (.slice (some ⟨wr.heap.size, 0, none⟩) 4 4) 4 (bvs (be4 x)) ((wr.alloc (.cells (bvs (be4 x)).toArray 5)).drew)) :=
        Src.new' wr 49 5 Tryd.underlying49 (bvs (be4 x)).toArray _ (bvs_one (be4 x))
      have HBb : Hid (((l.take n).flatMap be4).length + (be4 x).length ≤ 140737488355328) := by
        show _ ≤ _
        rw [flat_be4_length, List.length_take]
        have := HL.out
        simp [be4]
        omega
      have HBs : Hid (w.heap.size ≤ ((wr.alloc (.cells (bvs (be4 x)).toArray 5)).drew).heap.size) := by show _ ≤ _; simp; omega
      clear hx hb hX
      go_wp2
      go_region_held3 (fun w' => w'.cell? ⟨b, off + n, none⟩ = some (.int .u32 (U32 x))) (first | go_keep | (exact (World.cell?_of_block (hg1.block b HBlt HNe)).trans hall))
        ((refine step_ap_bytes (by rfl) _ _ _ (by rfl) w.heap.size u3 ((l.take n).flatMap be4) (by rfl) HO.out _ (be4 x) 4 (by rfl) HSr.out HBb.out HBs.out ?_; intro v1 w1 h1 hg1 ho1))
      have H1' := Lib.hid h1
      have H2' : Hid (Fr [] w w1) := (((H2.out.alloc _).drew).trans' (Fr.of_grown hg1) (fun _ h => .inl h) (fun x hx => .inr (H1.out.lt x (by simpa using hx)).1))
      clear h1 hg1 ho1 HO HSr HBs HBb hall HBlt
      go_wp2
      go_roundg (gk - 1)
      case rel =>
        refine ⟨n + 1, rfl, (show _ = _ from by have := HN.out; omega), (show obytes _ _ _ _ from ?_), H2'⟩
        rw [flat_succ l n (by have := HN.out; omega), HX.out]
        exact H1'.out
      case measure => omega
end Go.Proofs.YtmmoadhjlgbmhaaDoor.V
end
section
/- The document's own answer for layer 1, by abstract steps: rot, words, text. -/
namespace Go.Proofs.YtmmoadhjlgbmhaaDoor.E
open Go Go.RowKit Go.Proofs.YtmmoadhjlgbmhaaDoor.V
attribute [local go_sem] B_size B_append B_extract mk_B B_toList take_drop_len List.length_drop List.length_take sgn32 sgn64 add32 sub32 mul32 add64 sub64 mul64 mul64_8 and32 or32 xor32 and64 or64 xor64 shl32_run shr32_run shl64_run shr64_run not32 not32' xor32_all w_u32_u8 w_u64_u8 w_i64_u8 w_u8_u32 w_u8_u64 w_u32_u64 w_u64_u32 w_u8_u8 w_u32_u32 w_u64_u64
attribute [local go_sem ↓] run_index_B' add32 sub32 mul32 add64 sub64 mul64 mul64_8 and32 or32 xor32 and64 or64 xor64 shl32_run shr32_run shl64_run shr64_run not32 not32' xor32_all w_u32_u8 w_u64_u8 w_i64_u8 w_u8_u32 w_u8_u64 w_u32_u64 w_u64_u32 w_u8_u8 w_u32_u32 w_u64_u64 w_u64_nat w_u32_nat w_u8_nat

theorem rot_fc {G : List (Nat × Array Value)} (x : UInt32) (n : Nat) (h0 : 0 < n) (h1 : n < 32) : FC Tryd.prog G 71 [wA x, .v (.int .i64 (n : Int))] [] (wA (ror x n)) [] := by
  have hn0 : (0 : Int) ≤ (n : Int) := by omega
  have hn1 : (0 : Int) ≤ 32 - (n : Int) := by omega
  have hr : shr32 x n ||| shl32 x (32 - n) = ror x n := by unfold ror; exact UInt32.or_comm _ _
  refine FC.of_wp [4] Tryd.func71 rfl rfl rfl rfl (by first | trivial | (simp; first | done | fail) | exact ⟨trivial, hbel _⟩) (by first | trivial | (simp; first | done | fail) | exact ⟨trivial, hbel _⟩) (by exact Nat.le_of_ble_eq_true rfl) ?_
  intro A hG hnA hAB
  unfold start
  refine WP.rs hG ?_
  refine Ch.pu gdN (by exact ⟨rfl, trivial⟩) (OpS.assign) (by first | exact trivial | exact ⟨rfl, trivial⟩) rfl ?_
  refine Ch.nil ?_
  refine WP.rsD (by kernel_rfl) hG ?_
  refine Ch.pu gdN (by exact ⟨rfl, trivial⟩) (OpS.move) (by first | exact trivial | exact ⟨rfl, trivial⟩) rfl ?_
  refine Ch.pu gdN (by exact ⟨rfl, trivial⟩) (OpS.move) (by first | exact trivial | exact ⟨rfl, trivial⟩) rfl ?_
  refine Ch.pu gdN (by exact ⟨rfl, rfl, trivial⟩) (OpS.shr_u32 (j := n) (by omega) (by omega)) (by first | exact trivial | exact ⟨rfl, trivial⟩) rfl ?_
  refine Ch.pu gdN (by exact ⟨rfl, trivial⟩) (OpS.move) (by first | exact trivial | exact ⟨rfl, trivial⟩) rfl ?_
  refine Ch.pu gdN (by exact ⟨rfl, trivial⟩) (OpS.move) (by first | exact trivial | exact ⟨rfl, trivial⟩) rfl ?_
  refine Ch.pu gdN (by exact ⟨rfl, rfl, trivial⟩) (OpS.int rfl (by first | exact wr64 (by omega) | exact rfl)) (by first | exact trivial | exact ⟨rfl, trivial⟩) rfl ?_
  refine Ch.pu gdN (by exact ⟨rfl, rfl, trivial⟩) (OpS.shl_u32 (j := 32 - n) (by omega) (by omega)) (by first | exact trivial | exact ⟨rfl, trivial⟩) rfl ?_
  refine Ch.pu gdN (by exact ⟨rfl, rfl, trivial⟩) (OpS.or_u32) (by first | exact trivial | exact ⟨rfl, trivial⟩) rfl ?_
  refine Ch.pu gdN (by exact ⟨rfl, trivial⟩) (OpS.assign) (by first | exact trivial | exact ⟨rfl, trivial⟩) rfl ?_
  refine Ch.nilD ?_ (by kernel_rfl)
  exact WP.ret (Ret.one rfl (by rw [← hr]; exact .rfl _) trivial hnA)
theorem flat_succ' (l : List UInt32) (n : Nat) (h : n < l.length) : (l.take (n + 1)).flatMap be4 = (l.take n).flatMap be4 ++ be4 (lget l n) := flat_succ l n h

theorem text_fc {G : List (Nat × Array Value)} (l : List UInt32) (hl : l.length ≤ 1000) : FC Tryd.prog G 69 [.sl none l.length (l.map wA)] [] (.v (.string (B (l.flatMap be4)))) [] := by
  refine FC.of_wp [2] Tryd.func69 rfl rfl rfl rfl ⟨⟨by simp, belL_raw _ _ l⟩, trivial⟩ trivial (by exact Nat.le_of_ble_eq_true rfl) ?_
  intro A hG hnA hAB
  unfold start
  refine WP.rs hG ?_
  refine Ch.pu gdN (by exact ⟨rfl, trivial⟩) (OpS.assign) (by first | exact trivial | exact ⟨rfl, trivial⟩) rfl ?_
  refine Ch.nil ?_
  refine WP.rs hG ?_
  refine Ch.al gdN (by exact ⟨rfl, trivial⟩) (OpS.assignTip 0 5 1) (by first | exact trivial | exact ⟨rfl, trivial⟩) (by first | exact trivial | exact ⟨rfl, trivial⟩ | exact ⟨rfl, rfl, trivial⟩) rfl ?_
  refine Ch.nil ?_
  refine WP.seq ?_
  refine WP.rs hG ?_
  refine Ch.pu gdN (by exact ⟨rfl, trivial⟩) (OpS.assign) (by first | exact trivial | exact ⟨rfl, trivial⟩) rfl ?_
  refine Ch.nil ?_
  refine WP.block ?_
  refine WP.loop (fun k σ => ∃ m : Nat, m + k = l.length ∧ σ = ⟨39, ls [(0, .sl none l.length (l.map wA)), (3, .sl (some 0) ((l.take m).flatMap be4).length (((l.take m).flatMap be4).map bA)), (4, .v (.int .i64 (m : Int)))], lh [(0, .tip 5 1 ((l.take m).flatMap be4).length)], blt 1⟩) (l.length) (Ent.of [] ?_ ?_ ?_ ?_).se ⟨0, by simp, rfl⟩ ?_
  · exact (fun i hi => by rw [hnA] at hi; simp only [List.length_cons, List.length_nil] at hi ⊢; first | exact absurd hi (Nat.not_lt_zero _) | (revert i; decide))
  · (repeat (first | exact trivial | (refine And.intro ⟨(by first | trivial | (simp; first | done | fail) | exact ⟨trivial, hbel _⟩), _, rfl, (by first | exact .rfl _ | exact .nil | exact .of_eq (by simp; first | done | fail) | exact AV.wk.sh (by simp; first | done | fail) | exact .untip _ _ _)⟩ ?_)))
  · (repeat (first | exact trivial | (refine And.intro ⟨rfl, (by first | trivial | (simp; first | done | fail) | exact ⟨trivial, hbel _⟩), (by first | rfl | (simp; first | done | fail))⟩ ?_)))
  · simp [rn]
  · rintro k σ ⟨m, hm, rfl⟩
    refine WP.seq ?_
    refine WP.rs hG ?_
    refine Ch.pu gdN (by exact ⟨rfl, trivial⟩) (OpS.move) (by first | exact trivial | exact ⟨rfl, trivial⟩) rfl ?_
    refine Ch.pu gdN (by exact ⟨rfl, trivial⟩) (OpS.move) (by first | exact trivial | exact ⟨rfl, trivial⟩) rfl ?_
    refine Ch.pu gdN (by exact ⟨rfl, trivial⟩) (OpS.len rfl) (by first | exact trivial | exact ⟨rfl, trivial⟩) rfl ?_
    refine Ch.pu gdN (by exact ⟨rfl, rfl, trivial⟩) (OpS.int rfl (by first | exact wr64 (by omega) | exact rfl)) (by first | exact trivial | exact ⟨rfl, trivial⟩) rfl ?_
    refine Ch.nil ?_
    refine WP.cond rfl ?_ ?_
    · intro ht
      have ht' := of_decide_eq_true ht
      have hc : (l.take (m + 1)).flatMap be4 = (l.take m).flatMap be4 ++ be4 (el l m) := flat_succ l m (by omega)
      have hlen : ((l.take m).flatMap be4).length = 4 * m := by rw [flat_be4_length, List.length_take]; omega
      refine WP.skip ?_
      refine WP.seq ?_
      refine WP.block ?_
      refine WP.rgD (by kernel_rfl) hG ?_
      refine Ch.pu gdN (by exact ⟨rfl, trivial⟩) (OpS.move) (by first | exact trivial | exact ⟨rfl, trivial⟩) rfl ?_
      refine Ch.pu gdN (by exact ⟨rfl, trivial⟩) (OpS.move) (by first | exact trivial | exact ⟨rfl, trivial⟩) rfl ?_
      refine Ch.pu gdN (by exact ⟨rfl, trivial⟩) (OpS.move) (by first | exact trivial | exact ⟨rfl, trivial⟩) rfl ?_
      refine Ch.pu gdN (by exact ⟨rfl, rfl, trivial⟩) (OpS.indexM rfl rfl rfl (by first | with_reducible exact Int.toNat_natCast _ | with_reducible exact tnLit _ _ | with_reducible exact tnLitA _ _ | with_reducible exact tnL _ | with_reducible exact tnA _ _ | with_reducible exact tnM _ _ | with_reducible exact tnMA _ _ _ | exact rfl) (by omega) (by omega) (by first | rfl | (simp; done) | omega)) (by first | exact trivial | exact ⟨rfl, trivial⟩) rfl ?_
      refine Ch.pu gdN (by exact ⟨rfl, trivial⟩) (OpS.loadS rfl rfl) (by first | exact trivial | exact ⟨rfl, trivial⟩) rfl ?_
      refine Ch.pu gdN (by exact ⟨rfl, rfl, trivial⟩) (OpS.shr_u32 (by first | decide | omega) (by first | rfl | omega)) (by first | exact trivial | exact ⟨rfl, trivial⟩) rfl ?_
      refine Ch.pu gdN (by exact ⟨rfl, trivial⟩) (OpS.conv rfl rfl (by first | exact cv_u32_u8 _ | exact cv_u64_u8 _ | exact cv_i64_u8 _ | exact cv_u8_u32 _ | exact cv_u8_u64 _ | exact cv_u32_u64 _ | exact cv_u64_u32 _ | exact cv_u8_u8 _ | exact cv_u32_u32 _ | exact cv_u64_u64 _ | exact wr64 (by omega) | exact cv_u64_nat _ | exact cv_u32_nat _ | exact cv_u8_nat _ | exact rfl)) (by first | exact trivial | exact ⟨rfl, trivial⟩) rfl ?_
      refine Ch.pu gdN (by exact ⟨rfl, trivial⟩) (OpS.move) (by first | exact trivial | exact ⟨rfl, trivial⟩) rfl ?_
      refine Ch.pu gdN (by exact ⟨rfl, trivial⟩) (OpS.move) (by first | exact trivial | exact ⟨rfl, trivial⟩) rfl ?_
      refine Ch.pu gdN (by exact ⟨rfl, rfl, trivial⟩) (OpS.indexM rfl rfl rfl (by first | with_reducible exact Int.toNat_natCast _ | with_reducible exact tnLit _ _ | with_reducible exact tnLitA _ _ | with_reducible exact tnL _ | with_reducible exact tnA _ _ | with_reducible exact tnM _ _ | with_reducible exact tnMA _ _ _ | exact rfl) (by omega) (by omega) (by first | rfl | (simp; done) | omega)) (by first | exact trivial | exact ⟨rfl, trivial⟩) rfl ?_
      refine Ch.pu gdN (by exact ⟨rfl, trivial⟩) (OpS.loadS rfl rfl) (by first | exact trivial | exact ⟨rfl, trivial⟩) rfl ?_
      refine Ch.pu gdN (by exact ⟨rfl, rfl, trivial⟩) (OpS.shr_u32 (by first | decide | omega) (by first | rfl | omega)) (by first | exact trivial | exact ⟨rfl, trivial⟩) rfl ?_
      refine Ch.pu gdN (by exact ⟨rfl, trivial⟩) (OpS.conv rfl rfl (by first | exact cv_u32_u8 _ | exact cv_u64_u8 _ | exact cv_i64_u8 _ | exact cv_u8_u32 _ | exact cv_u8_u64 _ | exact cv_u32_u64 _ | exact cv_u64_u32 _ | exact cv_u8_u8 _ | exact cv_u32_u32 _ | exact cv_u64_u64 _ | exact wr64 (by omega) | exact cv_u64_nat _ | exact cv_u32_nat _ | exact cv_u8_nat _ | exact rfl)) (by first | exact trivial | exact ⟨rfl, trivial⟩) rfl ?_
      refine Ch.pu gdN (by exact ⟨rfl, trivial⟩) (OpS.move) (by first | exact trivial | exact ⟨rfl, trivial⟩) rfl ?_
      refine Ch.pu gdN (by exact ⟨rfl, trivial⟩) (OpS.move) (by first | exact trivial | exact ⟨rfl, trivial⟩) rfl ?_
      refine Ch.pu gdN (by exact ⟨rfl, rfl, trivial⟩) (OpS.indexM rfl rfl rfl (by first | with_reducible exact Int.toNat_natCast _ | with_reducible exact tnLit _ _ | with_reducible exact tnLitA _ _ | with_reducible exact tnL _ | with_reducible exact tnA _ _ | with_reducible exact tnM _ _ | with_reducible exact tnMA _ _ _ | exact rfl) (by omega) (by omega) (by first | rfl | (simp; done) | omega)) (by first | exact trivial | exact ⟨rfl, trivial⟩) rfl ?_
      refine Ch.pu gdN (by exact ⟨rfl, trivial⟩) (OpS.loadS rfl rfl) (by first | exact trivial | exact ⟨rfl, trivial⟩) rfl ?_
      refine Ch.pu gdN (by exact ⟨rfl, rfl, trivial⟩) (OpS.shr_u32 (by first | decide | omega) (by first | rfl | omega)) (by first | exact trivial | exact ⟨rfl, trivial⟩) rfl ?_
      refine Ch.pu gdN (by exact ⟨rfl, trivial⟩) (OpS.conv rfl rfl (by first | exact cv_u32_u8 _ | exact cv_u64_u8 _ | exact cv_i64_u8 _ | exact cv_u8_u32 _ | exact cv_u8_u64 _ | exact cv_u32_u64 _ | exact cv_u64_u32 _ | exact cv_u8_u8 _ | exact cv_u32_u32 _ | exact cv_u64_u64 _ | exact wr64 (by omega) | exact cv_u64_nat _ | exact cv_u32_nat _ | exact cv_u8_nat _ | exact rfl)) (by first | exact trivial | exact ⟨rfl, trivial⟩) rfl ?_
      refine Ch.pu gdN (by exact ⟨rfl, trivial⟩) (OpS.move) (by first | exact trivial | exact ⟨rfl, trivial⟩) rfl ?_
      refine Ch.pu gdN (by exact ⟨rfl, trivial⟩) (OpS.move) (by first | exact trivial | exact ⟨rfl, trivial⟩) rfl ?_
      refine Ch.pu gdN (by exact ⟨rfl, rfl, trivial⟩) (OpS.indexM rfl rfl rfl (by first | with_reducible exact Int.toNat_natCast _ | with_reducible exact tnLit _ _ | with_reducible exact tnLitA _ _ | with_reducible exact tnL _ | with_reducible exact tnA _ _ | with_reducible exact tnM _ _ | with_reducible exact tnMA _ _ _ | exact rfl) (by omega) (by omega) (by first | rfl | (simp; done) | omega)) (by first | exact trivial | exact ⟨rfl, trivial⟩) rfl ?_
      refine Ch.pu gdN (by exact ⟨rfl, trivial⟩) (OpS.loadS rfl rfl) (by first | exact trivial | exact ⟨rfl, trivial⟩) rfl ?_
      refine Ch.pu gdN (by exact ⟨rfl, trivial⟩) (OpS.conv rfl rfl (by first | exact cv_u32_u8 _ | exact cv_u64_u8 _ | exact cv_i64_u8 _ | exact cv_u8_u32 _ | exact cv_u8_u64 _ | exact cv_u32_u64 _ | exact cv_u64_u32 _ | exact cv_u8_u8 _ | exact cv_u32_u32 _ | exact cv_u64_u64 _ | exact wr64 (by omega) | exact cv_u64_nat _ | exact cv_u32_nat _ | exact cv_u8_nat _ | exact rfl)) (by first | exact trivial | exact ⟨rfl, trivial⟩) rfl ?_
      refine Ch.pup gdN (by repeat (first | exact EvP.nil | (apply EvP.cons; exact rfl))) (OpS.slice1 rfl rfl rfl rfl rfl rfl (by rfl) rfl (by rfl)) rfl ?_
      refine Ch.al gdN (by exact ⟨rfl, rfl, trivial⟩) (OpS.append (sz := 1) (bb := 1) 1 rfl rfl rfl rfl rfl (by decide) (SrcA.sl rfl (by simp)) (by first | (simp; done) | (simp; assumption)) (by simp) (by unfold maxLen; omega) rfl (by omega)) (by first | exact trivial | exact ⟨rfl, trivial⟩) (by first | exact trivial | exact ⟨rfl, trivial⟩ | exact ⟨rfl, rfl, trivial⟩) rfl ?_
      refine Ch.pu gdN (by exact ⟨rfl, trivial⟩) (OpS.assign) (by first | exact trivial | exact ⟨rfl, trivial⟩) rfl ?_
      refine Ch.nilD ?_ (by kernel_rfl)
      refine WP.rg hG ?_
      refine Ch.pu gdN (by exact ⟨rfl, trivial⟩) (OpS.move) (by first | exact trivial | exact ⟨rfl, trivial⟩) rfl ?_
      refine Ch.pu gdN (by exact ⟨rfl, rfl, trivial⟩) (OpS.int rfl (by first | exact wr64 (by omega) | exact rfl)) (by first | exact trivial | exact ⟨rfl, trivial⟩) rfl ?_
      refine Ch.pu gdN (by exact ⟨rfl, trivial⟩) (OpS.assign) (by first | exact trivial | exact ⟨rfl, trivial⟩) rfl ?_
      refine Ch.nil ?_
      refine ⟨k - 1, _, by omega, (Ent.of [1] ?_ ?_ ?_ ?_).se, m + 1, by omega, rfl⟩
      · exact (fun i hi => by rw [hnA] at hi; simp only [List.length_cons, List.length_nil] at hi ⊢; first | exact absurd hi (Nat.not_lt_zero _) | (revert i; decide))
      · (repeat (first | exact trivial | (refine And.intro ⟨(by first | trivial | (simp; first | done | fail) | exact ⟨trivial, hbel _⟩), _, rfl, (by first | exact .rfl _ | exact .nil | exact .of_eq (by simp [hc, be4]; first | done | fail) | exact AV.wk.sh (by simp [hc, be4]; first | done | fail) | exact .untip _ _ _)⟩ ?_)))
      · (repeat (first | exact trivial | (refine And.intro ⟨rfl, (by first | trivial | (simp; first | done | fail) | exact ⟨trivial, hbel _⟩), (by first | rfl | (simp [hc, be4]; first | done | fail))⟩ ?_)))
      · simp [rn]
    · intro ht
      have ht' := of_decide_eq_false ht
      obtain rfl : m = l.length := by omega
      refine WP.exit ?_
      refine WP.rs hG ?_
      refine Ch.pu gdN (by exact ⟨rfl, trivial⟩) (OpS.move) (by first | exact trivial | exact ⟨rfl, trivial⟩) rfl ?_
      refine Ch.pu gdN (by exact ⟨rfl, trivial⟩) (OpS.b2s rfl rfl rfl (by first | rfl | (simp; done) | omega)) (by first | exact trivial | exact ⟨rfl, trivial⟩) rfl ?_
      refine Ch.pu gdN (by exact ⟨rfl, trivial⟩) (OpS.assign) (by first | exact trivial | exact ⟨rfl, trivial⟩) rfl ?_
      refine Ch.nil ?_
      exact WP.ret (Ret.one rfl (by rw [List.take_length]; exact .rfl _) trivial hnA)
end Go.Proofs.YtmmoadhjlgbmhaaDoor.E
end
section
/- The walks of the document's own answer for layer 1: First, Pad. -/
namespace Go.Proofs.YtmmoadhjlgbmhaaDoor.V
open Go Go.RowKit
attribute [local go_sem] B_size B_append B_extract mk_B B_toList take_drop_len List.length_drop List.length_take sgn32 sgn64 add32 sub32 mul32 add64 sub64 mul64 mul64_8 and32 or32 xor32 and64 or64 xor64 shl32_run shr32_run shl64_run shr64_run not32 not32' xor32_all w_u32_u8 w_u64_u8 w_i64_u8 w_u8_u32 w_u8_u64 w_u32_u64 w_u64_u32 w_u8_u8 w_u32_u32 w_u64_u64
attribute [local go_sem ↓] run_index_B' add32 sub32 mul32 add64 sub64 mul64 mul64_8 and32 or32 xor32 and64 or64 xor64 shl32_run shr32_run shl64_run shr64_run not32 not32' xor32_all w_u32_u8 w_u64_u8 w_i64_u8 w_u8_u32 w_u8_u64 w_u32_u64 w_u64_u32 w_u8_u8 w_u32_u32 w_u64_u64 w_u64_nat w_u32_nat w_u8_nat

/-- the document's first state, as it lies in memory -/
def RF (w : World) : Prop := ∃ T, w.heap[2]? = some (.cells first.cells T (0, 0))
theorem RF.fr {S : List Nat} {w w' : World} (h : RF w) (hf : Fr S w w') (h2 : 2 ∉ S) : RF w' := by
  obtain ⟨T, h⟩ := h
  exact ⟨T, by rw [hf.block _ (Array.getElem?_eq_some_iff.1 h).1 h2]; exact h⟩

set_option maxHeartbeats 1000000 in
set_option maxRecDepth 100000 in
theorem rfirst_ok (w : World) (h : RF w) :
    Calls Tryd.prog 60 #[] w fun e w' => e = .returned (.string (B first.text)) ∧ Fr [] w w' := by
  obtain ⟨T, hf⟩ := h
  have hR : RWords w 0 (.slice (some ⟨2, 0, none⟩) 8 8) first.words :=
    ⟨_, 8, rfl, fun i hi => ⟨_, 0, rfl, Nat.zero_le _, (Array.getElem?_eq_some_iff.1 hf).1, by rw [Nat.zero_add]; exact cell_at hf (cells_get first i hi)⟩⟩
  have HR := Lib.hid hR
  clear hf hR
  go_enter Tryd.func60, Tryd.ntmps60
  go_wp2_with fail
  refine (text_ok 0 _ first.words _ (by decide) HR.out).mono ?_
  rintro e w1 ⟨rfl, hf1⟩
  have HF1 := Lib.hid hf1
  clear hf1
  go_wp2
  go_ret
  exact ⟨rfl, HF1.out⟩

theorem slice2 {w : World} {base : Nat} {v : Value} {l : List UInt8} (h : obytes w base v l) : ∃ g L cap, v = .slice g L cap ∧ L = l.length := by
  obtain ⟨g, cap, hv⟩ := h.slice
  exact ⟨g, _, cap, hv, rfl⟩
/-- a number's eight bytes, the highest first -/
def be8 (b : UInt64) (n : Nat) : List UInt8 := (List.range n).map fun j => (shr64 b (8 * (7 - j))).toUInt8
theorem be8_succ (b : UInt64) (n : Nat) : be8 b (n + 1) = be8 b n ++ [(shr64 b (8 * (7 - n))).toUInt8] := by simp [be8, List.range_succ]
theorem be8_all (n : Nat) : be8 (8 * UInt64.ofNat n) 8 = be4 (UInt64.toUInt32 (shr64 (8 * UInt64.ofNat n) 32)) ++ be4 (8 * UInt32.ofNat n) := by
  have h : be8 (8 * UInt64.ofNat n) 8 = [(shr64 (8 * UInt64.ofNat n) 56).toUInt8, (shr64 (8 * UInt64.ofNat n) 48).toUInt8, (shr64 (8 * UInt64.ofNat n) 40).toUInt8, (shr64 (8 * UInt64.ofNat n) 32).toUInt8, (shr64 (8 * UInt64.ofNat n) 24).toUInt8, (shr64 (8 * UInt64.ofNat n) 16).toUInt8, (shr64 (8 * UInt64.ofNat n) 8).toUInt8, (shr64 (8 * UInt64.ofNat n) 0).toUInt8] := rfl
  rw [h]
  simp only [be4, List.cons_append, List.nil_append, List.cons.injEq, and_true]
  refine ⟨?_, ?_, ?_, ?_, ?_, ?_, ?_, ?_⟩ <;> (apply UInt8.toNat_inj.1; simp [shr32, shr64] <;> omega)

end Go.Proofs.YtmmoadhjlgbmhaaDoor.V
end
section
/- The document's own answer for layer 1, by abstract steps: words, First, Pad. -/
namespace Go.Proofs.YtmmoadhjlgbmhaaDoor.E
open Go Go.RowKit Go.Proofs.YtmmoadhjlgbmhaaDoor.V
attribute [local go_sem] B_size B_append B_extract mk_B B_toList take_drop_len List.length_drop List.length_take sgn32 sgn64 add32 sub32 mul32 add64 sub64 mul64 mul64_8 and32 or32 xor32 and64 or64 xor64 shl32_run shr32_run shl64_run shr64_run not32 not32' xor32_all w_u32_u8 w_u64_u8 w_i64_u8 w_u8_u32 w_u8_u64 w_u32_u64 w_u64_u32 w_u8_u8 w_u32_u32 w_u64_u64
attribute [local go_sem ↓] run_index_B' add32 sub32 mul32 add64 sub64 mul64 mul64_8 and32 or32 xor32 and64 or64 xor64 shl32_run shr32_run shl64_run shr64_run not32 not32' xor32_all w_u32_u8 w_u64_u8 w_i64_u8 w_u8_u32 w_u8_u64 w_u32_u64 w_u64_u32 w_u8_u8 w_u32_u32 w_u64_u64 w_u64_nat w_u32_nat w_u8_nat

theorem word_at (s : List UInt8) (m : Nat) : shl32 (nth s (4 * m)).toUInt32 24 ||| shl32 (nth s (4 * m + 1)).toUInt32 16 ||| shl32 (nth s (4 * m + 2)).toUInt32 8 ||| (nth s (4 * m + 3)).toUInt32 = wordOf (s.drop (4 * m)) := by
  unfold wordOf
  rw [nth_drop, nth_drop, nth_drop, nth_drop]
  rfl
theorem words_fc {G : List (Nat × Array Value)} (s : List UInt8) (N : Nat) (hs : s.length = 4 * N) (hN : N ≤ 1000) :
    FC Tryd.prog G 70 [sA s] [] (.sl (some 0) N ((wordsOf s N).map wA)) [some (.tip 67 1 N)] := by
  refine FC.of_wp [2] Tryd.func70 rfl rfl rfl rfl (by first | trivial | (simp; first | done | fail) | exact ⟨trivial, hbel _⟩) (by first | trivial | (simp; first | done | fail) | exact ⟨trivial, hbel _⟩) (by exact Nat.le_of_ble_eq_true rfl) ?_
  intro A hG hnA hAB
  unfold start
  refine WP.rs hG ?_
  refine Ch.pu gdN (by exact ⟨rfl, trivial⟩) (OpS.assign) (by first | exact trivial | exact ⟨rfl, trivial⟩) rfl ?_
  refine Ch.nil ?_
  refine WP.rs hG ?_
  refine Ch.al gdN (by exact ⟨rfl, trivial⟩) (OpS.assignTip 0 67 1) (by first | exact trivial | exact ⟨rfl, trivial⟩) (by first | exact trivial | exact ⟨rfl, trivial⟩ | exact ⟨rfl, rfl, trivial⟩) rfl ?_
  refine Ch.nil ?_
  refine WP.seq ?_
  refine WP.rs hG ?_
  refine Ch.pu gdN (by exact ⟨rfl, trivial⟩) (OpS.assign) (by first | exact trivial | exact ⟨rfl, trivial⟩) rfl ?_
  refine Ch.nil ?_
  refine WP.block ?_
  refine WP.loop (fun k σ => ∃ m ii : Nat, (ii = 4 * m ∧ m + k = N) ∧ σ = ⟨41, ls [(0, sA s), (3, .sl (some 0) m ((wordsOf s m).map wA)), (4, .v (.int .i64 (ii : Int)))], lh [(0, .tip 67 1 m)], blt 1⟩) (N) (Ent.of [] ?_ ?_ ?_ ?_).se ⟨0, 0, by omega, rfl⟩ ?_
  · exact (fun i hi => by rw [hnA] at hi; simp only [List.length_cons, List.length_nil] at hi ⊢; first | exact absurd hi (Nat.not_lt_zero _) | (revert i; decide))
  · (repeat (first | exact trivial | (refine And.intro ⟨(by first | trivial | (simp; first | done | fail) | exact ⟨trivial, hbel _⟩), _, rfl, (by first | exact .rfl _ | exact .nil | exact .of_eq (by simp; first | done | fail) | exact AV.wk.sh (by simp; first | done | fail) | exact .untip _ _ _)⟩ ?_)))
  · (repeat (first | exact trivial | (refine And.intro ⟨rfl, (by first | trivial | (simp; first | done | fail) | exact ⟨trivial, hbel _⟩), (by first | rfl | (simp; first | done | fail))⟩ ?_)))
  · simp [rn]
  · rintro k σ ⟨m, ii, ⟨hi, hm⟩, rfl⟩
    have hc := wordsOf_succ s m
    have hw := word_at s m
    rw [← hi] at hw
    have hl := wordsOf_length s m
    refine WP.seq ?_
    refine WP.rs hG ?_
    refine Ch.pu gdN (by exact ⟨rfl, trivial⟩) (OpS.move) (by first | exact trivial | exact ⟨rfl, trivial⟩) rfl ?_
    refine Ch.pu gdN (by exact ⟨rfl, rfl, trivial⟩) (OpS.int rfl (by first | exact wr64 (by omega) | exact rfl)) (by first | exact trivial | exact ⟨rfl, trivial⟩) rfl ?_
    refine Ch.pu gdN (by exact ⟨rfl, trivial⟩) (OpS.move) (by first | exact trivial | exact ⟨rfl, trivial⟩) rfl ?_
    refine Ch.pu gdN (by exact ⟨rfl, trivial⟩) (OpS.lenS rfl) (by first | exact trivial | exact ⟨rfl, trivial⟩) rfl ?_
    refine Ch.pu gdN (by exact ⟨rfl, rfl, trivial⟩) (OpS.int rfl (by first | exact wr64 (by omega) | exact rfl)) (by first | exact trivial | exact ⟨rfl, trivial⟩) rfl ?_
    refine Ch.nil ?_
    refine WP.cond rfl ?_ ?_
    · intro ht
      have ht' := of_decide_eq_true ht
      refine WP.skip ?_
      refine WP.seq ?_
      refine WP.block ?_
      refine WP.rgD (by kernel_rfl) hG ?_
      refine Ch.pu gdN (by exact ⟨rfl, trivial⟩) (OpS.move) (by first | exact trivial | exact ⟨rfl, trivial⟩) rfl ?_
      refine Ch.pu gdN (by exact ⟨rfl, trivial⟩) (OpS.move) (by first | exact trivial | exact ⟨rfl, trivial⟩) rfl ?_
      refine Ch.pu gdN (by exact ⟨rfl, trivial⟩) (OpS.move) (by first | exact trivial | exact ⟨rfl, trivial⟩) rfl ?_
      refine Ch.pu gdN (by exact ⟨rfl, rfl, trivial⟩) (OpS.indexS rfl (by first | with_reducible exact Int.toNat_natCast _ | with_reducible exact tnLit _ _ | with_reducible exact tnLitA _ _ | with_reducible exact tnL _ | with_reducible exact tnA _ _ | with_reducible exact tnM _ _ | with_reducible exact tnMA _ _ _ | exact rfl) (by omega) (by omega)) (by first | exact trivial | exact ⟨rfl, trivial⟩) rfl ?_
      refine Ch.pu gdN (by exact ⟨rfl, trivial⟩) (OpS.conv rfl rfl (by first | exact cv_u32_u8 _ | exact cv_u64_u8 _ | exact cv_i64_u8 _ | exact cv_u8_u32 _ | exact cv_u8_u64 _ | exact cv_u32_u64 _ | exact cv_u64_u32 _ | exact cv_u8_u8 _ | exact cv_u32_u32 _ | exact cv_u64_u64 _ | exact wr64 (by omega) | exact cv_u64_nat _ | exact cv_u32_nat _ | exact cv_u8_nat _ | exact rfl)) (by first | exact trivial | exact ⟨rfl, trivial⟩) rfl ?_
      refine Ch.pu gdN (by exact ⟨rfl, rfl, trivial⟩) (OpS.shl_u32 (by first | decide | omega) (by first | rfl | omega)) (by first | exact trivial | exact ⟨rfl, trivial⟩) rfl ?_
      refine Ch.pu gdN (by exact ⟨rfl, trivial⟩) (OpS.move) (by first | exact trivial | exact ⟨rfl, trivial⟩) rfl ?_
      refine Ch.pu gdN (by exact ⟨rfl, trivial⟩) (OpS.move) (by first | exact trivial | exact ⟨rfl, trivial⟩) rfl ?_
      refine Ch.pu gdN (by exact ⟨rfl, rfl, trivial⟩) (OpS.int rfl (by first | exact wr64 (by omega) | exact rfl)) (by first | exact trivial | exact ⟨rfl, trivial⟩) rfl ?_
      refine Ch.pu gdN (by exact ⟨rfl, rfl, trivial⟩) (OpS.indexS rfl (by first | with_reducible exact Int.toNat_natCast _ | with_reducible exact tnLit _ _ | with_reducible exact tnLitA _ _ | with_reducible exact tnL _ | with_reducible exact tnA _ _ | with_reducible exact tnM _ _ | with_reducible exact tnMA _ _ _ | exact rfl) (by omega) (by omega)) (by first | exact trivial | exact ⟨rfl, trivial⟩) rfl ?_
      refine Ch.pu gdN (by exact ⟨rfl, trivial⟩) (OpS.conv rfl rfl (by first | exact cv_u32_u8 _ | exact cv_u64_u8 _ | exact cv_i64_u8 _ | exact cv_u8_u32 _ | exact cv_u8_u64 _ | exact cv_u32_u64 _ | exact cv_u64_u32 _ | exact cv_u8_u8 _ | exact cv_u32_u32 _ | exact cv_u64_u64 _ | exact wr64 (by omega) | exact cv_u64_nat _ | exact cv_u32_nat _ | exact cv_u8_nat _ | exact rfl)) (by first | exact trivial | exact ⟨rfl, trivial⟩) rfl ?_
      refine Ch.pu gdN (by exact ⟨rfl, rfl, trivial⟩) (OpS.shl_u32 (by first | decide | omega) (by first | rfl | omega)) (by first | exact trivial | exact ⟨rfl, trivial⟩) rfl ?_
      refine Ch.pu gdN (by exact ⟨rfl, rfl, trivial⟩) (OpS.or_u32) (by first | exact trivial | exact ⟨rfl, trivial⟩) rfl ?_
      refine Ch.pu gdN (by exact ⟨rfl, trivial⟩) (OpS.move) (by first | exact trivial | exact ⟨rfl, trivial⟩) rfl ?_
      refine Ch.pu gdN (by exact ⟨rfl, trivial⟩) (OpS.move) (by first | exact trivial | exact ⟨rfl, trivial⟩) rfl ?_
      refine Ch.pu gdN (by exact ⟨rfl, rfl, trivial⟩) (OpS.int rfl (by first | exact wr64 (by omega) | exact rfl)) (by first | exact trivial | exact ⟨rfl, trivial⟩) rfl ?_
      refine Ch.pu gdN (by exact ⟨rfl, rfl, trivial⟩) (OpS.indexS rfl (by first | with_reducible exact Int.toNat_natCast _ | with_reducible exact tnLit _ _ | with_reducible exact tnLitA _ _ | with_reducible exact tnL _ | with_reducible exact tnA _ _ | with_reducible exact tnM _ _ | with_reducible exact tnMA _ _ _ | exact rfl) (by omega) (by omega)) (by first | exact trivial | exact ⟨rfl, trivial⟩) rfl ?_
      refine Ch.pu gdN (by exact ⟨rfl, trivial⟩) (OpS.conv rfl rfl (by first | exact cv_u32_u8 _ | exact cv_u64_u8 _ | exact cv_i64_u8 _ | exact cv_u8_u32 _ | exact cv_u8_u64 _ | exact cv_u32_u64 _ | exact cv_u64_u32 _ | exact cv_u8_u8 _ | exact cv_u32_u32 _ | exact cv_u64_u64 _ | exact wr64 (by omega) | exact cv_u64_nat _ | exact cv_u32_nat _ | exact cv_u8_nat _ | exact rfl)) (by first | exact trivial | exact ⟨rfl, trivial⟩) rfl ?_
      refine Ch.pu gdN (by exact ⟨rfl, rfl, trivial⟩) (OpS.shl_u32 (by first | decide | omega) (by first | rfl | omega)) (by first | exact trivial | exact ⟨rfl, trivial⟩) rfl ?_
      refine Ch.pu gdN (by exact ⟨rfl, rfl, trivial⟩) (OpS.or_u32) (by first | exact trivial | exact ⟨rfl, trivial⟩) rfl ?_
      refine Ch.pu gdN (by exact ⟨rfl, trivial⟩) (OpS.move) (by first | exact trivial | exact ⟨rfl, trivial⟩) rfl ?_
      refine Ch.pu gdN (by exact ⟨rfl, trivial⟩) (OpS.move) (by first | exact trivial | exact ⟨rfl, trivial⟩) rfl ?_
      refine Ch.pu gdN (by exact ⟨rfl, rfl, trivial⟩) (OpS.int rfl (by first | exact wr64 (by omega) | exact rfl)) (by first | exact trivial | exact ⟨rfl, trivial⟩) rfl ?_
      refine Ch.pu gdN (by exact ⟨rfl, rfl, trivial⟩) (OpS.indexS rfl (by first | with_reducible exact Int.toNat_natCast _ | with_reducible exact tnLit _ _ | with_reducible exact tnLitA _ _ | with_reducible exact tnL _ | with_reducible exact tnA _ _ | with_reducible exact tnM _ _ | with_reducible exact tnMA _ _ _ | exact rfl) (by omega) (by omega)) (by first | exact trivial | exact ⟨rfl, trivial⟩) rfl ?_
      refine Ch.pu gdN (by exact ⟨rfl, trivial⟩) (OpS.conv rfl rfl (by first | exact cv_u32_u8 _ | exact cv_u64_u8 _ | exact cv_i64_u8 _ | exact cv_u8_u32 _ | exact cv_u8_u64 _ | exact cv_u32_u64 _ | exact cv_u64_u32 _ | exact cv_u8_u8 _ | exact cv_u32_u32 _ | exact cv_u64_u64 _ | exact wr64 (by omega) | exact cv_u64_nat _ | exact cv_u32_nat _ | exact cv_u8_nat _ | exact rfl)) (by first | exact trivial | exact ⟨rfl, trivial⟩) rfl ?_
      refine Ch.pu gdN (by exact ⟨rfl, rfl, trivial⟩) (OpS.or_u32) (by first | exact trivial | exact ⟨rfl, trivial⟩) rfl ?_
      refine Ch.pup gdN (by repeat (first | exact EvP.nil | (apply EvP.cons; exact rfl))) (OpS.slice1 rfl rfl rfl rfl rfl rfl (by rfl) rfl (by rfl)) rfl ?_
      refine Ch.al gdN (by exact ⟨rfl, rfl, trivial⟩) (OpS.append (sz := 1) (bb := 4) 1 rfl rfl rfl rfl rfl (by decide) (SrcA.sl rfl (by simp)) (by first | (simp; done) | (simp; assumption)) (by simp) (by unfold maxLen; omega) rfl (by omega)) (by first | exact trivial | exact ⟨rfl, trivial⟩) (by first | exact trivial | exact ⟨rfl, trivial⟩ | exact ⟨rfl, rfl, trivial⟩) rfl ?_
      refine Ch.pu gdN (by exact ⟨rfl, trivial⟩) (OpS.assign) (by first | exact trivial | exact ⟨rfl, trivial⟩) rfl ?_
      refine Ch.nilD ?_ (by kernel_rfl)
      refine WP.rg hG ?_
      refine Ch.pu gdN (by exact ⟨rfl, trivial⟩) (OpS.move) (by first | exact trivial | exact ⟨rfl, trivial⟩) rfl ?_
      refine Ch.pu gdN (by exact ⟨rfl, rfl, trivial⟩) (OpS.int rfl (by first | exact wr64 (by omega) | exact rfl)) (by first | exact trivial | exact ⟨rfl, trivial⟩) rfl ?_
      refine Ch.pu gdN (by exact ⟨rfl, trivial⟩) (OpS.assign) (by first | exact trivial | exact ⟨rfl, trivial⟩) rfl ?_
      refine Ch.nil ?_
      refine ⟨k - 1, _, by omega, (Ent.of [1] ?_ ?_ ?_ ?_).se, m + 1, ii + 4, by omega, rfl⟩
      · exact (fun i hi => by rw [hnA] at hi; simp only [List.length_cons, List.length_nil] at hi ⊢; first | exact absurd hi (Nat.not_lt_zero _) | (revert i; decide))
      · (repeat (first | exact trivial | (refine And.intro ⟨(by first | trivial | (simp; first | done | fail) | exact ⟨trivial, hbel _⟩), _, rfl, (by first | exact .rfl _ | exact .nil | exact .of_eq (by simp [hc, ← hw, ← hi]; first | done | fail) | exact AV.wk.sh (by simp [hc, ← hw, ← hi]; first | done | fail) | exact .untip _ _ _)⟩ ?_)))
      · (repeat (first | exact trivial | (refine And.intro ⟨rfl, (by first | trivial | (simp; first | done | fail) | exact ⟨trivial, hbel _⟩), (by first | rfl | (simp [hc, ← hw, ← hi]; first | done | fail))⟩ ?_)))
      · simp [rn]
    · intro ht
      have ht' := of_decide_eq_false ht
      refine WP.exit ?_
      refine WP.rs hG ?_
      refine Ch.pu gdN (by exact ⟨rfl, trivial⟩) (OpS.move) (by first | exact trivial | exact ⟨rfl, trivial⟩) rfl ?_
      refine Ch.pu gdN (by exact ⟨rfl, trivial⟩) (OpS.assign) (by first | exact trivial | exact ⟨rfl, trivial⟩) rfl ?_
      refine Ch.nil ?_
      obtain rfl : m = N := by omega
      exact WP.ret (Ret.row 0 rfl (by first | exact .rfl _ | exact .nil | exact .of_eq (by simp; first | done | fail) | exact AV.wk.sh (by simp; first | done | fail) | exact .untip _ _ _) (by first | trivial | (simp; first | done | fail) | exact ⟨trivial, hbel _⟩) rfl trivial hnA)
theorem wordsA_fc {G : List (Nat × Array Value)} (s : List UInt8) (N : Nat) (hs : s.length = 4 * N) (hN : N ≤ 1000) (h0 : 0 < N) :
    FC Tryd.prog G 70 [sA s] [] (.arr 0 0 N) [some (.cells 67 ((wordsOf s N).map wA))] :=
  (words_fc s N hs hN).thaw (by simp [wordsOf_length]) (by omega) (by intro x hx; simp at hx; obtain ⟨y, _, rfl⟩ := hx; exact ⟨_, rfl⟩)
theorem wordsS_fc {G : List (Nat × Array Value)} (s : List UInt8) (N : Nat) (hs : s.length = 4 * N) (hN : N ≤ 1000) :
    FC Tryd.prog G 70 [sA s] [] (.sl none N ((wordsOf s N).map wA)) [] :=
  (words_fc s N hs hN).shut (belL_w _ _) (renL_w _ _)
def kArr : Array Value := (kTab.map fun x => .int .u32 (U32 x)).toArray
theorem first_fc {G : List (Nat × Array Value)} (hm : (2, first.cells) ∈ G) : FC Tryd.prog G 60 [] [] (sA first.text) [] :=
  FC.of_calls Tryd.func60 rfl rfl trivial fun A vs hG HS hsz _ => by
    obtain ⟨T, hT⟩ := tab_of HS hG (g := 2) (arr := first.cells) hm
    obtain rfl := Array.eq_empty_of_size_eq_zero hsz
    exact rfirst_ok A.w ⟨T, hT⟩
end Go.Proofs.YtmmoadhjlgbmhaaDoor.E
end
