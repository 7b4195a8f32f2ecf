/- The walks of the document's own answer for layer 1: rot, words, text. -/
import Derived.Test.YtmifllopcbjliaaDoorRow
import Derived.Test.YtmifllopcbjliaaDoorTake
namespace Go.Proofs.YtmifllopcbjliaaDoor.V
open Go Go.RowKit
attribute [local go_sem] B_size B_append B_extract mk_B B_toList take_drop_len List.length_drop List.length_take sgn32 sgn64 add32 sub32 mul32 add64 sub64 mul64 mul64_8 and32 or32 xor32 and64 or64 xor64 shl32_run shr32_run shl64_run shr64_run not32 not32' xor32_all w_u32_u8 w_u64_u8 w_i64_u8 w_u8_u32 w_u8_u64 w_u32_u64 w_u64_u32 w_u8_u8 w_u32_u32 w_u64_u64
attribute [local go_sem ↓] run_index_B' add32 sub32 mul32 add64 sub64 mul64 mul64_8 and32 or32 xor32 and64 or64 xor64 shl32_run shr32_run shl64_run shr64_run not32 not32' xor32_all w_u32_u8 w_u64_u8 w_i64_u8 w_u8_u32 w_u8_u64 w_u32_u64 w_u64_u32 w_u8_u8 w_u32_u32 w_u64_u64 w_u64_nat w_u32_nat w_u8_nat

set_option maxHeartbeats 1000000 in
set_option maxRecDepth 100000 in
theorem rot_ok (x : UInt32) (n : Nat) (w : World) (h0 : 0 < n) (h1 : n < 32) :
    Calls Tryd.prog 63 #[.int .u32 (U32 x), .int .i64 n] w fun e w' => e = .returned (.int .u32 (U32 (ror x n))) ∧ ∃ m, w' = w.drewN m := by
  have hn0 : (0 : Int) ≤ (n : Int) := by omega
  have hn1 : (0 : Int) ≤ 32 - (n : Int) := by omega
  have ew : IntKind.i64.wrap (32 - (n : Int)) = 32 - (n : Int) := by rw [IntKind.wrap_i64]; omega
  have et : (32 - (n : Int)).toNat = 32 - n := by omega
  have hr : shr32 x n ||| shl32 x (32 - n) = ror x n := by unfold ror; exact UInt32.or_comm _ _
  have hm : U32 x * 2 ^ (32 - n) % 4294967296 = U32 (shl32 x (32 - n)) := by rw [shl32, u32_ofNat]; unfold U32; rw [Int.natCast_emod, Int.natCast_mul, Int.natCast_pow]; rfl
  go_enter Tryd.func63, Tryd.ntmps63
  go_wp2
  go_quiet (fail)
  go_wp2
  go_ret
  exact ⟨by rw [← hr]; rfl, _, rfl⟩

def wordsOf (s : List UInt8) (n : Nat) : List UInt32 := (List.range n).map fun j => wordOf (s.drop (4 * j))
theorem wordsOf_length (s : List UInt8) (n : Nat) : (wordsOf s n).length = n := by simp [wordsOf]
theorem wordsOf_succ (s : List UInt8) (n : Nat) : wordsOf s (n + 1) = wordsOf s n ++ [wordOf (s.drop (4 * n))] := by simp [wordsOf, List.range_succ]
theorem nth_drop (l : List UInt8) (a b : Nat) : nth (l.drop a) b = nth l (a + b) := by simp [nth]

set_option maxHeartbeats 300000 in
set_option maxRecDepth 100000 in
theorem words_ok (s : List UInt8) (N : Nat) (w : World) (hs : s.length = 4 * N) (hN : N ≤ 1000) :
    Calls Tryd.prog 62 #[.string (B s)] w fun e w' => ∃ v, e = .returned v ∧ owords w' w.heap.size v (wordsOf s N) ∧ Fr [] w w' := by
  go_enter Tryd.func62, Tryd.ntmps62
  go_wp2
  go_loopg [3, 4] N (fun k o i wr => ∃ (n ii : Nat), i = .int .i64 (ii : Int) ∧ Hid (ii = 4 * n ∧ n + k = N) ∧ Hid (owords wr w.heap.size o (wordsOf s n)) ∧ Hid (Fr [] w wr))
  case atStart => exact ⟨0, 0, rfl, ⟨rfl, by omega⟩, (show _ from owords_nil _ _), (show _ from Fr.refl _ _)⟩
  case round =>
    obtain ⟨n, ii, rfl, HN, H1, H2⟩ := hrel
    have h0n : (0 : Int) ≤ (ii : Int) := by omega
    have hii := HN.out
    have ew : IntKind.i64.wrap ((ii : Int) + 4) = (ii : Int) + 4 := by rw [IntKind.wrap_i64]; omega
    by_cases hk : gk = 0
    · subst hk
      have e1 : ¬ ((ii : Int) + 4 ≤ (s.length : Int)) := by omega
      have e2 : n = N := by omega
      have E2 := Lib.hid e2
      clear e2 hii hs
      go_wp2
      go_ret
      exact ⟨_, rfl, by have := H1.out; rw [E2.out] at this; exact this, H2.out⟩
    · have e1 : (ii : Int) + 4 ≤ (s.length : Int) := by omega
      have i0 : (ii : Int) < (s.length : Int) := by omega
      have i1 : (ii : Int) + 1 < (s.length : Int) := by omega
      have i2 : (ii : Int) + 2 < (s.length : Int) := by omega
      have i3 : (ii : Int) + 3 < (s.length : Int) := by omega
      have j1 : (0 : Int) ≤ (ii : Int) + 1 := by omega
      have j2 : (0 : Int) ≤ (ii : Int) + 2 := by omega
      have j3 : (0 : Int) ≤ (ii : Int) + 3 := by omega
      have w1 : IntKind.i64.wrap ((ii : Int) + 1) = (ii : Int) + 1 := by rw [IntKind.wrap_i64]; omega
      have w2 : IntKind.i64.wrap ((ii : Int) + 2) = (ii : Int) + 2 := by rw [IntKind.wrap_i64]; omega
      have w3 : IntKind.i64.wrap ((ii : Int) + 3) = (ii : Int) + 3 := by rw [IntKind.wrap_i64]; omega
      have t1 : ((ii : Int) + 1).toNat = ii + 1 := by omega
      have t2 : ((ii : Int) + 2).toNat = ii + 2 := by omega
      have t3 : ((ii : Int) + 3).toNat = ii + 3 := by omega
      have hx : shl32 (nth s ii).toUInt32 24 ||| shl32 (nth s (ii + 1)).toUInt32 16 ||| shl32 (nth s (ii + 2)).toUInt32 8 ||| (nth s (ii + 3)).toUInt32 = wordOf (s.drop (4 * n)) := by
        unfold wordOf
        rw [nth_drop, nth_drop, nth_drop, nth_drop, hii.1]
        rfl
      generalize hX : wordOf (s.drop (4 * n)) = x at *
      have HX := Lib.hid hX
      have hown2 : owords ((wr.alloc (.cells #[.int .u32 (U32 x)] 47)).drew) w.heap.size u3 (wordsOf s n) := H1.out.kept (S := []) ((Fr.refl [] wr).alloc _).drew (by simp)
      have hsrc2 : Src Tryd.prog 1 73 (.slice (some ⟨wr.heap.size, 0, none⟩) 1 1) 1 (wvs [x]) ((wr.alloc (.cells #[.int .u32 (U32 x)] 47)).drew) :=
        Src.new' wr 73 47 Tryd.underlying73 #[_] _ (wvs_one [x])
      have hb2 : (wordsOf s n).length + [x].length ≤ 8796093022208 := by rw [wordsOf_length]; simp; omega
      have hbase2 : w.heap.size ≤ ((wr.alloc (.cells #[.int .u32 (U32 x)] 47)).drew).heap.size := by have := H2.out.size; simp; omega
      have HO := Lib.hid hown2
      have HSr := Lib.hid hsrc2
      have HBs := Lib.hid hbase2
      have HBb := Lib.hid hb2
      clear hown2 hsrc2 hbase2 hb2 hii hX hs
      go_wp2
      refine region_take 26 (by kernel_rfl) (by kernel_rfl) ?_; simp only [List.take_succ_cons, List.take_zero, List.drop_succ_cons, List.drop_zero]; (repeat ((refine wpTake_step (v := ?_) (by rfl) (fun q => ?_) ?_); rotate_left; focus (go_simp; with_reducible rfl))); try refine wpTake_nil ?_
      go_wp2_with (at_builtin; refine wpList_ap_words rfl _ _ _ rfl w.heap.size u3 (wordsOf s n) rfl HO.out _ [x] 1 rfl HSr.out HBb.out HBs.out ?_)
      intro v1 q1 h1 hg1 ho1
      have H1' := Lib.hid h1
      have H2' : Hid (Fr [] w q1) := (((H2.out.alloc _).drew).trans' (Fr.of_grown hg1) (fun _ h => .inl h) (fun x hx => .inr (H1.out.lt x (by simpa using hx)).1))
      clear h1 hg1 ho1 HO HSr HBs HBb
      go_wp2
      refine NoPanic.normal ?_
      go_wp2
      go_roundg (gk - 1)
      case rel =>
        refine ⟨n + 1, ii + 4, rfl, ⟨by have := HN.out; omega, by have := HN.out; omega⟩, (show owords _ _ _ _ from ?_), H2'⟩
        rw [wordsOf_succ, HX.out]
        exact H1'.out
      case measure => omega

theorem flat_succ (l : List UInt32) (n : Nat) (h : n < l.length) : (l.take (n + 1)).flatMap be4 = (l.take n).flatMap be4 ++ be4 (lget l n) := by
  rw [List.take_succ_eq_append_getElem h, List.flatMap_append]
  simp [lget, h]

set_option maxHeartbeats 1000000 in
set_option maxRecDepth 100000 in
theorem text_ok (base0 : Nat) (v : Value) (l : List UInt32) (w : World) (hl : l.length ≤ 1000) (hS : RWords w base0 v l) :
    Calls Tryd.prog 61 #[v] w fun e w' => e = .returned (.string (B (l.flatMap be4))) ∧ Fr [] w w' := by
  obtain ⟨a, cap, rfl, hc⟩ := hS
  have hpl : (l.length : Int) ≤ 1000 := by omega
  have hp0 : (0 : Int) ≤ (l.length : Int) := by omega
  have HC := Lib.hid hc
  have HL := Lib.hid hl
  clear hc hl
  go_enter Tryd.func61, Tryd.ntmps61
  go_wp2
  go_loopg [3, 4] l.length (fun k o i wr => ∃ (n : Nat), i = .int .i64 (n : Int) ∧ Hid (n + k = l.length) ∧ Hid (obytes wr w.heap.size o ((l.take n).flatMap be4)) ∧ Hid (Fr [] w wr))
  case atStart => exact ⟨0, rfl, (show _ = _ from by omega), (show _ from obytes_nil _ _), (show _ from Fr.refl _ _)⟩
  case round =>
    obtain ⟨n, rfl, HN, H1, H2⟩ := hrel
    have h0n : (0 : Int) ≤ (n : Int) := by omega
    by_cases hk : gk = 0
    · subst hk
      have e1 : (l.length : Int) ≤ (n : Int) := by have := HN.out; omega
      have e2 : l.take n = l := List.take_of_length_le (by omega)
      have E2 := Lib.hid e2
      clear e2
      have hcv := H1.out.text
      go_wp2
      go_ret
      exact ⟨by rw [E2.out]; rfl, H2.out⟩
    · have e1 : (n : Int) < (l.length : Int) := by have := HN.out; omega
      obtain ⟨b, off, rfl, -, hb, hx⟩ := HC.out n (by omega)
      have hx' : wr.cell? ⟨b, off + n, none⟩ = some (.int .u32 (U32 (lget l n))) := by rw [H2.out.cell hb (by simp)]; exact hx
      have hxn := World.new_ne wr _ hx'
      have ew : IntKind.i64.wrap ((n : Int) + 1) = (n : Int) + 1 := by rw [IntKind.wrap_i64]; omega
      have hwr := H2.out.size
      have HNe : some b ≠ u3.ownBlock := by intro h; have h3 := (H1.out.lt _ h.symm).1; omega
      generalize hX : lget l n = x at *
      have HX := Lib.hid hX
      have HBlt : b < ((wr.alloc (.cells (bvs (be4 x)).toArray 5)).drew).heap.size := by simp; omega
      have hall : ((wr.alloc (.cells (bvs (be4 x)).toArray 5)).drew).cell? ⟨b, off + n, none⟩ = some (.int .u32 (U32 x)) := by
        rw [(((Fr.refl [] wr).alloc (.cells (bvs (be4 x)).toArray 5)).drew).cell (by omega) (by simp)]
        exact hx'
      have HO : Hid (obytes ((wr.alloc (.cells (bvs (be4 x)).toArray 5)).drew) w.heap.size u3 ((l.take n).flatMap be4)) := H1.out.kept (S := []) ((Fr.refl [] wr).alloc _).drew (by simp)
      have HSr : Hid (Src Tryd.prog 1 46 (.slice (some ⟨wr.heap.size, 0, none⟩) 4 4) 4 (bvs (be4 x)) ((wr.alloc (.cells (bvs (be4 x)).toArray 5)).drew)) :=
        Src.new' wr 46 5 Tryd.underlying46 (bvs (be4 x)).toArray _ (bvs_one (be4 x))
      have HBb : Hid (((l.take n).flatMap be4).length + (be4 x).length ≤ 140737488355328) := by
        show _ ≤ _
        rw [flat_be4_length, List.length_take]
        have := HL.out
        simp [be4]
        omega
      have HBs : Hid (w.heap.size ≤ ((wr.alloc (.cells (bvs (be4 x)).toArray 5)).drew).heap.size) := by show _ ≤ _; simp; omega
      clear hx hb hX
      go_wp2
      go_region_held3 (fun w' => w'.cell? ⟨b, off + n, none⟩ = some (.int .u32 (U32 x))) (first | go_keep | (exact (World.cell?_of_block (hg1.block b HBlt HNe)).trans hall))
        ((refine step_ap_bytes (by rfl) _ _ _ (by rfl) w.heap.size u3 ((l.take n).flatMap be4) (by rfl) HO.out _ (be4 x) 4 (by rfl) HSr.out HBb.out HBs.out ?_; intro v1 w1 h1 hg1 ho1))
      have H1' := Lib.hid h1
      have H2' : Hid (Fr [] w w1) := (((H2.out.alloc _).drew).trans' (Fr.of_grown hg1) (fun _ h => .inl h) (fun x hx => .inr (H1.out.lt x (by simpa using hx)).1))
      clear h1 hg1 ho1 HO HSr HBs HBb hall HBlt
      go_wp2
      go_roundg (gk - 1)
      case rel =>
        refine ⟨n + 1, rfl, (show _ = _ from by have := HN.out; omega), (show obytes _ _ _ _ from ?_), H2'⟩
        rw [flat_succ l n (by have := HN.out; omega), HX.out]
        exact H1'.out
      case measure => omega
end Go.Proofs.YtmifllopcbjliaaDoor.V
