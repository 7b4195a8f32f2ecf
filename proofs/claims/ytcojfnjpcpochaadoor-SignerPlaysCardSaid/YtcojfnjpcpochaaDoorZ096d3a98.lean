import Derived.Test.YtcojfnjpcpochaaDoorZbb7870ae
import Derived.Test.YtcojfnjpcpochaaDoorZ4f50a267
section
namespace Go.Proofs.YtcojfnjpcpochaaDoor.E
open Go Go.RowKit Go.Proofs.YtcojfnjpcpochaaDoor.V
attribute [local go_sem] B_size B_append B_extract mk_B B_toList take_drop_len List.length_drop List.length_take sgn32 sgn64 add32 sub32 mul32 add64 sub64 mul64 mul64_8 and32 or32 xor32 and64 or64 xor64 shl32_run shr32_run shl64_run shr64_run not32 not32' xor32_all w_u32_u8 w_u64_u8 w_i64_u8 w_u8_u32 w_u8_u64 w_u32_u64 w_u64_u32 w_u8_u8 w_u32_u32 w_u64_u64
attribute [local go_sem ↓] run_index_B' add32 sub32 mul32 add64 sub64 mul64 mul64_8 and32 or32 xor32 and64 or64 xor64 shl32_run shr32_run shl64_run shr64_run not32 not32' xor32_all w_u32_u8 w_u64_u8 w_i64_u8 w_u8_u32 w_u8_u64 w_u32_u64 w_u64_u32 w_u8_u8 w_u32_u32 w_u64_u64 w_u64_nat w_u32_nat w_u8_nat
set_option maxRecDepth 4000
theorem rowN_cells (x : UInt64) (many : Nat) : (((rowN x many many).map bA).drop 0).take many = (beS x many).map bA := by
  rw [rowN_all, List.drop_zero, List.take_of_length_le (by simp [beS_length])]
theorem rowN_start (x : UInt64) (many : Nat) : List.replicate many (.v (.int .u8 0) : AV) = (rowN x many 0).map bA := by
  rw [rowN_0, List.map_replicate]
  rfl
theorem setA (l : List UInt8) (i : Nat) (b : UInt8) : (l.map bA).set i (.v (.int .u8 (U8 b))) = (l.set i b).map bA := by
  rw [List.map_set]
  rfl
theorem number_fc {G : List (Nat × Array Value)} (x : UInt64) (many : Nat) (h8 : many ≤ 8) :
    FC Tryd.prog G 58 [.v (.int .u64 (U64 x)), .v (.int .i64 (many : Int))] [] (sA (beS x many)) [] := by
  have hx := x.toNat_lt
  refine FC.of_wp [4] Tryd.func58 rfl rfl rfl rfl (by first | trivial | (simp; first | done | fail) | exact ⟨trivial, hbel _⟩) (by first | trivial | (simp; first | done | fail) | exact ⟨trivial, hbel _⟩) (by exact Nat.le_of_ble_eq_true rfl) ?_
  intro A hG hnA hAB
  unfold start
  refine WP.rs hG ?_
  refine Ch.asg rfl rfl ?_
  refine Ch.nil ?_
  refine WP.rs hG ?_
  refine Ch.mv rfl rfl ?_
  refine Ch.al gdN (by exact ⟨rfl, rfl, trivial⟩) (OpS.makeB (n := many) (bb := 1) 0 rfl rfl rfl rfl rfl rfl rfl rfl (by omega) (by unfold maxLen; omega)) (by first | exact trivial | exact ⟨rfl, trivial⟩) (by first | exact trivial | exact ⟨rfl, trivial⟩ | exact ⟨rfl, rfl, trivial⟩) rfl ?_
  refine Ch.asg rfl rfl ?_
  refine Ch.nil ?_
  refine WP.seq ?_
  refine WP.rs hG ?_
  refine Ch.mv rfl rfl ?_
  refine Ch.pu gdN (by exact ⟨rfl, rfl, trivial⟩) (OpS.int rfl (by first | exact wr64 (by omega) | exact rfl)) trivial rfl ?_
  refine Ch.asg rfl rfl ?_
  refine Ch.nil ?_
  refine WP.block ?_
  refine WP.loop (fun k σ => ∃ (m y : Nat) (i : Int), (m + k = many ∧ i = (many : Int) - 1 - m ∧ y = x.toNat / 256 ^ m) ∧ σ = ⟨25, ls [(0, .v (.int .u64 (y : Int))), (5, .arr 0 0 many), (6, .v (.int .i64 i))], lh [(0, .cells 5 ((rowN x many m).map bA))], blt 1⟩) (many) (Ent.of [] ?_ ?_ ?_ ?_).se ⟨0, x.toNat, (many : Int) - 1, ⟨by omega, by omega, by simp⟩, rfl⟩ ?_
  · exact (fun i hi => by rw [hnA] at hi; simp only [List.length_cons, List.length_nil] at hi ⊢; first | exact absurd hi (Nat.not_lt_zero _) | (revert i; decide))
  · (repeat (first | exact trivial | (refine And.intro ⟨(by first | trivial | (simp; first | done | fail) | exact ⟨trivial, hbel _⟩), _, rfl, (by first | exact .rfl _ | exact .nil | exact .of_eq (by simp [rowN_start x]; first | done | fail) | exact AV.wk.sh (by simp [rowN_start x]; first | done | fail) | exact .untip _ _ _)⟩ ?_)))
  · (repeat (first | exact trivial | (refine And.intro ⟨rfl, (by first | trivial | (simp; first | done | fail) | exact ⟨trivial, hbel _⟩), (by first | rfl | (simp [rowN_start x]; first | done | fail))⟩ ?_)))
  · simp [rn]
  · rintro k σ ⟨m, y, i, ⟨hm, hi, hy⟩, rfl⟩
    have hy2 : y ≤ x.toNat := by rw [hy]; exact Nat.div_le_self _ _
    have hrl := rowN_length x many m (by omega)
    refine WP.seq ?_
    refine WP.rs hG ?_
    refine Ch.mv rfl rfl ?_
    refine Ch.pu gdN (by exact ⟨rfl, rfl, trivial⟩) (OpS.int rfl (by first | exact wr64 (by omega) | exact rfl)) trivial rfl ?_
    refine Ch.nil ?_
    refine WP.cond rfl ?_ ?_
    · intro ht
      have ht' := of_decide_eq_true ht
      have hrs := rowN_set x many m (by omega)
      have hit : i.toNat = many - 1 - m := by omega
      rw [← hy, ← hit] at hrs
      refine WP.skip ?_
      refine WP.seq ?_
      refine WP.block ?_
      refine WP.rs hG ?_
      refine Ch.mv rfl rfl ?_
      refine Ch.mv rfl rfl ?_
      refine Ch.mv rfl rfl ?_
      refine Ch.pu gdN (by exact ⟨rfl, rfl, trivial⟩) (OpS.rem (by omega) (by omega)) trivial rfl ?_
      refine Ch.pu gdN (by exact ⟨rfl, trivial⟩) (OpS.conv (k := .u8) rfl rfl (cv_mod y)) trivial rfl ?_
      refine Ch.pu gdN (by exact ⟨rfl, rfl, trivial⟩) (OpS.indexAddrA (sz := 1) rfl rfl rfl (by omega) (by omega)) (by first | exact trivial | exact ⟨rfl, trivial⟩) rfl ?_
      refine Ch.wr gdN (by exact ⟨rfl, rfl, trivial⟩) (OpS.storeP (cs := (rowN x many m).map bA) rfl rfl rfl (by rw [List.length_map, hrl]; omega)) (by first | exact trivial | exact ⟨rfl, trivial⟩) (by first | exact trivial | exact ⟨rfl, trivial⟩ | exact ⟨rfl, rfl, trivial⟩) ?_
      refine Ch.nil ?_
      refine WP.rg hG ?_
      refine Ch.mv rfl rfl ?_
      refine Ch.pu gdN (by exact ⟨rfl, rfl, trivial⟩) (OpS.quoU (by omega) (by omega) (by omega)) (by first | exact trivial | exact ⟨rfl, trivial⟩) rfl ?_
      refine Ch.asg rfl rfl ?_
      refine Ch.nil ?_
      refine WP.rg hG ?_
      refine Ch.mv rfl rfl ?_
      refine Ch.pu gdN (by exact ⟨rfl, rfl, trivial⟩) (OpS.int rfl (by first | exact wr64 (by omega) | exact rfl)) trivial rfl ?_
      refine Ch.asg rfl rfl ?_
      refine Ch.nil ?_
      refine ⟨k - 1, _, by omega, (Ent.of [0] ?_ ?_ ?_ ?_).se, m + 1, y / 256, i - 1, ⟨by omega, by omega, by rw [hy, Nat.pow_succ, ← Nat.div_div_eq_div_mul]⟩, rfl⟩
      · exact (fun i hi => by rw [hnA] at hi; simp only [List.length_cons, List.length_nil] at hi ⊢; first | exact absurd hi (Nat.not_lt_zero _) | (revert i; decide))
      · (repeat (first | exact trivial | (refine And.intro ⟨(by first | trivial | (simp; first | done | fail) | exact ⟨trivial, hbel _⟩), _, rfl, (by first | exact .rfl _ | exact .nil | exact .of_eq (by simp [setA, hrs]; first | done | fail) | exact AV.wk.sh (by simp [setA, hrs]; first | done | fail) | exact .untip _ _ _)⟩ ?_)))
      · (repeat (first | exact trivial | (refine And.intro ⟨rfl, (by first | trivial | (simp; first | done | fail) | exact ⟨trivial, hbel _⟩), (by first | rfl | (simp [setA, hrs]; first | done | fail))⟩ ?_)))
      · simp [rn]
    · intro ht
      have ht' := of_decide_eq_false ht
      obtain rfl : m = many := by omega
      refine WP.exit ?_
      refine WP.rs hG ?_
      refine Ch.mv rfl rfl ?_
      refine Ch.pu gdN (by exact ⟨rfl, trivial⟩) (OpS.b2sA (l := beS x m) rfl rfl rfl (beS_length x m).symm (rowN_cells x m)) (by first | exact trivial | exact ⟨rfl, trivial⟩) rfl ?_
      refine Ch.asg rfl rfl ?_
      refine Ch.nil ?_
      refine WP.ret (Ret.one rfl (by first | exact .rfl _ | exact .nil | exact .of_eq (by simp; first | done | fail) | exact AV.wk.sh (by simp; first | done | fail) | exact .untip _ _ _) (by first | trivial | simp [AV.bel]) hnA)
abbrev rwH (l : List UInt8) : List (Option AO) := [some (.cells 88 [sA l])]
theorem rnewWriter_fc {G : List (Nat × Array Value)} : FC Tryd.prog G 29 [] [] (.ptr 0 0) (rwH []) := by
  refine FC.of_wp [0] Tryd.func29 rfl rfl rfl rfl (by first | trivial | (simp; first | done | fail) | exact ⟨trivial, hbel _⟩) (by first | trivial | (simp; first | done | fail) | exact ⟨trivial, hbel _⟩) (by exact Nat.le_of_ble_eq_true rfl) ?_
  intro A hG hnA hAB
  unfold start
  refine WP.rs hG ?_
  refine Ch.asg rfl rfl ?_
  refine Ch.nil ?_
  refine WP.rs hG ?_
  refine Ch.pup gdN (by repeat (first | exact EvP.nil | (apply EvP.cons; exact rfl))) (OpS.build (cs := [sA []]) rfl rfl rfl rfl rfl (by rfl)) rfl ?_
  refine Ch.al gdN (by exact ⟨rfl, trivial⟩) (OpS.box 0 rfl) (by first | exact trivial | exact ⟨rfl, trivial⟩) (by first | exact trivial | exact ⟨rfl, trivial⟩ | exact ⟨rfl, rfl, trivial⟩) rfl ?_
  refine Ch.asg rfl rfl ?_
  refine Ch.nil ?_
  refine WP.ret ?_
  refine (Ret.of (rs := [0]) (vs := [.ptr 0 0]) (H' := rwH []) (res := .ptr 0 0) [0] ?_ ?_ rfl ?_ (by simp only [List.length_cons, List.length_nil]; decide) ?_).1
  · exact (fun i hi => by rw [hnA] at hi; simp only [List.length_cons, List.length_nil] at hi ⊢; first | exact absurd hi (Nat.not_lt_zero _) | (revert i; decide))
  · (repeat (first | exact trivial | (refine And.intro ⟨(by first | trivial | (simp; first | done | fail) | exact ⟨trivial, hbel _⟩), _, rfl, (by first | exact .rfl _ | exact .nil | exact .of_eq (by simp; first | done | fail) | exact AV.wk.sh (by simp; first | done | fail) | exact .untip _ _ _)⟩ ?_)))
  · (repeat (first | exact trivial | refine HFromL.skip ?_ | (refine And.intro ⟨(by first | trivial | (simp; first | done | fail) | exact ⟨trivial, hbel _⟩), (by first | rfl | (simp; first | done | fail))⟩ ?_)))
  · rfl
theorem rwNum_fc {G : List (Nat × Array Value)} (l : List UInt8) (x : UInt64) (hl : l.length ≤ 70368744177664) :
    FC Tryd.prog G 30 [.ptr 0 0, .v (.int .u64 (U64 x))] (rwH l) (.tup []) (rwH (l ++ beS x 8)) := by
  have hbl := beS_length x 8
  refine FC.of_wp [] Tryd.func30 rfl rfl rfl rfl ⟨rfl, trivial, trivial⟩ ⟨⟨trivial, trivial⟩, trivial⟩ (by exact Nat.le_of_ble_eq_true rfl) ?_
  intro A hG hnA hAB
  unfold start
  refine WP.rgD (by kernel_rfl) hG ?_
  refine Ch.mv rfl rfl ?_
  refine Ch.mv rfl rfl ?_
  refine Ch.pu gdN (by exact ⟨rfl, trivial⟩) (OpS.nilCheckP) trivial rfl ?_
  refine Ch.pu gdN (by exact ⟨rfl, trivial⟩) (OpS.fieldAddr rfl rfl rfl rfl) trivial rfl ?_
  refine Ch.pu gdN (by exact ⟨rfl, trivial⟩) (OpS.loadP rfl rfl rfl) ⟨rfl, trivial⟩ rfl ?_
  refine Ch.mv rfl rfl ?_
  refine Ch.callP (number_fc x 8 (by decide)) gdN (by repeat (first | exact EvL.nil | (apply EvL.cons; exact rfl))) (by exact (And.intro (by first | exact .rfl _ | exact .untip _ _ _ | exact .nil | exact .func _ | exact AV.wk.sh (renL_s _ _) | exact AV.wk.sh (by simp; first | done | fail)) (And.intro (by first | exact .rfl _ | exact .untip _ _ _ | exact .nil | exact .func _ | exact AV.wk.sh (renL_s _ _) | exact AV.wk.sh (by simp; first | done | fail)) trivial))) (by rfl) rfl ?_
  refine Ch.pu gdN (by exact ⟨rfl, rfl, trivial⟩) (OpS.strAdd (by omega)) trivial rfl ?_
  refine Ch.pu gdN (by exact ⟨rfl, trivial⟩) (OpS.nilCheckP) trivial rfl ?_
  refine Ch.pu gdN (by exact ⟨rfl, trivial⟩) (OpS.fieldAddr rfl rfl rfl rfl) trivial rfl ?_
  refine Ch.wr gdN (by exact ⟨rfl, rfl, trivial⟩) (OpS.storeP (cs := [sA l]) rfl rfl rfl (by simp)) (by first | exact trivial | exact ⟨rfl, trivial⟩) (by first | exact trivial | exact ⟨rfl, trivial⟩ | exact ⟨rfl, rfl, trivial⟩) ?_
  refine Ch.nilD ?_ (by kernel_rfl)
  refine (Ret.of (rs := []) (vs := []) (H' := rwH (l ++ beS x 8)) (res := .tup []) [0] ?_ ?_ rfl ?_ (by simp only [List.length_cons, List.length_nil]; decide) ?_).2
  · exact (fun i hi => by rw [hnA] at hi; simp only [List.length_cons, List.length_nil] at hi ⊢; first | exact absurd hi (Nat.not_lt_zero _) | (revert i; decide))
  · (repeat (first | exact trivial | (refine And.intro ⟨(by first | trivial | (simp; first | done | fail) | exact ⟨trivial, hbel _⟩), _, rfl, (by first | exact .rfl _ | exact .nil | exact .of_eq (by simp; first | done | fail) | exact AV.wk.sh (by simp; first | done | fail) | exact .untip _ _ _)⟩ ?_)))
  · (repeat (first | exact trivial | refine HFromL.skip ?_ | (refine And.intro ⟨(by first | trivial | (simp; first | done | fail) | exact ⟨trivial, hbel _⟩), (by first | rfl | (simp; first | done | fail))⟩ ?_)))
  · exact ⟨_, rfl, rfl, by simp [ls, TsOk, List.zip, List.zipWith]⟩
theorem rwBytes_fc {G : List (Nat × Array Value)} (l : List UInt8) : FC Tryd.prog G 34 [.ptr 0 0] (rwH l) (sA l) (rwH l) := by
  refine FC.of_wp [2] Tryd.func34 rfl rfl rfl rfl ⟨rfl, trivial⟩ ⟨⟨trivial, trivial⟩, trivial⟩ (by exact Nat.le_of_ble_eq_true rfl) ?_
  intro A hG hnA hAB
  unfold start
  refine WP.rs hG ?_
  refine Ch.asg rfl rfl ?_
  refine Ch.nil ?_
  refine WP.rs hG ?_
  refine Ch.mv rfl rfl ?_
  refine Ch.pu gdN (by exact ⟨rfl, trivial⟩) (OpS.nilCheckP) trivial rfl ?_
  refine Ch.pu gdN (by exact ⟨rfl, trivial⟩) (OpS.fieldAddr rfl rfl rfl rfl) trivial rfl ?_
  refine Ch.pu gdN (by exact ⟨rfl, trivial⟩) (OpS.loadP rfl rfl rfl) ⟨rfl, trivial⟩ rfl ?_
  refine Ch.asg rfl rfl ?_
  refine Ch.nil ?_
  refine WP.ret ?_
  refine (Ret.of (rs := [2]) (vs := [sA l]) (H' := rwH l) (res := sA l) [0] ?_ ?_ rfl ?_ (by simp only [List.length_cons, List.length_nil]; decide) ?_).1
  · exact (fun i hi => by rw [hnA] at hi; simp only [List.length_cons, List.length_nil] at hi ⊢; first | exact absurd hi (Nat.not_lt_zero _) | (revert i; decide))
  · (repeat (first | exact trivial | (refine And.intro ⟨(by first | trivial | (simp; first | done | fail) | exact ⟨trivial, hbel _⟩), _, rfl, (by first | exact .rfl _ | exact .nil | exact .of_eq (by simp; first | done | fail) | exact AV.wk.sh (by simp; first | done | fail) | exact .untip _ _ _)⟩ ?_)))
  · (repeat (first | exact trivial | refine HFromL.skip ?_ | (refine And.intro ⟨(by first | trivial | (simp; first | done | fail) | exact ⟨trivial, hbel _⟩), (by first | rfl | (simp; first | done | fail))⟩ ?_)))
  · rfl
end Go.Proofs.YtcojfnjpcpochaaDoor.E
end
section
namespace Go.Proofs.YtcojfnjpcpochaaDoor.V
abbrev Txw := List UInt8
def nrm (n : Int) : Nat := if n < 0 ∨ 4294967296 < n then 0 else n.toNat
def laidN (n : Int) : Txw := beS (UInt64.ofNat (nrm n)) 8
theorem laidN_length (n : Int) : (laidN n).length = 8 := beS_length _ _
def hiD (d : Txw) (i : Nat) : Nat := (nth d i).toNat / 16
def loD (d : Txw) (i : Nat) : Nat := (nth d i).toNat % 16
theorem hiD_lt (d : Txw) (i : Nat) : hiD d i < 16 := by unfold hiD; have := (nth d i).toNat_lt; omega
theorem loD_lt (d : Txw) (i : Nat) : loD d i < 16 := by unfold loD; omega
def dgs (d : Txw) : Nat → List Nat
  | 0 => []
  | m + 1 => dgs d m ++ [hiD d m, loD d m]
def lackD (d : Txw) : Nat → Nat
  | 0 => 0
  | m + 1 => lackD d m + (30 - hiD d m - loD d m)
theorem dgs_length (d : Txw) : ∀ m, (dgs d m).length = 2 * m
  | 0 => rfl
  | m + 1 => by simp [dgs, dgs_length d m]; omega
theorem lackD_le (d : Txw) : ∀ m, lackD d m ≤ 30 * m
  | 0 => Nat.le_refl _
  | m + 1 => by have := lackD_le d m; simp only [lackD]; omega
def digitsD (d : Txw) : List Nat := dgs d 4 ++ [lackD d 4 / 16, lackD d 4 % 16]
def digitsT (msg : Txw) : List Nat := digitsD (tag 1 [msg])
theorem digitsT_length (msg : Txw) : (digitsT msg).length = 10 := by simp [digitsT, digitsD, dgs_length]
def nget (l : List Nat) (i : Nat) : Nat := l[i]?.getD 0
theorem digitsD_list (d : Txw) : digitsD d = [hiD d 0, loD d 0, hiD d 1, loD d 1, hiD d 2, loD d 2, hiD d 3, loD d 3, lackD d 4 / 16, lackD d 4 % 16] := rfl
theorem digits_ten (d : Txw) : ∃ a0 a1 a2 a3 a4 a5 a6 a7 a8 a9 : Nat, digitsD d = [a0, a1, a2, a3, a4, a5, a6, a7, a8, a9] ∧ a0 < 16 ∧ a1 < 16 ∧ a2 < 16 ∧ a3 < 16 ∧ a4 < 16 ∧ a5 < 16 ∧ a6 < 16 ∧ a7 < 16 ∧ a8 < 16 ∧ a9 < 16 ∧
    (15 - a0) + (15 - a1) + (15 - a2) + (15 - a3) + (15 - a4) + (15 - a5) + (15 - a6) + (15 - a7) = 16 * a8 + a9 := by
  have h0 := hiD_lt d 0; have h1 := loD_lt d 0; have h2 := hiD_lt d 1; have h3 := loD_lt d 1; have h4 := hiD_lt d 2; have h5 := loD_lt d 2; have h6 := hiD_lt d 3; have h7 := loD_lt d 3
  refine ⟨_, _, _, _, _, _, _, _, _, _, digitsD_list d, h0, h1, h2, h3, h4, h5, h6, h7, ?_, ?_, ?_⟩
  · have := lackD_le d 4; omega
  · omega
  · simp only [lackD]; omega
theorem digits_lt (d : Txw) (i : Nat) : nget (digitsD d) i < 16 := by
  obtain ⟨a0, a1, a2, a3, a4, a5, a6, a7, a8, a9, he, h0, h1, h2, h3, h4, h5, h6, h7, h8, h9, _⟩ := digits_ten d
  rw [he]
  match i with
  | 0 => exact h0
  | 1 => exact h1
  | 2 => exact h2
  | 3 => exact h3
  | 4 => exact h4
  | 5 => exact h5
  | 6 => exact h6
  | 7 => exact h7
  | 8 => exact h8
  | 9 => exact h9
  | _ + 10 => exact (by decide : (0 : Nat) < 16)
def wstep (c a : Int) (v : Txw) : Txw := (tag 2 [laidN c, laidN a, v]).take 16
theorem wstep_length (c a : Int) (v : Txw) : (wstep c a v).length = 16 := by simp [wstep, tag_length]
def walkN (c : Int) : Nat → Int → Txw → Txw
  | 0, _, v => v
  | n + 1, a, v => walkN c n (a + 1) (wstep c a v)
def walkT (c a b : Int) (v : Txw) : Txw := if a < 0 ∨ 15 < b then v else walkN c (b - a).toNat a v
theorem walkN_add (c : Int) : ∀ (m n : Nat) (a : Int) (v : Txw), walkN c (m + n) a v = walkN c n (a + m) (walkN c m a v)
  | 0, n, a, v => by simp [walkN]
  | m + 1, n, a, v => by
    rw [show m + 1 + n = (m + n) + 1 by omega]
    show walkN c (m + n) (a + 1) (wstep c a v) = walkN c n (a + ((m + 1 : Nat) : Int)) (walkN c m (a + 1) (wstep c a v))
    rw [walkN_add c m n]
    congr 1
    omega
theorem walkN_length (c : Int) : ∀ (n : Nat) (a : Int) (v : Txw), v.length = 16 → (walkN c n a v).length = 16
  | 0, _, _, h => h
  | n + 1, a, v, _ => walkN_length c n _ _ (wstep_length c a v)
theorem walkT_length (c a b : Int) (v : Txw) (h : v.length = 16) : (walkT c a b v).length = 16 := by
  unfold walkT
  split
  · exact h
  · exact walkN_length _ _ _ _ h
theorem walk_on (c : Int) (a b e : Nat) (v : Txw) (h1 : a ≤ b) (h2 : b ≤ e) (h3 : e ≤ 15) : walkT c b e (walkT c a b v) = walkT c a e v := by
  unfold walkT
  rw [if_neg (by omega), if_neg (by omega), if_neg (by omega)]
  rw [show ((e : Int) - (a : Int)).toNat = (b - a) + (e - b) by omega, walkN_add, show ((b : Int) - (a : Int)).toNat = b - a by omega, show ((e : Int) - (b : Int)).toNat = e - b by omega]
  congr 1
  omega
def secretT (seed : Txw) (leaf c : Int) : Txw := (tag 3 [seed, laidN leaf, laidN c]).take 16
theorem secretT_length (seed : Txw) (leaf c : Int) : (secretT seed leaf c).length = 16 := by simp [secretT, tag_length]
def joinL (f : Nat → Txw) : Nat → Txw
  | 0 => []
  | n + 1 => joinL f n ++ f n
def endsL (f : Nat → Txw) (n : Nat) : List Txw := (List.range n).map f
theorem endsL_succ (f : Nat → Txw) (n : Nat) : endsL f (n + 1) = endsL f n ++ [f n] := by simp [endsL, List.range_succ]
theorem endsL_length (f : Nat → Txw) (n : Nat) : (endsL f n).length = n := by simp [endsL]
theorem joinL_length (f : Nat → Txw) (h : ∀ c, (f c).length = 16) : ∀ n, (joinL f n).length = 16 * n
  | 0 => rfl
  | n + 1 => by rw [joinL, List.length_append, joinL_length f h n, h]; omega
theorem joinL_piece (f : Nat → Txw) (h : ∀ c, (f c).length = 16) : ∀ (n c : Nat), c < n → ((joinL f n).drop (16 * c)).take 16 = f c
  | n + 1, c, hc => by
    have hl := joinL_length f h n
    rw [joinL]
    by_cases hcn : c = n
    · subst hcn
      rw [List.drop_append_of_le_length (by omega), List.drop_of_length_le (by omega), List.nil_append, List.take_of_length_le (by rw [h]; omega)]
    · rw [List.drop_append_of_le_length (by omega), List.take_append_of_le_length (by rw [List.length_drop]; omega)]
      exact joinL_piece f h n c (by omega)
def pubF (seed : Txw) (leaf : Int) (c : Nat) : Txw := walkT c 0 15 (secretT seed leaf c)
def signF (seed : Txw) (leaf : Int) (d : List Nat) (c : Nat) : Txw := walkT c 0 (nget d c) (secretT seed leaf c)
def fromF (sig : Txw) (d : List Nat) (c : Nat) : Txw := walkT c (nget d c) 15 ((sig.drop (16 * c)).take 16)
def pubT (seed : Txw) (leaf : Int) : Txw := tag 4 (endsL (pubF seed leaf) 10)
def signT (seed : Txw) (leaf : Int) (msg : Txw) : Txw := joinL (signF seed leaf (digitsT msg)) 10
def fromT (sig msg : Txw) : Txw := if sig.length = 160 then tag 4 (endsL (fromF sig (digitsT msg)) 10) else []
theorem signF_length (seed : Txw) (leaf : Int) (d : List Nat) (c : Nat) : (signF seed leaf d c).length = 16 := walkT_length _ _ _ _ (secretT_length _ _ _)
theorem signT_length (seed : Txw) (leaf : Int) (msg : Txw) : (signT seed leaf msg).length = 160 := joinL_length _ (signF_length _ _ _) 10
theorem sign_ends (seed : Txw) (leaf : Int) (msg : Txw) (c : Nat) (hc : c < 10) : fromF (signT seed leaf msg) (digitsT msg) c = pubF seed leaf c := by
  unfold fromF signT
  rw [joinL_piece _ (signF_length _ _ _) 10 c hc]
  unfold signF pubF
  have := digits_lt (tag 1 [msg]) c
  exact walk_on c 0 (nget (digitsT msg) c) 15 _ (Nat.zero_le _) (by show nget (digitsD _) c ≤ 15; omega) (Nat.le_refl _)
theorem sign_back (seed : Txw) (leaf : Int) (msg : Txw) : fromT (signT seed leaf msg) msg = pubT seed leaf := by
  unfold fromT pubT
  rw [if_pos (signT_length _ _ _)]
  congr 1
  unfold endsL
  exact List.map_congr_left fun c hc => sign_ends seed leaf msg c (by simpa using hc)
theorem pubF_length (seed : Txw) (leaf : Int) (c : Nat) : (pubF seed leaf c).length = 16 := walkT_length _ _ _ _ (secretT_length _ _ _)
theorem fromF_length (sig : Txw) (d : List Nat) (c : Nat) (h : sig.length = 160) (hc : c < 10) : (fromF sig d c).length = 16 := walkT_length _ _ _ _ (by rw [List.length_take, List.length_drop]; omega)
end Go.Proofs.YtcojfnjpcpochaaDoor.V
end
section
namespace Go.Proofs.YtcojfnjpcpochaaDoor.E
open Go Go.RowKit Go.Proofs.YtcojfnjpcpochaaDoor.V
attribute [local go_sem] B_size B_append B_extract mk_B B_toList take_drop_len List.length_drop List.length_take sgn32 sgn64 add32 sub32 mul32 add64 sub64 mul64 mul64_8 and32 or32 xor32 and64 or64 xor64 shl32_run shr32_run shl64_run shr64_run not32 not32' xor32_all w_u32_u8 w_u64_u8 w_i64_u8 w_u8_u32 w_u8_u64 w_u32_u64 w_u64_u32 w_u8_u8 w_u32_u32 w_u64_u64
attribute [local go_sem ↓] run_index_B' add32 sub32 mul32 add64 sub64 mul64 mul64_8 and32 or32 xor32 and64 or64 xor64 shl32_run shr32_run shl64_run shr64_run not32 not32' xor32_all w_u32_u8 w_u64_u8 w_i64_u8 w_u8_u32 w_u8_u64 w_u32_u64 w_u64_u32 w_u8_u8 w_u32_u32 w_u64_u64 w_u64_nat w_u32_nat w_u8_nat
set_option maxRecDepth 4000
theorem nrm_cases (n : Int) : n < 0 ∨ (0 ≤ n ∧ 4294967296 < n) ∨ (0 ≤ n ∧ n ≤ 4294967296) := by omega
theorem nrm_0 {n : Int} (h : n < 0 ∨ 4294967296 < n) : nrm n = 0 := if_pos h
theorem nrm_n {n : Int} (h : 0 ≤ n ∧ n ≤ 4294967296) : nrm n = n.toNat := if_neg (by omega)
attribute [local irreducible] sum tag input
theorem laid_fc {G : List (Nat × Array Value)} (n : Int) : FC Tryd.prog G 72 [.v (.int .i64 n)] [] (sA (laidN n)) [] := by
  refine FC.of_wp [2] Tryd.func72 rfl rfl rfl rfl (by first | trivial | (simp; first | done | fail) | exact ⟨trivial, hbel _⟩) (by first | trivial | (simp; first | done | fail) | exact ⟨trivial, hbel _⟩) (by exact Nat.le_of_ble_eq_true rfl) ?_
  intro A hG hnA hAB
  unfold start
  refine WP.rs hG ?_
  refine Ch.asg rfl rfl ?_
  refine Ch.nil ?_
  refine WP.seqJ (fun σ => ∃ m : Nat, m = nrm n ∧ σ = ⟨17, ls [(0, .v (.int .i64 (m : Int)))], lh [], blt 0⟩) ?_ ?_
  · skip
    rcases nrm_cases n with hq | hq | hq
    · have hs := hq
      refine WP.rs hG ?_
      refine Ch.mv rfl rfl ?_
      refine Ch.pu gdN (by exact ⟨rfl, rfl, trivial⟩) (OpS.int (v' := .bool true) rfl (by first | (simp [hs]; done) | (have hs2 := hs; simp; omega) | fail)) trivial rfl ?_
      refine Ch.mv rfl rfl ?_
      refine Ch.skU (gdF rfl rfl rfl) rfl ?_
      refine Ch.skU (gdF rfl rfl rfl) rfl ?_
      refine Ch.pu gdN (by first | exact ⟨rfl, rfl, trivial⟩ | exact ⟨rfl, rfl, rfl, trivial⟩) (OpS.pickT) trivial rfl ?_
      refine Ch.nil ?_
      refine WP.cond_true rfl ?_
      refine WP.rg hG ?_
      refine Ch.asg rfl rfl ?_
      refine Ch.nil ?_
      refine ⟨_, (Ent.of [] ?_ ?_ ?_ ?_).se, 0, (nrm_0 (.inl hs)).symm, rfl⟩
      · exact (fun i hi => by rw [hnA] at hi; simp only [List.length_cons, List.length_nil] at hi ⊢; first | exact absurd hi (Nat.not_lt_zero _) | (revert i; decide))
      · (repeat (first | exact trivial | (refine And.intro ⟨(by first | trivial | (simp; first | done | fail) | exact ⟨trivial, hbel _⟩), _, rfl, (by first | exact .rfl _ | exact .nil | exact .of_eq (by simp; first | done | fail) | exact AV.wk.sh (by simp; first | done | fail) | exact .untip _ _ _)⟩ ?_)))
      · (repeat (first | exact trivial | (refine And.intro ⟨rfl, (by first | trivial | (simp; first | done | fail) | exact ⟨trivial, hbel _⟩), (by first | rfl | (simp; first | done | fail))⟩ ?_)))
      · simp [rn]
    · have hs := hq
      refine WP.rs hG ?_
      refine Ch.mv rfl rfl ?_
      refine Ch.pu gdN (by exact ⟨rfl, rfl, trivial⟩) (OpS.int (v' := .bool false) rfl (by first | (simp [hs]; done) | (have hs2 := hs; simp; omega) | fail)) trivial rfl ?_
      refine Ch.mv rfl rfl ?_
      refine Ch.pu (by exact gdT rfl rfl) (by exact ⟨rfl, trivial⟩) (OpS.move) trivial rfl ?_
      refine Ch.pu (by exact gdT rfl rfl) (by exact ⟨rfl, rfl, trivial⟩) (OpS.int (v' := .bool true) rfl (by first | (simp [hs]; done) | (have hs2 := hs; simp; omega) | fail)) trivial rfl ?_
      refine Ch.pu gdN (by first | exact ⟨rfl, rfl, trivial⟩ | exact ⟨rfl, rfl, rfl, trivial⟩) (OpS.pickF) trivial rfl ?_
      refine Ch.nil ?_
      refine WP.cond_true rfl ?_
      refine WP.rg hG ?_
      refine Ch.asg rfl rfl ?_
      refine Ch.nil ?_
      refine ⟨_, (Ent.of [] ?_ ?_ ?_ ?_).se, 0, (nrm_0 (.inr hs.2)).symm, rfl⟩
      · exact (fun i hi => by rw [hnA] at hi; simp only [List.length_cons, List.length_nil] at hi ⊢; first | exact absurd hi (Nat.not_lt_zero _) | (revert i; decide))
      · (repeat (first | exact trivial | (refine And.intro ⟨(by first | trivial | (simp; first | done | fail) | exact ⟨trivial, hbel _⟩), _, rfl, (by first | exact .rfl _ | exact .nil | exact .of_eq (by simp; first | done | fail) | exact AV.wk.sh (by simp; first | done | fail) | exact .untip _ _ _)⟩ ?_)))
      · (repeat (first | exact trivial | (refine And.intro ⟨rfl, (by first | trivial | (simp; first | done | fail) | exact ⟨trivial, hbel _⟩), (by first | rfl | (simp; first | done | fail))⟩ ?_)))
      · simp [rn]
    · have hs := hq
      obtain ⟨m, rfl⟩ : ∃ m : Nat, n = (m : Int) := ⟨n.toNat, by omega⟩
      refine WP.rs hG ?_
      refine Ch.mv rfl rfl ?_
      refine Ch.pu gdN (by exact ⟨rfl, rfl, trivial⟩) (OpS.int (v' := .bool false) rfl (by first | (simp [hs]; done) | (have hs2 := hs; simp; omega) | fail)) trivial rfl ?_
      refine Ch.mv rfl rfl ?_
      refine Ch.pu (by exact gdT rfl rfl) (by exact ⟨rfl, trivial⟩) (OpS.move) trivial rfl ?_
      refine Ch.pu (by exact gdT rfl rfl) (by exact ⟨rfl, rfl, trivial⟩) (OpS.int (v' := .bool false) rfl (by first | (simp [hs]; done) | (have hs2 := hs; simp; omega) | fail)) trivial rfl ?_
      refine Ch.pu gdN (by first | exact ⟨rfl, rfl, trivial⟩ | exact ⟨rfl, rfl, rfl, trivial⟩) (OpS.pickF) trivial rfl ?_
      refine Ch.nil ?_
      refine WP.cond_false rfl ?_
      refine WP.skip ?_
      refine ⟨_, (Ent.of [] ?_ ?_ ?_ ?_).se, m, by rw [nrm_n hs, Int.toNat_natCast], rfl⟩
      · exact (fun i hi => by rw [hnA] at hi; simp only [List.length_cons, List.length_nil] at hi ⊢; first | exact absurd hi (Nat.not_lt_zero _) | (revert i; decide))
      · (repeat (first | exact trivial | (refine And.intro ⟨(by first | trivial | (simp; first | done | fail) | exact ⟨trivial, hbel _⟩), _, rfl, (by first | exact .rfl _ | exact .nil | exact .of_eq (by simp; first | done | fail) | exact AV.wk.sh (by simp; first | done | fail) | exact .untip _ _ _)⟩ ?_)))
      · (repeat (first | exact trivial | (refine And.intro ⟨rfl, (by first | trivial | (simp; first | done | fail) | exact ⟨trivial, hbel _⟩), (by first | rfl | (simp; first | done | fail))⟩ ?_)))
      · simp [rn]
  · rintro σ ⟨m, hm, rfl⟩
    refine WP.rs hG ?_
    refine Ch.callH (FC.split (newWriter_fc)) [] 0 gdN (by repeat (first | exact EvL.nil | (apply EvL.cons; exact rfl))) (by exact trivial) rfl rfl (by decide) (by decide) (by first | ((conv => lhs; simp only [AV.ren, AV.renL, AO.ren, renL_b, renL_s, renL_w, renL_i, renL_append, ren_b, ren_s, ren_w, ren_i, pi_n, pi_0, pi_s, pi_1, pi_2, pi_3, pi_4, chOld, chNew, nuNew, hpl, Option.map_some, Option.map_none, List.length_cons, List.length_nil, List.take_succ_cons, List.take_zero, List.take_nil, List.drop_succ_cons, List.drop_zero, List.drop_nil, List.cons_append, List.nil_append, Nat.zero_add, Nat.add_zero, Nat.reduceAdd]); all_goals rfl) | rfl) (by first | ((conv => lhs; simp only [AV.ren, AV.renL, AO.ren, renL_b, renL_s, renL_w, renL_i, renL_append, ren_b, ren_s, ren_w, ren_i, pi_n, pi_0, pi_s, pi_1, pi_2, pi_3, pi_4, chOld, chNew, nuNew, hpl, Option.map_some, Option.map_none, List.length_cons, List.length_nil, List.take_succ_cons, List.take_zero, List.take_nil, List.drop_succ_cons, List.drop_zero, List.drop_nil, List.cons_append, List.nil_append, Nat.zero_add, Nat.add_zero, Nat.reduceAdd]); all_goals rfl) | rfl) (by first | ((conv => lhs; simp only [AV.ren, AV.renL, AO.ren, renL_b, renL_s, renL_w, renL_i, renL_append, ren_b, ren_s, ren_w, ren_i, pi_n, pi_0, pi_s, pi_1, pi_2, pi_3, pi_4, chOld, chNew, nuNew, hpl, Option.map_some, Option.map_none, List.length_cons, List.length_nil, List.take_succ_cons, List.take_zero, List.take_nil, List.drop_succ_cons, List.drop_zero, List.drop_nil, List.cons_append, List.nil_append, Nat.zero_add, Nat.add_zero, Nat.reduceAdd]); all_goals rfl) | rfl) (by first | ((conv => lhs; simp only [AV.ren, AV.renL, AO.ren, renL_b, renL_s, renL_w, renL_i, renL_append, ren_b, ren_s, ren_w, ren_i, pi_n, pi_0, pi_s, pi_1, pi_2, pi_3, pi_4, chOld, chNew, nuNew, hpl, Option.map_some, Option.map_none, List.length_cons, List.length_nil, List.take_succ_cons, List.take_zero, List.take_nil, List.drop_succ_cons, List.drop_zero, List.drop_nil, List.cons_append, List.nil_append, Nat.zero_add, Nat.add_zero, Nat.reduceAdd]); all_goals rfl) | rfl) (by first | exact trivial | exact ⟨rfl, trivial⟩ | exact ⟨rfl, rfl, trivial⟩ | exact ⟨rfl, rfl, rfl, trivial⟩ | exact ⟨rfl, rfl, rfl, rfl, trivial⟩) (by first | exact trivial | exact ⟨rfl, trivial⟩ | exact ⟨rfl, rfl, trivial⟩ | exact ⟨rfl, rfl, rfl, trivial⟩ | exact ⟨rfl, rfl, rfl, rfl, trivial⟩) rfl ?_
    refine Ch.asg rfl rfl ?_
    refine Ch.nil ?_
    refine WP.rs hG ?_
    refine Ch.mv rfl rfl ?_
    refine Ch.mv rfl rfl ?_
    refine Ch.pu gdN (by exact ⟨rfl, trivial⟩) (OpS.conv rfl rfl (by first | exact cv_u32_u8 _ | exact cv_u64_u8 _ | exact cv_i64_u8 _ | exact cv_u8_u32 _ | exact cv_u8_u64 _ | exact cv_u32_u64 _ | exact cv_u64_u32 _ | exact cv_u8_u8 _ | exact cv_u32_u32 _ | exact cv_u64_u64 _ | exact wr64 (by omega) | exact cv_u64_nat _ | exact cv_u32_nat _ | exact cv_u8_nat _ | exact rfl)) trivial rfl ?_
    refine Ch.callH (FC.split (wNum_fc [] (UInt64.ofNat m) (by simp))) [0,1] 2 gdN (by repeat (first | exact EvL.nil | (apply EvL.cons; exact rfl))) (by exact (And.intro (by first | exact .rfl _ | exact .untip _ _ _ | exact .nil | exact .func _ | exact AV.wk.sh (renL_s _ _) | exact AV.wk.tip rfl (by first | exact renL_b _ _ | exact renL_s _ _ | exact renL_i _ _ | exact renL_w _ _) | exact AV.wk.sh (by simp; first | done | fail)) (And.intro (by first | exact .rfl _ | exact .untip _ _ _ | exact .nil | exact .func _ | exact AV.wk.sh (renL_s _ _) | exact AV.wk.tip rfl (by first | exact renL_b _ _ | exact renL_s _ _ | exact renL_i _ _ | exact renL_w _ _) | exact AV.wk.sh (by simp; first | done | fail)) trivial))) rfl rfl (by decide) (by decide) (by first | ((conv => lhs; simp only [AV.ren, AV.renL, AO.ren, renL_b, renL_s, renL_w, renL_i, renL_append, ren_b, ren_s, ren_w, ren_i, pi_n, pi_0, pi_s, pi_1, pi_2, pi_3, pi_4, chOld, chNew, nuNew, hpl, Option.map_some, Option.map_none, List.length_cons, List.length_nil, List.take_succ_cons, List.take_zero, List.take_nil, List.drop_succ_cons, List.drop_zero, List.drop_nil, List.cons_append, List.nil_append, Nat.zero_add, Nat.add_zero, Nat.reduceAdd]); all_goals rfl) | rfl) (by first | ((conv => lhs; simp only [AV.ren, AV.renL, AO.ren, renL_b, renL_s, renL_w, renL_i, renL_append, ren_b, ren_s, ren_w, ren_i, pi_n, pi_0, pi_s, pi_1, pi_2, pi_3, pi_4, chOld, chNew, nuNew, hpl, Option.map_some, Option.map_none, List.length_cons, List.length_nil, List.take_succ_cons, List.take_zero, List.take_nil, List.drop_succ_cons, List.drop_zero, List.drop_nil, List.cons_append, List.nil_append, Nat.zero_add, Nat.add_zero, Nat.reduceAdd]); all_goals rfl) | rfl) (by first | ((conv => lhs; simp only [AV.ren, AV.renL, AO.ren, renL_b, renL_s, renL_w, renL_i, renL_append, ren_b, ren_s, ren_w, ren_i, pi_n, pi_0, pi_s, pi_1, pi_2, pi_3, pi_4, chOld, chNew, nuNew, hpl, Option.map_some, Option.map_none, List.length_cons, List.length_nil, List.take_succ_cons, List.take_zero, List.take_nil, List.drop_succ_cons, List.drop_zero, List.drop_nil, List.cons_append, List.nil_append, Nat.zero_add, Nat.add_zero, Nat.reduceAdd]); all_goals rfl) | rfl) (by first | ((conv => lhs; simp only [AV.ren, AV.renL, AO.ren, renL_b, renL_s, renL_w, renL_i, renL_append, ren_b, ren_s, ren_w, ren_i, pi_n, pi_0, pi_s, pi_1, pi_2, pi_3, pi_4, chOld, chNew, nuNew, hpl, Option.map_some, Option.map_none, List.length_cons, List.length_nil, List.take_succ_cons, List.take_zero, List.take_nil, List.drop_succ_cons, List.drop_zero, List.drop_nil, List.cons_append, List.nil_append, Nat.zero_add, Nat.add_zero, Nat.reduceAdd]); all_goals rfl) | rfl) (by first | exact trivial | exact ⟨rfl, trivial⟩ | exact ⟨rfl, rfl, trivial⟩ | exact ⟨rfl, rfl, rfl, trivial⟩ | exact ⟨rfl, rfl, rfl, rfl, trivial⟩) (by first | exact trivial | exact ⟨rfl, trivial⟩ | exact ⟨rfl, rfl, trivial⟩ | exact ⟨rfl, rfl, rfl, trivial⟩ | exact ⟨rfl, rfl, rfl, rfl, trivial⟩) rfl ?_
    refine Ch.nil ?_
    refine WP.rs hG ?_
    refine Ch.mv rfl rfl ?_
    refine Ch.callH (FC.split (wBytes_fc (beS (UInt64.ofNat m) 8))) [0,2] 3 gdN (by repeat (first | exact EvL.nil | (apply EvL.cons; exact rfl))) (by exact (And.intro (by first | exact .rfl _ | exact .untip _ _ _ | exact .nil | exact .func _ | exact AV.wk.sh (renL_s _ _) | exact AV.wk.tip rfl (by first | exact renL_b _ _ | exact renL_s _ _ | exact renL_i _ _ | exact renL_w _ _) | exact AV.wk.sh (by simp; first | done | fail)) trivial)) rfl rfl (by decide) (by decide) (by first | ((conv => lhs; simp only [AV.ren, AV.renL, AO.ren, renL_b, renL_s, renL_w, renL_i, renL_append, ren_b, ren_s, ren_w, ren_i, pi_n, pi_0, pi_s, pi_1, pi_2, pi_3, pi_4, chOld, chNew, nuNew, hpl, Option.map_some, Option.map_none, List.length_cons, List.length_nil, List.take_succ_cons, List.take_zero, List.take_nil, List.drop_succ_cons, List.drop_zero, List.drop_nil, List.cons_append, List.nil_append, Nat.zero_add, Nat.add_zero, Nat.reduceAdd]); all_goals rfl) | rfl) (by first | ((conv => lhs; simp only [AV.ren, AV.renL, AO.ren, renL_b, renL_s, renL_w, renL_i, renL_append, ren_b, ren_s, ren_w, ren_i, pi_n, pi_0, pi_s, pi_1, pi_2, pi_3, pi_4, chOld, chNew, nuNew, hpl, Option.map_some, Option.map_none, List.length_cons, List.length_nil, List.take_succ_cons, List.take_zero, List.take_nil, List.drop_succ_cons, List.drop_zero, List.drop_nil, List.cons_append, List.nil_append, Nat.zero_add, Nat.add_zero, Nat.reduceAdd]); all_goals rfl) | rfl) (by first | ((conv => lhs; simp only [AV.ren, AV.renL, AO.ren, renL_b, renL_s, renL_w, renL_i, renL_append, ren_b, ren_s, ren_w, ren_i, pi_n, pi_0, pi_s, pi_1, pi_2, pi_3, pi_4, chOld, chNew, nuNew, hpl, Option.map_some, Option.map_none, List.length_cons, List.length_nil, List.take_succ_cons, List.take_zero, List.take_nil, List.drop_succ_cons, List.drop_zero, List.drop_nil, List.cons_append, List.nil_append, Nat.zero_add, Nat.add_zero, Nat.reduceAdd]); all_goals rfl) | rfl) (by first | ((conv => lhs; simp only [AV.ren, AV.renL, AO.ren, renL_b, renL_s, renL_w, renL_i, renL_append, ren_b, ren_s, ren_w, ren_i, pi_n, pi_0, pi_s, pi_1, pi_2, pi_3, pi_4, chOld, chNew, nuNew, hpl, Option.map_some, Option.map_none, List.length_cons, List.length_nil, List.take_succ_cons, List.take_zero, List.take_nil, List.drop_succ_cons, List.drop_zero, List.drop_nil, List.cons_append, List.nil_append, Nat.zero_add, Nat.add_zero, Nat.reduceAdd]); all_goals rfl) | rfl) (by first | exact trivial | exact ⟨rfl, trivial⟩ | exact ⟨rfl, rfl, trivial⟩ | exact ⟨rfl, rfl, rfl, trivial⟩ | exact ⟨rfl, rfl, rfl, rfl, trivial⟩) (by first | exact trivial | exact ⟨rfl, trivial⟩ | exact ⟨rfl, rfl, trivial⟩ | exact ⟨rfl, rfl, rfl, trivial⟩ | exact ⟨rfl, rfl, rfl, rfl, trivial⟩) rfl ?_
    refine Ch.asg rfl rfl ?_
    refine Ch.nil ?_
    exact WP.ret (Ret.one rfl (.of_eq (by rw [hm]; rfl)) trivial hnA)
theorem rlaid_fc {G : List (Nat × Array Value)} (n : Int) : FC Tryd.prog G 79 [.v (.int .i64 n)] [] (sA (laidN n)) [] := by
  refine FC.of_wp [2] Tryd.func79 rfl rfl rfl rfl (by first | trivial | (simp; first | done | fail) | exact ⟨trivial, hbel _⟩) (by first | trivial | (simp; first | done | fail) | exact ⟨trivial, hbel _⟩) (by exact Nat.le_of_ble_eq_true rfl) ?_
  intro A hG hnA hAB
  unfold start
  refine WP.rs hG ?_
  refine Ch.asg rfl rfl ?_
  refine Ch.nil ?_
  refine WP.seqJ (fun σ => ∃ m : Nat, m = nrm n ∧ σ = ⟨17, ls [(0, .v (.int .i64 (m : Int)))], lh [], blt 0⟩) ?_ ?_
  · skip
    rcases nrm_cases n with hq | hq | hq
    · have hs := hq
      refine WP.rs hG ?_
      refine Ch.mv rfl rfl ?_
      refine Ch.pu gdN (by exact ⟨rfl, rfl, trivial⟩) (OpS.int (v' := .bool true) rfl (by first | (simp [hs]; done) | (have hs2 := hs; simp; omega) | fail)) trivial rfl ?_
      refine Ch.mv rfl rfl ?_
      refine Ch.skU (gdF rfl rfl rfl) rfl ?_
      refine Ch.skU (gdF rfl rfl rfl) rfl ?_
      refine Ch.pu gdN (by first | exact ⟨rfl, rfl, trivial⟩ | exact ⟨rfl, rfl, rfl, trivial⟩) (OpS.pickT) trivial rfl ?_
      refine Ch.nil ?_
      refine WP.cond_true rfl ?_
      refine WP.rg hG ?_
      refine Ch.asg rfl rfl ?_
      refine Ch.nil ?_
      refine ⟨_, (Ent.of [] ?_ ?_ ?_ ?_).se, 0, (nrm_0 (.inl hs)).symm, rfl⟩
      · exact (fun i hi => by rw [hnA] at hi; simp only [List.length_cons, List.length_nil] at hi ⊢; first | exact absurd hi (Nat.not_lt_zero _) | (revert i; decide))
      · (repeat (first | exact trivial | (refine And.intro ⟨(by first | trivial | (simp; first | done | fail) | exact ⟨trivial, hbel _⟩), _, rfl, (by first | exact .rfl _ | exact .nil | exact .of_eq (by simp; first | done | fail) | exact AV.wk.sh (by simp; first | done | fail) | exact .untip _ _ _)⟩ ?_)))
      · (repeat (first | exact trivial | (refine And.intro ⟨rfl, (by first | trivial | (simp; first | done | fail) | exact ⟨trivial, hbel _⟩), (by first | rfl | (simp; first | done | fail))⟩ ?_)))
      · simp [rn]
    · have hs := hq
      refine WP.rs hG ?_
      refine Ch.mv rfl rfl ?_
      refine Ch.pu gdN (by exact ⟨rfl, rfl, trivial⟩) (OpS.int (v' := .bool false) rfl (by first | (simp [hs]; done) | (have hs2 := hs; simp; omega) | fail)) trivial rfl ?_
      refine Ch.mv rfl rfl ?_
      refine Ch.pu (by exact gdT rfl rfl) (by exact ⟨rfl, trivial⟩) (OpS.move) trivial rfl ?_
      refine Ch.pu (by exact gdT rfl rfl) (by exact ⟨rfl, rfl, trivial⟩) (OpS.int (v' := .bool true) rfl (by first | (simp [hs]; done) | (have hs2 := hs; simp; omega) | fail)) trivial rfl ?_
      refine Ch.pu gdN (by first | exact ⟨rfl, rfl, trivial⟩ | exact ⟨rfl, rfl, rfl, trivial⟩) (OpS.pickF) trivial rfl ?_
      refine Ch.nil ?_
      refine WP.cond_true rfl ?_
      refine WP.rg hG ?_
      refine Ch.asg rfl rfl ?_
      refine Ch.nil ?_
      refine ⟨_, (Ent.of [] ?_ ?_ ?_ ?_).se, 0, (nrm_0 (.inr hs.2)).symm, rfl⟩
      · exact (fun i hi => by rw [hnA] at hi; simp only [List.length_cons, List.length_nil] at hi ⊢; first | exact absurd hi (Nat.not_lt_zero _) | (revert i; decide))
      · (repeat (first | exact trivial | (refine And.intro ⟨(by first | trivial | (simp; first | done | fail) | exact ⟨trivial, hbel _⟩), _, rfl, (by first | exact .rfl _ | exact .nil | exact .of_eq (by simp; first | done | fail) | exact AV.wk.sh (by simp; first | done | fail) | exact .untip _ _ _)⟩ ?_)))
      · (repeat (first | exact trivial | (refine And.intro ⟨rfl, (by first | trivial | (simp; first | done | fail) | exact ⟨trivial, hbel _⟩), (by first | rfl | (simp; first | done | fail))⟩ ?_)))
      · simp [rn]
    · have hs := hq
      obtain ⟨m, rfl⟩ : ∃ m : Nat, n = (m : Int) := ⟨n.toNat, by omega⟩
      refine WP.rs hG ?_
      refine Ch.mv rfl rfl ?_
      refine Ch.pu gdN (by exact ⟨rfl, rfl, trivial⟩) (OpS.int (v' := .bool false) rfl (by first | (simp [hs]; done) | (have hs2 := hs; simp; omega) | fail)) trivial rfl ?_
      refine Ch.mv rfl rfl ?_
      refine Ch.pu (by exact gdT rfl rfl) (by exact ⟨rfl, trivial⟩) (OpS.move) trivial rfl ?_
      refine Ch.pu (by exact gdT rfl rfl) (by exact ⟨rfl, rfl, trivial⟩) (OpS.int (v' := .bool false) rfl (by first | (simp [hs]; done) | (have hs2 := hs; simp; omega) | fail)) trivial rfl ?_
      refine Ch.pu gdN (by first | exact ⟨rfl, rfl, trivial⟩ | exact ⟨rfl, rfl, rfl, trivial⟩) (OpS.pickF) trivial rfl ?_
      refine Ch.nil ?_
      refine WP.cond_false rfl ?_
      refine WP.skip ?_
      refine ⟨_, (Ent.of [] ?_ ?_ ?_ ?_).se, m, by rw [nrm_n hs, Int.toNat_natCast], rfl⟩
      · exact (fun i hi => by rw [hnA] at hi; simp only [List.length_cons, List.length_nil] at hi ⊢; first | exact absurd hi (Nat.not_lt_zero _) | (revert i; decide))
      · (repeat (first | exact trivial | (refine And.intro ⟨(by first | trivial | (simp; first | done | fail) | exact ⟨trivial, hbel _⟩), _, rfl, (by first | exact .rfl _ | exact .nil | exact .of_eq (by simp; first | done | fail) | exact AV.wk.sh (by simp; first | done | fail) | exact .untip _ _ _)⟩ ?_)))
      · (repeat (first | exact trivial | (refine And.intro ⟨rfl, (by first | trivial | (simp; first | done | fail) | exact ⟨trivial, hbel _⟩), (by first | rfl | (simp; first | done | fail))⟩ ?_)))
      · simp [rn]
  · rintro σ ⟨m, hm, rfl⟩
    refine WP.rs hG ?_
    refine Ch.callH (FC.split (rnewWriter_fc)) [] 0 gdN (by repeat (first | exact EvL.nil | (apply EvL.cons; exact rfl))) (by exact trivial) rfl rfl (by decide) (by decide) (by first | ((conv => lhs; simp only [AV.ren, AV.renL, AO.ren, renL_b, renL_s, renL_w, renL_i, renL_append, ren_b, ren_s, ren_w, ren_i, pi_n, pi_0, pi_s, pi_1, pi_2, pi_3, pi_4, chOld, chNew, nuNew, hpl, Option.map_some, Option.map_none, List.length_cons, List.length_nil, List.take_succ_cons, List.take_zero, List.take_nil, List.drop_succ_cons, List.drop_zero, List.drop_nil, List.cons_append, List.nil_append, Nat.zero_add, Nat.add_zero, Nat.reduceAdd]); all_goals rfl) | rfl) (by first | ((conv => lhs; simp only [AV.ren, AV.renL, AO.ren, renL_b, renL_s, renL_w, renL_i, renL_append, ren_b, ren_s, ren_w, ren_i, pi_n, pi_0, pi_s, pi_1, pi_2, pi_3, pi_4, chOld, chNew, nuNew, hpl, Option.map_some, Option.map_none, List.length_cons, List.length_nil, List.take_succ_cons, List.take_zero, List.take_nil, List.drop_succ_cons, List.drop_zero, List.drop_nil, List.cons_append, List.nil_append, Nat.zero_add, Nat.add_zero, Nat.reduceAdd]); all_goals rfl) | rfl) (by first | ((conv => lhs; simp only [AV.ren, AV.renL, AO.ren, renL_b, renL_s, renL_w, renL_i, renL_append, ren_b, ren_s, ren_w, ren_i, pi_n, pi_0, pi_s, pi_1, pi_2, pi_3, pi_4, chOld, chNew, nuNew, hpl, Option.map_some, Option.map_none, List.length_cons, List.length_nil, List.take_succ_cons, List.take_zero, List.take_nil, List.drop_succ_cons, List.drop_zero, List.drop_nil, List.cons_append, List.nil_append, Nat.zero_add, Nat.add_zero, Nat.reduceAdd]); all_goals rfl) | rfl) (by first | ((conv => lhs; simp only [AV.ren, AV.renL, AO.ren, renL_b, renL_s, renL_w, renL_i, renL_append, ren_b, ren_s, ren_w, ren_i, pi_n, pi_0, pi_s, pi_1, pi_2, pi_3, pi_4, chOld, chNew, nuNew, hpl, Option.map_some, Option.map_none, List.length_cons, List.length_nil, List.take_succ_cons, List.take_zero, List.take_nil, List.drop_succ_cons, List.drop_zero, List.drop_nil, List.cons_append, List.nil_append, Nat.zero_add, Nat.add_zero, Nat.reduceAdd]); all_goals rfl) | rfl) (by first | exact trivial | exact ⟨rfl, trivial⟩ | exact ⟨rfl, rfl, trivial⟩ | exact ⟨rfl, rfl, rfl, trivial⟩ | exact ⟨rfl, rfl, rfl, rfl, trivial⟩) (by first | exact trivial | exact ⟨rfl, trivial⟩ | exact ⟨rfl, rfl, trivial⟩ | exact ⟨rfl, rfl, rfl, trivial⟩ | exact ⟨rfl, rfl, rfl, rfl, trivial⟩) rfl ?_
    refine Ch.asg rfl rfl ?_
    refine Ch.nil ?_
    refine WP.rs hG ?_
    refine Ch.mv rfl rfl ?_
    refine Ch.mv rfl rfl ?_
    refine Ch.pu gdN (by exact ⟨rfl, trivial⟩) (OpS.conv rfl rfl (by first | exact cv_u32_u8 _ | exact cv_u64_u8 _ | exact cv_i64_u8 _ | exact cv_u8_u32 _ | exact cv_u8_u64 _ | exact cv_u32_u64 _ | exact cv_u64_u32 _ | exact cv_u8_u8 _ | exact cv_u32_u32 _ | exact cv_u64_u64 _ | exact wr64 (by omega) | exact cv_u64_nat _ | exact cv_u32_nat _ | exact cv_u8_nat _ | exact rfl)) trivial rfl ?_
    refine Ch.callH (FC.split (rwNum_fc [] (UInt64.ofNat m) (by simp))) [0] 1 gdN (by repeat (first | exact EvL.nil | (apply EvL.cons; exact rfl))) (by exact (And.intro (by first | exact .rfl _ | exact .untip _ _ _ | exact .nil | exact .func _ | exact AV.wk.sh (renL_s _ _) | exact AV.wk.tip rfl (by first | exact renL_b _ _ | exact renL_s _ _ | exact renL_i _ _ | exact renL_w _ _) | exact AV.wk.sh (by simp; first | done | fail)) (And.intro (by first | exact .rfl _ | exact .untip _ _ _ | exact .nil | exact .func _ | exact AV.wk.sh (renL_s _ _) | exact AV.wk.tip rfl (by first | exact renL_b _ _ | exact renL_s _ _ | exact renL_i _ _ | exact renL_w _ _) | exact AV.wk.sh (by simp; first | done | fail)) trivial))) rfl rfl (by decide) (by decide) (by first | ((conv => lhs; simp only [AV.ren, AV.renL, AO.ren, renL_b, renL_s, renL_w, renL_i, renL_append, ren_b, ren_s, ren_w, ren_i, pi_n, pi_0, pi_s, pi_1, pi_2, pi_3, pi_4, chOld, chNew, nuNew, hpl, Option.map_some, Option.map_none, List.length_cons, List.length_nil, List.take_succ_cons, List.take_zero, List.take_nil, List.drop_succ_cons, List.drop_zero, List.drop_nil, List.cons_append, List.nil_append, Nat.zero_add, Nat.add_zero, Nat.reduceAdd]); all_goals rfl) | rfl) (by first | ((conv => lhs; simp only [AV.ren, AV.renL, AO.ren, renL_b, renL_s, renL_w, renL_i, renL_append, ren_b, ren_s, ren_w, ren_i, pi_n, pi_0, pi_s, pi_1, pi_2, pi_3, pi_4, chOld, chNew, nuNew, hpl, Option.map_some, Option.map_none, List.length_cons, List.length_nil, List.take_succ_cons, List.take_zero, List.take_nil, List.drop_succ_cons, List.drop_zero, List.drop_nil, List.cons_append, List.nil_append, Nat.zero_add, Nat.add_zero, Nat.reduceAdd]); all_goals rfl) | rfl) (by first | ((conv => lhs; simp only [AV.ren, AV.renL, AO.ren, renL_b, renL_s, renL_w, renL_i, renL_append, ren_b, ren_s, ren_w, ren_i, pi_n, pi_0, pi_s, pi_1, pi_2, pi_3, pi_4, chOld, chNew, nuNew, hpl, Option.map_some, Option.map_none, List.length_cons, List.length_nil, List.take_succ_cons, List.take_zero, List.take_nil, List.drop_succ_cons, List.drop_zero, List.drop_nil, List.cons_append, List.nil_append, Nat.zero_add, Nat.add_zero, Nat.reduceAdd]); all_goals rfl) | rfl) (by first | ((conv => lhs; simp only [AV.ren, AV.renL, AO.ren, renL_b, renL_s, renL_w, renL_i, renL_append, ren_b, ren_s, ren_w, ren_i, pi_n, pi_0, pi_s, pi_1, pi_2, pi_3, pi_4, chOld, chNew, nuNew, hpl, Option.map_some, Option.map_none, List.length_cons, List.length_nil, List.take_succ_cons, List.take_zero, List.take_nil, List.drop_succ_cons, List.drop_zero, List.drop_nil, List.cons_append, List.nil_append, Nat.zero_add, Nat.add_zero, Nat.reduceAdd]); all_goals rfl) | rfl) (by first | exact trivial | exact ⟨rfl, trivial⟩ | exact ⟨rfl, rfl, trivial⟩ | exact ⟨rfl, rfl, rfl, trivial⟩ | exact ⟨rfl, rfl, rfl, rfl, trivial⟩) (by first | exact trivial | exact ⟨rfl, trivial⟩ | exact ⟨rfl, rfl, trivial⟩ | exact ⟨rfl, rfl, rfl, trivial⟩ | exact ⟨rfl, rfl, rfl, rfl, trivial⟩) rfl ?_
    refine Ch.nil ?_
    refine WP.rs hG ?_
    refine Ch.mv rfl rfl ?_
    refine Ch.callH (FC.split (rwBytes_fc (beS (UInt64.ofNat m) 8))) [0] 1 gdN (by repeat (first | exact EvL.nil | (apply EvL.cons; exact rfl))) (by exact (And.intro (by first | exact .rfl _ | exact .untip _ _ _ | exact .nil | exact .func _ | exact AV.wk.sh (renL_s _ _) | exact AV.wk.tip rfl (by first | exact renL_b _ _ | exact renL_s _ _ | exact renL_i _ _ | exact renL_w _ _) | exact AV.wk.sh (by simp; first | done | fail)) trivial)) rfl rfl (by decide) (by decide) (by first | ((conv => lhs; simp only [AV.ren, AV.renL, AO.ren, renL_b, renL_s, renL_w, renL_i, renL_append, ren_b, ren_s, ren_w, ren_i, pi_n, pi_0, pi_s, pi_1, pi_2, pi_3, pi_4, chOld, chNew, nuNew, hpl, Option.map_some, Option.map_none, List.length_cons, List.length_nil, List.take_succ_cons, List.take_zero, List.take_nil, List.drop_succ_cons, List.drop_zero, List.drop_nil, List.cons_append, List.nil_append, Nat.zero_add, Nat.add_zero, Nat.reduceAdd]); all_goals rfl) | rfl) (by first | ((conv => lhs; simp only [AV.ren, AV.renL, AO.ren, renL_b, renL_s, renL_w, renL_i, renL_append, ren_b, ren_s, ren_w, ren_i, pi_n, pi_0, pi_s, pi_1, pi_2, pi_3, pi_4, chOld, chNew, nuNew, hpl, Option.map_some, Option.map_none, List.length_cons, List.length_nil, List.take_succ_cons, List.take_zero, List.take_nil, List.drop_succ_cons, List.drop_zero, List.drop_nil, List.cons_append, List.nil_append, Nat.zero_add, Nat.add_zero, Nat.reduceAdd]); all_goals rfl) | rfl) (by first | ((conv => lhs; simp only [AV.ren, AV.renL, AO.ren, renL_b, renL_s, renL_w, renL_i, renL_append, ren_b, ren_s, ren_w, ren_i, pi_n, pi_0, pi_s, pi_1, pi_2, pi_3, pi_4, chOld, chNew, nuNew, hpl, Option.map_some, Option.map_none, List.length_cons, List.length_nil, List.take_succ_cons, List.take_zero, List.take_nil, List.drop_succ_cons, List.drop_zero, List.drop_nil, List.cons_append, List.nil_append, Nat.zero_add, Nat.add_zero, Nat.reduceAdd]); all_goals rfl) | rfl) (by first | ((conv => lhs; simp only [AV.ren, AV.renL, AO.ren, renL_b, renL_s, renL_w, renL_i, renL_append, ren_b, ren_s, ren_w, ren_i, pi_n, pi_0, pi_s, pi_1, pi_2, pi_3, pi_4, chOld, chNew, nuNew, hpl, Option.map_some, Option.map_none, List.length_cons, List.length_nil, List.take_succ_cons, List.take_zero, List.take_nil, List.drop_succ_cons, List.drop_zero, List.drop_nil, List.cons_append, List.nil_append, Nat.zero_add, Nat.add_zero, Nat.reduceAdd]); all_goals rfl) | rfl) (by first | exact trivial | exact ⟨rfl, trivial⟩ | exact ⟨rfl, rfl, trivial⟩ | exact ⟨rfl, rfl, rfl, trivial⟩ | exact ⟨rfl, rfl, rfl, rfl, trivial⟩) (by first | exact trivial | exact ⟨rfl, trivial⟩ | exact ⟨rfl, rfl, trivial⟩ | exact ⟨rfl, rfl, rfl, trivial⟩ | exact ⟨rfl, rfl, rfl, rfl, trivial⟩) rfl ?_
    refine Ch.asg rfl rfl ?_
    refine Ch.nil ?_
    exact WP.ret (Ret.one rfl (.of_eq (by rw [hm]; rfl)) trivial hnA)
end Go.Proofs.YtcojfnjpcpochaaDoor.E
end
section
namespace Go.Proofs.YtcojfnjpcpochaaDoor.E
open Go Go.RowKit Go.Proofs.YtcojfnjpcpochaaDoor.V
attribute [local go_sem] B_size B_append B_extract mk_B B_toList take_drop_len List.length_drop List.length_take sgn32 sgn64 add32 sub32 mul32 add64 sub64 mul64 mul64_8 and32 or32 xor32 and64 or64 xor64 shl32_run shr32_run shl64_run shr64_run not32 not32' xor32_all w_u32_u8 w_u64_u8 w_i64_u8 w_u8_u32 w_u8_u64 w_u32_u64 w_u64_u32 w_u8_u8 w_u32_u32 w_u64_u64
attribute [local go_sem ↓] run_index_B' add32 sub32 mul32 add64 sub64 mul64 mul64_8 and32 or32 xor32 and64 or64 xor64 shl32_run shr32_run shl64_run shr64_run not32 not32' xor32_all w_u32_u8 w_u64_u8 w_i64_u8 w_u8_u32 w_u8_u64 w_u32_u64 w_u64_u32 w_u8_u8 w_u32_u32 w_u64_u64 w_u64_nat w_u32_nat w_u8_nat
set_option maxRecDepth 4000
def RefIn (G : List (Nat × Array Value)) : Prop := (3, kArr) ∈ G ∧ (2, V.first.cells) ∈ G
theorem in3_len (a b c : List UInt8) (d : UInt8) : (input d [a, b, c]).length = a.length + b.length + c.length + 13 := by
  simp [input, V.be4_length]
  omega
theorem in1_len (a : List UInt8) (d : UInt8) : (input d [a]).length = a.length + 5 := by
  simp [input, V.be4_length]
  omega
theorem inL_len (d : UInt8) (ps : List (List UInt8)) (n : Nat) (h : ∀ p ∈ ps, p.length ≤ n) : (input d ps).length ≤ 1 + ps.length * (n + 4) := by
  unfold input
  rw [List.length_cons]
  have : ∀ l : List (List UInt8), (∀ p ∈ l, p.length ≤ n) → (l.flatMap fun p => be4 (UInt32.ofNat p.length) ++ p).length ≤ l.length * (n + 4) := fun l => by
    induction l with
    | nil => intro _; simp
    | cons p l ih =>
      intro h
      have h1 := ih (fun q hq => h q (by simp [hq]))
      have h2 := h p (by simp)
      rw [List.flatMap_cons, List.length_append, List.length_append, V.be4_length, List.length_cons, Nat.add_mul]
      omega
  have := this ps h
  omega
theorem three_step (from' to' : Int) : from' < 0 ∨ (0 ≤ from' ∧ 15 < to') ∨ (0 ≤ from' ∧ to' ≤ 15) := by omega
theorem walkT_no {c a b : Int} {v : Txw} (h : a < 0 ∨ 15 < b) : walkT c a b v = v := if_pos h
theorem walkT_end {c a b : Int} {v : Txw} (h : b ≤ a) : walkT c a b v = v := by
  unfold walkT
  split
  · rfl
  · rw [show (b - a).toNat = 0 by omega]; rfl
theorem walkT_go {c a b : Int} {v : Txw} (h0 : 0 ≤ a) (h1 : a < b) (h2 : b ≤ 15) : walkT c a b v = walkT c (a + 1) b (wstep c a v) := by
  unfold walkT
  rw [if_neg (by omega), if_neg (by omega)]
  rw [show (b - a).toNat = (b - (a + 1)).toNat + 1 by omega]
  rfl
attribute [local irreducible] sum tag input laidN wstep walkT
theorem value_fc {G : List (Nat × Array Value)} (hm : ShaIn G) (d : UInt8) (ps : List (List UInt8)) (hL : (input d ps).length ≤ 140737488355328) :
    FC Tryd.prog G 71 [.v (.int .u8 (U8 d)), .sl none ps.length (ps.map sA)] [] (sA ((tag d ps).take 16)) [] := by
  have htl := tag_length d ps
  refine FC.of_wp [4] Tryd.func71 rfl rfl rfl rfl ⟨trivial, ⟨by simp, belL_s _ _⟩, trivial⟩ trivial (by exact Nat.le_of_ble_eq_true rfl) ?_
  intro A hG hnA hAB
  unfold start
  refine WP.rs hG ?_
  refine Ch.asg rfl rfl ?_
  refine Ch.nil ?_
  refine WP.rs hG ?_
  refine Ch.mv rfl rfl ?_
  refine Ch.mv rfl rfl ?_
  refine Ch.callP (tag_fc hm d ps hL) gdN (by repeat (first | exact EvL.nil | (apply EvL.cons; exact rfl))) (by exact (And.intro (by first | exact .rfl _ | exact .untip _ _ _ | exact .nil | exact .func _ | exact AV.wk.sh (renL_s _ _) | exact AV.wk.sh (by simp; first | done | fail)) (And.intro (by first | exact .rfl _ | exact .untip _ _ _ | exact .nil | exact .func _ | exact AV.wk.sh (renL_s _ _) | exact AV.wk.sh (by simp; first | done | fail)) trivial))) (by rfl) rfl ?_
  refine Ch.pu gdN (by exact ⟨rfl, rfl, trivial⟩) (OpS.sliceSh rfl (by first | with_reducible exact Int.toNat_natCast _ | with_reducible exact tnLit _ _ | with_reducible exact tnLitA _ _ | with_reducible exact tnL _ | with_reducible exact tnA _ _ | with_reducible exact tnM _ _ | with_reducible exact tnMA _ _ _ | exact rfl) (by omega) (by omega)) trivial rfl ?_
  refine Ch.asg rfl rfl ?_
  refine Ch.nil ?_
  refine WP.ret (Ret.one rfl (by first | exact .rfl _ | exact .nil | exact .of_eq (by simp; first | done | fail) | exact AV.wk.sh (by simp; first | done | fail) | exact .untip _ _ _) (by first | trivial | simp [AV.bel]) hnA)
theorem wstep_eq (c a : Int) (v : Txw) : wstep c a v = (tag 2 [laidN c, laidN a, v]).take 16 := by unfold wstep; rfl
theorem secretT_eq (s : Txw) (l c : Int) : secretT s l c = (tag 3 [s, laidN l, laidN c]).take 16 := rfl
theorem step_fc {G : List (Nat × Array Value)} (hm : ShaIn G) (c a : Int) (v : Txw) (hv : v.length ≤ 140737488355264) : FC Tryd.prog G 84 [.v (.int .i64 c), .v (.int .i64 a), sA v] [] (sA (wstep c a v)) [] := by
  have hin := in3_len (laidN c) (laidN a) v 2
  rw [laidN_length, laidN_length] at hin
  have hval := value_fc hm 2 [laidN c, laidN a, v] (by omega)
  rw [← wstep_eq] at hval
  refine FC.of_wp [6] Tryd.func84 rfl rfl rfl rfl (by first | trivial | (simp; first | done | fail) | exact ⟨trivial, hbel _⟩) (by first | trivial | (simp; first | done | fail) | exact ⟨trivial, hbel _⟩) (by exact Nat.le_of_ble_eq_true rfl) ?_
  intro A hG hnA hAB
  unfold start
  refine WP.rs hG ?_
  refine Ch.asg rfl rfl ?_
  refine Ch.nil ?_
  refine WP.rs hG ?_
  refine Ch.mv rfl rfl ?_
  refine Ch.callP (laid_fc c) gdN (by repeat (first | exact EvL.nil | (apply EvL.cons; exact rfl))) (by exact (And.intro (by first | exact .rfl _ | exact .untip _ _ _ | exact .nil | exact .func _ | exact AV.wk.sh (renL_s _ _) | exact AV.wk.sh (by simp; first | done | fail)) trivial)) (by rfl) rfl ?_
  refine Ch.mv rfl rfl ?_
  refine Ch.callP (laid_fc a) gdN (by repeat (first | exact EvL.nil | (apply EvL.cons; exact rfl))) (by exact (And.intro (by first | exact .rfl _ | exact .untip _ _ _ | exact .nil | exact .func _ | exact AV.wk.sh (renL_s _ _) | exact AV.wk.sh (by simp; first | done | fail)) trivial)) (by rfl) rfl ?_
  refine Ch.mv rfl rfl ?_
  refine Ch.pup gdN (by repeat (first | exact EvP.nil | (apply EvP.cons; exact rfl))) (OpS.slice1 (ys := ([laidN c, laidN a, v] : List Txw).map sA) rfl rfl rfl rfl rfl rfl (by rfl) rfl (by rfl)) rfl ?_
  refine Ch.callP (hval) gdN (by repeat (first | exact EvL.nil | (apply EvL.cons; exact rfl))) (by exact (And.intro (by first | exact .rfl _ | exact .untip _ _ _ | exact .nil | exact .func _ | exact AV.wk.sh (renL_s _ _) | exact AV.wk.sh (by simp; first | done | fail)) (And.intro (by first | exact .rfl _ | exact .untip _ _ _ | exact .nil | exact .func _ | exact AV.wk.sh (renL_s _ _) | exact AV.wk.sh (by simp; first | done | fail)) trivial))) (by rfl) rfl ?_
  refine Ch.asg rfl rfl ?_
  refine Ch.nil ?_
  refine WP.ret (Ret.one rfl (by first | exact .rfl _ | exact .nil | exact .of_eq (by simp; first | done | fail) | exact AV.wk.sh (by simp; first | done | fail) | exact .untip _ _ _) (by first | trivial | simp [AV.bel]) hnA)
theorem walk_fc {G : List (Nat × Array Value)} (hm : ShaIn G) (c a b : Int) (v : Txw) (hv : v.length ≤ 140737488355264) (ha : -9223372036854775808 ≤ a ∧ a ≤ 9223372036854775807) (hb : -9223372036854775808 ≤ b ∧ b ≤ 9223372036854775807) :
    FC Tryd.prog G 69 [.v (.int .i64 c), .v (.int .i64 a), .v (.int .i64 b), sA v] [] (sA (walkT c a b v)) [] := by
  refine FC.of_wp [8] Tryd.func69 rfl rfl rfl rfl (by first | trivial | (simp; first | done | fail) | exact ⟨trivial, hbel _⟩) (by first | trivial | (simp; first | done | fail) | exact ⟨trivial, hbel _⟩) (by exact Nat.le_of_ble_eq_true rfl) ?_
  intro A hG hnA hAB
  unfold start
  refine WP.rs hG ?_
  refine Ch.asg rfl rfl ?_
  refine Ch.nil ?_
  refine WP.seq ?_
  rcases three_step a b with hq | hq | hq
  · have hs := hq
    refine WP.rs hG ?_
    refine Ch.mv rfl rfl ?_
    refine Ch.pu gdN (by exact ⟨rfl, rfl, trivial⟩) (OpS.int (v' := .bool true) rfl (by first | (simp [hs]; done) | (have hs2 := hs; simp; omega) | fail)) trivial rfl ?_
    refine Ch.mv rfl rfl ?_
    refine Ch.skU (gdF rfl rfl rfl) rfl ?_
    refine Ch.skU (gdF rfl rfl rfl) rfl ?_
    refine Ch.pu gdN (by first | exact ⟨rfl, rfl, trivial⟩ | exact ⟨rfl, rfl, rfl, trivial⟩) (OpS.pickT) trivial rfl ?_
    refine Ch.nil ?_
    refine WP.cond_true rfl ?_
    refine WP.rs hG ?_
    refine Ch.mv rfl rfl ?_
    refine Ch.asg rfl rfl ?_
    refine Ch.nil ?_
    exact WP.ret (Ret.one rfl (.of_eq (by rw [walkT_no (.inl hs)]; rfl)) trivial hnA)
  · have hs := hq
    refine WP.rs hG ?_
    refine Ch.mv rfl rfl ?_
    refine Ch.pu gdN (by exact ⟨rfl, rfl, trivial⟩) (OpS.int (v' := .bool false) rfl (by first | (simp [hs]; done) | (have hs2 := hs; simp; omega) | fail)) trivial rfl ?_
    refine Ch.mv rfl rfl ?_
    refine Ch.pu (by exact gdT rfl rfl) (by exact ⟨rfl, trivial⟩) (OpS.move) trivial rfl ?_
    refine Ch.pu (by exact gdT rfl rfl) (by exact ⟨rfl, rfl, trivial⟩) (OpS.int (v' := .bool true) rfl (by first | (simp [hs]; done) | (have hs2 := hs; simp; omega) | fail)) trivial rfl ?_
    refine Ch.pu gdN (by first | exact ⟨rfl, rfl, trivial⟩ | exact ⟨rfl, rfl, rfl, trivial⟩) (OpS.pickF) trivial rfl ?_
    refine Ch.nil ?_
    refine WP.cond_true rfl ?_
    refine WP.rs hG ?_
    refine Ch.mv rfl rfl ?_
    refine Ch.asg rfl rfl ?_
    refine Ch.nil ?_
    exact WP.ret (Ret.one rfl (.of_eq (by rw [walkT_no (.inr hs.2)]; rfl)) trivial hnA)
  · have hs := hq
    refine WP.rs hG ?_
    refine Ch.mv rfl rfl ?_
    refine Ch.pu gdN (by exact ⟨rfl, rfl, trivial⟩) (OpS.int (v' := .bool false) rfl (by first | (simp [hs]; done) | (have hs2 := hs; simp; omega) | fail)) trivial rfl ?_
    refine Ch.mv rfl rfl ?_
    refine Ch.pu (by exact gdT rfl rfl) (by exact ⟨rfl, trivial⟩) (OpS.move) trivial rfl ?_
    refine Ch.pu (by exact gdT rfl rfl) (by exact ⟨rfl, rfl, trivial⟩) (OpS.int (v' := .bool false) rfl (by first | (simp [hs]; done) | (have hs2 := hs; simp; omega) | fail)) trivial rfl ?_
    refine Ch.pu gdN (by first | exact ⟨rfl, rfl, trivial⟩ | exact ⟨rfl, rfl, rfl, trivial⟩) (OpS.pickF) trivial rfl ?_
    refine Ch.nil ?_
    refine WP.cond_false rfl ?_
    refine WP.skip ?_
    refine WP.seq ?_
    refine WP.block ?_
    refine WP.loop (fun k σ => ∃ (x : Int) (y : Txw), (k = (b - x).toNat ∧ 0 ≤ x ∧ y.length ≤ 140737488355264 ∧ walkT c x b y = walkT c a b v) ∧ σ = ⟨26, ls [(0, .v (.int .i64 c)), (1, .v (.int .i64 x)), (2, .v (.int .i64 b)), (3, sA y)], lh [], blt 0⟩) ((b - a).toNat) (Ent.of [] ?_ ?_ ?_ ?_).se ⟨a, v, ⟨rfl, hs.1, hv, rfl⟩, rfl⟩ ?_
    · exact (fun i hi => by rw [hnA] at hi; simp only [List.length_cons, List.length_nil] at hi ⊢; first | exact absurd hi (Nat.not_lt_zero _) | (revert i; decide))
    · (repeat (first | exact trivial | (refine And.intro ⟨(by first | trivial | (simp; first | done | fail) | exact ⟨trivial, hbel _⟩), _, rfl, (by first | exact .rfl _ | exact .nil | exact .of_eq (by simp; first | done | fail) | exact AV.wk.sh (by simp; first | done | fail) | exact .untip _ _ _)⟩ ?_)))
    · (repeat (first | exact trivial | (refine And.intro ⟨rfl, (by first | trivial | (simp; first | done | fail) | exact ⟨trivial, hbel _⟩), (by first | rfl | (simp; first | done | fail))⟩ ?_)))
    · simp [rn]
    · rintro k σ ⟨x, y, ⟨hk, hx, hy, hw⟩, rfl⟩
      refine WP.seq ?_
      refine WP.rs hG ?_
      refine Ch.mv rfl rfl ?_
      refine Ch.mv rfl rfl ?_
      refine Ch.pu gdN (by exact ⟨rfl, rfl, trivial⟩) (OpS.int rfl (by first | exact wr64 (by omega) | exact rfl)) trivial rfl ?_
      refine Ch.nil ?_
      refine WP.cond rfl ?_ ?_
      · intro ht
        have ht' := of_decide_eq_true ht
        rw [walkT_go hx ht' hs.2] at hw
        have hsl := wstep_length c x y
        refine WP.skip ?_
        refine WP.seq ?_
        refine WP.block ?_
        refine WP.rg hG ?_
        refine Ch.mv rfl rfl ?_
        refine Ch.mv rfl rfl ?_
        refine Ch.mv rfl rfl ?_
        refine Ch.callP (step_fc hm c x y hy) gdN (by repeat (first | exact EvL.nil | (apply EvL.cons; exact rfl))) (by exact (And.intro (by first | exact .rfl _ | exact .untip _ _ _ | exact .nil | exact .func _ | exact AV.wk.sh (renL_s _ _) | exact AV.wk.sh (by simp; first | done | fail)) (And.intro (by first | exact .rfl _ | exact .untip _ _ _ | exact .nil | exact .func _ | exact AV.wk.sh (renL_s _ _) | exact AV.wk.sh (by simp; first | done | fail)) (And.intro (by first | exact .rfl _ | exact .untip _ _ _ | exact .nil | exact .func _ | exact AV.wk.sh (renL_s _ _) | exact AV.wk.sh (by simp; first | done | fail)) trivial)))) (by rfl) rfl ?_
        refine Ch.asg rfl rfl ?_
        refine Ch.nil ?_
        refine WP.rg hG ?_
        refine Ch.mv rfl rfl ?_
        refine Ch.pu gdN (by exact ⟨rfl, rfl, trivial⟩) (OpS.int rfl (by first | exact wr64 (by omega) | exact rfl)) trivial rfl ?_
        refine Ch.asg rfl rfl ?_
        refine Ch.nil ?_
        refine ⟨k - 1, _, by omega, (Ent.of [] ?_ ?_ ?_ ?_).se, x + 1, wstep c x y, ⟨by omega, by omega, by rw [hsl]; decide, hw⟩, rfl⟩
        · exact (fun i hi => by rw [hnA] at hi; simp only [List.length_cons, List.length_nil] at hi ⊢; first | exact absurd hi (Nat.not_lt_zero _) | (revert i; decide))
        · (repeat (first | exact trivial | (refine And.intro ⟨(by first | trivial | (simp; first | done | fail) | exact ⟨trivial, hbel _⟩), _, rfl, (by first | exact .rfl _ | exact .nil | exact .of_eq (by simp; first | done | fail) | exact AV.wk.sh (by simp; first | done | fail) | exact .untip _ _ _)⟩ ?_)))
        · (repeat (first | exact trivial | (refine And.intro ⟨rfl, (by first | trivial | (simp; first | done | fail) | exact ⟨trivial, hbel _⟩), (by first | rfl | (simp; first | done | fail))⟩ ?_)))
        · simp [rn]
      · intro ht
        have ht' := of_decide_eq_false ht
        rw [walkT_end (by omega)] at hw
        refine WP.exit ?_
        refine WP.rs hG ?_
        refine Ch.mv rfl rfl ?_
        refine Ch.asg rfl rfl ?_
        refine Ch.nil ?_
        exact WP.ret (Ret.one rfl (by rw [← hw]; exact .rfl _) trivial hnA)
theorem rstep_fc {G : List (Nat × Array Value)} (hr : RefIn G) (c a : Int) (v : Txw) (hv : v.length ≤ 140737488355264) : FC Tryd.prog G 78 [.v (.int .i64 c), .v (.int .i64 a), sA v] [] (sA (wstep c a v)) [] := by
  have hin := in3_len (laidN c) (laidN a) v 2
  rw [laidN_length, laidN_length] at hin
  have htl := tag_length 2 [laidN c, laidN a, v]
  have hval := rtag_fc hr.1 hr.2 2 [laidN c, laidN a, v] (by omega)
  refine FC.of_wp [6] Tryd.func78 rfl rfl rfl rfl (by first | trivial | (simp; first | done | fail) | exact ⟨trivial, hbel _⟩) (by first | trivial | (simp; first | done | fail) | exact ⟨trivial, hbel _⟩) (by exact Nat.le_of_ble_eq_true rfl) ?_
  intro A hG hnA hAB
  unfold start
  refine WP.rs hG ?_
  refine Ch.asg rfl rfl ?_
  refine Ch.nil ?_
  refine WP.rs hG ?_
  refine Ch.mv rfl rfl ?_
  refine Ch.callP (rlaid_fc c) gdN (by repeat (first | exact EvL.nil | (apply EvL.cons; exact rfl))) (by exact (And.intro (by first | exact .rfl _ | exact .untip _ _ _ | exact .nil | exact .func _ | exact AV.wk.sh (renL_s _ _) | exact AV.wk.sh (by simp; first | done | fail)) trivial)) (by rfl) rfl ?_
  refine Ch.mv rfl rfl ?_
  refine Ch.callP (rlaid_fc a) gdN (by repeat (first | exact EvL.nil | (apply EvL.cons; exact rfl))) (by exact (And.intro (by first | exact .rfl _ | exact .untip _ _ _ | exact .nil | exact .func _ | exact AV.wk.sh (renL_s _ _) | exact AV.wk.sh (by simp; first | done | fail)) trivial)) (by rfl) rfl ?_
  refine Ch.mv rfl rfl ?_
  refine Ch.pup gdN (by repeat (first | exact EvP.nil | (apply EvP.cons; exact rfl))) (OpS.slice1 (ys := ([laidN c, laidN a, v] : List Txw).map sA) rfl rfl rfl rfl rfl rfl (by rfl) rfl (by rfl)) rfl ?_
  refine Ch.callP (hval) gdN (by repeat (first | exact EvL.nil | (apply EvL.cons; exact rfl))) (by exact (And.intro (by first | exact .rfl _ | exact .untip _ _ _ | exact .nil | exact .func _ | exact AV.wk.sh (renL_s _ _) | exact AV.wk.sh (by simp; first | done | fail)) (And.intro (by first | exact .rfl _ | exact .untip _ _ _ | exact .nil | exact .func _ | exact AV.wk.sh (renL_s _ _) | exact AV.wk.sh (by simp; first | done | fail)) trivial))) (by rfl) rfl ?_
  refine Ch.pu gdN (by exact ⟨rfl, rfl, trivial⟩) (OpS.sliceSh rfl (by first | with_reducible exact Int.toNat_natCast _ | with_reducible exact tnLit _ _ | with_reducible exact tnLitA _ _ | with_reducible exact tnL _ | with_reducible exact tnA _ _ | with_reducible exact tnM _ _ | with_reducible exact tnMA _ _ _ | exact rfl) (by omega) (by omega)) trivial rfl ?_
  refine Ch.asg rfl rfl ?_
  refine Ch.nil ?_
  exact WP.ret (Ret.one rfl (.of_eq (by rw [wstep_eq]; rfl)) trivial hnA)
theorem rwalk_fc {G : List (Nat × Array Value)} (hr : RefIn G) (c a b : Int) (v : Txw) (hv : v.length ≤ 140737488355264) (ha : -9223372036854775808 ≤ a ∧ a ≤ 9223372036854775807) (hb : -9223372036854775808 ≤ b ∧ b ≤ 9223372036854775807) :
    FC Tryd.prog G 55 [.v (.int .i64 c), .v (.int .i64 a), .v (.int .i64 b), sA v] [] (sA (walkT c a b v)) [] := by
  refine FC.of_wp [8] Tryd.func55 rfl rfl rfl rfl (by first | trivial | (simp; first | done | fail) | exact ⟨trivial, hbel _⟩) (by first | trivial | (simp; first | done | fail) | exact ⟨trivial, hbel _⟩) (by exact Nat.le_of_ble_eq_true rfl) ?_
  intro A hG hnA hAB
  unfold start
  refine WP.rs hG ?_
  refine Ch.asg rfl rfl ?_
  refine Ch.nil ?_
  refine WP.seq ?_
  rcases three_step a b with hq | hq | hq
  · have hs := hq
    refine WP.rs hG ?_
    refine Ch.mv rfl rfl ?_
    refine Ch.pu gdN (by exact ⟨rfl, rfl, trivial⟩) (OpS.int (v' := .bool true) rfl (by first | (simp [hs]; done) | (have hs2 := hs; simp; omega) | fail)) trivial rfl ?_
    refine Ch.mv rfl rfl ?_
    refine Ch.skU (gdF rfl rfl rfl) rfl ?_
    refine Ch.skU (gdF rfl rfl rfl) rfl ?_
    refine Ch.pu gdN (by first | exact ⟨rfl, rfl, trivial⟩ | exact ⟨rfl, rfl, rfl, trivial⟩) (OpS.pickT) trivial rfl ?_
    refine Ch.nil ?_
    refine WP.cond_true rfl ?_
    refine WP.rs hG ?_
    refine Ch.mv rfl rfl ?_
    refine Ch.asg rfl rfl ?_
    refine Ch.nil ?_
    exact WP.ret (Ret.one rfl (.of_eq (by rw [walkT_no (.inl hs)]; rfl)) trivial hnA)
  · have hs := hq
    refine WP.rs hG ?_
    refine Ch.mv rfl rfl ?_
    refine Ch.pu gdN (by exact ⟨rfl, rfl, trivial⟩) (OpS.int (v' := .bool false) rfl (by first | (simp [hs]; done) | (have hs2 := hs; simp; omega) | fail)) trivial rfl ?_
    refine Ch.mv rfl rfl ?_
    refine Ch.pu (by exact gdT rfl rfl) (by exact ⟨rfl, trivial⟩) (OpS.move) trivial rfl ?_
    refine Ch.pu (by exact gdT rfl rfl) (by exact ⟨rfl, rfl, trivial⟩) (OpS.int (v' := .bool true) rfl (by first | (simp [hs]; done) | (have hs2 := hs; simp; omega) | fail)) trivial rfl ?_
    refine Ch.pu gdN (by first | exact ⟨rfl, rfl, trivial⟩ | exact ⟨rfl, rfl, rfl, trivial⟩) (OpS.pickF) trivial rfl ?_
    refine Ch.nil ?_
    refine WP.cond_true rfl ?_
    refine WP.rs hG ?_
    refine Ch.mv rfl rfl ?_
    refine Ch.asg rfl rfl ?_
    refine Ch.nil ?_
    exact WP.ret (Ret.one rfl (.of_eq (by rw [walkT_no (.inr hs.2)]; rfl)) trivial hnA)
  · have hs := hq
    refine WP.rs hG ?_
    refine Ch.mv rfl rfl ?_
    refine Ch.pu gdN (by exact ⟨rfl, rfl, trivial⟩) (OpS.int (v' := .bool false) rfl (by first | (simp [hs]; done) | (have hs2 := hs; simp; omega) | fail)) trivial rfl ?_
    refine Ch.mv rfl rfl ?_
    refine Ch.pu (by exact gdT rfl rfl) (by exact ⟨rfl, trivial⟩) (OpS.move) trivial rfl ?_
    refine Ch.pu (by exact gdT rfl rfl) (by exact ⟨rfl, rfl, trivial⟩) (OpS.int (v' := .bool false) rfl (by first | (simp [hs]; done) | (have hs2 := hs; simp; omega) | fail)) trivial rfl ?_
    refine Ch.pu gdN (by first | exact ⟨rfl, rfl, trivial⟩ | exact ⟨rfl, rfl, rfl, trivial⟩) (OpS.pickF) trivial rfl ?_
    refine Ch.nil ?_
    refine WP.cond_false rfl ?_
    refine WP.skip ?_
    refine WP.seq ?_
    refine WP.rs hG ?_
    refine Ch.mv rfl rfl ?_
    refine Ch.asg rfl rfl ?_
    refine Ch.nil ?_
    refine WP.block ?_
    refine WP.loop (fun k σ => ∃ (x : Int) (y : Txw), (k = (b - x).toNat ∧ 0 ≤ x ∧ y.length ≤ 140737488355264 ∧ walkT c x b y = walkT c a b v) ∧ σ = ⟨28, ls [(0, .v (.int .i64 c)), (9, .v (.int .i64 x)), (2, .v (.int .i64 b)), (3, sA y)], lh [], blt 0⟩) ((b - a).toNat) (Ent.of [] ?_ ?_ ?_ ?_).se ⟨a, v, ⟨rfl, hs.1, hv, rfl⟩, rfl⟩ ?_
    · exact (fun i hi => by rw [hnA] at hi; simp only [List.length_cons, List.length_nil] at hi ⊢; first | exact absurd hi (Nat.not_lt_zero _) | (revert i; decide))
    · (repeat (first | exact trivial | (refine And.intro ⟨(by first | trivial | (simp; first | done | fail) | exact ⟨trivial, hbel _⟩), _, rfl, (by first | exact .rfl _ | exact .nil | exact .of_eq (by simp; first | done | fail) | exact AV.wk.sh (by simp; first | done | fail) | exact .untip _ _ _)⟩ ?_)))
    · (repeat (first | exact trivial | (refine And.intro ⟨rfl, (by first | trivial | (simp; first | done | fail) | exact ⟨trivial, hbel _⟩), (by first | rfl | (simp; first | done | fail))⟩ ?_)))
    · simp [rn]
    · rintro k σ ⟨x, y, ⟨hk, hx, hy, hw⟩, rfl⟩
      refine WP.seq ?_
      refine WP.rs hG ?_
      refine Ch.mv rfl rfl ?_
      refine Ch.mv rfl rfl ?_
      refine Ch.pu gdN (by exact ⟨rfl, rfl, trivial⟩) (OpS.int rfl (by first | exact wr64 (by omega) | exact rfl)) trivial rfl ?_
      refine Ch.nil ?_
      refine WP.cond rfl ?_ ?_
      · intro ht
        have ht' := of_decide_eq_true ht
        rw [walkT_go hx ht' hs.2] at hw
        have hsl := wstep_length c x y
        refine WP.skip ?_
        refine WP.seq ?_
        refine WP.block ?_
        refine WP.rg hG ?_
        refine Ch.mv rfl rfl ?_
        refine Ch.mv rfl rfl ?_
        refine Ch.mv rfl rfl ?_
        refine Ch.callP (rstep_fc hr c x y hy) gdN (by repeat (first | exact EvL.nil | (apply EvL.cons; exact rfl))) (by exact (And.intro (by first | exact .rfl _ | exact .untip _ _ _ | exact .nil | exact .func _ | exact AV.wk.sh (renL_s _ _) | exact AV.wk.sh (by simp; first | done | fail)) (And.intro (by first | exact .rfl _ | exact .untip _ _ _ | exact .nil | exact .func _ | exact AV.wk.sh (renL_s _ _) | exact AV.wk.sh (by simp; first | done | fail)) (And.intro (by first | exact .rfl _ | exact .untip _ _ _ | exact .nil | exact .func _ | exact AV.wk.sh (renL_s _ _) | exact AV.wk.sh (by simp; first | done | fail)) trivial)))) (by rfl) rfl ?_
        refine Ch.asg rfl rfl ?_
        refine Ch.nil ?_
        refine WP.rg hG ?_
        refine Ch.mv rfl rfl ?_
        refine Ch.pu gdN (by exact ⟨rfl, rfl, trivial⟩) (OpS.int rfl (by first | exact wr64 (by omega) | exact rfl)) trivial rfl ?_
        refine Ch.asg rfl rfl ?_
        refine Ch.nil ?_
        refine ⟨k - 1, _, by omega, (Ent.of [] ?_ ?_ ?_ ?_).se, x + 1, wstep c x y, ⟨by omega, by omega, by rw [hsl]; decide, hw⟩, rfl⟩
        · exact (fun i hi => by rw [hnA] at hi; simp only [List.length_cons, List.length_nil] at hi ⊢; first | exact absurd hi (Nat.not_lt_zero _) | (revert i; decide))
        · (repeat (first | exact trivial | (refine And.intro ⟨(by first | trivial | (simp; first | done | fail) | exact ⟨trivial, hbel _⟩), _, rfl, (by first | exact .rfl _ | exact .nil | exact .of_eq (by simp; first | done | fail) | exact AV.wk.sh (by simp; first | done | fail) | exact .untip _ _ _)⟩ ?_)))
        · (repeat (first | exact trivial | (refine And.intro ⟨rfl, (by first | trivial | (simp; first | done | fail) | exact ⟨trivial, hbel _⟩), (by first | rfl | (simp; first | done | fail))⟩ ?_)))
        · simp [rn]
      · intro ht
        have ht' := of_decide_eq_false ht
        rw [walkT_end (by omega)] at hw
        refine WP.exit ?_
        refine WP.rs hG ?_
        refine Ch.mv rfl rfl ?_
        refine Ch.asg rfl rfl ?_
        refine Ch.nil ?_
        exact WP.ret (Ret.one rfl (by rw [← hw]; exact .rfl _) trivial hnA)
theorem rsecret_fc {G : List (Nat × Array Value)} (hr : RefIn G) (s : Txw) (l c : Int) (hv : s.length ≤ 140737488355264) : FC Tryd.prog G 56 [sA s, .v (.int .i64 l), .v (.int .i64 c)] [] (sA (secretT s l c)) [] := by
  have hin := in3_len s (laidN l) (laidN c) 3
  rw [laidN_length, laidN_length] at hin
  have htl := tag_length 3 [s, laidN l, laidN c]
  have hval := rtag_fc hr.1 hr.2 3 [s, laidN l, laidN c] (by omega)
  refine FC.of_wp [6] Tryd.func56 rfl rfl rfl rfl (by first | trivial | (simp; first | done | fail) | exact ⟨trivial, hbel _⟩) (by first | trivial | (simp; first | done | fail) | exact ⟨trivial, hbel _⟩) (by exact Nat.le_of_ble_eq_true rfl) ?_
  intro A hG hnA hAB
  unfold start
  refine WP.rs hG ?_
  refine Ch.asg rfl rfl ?_
  refine Ch.nil ?_
  refine WP.rs hG ?_
  refine Ch.mv rfl rfl ?_
  refine Ch.mv rfl rfl ?_
  refine Ch.callP (rlaid_fc l) gdN (by repeat (first | exact EvL.nil | (apply EvL.cons; exact rfl))) (by exact (And.intro (by first | exact .rfl _ | exact .untip _ _ _ | exact .nil | exact .func _ | exact AV.wk.sh (renL_s _ _) | exact AV.wk.sh (by simp; first | done | fail)) trivial)) (by rfl) rfl ?_
  refine Ch.mv rfl rfl ?_
  refine Ch.callP (rlaid_fc c) gdN (by repeat (first | exact EvL.nil | (apply EvL.cons; exact rfl))) (by exact (And.intro (by first | exact .rfl _ | exact .untip _ _ _ | exact .nil | exact .func _ | exact AV.wk.sh (renL_s _ _) | exact AV.wk.sh (by simp; first | done | fail)) trivial)) (by rfl) rfl ?_
  refine Ch.pup gdN (by repeat (first | exact EvP.nil | (apply EvP.cons; exact rfl))) (OpS.slice1 (ys := ([s, laidN l, laidN c] : List Txw).map sA) rfl rfl rfl rfl rfl rfl (by rfl) rfl (by rfl)) rfl ?_
  refine Ch.callP (hval) gdN (by repeat (first | exact EvL.nil | (apply EvL.cons; exact rfl))) (by exact (And.intro (by first | exact .rfl _ | exact .untip _ _ _ | exact .nil | exact .func _ | exact AV.wk.sh (renL_s _ _) | exact AV.wk.sh (by simp; first | done | fail)) (And.intro (by first | exact .rfl _ | exact .untip _ _ _ | exact .nil | exact .func _ | exact AV.wk.sh (renL_s _ _) | exact AV.wk.sh (by simp; first | done | fail)) trivial))) (by rfl) rfl ?_
  refine Ch.pu gdN (by exact ⟨rfl, rfl, trivial⟩) (OpS.sliceSh rfl (by first | with_reducible exact Int.toNat_natCast _ | with_reducible exact tnLit _ _ | with_reducible exact tnLitA _ _ | with_reducible exact tnL _ | with_reducible exact tnA _ _ | with_reducible exact tnM _ _ | with_reducible exact tnMA _ _ _ | exact rfl) (by omega) (by omega)) trivial rfl ?_
  refine Ch.asg rfl rfl ?_
  refine Ch.nil ?_
  exact WP.ret (Ret.one rfl (.of_eq (by rw [secretT_eq]; rfl)) trivial hnA)
theorem dgs_succ (d : Txw) (m : Nat) : dgs d (m + 1) = dgs d m ++ [hiD d m, loD d m] := rfl
theorem lackD_succ (d : Txw) (m : Nat) : lackD d (m + 1) = lackD d m + (30 - hiD d m - loD d m) := rfl
theorem hi_eq (d : Txw) (m : Nat) : (U8 (nth d m)) / 16 = (hiD d m : Int) := by unfold U8 hiD; omega
theorem lo_eq (d : Txw) (m : Nat) : (U8 (nth d m)) % 16 = (loD d m : Int) := by unfold U8 loD; omega
attribute [local irreducible] hiD loD dgs lackD
theorem digits_fc0 {G : List (Nat × Array Value)} (hm : ShaIn G) (msg : Txw) (hv : msg.length ≤ 140737488355264) : FC Tryd.prog G 48 [sA msg] [] (.sl (some 0) (digitsT msg).length ((digitsT msg).map nA)) [some (.tip 3 1 (digitsT msg).length)] := by
  have hin := in1_len msg 1
  have htag := tag_fc hm 1 [msg] (by omega)
  have htl := tag_length 1 [msg]
  obtain ⟨d, hd⟩ : ∃ d, d = tag 1 [msg] := ⟨_, rfl⟩
  rw [← hd] at htag htl
  have hdt : digitsT msg = dgs d 4 ++ [lackD d 4 / 16, lackD d 4 % 16] := by rw [hd]; rfl
  have hdl := dgs_length d 4
  refine FC.of_wp [2] Tryd.func48 rfl rfl rfl rfl (by first | trivial | (simp; first | done | fail) | exact ⟨trivial, hbel _⟩) (by first | trivial | (simp; first | done | fail) | exact ⟨trivial, hbel _⟩) (by exact Nat.le_of_ble_eq_true rfl) ?_
  intro A hG hnA hAB
  unfold start
  refine WP.rs hG ?_
  refine Ch.asg rfl rfl ?_
  refine Ch.nil ?_
  refine WP.rs hG ?_
  refine Ch.al gdN (by exact ⟨rfl, rfl, trivial⟩) (OpS.makeTip (n := 10) (bb := 8) 0 rfl rfl rfl rfl rfl rfl rfl (by decide) (by decide)) (by first | exact trivial | exact ⟨rfl, trivial⟩) (by first | exact trivial | exact ⟨rfl, trivial⟩ | exact ⟨rfl, rfl, trivial⟩) rfl ?_
  refine Ch.asg rfl rfl ?_
  refine Ch.nil ?_
  refine WP.rs hG ?_
  refine Ch.asg rfl rfl ?_
  refine Ch.nil ?_
  refine WP.rs hG ?_
  refine Ch.mv rfl rfl ?_
  refine Ch.pup gdN (by repeat (first | exact EvP.nil | (apply EvP.cons; exact rfl))) (OpS.slice1 (ys := ([msg] : List Txw).map sA) rfl rfl rfl rfl rfl rfl (by rfl) rfl (by rfl)) rfl ?_
  refine Ch.callP (htag) gdN (by repeat (first | exact EvL.nil | (apply EvL.cons; exact rfl))) (by exact (And.intro (by first | exact .rfl _ | exact .untip _ _ _ | exact .nil | exact .func _ | exact AV.wk.sh (renL_s _ _) | exact AV.wk.sh (by simp; first | done | fail)) (And.intro (by first | exact .rfl _ | exact .untip _ _ _ | exact .nil | exact .func _ | exact AV.wk.sh (renL_s _ _) | exact AV.wk.sh (by simp; first | done | fail)) trivial))) (by rfl) rfl ?_
  refine Ch.asg rfl rfl ?_
  refine Ch.nil ?_
  refine WP.seq ?_
  refine WP.rs hG ?_
  refine Ch.mv rfl rfl ?_
  refine Ch.nil ?_
  refine WP.block ?_
  refine WP.loop (fun k σ => ∃ m : Nat, m + k = 4 ∧ σ = ⟨45, ls [(3, .sl (some 0) (2 * m) ((dgs d m).map nA)), (4, .v (.int .i64 ((lackD d m : Nat) : Int))), (5, sA d), (13, .v (.int .i64 (m : Int)))], lh [(0, .tip 3 1 (2 * m))], blt 1⟩) (4) (Ent.of [] ?_ ?_ ?_ ?_).se ⟨0, by omega, rfl⟩ ?_
  · exact (fun i hi => by rw [hnA] at hi; simp only [List.length_cons, List.length_nil] at hi ⊢; first | exact absurd hi (Nat.not_lt_zero _) | (revert i; decide))
  · (repeat (first | exact trivial | (refine And.intro ⟨(by first | trivial | (simp; first | done | fail) | exact ⟨trivial, hbel _⟩), _, rfl, (by first | exact .rfl _ | exact .nil | exact .of_eq (by simp [dgs, lackD]; first | done | fail) | exact AV.wk.sh (by simp [dgs, lackD]; first | done | fail) | exact .untip _ _ _)⟩ ?_)))
  · (repeat (first | exact trivial | (refine And.intro ⟨rfl, (by first | trivial | (simp; first | done | fail) | exact ⟨trivial, hbel _⟩), (by first | rfl | (simp [dgs, lackD]; first | done | fail))⟩ ?_)))
  · simp [rn]
  · rintro k σ ⟨m, hm', rfl⟩
    have hs1 := dgs_succ d m
    have hs2 := lackD_succ d m
    have hl1 := dgs_length d m
    have hl2 := lackD_le d m
    have hh := hi_eq d m
    have hlo := lo_eq d m
    have hb1 := hiD_lt d m
    have hb2 := loD_lt d m
    have hu := u8_bd (nth d m)
    have hsum : ((lackD d m : Nat) : Int) + (30 - (hiD d m : Int) - (loD d m : Int)) = ((lackD d (m + 1) : Nat) : Int) := by rw [hs2]; omega
    refine WP.rs hG ?_
    refine Ch.pu gdN (by exact ⟨rfl, rfl, trivial⟩) (OpS.int rfl (by first | exact wr64 (by omega) | exact rfl)) trivial rfl ?_
    refine Ch.nil ?_
    refine WP.seq ?_
    refine WP.cond rfl ?_ ?_
    · intro ht
      have ht' := of_decide_eq_true ht
      refine WP.skip ?_
      refine WP.seq ?_
      refine WP.block ?_
      refine WP.rs hG ?_
      refine Ch.mv rfl rfl ?_
      refine Ch.asg rfl rfl ?_
      refine Ch.nil ?_
      refine WP.rsD (by kernel_rfl) hG ?_
      refine Ch.mv rfl rfl ?_
      refine Ch.mv rfl rfl ?_
      refine Ch.pu gdN (by exact ⟨rfl, rfl, trivial⟩) (OpS.indexS rfl (by first | with_reducible exact Int.toNat_natCast _ | with_reducible exact tnLit _ _ | with_reducible exact tnLitA _ _ | with_reducible exact tnL _ | with_reducible exact tnA _ _ | with_reducible exact tnM _ _ | with_reducible exact tnMA _ _ _ | exact rfl) (by omega) (by omega)) trivial rfl ?_
      refine Ch.pu gdN (by exact ⟨rfl, trivial⟩) (OpS.conv (k := .i64) rfl rfl (cv_i64_u8 (nth d m))) trivial rfl ?_
      refine Ch.pu gdN (by exact ⟨rfl, rfl, trivial⟩) (OpS.quo (by omega) (by omega) (by omega)) trivial rfl ?_
      refine Ch.mv rfl rfl ?_
      refine Ch.mv rfl rfl ?_
      refine Ch.pu gdN (by exact ⟨rfl, rfl, trivial⟩) (OpS.indexS rfl (by first | with_reducible exact Int.toNat_natCast _ | with_reducible exact tnLit _ _ | with_reducible exact tnLitA _ _ | with_reducible exact tnL _ | with_reducible exact tnA _ _ | with_reducible exact tnM _ _ | with_reducible exact tnMA _ _ _ | exact rfl) (by omega) (by omega)) trivial rfl ?_
      refine Ch.pu gdN (by exact ⟨rfl, trivial⟩) (OpS.conv (k := .i64) rfl rfl (cv_i64_u8 (nth d m))) trivial rfl ?_
      refine Ch.pu gdN (by exact ⟨rfl, rfl, trivial⟩) (OpS.rem (by omega) (by omega)) trivial rfl ?_
      refine Ch.asg rfl rfl ?_
      refine Ch.asg rfl rfl ?_
      refine Ch.nilD ?_ (by kernel_rfl)
      rw [hh, hlo]
      refine WP.rs hG ?_
      refine Ch.mv rfl rfl ?_
      refine Ch.mv rfl rfl ?_
      refine Ch.mv rfl rfl ?_
      refine Ch.pup gdN (by repeat (first | exact EvP.nil | (apply EvP.cons; exact rfl))) (OpS.slice1 (ys := ([hiD d m, loD d m] : List Nat).map nA) rfl rfl rfl rfl rfl rfl (by rfl) rfl (by rfl)) rfl ?_
      refine Ch.al gdN (by exact ⟨rfl, rfl, trivial⟩) (OpS.append (sz := 1) (bb := 8) 1 rfl rfl rfl rfl rfl (by decide) (SrcA.sl rfl (by simp)) (by first | (simp; done) | (simp; assumption)) (by simp) (by unfold maxLen; omega) rfl (by omega)) (by first | exact trivial | exact ⟨rfl, trivial⟩) (by first | exact trivial | exact ⟨rfl, trivial⟩ | exact ⟨rfl, rfl, trivial⟩) rfl ?_
      refine Ch.asg rfl rfl ?_
      refine Ch.nil ?_
      refine WP.rg hG ?_
      refine Ch.mv rfl rfl ?_
      refine Ch.mv rfl rfl ?_
      refine Ch.pu gdN (by exact ⟨rfl, rfl, trivial⟩) (OpS.int rfl (by first | exact wr64 (by omega) | exact rfl)) trivial rfl ?_
      refine Ch.mv rfl rfl ?_
      refine Ch.pu gdN (by exact ⟨rfl, rfl, trivial⟩) (OpS.int rfl (by first | exact wr64 (by omega) | exact rfl)) trivial rfl ?_
      refine Ch.pu gdN (by exact ⟨rfl, rfl, trivial⟩) (OpS.int rfl (by first | exact wr64 (by omega) | exact rfl)) trivial rfl ?_
      refine Ch.asg rfl rfl ?_
      refine Ch.nil ?_
      refine WP.rg hG ?_
      refine Ch.pu gdN (by exact ⟨rfl, rfl, trivial⟩) (OpS.int rfl (by first | exact wr64 (by omega) | exact rfl)) trivial rfl ?_
      refine Ch.mv rfl rfl ?_
      refine Ch.nil ?_
      refine ⟨k - 1, _, by omega, (Ent.of [1] ?_ ?_ ?_ ?_).se, m + 1, by omega, rfl⟩
      · exact (fun i hi => by rw [hnA] at hi; simp only [List.length_cons, List.length_nil] at hi ⊢; first | exact absurd hi (Nat.not_lt_zero _) | (revert i; decide))
      · (repeat (first | exact trivial | (refine And.intro ⟨(by first | trivial | (simp; first | done | fail) | exact ⟨trivial, hbel _⟩), _, rfl, (by first | exact .rfl _ | exact .nil | exact .of_eq (by simp [hs1, hsum, Nat.mul_add]; first | done | fail) | exact AV.wk.sh (by simp [hs1, hsum, Nat.mul_add]; first | done | fail) | exact .untip _ _ _)⟩ ?_)))
      · (repeat (first | exact trivial | (refine And.intro ⟨rfl, (by first | trivial | (simp; first | done | fail) | exact ⟨trivial, hbel _⟩), (by first | rfl | (simp [hs1, hsum, Nat.mul_add]; first | done | fail))⟩ ?_)))
      · simp [rn]
    · intro ht
      have ht' := of_decide_eq_false ht
      obtain rfl : m = 4 := by omega
      refine WP.exit ?_
      refine WP.rs hG ?_
      refine Ch.mv rfl rfl ?_
      refine Ch.mv rfl rfl ?_
      refine Ch.pu gdN (by exact ⟨rfl, rfl, trivial⟩) (OpS.quo (by omega) (by omega) (by omega)) trivial rfl ?_
      refine Ch.mv rfl rfl ?_
      refine Ch.pu gdN (by exact ⟨rfl, rfl, trivial⟩) (OpS.rem (by omega) (by omega)) trivial rfl ?_
      refine Ch.pup gdN (by repeat (first | exact EvP.nil | (apply EvP.cons; exact rfl))) (OpS.slice1 (ys := ([lackD d 4 / 16, lackD d 4 % 16] : List Nat).map nA) rfl rfl rfl rfl rfl rfl (by rfl) rfl (by rfl)) rfl ?_
      refine Ch.al gdN (by exact ⟨rfl, rfl, trivial⟩) (OpS.append (sz := 1) (bb := 8) 1 rfl rfl rfl rfl rfl (by decide) (SrcA.sl rfl (by simp)) (by first | (simp; done) | (simp; assumption)) (by simp) (by unfold maxLen; omega) rfl (by omega)) (by first | exact trivial | exact ⟨rfl, trivial⟩) (by first | exact trivial | exact ⟨rfl, trivial⟩ | exact ⟨rfl, rfl, trivial⟩) rfl ?_
      refine Ch.asg rfl rfl ?_
      refine Ch.nil ?_
      rw [hdt]
      exact WP.ret (Ret.row 1 rfl (.of_eq (by simp [hdl])) (by simp) (by simp [hdl]) trivial hnA)
theorem digits_fc {G : List (Nat × Array Value)} (hm : ShaIn G) (msg : Txw) (hv : msg.length ≤ 140737488355264) : FC Tryd.prog G 48 [sA msg] [] (.sl none (digitsT msg).length ((digitsT msg).map nA)) [] :=
  (digits_fc0 hm msg hv).shut (belL_n _ _) (renL_n _ _)
theorem rdigits_fc0 {G : List (Nat × Array Value)} (hr : RefIn G) (msg : Txw) (hv : msg.length ≤ 140737488355264) : FC Tryd.prog G 59 [sA msg] [] (.sl (some 0) (digitsT msg).length ((digitsT msg).map nA)) [some (.tip 3 1 (digitsT msg).length)] := by
  have hin := in1_len msg 1
  have htag := rtag_fc hr.1 hr.2 1 [msg] (by omega)
  have htl := tag_length 1 [msg]
  obtain ⟨d, hd⟩ : ∃ d, d = tag 1 [msg] := ⟨_, rfl⟩
  rw [← hd] at htag htl
  have hdt : digitsT msg = dgs d 4 ++ [lackD d 4 / 16, lackD d 4 % 16] := by rw [hd]; rfl
  have hdl := dgs_length d 4
  refine FC.of_wp [2] Tryd.func59 rfl rfl rfl rfl (by first | trivial | (simp; first | done | fail) | exact ⟨trivial, hbel _⟩) (by first | trivial | (simp; first | done | fail) | exact ⟨trivial, hbel _⟩) (by exact Nat.le_of_ble_eq_true rfl) ?_
  intro A hG hnA hAB
  unfold start
  refine WP.rs hG ?_
  refine Ch.asg rfl rfl ?_
  refine Ch.nil ?_
  refine WP.rs hG ?_
  refine Ch.mv rfl rfl ?_
  refine Ch.pup gdN (by repeat (first | exact EvP.nil | (apply EvP.cons; exact rfl))) (OpS.slice1 (ys := ([msg] : List Txw).map sA) rfl rfl rfl rfl rfl rfl (by rfl) rfl (by rfl)) rfl ?_
  refine Ch.callP (htag) gdN (by repeat (first | exact EvL.nil | (apply EvL.cons; exact rfl))) (by exact (And.intro (by first | exact .rfl _ | exact .untip _ _ _ | exact .nil | exact .func _ | exact AV.wk.sh (renL_s _ _) | exact AV.wk.sh (by simp; first | done | fail)) (And.intro (by first | exact .rfl _ | exact .untip _ _ _ | exact .nil | exact .func _ | exact AV.wk.sh (renL_s _ _) | exact AV.wk.sh (by simp; first | done | fail)) trivial))) (by rfl) rfl ?_
  refine Ch.asg rfl rfl ?_
  refine Ch.nil ?_
  refine WP.rs hG ?_
  refine Ch.al gdN (by exact ⟨rfl, trivial⟩) (OpS.assignTip 0 3 1) (by first | exact trivial | exact ⟨rfl, trivial⟩) (by first | exact trivial | exact ⟨rfl, trivial⟩ | exact ⟨rfl, rfl, trivial⟩) rfl ?_
  refine Ch.nil ?_
  refine WP.rs hG ?_
  refine Ch.asg rfl rfl ?_
  refine Ch.nil ?_
  refine WP.seq ?_
  refine WP.rs hG ?_
  refine Ch.asg rfl rfl ?_
  refine Ch.nil ?_
  refine WP.block ?_
  refine WP.loop (fun k σ => ∃ m : Nat, m + k = 4 ∧ σ = ⟨45, ls [(4, .sl (some 0) (2 * m) ((dgs d m).map nA)), (5, .v (.int .i64 ((lackD d m : Nat) : Int))), (3, sA d), (6, .v (.int .i64 (m : Int)))], lh [(0, .tip 3 1 (2 * m))], blt 1⟩) (4) (Ent.of [] ?_ ?_ ?_ ?_).se ⟨0, by omega, rfl⟩ ?_
  · exact (fun i hi => by rw [hnA] at hi; simp only [List.length_cons, List.length_nil] at hi ⊢; first | exact absurd hi (Nat.not_lt_zero _) | (revert i; decide))
  · (repeat (first | exact trivial | (refine And.intro ⟨(by first | trivial | (simp; first | done | fail) | exact ⟨trivial, hbel _⟩), _, rfl, (by first | exact .rfl _ | exact .nil | exact .of_eq (by simp [dgs, lackD]; first | done | fail) | exact AV.wk.sh (by simp [dgs, lackD]; first | done | fail) | exact .untip _ _ _)⟩ ?_)))
  · (repeat (first | exact trivial | (refine And.intro ⟨rfl, (by first | trivial | (simp; first | done | fail) | exact ⟨trivial, hbel _⟩), (by first | rfl | (simp [dgs, lackD]; first | done | fail))⟩ ?_)))
  · simp [rn]
  · rintro k σ ⟨m, hm', rfl⟩
    have hs1 := dgs_succ d m
    have hs2 := lackD_succ d m
    have hl1 := dgs_length d m
    have hl2 := lackD_le d m
    have hh := hi_eq d m
    have hlo := lo_eq d m
    have hb1 := hiD_lt d m
    have hb2 := loD_lt d m
    have hu := u8_bd (nth d m)
    have hsum : ((lackD d m : Nat) : Int) + 15 - (hiD d m : Int) + 15 - (loD d m : Int) = ((lackD d (m + 1) : Nat) : Int) := by rw [hs2]; omega
    refine WP.seq ?_
    refine WP.rs hG ?_
    refine Ch.mv rfl rfl ?_
    refine Ch.pu gdN (by exact ⟨rfl, rfl, trivial⟩) (OpS.int rfl (by first | exact wr64 (by omega) | exact rfl)) trivial rfl ?_
    refine Ch.nil ?_
    refine WP.cond rfl ?_ ?_
    · intro ht
      have ht' := of_decide_eq_true ht
      refine WP.skip ?_
      refine WP.seq ?_
      refine WP.block ?_
      refine WP.rs hG ?_
      refine Ch.mv rfl rfl ?_
      refine Ch.mv rfl rfl ?_
      refine Ch.pu gdN (by exact ⟨rfl, rfl, trivial⟩) (OpS.indexS rfl (by first | with_reducible exact Int.toNat_natCast _ | with_reducible exact tnLit _ _ | with_reducible exact tnLitA _ _ | with_reducible exact tnL _ | with_reducible exact tnA _ _ | with_reducible exact tnM _ _ | with_reducible exact tnMA _ _ _ | exact rfl) (by omega) (by omega)) trivial rfl ?_
      refine Ch.pu gdN (by exact ⟨rfl, trivial⟩) (OpS.conv (k := .i64) rfl rfl (cv_i64_u8 (nth d m))) trivial rfl ?_
      refine Ch.pu gdN (by exact ⟨rfl, rfl, trivial⟩) (OpS.quo (by omega) (by omega) (by omega)) trivial rfl ?_
      refine Ch.asg rfl rfl ?_
      refine Ch.nil ?_
      refine WP.rs hG ?_
      refine Ch.mv rfl rfl ?_
      refine Ch.mv rfl rfl ?_
      refine Ch.pu gdN (by exact ⟨rfl, rfl, trivial⟩) (OpS.indexS rfl (by first | with_reducible exact Int.toNat_natCast _ | with_reducible exact tnLit _ _ | with_reducible exact tnLitA _ _ | with_reducible exact tnL _ | with_reducible exact tnA _ _ | with_reducible exact tnM _ _ | with_reducible exact tnMA _ _ _ | exact rfl) (by omega) (by omega)) trivial rfl ?_
      refine Ch.pu gdN (by exact ⟨rfl, trivial⟩) (OpS.conv (k := .i64) rfl rfl (cv_i64_u8 (nth d m))) trivial rfl ?_
      refine Ch.pu gdN (by exact ⟨rfl, rfl, trivial⟩) (OpS.rem (by omega) (by omega)) trivial rfl ?_
      refine Ch.asg rfl rfl ?_
      refine Ch.nil ?_
      rw [hh, hlo]
      refine WP.rs hG ?_
      refine Ch.mv rfl rfl ?_
      refine Ch.mv rfl rfl ?_
      refine Ch.mv rfl rfl ?_
      refine Ch.pup gdN (by repeat (first | exact EvP.nil | (apply EvP.cons; exact rfl))) (OpS.slice1 (ys := ([hiD d m, loD d m] : List Nat).map nA) rfl rfl rfl rfl rfl rfl (by rfl) rfl (by rfl)) rfl ?_
      refine Ch.al gdN (by exact ⟨rfl, rfl, trivial⟩) (OpS.append (sz := 1) (bb := 8) 1 rfl rfl rfl rfl rfl (by decide) (SrcA.sl rfl (by simp)) (by first | (simp; done) | (simp; assumption)) (by simp) (by unfold maxLen; omega) rfl (by omega)) (by first | exact trivial | exact ⟨rfl, trivial⟩) (by first | exact trivial | exact ⟨rfl, trivial⟩ | exact ⟨rfl, rfl, trivial⟩) rfl ?_
      refine Ch.asg rfl rfl ?_
      refine Ch.nil ?_
      refine WP.rg hG ?_
      refine Ch.mv rfl rfl ?_
      refine Ch.pu gdN (by exact ⟨rfl, rfl, trivial⟩) (OpS.int rfl (by first | exact wr64 (by omega) | exact rfl)) trivial rfl ?_
      refine Ch.mv rfl rfl ?_
      refine Ch.pu gdN (by exact ⟨rfl, rfl, trivial⟩) (OpS.int rfl (by first | exact wr64 (by omega) | exact rfl)) trivial rfl ?_
      refine Ch.pu gdN (by exact ⟨rfl, rfl, trivial⟩) (OpS.int rfl (by first | exact wr64 (by omega) | exact rfl)) trivial rfl ?_
      refine Ch.mv rfl rfl ?_
      refine Ch.pu gdN (by exact ⟨rfl, rfl, trivial⟩) (OpS.int rfl (by first | exact wr64 (by omega) | exact rfl)) trivial rfl ?_
      refine Ch.asg rfl rfl ?_
      refine Ch.nil ?_
      refine WP.rg hG ?_
      refine Ch.mv rfl rfl ?_
      refine Ch.pu gdN (by exact ⟨rfl, rfl, trivial⟩) (OpS.int rfl (by first | exact wr64 (by omega) | exact rfl)) trivial rfl ?_
      refine Ch.asg rfl rfl ?_
      refine Ch.nil ?_
      refine ⟨k - 1, _, by omega, (Ent.of [1] ?_ ?_ ?_ ?_).se, m + 1, by omega, rfl⟩
      · exact (fun i hi => by rw [hnA] at hi; simp only [List.length_cons, List.length_nil] at hi ⊢; first | exact absurd hi (Nat.not_lt_zero _) | (revert i; decide))
      · (repeat (first | exact trivial | (refine And.intro ⟨(by first | trivial | (simp; first | done | fail) | exact ⟨trivial, hbel _⟩), _, rfl, (by first | exact .rfl _ | exact .nil | exact .of_eq (by simp [hs1, hsum, Nat.mul_add]; first | done | fail) | exact AV.wk.sh (by simp [hs1, hsum, Nat.mul_add]; first | done | fail) | exact .untip _ _ _)⟩ ?_)))
      · (repeat (first | exact trivial | (refine And.intro ⟨rfl, (by first | trivial | (simp; first | done | fail) | exact ⟨trivial, hbel _⟩), (by first | rfl | (simp [hs1, hsum, Nat.mul_add]; first | done | fail))⟩ ?_)))
      · simp [rn]
    · intro ht
      have ht' := of_decide_eq_false ht
      obtain rfl : m = 4 := by omega
      refine WP.exit ?_
      refine WP.rs hG ?_
      refine Ch.mv rfl rfl ?_
      refine Ch.mv rfl rfl ?_
      refine Ch.pu gdN (by exact ⟨rfl, rfl, trivial⟩) (OpS.quo (by omega) (by omega) (by omega)) trivial rfl ?_
      refine Ch.mv rfl rfl ?_
      refine Ch.pu gdN (by exact ⟨rfl, rfl, trivial⟩) (OpS.rem (by omega) (by omega)) trivial rfl ?_
      refine Ch.pup gdN (by repeat (first | exact EvP.nil | (apply EvP.cons; exact rfl))) (OpS.slice1 (ys := ([lackD d 4 / 16, lackD d 4 % 16] : List Nat).map nA) rfl rfl rfl rfl rfl rfl (by rfl) rfl (by rfl)) rfl ?_
      refine Ch.al gdN (by exact ⟨rfl, rfl, trivial⟩) (OpS.append (sz := 1) (bb := 8) 1 rfl rfl rfl rfl rfl (by decide) (SrcA.sl rfl (by simp)) (by first | (simp; done) | (simp; assumption)) (by simp) (by unfold maxLen; omega) rfl (by omega)) (by first | exact trivial | exact ⟨rfl, trivial⟩) (by first | exact trivial | exact ⟨rfl, trivial⟩ | exact ⟨rfl, rfl, trivial⟩) rfl ?_
      refine Ch.asg rfl rfl ?_
      refine Ch.nil ?_
      rw [hdt]
      exact WP.ret (Ret.row 1 rfl (.of_eq (by simp [hdl])) (by simp) (by simp [hdl]) trivial hnA)
theorem rdigits_fc {G : List (Nat × Array Value)} (hr : RefIn G) (msg : Txw) (hv : msg.length ≤ 140737488355264) : FC Tryd.prog G 59 [sA msg] [] (.sl none (digitsT msg).length ((digitsT msg).map nA)) [] :=
  (rdigits_fc0 hr msg hv).shut (belL_n _ _) (renL_n _ _)
end Go.Proofs.YtcojfnjpcpochaaDoor.E
end
