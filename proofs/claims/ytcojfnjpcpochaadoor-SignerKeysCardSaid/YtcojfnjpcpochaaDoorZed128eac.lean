import Derived.Test.YtcojfnjpcpochaaDoorZa2b2fe3b
import Derived.Test.YtcojfnjpcpochaaDoorZc0705748
import Derived.RangeFuncFrom
import Derived.RangeFuncLeaves
import Derived.RangeFuncCalls
import Derived.OrdersIn
import Derived.TacticsIn
import Derived.StillTail
section
namespace Go.Proofs.YtcojfnjpcpochaaDoor.E
open Go Go.RowKit Go.Proofs.YtcojfnjpcpochaaDoor.V
attribute [local go_sem] B_size B_append B_extract mk_B B_toList take_drop_len List.length_drop List.length_take sgn32 sgn64 add32 sub32 mul32 add64 sub64 mul64 mul64_8 and32 or32 xor32 and64 or64 xor64 shl32_run shr32_run shl64_run shr64_run not32 not32' xor32_all w_u32_u8 w_u64_u8 w_i64_u8 w_u8_u32 w_u8_u64 w_u32_u64 w_u64_u32 w_u8_u8 w_u32_u32 w_u64_u64
attribute [local go_sem ↓] run_index_B' add32 sub32 mul32 add64 sub64 mul64 mul64_8 and32 or32 xor32 and64 or64 xor64 shl32_run shr32_run shl64_run shr64_run not32 not32' xor32_all w_u32_u8 w_u64_u8 w_i64_u8 w_u8_u32 w_u8_u64 w_u32_u64 w_u64_u32 w_u8_u8 w_u32_u32 w_u64_u64 w_u64_nat w_u32_nat w_u8_nat
set_option maxRecDepth 4000
abbrev rwH (l : List UInt8) : List (Option AO) := [some (.cells 88 [sA l])]
end Go.Proofs.YtcojfnjpcpochaaDoor.E
end
section
namespace Go.Proofs.YtcojfnjpcpochaaDoor.V
abbrev Txw := List UInt8
def nrm (n : Int) : Nat := if n < 0 ∨ 4294967296 < n then 0 else n.toNat
def laidN (n : Int) : Txw := beS (UInt64.ofNat (nrm n)) 8
theorem laidN_length (n : Int) : (laidN n).length = 8 := beS_length _ _
def hiD (d : Txw) (i : Nat) : Nat := (nth d i).toNat / 16
def loD (d : Txw) (i : Nat) : Nat := (nth d i).toNat % 16
theorem hiD_lt (d : Txw) (i : Nat) : hiD d i < 16 := by unfold hiD; have := (nth d i).toNat_lt; omega
theorem loD_lt (d : Txw) (i : Nat) : loD d i < 16 := by unfold loD; omega
def dgs (d : Txw) : Nat → List Nat
  | 0 => []
  | m + 1 => dgs d m ++ [hiD d m, loD d m]
def lackD (d : Txw) : Nat → Nat
  | 0 => 0
  | m + 1 => lackD d m + (30 - hiD d m - loD d m)
theorem dgs_length (d : Txw) : ∀ m, (dgs d m).length = 2 * m
  | 0 => rfl
  | m + 1 => by simp [dgs, dgs_length d m]; omega
theorem lackD_le (d : Txw) : ∀ m, lackD d m ≤ 30 * m
  | 0 => Nat.le_refl _
  | m + 1 => by have := lackD_le d m; simp only [lackD]; omega
def digitsD (d : Txw) : List Nat := dgs d 4 ++ [lackD d 4 / 16, lackD d 4 % 16]
def digitsT (msg : Txw) : List Nat := digitsD (tag 1 [msg])
theorem digitsT_length (msg : Txw) : (digitsT msg).length = 10 := by simp [digitsT, digitsD, dgs_length]
def nget (l : List Nat) (i : Nat) : Nat := l[i]?.getD 0
theorem digitsD_list (d : Txw) : digitsD d = [hiD d 0, loD d 0, hiD d 1, loD d 1, hiD d 2, loD d 2, hiD d 3, loD d 3, lackD d 4 / 16, lackD d 4 % 16] := rfl
theorem digits_ten (d : Txw) : ∃ a0 a1 a2 a3 a4 a5 a6 a7 a8 a9 : Nat, digitsD d = [a0, a1, a2, a3, a4, a5, a6, a7, a8, a9] ∧ a0 < 16 ∧ a1 < 16 ∧ a2 < 16 ∧ a3 < 16 ∧ a4 < 16 ∧ a5 < 16 ∧ a6 < 16 ∧ a7 < 16 ∧ a8 < 16 ∧ a9 < 16 ∧
    (15 - a0) + (15 - a1) + (15 - a2) + (15 - a3) + (15 - a4) + (15 - a5) + (15 - a6) + (15 - a7) = 16 * a8 + a9 := by
  have h0 := hiD_lt d 0; have h1 := loD_lt d 0; have h2 := hiD_lt d 1; have h3 := loD_lt d 1; have h4 := hiD_lt d 2; have h5 := loD_lt d 2; have h6 := hiD_lt d 3; have h7 := loD_lt d 3
  refine ⟨_, _, _, _, _, _, _, _, _, _, digitsD_list d, h0, h1, h2, h3, h4, h5, h6, h7, ?_, ?_, ?_⟩
  · have := lackD_le d 4; omega
  · omega
  · simp only [lackD]; omega
theorem digits_lt (d : Txw) (i : Nat) : nget (digitsD d) i < 16 := by
  obtain ⟨a0, a1, a2, a3, a4, a5, a6, a7, a8, a9, he, h0, h1, h2, h3, h4, h5, h6, h7, h8, h9, _⟩ := digits_ten d
  rw [he]
  match i with
  | 0 => exact h0
  | 1 => exact h1
  | 2 => exact h2
  | 3 => exact h3
  | 4 => exact h4
  | 5 => exact h5
  | 6 => exact h6
  | 7 => exact h7
  | 8 => exact h8
  | 9 => exact h9
  | _ + 10 => exact (by decide : (0 : Nat) < 16)
def wstep (c a : Int) (v : Txw) : Txw := (tag 2 [laidN c, laidN a, v]).take 16
theorem wstep_length (c a : Int) (v : Txw) : (wstep c a v).length = 16 := by simp [wstep, tag_length]
def walkN (c : Int) : Nat → Int → Txw → Txw
  | 0, _, v => v
  | n + 1, a, v => walkN c n (a + 1) (wstep c a v)
def walkT (c a b : Int) (v : Txw) : Txw := if a < 0 ∨ 15 < b then v else walkN c (b - a).toNat a v
theorem walkN_add (c : Int) : ∀ (m n : Nat) (a : Int) (v : Txw), walkN c (m + n) a v = walkN c n (a + m) (walkN c m a v)
  | 0, n, a, v => by simp [walkN]
  | m + 1, n, a, v => by
    rw [show m + 1 + n = (m + n) + 1 by omega]
    show walkN c (m + n) (a + 1) (wstep c a v) = walkN c n (a + ((m + 1 : Nat) : Int)) (walkN c m (a + 1) (wstep c a v))
    rw [walkN_add c m n]
    congr 1
    omega
theorem walkN_length (c : Int) : ∀ (n : Nat) (a : Int) (v : Txw), v.length = 16 → (walkN c n a v).length = 16
  | 0, _, _, h => h
  | n + 1, a, v, _ => walkN_length c n _ _ (wstep_length c a v)
theorem walkT_length (c a b : Int) (v : Txw) (h : v.length = 16) : (walkT c a b v).length = 16 := by
  unfold walkT
  split
  · exact h
  · exact walkN_length _ _ _ _ h
theorem walk_on (c : Int) (a b e : Nat) (v : Txw) (h1 : a ≤ b) (h2 : b ≤ e) (h3 : e ≤ 15) : walkT c b e (walkT c a b v) = walkT c a e v := by
  unfold walkT
  rw [if_neg (by omega), if_neg (by omega), if_neg (by omega)]
  rw [show ((e : Int) - (a : Int)).toNat = (b - a) + (e - b) by omega, walkN_add, show ((b : Int) - (a : Int)).toNat = b - a by omega, show ((e : Int) - (b : Int)).toNat = e - b by omega]
  congr 1
  omega
def secretT (seed : Txw) (leaf c : Int) : Txw := (tag 3 [seed, laidN leaf, laidN c]).take 16
theorem secretT_length (seed : Txw) (leaf c : Int) : (secretT seed leaf c).length = 16 := by simp [secretT, tag_length]
def joinL (f : Nat → Txw) : Nat → Txw
  | 0 => []
  | n + 1 => joinL f n ++ f n
def endsL (f : Nat → Txw) (n : Nat) : List Txw := (List.range n).map f
theorem endsL_succ (f : Nat → Txw) (n : Nat) : endsL f (n + 1) = endsL f n ++ [f n] := by simp [endsL, List.range_succ]
theorem joinL_length (f : Nat → Txw) (h : ∀ c, (f c).length = 16) : ∀ n, (joinL f n).length = 16 * n
  | 0 => rfl
  | n + 1 => by rw [joinL, List.length_append, joinL_length f h n, h]; omega
theorem joinL_piece (f : Nat → Txw) (h : ∀ c, (f c).length = 16) : ∀ (n c : Nat), c < n → ((joinL f n).drop (16 * c)).take 16 = f c
  | n + 1, c, hc => by
    have hl := joinL_length f h n
    rw [joinL]
    by_cases hcn : c = n
    · subst hcn
      rw [List.drop_append_of_le_length (by omega), List.drop_of_length_le (by omega), List.nil_append, List.take_of_length_le (by rw [h]; omega)]
    · rw [List.drop_append_of_le_length (by omega), List.take_append_of_le_length (by rw [List.length_drop]; omega)]
      exact joinL_piece f h n c (by omega)
def pubF (seed : Txw) (leaf : Int) (c : Nat) : Txw := walkT c 0 15 (secretT seed leaf c)
def signF (seed : Txw) (leaf : Int) (d : List Nat) (c : Nat) : Txw := walkT c 0 (nget d c) (secretT seed leaf c)
def fromF (sig : Txw) (d : List Nat) (c : Nat) : Txw := walkT c (nget d c) 15 ((sig.drop (16 * c)).take 16)
def pubT (seed : Txw) (leaf : Int) : Txw := tag 4 (endsL (pubF seed leaf) 10)
def signT (seed : Txw) (leaf : Int) (msg : Txw) : Txw := joinL (signF seed leaf (digitsT msg)) 10
def fromT (sig msg : Txw) : Txw := if sig.length = 160 then tag 4 (endsL (fromF sig (digitsT msg)) 10) else []
theorem signF_length (seed : Txw) (leaf : Int) (d : List Nat) (c : Nat) : (signF seed leaf d c).length = 16 := walkT_length _ _ _ _ (secretT_length _ _ _)
theorem signT_length (seed : Txw) (leaf : Int) (msg : Txw) : (signT seed leaf msg).length = 160 := joinL_length _ (signF_length _ _ _) 10
theorem sign_ends (seed : Txw) (leaf : Int) (msg : Txw) (c : Nat) (hc : c < 10) : fromF (signT seed leaf msg) (digitsT msg) c = pubF seed leaf c := by
  unfold fromF signT
  rw [joinL_piece _ (signF_length _ _ _) 10 c hc]
  unfold signF pubF
  have := digits_lt (tag 1 [msg]) c
  exact walk_on c 0 (nget (digitsT msg) c) 15 _ (Nat.zero_le _) (by show nget (digitsD _) c ≤ 15; omega) (Nat.le_refl _)
theorem sign_back (seed : Txw) (leaf : Int) (msg : Txw) : fromT (signT seed leaf msg) msg = pubT seed leaf := by
  unfold fromT pubT
  rw [if_pos (signT_length _ _ _)]
  congr 1
  unfold endsL
  exact List.map_congr_left fun c hc => sign_ends seed leaf msg c (by simpa using hc)
theorem pubF_length (seed : Txw) (leaf : Int) (c : Nat) : (pubF seed leaf c).length = 16 := walkT_length _ _ _ _ (secretT_length _ _ _)
theorem fromF_length (sig : Txw) (d : List Nat) (c : Nat) (h : sig.length = 160) (hc : c < 10) : (fromF sig d c).length = 16 := walkT_length _ _ _ _ (by rw [List.length_take, List.length_drop]; omega)
end Go.Proofs.YtcojfnjpcpochaaDoor.V
end
section
namespace Go.Proofs.YtcojfnjpcpochaaDoor.E
open Go Go.RowKit Go.Proofs.YtcojfnjpcpochaaDoor.V
attribute [local go_sem] B_size B_append B_extract mk_B B_toList take_drop_len List.length_drop List.length_take sgn32 sgn64 add32 sub32 mul32 add64 sub64 mul64 mul64_8 and32 or32 xor32 and64 or64 xor64 shl32_run shr32_run shl64_run shr64_run not32 not32' xor32_all w_u32_u8 w_u64_u8 w_i64_u8 w_u8_u32 w_u8_u64 w_u32_u64 w_u64_u32 w_u8_u8 w_u32_u32 w_u64_u64
attribute [local go_sem ↓] run_index_B' add32 sub32 mul32 add64 sub64 mul64 mul64_8 and32 or32 xor32 and64 or64 xor64 shl32_run shr32_run shl64_run shr64_run not32 not32' xor32_all w_u32_u8 w_u64_u8 w_i64_u8 w_u8_u32 w_u8_u64 w_u32_u64 w_u64_u32 w_u8_u8 w_u32_u32 w_u64_u64 w_u64_nat w_u32_nat w_u8_nat
set_option maxRecDepth 4000
theorem nrm_cases (n : Int) : n < 0 ∨ (0 ≤ n ∧ 4294967296 < n) ∨ (0 ≤ n ∧ n ≤ 4294967296) := by omega
theorem nrm_0 {n : Int} (h : n < 0 ∨ 4294967296 < n) : nrm n = 0 := if_pos h
theorem nrm_n {n : Int} (h : 0 ≤ n ∧ n ≤ 4294967296) : nrm n = n.toNat := if_neg (by omega)
attribute [local irreducible] sum tag input
theorem laid_fc {G : List (Nat × Array Value)} (n : Int) : FC Tryd.prog G 72 [.v (.int .i64 n)] [] (sA (laidN n)) [] := by
  refine FC.of_wp [2] Tryd.func72 rfl rfl rfl rfl (by first | trivial | (simp; first | done | fail) | exact ⟨trivial, hbel _⟩) (by first | trivial | (simp; first | done | fail) | exact ⟨trivial, hbel _⟩) (by exact Nat.le_of_ble_eq_true rfl) ?_
  intro A hG hnA hAB
  unfold start
  refine WP.rs hG ?_
  refine Ch.asg rfl rfl ?_
  refine Ch.nil ?_
  refine WP.seqJ (fun σ => ∃ m : Nat, m = nrm n ∧ σ = ⟨17, ls [(0, .v (.int .i64 (m : Int)))], lh [], blt 0⟩) ?_ ?_
  · skip
    rcases nrm_cases n with hq | hq | hq
    · have hs := hq
      refine WP.rs hG ?_
      refine Ch.mv rfl rfl ?_
      refine Ch.pu gdN (by exact ⟨rfl, rfl, trivial⟩) (OpS.int (v' := .bool true) rfl (by first | (simp [hs]; done) | (have hs2 := hs; simp; omega) | fail)) trivial rfl ?_
      refine Ch.mv rfl rfl ?_
      refine Ch.skU (gdF rfl rfl rfl) rfl ?_
      refine Ch.skU (gdF rfl rfl rfl) rfl ?_
      refine Ch.pu gdN (by first | exact ⟨rfl, rfl, trivial⟩ | exact ⟨rfl, rfl, rfl, trivial⟩) (OpS.pickT) trivial rfl ?_
      refine Ch.nil ?_
      refine WP.cond_true rfl ?_
      refine WP.rg hG ?_
      refine Ch.asg rfl rfl ?_
      refine Ch.nil ?_
      refine ⟨_, (Ent.of [] ?_ ?_ ?_ ?_).se, 0, (nrm_0 (.inl hs)).symm, rfl⟩
      · exact (fun i hi => by rw [hnA] at hi; simp only [List.length_cons, List.length_nil] at hi ⊢; first | exact absurd hi (Nat.not_lt_zero _) | (revert i; decide))
      · (repeat (first | exact trivial | (refine And.intro ⟨(by first | trivial | (simp; first | done | fail) | exact ⟨trivial, hbel _⟩), _, rfl, (by first | exact .rfl _ | exact .nil | exact .of_eq (by simp; first | done | fail) | exact AV.wk.sh (by simp; first | done | fail) | exact .untip _ _ _)⟩ ?_)))
      · (repeat (first | exact trivial | (refine And.intro ⟨rfl, (by first | trivial | (simp; first | done | fail) | exact ⟨trivial, hbel _⟩), (by first | rfl | (simp; first | done | fail))⟩ ?_)))
      · simp [rn]
    · have hs := hq
      refine WP.rs hG ?_
      refine Ch.mv rfl rfl ?_
      refine Ch.pu gdN (by exact ⟨rfl, rfl, trivial⟩) (OpS.int (v' := .bool false) rfl (by first | (simp [hs]; done) | (have hs2 := hs; simp; omega) | fail)) trivial rfl ?_
      refine Ch.mv rfl rfl ?_
      refine Ch.pu (by exact gdT rfl rfl) (by exact ⟨rfl, trivial⟩) (OpS.move) trivial rfl ?_
      refine Ch.pu (by exact gdT rfl rfl) (by exact ⟨rfl, rfl, trivial⟩) (OpS.int (v' := .bool true) rfl (by first | (simp [hs]; done) | (have hs2 := hs; simp; omega) | fail)) trivial rfl ?_
      refine Ch.pu gdN (by first | exact ⟨rfl, rfl, trivial⟩ | exact ⟨rfl, rfl, rfl, trivial⟩) (OpS.pickF) trivial rfl ?_
      refine Ch.nil ?_
      refine WP.cond_true rfl ?_
      refine WP.rg hG ?_
      refine Ch.asg rfl rfl ?_
      refine Ch.nil ?_
      refine ⟨_, (Ent.of [] ?_ ?_ ?_ ?_).se, 0, (nrm_0 (.inr hs.2)).symm, rfl⟩
      · exact (fun i hi => by rw [hnA] at hi; simp only [List.length_cons, List.length_nil] at hi ⊢; first | exact absurd hi (Nat.not_lt_zero _) | (revert i; decide))
      · (repeat (first | exact trivial | (refine And.intro ⟨(by first | trivial | (simp; first | done | fail) | exact ⟨trivial, hbel _⟩), _, rfl, (by first | exact .rfl _ | exact .nil | exact .of_eq (by simp; first | done | fail) | exact AV.wk.sh (by simp; first | done | fail) | exact .untip _ _ _)⟩ ?_)))
      · (repeat (first | exact trivial | (refine And.intro ⟨rfl, (by first | trivial | (simp; first | done | fail) | exact ⟨trivial, hbel _⟩), (by first | rfl | (simp; first | done | fail))⟩ ?_)))
      · simp [rn]
    · have hs := hq
      obtain ⟨m, rfl⟩ : ∃ m : Nat, n = (m : Int) := ⟨n.toNat, by omega⟩
      refine WP.rs hG ?_
      refine Ch.mv rfl rfl ?_
      refine Ch.pu gdN (by exact ⟨rfl, rfl, trivial⟩) (OpS.int (v' := .bool false) rfl (by first | (simp [hs]; done) | (have hs2 := hs; simp; omega) | fail)) trivial rfl ?_
      refine Ch.mv rfl rfl ?_
      refine Ch.pu (by exact gdT rfl rfl) (by exact ⟨rfl, trivial⟩) (OpS.move) trivial rfl ?_
      refine Ch.pu (by exact gdT rfl rfl) (by exact ⟨rfl, rfl, trivial⟩) (OpS.int (v' := .bool false) rfl (by first | (simp [hs]; done) | (have hs2 := hs; simp; omega) | fail)) trivial rfl ?_
      refine Ch.pu gdN (by first | exact ⟨rfl, rfl, trivial⟩ | exact ⟨rfl, rfl, rfl, trivial⟩) (OpS.pickF) trivial rfl ?_
      refine Ch.nil ?_
      refine WP.cond_false rfl ?_
      refine WP.skip ?_
      refine ⟨_, (Ent.of [] ?_ ?_ ?_ ?_).se, m, by rw [nrm_n hs, Int.toNat_natCast], rfl⟩
      · exact (fun i hi => by rw [hnA] at hi; simp only [List.length_cons, List.length_nil] at hi ⊢; first | exact absurd hi (Nat.not_lt_zero _) | (revert i; decide))
      · (repeat (first | exact trivial | (refine And.intro ⟨(by first | trivial | (simp; first | done | fail) | exact ⟨trivial, hbel _⟩), _, rfl, (by first | exact .rfl _ | exact .nil | exact .of_eq (by simp; first | done | fail) | exact AV.wk.sh (by simp; first | done | fail) | exact .untip _ _ _)⟩ ?_)))
      · (repeat (first | exact trivial | (refine And.intro ⟨rfl, (by first | trivial | (simp; first | done | fail) | exact ⟨trivial, hbel _⟩), (by first | rfl | (simp; first | done | fail))⟩ ?_)))
      · simp [rn]
  · rintro σ ⟨m, hm, rfl⟩
    refine WP.rs hG ?_
    refine Ch.callH (FC.split (newWriter_fc)) [] 0 gdN (by repeat (first | exact EvL.nil | (apply EvL.cons; exact rfl))) (by exact trivial) rfl rfl (by decide) (by decide) (by first | ((conv => lhs; simp only [AV.ren, AV.renL, AO.ren, renL_b, renL_s, renL_w, renL_i, renL_append, ren_b, ren_s, ren_w, ren_i, pi_n, pi_0, pi_s, pi_1, pi_2, pi_3, pi_4, chOld, chNew, nuNew, hpl, Option.map_some, Option.map_none, List.length_cons, List.length_nil, List.take_succ_cons, List.take_zero, List.take_nil, List.drop_succ_cons, List.drop_zero, List.drop_nil, List.cons_append, List.nil_append, Nat.zero_add, Nat.add_zero, Nat.reduceAdd]); all_goals rfl) | rfl) (by first | ((conv => lhs; simp only [AV.ren, AV.renL, AO.ren, renL_b, renL_s, renL_w, renL_i, renL_append, ren_b, ren_s, ren_w, ren_i, pi_n, pi_0, pi_s, pi_1, pi_2, pi_3, pi_4, chOld, chNew, nuNew, hpl, Option.map_some, Option.map_none, List.length_cons, List.length_nil, List.take_succ_cons, List.take_zero, List.take_nil, List.drop_succ_cons, List.drop_zero, List.drop_nil, List.cons_append, List.nil_append, Nat.zero_add, Nat.add_zero, Nat.reduceAdd]); all_goals rfl) | rfl) (by first | ((conv => lhs; simp only [AV.ren, AV.renL, AO.ren, renL_b, renL_s, renL_w, renL_i, renL_append, ren_b, ren_s, ren_w, ren_i, pi_n, pi_0, pi_s, pi_1, pi_2, pi_3, pi_4, chOld, chNew, nuNew, hpl, Option.map_some, Option.map_none, List.length_cons, List.length_nil, List.take_succ_cons, List.take_zero, List.take_nil, List.drop_succ_cons, List.drop_zero, List.drop_nil, List.cons_append, List.nil_append, Nat.zero_add, Nat.add_zero, Nat.reduceAdd]); all_goals rfl) | rfl) (by first | ((conv => lhs; simp only [AV.ren, AV.renL, AO.ren, renL_b, renL_s, renL_w, renL_i, renL_append, ren_b, ren_s, ren_w, ren_i, pi_n, pi_0, pi_s, pi_1, pi_2, pi_3, pi_4, chOld, chNew, nuNew, hpl, Option.map_some, Option.map_none, List.length_cons, List.length_nil, List.take_succ_cons, List.take_zero, List.take_nil, List.drop_succ_cons, List.drop_zero, List.drop_nil, List.cons_append, List.nil_append, Nat.zero_add, Nat.add_zero, Nat.reduceAdd]); all_goals rfl) | rfl) (by first | exact trivial | exact ⟨rfl, trivial⟩ | exact ⟨rfl, rfl, trivial⟩ | exact ⟨rfl, rfl, rfl, trivial⟩ | exact ⟨rfl, rfl, rfl, rfl, trivial⟩) (by first | exact trivial | exact ⟨rfl, trivial⟩ | exact ⟨rfl, rfl, trivial⟩ | exact ⟨rfl, rfl, rfl, trivial⟩ | exact ⟨rfl, rfl, rfl, rfl, trivial⟩) rfl ?_
    refine Ch.asg rfl rfl ?_
    refine Ch.nil ?_
    refine WP.rs hG ?_
    refine Ch.mv rfl rfl ?_
    refine Ch.mv rfl rfl ?_
    refine Ch.pu gdN (by exact ⟨rfl, trivial⟩) (OpS.conv rfl rfl (by first | exact cv_u32_u8 _ | exact cv_u64_u8 _ | exact cv_i64_u8 _ | exact cv_u8_u32 _ | exact cv_u8_u64 _ | exact cv_u32_u64 _ | exact cv_u64_u32 _ | exact cv_u8_u8 _ | exact cv_u32_u32 _ | exact cv_u64_u64 _ | exact wr64 (by omega) | exact cv_u64_nat _ | exact cv_u32_nat _ | exact cv_u8_nat _ | exact rfl)) trivial rfl ?_
    refine Ch.callH (FC.split (wNum_fc [] (UInt64.ofNat m) (by simp))) [0,1] 2 gdN (by repeat (first | exact EvL.nil | (apply EvL.cons; exact rfl))) (by exact (And.intro (by first | exact .rfl _ | exact .untip _ _ _ | exact .nil | exact .func _ | exact AV.wk.sh (renL_s _ _) | exact AV.wk.tip rfl (by first | exact renL_b _ _ | exact renL_s _ _ | exact renL_i _ _ | exact renL_w _ _) | exact AV.wk.sh (by simp; first | done | fail)) (And.intro (by first | exact .rfl _ | exact .untip _ _ _ | exact .nil | exact .func _ | exact AV.wk.sh (renL_s _ _) | exact AV.wk.tip rfl (by first | exact renL_b _ _ | exact renL_s _ _ | exact renL_i _ _ | exact renL_w _ _) | exact AV.wk.sh (by simp; first | done | fail)) trivial))) rfl rfl (by decide) (by decide) (by first | ((conv => lhs; simp only [AV.ren, AV.renL, AO.ren, renL_b, renL_s, renL_w, renL_i, renL_append, ren_b, ren_s, ren_w, ren_i, pi_n, pi_0, pi_s, pi_1, pi_2, pi_3, pi_4, chOld, chNew, nuNew, hpl, Option.map_some, Option.map_none, List.length_cons, List.length_nil, List.take_succ_cons, List.take_zero, List.take_nil, List.drop_succ_cons, List.drop_zero, List.drop_nil, List.cons_append, List.nil_append, Nat.zero_add, Nat.add_zero, Nat.reduceAdd]); all_goals rfl) | rfl) (by first | ((conv => lhs; simp only [AV.ren, AV.renL, AO.ren, renL_b, renL_s, renL_w, renL_i, renL_append, ren_b, ren_s, ren_w, ren_i, pi_n, pi_0, pi_s, pi_1, pi_2, pi_3, pi_4, chOld, chNew, nuNew, hpl, Option.map_some, Option.map_none, List.length_cons, List.length_nil, List.take_succ_cons, List.take_zero, List.take_nil, List.drop_succ_cons, List.drop_zero, List.drop_nil, List.cons_append, List.nil_append, Nat.zero_add, Nat.add_zero, Nat.reduceAdd]); all_goals rfl) | rfl) (by first | ((conv => lhs; simp only [AV.ren, AV.renL, AO.ren, renL_b, renL_s, renL_w, renL_i, renL_append, ren_b, ren_s, ren_w, ren_i, pi_n, pi_0, pi_s, pi_1, pi_2, pi_3, pi_4, chOld, chNew, nuNew, hpl, Option.map_some, Option.map_none, List.length_cons, List.length_nil, List.take_succ_cons, List.take_zero, List.take_nil, List.drop_succ_cons, List.drop_zero, List.drop_nil, List.cons_append, List.nil_append, Nat.zero_add, Nat.add_zero, Nat.reduceAdd]); all_goals rfl) | rfl) (by first | ((conv => lhs; simp only [AV.ren, AV.renL, AO.ren, renL_b, renL_s, renL_w, renL_i, renL_append, ren_b, ren_s, ren_w, ren_i, pi_n, pi_0, pi_s, pi_1, pi_2, pi_3, pi_4, chOld, chNew, nuNew, hpl, Option.map_some, Option.map_none, List.length_cons, List.length_nil, List.take_succ_cons, List.take_zero, List.take_nil, List.drop_succ_cons, List.drop_zero, List.drop_nil, List.cons_append, List.nil_append, Nat.zero_add, Nat.add_zero, Nat.reduceAdd]); all_goals rfl) | rfl) (by first | exact trivial | exact ⟨rfl, trivial⟩ | exact ⟨rfl, rfl, trivial⟩ | exact ⟨rfl, rfl, rfl, trivial⟩ | exact ⟨rfl, rfl, rfl, rfl, trivial⟩) (by first | exact trivial | exact ⟨rfl, trivial⟩ | exact ⟨rfl, rfl, trivial⟩ | exact ⟨rfl, rfl, rfl, trivial⟩ | exact ⟨rfl, rfl, rfl, rfl, trivial⟩) rfl ?_
    refine Ch.nil ?_
    refine WP.rs hG ?_
    refine Ch.mv rfl rfl ?_
    refine Ch.callH (FC.split (wBytes_fc (beS (UInt64.ofNat m) 8))) [0,2] 3 gdN (by repeat (first | exact EvL.nil | (apply EvL.cons; exact rfl))) (by exact (And.intro (by first | exact .rfl _ | exact .untip _ _ _ | exact .nil | exact .func _ | exact AV.wk.sh (renL_s _ _) | exact AV.wk.tip rfl (by first | exact renL_b _ _ | exact renL_s _ _ | exact renL_i _ _ | exact renL_w _ _) | exact AV.wk.sh (by simp; first | done | fail)) trivial)) rfl rfl (by decide) (by decide) (by first | ((conv => lhs; simp only [AV.ren, AV.renL, AO.ren, renL_b, renL_s, renL_w, renL_i, renL_append, ren_b, ren_s, ren_w, ren_i, pi_n, pi_0, pi_s, pi_1, pi_2, pi_3, pi_4, chOld, chNew, nuNew, hpl, Option.map_some, Option.map_none, List.length_cons, List.length_nil, List.take_succ_cons, List.take_zero, List.take_nil, List.drop_succ_cons, List.drop_zero, List.drop_nil, List.cons_append, List.nil_append, Nat.zero_add, Nat.add_zero, Nat.reduceAdd]); all_goals rfl) | rfl) (by first | ((conv => lhs; simp only [AV.ren, AV.renL, AO.ren, renL_b, renL_s, renL_w, renL_i, renL_append, ren_b, ren_s, ren_w, ren_i, pi_n, pi_0, pi_s, pi_1, pi_2, pi_3, pi_4, chOld, chNew, nuNew, hpl, Option.map_some, Option.map_none, List.length_cons, List.length_nil, List.take_succ_cons, List.take_zero, List.take_nil, List.drop_succ_cons, List.drop_zero, List.drop_nil, List.cons_append, List.nil_append, Nat.zero_add, Nat.add_zero, Nat.reduceAdd]); all_goals rfl) | rfl) (by first | ((conv => lhs; simp only [AV.ren, AV.renL, AO.ren, renL_b, renL_s, renL_w, renL_i, renL_append, ren_b, ren_s, ren_w, ren_i, pi_n, pi_0, pi_s, pi_1, pi_2, pi_3, pi_4, chOld, chNew, nuNew, hpl, Option.map_some, Option.map_none, List.length_cons, List.length_nil, List.take_succ_cons, List.take_zero, List.take_nil, List.drop_succ_cons, List.drop_zero, List.drop_nil, List.cons_append, List.nil_append, Nat.zero_add, Nat.add_zero, Nat.reduceAdd]); all_goals rfl) | rfl) (by first | ((conv => lhs; simp only [AV.ren, AV.renL, AO.ren, renL_b, renL_s, renL_w, renL_i, renL_append, ren_b, ren_s, ren_w, ren_i, pi_n, pi_0, pi_s, pi_1, pi_2, pi_3, pi_4, chOld, chNew, nuNew, hpl, Option.map_some, Option.map_none, List.length_cons, List.length_nil, List.take_succ_cons, List.take_zero, List.take_nil, List.drop_succ_cons, List.drop_zero, List.drop_nil, List.cons_append, List.nil_append, Nat.zero_add, Nat.add_zero, Nat.reduceAdd]); all_goals rfl) | rfl) (by first | exact trivial | exact ⟨rfl, trivial⟩ | exact ⟨rfl, rfl, trivial⟩ | exact ⟨rfl, rfl, rfl, trivial⟩ | exact ⟨rfl, rfl, rfl, rfl, trivial⟩) (by first | exact trivial | exact ⟨rfl, trivial⟩ | exact ⟨rfl, rfl, trivial⟩ | exact ⟨rfl, rfl, rfl, trivial⟩ | exact ⟨rfl, rfl, rfl, rfl, trivial⟩) rfl ?_
    refine Ch.asg rfl rfl ?_
    refine Ch.nil ?_
    exact WP.ret (Ret.one rfl (.of_eq (by rw [hm]; rfl)) trivial hnA)
end Go.Proofs.YtcojfnjpcpochaaDoor.E
end
section
namespace Go.Proofs.YtcojfnjpcpochaaDoor.E
open Go Go.RowKit Go.Proofs.YtcojfnjpcpochaaDoor.V
attribute [local go_sem] B_size B_append B_extract mk_B B_toList take_drop_len List.length_drop List.length_take sgn32 sgn64 add32 sub32 mul32 add64 sub64 mul64 mul64_8 and32 or32 xor32 and64 or64 xor64 shl32_run shr32_run shl64_run shr64_run not32 not32' xor32_all w_u32_u8 w_u64_u8 w_i64_u8 w_u8_u32 w_u8_u64 w_u32_u64 w_u64_u32 w_u8_u8 w_u32_u32 w_u64_u64
attribute [local go_sem ↓] run_index_B' add32 sub32 mul32 add64 sub64 mul64 mul64_8 and32 or32 xor32 and64 or64 xor64 shl32_run shr32_run shl64_run shr64_run not32 not32' xor32_all w_u32_u8 w_u64_u8 w_i64_u8 w_u8_u32 w_u8_u64 w_u32_u64 w_u64_u32 w_u8_u8 w_u32_u32 w_u64_u64 w_u64_nat w_u32_nat w_u8_nat
set_option maxRecDepth 4000
def RefIn (G : List (Nat × Array Value)) : Prop := (3, kArr) ∈ G ∧ (2, V.first.cells) ∈ G
theorem in3_len (a b c : List UInt8) (d : UInt8) : (input d [a, b, c]).length = a.length + b.length + c.length + 13 := by
  simp [input, V.be4_length]
  omega
theorem in1_len (a : List UInt8) (d : UInt8) : (input d [a]).length = a.length + 5 := by
  simp [input, V.be4_length]
  omega
theorem inL_len (d : UInt8) (ps : List (List UInt8)) (n : Nat) (h : ∀ p ∈ ps, p.length ≤ n) : (input d ps).length ≤ 1 + ps.length * (n + 4) := by
  unfold input
  rw [List.length_cons]
  have : ∀ l : List (List UInt8), (∀ p ∈ l, p.length ≤ n) → (l.flatMap fun p => be4 (UInt32.ofNat p.length) ++ p).length ≤ l.length * (n + 4) := fun l => by
    induction l with
    | nil => intro _; simp
    | cons p l ih =>
      intro h
      have h1 := ih (fun q hq => h q (by simp [hq]))
      have h2 := h p (by simp)
      rw [List.flatMap_cons, List.length_append, List.length_append, V.be4_length, List.length_cons, Nat.add_mul]
      omega
  have := this ps h
  omega
theorem three_step (from' to' : Int) : from' < 0 ∨ (0 ≤ from' ∧ 15 < to') ∨ (0 ≤ from' ∧ to' ≤ 15) := by omega
theorem walkT_no {c a b : Int} {v : Txw} (h : a < 0 ∨ 15 < b) : walkT c a b v = v := if_pos h
theorem walkT_end {c a b : Int} {v : Txw} (h : b ≤ a) : walkT c a b v = v := by
  unfold walkT
  split
  · rfl
  · rw [show (b - a).toNat = 0 by omega]; rfl
theorem walkT_go {c a b : Int} {v : Txw} (h0 : 0 ≤ a) (h1 : a < b) (h2 : b ≤ 15) : walkT c a b v = walkT c (a + 1) b (wstep c a v) := by
  unfold walkT
  rw [if_neg (by omega), if_neg (by omega)]
  rw [show (b - a).toNat = (b - (a + 1)).toNat + 1 by omega]
  rfl
attribute [local irreducible] sum tag input laidN wstep walkT
theorem value_fc {G : List (Nat × Array Value)} (hm : ShaIn G) (d : UInt8) (ps : List (List UInt8)) (hL : (input d ps).length ≤ 140737488355328) :
    FC Tryd.prog G 71 [.v (.int .u8 (U8 d)), .sl none ps.length (ps.map sA)] [] (sA ((tag d ps).take 16)) [] := by
  have htl := tag_length d ps
  refine FC.of_wp [4] Tryd.func71 rfl rfl rfl rfl ⟨trivial, ⟨by simp, belL_s _ _⟩, trivial⟩ trivial (by exact Nat.le_of_ble_eq_true rfl) ?_
  intro A hG hnA hAB
  unfold start
  refine WP.rs hG ?_
  refine Ch.asg rfl rfl ?_
  refine Ch.nil ?_
  refine WP.rs hG ?_
  refine Ch.mv rfl rfl ?_
  refine Ch.mv rfl rfl ?_
  refine Ch.callP (tag_fc hm d ps hL) gdN (by repeat (first | exact EvL.nil | (apply EvL.cons; exact rfl))) (by exact (And.intro (by first | exact .rfl _ | exact .untip _ _ _ | exact .nil | exact .func _ | exact AV.wk.sh (renL_s _ _) | exact AV.wk.sh (by simp; first | done | fail)) (And.intro (by first | exact .rfl _ | exact .untip _ _ _ | exact .nil | exact .func _ | exact AV.wk.sh (renL_s _ _) | exact AV.wk.sh (by simp; first | done | fail)) trivial))) (by rfl) rfl ?_
  refine Ch.pu gdN (by exact ⟨rfl, rfl, trivial⟩) (OpS.sliceSh rfl (by first | with_reducible exact Int.toNat_natCast _ | with_reducible exact tnLit _ _ | with_reducible exact tnLitA _ _ | with_reducible exact tnL _ | with_reducible exact tnA _ _ | with_reducible exact tnM _ _ | with_reducible exact tnMA _ _ _ | exact rfl) (by omega) (by omega)) trivial rfl ?_
  refine Ch.asg rfl rfl ?_
  refine Ch.nil ?_
  refine WP.ret (Ret.one rfl (by first | exact .rfl _ | exact .nil | exact .of_eq (by simp; first | done | fail) | exact AV.wk.sh (by simp; first | done | fail) | exact .untip _ _ _) (by first | trivial | simp [AV.bel]) hnA)
theorem wstep_eq (c a : Int) (v : Txw) : wstep c a v = (tag 2 [laidN c, laidN a, v]).take 16 := by unfold wstep; rfl
theorem secretT_eq (s : Txw) (l c : Int) : secretT s l c = (tag 3 [s, laidN l, laidN c]).take 16 := rfl
theorem step_fc {G : List (Nat × Array Value)} (hm : ShaIn G) (c a : Int) (v : Txw) (hv : v.length ≤ 140737488355264) : FC Tryd.prog G 84 [.v (.int .i64 c), .v (.int .i64 a), sA v] [] (sA (wstep c a v)) [] := by
  have hin := in3_len (laidN c) (laidN a) v 2
  rw [laidN_length, laidN_length] at hin
  have hval := value_fc hm 2 [laidN c, laidN a, v] (by omega)
  rw [← wstep_eq] at hval
  refine FC.of_wp [6] Tryd.func84 rfl rfl rfl rfl (by first | trivial | (simp; first | done | fail) | exact ⟨trivial, hbel _⟩) (by first | trivial | (simp; first | done | fail) | exact ⟨trivial, hbel _⟩) (by exact Nat.le_of_ble_eq_true rfl) ?_
  intro A hG hnA hAB
  unfold start
  refine WP.rs hG ?_
  refine Ch.asg rfl rfl ?_
  refine Ch.nil ?_
  refine WP.rs hG ?_
  refine Ch.mv rfl rfl ?_
  refine Ch.callP (laid_fc c) gdN (by repeat (first | exact EvL.nil | (apply EvL.cons; exact rfl))) (by exact (And.intro (by first | exact .rfl _ | exact .untip _ _ _ | exact .nil | exact .func _ | exact AV.wk.sh (renL_s _ _) | exact AV.wk.sh (by simp; first | done | fail)) trivial)) (by rfl) rfl ?_
  refine Ch.mv rfl rfl ?_
  refine Ch.callP (laid_fc a) gdN (by repeat (first | exact EvL.nil | (apply EvL.cons; exact rfl))) (by exact (And.intro (by first | exact .rfl _ | exact .untip _ _ _ | exact .nil | exact .func _ | exact AV.wk.sh (renL_s _ _) | exact AV.wk.sh (by simp; first | done | fail)) trivial)) (by rfl) rfl ?_
  refine Ch.mv rfl rfl ?_
  refine Ch.pup gdN (by repeat (first | exact EvP.nil | (apply EvP.cons; exact rfl))) (OpS.slice1 (ys := ([laidN c, laidN a, v] : List Txw).map sA) rfl rfl rfl rfl rfl rfl (by rfl) rfl (by rfl)) rfl ?_
  refine Ch.callP (hval) gdN (by repeat (first | exact EvL.nil | (apply EvL.cons; exact rfl))) (by exact (And.intro (by first | exact .rfl _ | exact .untip _ _ _ | exact .nil | exact .func _ | exact AV.wk.sh (renL_s _ _) | exact AV.wk.sh (by simp; first | done | fail)) (And.intro (by first | exact .rfl _ | exact .untip _ _ _ | exact .nil | exact .func _ | exact AV.wk.sh (renL_s _ _) | exact AV.wk.sh (by simp; first | done | fail)) trivial))) (by rfl) rfl ?_
  refine Ch.asg rfl rfl ?_
  refine Ch.nil ?_
  refine WP.ret (Ret.one rfl (by first | exact .rfl _ | exact .nil | exact .of_eq (by simp; first | done | fail) | exact AV.wk.sh (by simp; first | done | fail) | exact .untip _ _ _) (by first | trivial | simp [AV.bel]) hnA)
theorem walk_fc {G : List (Nat × Array Value)} (hm : ShaIn G) (c a b : Int) (v : Txw) (hv : v.length ≤ 140737488355264) (ha : -9223372036854775808 ≤ a ∧ a ≤ 9223372036854775807) (hb : -9223372036854775808 ≤ b ∧ b ≤ 9223372036854775807) :
    FC Tryd.prog G 69 [.v (.int .i64 c), .v (.int .i64 a), .v (.int .i64 b), sA v] [] (sA (walkT c a b v)) [] := by
  refine FC.of_wp [8] Tryd.func69 rfl rfl rfl rfl (by first | trivial | (simp; first | done | fail) | exact ⟨trivial, hbel _⟩) (by first | trivial | (simp; first | done | fail) | exact ⟨trivial, hbel _⟩) (by exact Nat.le_of_ble_eq_true rfl) ?_
  intro A hG hnA hAB
  unfold start
  refine WP.rs hG ?_
  refine Ch.asg rfl rfl ?_
  refine Ch.nil ?_
  refine WP.seq ?_
  rcases three_step a b with hq | hq | hq
  · have hs := hq
    refine WP.rs hG ?_
    refine Ch.mv rfl rfl ?_
    refine Ch.pu gdN (by exact ⟨rfl, rfl, trivial⟩) (OpS.int (v' := .bool true) rfl (by first | (simp [hs]; done) | (have hs2 := hs; simp; omega) | fail)) trivial rfl ?_
    refine Ch.mv rfl rfl ?_
    refine Ch.skU (gdF rfl rfl rfl) rfl ?_
    refine Ch.skU (gdF rfl rfl rfl) rfl ?_
    refine Ch.pu gdN (by first | exact ⟨rfl, rfl, trivial⟩ | exact ⟨rfl, rfl, rfl, trivial⟩) (OpS.pickT) trivial rfl ?_
    refine Ch.nil ?_
    refine WP.cond_true rfl ?_
    refine WP.rs hG ?_
    refine Ch.mv rfl rfl ?_
    refine Ch.asg rfl rfl ?_
    refine Ch.nil ?_
    exact WP.ret (Ret.one rfl (.of_eq (by rw [walkT_no (.inl hs)]; rfl)) trivial hnA)
  · have hs := hq
    refine WP.rs hG ?_
    refine Ch.mv rfl rfl ?_
    refine Ch.pu gdN (by exact ⟨rfl, rfl, trivial⟩) (OpS.int (v' := .bool false) rfl (by first | (simp [hs]; done) | (have hs2 := hs; simp; omega) | fail)) trivial rfl ?_
    refine Ch.mv rfl rfl ?_
    refine Ch.pu (by exact gdT rfl rfl) (by exact ⟨rfl, trivial⟩) (OpS.move) trivial rfl ?_
    refine Ch.pu (by exact gdT rfl rfl) (by exact ⟨rfl, rfl, trivial⟩) (OpS.int (v' := .bool true) rfl (by first | (simp [hs]; done) | (have hs2 := hs; simp; omega) | fail)) trivial rfl ?_
    refine Ch.pu gdN (by first | exact ⟨rfl, rfl, trivial⟩ | exact ⟨rfl, rfl, rfl, trivial⟩) (OpS.pickF) trivial rfl ?_
    refine Ch.nil ?_
    refine WP.cond_true rfl ?_
    refine WP.rs hG ?_
    refine Ch.mv rfl rfl ?_
    refine Ch.asg rfl rfl ?_
    refine Ch.nil ?_
    exact WP.ret (Ret.one rfl (.of_eq (by rw [walkT_no (.inr hs.2)]; rfl)) trivial hnA)
  · have hs := hq
    refine WP.rs hG ?_
    refine Ch.mv rfl rfl ?_
    refine Ch.pu gdN (by exact ⟨rfl, rfl, trivial⟩) (OpS.int (v' := .bool false) rfl (by first | (simp [hs]; done) | (have hs2 := hs; simp; omega) | fail)) trivial rfl ?_
    refine Ch.mv rfl rfl ?_
    refine Ch.pu (by exact gdT rfl rfl) (by exact ⟨rfl, trivial⟩) (OpS.move) trivial rfl ?_
    refine Ch.pu (by exact gdT rfl rfl) (by exact ⟨rfl, rfl, trivial⟩) (OpS.int (v' := .bool false) rfl (by first | (simp [hs]; done) | (have hs2 := hs; simp; omega) | fail)) trivial rfl ?_
    refine Ch.pu gdN (by first | exact ⟨rfl, rfl, trivial⟩ | exact ⟨rfl, rfl, rfl, trivial⟩) (OpS.pickF) trivial rfl ?_
    refine Ch.nil ?_
    refine WP.cond_false rfl ?_
    refine WP.skip ?_
    refine WP.seq ?_
    refine WP.block ?_
    refine WP.loop (fun k σ => ∃ (x : Int) (y : Txw), (k = (b - x).toNat ∧ 0 ≤ x ∧ y.length ≤ 140737488355264 ∧ walkT c x b y = walkT c a b v) ∧ σ = ⟨26, ls [(0, .v (.int .i64 c)), (1, .v (.int .i64 x)), (2, .v (.int .i64 b)), (3, sA y)], lh [], blt 0⟩) ((b - a).toNat) (Ent.of [] ?_ ?_ ?_ ?_).se ⟨a, v, ⟨rfl, hs.1, hv, rfl⟩, rfl⟩ ?_
    · exact (fun i hi => by rw [hnA] at hi; simp only [List.length_cons, List.length_nil] at hi ⊢; first | exact absurd hi (Nat.not_lt_zero _) | (revert i; decide))
    · (repeat (first | exact trivial | (refine And.intro ⟨(by first | trivial | (simp; first | done | fail) | exact ⟨trivial, hbel _⟩), _, rfl, (by first | exact .rfl _ | exact .nil | exact .of_eq (by simp; first | done | fail) | exact AV.wk.sh (by simp; first | done | fail) | exact .untip _ _ _)⟩ ?_)))
    · (repeat (first | exact trivial | (refine And.intro ⟨rfl, (by first | trivial | (simp; first | done | fail) | exact ⟨trivial, hbel _⟩), (by first | rfl | (simp; first | done | fail))⟩ ?_)))
    · simp [rn]
    · rintro k σ ⟨x, y, ⟨hk, hx, hy, hw⟩, rfl⟩
      refine WP.seq ?_
      refine WP.rs hG ?_
      refine Ch.mv rfl rfl ?_
      refine Ch.mv rfl rfl ?_
      refine Ch.pu gdN (by exact ⟨rfl, rfl, trivial⟩) (OpS.int rfl (by first | exact wr64 (by omega) | exact rfl)) trivial rfl ?_
      refine Ch.nil ?_
      refine WP.cond rfl ?_ ?_
      · intro ht
        have ht' := of_decide_eq_true ht
        rw [walkT_go hx ht' hs.2] at hw
        have hsl := wstep_length c x y
        refine WP.skip ?_
        refine WP.seq ?_
        refine WP.block ?_
        refine WP.rg hG ?_
        refine Ch.mv rfl rfl ?_
        refine Ch.mv rfl rfl ?_
        refine Ch.mv rfl rfl ?_
        refine Ch.callP (step_fc hm c x y hy) gdN (by repeat (first | exact EvL.nil | (apply EvL.cons; exact rfl))) (by exact (And.intro (by first | exact .rfl _ | exact .untip _ _ _ | exact .nil | exact .func _ | exact AV.wk.sh (renL_s _ _) | exact AV.wk.sh (by simp; first | done | fail)) (And.intro (by first | exact .rfl _ | exact .untip _ _ _ | exact .nil | exact .func _ | exact AV.wk.sh (renL_s _ _) | exact AV.wk.sh (by simp; first | done | fail)) (And.intro (by first | exact .rfl _ | exact .untip _ _ _ | exact .nil | exact .func _ | exact AV.wk.sh (renL_s _ _) | exact AV.wk.sh (by simp; first | done | fail)) trivial)))) (by rfl) rfl ?_
        refine Ch.asg rfl rfl ?_
        refine Ch.nil ?_
        refine WP.rg hG ?_
        refine Ch.mv rfl rfl ?_
        refine Ch.pu gdN (by exact ⟨rfl, rfl, trivial⟩) (OpS.int rfl (by first | exact wr64 (by omega) | exact rfl)) trivial rfl ?_
        refine Ch.asg rfl rfl ?_
        refine Ch.nil ?_
        refine ⟨k - 1, _, by omega, (Ent.of [] ?_ ?_ ?_ ?_).se, x + 1, wstep c x y, ⟨by omega, by omega, by rw [hsl]; decide, hw⟩, rfl⟩
        · exact (fun i hi => by rw [hnA] at hi; simp only [List.length_cons, List.length_nil] at hi ⊢; first | exact absurd hi (Nat.not_lt_zero _) | (revert i; decide))
        · (repeat (first | exact trivial | (refine And.intro ⟨(by first | trivial | (simp; first | done | fail) | exact ⟨trivial, hbel _⟩), _, rfl, (by first | exact .rfl _ | exact .nil | exact .of_eq (by simp; first | done | fail) | exact AV.wk.sh (by simp; first | done | fail) | exact .untip _ _ _)⟩ ?_)))
        · (repeat (first | exact trivial | (refine And.intro ⟨rfl, (by first | trivial | (simp; first | done | fail) | exact ⟨trivial, hbel _⟩), (by first | rfl | (simp; first | done | fail))⟩ ?_)))
        · simp [rn]
      · intro ht
        have ht' := of_decide_eq_false ht
        rw [walkT_end (by omega)] at hw
        refine WP.exit ?_
        refine WP.rs hG ?_
        refine Ch.mv rfl rfl ?_
        refine Ch.asg rfl rfl ?_
        refine Ch.nil ?_
        exact WP.ret (Ret.one rfl (by rw [← hw]; exact .rfl _) trivial hnA)
theorem dgs_succ (d : Txw) (m : Nat) : dgs d (m + 1) = dgs d m ++ [hiD d m, loD d m] := rfl
theorem lackD_succ (d : Txw) (m : Nat) : lackD d (m + 1) = lackD d m + (30 - hiD d m - loD d m) := rfl
theorem hi_eq (d : Txw) (m : Nat) : (U8 (nth d m)) / 16 = (hiD d m : Int) := by unfold U8 hiD; omega
theorem lo_eq (d : Txw) (m : Nat) : (U8 (nth d m)) % 16 = (loD d m : Int) := by unfold U8 loD; omega
attribute [local irreducible] hiD loD dgs lackD
theorem digits_fc0 {G : List (Nat × Array Value)} (hm : ShaIn G) (msg : Txw) (hv : msg.length ≤ 140737488355264) : FC Tryd.prog G 48 [sA msg] [] (.sl (some 0) (digitsT msg).length ((digitsT msg).map nA)) [some (.tip 3 1 (digitsT msg).length)] := by
  have hin := in1_len msg 1
  have htag := tag_fc hm 1 [msg] (by omega)
  have htl := tag_length 1 [msg]
  obtain ⟨d, hd⟩ : ∃ d, d = tag 1 [msg] := ⟨_, rfl⟩
  rw [← hd] at htag htl
  have hdt : digitsT msg = dgs d 4 ++ [lackD d 4 / 16, lackD d 4 % 16] := by rw [hd]; rfl
  have hdl := dgs_length d 4
  refine FC.of_wp [2] Tryd.func48 rfl rfl rfl rfl (by first | trivial | (simp; first | done | fail) | exact ⟨trivial, hbel _⟩) (by first | trivial | (simp; first | done | fail) | exact ⟨trivial, hbel _⟩) (by exact Nat.le_of_ble_eq_true rfl) ?_
  intro A hG hnA hAB
  unfold start
  refine WP.rs hG ?_
  refine Ch.asg rfl rfl ?_
  refine Ch.nil ?_
  refine WP.rs hG ?_
  refine Ch.al gdN (by exact ⟨rfl, rfl, trivial⟩) (OpS.makeTip (n := 10) (bb := 8) 0 rfl rfl rfl rfl rfl rfl rfl (by decide) (by decide)) (by first | exact trivial | exact ⟨rfl, trivial⟩) (by first | exact trivial | exact ⟨rfl, trivial⟩ | exact ⟨rfl, rfl, trivial⟩) rfl ?_
  refine Ch.asg rfl rfl ?_
  refine Ch.nil ?_
  refine WP.rs hG ?_
  refine Ch.asg rfl rfl ?_
  refine Ch.nil ?_
  refine WP.rs hG ?_
  refine Ch.mv rfl rfl ?_
  refine Ch.pup gdN (by repeat (first | exact EvP.nil | (apply EvP.cons; exact rfl))) (OpS.slice1 (ys := ([msg] : List Txw).map sA) rfl rfl rfl rfl rfl rfl (by rfl) rfl (by rfl)) rfl ?_
  refine Ch.callP (htag) gdN (by repeat (first | exact EvL.nil | (apply EvL.cons; exact rfl))) (by exact (And.intro (by first | exact .rfl _ | exact .untip _ _ _ | exact .nil | exact .func _ | exact AV.wk.sh (renL_s _ _) | exact AV.wk.sh (by simp; first | done | fail)) (And.intro (by first | exact .rfl _ | exact .untip _ _ _ | exact .nil | exact .func _ | exact AV.wk.sh (renL_s _ _) | exact AV.wk.sh (by simp; first | done | fail)) trivial))) (by rfl) rfl ?_
  refine Ch.asg rfl rfl ?_
  refine Ch.nil ?_
  refine WP.seq ?_
  refine WP.rs hG ?_
  refine Ch.mv rfl rfl ?_
  refine Ch.nil ?_
  refine WP.block ?_
  refine WP.loop (fun k σ => ∃ m : Nat, m + k = 4 ∧ σ = ⟨45, ls [(3, .sl (some 0) (2 * m) ((dgs d m).map nA)), (4, .v (.int .i64 ((lackD d m : Nat) : Int))), (5, sA d), (13, .v (.int .i64 (m : Int)))], lh [(0, .tip 3 1 (2 * m))], blt 1⟩) (4) (Ent.of [] ?_ ?_ ?_ ?_).se ⟨0, by omega, rfl⟩ ?_
  · exact (fun i hi => by rw [hnA] at hi; simp only [List.length_cons, List.length_nil] at hi ⊢; first | exact absurd hi (Nat.not_lt_zero _) | (revert i; decide))
  · (repeat (first | exact trivial | (refine And.intro ⟨(by first | trivial | (simp; first | done | fail) | exact ⟨trivial, hbel _⟩), _, rfl, (by first | exact .rfl _ | exact .nil | exact .of_eq (by simp [dgs, lackD]; first | done | fail) | exact AV.wk.sh (by simp [dgs, lackD]; first | done | fail) | exact .untip _ _ _)⟩ ?_)))
  · (repeat (first | exact trivial | (refine And.intro ⟨rfl, (by first | trivial | (simp; first | done | fail) | exact ⟨trivial, hbel _⟩), (by first | rfl | (simp [dgs, lackD]; first | done | fail))⟩ ?_)))
  · simp [rn]
  · rintro k σ ⟨m, hm', rfl⟩
    have hs1 := dgs_succ d m
    have hs2 := lackD_succ d m
    have hl1 := dgs_length d m
    have hl2 := lackD_le d m
    have hh := hi_eq d m
    have hlo := lo_eq d m
    have hb1 := hiD_lt d m
    have hb2 := loD_lt d m
    have hu := u8_bd (nth d m)
    have hsum : ((lackD d m : Nat) : Int) + (30 - (hiD d m : Int) - (loD d m : Int)) = ((lackD d (m + 1) : Nat) : Int) := by rw [hs2]; omega
    refine WP.rs hG ?_
    refine Ch.pu gdN (by exact ⟨rfl, rfl, trivial⟩) (OpS.int rfl (by first | exact wr64 (by omega) | exact rfl)) trivial rfl ?_
    refine Ch.nil ?_
    refine WP.seq ?_
    refine WP.cond rfl ?_ ?_
    · intro ht
      have ht' := of_decide_eq_true ht
      refine WP.skip ?_
      refine WP.seq ?_
      refine WP.block ?_
      refine WP.rs hG ?_
      refine Ch.mv rfl rfl ?_
      refine Ch.asg rfl rfl ?_
      refine Ch.nil ?_
      refine WP.rsD (by kernel_rfl) hG ?_
      refine Ch.mv rfl rfl ?_
      refine Ch.mv rfl rfl ?_
      refine Ch.pu gdN (by exact ⟨rfl, rfl, trivial⟩) (OpS.indexS rfl (by first | with_reducible exact Int.toNat_natCast _ | with_reducible exact tnLit _ _ | with_reducible exact tnLitA _ _ | with_reducible exact tnL _ | with_reducible exact tnA _ _ | with_reducible exact tnM _ _ | with_reducible exact tnMA _ _ _ | exact rfl) (by omega) (by omega)) trivial rfl ?_
      refine Ch.pu gdN (by exact ⟨rfl, trivial⟩) (OpS.conv (k := .i64) rfl rfl (cv_i64_u8 (nth d m))) trivial rfl ?_
      refine Ch.pu gdN (by exact ⟨rfl, rfl, trivial⟩) (OpS.quo (by omega) (by omega) (by omega)) trivial rfl ?_
      refine Ch.mv rfl rfl ?_
      refine Ch.mv rfl rfl ?_
      refine Ch.pu gdN (by exact ⟨rfl, rfl, trivial⟩) (OpS.indexS rfl (by first | with_reducible exact Int.toNat_natCast _ | with_reducible exact tnLit _ _ | with_reducible exact tnLitA _ _ | with_reducible exact tnL _ | with_reducible exact tnA _ _ | with_reducible exact tnM _ _ | with_reducible exact tnMA _ _ _ | exact rfl) (by omega) (by omega)) trivial rfl ?_
      refine Ch.pu gdN (by exact ⟨rfl, trivial⟩) (OpS.conv (k := .i64) rfl rfl (cv_i64_u8 (nth d m))) trivial rfl ?_
      refine Ch.pu gdN (by exact ⟨rfl, rfl, trivial⟩) (OpS.rem (by omega) (by omega)) trivial rfl ?_
      refine Ch.asg rfl rfl ?_
      refine Ch.asg rfl rfl ?_
      refine Ch.nilD ?_ (by kernel_rfl)
      rw [hh, hlo]
      refine WP.rs hG ?_
      refine Ch.mv rfl rfl ?_
      refine Ch.mv rfl rfl ?_
      refine Ch.mv rfl rfl ?_
      refine Ch.pup gdN (by repeat (first | exact EvP.nil | (apply EvP.cons; exact rfl))) (OpS.slice1 (ys := ([hiD d m, loD d m] : List Nat).map nA) rfl rfl rfl rfl rfl rfl (by rfl) rfl (by rfl)) rfl ?_
      refine Ch.al gdN (by exact ⟨rfl, rfl, trivial⟩) (OpS.append (sz := 1) (bb := 8) 1 rfl rfl rfl rfl rfl (by decide) (SrcA.sl rfl (by simp)) (by first | (simp; done) | (simp; assumption)) (by simp) (by unfold maxLen; omega) rfl (by omega)) (by first | exact trivial | exact ⟨rfl, trivial⟩) (by first | exact trivial | exact ⟨rfl, trivial⟩ | exact ⟨rfl, rfl, trivial⟩) rfl ?_
      refine Ch.asg rfl rfl ?_
      refine Ch.nil ?_
      refine WP.rg hG ?_
      refine Ch.mv rfl rfl ?_
      refine Ch.mv rfl rfl ?_
      refine Ch.pu gdN (by exact ⟨rfl, rfl, trivial⟩) (OpS.int rfl (by first | exact wr64 (by omega) | exact rfl)) trivial rfl ?_
      refine Ch.mv rfl rfl ?_
      refine Ch.pu gdN (by exact ⟨rfl, rfl, trivial⟩) (OpS.int rfl (by first | exact wr64 (by omega) | exact rfl)) trivial rfl ?_
      refine Ch.pu gdN (by exact ⟨rfl, rfl, trivial⟩) (OpS.int rfl (by first | exact wr64 (by omega) | exact rfl)) trivial rfl ?_
      refine Ch.asg rfl rfl ?_
      refine Ch.nil ?_
      refine WP.rg hG ?_
      refine Ch.pu gdN (by exact ⟨rfl, rfl, trivial⟩) (OpS.int rfl (by first | exact wr64 (by omega) | exact rfl)) trivial rfl ?_
      refine Ch.mv rfl rfl ?_
      refine Ch.nil ?_
      refine ⟨k - 1, _, by omega, (Ent.of [1] ?_ ?_ ?_ ?_).se, m + 1, by omega, rfl⟩
      · exact (fun i hi => by rw [hnA] at hi; simp only [List.length_cons, List.length_nil] at hi ⊢; first | exact absurd hi (Nat.not_lt_zero _) | (revert i; decide))
      · (repeat (first | exact trivial | (refine And.intro ⟨(by first | trivial | (simp; first | done | fail) | exact ⟨trivial, hbel _⟩), _, rfl, (by first | exact .rfl _ | exact .nil | exact .of_eq (by simp [hs1, hsum, Nat.mul_add]; first | done | fail) | exact AV.wk.sh (by simp [hs1, hsum, Nat.mul_add]; first | done | fail) | exact .untip _ _ _)⟩ ?_)))
      · (repeat (first | exact trivial | (refine And.intro ⟨rfl, (by first | trivial | (simp; first | done | fail) | exact ⟨trivial, hbel _⟩), (by first | rfl | (simp [hs1, hsum, Nat.mul_add]; first | done | fail))⟩ ?_)))
      · simp [rn]
    · intro ht
      have ht' := of_decide_eq_false ht
      obtain rfl : m = 4 := by omega
      refine WP.exit ?_
      refine WP.rs hG ?_
      refine Ch.mv rfl rfl ?_
      refine Ch.mv rfl rfl ?_
      refine Ch.pu gdN (by exact ⟨rfl, rfl, trivial⟩) (OpS.quo (by omega) (by omega) (by omega)) trivial rfl ?_
      refine Ch.mv rfl rfl ?_
      refine Ch.pu gdN (by exact ⟨rfl, rfl, trivial⟩) (OpS.rem (by omega) (by omega)) trivial rfl ?_
      refine Ch.pup gdN (by repeat (first | exact EvP.nil | (apply EvP.cons; exact rfl))) (OpS.slice1 (ys := ([lackD d 4 / 16, lackD d 4 % 16] : List Nat).map nA) rfl rfl rfl rfl rfl rfl (by rfl) rfl (by rfl)) rfl ?_
      refine Ch.al gdN (by exact ⟨rfl, rfl, trivial⟩) (OpS.append (sz := 1) (bb := 8) 1 rfl rfl rfl rfl rfl (by decide) (SrcA.sl rfl (by simp)) (by first | (simp; done) | (simp; assumption)) (by simp) (by unfold maxLen; omega) rfl (by omega)) (by first | exact trivial | exact ⟨rfl, trivial⟩) (by first | exact trivial | exact ⟨rfl, trivial⟩ | exact ⟨rfl, rfl, trivial⟩) rfl ?_
      refine Ch.asg rfl rfl ?_
      refine Ch.nil ?_
      rw [hdt]
      exact WP.ret (Ret.row 1 rfl (.of_eq (by simp [hdl])) (by simp) (by simp [hdl]) trivial hnA)
theorem digits_fc {G : List (Nat × Array Value)} (hm : ShaIn G) (msg : Txw) (hv : msg.length ≤ 140737488355264) : FC Tryd.prog G 48 [sA msg] [] (.sl none (digitsT msg).length ((digitsT msg).map nA)) [] :=
  (digits_fc0 hm msg hv).shut (belL_n _ _) (renL_n _ _)
end Go.Proofs.YtcojfnjpcpochaaDoor.E
end
section
namespace Go.Proofs.YtcojfnjpcpochaaDoor.E
open Go Go.RowKit Go.Proofs.YtcojfnjpcpochaaDoor.V

inductive Wide : Fence → Prop
  | w : Wide Fence.wide
  | rd (l : Nat) : Wide (Fence.wide.inRound l)
theorem Wide.fn {F : Fence} (h : Wide F) (f : FuncId) : F.fn f := by cases h <;> trivial
theorem Wide.depth {F : Fence} (h : Wide F) : F.depth = none := by cases h <;> rfl
theorem Wide.calls {F : Fence} (hF : Wide F) {n : Nat} {P : Program} {f : FuncId} {args : Array Value} {w : World} {R : Ending → World → Prop} (h : Calls P f args w R) : CallsIn F n P f args w R := by
  cases hF with
  | w => exact callsIn_wide.2 h
  | rd l => exact CallsIn.inRound l (callsIn_wide.2 h)
theorem Wide.rows {F : Fence} (hF : Wide F) {n : Nat} {P : Program} {row : String} {args : Array Value} {w : World} {R : Value → World → Prop} (h : Rows P row args w R) : RowsIn F n P row args w R := by
  have h' : RowsIn Fence.wide n P row args w R := fun c cs _ => let ⟨v, w', r, s⟩ := h c cs; ⟨v, w', r, stepsIn_wide.2 s⟩
  cases hF with
  | w => exact h'
  | rd l => exact h'

theorem put_frame {a : Act} {d : Option Tmp} {v : Value} {t : Nat} (h : d ≠ some t) : (a.put d v).tmps[t]? = a.tmps[t]? := by
  cases d with
  | none => rfl
  | some d => exact Array.getElem?_setIfInBounds_ne (fun e => h (by rw [e]))

def bare (a : Act) : Act := { a with defers := [] }
theorem bare_put (a : Act) (d : Option Tmp) (v : Value) : bare (a.put d v) = (bare a).put d v := by cases d <;> rfl
theorem put_defers (a : Act) (d : Option Tmp) (v : Value) : (a.put d v).defers = a.defers := by cases d <;> rfl
theorem bare_of {a : Act} (h : a.defers = []) : bare a = a := by obtain ⟨t, d⟩ := a; cases h; rfl

theorem Oper.wpIn_of_wp {F : Fence} (hF : Wide F) {n : Nat} {P : Program} {o : Oper} {a a2 : Act} (he : a2.eval = a.eval) {w : World} {K K' : Act → World → Prop} {Q : Exit → Act → World → Prop} (hd : ∀ c, o.op ≠ .defer c)
    (h : o.wp P a w K (fun _ _ _ => False)) (hK : ∀ v w', K (a.put o.dst v) w' → K' (a2.put o.dst v) w') (hKd : ∀ d w', ¬ K (({ a with defers := d :: a.defers } : Act).put o.dst undef) w') : o.wpIn F n P a2 w K' Q := by
  unfold Oper.wp at h
  unfold Oper.wpIn
  rw [he]
  refine ⟨fun f _ => hF.fn f, ?_⟩
  rw [Oper.semAt_eq _ _ _ hd]
  generalize (execOp a.eval o).run P w = r at h ⊢
  have hdp : F.depth.isSome = true → 1 ≤ n := fun h => by rw [hF.depth] at h; cases h
  cases r with
  | ok x w' =>
    cases x with
    | value v => exact hK _ _ h
    | skip => exact hK _ _ h
    | defer d => exact (hKd _ _ h).elim
    | enter f args =>
      refine ⟨hdp, (hF.calls h).mono ?_⟩
      rintro e w'' he
      cases e with
      | returned v => exact hK _ _ he
      | panicked c => exact he.elim
      | outgrown => obtain ⟨_, _, hx⟩ := he; exact hx.elim
    | row r args => exact ⟨hdp, (hF.rows h).mono fun v w'' he => hK _ _ he⟩
    | _ => exact h.elim
  | halt x w' => cases x <;> exact h.elim

theorem Ok.wpOpIn {F : Fence} (hF : Wide F) {n : Nat} {P : Program} {G : List (Nat × Array Value)} {ops : Array Oper} {o : Oper} {d : St} {σ : AS} (h : Ok P G ops o d σ) {i : Nat} (hi : ops[i]? = some o) (hdf : ∀ c, o.op ≠ .defer c)
    {A : Amb} {ρ : Env} {a : Act} {w : World} (hG : A.G = G) (hs : Sat A ρ σ (bare a) w) {K : Act → World → Prop} {Q : Exit → Act → World → Prop}
    (hK : ∀ a' w' ρ', Sat A ρ' (σ.eff o.dst d.e) (bare a') w' → a'.defers = a.defers → (∀ t, o.dst ≠ some t → a'.tmps[t]? = a.tmps[t]?) → K a' w') : Go.wpOpIn F n P ops Q i K a w := by
  obtain ⟨h1, h2, h3⟩ := h
  have hw : Region.wanted o (yielded ops a.tmps) = d.w := wanted_gd (a := bare a) h1 hs
  unfold Go.wpOpIn
  simp only [hi]
  cases hd : d.w with
  | true =>
    rw [hw, hd, if_pos rfl]
    obtain ⟨k1, k2, k3, k4, k5⟩ := h2 hd
    refine Oper.wpIn_of_wp hF (a := bare a) (a2 := a) rfl hdf (k1.run A ρ σ (bare a) w (fun a' w' => ∃ ρ', Sat A ρ' (σ.eff o.dst d.e) a' w') _ hG k2 k3 k4 k5 hs (fun a' w' ρ' h => ⟨ρ', h⟩)) (fun v w' ⟨ρ', h⟩ => hK (a.put o.dst v) _ ρ' (by rw [bare_put]; exact h) (put_defers _ _ _) fun t ht => put_frame ht) ?_
    rintro dd w' ⟨ρ', h⟩
    have := h.defers
    cases hdst : o.dst <;> rw [hdst] at this <;> cases this
  | false =>
    rw [hw, hd, if_neg (by decide)]
    refine ⟨fun f _ => hF.fn f, hK (a.put o.dst undef) _ ρ ?_ (put_defers _ _ _) fun t ht => put_frame ht⟩
    rw [bare_put]
    rcases h3 hd with he | ⟨he, hlt⟩
    · rw [he]; exact put_undef hs _
    · rw [he]; exact put_undef2 hs _ hlt

def isDf (o : Oper) : Bool := match o.op with
  | .defer _ => true
  | _ => false
theorem isDf_no {o : Oper} (h : isDf o = false) : ∀ c, o.op ≠ .defer c := fun c e => by
  unfold isDf at h; rw [e] at h; cases h
def noDf (l : List Oper) : Bool := l.all fun o => !isDf o
theorem noDf_at {l : List Oper} (h : noDf l = true) {o : Oper} (ho : o ∈ l) : ∀ c, o.op ≠ .defer c :=
  isDf_no (by have := List.all_eq_true.1 h o ho; simpa using this)
def Frm (l : List Oper) (a a' : Act) : Prop := a'.defers = a.defers ∧ ∀ t, (∀ o ∈ l, o.dst ≠ some t) → a'.tmps[t]? = a.tmps[t]?

section
variable {F : Fence} {n : Nat} {P : Program} {G : List (Nat × Array Value)}
theorem wpOpsIn_chain (hF : Wide F) {l0 : List Oper} (hdf : noDf l0 = true) {K : AS → Prop} {Q : Exit → Act → World → Prop} {A : Amb} (hG : A.G = G) {a0 : Act} (hQ : ∀ ρ σ a w, K σ → Sat A ρ σ (bare a) w → Frm l0 a0 a → Q .normal a w) :
    ∀ (l : List Oper) (ds : List St) (k : Nat) (σ : AS) (ρ : Env) (a : Act) (w : World), (∀ j, l[j]? = l0.toArray[k + j]?) → Chain P G l0.toArray K l ds σ → Sat A ρ σ (bare a) w → Frm l0 a0 a → wpOpsIn F n P l0.toArray Q ((List.range l.length).map (k + ·)) a w
  | [], [], k, σ, ρ, a, w, _, hc, hs, hf => hQ ρ σ a w hc hs hf
  | o :: l, d :: ds, k, σ, ρ, a, w, hl, hc, hs, hf => by
    have h0 : l0.toArray[k]? = some o := by simpa using (hl 0).symm
    have hm : o ∈ l0 := List.mem_of_getElem? (i := k) (by simpa using h0)
    rw [List.length_cons, List.range_succ_eq_map, List.map_cons, List.map_map, wpOpsIn_cons]
    refine hc.1.wpOpIn hF (by simpa using h0) (noDf_at hdf hm) hG hs fun a' w' ρ' hs' hdd hfr => ?_
    have := wpOpsIn_chain hF hdf hG hQ l ds (k + 1) _ ρ' a' w' (fun j => by have := hl (j + 1); simpa [Nat.add_assoc, Nat.add_comm 1 j] using this) hc.2 hs' ⟨hdd.trans hf.1, fun t ht => (hfr t (ht o hm)).trans (hf.2 t ht)⟩
    have he : (fun x => k + x) ∘ Nat.succ = fun x => k + 1 + x := by funext x; simp; omega
    rw [he]
    exact this
  | [], _ :: _, _, _, _, _, _, _, hc, _, _ => hc.elim
  | _ :: _, [], _, _, _, _, _, _, hc, _, _ => hc.elim
theorem wpIn_rg (hF : Wide F) {l : List Oper} (hdf : noDf l = true) {K : AS → Prop} {Q : Exit → Act → World → Prop} {A : Amb} (hG : A.G = G) {id : Nat} {σ : AS} {ρ : Env} {a : Act} {w : World} (hc : Ch P G l false K [] l σ) (hs : Sat A ρ σ (bare a) w)
    (hQ : ∀ ρ σ a' w', K σ → Sat A ρ σ (bare a') w' → Frm l a a' → Q .normal a' w') : (Code.region id l.toArray false).wpIn F n P Q a w := by
  obtain ⟨ds, h1, -⟩ := hc.e
  refine wpIn_region ?_
  have := wpOpsIn_chain (n := n) hF hdf hG hQ l ds 0 σ ρ a w (fun j => by simp) h1 hs ⟨rfl, fun _ _ => rfl⟩
  have he : (fun x => 0 + x) = (fun x : Nat => x) := by funext x; omega
  rw [he, List.map_id'] at this
  simpa using this

theorem left_set' {listed : Array Bool} {n i : Nat} (hn : n ≤ listed.size) (hi : i ∈ left listed n) : ∃ pre post, left listed n = pre ++ i :: post ∧ left (listed.setIfInBounds i true) n = pre ++ post ∧ ∀ j ∈ pre, j < i := by
  have hin : i < n := by simpa using (List.mem_filter.1 hi).1
  obtain ⟨pre, post, he⟩ := List.append_of_mem hi
  have hsorted : (left listed n).Pairwise (· < ·) := (List.pairwise_lt_range (n := n)).filter _
  rw [he] at hsorted
  have h1 := List.pairwise_append.1 hsorted
  have hpre : ∀ j ∈ pre, j < i := fun j hj => h1.2.2 j hj i (by simp)
  have hpost : ∀ j ∈ post, i < j := fun j hj => (List.pairwise_cons.1 h1.2.1).1 j hj
  refine ⟨pre, post, he, ?_, hpre⟩
  have hf : left (listed.setIfInBounds i true) n = (left listed n).filter (fun j => j != i) := by
    unfold left
    rw [List.filter_filter]
    refine List.filter_congr fun j hj => ?_
    have hjn : j < n := by simpa using hj
    by_cases hji : j = i
    · subst hji
      have : j < listed.size := by omega
      simp [Array.getD_eq_getD_getElem?, this]
    · rw [getD_set_ne false (Ne.symm hji)]
      simp [hji]
  rw [hf, he, List.filter_append, List.filter_cons]
  simp only [bne_self_eq_false, Bool.false_eq_true, if_false]
  rw [List.filter_eq_self.2 (fun j hj => by have := hpre j hj; simp; omega), List.filter_eq_self.2 (fun j hj => by have := hpost j hj; simp; omega)]

theorem anc_listed {l : List Oper} {listed : Array Bool} (hn : listed.size = l.length) (hcl : ∀ (j : Nat) (o : Oper), listed.getD j false = true → l[j]? = some o → ∀ e ∈ o.after, Region.binds .any e = true → listed.getD e.on false = true) :
    ∀ j k, Anc l.toArray j k → ∀ ok, l[k]? = some ok → (∀ e ∈ ok.after, Region.binds .any e = true → listed.getD e.on false = true) → listed.getD j false = true := by
  intro j k ha
  induction ha with
  | one h he hb hi' =>
    intro ok hok hall
    rw [List.getElem?_toArray, hok] at h
    cases h
    rw [← hi']
    exact hall _ he hb
  | more h he hb hi' ha ih' =>
    intro ok hok hall
    rw [List.getElem?_toArray, hok] at h
    cases h
    have hk := hall _ he hb
    rw [hi'] at hk
    refine (fun (k' : Nat) (hk : listed.getD k' false = true) (ih' : ∀ ok, l[k']? = some ok → (∀ e ∈ ok.after, Region.binds .any e = true → listed.getD e.on false = true) → listed.getD j false = true) => ?_) _ hk ih'
    cases hk2 : l[k']? with
    | none =>
      have : ¬ k' < l.length := by simpa using hk2
      rw [Array.getD_eq_getD_getElem?, Array.getElem?_eq_none (by omega)] at hk
      cases hk
    | some ok2 => exact ih' ok2 hk2 (fun e2 he2 hb2 => hcl k' ok2 hk hk2 e2 he2 hb2)

theorem getD_false_of {listed : Array Bool} {i : Nat} (h : i < listed.size) {b : Bool} (hb : (!listed.getD i b) = true) : listed.getD i false = false := by
  simp only [Array.getD_eq_getD_getElem?, Array.getElem?_eq_getElem h, Option.getD_some] at hb ⊢
  simpa using hb

theorem chainI_of' {L : List Oper} {K : AS → Prop} {D : Nat → St} : ∀ (r : List Oper) (ds : List St) (k : Nat) (σ : AS), (∀ j, j < r.length → r[j]? = L[k + j]?) → (∀ j d, ds[j]? = some d → D (k + j) = d) →
    Chain P G L.toArray K r ds σ → ChainI P G L.toArray D K ((List.range r.length).map (k + ·)) σ
  | [], [], k, σ, _, _, h => h
  | o :: r, d :: ds, k, σ, hl, hd, h => by
    have h0 : L[k]? = some o := by simpa using (hl 0 (by simp)).symm
    have hD : D k = d := by simpa using hd 0 d rfl
    rw [List.length_cons, List.range_succ_eq_map, List.map_cons, List.map_map]
    refine ⟨o, by simpa using h0, by simpa [hD] using h.1, ?_⟩
    have := chainI_of' r ds (k + 1) _ (fun j hj => by have := hl (j + 1) (by simp; omega); simpa [Nat.add_assoc, Nat.add_comm 1 j] using this) (fun j d hj => by have := hd (j + 1) d (by simpa using hj); rw [← this]; congr 1; omega) h.2
    have he : (fun x => k + x) ∘ Nat.succ = fun x => k + 1 + x := by funext x; simp; omega
    rw [he]
    simpa [hD] using this
  | [], _ :: _, _, _, _, _, h => h.elim
  | _ :: _, [], _, _, _, _, h => h.elim

theorem any_of_leftT (hF : Wide F) {l : List Oper} (hdf : noDf l = true) {D : Nat → St} {K : AS → Prop} {Q : Exit → Act → World → Prop} {A : Amb} (hG : A.G = G) (m : Nat) (hm : m ≤ l.length) {a0 : Act}
    (hH : ∀ listed ρ σ a w, listed.size = l.length → (∀ j, j < m → listed.getD j false = true) → (∀ j, m ≤ j → listed.getD j false = false) → K σ → Sat A ρ σ (bare a) w → Frm l a0 a → wpAnyIn F n P .any l.toArray Q (l.length - m) listed a w)
    (hed : ∀ (i : Nat) (o : Oper), l[i]? = some o → ∀ e ∈ o.after, Region.binds .any e = true → e.on < i)
    (hchk : ∀ (j i : Nat) (oj oi : Oper), j < i → i < m → l[j]? = some oj → l[i]? = some oi → Anc l.toArray j i ∨ Apart l.toArray oj (D j) oi (D i))
    (htl : ∀ i j, m ≤ i → i < l.length → j < m → Anc l.toArray j i) :
    ∀ (fuel : Nat) (listed : Array Bool) (σ : AS) (ρ : Env) (a : Act) (w : World), listed.size = l.length →
      (∀ (j : Nat) (o : Oper), listed.getD j false = true → l[j]? = some o → ∀ e ∈ o.after, Region.binds .any e = true → listed.getD e.on false = true) → (∀ j, m ≤ j → listed.getD j false = false) →
      ChainI P G l.toArray D K (left listed m) σ → fuel = (left listed m).length + (l.length - m) → Sat A ρ σ (bare a) w → Frm l a0 a → wpAnyIn F n P .any l.toArray Q fuel listed a w := by
  intro fuel
  induction fuel with
  | zero =>
    intro listed σ ρ a w hn hcl hto hch hf hs hfr
    have hnil : left listed m = [] := List.eq_nil_of_length_eq_zero (by omega)
    rw [hnil] at hch
    have := hH listed ρ σ a w hn (fun j hj => by
      cases hc : listed.getD j false with
      | true => rfl
      | false =>
        have : j ∈ left listed m := List.mem_filter.2 ⟨by simpa using hj, by simp [hc]⟩
        rw [hnil] at this
        cases this) hto hch hs hfr
    rw [show l.length - m = 0 by omega] at this
    exact this
  | succ fuel ih =>
    intro listed σ ρ a w hn hcl hto hch hf hs hfr
    cases hleft : left listed m with
    | nil =>
      rw [hleft] at hch hf
      have := hH listed ρ σ a w hn (fun j hj => by
        cases hc : listed.getD j false with
        | true => rfl
        | false =>
          have : j ∈ left listed m := List.mem_filter.2 ⟨by simpa using hj, by simp [hc]⟩
          rw [hleft] at this
          cases this) hto hch hs hfr
      rw [hf]
      simpa using this
    | cons i0 rest =>
      have hi0 : i0 ∈ left listed m := by rw [hleft]; simp
      have hi0' := List.mem_filter.1 hi0
      have hi0m : i0 < m := by simpa using hi0'.1
      have hi0f : listed.getD i0 false = false := by simpa using hi0'.2
      have hready : ∀ i, i ∈ Region.ready .any l.toArray listed → i ∈ left listed m ∧ ∃ o, l[i]? = some o ∧ ∀ e ∈ o.after, Region.binds .any e = true → listed.getD e.on false = true := by
        intro i hi
        obtain ⟨h1, h2⟩ := List.mem_filter.1 hi
        simp only [Bool.and_eq_true] at h2
        have hil : i < l.length := by simpa using h1
        have hlt : i < listed.size := by rw [hn]; exact hil
        have hall : ∀ e ∈ l[i].after, Region.binds .any e = true → listed.getD e.on false = true := by
          have h3 := h2.2
          simp only [List.getElem?_toArray, List.getElem?_eq_getElem hil, Option.map_some, Option.getD_some, Array.all_eq_true'] at h3
          intro e he hb
          have := h3 e he
          simpa [hb] using this
        have hfi : listed.getD i false = false := getD_false_of hlt h2.1
        by_cases him : i < m
        · exact ⟨List.mem_filter.2 ⟨by simpa using him, by simp [hfi]⟩, l[i], by simp [hil], hall⟩
        · have := anc_listed hn hcl i0 i (htl i i0 (by omega) hil hi0m) l[i] (by simp [hil]) hall
          rw [hi0f] at this
          cases this
      refine ⟨fun hr => ?_, fun i hi => ?_⟩
      · exfalso
        rw [hleft] at hch
        obtain ⟨o, ho, -⟩ := hch
        have hlt : i0 < l.length := by omega
        by_cases hall : ∀ e ∈ o.after, Region.binds .any e = true → listed.getD e.on false = true
        · have : i0 ∈ Region.ready .any l.toArray listed := by
            refine List.mem_filter.2 ⟨by simpa using hlt, ?_⟩
            have hlt' : i0 < listed.size := by rw [hn]; exact hlt
            have h3 := hi0f
            simp only [Array.getD_eq_getD_getElem?, Array.getElem?_eq_getElem hlt', Option.getD_some] at h3
            simp only [Bool.and_eq_true, Array.getD_eq_getD_getElem?, Array.getElem?_eq_getElem hlt', Option.getD_some]
            refine ⟨by simp [h3], ?_⟩
            simp only [ho, Option.map_some, Option.getD_some, Array.all_eq_true']
            intro e he
            cases hb : Region.binds .any e with
            | false => rfl
            | true =>
              have := hall e he hb
              simp only [Array.getD_eq_getD_getElem?] at this
              simpa using this
          rw [hr] at this
          cases this
        · refine hall fun e he hb => ?_
          have hlt2 := hed i0 o (by simpa using ho) e he hb
          cases hc : listed.getD e.on false with
          | true => rfl
          | false =>
            have hme : e.on ∈ left listed m := List.mem_filter.2 ⟨by simp; omega, by simp [hc]⟩
            have hsorted : (left listed m).Pairwise (· < ·) := (List.pairwise_lt_range (n := m)).filter _
            rw [hleft] at hme hsorted
            rcases List.mem_cons.1 hme with h | h
            · omega
            · have := (List.pairwise_cons.1 hsorted).1 _ h
              omega
      · obtain ⟨hil, o, ho, hpre⟩ := hready i hi
        have him : i < m := by simpa using (List.mem_filter.1 hil).1
        obtain ⟨pre, post, h1, h2, h3⟩ := left_set' (by omega) hil
        have hoi : l.toArray[i]? = some o := by simpa using ho
        have hmo : o ∈ l := List.mem_of_getElem? ho
        rw [h1] at hch
        obtain ⟨k1, k2⟩ := ChainI.front hoi (fun j hj oj hoj => by
          have hj' : j ∈ left listed m := by rw [h1]; simp [hj]
          rcases hchk j i oj o (h3 j hj) him (by simpa using hoj) ho with ha | ha
          · have := anc_listed hn hcl j i ha o ho hpre
            have hjf := (List.mem_filter.1 hj').2
            rw [this] at hjf
            cases hjf
          · exact ha) hch
        refine k1.wpOpIn hF hoi (noDf_at hdf hmo) hG hs fun a' w' ρ' hs' hdd hfr' => ?_
        refine ih (listed.setIfInBounds i true) _ ρ' a' w' (by simpa using hn) ?_ (fun j hj => by rw [getD_set_ne false (by omega)]; exact hto j hj) (by rw [h2]; exact k2) ?_ hs' ⟨hdd.trans hfr.1, fun t ht => (hfr' t (ht o hmo)).trans (hfr.2 t ht)⟩
        · intro j oj hj hoj e he hb
          by_cases hji : j = i
          · subst hji
            rw [ho] at hoj
            cases hoj
            exact getD_set_true (hpre e he hb)
          · rw [getD_set_ne false (Ne.symm hji)] at hj
            exact getD_set_true (hcl j oj hj hoj e he hb)
        · rw [h2]
          rw [h1] at hf
          simp only [List.length_append, List.length_cons] at hf ⊢
          omega

theorem wpAnyIn_seq {md : Region.Mode} {ops : Array Oper} {Q : Exit → Act → World → Prop} : ∀ (l : List Oper) (k : Nat) (listed : Array Bool) (a : Act) (w : World), (∀ j, l[j]? = ops[k + j]?) →
    Region.seqB md ops l.length k listed = true → wpListIn F n P ops Q l a w → wpAnyIn F n P md ops Q l.length listed a w
  | [], _, _, _, _, _, hB, h => ⟨by simpa [Region.seqB] using hB, h⟩
  | o :: l, k, listed, a, w, hl, hB, h => by
    have h0 : ops[k]? = some o := by simpa using (hl 0).symm
    simp only [List.length_cons, Region.seqB, Bool.and_eq_true, decide_eq_true_eq] at hB
    refine ⟨fun h1 => (by rw [hB.1] at h1; cases h1), fun i hi => ?_⟩
    rw [hB.1] at hi
    have hik : i = k := by simpa using hi
    subst hik
    have hw : wpOpIn F n P ops Q i (wpListIn F n P ops Q l) a w := by unfold wpOpIn; simp only [h0]; exact h
    exact wpOpIn_mono (fun a' w' h' => wpAnyIn_seq l (i + 1) _ a' w' (fun j => by have := hl (j + 1); simpa [Nat.add_assoc, Nat.add_comm 1 j] using this) hB.2 h') hw

def anAll (m : Nat) (an : Nat) : Bool := (List.range m).all fun j => an.testBit j
def tailOk (l : List Oper) (m : Nat) : Bool := decide (m ≤ l.length) && ((List.range l.length).all fun i => decide (i < m) || anAll m ((ancs l).getD i 0)) && Region.seqB .any l.toArray (l.length - m) m ((List.range l.length).map fun j => decide (j < m)).toArray
theorem wpIn_rgT (hF : Wide F) {l : List Oper} (m : Nat) (hm : P.follows .mixedOrders = true) (hdf : noDf l = true) (htl : tailOk l m = true) {K : AS → Prop} {Q : Exit → Act → World → Prop} {A : Amb} (hG : A.G = G) {id : Nat} {σ : AS} {ρ : Env} {a : Act} {w : World}
    (hc : Ch P G l true K [] (l.take m) σ) (hs : Sat A ρ σ (bare a) w)
    (hQ : ∀ ρ σ a' w', K σ → Sat A ρ σ (bare a') w' → Frm l a a' → wpListIn F n P l.toArray Q (l.drop m) a' w') : (Code.region id l.toArray true).wpIn F n P Q a w := by
  obtain ⟨ds, hch, hck⟩ := hc.e
  have hchk := hck rfl
  simp only [List.reverse_nil, List.nil_append, Bool.and_eq_true] at hchk
  simp only [tailOk, Bool.and_eq_true, decide_eq_true_eq, List.all_eq_true, Bool.or_eq_true] at htl
  obtain ⟨⟨hml, htl⟩, hseq⟩ := htl
  refine wpIn_region_any hm ?_
  have hs' : Sat A ρ σ (bare a) { w with drawn := w.drawn + 1 } := by
    obtain ⟨h1, h2⟩ := hs.mem.same (w' := { w with drawn := w.drawn + 1 }) rfl rfl rfl rfl
    exact ⟨h1, fun t v ht => by obtain ⟨x, hx, hv⟩ := hs.slots t v ht; exact ⟨x, hx, h2 _ _ hv⟩, hs.nt, hs.defers⟩
  have hlen := chain_len hch
  have htk : (l.take m).length = m := by simp; omega
  have hleft : left (Array.replicate l.length false) m = List.range m := by
    unfold left
    rw [List.filter_eq_self]
    intro j hj
    have : j < m := by simpa using hj
    have : j < l.length := by omega
    simp [Array.getD_eq_getD_getElem?, this]
  have hchI : ChainI P G l.toArray (fun j => ds.getD j ⟨true, [], [], ⟨none, [], []⟩⟩) K (List.range m) σ := by
    have := chainI_of' (P := P) (G := G) (K := K) (L := l) (D := fun j => ds.getD j ⟨true, [], [], ⟨none, [], []⟩⟩) (l.take m) ds 0 σ (fun j hj => by rw [List.getElem?_take_of_lt (by omega)]; simp) (fun j d hj => by simp [List.getD_eq_getElem?_getD, hj]) hch
    have he : (fun x => 0 + x) = (fun x : Nat => x) := by funext x; omega
    rw [he, List.map_id', htk] at this
    exact this
  have hsz : l.toArray.size = l.length := by simp
  rw [hsz]
  refine any_of_leftT (D := fun j => ds.getD j ⟨true, [], [], ⟨none, [], []⟩⟩) hF hdf hG m hml (a0 := a) ?_ (fun i o ho e he hb => by simpa using edgesOk_spec hchk.1 i o ho e he hb) ?_ ?_ l.length (Array.replicate l.length false) σ ρ a _ (by simp) ?_ ?_ (by rw [hleft]; exact hchI)
    (by rw [hleft, List.length_range]; omega) hs' ⟨rfl, fun _ _ => rfl⟩
  · intro listed ρ' σ' a' w' h1 h2 h3 hk hs2 hfr
    have hl : listed = ((List.range l.length).map fun j => decide (j < m)).toArray := by
      refine Array.ext (by simp [h1]) fun i hi hi' => ?_
      have e1 : listed[i] = listed.getD i false := by simp [Array.getD_eq_getD_getElem?, hi]
      rw [e1]
      by_cases him : i < m
      · rw [h2 i him]; simp [him]
      · rw [h3 i (by omega)]; simp [him]
    have := wpAnyIn_seq (F := F) (n := n) (P := P) (md := .any) (Q := Q) (l.drop m) m listed a' w' (fun j => by simp [List.getElem?_drop]) (by rw [List.length_drop, hl]; exact hseq) (hQ ρ' σ' a' w' hk hs2 hfr)
    rwa [List.length_drop] at this
  · intro j i oj oi hji him hj hi
    have hdj : ds[j]? = some (ds.getD j ⟨true, [], [], ⟨none, [], []⟩⟩) := by
      have : j < ds.length := by omega
      simp [List.getD_eq_getElem?_getD, List.getElem?_eq_getElem this]
    have hdi : ds[i]? = some (ds.getD i ⟨true, [], [], ⟨none, [], []⟩⟩) := by
      have : i < ds.length := by omega
      simp [List.getD_eq_getElem?_getD, List.getElem?_eq_getElem this]
    rcases chkGo_spec hchk.2 (ancs_len l) i oi _ hi hdi j oj _ (by omega) hj hdj with h | h
    · exact .inl (ancs_spec h)
    · exact .inr (apart_of_conf h)
  · intro i j hi hil hj
    rcases htl i (by simpa using hil) with h | h
    · have : i < m := by simpa using h
      omega
    · exact ancs_spec (List.all_eq_true.1 h j (by simpa using hj))
  · intro j o hj
    by_cases hjl : j < l.length
    · simp [Array.getD_eq_getD_getElem?, hjl] at hj
    · simp [Array.getD_eq_getD_getElem?, hjl] at hj
  · intro j _
    by_cases hjl : j < l.length <;> simp [Array.getD_eq_getD_getElem?, hjl]
end
end Go.Proofs.YtcojfnjpcpochaaDoor.E
end
section
namespace Go.Proofs.YtcojfnjpcpochaaDoor.E
open Go Go.RowKit Go.Proofs.YtcojfnjpcpochaaDoor.V

def Amb.now (A : Amb) (h : Nat → Option AO) (ρ : Env) (w : World) : Amb :=
  ⟨w, Nh A h ρ w, fun b o => ∃ i ob, h i = some ob ∧ ob.wr ρ i b o, fun b => ∃ i ob, h i = some ob ∧ ob.at_ ρ i b, A.nA, A.G, A.ρ⟩

section
variable {A : Amb} {ρ ρ' : Env} {h h' : Nat → Option AO} {u u' : Nat → Bool} {w w' : World}
theorem Nh.now {b o : Nat} (H : Nh A h ρ w b o) : Nh (A.now h ρ w) h ρ w b o := ⟨H.1, .inl H, H.2.2⟩
theorem HSat.now (H : HSat A ρ h u w) : HSat (A.now h ρ w) ρ h u w := by
  refine ⟨rfl, rfl, rfl, Nat.le_refl _, fun _ _ _ => rfl, fun _ _ _ => rfl, fun b o hn => hn.1, ?_, ?_, ?_, H.domB, H.domT, H.fix, H.usedB, H.usedT, ?_, fun i ob b o hi hw => .inl ⟨i, ob, hi, hw⟩, fun i ob b hi hw => .inl ⟨i, ob, hi, hw⟩, H.sep⟩
  · rintro b o hn ⟨i, ob, hi, hw⟩
    exact hn.2.2 i ob hi hw
  · rintro b o ⟨i, ob, hi, hw⟩
    exact ⟨i, ob, hi, AO.at_of_wr hw⟩
  · intro x hx
    obtain ⟨⟨T, h1⟩, h2⟩ := H.tabs x hx
    have hlt := (Array.getElem?_eq_some_iff.1 h1).1
    refine ⟨⟨T, (H.block _ hlt h2).trans h1⟩, ?_⟩
    rintro ⟨i, ob, hi, hw⟩
    rcases H.ownB i ob _ hi hw with hb | hb
    · exact h2 hb
    · omega
  · intro i ob hi
    exact (H.heap i ob hi).keep (Env.le_refl _) (fun av x hx => hx.mono (fun b o hn => hn.now) (Env.le_refl _) (fun _ _ _ => rfl)) (fun _ _ => rfl)
theorem Nh.back (H : HSat A ρ h u w) {b o : Nat} (hn : Nh (A.now h ρ w) h' ρ' w' b o) : Nh A h' ρ' w' b o := by
  refine ⟨hn.1, ?_, hn.2.2⟩
  rcases hn.2.1 with hx | ⟨i, ob, hi, hw⟩ | hx
  · exact hx.2.1
  · exact .inr (H.own i ob b o hi hw)
  · exact .inr (.inr (Nat.le_trans H.size hx))
theorem HSat.back (H : HSat A ρ h u w) (H' : HSat (A.now h ρ w) ρ' h' u' w') : HSat A ρ' h' u' w' := by
  refine ⟨H'.os.trans H.os, H'.tape.trans H.tape, H'.output.trans H.output, Nat.le_trans H.size H'.size, ?_, ?_, H.nlt, H.nw, H.wb, H.tabs, H.domB, H.domT, H'.fix, H'.usedB, H'.usedT, ?_, ?_, ?_, H'.sep⟩
  · intro b hb hB
    refine (H'.block b (Nat.lt_of_lt_of_le hb H.size) ?_).trans (H.block b hb hB)
    rintro ⟨i, ob, hi, hw⟩
    exact (H.ownB i ob b hi hw).elim hB (fun hle => by omega)
  · intro b o hn
    refine (H'.keep b o ⟨Nat.lt_of_lt_of_le (H.nlt b o hn) H.size, .inl hn, fun i ob hi hw => ?_⟩).trans (H.keep b o hn)
    exact (H.own i ob b o hi hw).elim (H.nw b o hn) (fun hle => by have := H.nlt b o hn; omega)
  · intro i ob hi
    exact (H'.heap i ob hi).keep (Env.le_refl _) (fun av x hx => hx.mono (fun b o hn => hn.back H) (Env.le_refl _) (fun _ _ _ => rfl)) (fun _ _ => rfl)
  · intro i ob b o hi hw
    rcases H'.own i ob b o hi hw with ⟨j, oj, hj, hwj⟩ | hle
    · exact H.own j oj b o hj hwj
    · exact .inr (Nat.le_trans H.size hle)
  · intro i ob b hi hw
    rcases H'.ownB i ob b hi hw with ⟨j, oj, hj, hwj⟩ | hle
    · exact H.ownB j oj b hj hwj
    · exact .inr (Nat.le_trans H.size hle)
theorem Nh.on (H' : HSat (A.now h ρ w) ρ' h' u' w') {b o : Nat} (hn : Nh A h ρ w b o) : Nh A h' ρ' w' b o := by
  refine ⟨Nat.lt_of_lt_of_le hn.1 H'.size, hn.2.1, fun i ob hi hw => ?_⟩
  rcases H'.own i ob b o hi hw with ⟨j, oj, hj, hwj⟩ | hle
  · exact hn.2.2 j oj hj hwj
  · have h1 : w.heap.size ≤ b := hle
    have h2 := hn.1
    omega

theorem VRel.mono2 {N N' : Nat → Nat → Prop} (hN : ∀ b o x, N b o → w.cell? ⟨b, o, none⟩ = some x → N' b o) (hρ : ρ.le ρ') (hw : ∀ b o x, N b o → w.cell? ⟨b, o, none⟩ = some x → w'.cell? ⟨b, o, none⟩ = some x)
    {av : AV} {x : Value} (h : VRel N ρ w av x) : VRel N' ρ' w' av x := by
  induction h with
  | v x => exact .v x
  | agg cs vs hs _ ih => exact .agg cs vs hs ih
  | tup cs vs hs _ ih => exact .tup cs vs hs ih
  | sl o n cs a cap vals hc _ ho hn hz hm ih =>
    exact .sl o n cs a cap vals (fun i hi => by obtain ⟨h1, b, off, ha, hx, hnn⟩ := hc i hi; exact ⟨h1, b, off, ha, hw _ _ _ hnn hx, hN _ _ _ hnn hx⟩) ih (fun k hk => hρ.2 _ _ (ho k hk)) hn hz hm
  | arr id off n cap b hb hn hm => exact .arr id off n cap b (hρ.1 _ _ hb) hn hm
  | ptr id off b hb => exact .ptr id off b (hρ.1 _ _ hb)
  | sptr cs b off vals hc _ ih => exact .sptr cs b off vals (fun i hi => ⟨hw _ _ _ (hc i hi).2 (hc i hi).1, hN _ _ _ (hc i hi).2 (hc i hi).1⟩) ih
  | fn f fs cs vs us hs _ hs' _ ih ih' => exact .fn f fs cs vs us hs ih hs' ih'
theorem ORel.cells {N : Nat → Nat → Prop} {i b : Nat} {ob : AO} (H : ORel N ρ w i ob) (hb : ob.at_ ρ i b) : ∃ o : Obj, w.heap[b]? = some o ∧ o.isCells = true := by
  cases ob with
  | cells T cs =>
    obtain ⟨b', arr, h1, ⟨fz, hmk, h2⟩, -⟩ := H
    have hb' : ρ.blk i = some b := hb
    rw [h1] at hb'
    cases hb'
    exact ⟨_, h2, rfl⟩
  | tip E sz n =>
    obtain ⟨cap, hb⟩ := hb
    rcases H with ⟨h1, -⟩ | ⟨g, cap', cur, h1, h2, -⟩
    · rw [h1] at hb; cases hb
    · rw [h1] at hb
      cases hb
      exact ⟨_, h2, rfl⟩
theorem HSat.grown (H : HSat A ρ h u w) {row : Option Nat} (hg : w.grownBy w' row) (hr : ∀ r, row = some r → A.w.heap.size ≤ r ∧ ∃ o : Obj, w.heap[r]? = some o ∧ o.isCells = false) :
    HSat A ρ h u w' ∧ (∀ av x, VRel (Nh A h ρ w) ρ w av x → VRel (Nh A h ρ w') ρ w' av x) ∧ ∀ b o, Nh A h ρ w b o → Nh A h ρ w' b o := by
  have hr' : ∀ r, row = some r → ∃ o : Obj, w.heap[r]? = some o ∧ o.isCells = false := fun r e => (hr r e).2
  have hN : ∀ b o, Nh A h ρ w b o → Nh A h ρ w' b o := fun b o hn => ⟨Nat.lt_of_lt_of_le hn.1 hg.size, hn.2⟩
  have hV : ∀ av x, VRel (Nh A h ρ w) ρ w av x → VRel (Nh A h ρ w') ρ w' av x := fun av x hx => hx.mono2 (fun b o _ hn _ => hN b o hn) (Env.le_refl _) (fun b o y _ hy => cell_kept hy hg hr')
  have hold : ∀ b, b < A.w.heap.size → w'.heap[b]? = w.heap[b]? := fun b hb => hg.block b (Nat.lt_of_lt_of_le hb H.size) (fun e => by have := (hr b e.symm).1; omega)
  refine ⟨⟨hg.os.trans H.os, hg.tape.trans H.tape, hg.output.trans H.output, Nat.le_trans H.size hg.size, fun b hb hB => (hold b hb).trans (H.block b hb hB), fun b o hn => (World.cell?_of_block (w := w) (hold b (H.nlt b o hn))).trans (H.keep b o hn),
    H.nlt, H.nw, H.wb, H.tabs, H.domB, H.domT, H.fix, H.usedB, H.usedT, fun i ob hi => (H.heap i ob hi).keep (Env.le_refl _) hV (fun b hb => ?_), H.own, H.ownB, H.sep⟩, hV, hN⟩
  obtain ⟨o, ho, hc⟩ := (H.heap i ob hi).cells hb
  exact grownBy_keeps_cells hg hr' ho hc
theorem Sat.grown {σ : AS} {a : Act} (H : Sat A ρ σ a w) {row : Option Nat} (hg : w.grownBy w' row) (hr : ∀ r, row = some r → A.w.heap.size ≤ r ∧ ∃ o : Obj, w.heap[r]? = some o ∧ o.isCells = false) : Sat A ρ σ a w' := by
  obtain ⟨h1, h2, -⟩ := H.mem.grown hg hr
  exact ⟨h1, fun t v ht => by obtain ⟨x, hx, hv⟩ := H.slots t v ht; exact ⟨x, hx, h2 _ _ hv⟩, H.nt, H.defers⟩
end

def KpN (N : Nat → Nat → Prop) (G : List (Nat × Array Value)) (W W' : World) : Prop := (∀ b o, N b o → W'.cell? ⟨b, o, none⟩ = W.cell? ⟨b, o, none⟩) ∧ ∀ x ∈ G, W'.heap[x.1]? = W.heap[x.1]?
structure SeqC (P : Program) (G : List (Nat × Array Value)) (f : FuncId) (caps : List AV) {α : Type} (enc : α → Value) (L : List α) : Prop where
  enter : ∃ fn c, P.funcs[f]? = some fn ∧ (fn.name == "runtime.NumGoroutine") = false ∧ fn.body = some c
  stops : ∀ (n : Nat) (w : World) (N : Nat → Nat → Prop) (ρ : Env) (us : Array Value), (∀ b o, N b o → b < w.heap.size) → (∀ x ∈ G, ∃ T, w.heap[x.1]? = some (.cells x.2 T (0, 0))) → us.size = caps.length →
    (∀ (i : Nat) (c : AV) (x : Value), caps[i]? = some c → us[i]? = some x → VRel N ρ w c x) →
    SeqStopsK Fence.wide n P f us (fun x : α => #[enc x]) (KpN N G) (fun ys => ys = L) (fun pre => pre <+: L) L.length w

def slOff (S : List (Nat × AV)) (p v : Nat) (l : List Oper) : Bool := S.all fun x => !(Nat.beq x.1 p) && !(Nat.beq x.1 v) && l.all fun o => match o.dst with
  | some d => !(Nat.beq d x.1)
  | none => true
theorem slOff_spec {S : List (Nat × AV)} {p v : Nat} {l : List Oper} (h : slOff S p v l = true) {t : Nat} {x : AV} (ht : ls S t = some x) : t ≠ p ∧ t ≠ v ∧ ∀ o ∈ l, o.dst ≠ some t := by
  have := List.all_eq_true.1 h _ (ls_some ht)
  simp only [Bool.and_eq_true, Bool.not_eq_true', List.all_eq_true] at this
  obtain ⟨⟨h1, h2⟩, h3⟩ := this
  refine ⟨fun e => by rw [e] at h1; simp at h1, fun e => by rw [e] at h2; simp at h2, fun o ho e => ?_⟩
  have := h3 o ho
  rw [e] at this
  simp at this

theorem wp_rangeF {P : Program} {G : List (Nat × Array Value)} {A : Amb} {ρ : Env} {a : Act} {w : World} {g : Operand} {p v ia ib ir : Nat} {ty : TypeId} {pos : String} {aft : Array Edge} {l : List Oper} {f : FuncId} {caps : List AV} {α : Type} {enc : α → Value} {L : List α}
    {S : List (Nat × AV)} {m : Nat} {h0 : Nat → Option AO} {u0 : Nat → Bool} (hG : A.G = G) (hs : Sat A ρ ⟨m, ls S, h0, u0⟩ a w) (hg : (⟨m, ls S, h0, u0⟩ : AS).ev g = some (.fn (.func f) [] caps)) (hseq : SeqC P G f caps enc L)
    (H : List α → Nat → Option AO) (U : List α → Nat → Bool) (hH : H [] = h0) (hU : U [] = u0) (hp : p < m) (hv : v < m) (hf : slOff S p v l = true) (hdf : noDf l = true)
    (hbody : ∀ (A' : Amb) (pre : List α) (x : α), A'.G = G → A'.nA = A.nA → pre.length < L.length → Ch P G l false (fun σ' => ∃ σ'', SEnt A' σ' σ'' ∧ σ''.n = m ∧ (∀ t y, ls S t = some y → σ''.s t = some y) ∧ σ''.h = H (pre ++ [x]) ∧ σ''.u = U (pre ++ [x])) [] l
      ⟨m, upd (upd (ls S) p (some (.v (enc x)))) v (some (.v (enc x))), H pre, U pre⟩)
    {Q : Exit → Act → World → Prop} (hQ : ∀ D ρ' W, W.heap[D]? = some (.deferred (some [])) → A.w.heap.size ≤ D → Sat A ρ' ⟨m, ls S, H L, U L⟩ a W → Q .normal { a with defers := { target := .collected D, args := #[] } :: a.defers } W) :
    (Code.rangeFunc g #[p] (.region ia #[⟨some v, .assign (.tmp p), ty, pos, aft, none⟩] false) (.block ib (.region ir l.toArray false))).wp P Q a w := by
  have hgv := hs.ev hg
  obtain ⟨us, hus, hcap, hev⟩ : ∃ us : Array Value, us.size = caps.length ∧ (∀ (i : Nat) (c : AV) (x : Value), caps[i]? = some c → us[i]? = some x → VRel (Nh A h0 ρ w) ρ w c x) ∧ a.eval g = .func (.func f) #[] us := by
    generalize a.eval g = y at hgv
    cases hgv with
    | fn f' fs cs vs us hs1 k1 hs2 k2 =>
      refine ⟨us, hs2, k2, ?_⟩
      obtain rfl := Array.eq_empty_of_size_eq_zero (by simpa using hs1)
      rfl
  have htab : ∀ x ∈ G, (∃ T, w.heap[x.1]? = some (.cells x.2 T (0, 0))) ∧ ∀ i ob, h0 i = some ob → ¬ ob.at_ ρ i x.1 := fun x hx => by
    have := hs.mem.now.tabs x (by show x ∈ A.G; rw [hG]; exact hx)
    exact ⟨this.1, fun i ob hi hb => this.2 ⟨i, ob, hi, hb⟩⟩
  obtain ⟨fn, c, e1, e2, e3⟩ := hseq.enter
  have hst := hseq.stops 2 w (Nh A h0 ρ w) ρ us (fun b o hn => hn.1) (fun x hx => (htab x hx).1) hus hcap
  refine (wpIn_wide (n := 3)).1 ?_
  refine wpIn_rangeFunc_ownF (F := Fence.wide) (n := 3) rfl (by omega) (gf := f) (lb := us) hev trivial (fun args W => run_enter e1 e2 e3 args W) hst ?_ ?_ (Below.refl _ _) (fun _ => rfl)
    (fun pre W => ∃ ρk, Sat A ρk ⟨m, ls S, H pre, U pre⟩ a W ∧ ∀ b o, Nh A h0 ρ w b o → Nh A (H pre) ρk W b o) (fun _ _ _ => False) ?_ (fun _ _ _ _ _ hx _ _ => hx) ⟨ρ, by rw [hH, hU]; exact hs, fun b o hn => by rw [hH]; exact hn⟩
    (fun x => { tmps := (a.tmps.setIfInBounds p (enc x)).setIfInBounds v (enc x), defers := [] }) ?assign ?body ?done (fun _ _ _ _ _ _ hx => hx.elim)
  · intro A' B' C' h1 h2
    exact ⟨fun b o hn => (h2.1 b o hn).trans (h1.1 b o hn), fun x hx => (h2.2 x hx).trans (h1.2 x hx)⟩
  · intro W k o o' hk hl hc _
    have key : ∀ b, b < w.heap.size → (W.putObj k o').heap[b]? = W.heap[b]? := fun b hb => World.putObj_heap_other (by omega)
    refine ⟨fun b o hn => World.cell?_of_block (w := W) (key b hn.1), fun x hx => key _ ?_⟩
    obtain ⟨T, hT⟩ := (htab x hx).1
    exact (Array.getElem?_eq_some_iff.1 hT).1
  · rintro pre W W' row ⟨ρk, hk, hn⟩ hgr hr
    have hr' : ∀ r, row = some r → A.w.heap.size ≤ r ∧ ∃ o : Obj, W.heap[r]? = some o ∧ o.isCells = false := fun r e => ⟨Nat.le_trans hs.mem.size (hr r e).1, (hr r e).2⟩
    exact ⟨ρk, hk.grown hgr hr', fun b o hb => (hk.mem.grown hgr hr').2.2 b o (hn b o hb)⟩
  case assign =>
    intro lp x W K hK
    refine wpIn_region_lit (l := [_]) ?_
    unfold wpListIn
    rw [if_pos (show Region.wanted _ _ = true from rfl)]
    have hpa : p < a.tmps.size := by rw [hs.nt]; exact hp
    refine Oper.wpIn_of_wp (Wide.rd lp) (a := { tmps := a.tmps.setIfInBounds p (enc x), defers := [] }) (K := fun a' w' => a' = { tmps := (a.tmps.setIfInBounds p (enc x)).setIfInBounds v (enc x), defers := [] } ∧ w' = W) (by simp) (fun c h => by cases h) ?_ ?_ ?_
    · have hv' : (Act.eval { tmps := a.tmps.setIfInBounds p (enc x), defers := [] } (.tmp p)) = enc x := by simp [Act.eval, Array.getD_eq_getD_getElem?, hpa]
      show Act.put { tmps := a.tmps.setIfInBounds p (enc x), defers := [] } (some v) (Act.eval { tmps := a.tmps.setIfInBounds p (enc x), defers := [] } (.tmp p)) = _ ∧ W = W
      rw [hv']
      exact ⟨rfl, rfl⟩
    · rintro y w' ⟨hy, rfl⟩
      have : Act.put { tmps := (#[p].zip #[enc x]).foldl (fun t (q, v) => t.setIfInBounds q v) a.tmps, defers := [] } (some v) y = { tmps := (a.tmps.setIfInBounds p (enc x)).setIfInBounds v (enc x), defers := [] } := by
        rw [← hy]; simp
      rw [this]
      exact hK
    · rintro d w' ⟨hy, -⟩
      have := congrArg Act.defers hy
      rw [put_defers] at this
      cases this
  case body =>
    rintro lp pre x W ⟨ρk, hk, hn⟩ hlen
    have hk1 : Sat (A.now (H pre) ρk W) ρk ⟨m, upd (upd (ls S) p (some (.v (enc x)))) v (some (.v (enc x))), H pre, U pre⟩ (bare { tmps := (a.tmps.setIfInBounds p (enc x)).setIfInBounds v (enc x), defers := [] }) W := by
      refine ⟨hk.mem.now, fun t y ht => ?_, by simp [bare, hk.nt], rfl⟩
      rcases upd_eq_some (f := upd (ls S) p (some (.v (enc x)))) (k := v) (x := some (.v (enc x))) ht with ⟨rfl, he⟩ | ⟨hne, he⟩
      · cases he
        exact ⟨enc x, by simp [bare, hs.nt, hv], .v _⟩
      · rcases upd_eq_some (f := ls S) (k := p) (x := some (.v (enc x))) he with ⟨rfl, he2⟩ | ⟨hne', he2⟩
        · cases he2
          exact ⟨enc x, by simp only [bare]; rw [Array.getElem?_setIfInBounds_ne (Ne.symm hne), Array.getElem?_setIfInBounds_self_of_lt (by rw [hs.nt]; exact hp)], .v _⟩
        · obtain ⟨z, hz, hvz⟩ := hk.slots t y he2
          exact ⟨z, by simp only [bare]; rw [Array.getElem?_setIfInBounds_ne (Ne.symm hne), Array.getElem?_setIfInBounds_ne (Ne.symm hne')]; exact hz, hvz.mono (fun b o hb => hb.now) (Env.le_refl _) (fun _ _ _ => rfl)⟩
    refine wpIn_block (wpIn_rg (Wide.rd lp) hdf (A := A.now (H pre) ρk W) hG (hbody (A.now (H pre) ρk W) pre x hG rfl hlen) hk1 ?_)
    rintro ρ1 σ1 a1 W1 ⟨σ2, hE, hn2, hs2, hh2, hu2⟩ hs1 hfr
    obtain ⟨ρ2, hs3⟩ := hE ρ1 _ W1 hs1
    have hm3 := hs3.mem
    rw [hh2, hu2] at hm3
    show KeepsOthers W W1 ∧ KpN (Nh A h0 ρ w) G W W1 ∧ _
    refine ⟨⟨hm3.size, fun k o hko ho => ?_⟩, ⟨fun b o hb => hm3.keep b o (hn b o hb), fun y hy => ?_⟩, ρ2, ⟨hk.mem.back hm3, fun t y ht => ?_, hk.nt, hk.defers⟩, fun b o hb => Nh.on hm3 (hn b o hb)⟩
    · refine (hm3.block k (Array.getElem?_eq_some_iff.1 hko).1 ?_).trans hko
      rintro ⟨i, ob, hi, hb⟩
      obtain ⟨o', ho', hc'⟩ := (hk.mem.heap i ob hi).cells hb
      rw [hko] at ho'
      cases ho'
      rw [ho] at hc'
      cases hc'
    · obtain ⟨⟨T, h1⟩, h2⟩ := hm3.tabs y (by show y ∈ A.G; rw [hG]; exact hy)
      exact hm3.block _ (Array.getElem?_eq_some_iff.1 h1).1 h2
    · obtain ⟨z, hz, hvz⟩ := hs3.slots t y (hs2 t y ht)
      obtain ⟨o1, o2, o3⟩ := slOff_spec hf ht
      refine ⟨z, ?_, ?_⟩
      · have := hfr.2 t o3
        rw [show (bare a1).tmps[t]? = a1.tmps[t]? from rfl, this] at hz
        rw [Array.getElem?_setIfInBounds_ne (Ne.symm o2), Array.getElem?_setIfInBounds_ne (Ne.symm o1)] at hz
        exact hz
      · rw [hh2] at hvz
        exact hvz.mono (fun b o hb => hb.back hk.mem) (Env.le_refl _) (fun _ _ _ => rfl)
  case done =>
    rintro D xs W hD rfl ⟨ρk, hk, -⟩ hDd
    exact hQ D ρk W hDd (Nat.le_trans hs.mem.size hD) hk
end Go.Proofs.YtcojfnjpcpochaaDoor.E
end
