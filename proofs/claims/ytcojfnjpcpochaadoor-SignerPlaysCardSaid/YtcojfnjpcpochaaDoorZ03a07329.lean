import Derived.Test.YtcojfnjpcpochaaDoorZbcaa07a8
import Derived.Test.YtcojfnjpcpochaaDoorZ2b98b997
import Derived.Test.YtcojfnjpcpochaaDoorZ096d3a98
import Derived.Test.YtcojfnjpcpochaaDoorZ9f432c36
section
namespace Go.Proofs.YtcojfnjpcpochaaDoor.E
open Go Go.RowKit Go.Proofs.YtcojfnjpcpochaaDoor.V
attribute [local go_sem] B_size B_append B_extract mk_B B_toList take_drop_len List.length_drop List.length_take sgn32 sgn64 add32 sub32 mul32 add64 sub64 mul64 mul64_8 and32 or32 xor32 and64 or64 xor64 shl32_run shr32_run shl64_run shr64_run not32 not32' xor32_all w_u32_u8 w_u64_u8 w_i64_u8 w_u8_u32 w_u8_u64 w_u32_u64 w_u64_u32 w_u8_u8 w_u32_u32 w_u64_u64
attribute [local go_sem ↓] run_index_B' add32 sub32 mul32 add64 sub64 mul64 mul64_8 and32 or32 xor32 and64 or64 xor64 shl32_run shr32_run shl64_run shr64_run not32 not32' xor32_all w_u32_u8 w_u64_u8 w_i64_u8 w_u8_u32 w_u8_u64 w_u32_u64 w_u64_u32 w_u8_u8 w_u32_u32 w_u64_u64 w_u64_nat w_u32_nat w_u8_nat
set_option maxRecDepth 4000
abbrev vH (l : Txt) (b f : Bool) : List (Option AO) := [some (.cells 56 [.ptr 1 0]), some (.cells 92 (rdC l b)), some (.cells 4 [.v (.bool f)])]
theorem v_bel (u : Nat → Bool) (hu : u 1 = true) (l : Txt) (b f : Bool) : belH u (vH l b f) := ⟨⟨hu, trivial⟩, ⟨trivial, trivial, trivial⟩, ⟨trivial, trivial⟩, trivial⟩
def rowP (a : List Txt) (h : Nat) : List Txt := a ++ List.replicate (h - a.length) []
theorem rowP_length (a : List Txt) (h : Nat) (hl : a.length ≤ h) : (rowP a h).length = h := by unfold rowP; rw [List.length_append, List.length_replicate]; omega
theorem rowP_set (a : List Txt) (h : Nat) (x : Txt) (hl : a.length < h) : (rowP a h).set a.length x = rowP (a ++ [x]) h := by
  unfold rowP
  rw [List.set_append_right _ _ (Nat.le_refl _), Nat.sub_self, List.length_append, show h - a.length = h - (a.length + [x].length) + 1 by simp; omega, List.replicate_succ]
  simp
theorem rowP_all (a : List Txt) (h : Nat) (hl : a.length = h) : rowP a h = a := by unfold rowP; rw [hl, Nat.sub_self]; simp
theorem rowP_0 (h : Nat) : List.replicate h (AV.v (.string ⟨#[]⟩)) = (rowP [] h).map sA := by
  unfold rowP
  rw [List.nil_append, List.map_replicate]
  rfl
theorem setS (l : List Txt) (i : Nat) (x : Txt) : (l.map sA).set i (.v (.string (B x))) = (l.set i x).map sA := by
  rw [List.map_set]
  rfl
theorem rdP_z (f0 : Bool) (r0 : Txt × Bool) : rdP f0 r0 0 = ([], f0, r0.1, r0.2) := rfl
theorem rdP_32 (f0 : Bool) (r0 : Txt × Bool) : ∀ k, (rdP f0 r0 k).2.1 = true → ∀ x ∈ (rdP f0 r0 k).1, x.length = 32
  | 0, _, x, hx => by cases hx
  | k + 1, h, x, hx => by
    have h' : ((rdP f0 r0 k).2.1 && decide ((rdText 32 (rdP f0 r0 k).2.2).1.length = 32)) = true := h
    rw [Bool.and_eq_true, decide_eq_true_iff] at h'
    have hx' : x ∈ (rdP f0 r0 k).1 ++ [(rdText 32 (rdP f0 r0 k).2.2).1] := hx
    rcases List.mem_append.1 hx' with hm | hm
    · exact rdP_32 f0 r0 k h'.1 x hm
    · rw [List.mem_singleton.1 hm]; exact h'.2
theorem rdP_len (f0 : Bool) (r0 : Txt × Bool) : ∀ k, (rdP f0 r0 k).2.2.1.length ≤ r0.1.length
  | 0 => Nat.le_refl _
  | k + 1 => Nat.le_trans (rdText_len 32 (rdP f0 r0 k).2.2) (rdP_len f0 r0 k)
theorem fromT_len (s msg : Txt) : (fromT s msg).length ≤ 32 := by
  unfold fromT
  split
  · rw [tag_length]; exact Nat.le_refl _
  · exact Nat.zero_le _
theorem ver_split (f b : Bool) (l : Txt) (n h : Nat) : (f = false ∧ True) ∨ (f = true ∧ b = true ∧ True) ∨ (f = true ∧ b = false ∧ l ≠ []) ∨ (f = true ∧ b = false ∧ l = [] ∧ ¬ n < 2 ^ h) ∨ (f = true ∧ b = false ∧ l = [] ∧ n < 2 ^ h) := by
  cases f <;> cases b <;> by_cases hl : l = [] <;> by_cases hn : n < 2 ^ h <;> simp [hl, hn]
section
variable {G : List (Nat × Array Value)}
theorem verText_fc (l : Txt) (b f : Bool) (size : Nat) (hl : l.length ≤ 9223372036854775807) (hs' : size ≤ 4294967296) :
    FC Tryd.prog G 38 [.v (.int .i64 (size : Int)), .ptr 0 0, .ptr 2 0] (vH l b f) (sA (rdText size (l, b)).1) (vH (rdText size (l, b)).2.1 (rdText size (l, b)).2.2 (f && decide ((rdText size (l, b)).1.length = size))) := by
  have ht := rTextX_fc (G := G) (l, b) size hl hs'
  obtain ⟨s, l', b', hr⟩ : ∃ s l' b', rdText size (l, b) = (s, l', b') := ⟨_, _, _, rfl⟩
  rw [hr] at ht ⊢
  refine FC.of_wp [4] Tryd.func38 rfl rfl rfl rfl ⟨trivial, rfl, rfl, trivial⟩ (v_bel _ rfl _ _ _) (by exact Nat.le_of_ble_eq_true rfl) ?_
  intro A hG hnA hAB
  unfold start
  refine WP.rs hG ?_
  refine Ch.asg rfl rfl ?_
  refine Ch.nil ?_
  refine WP.rs hG ?_
  refine Ch.pu gdN (by exact ⟨rfl, trivial⟩) (OpS.loadP rfl rfl rfl) ⟨rfl, trivial⟩ rfl ?_
  refine Ch.mv rfl rfl ?_
  refine Ch.callH (FC.split (ht)) [1] 3 gdN (by repeat (first | exact EvL.nil | (apply EvL.cons; exact rfl))) (by exact (And.intro (by first | exact .rfl _ | exact .untip _ _ _ | exact .nil | exact .func _ | exact AV.wk.sh (renL_s _ _) | exact AV.wk.tip rfl (by first | exact renL_b _ _ | exact renL_s _ _ | exact renL_i _ _ | exact renL_w _ _) | exact AV.wk.sh (by simp; first | done | fail)) (And.intro (by first | exact .rfl _ | exact .untip _ _ _ | exact .nil | exact .func _ | exact AV.wk.sh (renL_s _ _) | exact AV.wk.tip rfl (by first | exact renL_b _ _ | exact renL_s _ _ | exact renL_i _ _ | exact renL_w _ _) | exact AV.wk.sh (by simp; first | done | fail)) trivial))) rfl rfl (by decide) (by decide) (by first | ((conv => lhs; simp only [AV.ren, AV.renL, AO.ren, renL_b, renL_s, renL_w, renL_i, renL_append, ren_b, ren_s, ren_w, ren_i, pi_n, pi_0, pi_s, pi_1, pi_2, pi_3, pi_4, chOld, chNew, nuNew, hpl, Option.map_some, Option.map_none, List.length_cons, List.length_nil, List.take_succ_cons, List.take_zero, List.take_nil, List.drop_succ_cons, List.drop_zero, List.drop_nil, List.cons_append, List.nil_append, Nat.zero_add, Nat.add_zero, Nat.reduceAdd]); all_goals rfl) | rfl) (by first | ((conv => lhs; simp only [AV.ren, AV.renL, AO.ren, renL_b, renL_s, renL_w, renL_i, renL_append, ren_b, ren_s, ren_w, ren_i, pi_n, pi_0, pi_s, pi_1, pi_2, pi_3, pi_4, chOld, chNew, nuNew, hpl, Option.map_some, Option.map_none, List.length_cons, List.length_nil, List.take_succ_cons, List.take_zero, List.take_nil, List.drop_succ_cons, List.drop_zero, List.drop_nil, List.cons_append, List.nil_append, Nat.zero_add, Nat.add_zero, Nat.reduceAdd]); all_goals rfl) | rfl) (by first | ((conv => lhs; simp only [AV.ren, AV.renL, AO.ren, renL_b, renL_s, renL_w, renL_i, renL_append, ren_b, ren_s, ren_w, ren_i, pi_n, pi_0, pi_s, pi_1, pi_2, pi_3, pi_4, chOld, chNew, nuNew, hpl, Option.map_some, Option.map_none, List.length_cons, List.length_nil, List.take_succ_cons, List.take_zero, List.take_nil, List.drop_succ_cons, List.drop_zero, List.drop_nil, List.cons_append, List.nil_append, Nat.zero_add, Nat.add_zero, Nat.reduceAdd]); all_goals rfl) | rfl) (by first | ((conv => lhs; simp only [AV.ren, AV.renL, AO.ren, renL_b, renL_s, renL_w, renL_i, renL_append, ren_b, ren_s, ren_w, ren_i, pi_n, pi_0, pi_s, pi_1, pi_2, pi_3, pi_4, chOld, chNew, nuNew, hpl, Option.map_some, Option.map_none, List.length_cons, List.length_nil, List.take_succ_cons, List.take_zero, List.take_nil, List.drop_succ_cons, List.drop_zero, List.drop_nil, List.cons_append, List.nil_append, Nat.zero_add, Nat.add_zero, Nat.reduceAdd]); all_goals rfl) | rfl) (by first | exact trivial | exact ⟨rfl, trivial⟩ | exact ⟨rfl, rfl, trivial⟩ | exact ⟨rfl, rfl, rfl, trivial⟩ | exact ⟨rfl, rfl, rfl, rfl, trivial⟩) (by first | exact trivial | exact ⟨rfl, trivial⟩ | exact ⟨rfl, rfl, trivial⟩ | exact ⟨rfl, rfl, rfl, trivial⟩ | exact ⟨rfl, rfl, rfl, rfl, trivial⟩) rfl ?_
  refine Ch.asg rfl rfl ?_
  refine Ch.nil ?_
  rcases (show (f = false ∧ True) ∨ (f = true ∧ s.length = size) ∨ (f = true ∧ s.length ≠ size) by cases f <;> simp <;> omega) with ⟨rfl, hq⟩ | ⟨rfl, hq⟩ | ⟨rfl, hq⟩
  · have hs := hq
    refine WP.rs hG ?_
    refine Ch.pu gdN (by exact ⟨rfl, trivial⟩) (OpS.loadP rfl rfl rfl) ⟨rfl, trivial⟩ rfl ?_
    refine Ch.mv rfl rfl ?_
    refine Ch.skU (gdF rfl rfl rfl) rfl ?_
    refine Ch.skU (gdF rfl rfl rfl) rfl ?_
    refine Ch.skU (gdF rfl rfl rfl) rfl ?_
    refine Ch.skU (gdF rfl rfl rfl) rfl ?_
    refine Ch.pu gdN (by first | exact ⟨rfl, rfl, trivial⟩ | exact ⟨rfl, rfl, rfl, trivial⟩) (OpS.pickF) trivial rfl ?_
    refine Ch.wr gdN (by exact ⟨rfl, rfl, trivial⟩) (OpS.storeP (cs := [.v (.bool false)]) rfl rfl rfl (by simp)) (by first | exact trivial | exact ⟨rfl, trivial⟩) (by first | exact trivial | exact ⟨rfl, trivial⟩ | exact ⟨rfl, rfl, trivial⟩) ?_
    refine Ch.nil ?_
    refine WP.rs hG ?_
    refine Ch.mv rfl rfl ?_
    refine Ch.asg rfl rfl ?_
    refine Ch.nil ?_
    refine WP.ret ?_
    refine (Ret.of (rs := [4]) (vs := [sA s]) (H' := vH l' b' false) (res := sA s) [0, 1, 2] ?_ ?_ rfl ?_ (by simp only [List.length_cons, List.length_nil]; decide) ?_).1
    · exact (fun i hi => by rw [hnA] at hi; simp only [List.length_cons, List.length_nil] at hi ⊢; first | exact absurd hi (Nat.not_lt_zero _) | (revert i; decide))
    · (repeat (first | exact trivial | (refine And.intro ⟨(by first | trivial | (simp; first | done | fail) | exact ⟨trivial, hbel _⟩), _, rfl, (by first | exact .rfl _ | exact .nil | exact .of_eq (by simp; first | done | fail) | exact AV.wk.sh (by simp; first | done | fail) | exact .untip _ _ _)⟩ ?_)))
    · (repeat (first | exact trivial | refine HFromL.skip ?_ | (refine And.intro ⟨(by first | trivial | (simp; first | done | fail) | exact ⟨trivial, hbel _⟩), (by first | rfl | (simp; first | done | fail))⟩ ?_)))
    · rfl
  · have hs := hq
    refine WP.rs hG ?_
    refine Ch.pu gdN (by exact ⟨rfl, trivial⟩) (OpS.loadP rfl rfl rfl) ⟨rfl, trivial⟩ rfl ?_
    refine Ch.mv rfl rfl ?_
    refine Ch.pu (by exact gdT rfl rfl) (by exact ⟨rfl, trivial⟩) (OpS.move) trivial rfl ?_
    refine Ch.pu (by exact gdT rfl rfl) (by exact ⟨rfl, trivial⟩) (OpS.lenS rfl) trivial rfl ?_
    refine Ch.pu (by exact gdT rfl rfl) (by exact ⟨rfl, trivial⟩) (OpS.move) trivial rfl ?_
    refine Ch.pu (by exact gdT rfl rfl) (by exact ⟨rfl, rfl, trivial⟩) (OpS.int (op := .eql) (v' := .bool true) rfl (by exact congrArg Value.bool (decide_eq_true (by omega)))) trivial rfl ?_
    refine Ch.pu gdN (by first | exact ⟨rfl, rfl, trivial⟩ | exact ⟨rfl, rfl, rfl, trivial⟩) (OpS.pickT) trivial rfl ?_
    refine Ch.wr gdN (by exact ⟨rfl, rfl, trivial⟩) (OpS.storeP (cs := [.v (.bool true)]) rfl rfl rfl (by simp)) (by first | exact trivial | exact ⟨rfl, trivial⟩) (by first | exact trivial | exact ⟨rfl, trivial⟩ | exact ⟨rfl, rfl, trivial⟩) ?_
    refine Ch.nil ?_
    refine WP.rs hG ?_
    refine Ch.mv rfl rfl ?_
    refine Ch.asg rfl rfl ?_
    refine Ch.nil ?_
    refine WP.ret ?_
    rw [decide_eq_true (show ((s, l', b').1.length = size) from hs)]
    refine (Ret.of (rs := [4]) (vs := [sA s]) (H' := vH l' b' true) (res := sA s) [0, 1, 2] ?_ ?_ rfl ?_ (by simp only [List.length_cons, List.length_nil]; decide) ?_).1
    · exact (fun i hi => by rw [hnA] at hi; simp only [List.length_cons, List.length_nil] at hi ⊢; first | exact absurd hi (Nat.not_lt_zero _) | (revert i; decide))
    · (repeat (first | exact trivial | (refine And.intro ⟨(by first | trivial | (simp; first | done | fail) | exact ⟨trivial, hbel _⟩), _, rfl, (by first | exact .rfl _ | exact .nil | exact .of_eq (by simp; first | done | fail) | exact AV.wk.sh (by simp; first | done | fail) | exact .untip _ _ _)⟩ ?_)))
    · (repeat (first | exact trivial | refine HFromL.skip ?_ | (refine And.intro ⟨(by first | trivial | (simp; first | done | fail) | exact ⟨trivial, hbel _⟩), (by first | rfl | (simp; first | done | fail))⟩ ?_)))
    · rfl
  · have hs := hq
    refine WP.rs hG ?_
    refine Ch.pu gdN (by exact ⟨rfl, trivial⟩) (OpS.loadP rfl rfl rfl) ⟨rfl, trivial⟩ rfl ?_
    refine Ch.mv rfl rfl ?_
    refine Ch.pu (by exact gdT rfl rfl) (by exact ⟨rfl, trivial⟩) (OpS.move) trivial rfl ?_
    refine Ch.pu (by exact gdT rfl rfl) (by exact ⟨rfl, trivial⟩) (OpS.lenS rfl) trivial rfl ?_
    refine Ch.pu (by exact gdT rfl rfl) (by exact ⟨rfl, trivial⟩) (OpS.move) trivial rfl ?_
    refine Ch.pu (by exact gdT rfl rfl) (by exact ⟨rfl, rfl, trivial⟩) (OpS.int (op := .eql) (v' := .bool false) rfl (by exact congrArg Value.bool (decide_eq_false (by omega)))) trivial rfl ?_
    refine Ch.pu gdN (by first | exact ⟨rfl, rfl, trivial⟩ | exact ⟨rfl, rfl, rfl, trivial⟩) (OpS.pickT) trivial rfl ?_
    refine Ch.wr gdN (by exact ⟨rfl, rfl, trivial⟩) (OpS.storeP (cs := [.v (.bool true)]) rfl rfl rfl (by simp)) (by first | exact trivial | exact ⟨rfl, trivial⟩) (by first | exact trivial | exact ⟨rfl, trivial⟩ | exact ⟨rfl, rfl, trivial⟩) ?_
    refine Ch.nil ?_
    refine WP.rs hG ?_
    refine Ch.mv rfl rfl ?_
    refine Ch.asg rfl rfl ?_
    refine Ch.nil ?_
    refine WP.ret ?_
    rw [decide_eq_false (show ¬ ((s, l', b').1.length = size) from hs)]
    refine (Ret.of (rs := [4]) (vs := [sA s]) (H' := vH l' b' false) (res := sA s) [0, 1, 2] ?_ ?_ rfl ?_ (by simp only [List.length_cons, List.length_nil]; decide) ?_).1
    · exact (fun i hi => by rw [hnA] at hi; simp only [List.length_cons, List.length_nil] at hi ⊢; first | exact absurd hi (Nat.not_lt_zero _) | (revert i; decide))
    · (repeat (first | exact trivial | (refine And.intro ⟨(by first | trivial | (simp; first | done | fail) | exact ⟨trivial, hbel _⟩), _, rfl, (by first | exact .rfl _ | exact .nil | exact .of_eq (by simp; first | done | fail) | exact AV.wk.sh (by simp; first | done | fail) | exact .untip _ _ _)⟩ ?_)))
    · (repeat (first | exact trivial | refine HFromL.skip ?_ | (refine And.intro ⟨(by first | trivial | (simp; first | done | fail) | exact ⟨trivial, hbel _⟩), (by first | rfl | (simp; first | done | fail))⟩ ?_)))
    · rfl
theorem verify40_fc (pub msg sig : Txt) (h : pub.length ≠ 40) : FC Tryd.prog G 19 [sA pub, sA msg, sA sig] [] (.v (.bool false)) [] := by
  refine FC.of_wp [6] Tryd.func19 rfl rfl rfl rfl (by first | trivial | (simp; first | done | fail) | exact ⟨trivial, hbel _⟩) (by first | trivial | (simp; first | done | fail) | exact ⟨trivial, hbel _⟩) (by exact Nat.le_of_ble_eq_true rfl) ?_
  intro A hG hnA hAB
  unfold start
  refine WP.rs hG ?_
  refine Ch.asg rfl rfl ?_
  refine Ch.nil ?_
  refine WP.seq ?_
  refine WP.rs hG ?_
  refine Ch.mv rfl rfl ?_
  refine Ch.pu gdN (by exact ⟨rfl, trivial⟩) (OpS.lenS rfl) trivial rfl ?_
  refine Ch.pu gdN (by exact ⟨rfl, rfl, trivial⟩) (OpS.int (op := .neq) (v' := .bool true) rfl (by exact congrArg Value.bool (bne_iff_ne.2 (by omega)))) trivial rfl ?_
  refine Ch.nil ?_
  refine WP.cond_true rfl ?_
  refine WP.rs hG ?_
  refine Ch.asg rfl rfl ?_
  refine Ch.nil ?_
  refine WP.ret (Ret.one rfl (by first | exact .rfl _ | exact .nil | exact .of_eq (by simp; first | done | fail) | exact AV.wk.sh (by simp; first | done | fail) | exact .untip _ _ _) (by first | trivial | simp [AV.bel]) hnA)
theorem verifyH_fc (pub msg sig : Txt) (h : Nat) (h40 : pub.length = 40) (hh : (valU (pub.take 8)).toNat = h) (h7 : 7 < h) : FC Tryd.prog G 19 [sA pub, sA msg, sA sig] [] (.v (.bool false)) [] := by
  have n1 := rNum_fc (G := G) (pub.take 8) (by rw [List.length_take]; omega) (by rw [List.length_take]; omega)
  have hU : U64 (valU (pub.take 8)) = (h : Int) := by unfold U64; rw [hh]
  rw [List.take_of_length_le (show (pub.take 8).length ≤ 8 from List.length_take_le _ _), hU] at n1
  refine FC.of_wp [6] Tryd.func19 rfl rfl rfl rfl (by first | trivial | (simp; first | done | fail) | exact ⟨trivial, hbel _⟩) (by first | trivial | (simp; first | done | fail) | exact ⟨trivial, hbel _⟩) (by exact Nat.le_of_ble_eq_true rfl) ?_
  intro A hG hnA hAB
  unfold start
  refine WP.rs hG ?_
  refine Ch.asg rfl rfl ?_
  refine Ch.nil ?_
  refine WP.seq ?_
  refine WP.rs hG ?_
  refine Ch.mv rfl rfl ?_
  refine Ch.pu gdN (by exact ⟨rfl, trivial⟩) (OpS.lenS rfl) trivial rfl ?_
  refine Ch.pu gdN (by exact ⟨rfl, rfl, trivial⟩) (OpS.int (op := .neq) (v' := .bool false) rfl (by rw [h40]; rfl)) trivial rfl ?_
  refine Ch.nil ?_
  refine WP.cond_false rfl ?_
  refine WP.skip ?_
  refine WP.rs hG ?_
  refine Ch.mv rfl rfl ?_
  refine Ch.pu gdN (by exact ⟨rfl, rfl, trivial⟩) (OpS.sliceSh (n' := 8) (l := pub) rfl rfl (by decide) (by omega)) trivial rfl ?_
  refine Ch.callH (FC.split (newReader_fc (pub.take 8))) [] 0 gdN (by repeat (first | exact EvL.nil | (apply EvL.cons; exact rfl))) (by exact (And.intro (by first | exact .rfl _ | exact .untip _ _ _ | exact .nil | exact .func _ | exact AV.wk.sh (renL_s _ _) | exact AV.wk.tip rfl (by first | exact renL_b _ _ | exact renL_s _ _ | exact renL_i _ _ | exact renL_w _ _) | exact AV.wk.sh (by simp; first | done | fail)) trivial)) rfl rfl (by decide) (by decide) (by first | ((conv => lhs; simp only [AV.ren, AV.renL, AO.ren, renL_b, renL_s, renL_w, renL_i, renL_append, ren_b, ren_s, ren_w, ren_i, pi_n, pi_0, pi_s, pi_1, pi_2, pi_3, pi_4, chOld, chNew, nuNew, hpl, Option.map_some, Option.map_none, List.length_cons, List.length_nil, List.take_succ_cons, List.take_zero, List.take_nil, List.drop_succ_cons, List.drop_zero, List.drop_nil, List.cons_append, List.nil_append, Nat.zero_add, Nat.add_zero, Nat.reduceAdd]); all_goals rfl) | rfl) (by first | ((conv => lhs; simp only [AV.ren, AV.renL, AO.ren, renL_b, renL_s, renL_w, renL_i, renL_append, ren_b, ren_s, ren_w, ren_i, pi_n, pi_0, pi_s, pi_1, pi_2, pi_3, pi_4, chOld, chNew, nuNew, hpl, Option.map_some, Option.map_none, List.length_cons, List.length_nil, List.take_succ_cons, List.take_zero, List.take_nil, List.drop_succ_cons, List.drop_zero, List.drop_nil, List.cons_append, List.nil_append, Nat.zero_add, Nat.add_zero, Nat.reduceAdd]); all_goals rfl) | rfl) (by first | ((conv => lhs; simp only [AV.ren, AV.renL, AO.ren, renL_b, renL_s, renL_w, renL_i, renL_append, ren_b, ren_s, ren_w, ren_i, pi_n, pi_0, pi_s, pi_1, pi_2, pi_3, pi_4, chOld, chNew, nuNew, hpl, Option.map_some, Option.map_none, List.length_cons, List.length_nil, List.take_succ_cons, List.take_zero, List.take_nil, List.drop_succ_cons, List.drop_zero, List.drop_nil, List.cons_append, List.nil_append, Nat.zero_add, Nat.add_zero, Nat.reduceAdd]); all_goals rfl) | rfl) (by first | ((conv => lhs; simp only [AV.ren, AV.renL, AO.ren, renL_b, renL_s, renL_w, renL_i, renL_append, ren_b, ren_s, ren_w, ren_i, pi_n, pi_0, pi_s, pi_1, pi_2, pi_3, pi_4, chOld, chNew, nuNew, hpl, Option.map_some, Option.map_none, List.length_cons, List.length_nil, List.take_succ_cons, List.take_zero, List.take_nil, List.drop_succ_cons, List.drop_zero, List.drop_nil, List.cons_append, List.nil_append, Nat.zero_add, Nat.add_zero, Nat.reduceAdd]); all_goals rfl) | rfl) (by first | exact trivial | exact ⟨rfl, trivial⟩ | exact ⟨rfl, rfl, trivial⟩ | exact ⟨rfl, rfl, rfl, trivial⟩ | exact ⟨rfl, rfl, rfl, rfl, trivial⟩) (by first | exact trivial | exact ⟨rfl, trivial⟩ | exact ⟨rfl, rfl, trivial⟩ | exact ⟨rfl, rfl, rfl, trivial⟩ | exact ⟨rfl, rfl, rfl, rfl, trivial⟩) rfl ?_
  refine Ch.callH (FC.split (n1)) [0] 1 gdN (by repeat (first | exact EvL.nil | (apply EvL.cons; exact rfl))) (by exact (And.intro (by first | exact .rfl _ | exact .untip _ _ _ | exact .nil | exact .func _ | exact AV.wk.sh (renL_s _ _) | exact AV.wk.tip rfl (by first | exact renL_b _ _ | exact renL_s _ _ | exact renL_i _ _ | exact renL_w _ _) | exact AV.wk.sh (by simp; first | done | fail)) trivial)) rfl rfl (by decide) (by decide) (by first | ((conv => lhs; simp only [AV.ren, AV.renL, AO.ren, renL_b, renL_s, renL_w, renL_i, renL_append, ren_b, ren_s, ren_w, ren_i, pi_n, pi_0, pi_s, pi_1, pi_2, pi_3, pi_4, chOld, chNew, nuNew, hpl, Option.map_some, Option.map_none, List.length_cons, List.length_nil, List.take_succ_cons, List.take_zero, List.take_nil, List.drop_succ_cons, List.drop_zero, List.drop_nil, List.cons_append, List.nil_append, Nat.zero_add, Nat.add_zero, Nat.reduceAdd]); all_goals rfl) | rfl) (by first | ((conv => lhs; simp only [AV.ren, AV.renL, AO.ren, renL_b, renL_s, renL_w, renL_i, renL_append, ren_b, ren_s, ren_w, ren_i, pi_n, pi_0, pi_s, pi_1, pi_2, pi_3, pi_4, chOld, chNew, nuNew, hpl, Option.map_some, Option.map_none, List.length_cons, List.length_nil, List.take_succ_cons, List.take_zero, List.take_nil, List.drop_succ_cons, List.drop_zero, List.drop_nil, List.cons_append, List.nil_append, Nat.zero_add, Nat.add_zero, Nat.reduceAdd]); all_goals rfl) | rfl) (by first | ((conv => lhs; simp only [AV.ren, AV.renL, AO.ren, renL_b, renL_s, renL_w, renL_i, renL_append, ren_b, ren_s, ren_w, ren_i, pi_n, pi_0, pi_s, pi_1, pi_2, pi_3, pi_4, chOld, chNew, nuNew, hpl, Option.map_some, Option.map_none, List.length_cons, List.length_nil, List.take_succ_cons, List.take_zero, List.take_nil, List.drop_succ_cons, List.drop_zero, List.drop_nil, List.cons_append, List.nil_append, Nat.zero_add, Nat.add_zero, Nat.reduceAdd]); all_goals rfl) | rfl) (by first | ((conv => lhs; simp only [AV.ren, AV.renL, AO.ren, renL_b, renL_s, renL_w, renL_i, renL_append, ren_b, ren_s, ren_w, ren_i, pi_n, pi_0, pi_s, pi_1, pi_2, pi_3, pi_4, chOld, chNew, nuNew, hpl, Option.map_some, Option.map_none, List.length_cons, List.length_nil, List.take_succ_cons, List.take_zero, List.take_nil, List.drop_succ_cons, List.drop_zero, List.drop_nil, List.cons_append, List.nil_append, Nat.zero_add, Nat.add_zero, Nat.reduceAdd]); all_goals rfl) | rfl) (by first | exact trivial | exact ⟨rfl, trivial⟩ | exact ⟨rfl, rfl, trivial⟩ | exact ⟨rfl, rfl, rfl, trivial⟩ | exact ⟨rfl, rfl, rfl, rfl, trivial⟩) (by first | exact trivial | exact ⟨rfl, trivial⟩ | exact ⟨rfl, rfl, trivial⟩ | exact ⟨rfl, rfl, rfl, trivial⟩ | exact ⟨rfl, rfl, rfl, rfl, trivial⟩) rfl ?_
  refine Ch.asg rfl rfl ?_
  refine Ch.nil ?_
  refine WP.seq ?_
  refine WP.rs hG ?_
  refine Ch.mv rfl rfl ?_
  refine Ch.pu gdN (by exact ⟨rfl, rfl, trivial⟩) (OpS.int (op := .gtr) (v' := .bool true) rfl (by exact congrArg Value.bool (decide_eq_true (by omega)))) trivial rfl ?_
  refine Ch.nil ?_
  refine WP.cond_true rfl ?_
  refine WP.rs hG ?_
  refine Ch.asg rfl rfl ?_
  refine Ch.nil ?_
  refine WP.ret (Ret.one rfl (by first | exact .rfl _ | exact .nil | exact .of_eq (by simp; first | done | fail) | exact AV.wk.sh (by simp; first | done | fail) | exact .untip _ _ _) (by first | trivial | simp [AV.bel]) hnA)
attribute [local irreducible] sum tag input laidN wstep walkT secretT digitsT pubT signT fromT rootN pathN leavesT beS rowP rdP rdText rdNum
theorem verifyY_fc (hm : ShaIn G) (pub msg sig : Txt) (h : Nat) (h40 : pub.length = 40) (hh : (valU (pub.take 8)).toNat = h) (h7 : h ≤ 7) (hl : sig.length ≤ 9223372036854775807) (hv : msg.length ≤ 140737488355264) :
    FC Tryd.prog G 19 [sA pub, sA msg, sA sig] [] (.v (.bool (verG msg h pub sig))) [] := by
  have h128 := pw7 h7
  have n1 := rNum_fc (G := G) (pub.take 8) (by rw [List.length_take]; omega) (by rw [List.length_take]; omega)
  have hU : U64 (valU (pub.take 8)) = (h : Int) := by unfold U64; rw [hh]
  rw [List.take_of_length_le (show (pub.take 8).length ≤ 8 from List.length_take_le _ _), hU] at n1
  have n2 := rNumX_fc (G := G) (sig, false) hl
  have q1 := rdNum_len (sig, false)
  have q2 := rdText_len 160 (rdNum (sig, false)).2
  obtain ⟨nn, l1, b1, hr1⟩ : ∃ nn l1 b1, rdNum (sig, false) = (nn, l1, b1) := ⟨_, _, _, rfl⟩
  rw [hr1] at n2 q1 q2
  replace n2 : FC Tryd.prog G 37 [.ptr 0 0] (rdH sig false) (.v (.int .u64 (U64 nn))) (rdH l1 b1) := n2
  have l1l : l1.length ≤ 9223372036854775807 := Nat.le_trans q1 hl
  have n3 := verText_fc (G := G) l1 b1 true 160 l1l (by decide)
  obtain ⟨s, l2, b2, hr2⟩ : ∃ s l2 b2, rdText 160 (l1, b1) = (s, l2, b2) := ⟨_, _, _, rfl⟩
  have q2' : (rdText 160 (l1, b1)).2.1.length ≤ l1.length := q2
  rw [hr2] at n3 q2'
  have l2l : l2.length ≤ 9223372036854775807 := Nat.le_trans q2' l1l
  obtain ⟨f0, hf0⟩ : ∃ f0, f0 = decide (s.length = 160) := ⟨_, rfl⟩
  replace n3 : FC Tryd.prog G 38 [.v (.int .i64 (160 : Int)), .ptr 0 0, .ptr 2 0] (vH l1 b1 true) (sA s) (vH l2 b2 f0) := by rw [hf0]; exact n3
  have hver : verG msg h pub sig = verF msg h pub nn s (rdP f0 (l2, b2) h) := by
    unfold verG
    rw [hr1]
    show verF msg h pub nn (rdText 160 (l1, b1)).1 (rdP (decide ((rdText 160 (l1, b1)).1.length = 160)) (rdText 160 (l1, b1)).2 h) = _
    rw [hr2, hf0]
  have nU : U64 nn = (nn.toNat : Int) := rfl
  rw [hver]
  refine FC.of_wp [6] Tryd.func19 rfl rfl rfl rfl (by first | trivial | (simp; first | done | fail) | exact ⟨trivial, hbel _⟩) (by first | trivial | (simp; first | done | fail) | exact ⟨trivial, hbel _⟩) (by exact Nat.le_of_ble_eq_true rfl) ?_
  intro A hG hnA hAB
  unfold start
  refine WP.rs hG ?_
  refine Ch.asg rfl rfl ?_
  refine Ch.nil ?_
  refine WP.seq ?_
  refine WP.rs hG ?_
  refine Ch.mv rfl rfl ?_
  refine Ch.pu gdN (by exact ⟨rfl, trivial⟩) (OpS.lenS rfl) trivial rfl ?_
  refine Ch.pu gdN (by exact ⟨rfl, rfl, trivial⟩) (OpS.int (op := .neq) (v' := .bool false) rfl (by rw [h40]; rfl)) trivial rfl ?_
  refine Ch.nil ?_
  refine WP.cond_false rfl ?_
  refine WP.skip ?_
  refine WP.rs hG ?_
  refine Ch.mv rfl rfl ?_
  refine Ch.pu gdN (by exact ⟨rfl, rfl, trivial⟩) (OpS.sliceSh (n' := 8) (l := pub) rfl rfl (by decide) (by omega)) trivial rfl ?_
  refine Ch.callH (FC.split (newReader_fc (pub.take 8))) [] 0 gdN (by repeat (first | exact EvL.nil | (apply EvL.cons; exact rfl))) (by exact (And.intro (by first | exact .rfl _ | exact .untip _ _ _ | exact .nil | exact .func _ | exact AV.wk.sh (renL_s _ _) | exact AV.wk.tip rfl (by first | exact renL_b _ _ | exact renL_s _ _ | exact renL_i _ _ | exact renL_w _ _) | exact AV.wk.sh (by simp; first | done | fail)) trivial)) rfl rfl (by decide) (by decide) (by first | ((conv => lhs; simp only [AV.ren, AV.renL, AO.ren, renL_b, renL_s, renL_w, renL_i, renL_append, ren_b, ren_s, ren_w, ren_i, pi_n, pi_0, pi_s, pi_1, pi_2, pi_3, pi_4, chOld, chNew, nuNew, hpl, Option.map_some, Option.map_none, List.length_cons, List.length_nil, List.take_succ_cons, List.take_zero, List.take_nil, List.drop_succ_cons, List.drop_zero, List.drop_nil, List.cons_append, List.nil_append, Nat.zero_add, Nat.add_zero, Nat.reduceAdd]); all_goals rfl) | rfl) (by first | ((conv => lhs; simp only [AV.ren, AV.renL, AO.ren, renL_b, renL_s, renL_w, renL_i, renL_append, ren_b, ren_s, ren_w, ren_i, pi_n, pi_0, pi_s, pi_1, pi_2, pi_3, pi_4, chOld, chNew, nuNew, hpl, Option.map_some, Option.map_none, List.length_cons, List.length_nil, List.take_succ_cons, List.take_zero, List.take_nil, List.drop_succ_cons, List.drop_zero, List.drop_nil, List.cons_append, List.nil_append, Nat.zero_add, Nat.add_zero, Nat.reduceAdd]); all_goals rfl) | rfl) (by first | ((conv => lhs; simp only [AV.ren, AV.renL, AO.ren, renL_b, renL_s, renL_w, renL_i, renL_append, ren_b, ren_s, ren_w, ren_i, pi_n, pi_0, pi_s, pi_1, pi_2, pi_3, pi_4, chOld, chNew, nuNew, hpl, Option.map_some, Option.map_none, List.length_cons, List.length_nil, List.take_succ_cons, List.take_zero, List.take_nil, List.drop_succ_cons, List.drop_zero, List.drop_nil, List.cons_append, List.nil_append, Nat.zero_add, Nat.add_zero, Nat.reduceAdd]); all_goals rfl) | rfl) (by first | ((conv => lhs; simp only [AV.ren, AV.renL, AO.ren, renL_b, renL_s, renL_w, renL_i, renL_append, ren_b, ren_s, ren_w, ren_i, pi_n, pi_0, pi_s, pi_1, pi_2, pi_3, pi_4, chOld, chNew, nuNew, hpl, Option.map_some, Option.map_none, List.length_cons, List.length_nil, List.take_succ_cons, List.take_zero, List.take_nil, List.drop_succ_cons, List.drop_zero, List.drop_nil, List.cons_append, List.nil_append, Nat.zero_add, Nat.add_zero, Nat.reduceAdd]); all_goals rfl) | rfl) (by first | exact trivial | exact ⟨rfl, trivial⟩ | exact ⟨rfl, rfl, trivial⟩ | exact ⟨rfl, rfl, rfl, trivial⟩ | exact ⟨rfl, rfl, rfl, rfl, trivial⟩) (by first | exact trivial | exact ⟨rfl, trivial⟩ | exact ⟨rfl, rfl, trivial⟩ | exact ⟨rfl, rfl, rfl, trivial⟩ | exact ⟨rfl, rfl, rfl, rfl, trivial⟩) rfl ?_
  refine Ch.callH (FC.split (n1)) [0] 1 gdN (by repeat (first | exact EvL.nil | (apply EvL.cons; exact rfl))) (by exact (And.intro (by first | exact .rfl _ | exact .untip _ _ _ | exact .nil | exact .func _ | exact AV.wk.sh (renL_s _ _) | exact AV.wk.tip rfl (by first | exact renL_b _ _ | exact renL_s _ _ | exact renL_i _ _ | exact renL_w _ _) | exact AV.wk.sh (by simp; first | done | fail)) trivial)) rfl rfl (by decide) (by decide) (by first | ((conv => lhs; simp only [AV.ren, AV.renL, AO.ren, renL_b, renL_s, renL_w, renL_i, renL_append, ren_b, ren_s, ren_w, ren_i, pi_n, pi_0, pi_s, pi_1, pi_2, pi_3, pi_4, chOld, chNew, nuNew, hpl, Option.map_some, Option.map_none, List.length_cons, List.length_nil, List.take_succ_cons, List.take_zero, List.take_nil, List.drop_succ_cons, List.drop_zero, List.drop_nil, List.cons_append, List.nil_append, Nat.zero_add, Nat.add_zero, Nat.reduceAdd]); all_goals rfl) | rfl) (by first | ((conv => lhs; simp only [AV.ren, AV.renL, AO.ren, renL_b, renL_s, renL_w, renL_i, renL_append, ren_b, ren_s, ren_w, ren_i, pi_n, pi_0, pi_s, pi_1, pi_2, pi_3, pi_4, chOld, chNew, nuNew, hpl, Option.map_some, Option.map_none, List.length_cons, List.length_nil, List.take_succ_cons, List.take_zero, List.take_nil, List.drop_succ_cons, List.drop_zero, List.drop_nil, List.cons_append, List.nil_append, Nat.zero_add, Nat.add_zero, Nat.reduceAdd]); all_goals rfl) | rfl) (by first | ((conv => lhs; simp only [AV.ren, AV.renL, AO.ren, renL_b, renL_s, renL_w, renL_i, renL_append, ren_b, ren_s, ren_w, ren_i, pi_n, pi_0, pi_s, pi_1, pi_2, pi_3, pi_4, chOld, chNew, nuNew, hpl, Option.map_some, Option.map_none, List.length_cons, List.length_nil, List.take_succ_cons, List.take_zero, List.take_nil, List.drop_succ_cons, List.drop_zero, List.drop_nil, List.cons_append, List.nil_append, Nat.zero_add, Nat.add_zero, Nat.reduceAdd]); all_goals rfl) | rfl) (by first | ((conv => lhs; simp only [AV.ren, AV.renL, AO.ren, renL_b, renL_s, renL_w, renL_i, renL_append, ren_b, ren_s, ren_w, ren_i, pi_n, pi_0, pi_s, pi_1, pi_2, pi_3, pi_4, chOld, chNew, nuNew, hpl, Option.map_some, Option.map_none, List.length_cons, List.length_nil, List.take_succ_cons, List.take_zero, List.take_nil, List.drop_succ_cons, List.drop_zero, List.drop_nil, List.cons_append, List.nil_append, Nat.zero_add, Nat.add_zero, Nat.reduceAdd]); all_goals rfl) | rfl) (by first | exact trivial | exact ⟨rfl, trivial⟩ | exact ⟨rfl, rfl, trivial⟩ | exact ⟨rfl, rfl, rfl, trivial⟩ | exact ⟨rfl, rfl, rfl, rfl, trivial⟩) (by first | exact trivial | exact ⟨rfl, trivial⟩ | exact ⟨rfl, rfl, trivial⟩ | exact ⟨rfl, rfl, rfl, trivial⟩ | exact ⟨rfl, rfl, rfl, rfl, trivial⟩) rfl ?_
  refine Ch.asg rfl rfl ?_
  refine Ch.nil ?_
  refine WP.seq ?_
  refine WP.rs hG ?_
  refine Ch.mv rfl rfl ?_
  refine Ch.pu gdN (by exact ⟨rfl, rfl, trivial⟩) (OpS.int (op := .gtr) (v' := .bool false) rfl (by exact congrArg Value.bool (decide_eq_false (by omega)))) trivial rfl ?_
  refine Ch.nil ?_
  refine WP.cond_false rfl ?_
  refine WP.skip ?_
  refine WP.rs hG ?_
  refine Ch.mv rfl rfl ?_
  refine Ch.callH (FC.split (newReader_fc sig)) [] 1 gdN (by repeat (first | exact EvL.nil | (apply EvL.cons; exact rfl))) (by exact (And.intro (by first | exact .rfl _ | exact .untip _ _ _ | exact .nil | exact .func _ | exact AV.wk.sh (renL_s _ _) | exact AV.wk.tip rfl (by first | exact renL_b _ _ | exact renL_s _ _ | exact renL_i _ _ | exact renL_w _ _) | exact AV.wk.sh (by simp; first | done | fail)) trivial)) rfl rfl (by decide) (by decide) (by first | ((conv => lhs; simp only [AV.ren, AV.renL, AO.ren, renL_b, renL_s, renL_w, renL_i, renL_append, ren_b, ren_s, ren_w, ren_i, pi_n, pi_0, pi_s, pi_1, pi_2, pi_3, pi_4, chOld, chNew, nuNew, hpl, Option.map_some, Option.map_none, List.length_cons, List.length_nil, List.take_succ_cons, List.take_zero, List.take_nil, List.drop_succ_cons, List.drop_zero, List.drop_nil, List.cons_append, List.nil_append, Nat.zero_add, Nat.add_zero, Nat.reduceAdd]); all_goals rfl) | rfl) (by first | ((conv => lhs; simp only [AV.ren, AV.renL, AO.ren, renL_b, renL_s, renL_w, renL_i, renL_append, ren_b, ren_s, ren_w, ren_i, pi_n, pi_0, pi_s, pi_1, pi_2, pi_3, pi_4, chOld, chNew, nuNew, hpl, Option.map_some, Option.map_none, List.length_cons, List.length_nil, List.take_succ_cons, List.take_zero, List.take_nil, List.drop_succ_cons, List.drop_zero, List.drop_nil, List.cons_append, List.nil_append, Nat.zero_add, Nat.add_zero, Nat.reduceAdd]); all_goals rfl) | rfl) (by first | ((conv => lhs; simp only [AV.ren, AV.renL, AO.ren, renL_b, renL_s, renL_w, renL_i, renL_append, ren_b, ren_s, ren_w, ren_i, pi_n, pi_0, pi_s, pi_1, pi_2, pi_3, pi_4, chOld, chNew, nuNew, hpl, Option.map_some, Option.map_none, List.length_cons, List.length_nil, List.take_succ_cons, List.take_zero, List.take_nil, List.drop_succ_cons, List.drop_zero, List.drop_nil, List.cons_append, List.nil_append, Nat.zero_add, Nat.add_zero, Nat.reduceAdd]); all_goals rfl) | rfl) (by first | ((conv => lhs; simp only [AV.ren, AV.renL, AO.ren, renL_b, renL_s, renL_w, renL_i, renL_append, ren_b, ren_s, ren_w, ren_i, pi_n, pi_0, pi_s, pi_1, pi_2, pi_3, pi_4, chOld, chNew, nuNew, hpl, Option.map_some, Option.map_none, List.length_cons, List.length_nil, List.take_succ_cons, List.take_zero, List.take_nil, List.drop_succ_cons, List.drop_zero, List.drop_nil, List.cons_append, List.nil_append, Nat.zero_add, Nat.add_zero, Nat.reduceAdd]); all_goals rfl) | rfl) (by first | exact trivial | exact ⟨rfl, trivial⟩ | exact ⟨rfl, rfl, trivial⟩ | exact ⟨rfl, rfl, rfl, trivial⟩ | exact ⟨rfl, rfl, rfl, rfl, trivial⟩) (by first | exact trivial | exact ⟨rfl, trivial⟩ | exact ⟨rfl, rfl, trivial⟩ | exact ⟨rfl, rfl, rfl, trivial⟩ | exact ⟨rfl, rfl, rfl, rfl, trivial⟩) rfl ?_
  refine Ch.al gdN (by exact trivial) (OpS.alloc 2 rfl rfl (by decide)) (by first | exact trivial | exact ⟨rfl, trivial⟩) (by first | exact trivial | exact ⟨rfl, trivial⟩ | exact ⟨rfl, rfl, trivial⟩) rfl ?_
  refine Ch.wr gdN (by exact ⟨rfl, rfl, trivial⟩) (OpS.storeP (cs := [.v (.pointer none)]) rfl rfl rfl (by decide)) (by first | exact trivial | exact ⟨rfl, trivial⟩) (by first | exact trivial | exact ⟨rfl, trivial⟩ | exact ⟨rfl, rfl, trivial⟩) ?_
  refine Ch.nil ?_
  refine WP.rs hG ?_
  refine Ch.al gdN (by exact trivial) (OpS.alloc 3 rfl rfl (by decide)) (by first | exact trivial | exact ⟨rfl, trivial⟩) (by first | exact trivial | exact ⟨rfl, trivial⟩ | exact ⟨rfl, rfl, trivial⟩) rfl ?_
  refine Ch.wr gdN (by exact ⟨rfl, rfl, trivial⟩) (OpS.storeP (cs := [.v (.bool false)]) rfl rfl rfl (by decide)) (by first | exact trivial | exact ⟨rfl, trivial⟩) (by first | exact trivial | exact ⟨rfl, trivial⟩ | exact ⟨rfl, rfl, trivial⟩) ?_
  refine Ch.nil ?_
  refine WP.rs hG ?_
  refine Ch.mf gdN (by repeat (first | exact EvL.nil | (apply EvL.cons; exact rfl))) rfl ?_
  refine Ch.asg rfl rfl ?_
  refine Ch.nil ?_
  refine WP.rs hG ?_
  refine Ch.pu gdN (by exact ⟨rfl, trivial⟩) (OpS.loadP rfl rfl rfl) ⟨rfl, trivial⟩ rfl ?_
  refine Ch.callH (FC.split (n2)) [1] 4 gdN (by repeat (first | exact EvL.nil | (apply EvL.cons; exact rfl))) (by exact (And.intro (by first | exact .rfl _ | exact .untip _ _ _ | exact .nil | exact .func _ | exact AV.wk.sh (renL_s _ _) | exact AV.wk.tip rfl (by first | exact renL_b _ _ | exact renL_s _ _ | exact renL_i _ _ | exact renL_w _ _) | exact AV.wk.sh (by simp; first | done | fail)) trivial)) rfl rfl (by decide) (by decide) (by first | ((conv => lhs; simp only [AV.ren, AV.renL, AO.ren, renL_b, renL_s, renL_w, renL_i, renL_append, ren_b, ren_s, ren_w, ren_i, pi_n, pi_0, pi_s, pi_1, pi_2, pi_3, pi_4, chOld, chNew, nuNew, hpl, Option.map_some, Option.map_none, List.length_cons, List.length_nil, List.take_succ_cons, List.take_zero, List.take_nil, List.drop_succ_cons, List.drop_zero, List.drop_nil, List.cons_append, List.nil_append, Nat.zero_add, Nat.add_zero, Nat.reduceAdd]); all_goals rfl) | rfl) (by first | ((conv => lhs; simp only [AV.ren, AV.renL, AO.ren, renL_b, renL_s, renL_w, renL_i, renL_append, ren_b, ren_s, ren_w, ren_i, pi_n, pi_0, pi_s, pi_1, pi_2, pi_3, pi_4, chOld, chNew, nuNew, hpl, Option.map_some, Option.map_none, List.length_cons, List.length_nil, List.take_succ_cons, List.take_zero, List.take_nil, List.drop_succ_cons, List.drop_zero, List.drop_nil, List.cons_append, List.nil_append, Nat.zero_add, Nat.add_zero, Nat.reduceAdd]); all_goals rfl) | rfl) (by first | ((conv => lhs; simp only [AV.ren, AV.renL, AO.ren, renL_b, renL_s, renL_w, renL_i, renL_append, ren_b, ren_s, ren_w, ren_i, pi_n, pi_0, pi_s, pi_1, pi_2, pi_3, pi_4, chOld, chNew, nuNew, hpl, Option.map_some, Option.map_none, List.length_cons, List.length_nil, List.take_succ_cons, List.take_zero, List.take_nil, List.drop_succ_cons, List.drop_zero, List.drop_nil, List.cons_append, List.nil_append, Nat.zero_add, Nat.add_zero, Nat.reduceAdd]); all_goals rfl) | rfl) (by first | ((conv => lhs; simp only [AV.ren, AV.renL, AO.ren, renL_b, renL_s, renL_w, renL_i, renL_append, ren_b, ren_s, ren_w, ren_i, pi_n, pi_0, pi_s, pi_1, pi_2, pi_3, pi_4, chOld, chNew, nuNew, hpl, Option.map_some, Option.map_none, List.length_cons, List.length_nil, List.take_succ_cons, List.take_zero, List.take_nil, List.drop_succ_cons, List.drop_zero, List.drop_nil, List.cons_append, List.nil_append, Nat.zero_add, Nat.add_zero, Nat.reduceAdd]); all_goals rfl) | rfl) (by first | exact trivial | exact ⟨rfl, trivial⟩ | exact ⟨rfl, rfl, trivial⟩ | exact ⟨rfl, rfl, rfl, trivial⟩ | exact ⟨rfl, rfl, rfl, rfl, trivial⟩) (by first | exact trivial | exact ⟨rfl, trivial⟩ | exact ⟨rfl, rfl, trivial⟩ | exact ⟨rfl, rfl, rfl, trivial⟩ | exact ⟨rfl, rfl, rfl, rfl, trivial⟩) rfl ?_
  refine Ch.asg rfl rfl ?_
  refine Ch.nil ?_
  refine WP.rs hG ?_
  refine Ch.mv rfl rfl ?_
  refine Ch.callFH (FC.split (n3)) [2,1,3] 4 gdN (by repeat (first | exact EvL.nil | (apply EvL.cons; exact rfl))) (by first | exact trivial | exact (And.intro (by first | exact .rfl _ | exact .untip _ _ _ | exact .nil | exact .func _ | exact AV.wk.sh (renL_s _ _) | exact AV.wk.tip rfl (by first | exact renL_b _ _ | exact renL_s _ _ | exact renL_i _ _ | exact renL_w _ _) | exact AV.wk.sh (by simp; first | done | fail)) trivial) | exact (And.intro (by first | exact .rfl _ | exact .untip _ _ _ | exact .nil | exact .func _ | exact AV.wk.sh (renL_s _ _) | exact AV.wk.tip rfl (by first | exact renL_b _ _ | exact renL_s _ _ | exact renL_i _ _ | exact renL_w _ _) | exact AV.wk.sh (by simp; first | done | fail)) (And.intro (by first | exact .rfl _ | exact .untip _ _ _ | exact .nil | exact .func _ | exact AV.wk.sh (renL_s _ _) | exact AV.wk.tip rfl (by first | exact renL_b _ _ | exact renL_s _ _ | exact renL_i _ _ | exact renL_w _ _) | exact AV.wk.sh (by simp; first | done | fail)) trivial)) | exact (And.intro (by first | exact .rfl _ | exact .untip _ _ _ | exact .nil | exact .func _ | exact AV.wk.sh (renL_s _ _) | exact AV.wk.tip rfl (by first | exact renL_b _ _ | exact renL_s _ _ | exact renL_i _ _ | exact renL_w _ _) | exact AV.wk.sh (by simp; first | done | fail)) (And.intro (by first | exact .rfl _ | exact .untip _ _ _ | exact .nil | exact .func _ | exact AV.wk.sh (renL_s _ _) | exact AV.wk.tip rfl (by first | exact renL_b _ _ | exact renL_s _ _ | exact renL_i _ _ | exact renL_w _ _) | exact AV.wk.sh (by simp; first | done | fail)) (And.intro (by first | exact .rfl _ | exact .untip _ _ _ | exact .nil | exact .func _ | exact AV.wk.sh (renL_s _ _) | exact AV.wk.tip rfl (by first | exact renL_b _ _ | exact renL_s _ _ | exact renL_i _ _ | exact renL_w _ _) | exact AV.wk.sh (by simp; first | done | fail)) trivial))) | exact (And.intro (by first | exact .rfl _ | exact .untip _ _ _ | exact .nil | exact .func _ | exact AV.wk.sh (renL_s _ _) | exact AV.wk.tip rfl (by first | exact renL_b _ _ | exact renL_s _ _ | exact renL_i _ _ | exact renL_w _ _) | exact AV.wk.sh (by simp; first | done | fail)) (And.intro (by first | exact .rfl _ | exact .untip _ _ _ | exact .nil | exact .func _ | exact AV.wk.sh (renL_s _ _) | exact AV.wk.tip rfl (by first | exact renL_b _ _ | exact renL_s _ _ | exact renL_i _ _ | exact renL_w _ _) | exact AV.wk.sh (by simp; first | done | fail)) (And.intro (by first | exact .rfl _ | exact .untip _ _ _ | exact .nil | exact .func _ | exact AV.wk.sh (renL_s _ _) | exact AV.wk.tip rfl (by first | exact renL_b _ _ | exact renL_s _ _ | exact renL_i _ _ | exact renL_w _ _) | exact AV.wk.sh (by simp; first | done | fail)) (And.intro (by first | exact .rfl _ | exact .untip _ _ _ | exact .nil | exact .func _ | exact AV.wk.sh (renL_s _ _) | exact AV.wk.tip rfl (by first | exact renL_b _ _ | exact renL_s _ _ | exact renL_i _ _ | exact renL_w _ _) | exact AV.wk.sh (by simp; first | done | fail)) trivial)))) | exact (And.intro (by first | exact .rfl _ | exact .untip _ _ _ | exact .nil | exact .func _ | exact AV.wk.sh (renL_s _ _) | exact AV.wk.tip rfl (by first | exact renL_b _ _ | exact renL_s _ _ | exact renL_i _ _ | exact renL_w _ _) | exact AV.wk.sh (by simp; first | done | fail)) (And.intro (by first | exact .rfl _ | exact .untip _ _ _ | exact .nil | exact .func _ | exact AV.wk.sh (renL_s _ _) | exact AV.wk.tip rfl (by first | exact renL_b _ _ | exact renL_s _ _ | exact renL_i _ _ | exact renL_w _ _) | exact AV.wk.sh (by simp; first | done | fail)) (And.intro (by first | exact .rfl _ | exact .untip _ _ _ | exact .nil | exact .func _ | exact AV.wk.sh (renL_s _ _) | exact AV.wk.tip rfl (by first | exact renL_b _ _ | exact renL_s _ _ | exact renL_i _ _ | exact renL_w _ _) | exact AV.wk.sh (by simp; first | done | fail)) (And.intro (by first | exact .rfl _ | exact .untip _ _ _ | exact .nil | exact .func _ | exact AV.wk.sh (renL_s _ _) | exact AV.wk.tip rfl (by first | exact renL_b _ _ | exact renL_s _ _ | exact renL_i _ _ | exact renL_w _ _) | exact AV.wk.sh (by simp; first | done | fail)) (And.intro (by first | exact .rfl _ | exact .untip _ _ _ | exact .nil | exact .func _ | exact AV.wk.sh (renL_s _ _) | exact AV.wk.tip rfl (by first | exact renL_b _ _ | exact renL_s _ _ | exact renL_i _ _ | exact renL_w _ _) | exact AV.wk.sh (by simp; first | done | fail)) trivial)))))) rfl rfl (by decide) (by decide) (by first | ((conv => lhs; simp only [AV.ren, AV.renL, AO.ren, renL_b, renL_s, renL_w, renL_i, renL_append, ren_b, ren_s, ren_w, ren_i, pi_n, pi_0, pi_s, pi_1, pi_2, pi_3, pi_4, chOld, chNew, nuNew, hpl, Option.map_some, Option.map_none, List.length_cons, List.length_nil, List.take_succ_cons, List.take_zero, List.take_nil, List.drop_succ_cons, List.drop_zero, List.drop_nil, List.cons_append, List.nil_append, Nat.zero_add, Nat.add_zero, Nat.reduceAdd]); all_goals rfl) | rfl) (by first | ((conv => lhs; simp only [AV.ren, AV.renL, AO.ren, renL_b, renL_s, renL_w, renL_i, renL_append, ren_b, ren_s, ren_w, ren_i, pi_n, pi_0, pi_s, pi_1, pi_2, pi_3, pi_4, chOld, chNew, nuNew, hpl, Option.map_some, Option.map_none, List.length_cons, List.length_nil, List.take_succ_cons, List.take_zero, List.take_nil, List.drop_succ_cons, List.drop_zero, List.drop_nil, List.cons_append, List.nil_append, Nat.zero_add, Nat.add_zero, Nat.reduceAdd]); all_goals rfl) | rfl) (by first | ((conv => lhs; simp only [AV.ren, AV.renL, AO.ren, renL_b, renL_s, renL_w, renL_i, renL_append, ren_b, ren_s, ren_w, ren_i, pi_n, pi_0, pi_s, pi_1, pi_2, pi_3, pi_4, chOld, chNew, nuNew, hpl, Option.map_some, Option.map_none, List.length_cons, List.length_nil, List.take_succ_cons, List.take_zero, List.take_nil, List.drop_succ_cons, List.drop_zero, List.drop_nil, List.cons_append, List.nil_append, Nat.zero_add, Nat.add_zero, Nat.reduceAdd]); all_goals rfl) | rfl) (by first | ((conv => lhs; simp only [AV.ren, AV.renL, AO.ren, renL_b, renL_s, renL_w, renL_i, renL_append, ren_b, ren_s, ren_w, ren_i, pi_n, pi_0, pi_s, pi_1, pi_2, pi_3, pi_4, chOld, chNew, nuNew, hpl, Option.map_some, Option.map_none, List.length_cons, List.length_nil, List.take_succ_cons, List.take_zero, List.take_nil, List.drop_succ_cons, List.drop_zero, List.drop_nil, List.cons_append, List.nil_append, Nat.zero_add, Nat.add_zero, Nat.reduceAdd]); all_goals rfl) | rfl) (by first | exact trivial | exact ⟨rfl, trivial⟩ | exact ⟨rfl, rfl, trivial⟩ | exact ⟨rfl, rfl, rfl, trivial⟩ | exact ⟨rfl, rfl, rfl, rfl, trivial⟩) (by first | exact trivial | exact ⟨rfl, trivial⟩ | exact ⟨rfl, rfl, trivial⟩ | exact ⟨rfl, rfl, rfl, trivial⟩ | exact ⟨rfl, rfl, rfl, rfl, trivial⟩) rfl ?_
  refine Ch.asg rfl rfl ?_
  refine Ch.nil ?_
  refine WP.rs hG ?_
  refine Ch.mv rfl rfl ?_
  refine Ch.al gdN (by exact ⟨rfl, rfl, trivial⟩) (OpS.makeB (n := h) (bb := 16) 4 rfl rfl rfl rfl rfl rfl rfl rfl (by omega) (by unfold maxLen; omega)) (by first | exact trivial | exact ⟨rfl, trivial⟩) (by first | exact trivial | exact ⟨rfl, trivial⟩ | exact ⟨rfl, rfl, trivial⟩) rfl ?_
  refine Ch.asg rfl rfl ?_
  refine Ch.nil ?_
  refine WP.seq ?_
  refine WP.rs hG ?_
  refine Ch.mv rfl rfl ?_
  refine Ch.pu gdN (by exact ⟨rfl, trivial⟩) (OpS.lenA rfl) (by first | exact trivial | exact ⟨rfl, trivial⟩) rfl ?_
  refine Ch.mv rfl rfl ?_
  refine Ch.nil ?_
  refine WP.block ?_
  refine WP.loop (fun k σ => ∃ (m : Nat) (pa : List Txt) (fa : Bool) (la : Txt) (ba : Bool), (m + k = h ∧ rdP f0 (l2, b2) m = (pa, fa, la, ba)) ∧ σ = ⟨67, ls [(0, sA pub), (1, sA msg), (7, .v (.int .u64 (h : Int))), (8, .ptr 2 0), (9, .ptr 3 0), (10, .fn (.func 38) [] [.ptr 2 0, .ptr 3 0]), (11, .v (.int .u64 (U64 nn))), (12, sA s), (13, .arr 4 0 h), (34, .v (.int .i64 (h : Int))), (35, .v (.int .i64 (m : Int)))], lh [(1, .cells 92 (rdC la ba)), (2, .cells 56 [.ptr 1 0]), (3, .cells 4 [.v (.bool fa)]), (4, .cells 9 ((rowP pa h).map sA))], blt 5⟩) (h) (Ent.of [0, 1, 2, 3, 4] ?_ ?_ ?_ ?_).se ⟨0, [], f0, l2, b2, ⟨by omega, rdP_z f0 (l2, b2)⟩, rfl⟩ ?_
  · exact (fun i hi => by rw [hnA] at hi; simp only [List.length_cons, List.length_nil] at hi ⊢; first | exact absurd hi (Nat.not_lt_zero _) | (revert i; decide))
  · (repeat (first | exact trivial | (refine And.intro ⟨(by first | trivial | (simp; first | done | fail) | exact ⟨trivial, hbel _⟩), _, rfl, (by first | exact .rfl _ | exact .nil | exact .of_eq (by simp [rowP_0]; first | done | fail) | exact AV.wk.sh (by simp [rowP_0]; first | done | fail) | exact .untip _ _ _)⟩ ?_)))
  · (repeat (first | exact trivial | (refine And.intro ⟨rfl, (by first | trivial | (simp; first | done | fail) | exact ⟨trivial, hbel _⟩), (by first | rfl | (simp [rowP_0]; first | done | fail))⟩ ?_)))
  · simp [rn]
  · rintro k σ ⟨m, pa, fa, la, ba, ⟨hm', hP⟩, rfl⟩
    have hpm : pa.length = m := by have := rdP_length f0 (l2, b2) m; rw [hP] at this; exact this
    have hll : la.length ≤ 9223372036854775807 := by have := rdP_len f0 (l2, b2) m; rw [hP] at this; exact Nat.le_trans this l2l
    refine WP.rs hG ?_
    refine Ch.pu gdN (by exact ⟨rfl, rfl, trivial⟩) (OpS.int rfl (by first | exact wr64 (by omega) | exact rfl)) trivial rfl ?_
    refine Ch.nil ?_
    refine WP.seq ?_
    refine WP.cond rfl ?_ ?_
    · intro ht
      have ht' := of_decide_eq_true ht
      have n4 := verText_fc (G := G) la ba fa 32 hll (by decide)
      obtain ⟨x, lx, bx, hrx⟩ : ∃ x lx bx, rdText 32 (la, ba) = (x, lx, bx) := ⟨_, _, _, rfl⟩
      rw [hrx] at n4
      have hst := rdP_step hP hrx
      have hrs := rowP_set pa h x (by omega)
      rw [hpm] at hrs
      refine WP.skip ?_
      refine WP.seq ?_
      refine WP.block ?_
      refine WP.rs hG ?_
      refine Ch.mv rfl rfl ?_
      refine Ch.asg rfl rfl ?_
      refine Ch.nil ?_
      refine WP.rg hG ?_
      refine Ch.mv rfl rfl ?_
      refine Ch.mv rfl rfl ?_
      refine Ch.mv rfl rfl ?_
      refine Ch.callFH (FC.split (n4)) [2,1,3] 5 gdN (by repeat (first | exact EvL.nil | (apply EvL.cons; exact rfl))) (by first | exact trivial | exact (And.intro (by first | exact .rfl _ | exact .untip _ _ _ | exact .nil | exact .func _ | exact AV.wk.sh (renL_s _ _) | exact AV.wk.tip rfl (by first | exact renL_b _ _ | exact renL_s _ _ | exact renL_i _ _ | exact renL_w _ _) | exact AV.wk.sh (by simp; first | done | fail)) trivial) | exact (And.intro (by first | exact .rfl _ | exact .untip _ _ _ | exact .nil | exact .func _ | exact AV.wk.sh (renL_s _ _) | exact AV.wk.tip rfl (by first | exact renL_b _ _ | exact renL_s _ _ | exact renL_i _ _ | exact renL_w _ _) | exact AV.wk.sh (by simp; first | done | fail)) (And.intro (by first | exact .rfl _ | exact .untip _ _ _ | exact .nil | exact .func _ | exact AV.wk.sh (renL_s _ _) | exact AV.wk.tip rfl (by first | exact renL_b _ _ | exact renL_s _ _ | exact renL_i _ _ | exact renL_w _ _) | exact AV.wk.sh (by simp; first | done | fail)) trivial)) | exact (And.intro (by first | exact .rfl _ | exact .untip _ _ _ | exact .nil | exact .func _ | exact AV.wk.sh (renL_s _ _) | exact AV.wk.tip rfl (by first | exact renL_b _ _ | exact renL_s _ _ | exact renL_i _ _ | exact renL_w _ _) | exact AV.wk.sh (by simp; first | done | fail)) (And.intro (by first | exact .rfl _ | exact .untip _ _ _ | exact .nil | exact .func _ | exact AV.wk.sh (renL_s _ _) | exact AV.wk.tip rfl (by first | exact renL_b _ _ | exact renL_s _ _ | exact renL_i _ _ | exact renL_w _ _) | exact AV.wk.sh (by simp; first | done | fail)) (And.intro (by first | exact .rfl _ | exact .untip _ _ _ | exact .nil | exact .func _ | exact AV.wk.sh (renL_s _ _) | exact AV.wk.tip rfl (by first | exact renL_b _ _ | exact renL_s _ _ | exact renL_i _ _ | exact renL_w _ _) | exact AV.wk.sh (by simp; first | done | fail)) trivial))) | exact (And.intro (by first | exact .rfl _ | exact .untip _ _ _ | exact .nil | exact .func _ | exact AV.wk.sh (renL_s _ _) | exact AV.wk.tip rfl (by first | exact renL_b _ _ | exact renL_s _ _ | exact renL_i _ _ | exact renL_w _ _) | exact AV.wk.sh (by simp; first | done | fail)) (And.intro (by first | exact .rfl _ | exact .untip _ _ _ | exact .nil | exact .func _ | exact AV.wk.sh (renL_s _ _) | exact AV.wk.tip rfl (by first | exact renL_b _ _ | exact renL_s _ _ | exact renL_i _ _ | exact renL_w _ _) | exact AV.wk.sh (by simp; first | done | fail)) (And.intro (by first | exact .rfl _ | exact .untip _ _ _ | exact .nil | exact .func _ | exact AV.wk.sh (renL_s _ _) | exact AV.wk.tip rfl (by first | exact renL_b _ _ | exact renL_s _ _ | exact renL_i _ _ | exact renL_w _ _) | exact AV.wk.sh (by simp; first | done | fail)) (And.intro (by first | exact .rfl _ | exact .untip _ _ _ | exact .nil | exact .func _ | exact AV.wk.sh (renL_s _ _) | exact AV.wk.tip rfl (by first | exact renL_b _ _ | exact renL_s _ _ | exact renL_i _ _ | exact renL_w _ _) | exact AV.wk.sh (by simp; first | done | fail)) trivial)))) | exact (And.intro (by first | exact .rfl _ | exact .untip _ _ _ | exact .nil | exact .func _ | exact AV.wk.sh (renL_s _ _) | exact AV.wk.tip rfl (by first | exact renL_b _ _ | exact renL_s _ _ | exact renL_i _ _ | exact renL_w _ _) | exact AV.wk.sh (by simp; first | done | fail)) (And.intro (by first | exact .rfl _ | exact .untip _ _ _ | exact .nil | exact .func _ | exact AV.wk.sh (renL_s _ _) | exact AV.wk.tip rfl (by first | exact renL_b _ _ | exact renL_s _ _ | exact renL_i _ _ | exact renL_w _ _) | exact AV.wk.sh (by simp; first | done | fail)) (And.intro (by first | exact .rfl _ | exact .untip _ _ _ | exact .nil | exact .func _ | exact AV.wk.sh (renL_s _ _) | exact AV.wk.tip rfl (by first | exact renL_b _ _ | exact renL_s _ _ | exact renL_i _ _ | exact renL_w _ _) | exact AV.wk.sh (by simp; first | done | fail)) (And.intro (by first | exact .rfl _ | exact .untip _ _ _ | exact .nil | exact .func _ | exact AV.wk.sh (renL_s _ _) | exact AV.wk.tip rfl (by first | exact renL_b _ _ | exact renL_s _ _ | exact renL_i _ _ | exact renL_w _ _) | exact AV.wk.sh (by simp; first | done | fail)) (And.intro (by first | exact .rfl _ | exact .untip _ _ _ | exact .nil | exact .func _ | exact AV.wk.sh (renL_s _ _) | exact AV.wk.tip rfl (by first | exact renL_b _ _ | exact renL_s _ _ | exact renL_i _ _ | exact renL_w _ _) | exact AV.wk.sh (by simp; first | done | fail)) trivial)))))) rfl rfl (by decide) (by decide) (by first | ((conv => lhs; simp only [AV.ren, AV.renL, AO.ren, renL_b, renL_s, renL_w, renL_i, renL_append, ren_b, ren_s, ren_w, ren_i, pi_n, pi_0, pi_s, pi_1, pi_2, pi_3, pi_4, chOld, chNew, nuNew, hpl, Option.map_some, Option.map_none, List.length_cons, List.length_nil, List.take_succ_cons, List.take_zero, List.take_nil, List.drop_succ_cons, List.drop_zero, List.drop_nil, List.cons_append, List.nil_append, Nat.zero_add, Nat.add_zero, Nat.reduceAdd]); all_goals rfl) | rfl) (by first | ((conv => lhs; simp only [AV.ren, AV.renL, AO.ren, renL_b, renL_s, renL_w, renL_i, renL_append, ren_b, ren_s, ren_w, ren_i, pi_n, pi_0, pi_s, pi_1, pi_2, pi_3, pi_4, chOld, chNew, nuNew, hpl, Option.map_some, Option.map_none, List.length_cons, List.length_nil, List.take_succ_cons, List.take_zero, List.take_nil, List.drop_succ_cons, List.drop_zero, List.drop_nil, List.cons_append, List.nil_append, Nat.zero_add, Nat.add_zero, Nat.reduceAdd]); all_goals rfl) | rfl) (by first | ((conv => lhs; simp only [AV.ren, AV.renL, AO.ren, renL_b, renL_s, renL_w, renL_i, renL_append, ren_b, ren_s, ren_w, ren_i, pi_n, pi_0, pi_s, pi_1, pi_2, pi_3, pi_4, chOld, chNew, nuNew, hpl, Option.map_some, Option.map_none, List.length_cons, List.length_nil, List.take_succ_cons, List.take_zero, List.take_nil, List.drop_succ_cons, List.drop_zero, List.drop_nil, List.cons_append, List.nil_append, Nat.zero_add, Nat.add_zero, Nat.reduceAdd]); all_goals rfl) | rfl) (by first | ((conv => lhs; simp only [AV.ren, AV.renL, AO.ren, renL_b, renL_s, renL_w, renL_i, renL_append, ren_b, ren_s, ren_w, ren_i, pi_n, pi_0, pi_s, pi_1, pi_2, pi_3, pi_4, chOld, chNew, nuNew, hpl, Option.map_some, Option.map_none, List.length_cons, List.length_nil, List.take_succ_cons, List.take_zero, List.take_nil, List.drop_succ_cons, List.drop_zero, List.drop_nil, List.cons_append, List.nil_append, Nat.zero_add, Nat.add_zero, Nat.reduceAdd]); all_goals rfl) | rfl) (by first | exact trivial | exact ⟨rfl, trivial⟩ | exact ⟨rfl, rfl, trivial⟩ | exact ⟨rfl, rfl, rfl, trivial⟩ | exact ⟨rfl, rfl, rfl, rfl, trivial⟩) (by first | exact trivial | exact ⟨rfl, trivial⟩ | exact ⟨rfl, rfl, trivial⟩ | exact ⟨rfl, rfl, rfl, trivial⟩ | exact ⟨rfl, rfl, rfl, rfl, trivial⟩) rfl ?_
      refine Ch.pu gdN (by exact ⟨rfl, rfl, trivial⟩) (OpS.indexAddrA (sz := 1) rfl rfl rfl (by omega) (by omega)) (by first | exact trivial | exact ⟨rfl, trivial⟩) rfl ?_
      refine Ch.wr gdN (by exact ⟨rfl, rfl, trivial⟩) (OpS.storeP (cs := (rowP pa h).map sA) rfl rfl rfl (by rw [List.length_map, rowP_length pa h (by omega)]; omega)) (by first | exact trivial | exact ⟨rfl, trivial⟩) (by first | exact trivial | exact ⟨rfl, trivial⟩ | exact ⟨rfl, rfl, trivial⟩) ?_
      refine Ch.nil ?_
      refine WP.rg hG ?_
      refine Ch.pu gdN (by exact ⟨rfl, rfl, trivial⟩) (OpS.int (op := .add) (v' := .int .i64 ((m + 1 : Nat) : Int)) rfl (by rw [wr64 (by omega)]; exact congrArg (Value.int .i64) (by omega))) trivial rfl ?_
      refine Ch.mv rfl rfl ?_
      refine Ch.nil ?_
      refine ⟨k - 1, _, by omega, (Ent.of [0, 1, 2, 3, 4] ?_ ?_ ?_ ?_).se, m + 1, pa ++ [x], (fa && decide (x.length = 32)), lx, bx, ⟨by omega, hst⟩, rfl⟩
      · exact (fun i hi => by rw [hnA] at hi; simp only [List.length_cons, List.length_nil] at hi ⊢; first | exact absurd hi (Nat.not_lt_zero _) | (revert i; decide))
      · (repeat (first | exact trivial | (refine And.intro ⟨(by first | trivial | (simp; first | done | fail) | exact ⟨trivial, hbel _⟩), _, rfl, (by first | exact .rfl _ | exact .nil | exact .of_eq (by simp [setS, hrs]; first | done | fail) | exact AV.wk.sh (by simp [setS, hrs]; first | done | fail) | exact .untip _ _ _)⟩ ?_)))
      · (repeat (first | exact trivial | (refine And.intro ⟨rfl, (by first | trivial | (simp; first | done | fail) | exact ⟨trivial, hbel _⟩), (by first | rfl | (simp [setS, hrs]; first | done | fail))⟩ ?_)))
      · simp [rn]
    · intro ht
      have ht' := of_decide_eq_false ht
      obtain rfl : m = h := by omega
      rw [hP, rowP_all pa m hpm]
      refine WP.exit ?_
      refine WP.seq ?_
      rcases ver_split fa ba la nn.toNat m with ⟨rfl, hq⟩ | ⟨rfl, rfl, hq⟩ | ⟨rfl, rfl, hq⟩ | ⟨rfl, rfl, rfl, hq⟩ | ⟨rfl, rfl, rfl, hq⟩
      · have hs := hq
        refine WP.rs hG ?_
        refine Ch.pu gdN (by exact ⟨rfl, trivial⟩) (OpS.loadP rfl rfl rfl) ⟨rfl, trivial⟩ rfl ?_
        refine Ch.pu gdN (by exact ⟨rfl, trivial⟩) (OpS.not) trivial rfl ?_
        refine Ch.mv rfl rfl ?_
        refine Ch.skU (gdF rfl rfl rfl) rfl ?_
        refine Ch.skU (gdF rfl rfl rfl) rfl ?_
        refine Ch.skU (gdF rfl rfl rfl) rfl ?_
        refine Ch.pu gdN (by first | exact ⟨rfl, rfl, trivial⟩ | exact ⟨rfl, rfl, rfl, trivial⟩) (OpS.pickT) trivial rfl ?_
        refine Ch.mv rfl rfl ?_
        refine Ch.skU (gdF rfl rfl rfl) rfl ?_
        refine Ch.skU (gdF rfl rfl rfl) rfl ?_
        refine Ch.skU (gdF rfl rfl rfl) rfl ?_
        refine Ch.skU (gdF rfl rfl rfl) rfl ?_
        refine Ch.pu gdN (by first | exact ⟨rfl, rfl, trivial⟩ | exact ⟨rfl, rfl, rfl, trivial⟩) (OpS.pickT) trivial rfl ?_
        refine Ch.nil ?_
        refine WP.cond_true rfl ?_
        refine WP.rs hG ?_
        refine Ch.asg rfl rfl ?_
        refine Ch.nil ?_
        exact WP.ret (Ret.one rfl (.of_eq (by rw [verF_f (by simp)]; rfl)) trivial hnA)
      · have hs := hq
        have he := rEnd_fc (G := G) la true
        refine WP.rs hG ?_
        refine Ch.pu gdN (by exact ⟨rfl, trivial⟩) (OpS.loadP rfl rfl rfl) ⟨rfl, trivial⟩ rfl ?_
        refine Ch.pu gdN (by exact ⟨rfl, trivial⟩) (OpS.not) trivial rfl ?_
        refine Ch.mv rfl rfl ?_
        refine Ch.pu (by exact gdT rfl rfl) (by exact ⟨rfl, trivial⟩) (OpS.loadP rfl rfl rfl) ⟨rfl, trivial⟩ rfl ?_
        refine Ch.callH (FC.split (he)) [1] 5 (by exact gdT rfl rfl) (by repeat (first | exact EvL.nil | (apply EvL.cons; exact rfl))) (by exact (And.intro (by first | exact .rfl _ | exact .untip _ _ _ | exact .nil | exact .func _ | exact AV.wk.sh (renL_s _ _) | exact AV.wk.tip rfl (by first | exact renL_b _ _ | exact renL_s _ _ | exact renL_i _ _ | exact renL_w _ _) | exact AV.wk.sh (by simp; first | done | fail)) trivial)) rfl rfl (by decide) (by decide) (by first | ((conv => lhs; simp only [AV.ren, AV.renL, AO.ren, renL_b, renL_s, renL_w, renL_i, renL_append, ren_b, ren_s, ren_w, ren_i, pi_n, pi_0, pi_s, pi_1, pi_2, pi_3, pi_4, chOld, chNew, nuNew, hpl, Option.map_some, Option.map_none, List.length_cons, List.length_nil, List.take_succ_cons, List.take_zero, List.take_nil, List.drop_succ_cons, List.drop_zero, List.drop_nil, List.cons_append, List.nil_append, Nat.zero_add, Nat.add_zero, Nat.reduceAdd]); all_goals rfl) | rfl) (by first | ((conv => lhs; simp only [AV.ren, AV.renL, AO.ren, renL_b, renL_s, renL_w, renL_i, renL_append, ren_b, ren_s, ren_w, ren_i, pi_n, pi_0, pi_s, pi_1, pi_2, pi_3, pi_4, chOld, chNew, nuNew, hpl, Option.map_some, Option.map_none, List.length_cons, List.length_nil, List.take_succ_cons, List.take_zero, List.take_nil, List.drop_succ_cons, List.drop_zero, List.drop_nil, List.cons_append, List.nil_append, Nat.zero_add, Nat.add_zero, Nat.reduceAdd]); all_goals rfl) | rfl) (by first | ((conv => lhs; simp only [AV.ren, AV.renL, AO.ren, renL_b, renL_s, renL_w, renL_i, renL_append, ren_b, ren_s, ren_w, ren_i, pi_n, pi_0, pi_s, pi_1, pi_2, pi_3, pi_4, chOld, chNew, nuNew, hpl, Option.map_some, Option.map_none, List.length_cons, List.length_nil, List.take_succ_cons, List.take_zero, List.take_nil, List.drop_succ_cons, List.drop_zero, List.drop_nil, List.cons_append, List.nil_append, Nat.zero_add, Nat.add_zero, Nat.reduceAdd]); all_goals rfl) | rfl) (by first | ((conv => lhs; simp only [AV.ren, AV.renL, AO.ren, renL_b, renL_s, renL_w, renL_i, renL_append, ren_b, ren_s, ren_w, ren_i, pi_n, pi_0, pi_s, pi_1, pi_2, pi_3, pi_4, chOld, chNew, nuNew, hpl, Option.map_some, Option.map_none, List.length_cons, List.length_nil, List.take_succ_cons, List.take_zero, List.take_nil, List.drop_succ_cons, List.drop_zero, List.drop_nil, List.cons_append, List.nil_append, Nat.zero_add, Nat.add_zero, Nat.reduceAdd]); all_goals rfl) | rfl) (by first | exact trivial | exact ⟨rfl, trivial⟩ | exact ⟨rfl, rfl, trivial⟩ | exact ⟨rfl, rfl, rfl, trivial⟩ | exact ⟨rfl, rfl, rfl, rfl, trivial⟩) (by first | exact trivial | exact ⟨rfl, trivial⟩ | exact ⟨rfl, rfl, trivial⟩ | exact ⟨rfl, rfl, rfl, trivial⟩ | exact ⟨rfl, rfl, rfl, rfl, trivial⟩) rfl ?_
        refine Ch.pu (by exact gdT rfl rfl) (by exact ⟨rfl, trivial⟩) (OpS.not) trivial rfl ?_
        refine Ch.pu gdN (by first | exact ⟨rfl, rfl, trivial⟩ | exact ⟨rfl, rfl, rfl, trivial⟩) (OpS.pickF) trivial rfl ?_
        refine Ch.mv rfl rfl ?_
        refine Ch.skU (gdF rfl rfl rfl) rfl ?_
        refine Ch.skU (gdF rfl rfl rfl) rfl ?_
        refine Ch.skU (gdF rfl rfl rfl) rfl ?_
        refine Ch.skU (gdF rfl rfl rfl) rfl ?_
        refine Ch.pu gdN (by first | exact ⟨rfl, rfl, trivial⟩ | exact ⟨rfl, rfl, rfl, trivial⟩) (OpS.pickT) trivial rfl ?_
        refine Ch.nil ?_
        refine WP.cond_true rfl ?_
        refine WP.rs hG ?_
        refine Ch.asg rfl rfl ?_
        refine Ch.nil ?_
        exact WP.ret (Ret.one rfl (.of_eq (by rw [verF_f (by simp)]; rfl)) trivial hnA)
      · have hs := hq
        have he := rEnd_fc (G := G) la false
        rw [decide_eq_false hs] at he
        refine WP.rs hG ?_
        refine Ch.pu gdN (by exact ⟨rfl, trivial⟩) (OpS.loadP rfl rfl rfl) ⟨rfl, trivial⟩ rfl ?_
        refine Ch.pu gdN (by exact ⟨rfl, trivial⟩) (OpS.not) trivial rfl ?_
        refine Ch.mv rfl rfl ?_
        refine Ch.pu (by exact gdT rfl rfl) (by exact ⟨rfl, trivial⟩) (OpS.loadP rfl rfl rfl) ⟨rfl, trivial⟩ rfl ?_
        refine Ch.callH (FC.split (he)) [1] 5 (by exact gdT rfl rfl) (by repeat (first | exact EvL.nil | (apply EvL.cons; exact rfl))) (by exact (And.intro (by first | exact .rfl _ | exact .untip _ _ _ | exact .nil | exact .func _ | exact AV.wk.sh (renL_s _ _) | exact AV.wk.tip rfl (by first | exact renL_b _ _ | exact renL_s _ _ | exact renL_i _ _ | exact renL_w _ _) | exact AV.wk.sh (by simp; first | done | fail)) trivial)) rfl rfl (by decide) (by decide) (by first | ((conv => lhs; simp only [AV.ren, AV.renL, AO.ren, renL_b, renL_s, renL_w, renL_i, renL_append, ren_b, ren_s, ren_w, ren_i, pi_n, pi_0, pi_s, pi_1, pi_2, pi_3, pi_4, chOld, chNew, nuNew, hpl, Option.map_some, Option.map_none, List.length_cons, List.length_nil, List.take_succ_cons, List.take_zero, List.take_nil, List.drop_succ_cons, List.drop_zero, List.drop_nil, List.cons_append, List.nil_append, Nat.zero_add, Nat.add_zero, Nat.reduceAdd]); all_goals rfl) | rfl) (by first | ((conv => lhs; simp only [AV.ren, AV.renL, AO.ren, renL_b, renL_s, renL_w, renL_i, renL_append, ren_b, ren_s, ren_w, ren_i, pi_n, pi_0, pi_s, pi_1, pi_2, pi_3, pi_4, chOld, chNew, nuNew, hpl, Option.map_some, Option.map_none, List.length_cons, List.length_nil, List.take_succ_cons, List.take_zero, List.take_nil, List.drop_succ_cons, List.drop_zero, List.drop_nil, List.cons_append, List.nil_append, Nat.zero_add, Nat.add_zero, Nat.reduceAdd]); all_goals rfl) | rfl) (by first | ((conv => lhs; simp only [AV.ren, AV.renL, AO.ren, renL_b, renL_s, renL_w, renL_i, renL_append, ren_b, ren_s, ren_w, ren_i, pi_n, pi_0, pi_s, pi_1, pi_2, pi_3, pi_4, chOld, chNew, nuNew, hpl, Option.map_some, Option.map_none, List.length_cons, List.length_nil, List.take_succ_cons, List.take_zero, List.take_nil, List.drop_succ_cons, List.drop_zero, List.drop_nil, List.cons_append, List.nil_append, Nat.zero_add, Nat.add_zero, Nat.reduceAdd]); all_goals rfl) | rfl) (by first | ((conv => lhs; simp only [AV.ren, AV.renL, AO.ren, renL_b, renL_s, renL_w, renL_i, renL_append, ren_b, ren_s, ren_w, ren_i, pi_n, pi_0, pi_s, pi_1, pi_2, pi_3, pi_4, chOld, chNew, nuNew, hpl, Option.map_some, Option.map_none, List.length_cons, List.length_nil, List.take_succ_cons, List.take_zero, List.take_nil, List.drop_succ_cons, List.drop_zero, List.drop_nil, List.cons_append, List.nil_append, Nat.zero_add, Nat.add_zero, Nat.reduceAdd]); all_goals rfl) | rfl) (by first | exact trivial | exact ⟨rfl, trivial⟩ | exact ⟨rfl, rfl, trivial⟩ | exact ⟨rfl, rfl, rfl, trivial⟩ | exact ⟨rfl, rfl, rfl, rfl, trivial⟩) (by first | exact trivial | exact ⟨rfl, trivial⟩ | exact ⟨rfl, rfl, trivial⟩ | exact ⟨rfl, rfl, rfl, trivial⟩ | exact ⟨rfl, rfl, rfl, rfl, trivial⟩) rfl ?_
        refine Ch.pu (by exact gdT rfl rfl) (by exact ⟨rfl, trivial⟩) (OpS.not) trivial rfl ?_
        refine Ch.pu gdN (by first | exact ⟨rfl, rfl, trivial⟩ | exact ⟨rfl, rfl, rfl, trivial⟩) (OpS.pickF) trivial rfl ?_
        refine Ch.mv rfl rfl ?_
        refine Ch.skU (gdF rfl rfl rfl) rfl ?_
        refine Ch.skU (gdF rfl rfl rfl) rfl ?_
        refine Ch.skU (gdF rfl rfl rfl) rfl ?_
        refine Ch.skU (gdF rfl rfl rfl) rfl ?_
        refine Ch.pu gdN (by first | exact ⟨rfl, rfl, trivial⟩ | exact ⟨rfl, rfl, rfl, trivial⟩) (OpS.pickT) trivial rfl ?_
        refine Ch.nil ?_
        refine WP.cond_true rfl ?_
        refine WP.rs hG ?_
        refine Ch.asg rfl rfl ?_
        refine Ch.nil ?_
        exact WP.ret (Ret.one rfl (.of_eq (by rw [verF_f (by simp [hs])]; rfl)) trivial hnA)
      · have hs := hq
        have he := rEnd_fc (G := G) [] false
        refine WP.rs hG ?_
        refine Ch.pu gdN (by exact ⟨rfl, trivial⟩) (OpS.loadP rfl rfl rfl) ⟨rfl, trivial⟩ rfl ?_
        refine Ch.pu gdN (by exact ⟨rfl, trivial⟩) (OpS.not) trivial rfl ?_
        refine Ch.mv rfl rfl ?_
        refine Ch.pu (by exact gdT rfl rfl) (by exact ⟨rfl, trivial⟩) (OpS.loadP rfl rfl rfl) ⟨rfl, trivial⟩ rfl ?_
        refine Ch.callH (FC.split (he)) [1] 5 (by exact gdT rfl rfl) (by repeat (first | exact EvL.nil | (apply EvL.cons; exact rfl))) (by exact (And.intro (by first | exact .rfl _ | exact .untip _ _ _ | exact .nil | exact .func _ | exact AV.wk.sh (renL_s _ _) | exact AV.wk.tip rfl (by first | exact renL_b _ _ | exact renL_s _ _ | exact renL_i _ _ | exact renL_w _ _) | exact AV.wk.sh (by simp; first | done | fail)) trivial)) rfl rfl (by decide) (by decide) (by first | ((conv => lhs; simp only [AV.ren, AV.renL, AO.ren, renL_b, renL_s, renL_w, renL_i, renL_append, ren_b, ren_s, ren_w, ren_i, pi_n, pi_0, pi_s, pi_1, pi_2, pi_3, pi_4, chOld, chNew, nuNew, hpl, Option.map_some, Option.map_none, List.length_cons, List.length_nil, List.take_succ_cons, List.take_zero, List.take_nil, List.drop_succ_cons, List.drop_zero, List.drop_nil, List.cons_append, List.nil_append, Nat.zero_add, Nat.add_zero, Nat.reduceAdd]); all_goals rfl) | rfl) (by first | ((conv => lhs; simp only [AV.ren, AV.renL, AO.ren, renL_b, renL_s, renL_w, renL_i, renL_append, ren_b, ren_s, ren_w, ren_i, pi_n, pi_0, pi_s, pi_1, pi_2, pi_3, pi_4, chOld, chNew, nuNew, hpl, Option.map_some, Option.map_none, List.length_cons, List.length_nil, List.take_succ_cons, List.take_zero, List.take_nil, List.drop_succ_cons, List.drop_zero, List.drop_nil, List.cons_append, List.nil_append, Nat.zero_add, Nat.add_zero, Nat.reduceAdd]); all_goals rfl) | rfl) (by first | ((conv => lhs; simp only [AV.ren, AV.renL, AO.ren, renL_b, renL_s, renL_w, renL_i, renL_append, ren_b, ren_s, ren_w, ren_i, pi_n, pi_0, pi_s, pi_1, pi_2, pi_3, pi_4, chOld, chNew, nuNew, hpl, Option.map_some, Option.map_none, List.length_cons, List.length_nil, List.take_succ_cons, List.take_zero, List.take_nil, List.drop_succ_cons, List.drop_zero, List.drop_nil, List.cons_append, List.nil_append, Nat.zero_add, Nat.add_zero, Nat.reduceAdd]); all_goals rfl) | rfl) (by first | ((conv => lhs; simp only [AV.ren, AV.renL, AO.ren, renL_b, renL_s, renL_w, renL_i, renL_append, ren_b, ren_s, ren_w, ren_i, pi_n, pi_0, pi_s, pi_1, pi_2, pi_3, pi_4, chOld, chNew, nuNew, hpl, Option.map_some, Option.map_none, List.length_cons, List.length_nil, List.take_succ_cons, List.take_zero, List.take_nil, List.drop_succ_cons, List.drop_zero, List.drop_nil, List.cons_append, List.nil_append, Nat.zero_add, Nat.add_zero, Nat.reduceAdd]); all_goals rfl) | rfl) (by first | exact trivial | exact ⟨rfl, trivial⟩ | exact ⟨rfl, rfl, trivial⟩ | exact ⟨rfl, rfl, rfl, trivial⟩ | exact ⟨rfl, rfl, rfl, rfl, trivial⟩) (by first | exact trivial | exact ⟨rfl, trivial⟩ | exact ⟨rfl, rfl, trivial⟩ | exact ⟨rfl, rfl, rfl, trivial⟩ | exact ⟨rfl, rfl, rfl, rfl, trivial⟩) rfl ?_
        refine Ch.pu (by exact gdT rfl rfl) (by exact ⟨rfl, trivial⟩) (OpS.not) trivial rfl ?_
        refine Ch.pu gdN (by first | exact ⟨rfl, rfl, trivial⟩ | exact ⟨rfl, rfl, rfl, trivial⟩) (OpS.pickF) trivial rfl ?_
        refine Ch.mv rfl rfl ?_
        refine Ch.pu (by exact gdT rfl rfl) (by exact ⟨rfl, trivial⟩) (OpS.move) trivial rfl ?_
        refine Ch.pu (by exact gdT rfl rfl) (by exact ⟨rfl, trivial⟩) (OpS.move) trivial rfl ?_
        refine Ch.pu (by exact gdT rfl rfl) (by exact ⟨rfl, rfl, trivial⟩) (OpS.shl1u (by omega)) (by first | exact trivial | exact ⟨rfl, trivial⟩) rfl ?_
        refine Ch.pu (by exact gdT rfl rfl) (by exact ⟨rfl, rfl, trivial⟩) (OpS.int (op := .geq) (v' := .bool true) rfl (by exact congrArg Value.bool (decide_eq_true (by omega)))) trivial rfl ?_
        refine Ch.pu gdN (by first | exact ⟨rfl, rfl, trivial⟩ | exact ⟨rfl, rfl, rfl, trivial⟩) (OpS.pickF) trivial rfl ?_
        refine Ch.nil ?_
        refine WP.cond_true rfl ?_
        refine WP.rs hG ?_
        refine Ch.asg rfl rfl ?_
        refine Ch.nil ?_
        exact WP.ret (Ret.one rfl (.of_eq (by rw [verF_f (by simp; omega)]; rfl)) trivial hnA)
      · have hs := hq
        have he := rEnd_fc (G := G) [] false
        refine WP.rs hG ?_
        refine Ch.pu gdN (by exact ⟨rfl, trivial⟩) (OpS.loadP rfl rfl rfl) ⟨rfl, trivial⟩ rfl ?_
        refine Ch.pu gdN (by exact ⟨rfl, trivial⟩) (OpS.not) trivial rfl ?_
        refine Ch.mv rfl rfl ?_
        refine Ch.pu (by exact gdT rfl rfl) (by exact ⟨rfl, trivial⟩) (OpS.loadP rfl rfl rfl) ⟨rfl, trivial⟩ rfl ?_
        refine Ch.callH (FC.split (he)) [1] 5 (by exact gdT rfl rfl) (by repeat (first | exact EvL.nil | (apply EvL.cons; exact rfl))) (by exact (And.intro (by first | exact .rfl _ | exact .untip _ _ _ | exact .nil | exact .func _ | exact AV.wk.sh (renL_s _ _) | exact AV.wk.tip rfl (by first | exact renL_b _ _ | exact renL_s _ _ | exact renL_i _ _ | exact renL_w _ _) | exact AV.wk.sh (by simp; first | done | fail)) trivial)) rfl rfl (by decide) (by decide) (by first | ((conv => lhs; simp only [AV.ren, AV.renL, AO.ren, renL_b, renL_s, renL_w, renL_i, renL_append, ren_b, ren_s, ren_w, ren_i, pi_n, pi_0, pi_s, pi_1, pi_2, pi_3, pi_4, chOld, chNew, nuNew, hpl, Option.map_some, Option.map_none, List.length_cons, List.length_nil, List.take_succ_cons, List.take_zero, List.take_nil, List.drop_succ_cons, List.drop_zero, List.drop_nil, List.cons_append, List.nil_append, Nat.zero_add, Nat.add_zero, Nat.reduceAdd]); all_goals rfl) | rfl) (by first | ((conv => lhs; simp only [AV.ren, AV.renL, AO.ren, renL_b, renL_s, renL_w, renL_i, renL_append, ren_b, ren_s, ren_w, ren_i, pi_n, pi_0, pi_s, pi_1, pi_2, pi_3, pi_4, chOld, chNew, nuNew, hpl, Option.map_some, Option.map_none, List.length_cons, List.length_nil, List.take_succ_cons, List.take_zero, List.take_nil, List.drop_succ_cons, List.drop_zero, List.drop_nil, List.cons_append, List.nil_append, Nat.zero_add, Nat.add_zero, Nat.reduceAdd]); all_goals rfl) | rfl) (by first | ((conv => lhs; simp only [AV.ren, AV.renL, AO.ren, renL_b, renL_s, renL_w, renL_i, renL_append, ren_b, ren_s, ren_w, ren_i, pi_n, pi_0, pi_s, pi_1, pi_2, pi_3, pi_4, chOld, chNew, nuNew, hpl, Option.map_some, Option.map_none, List.length_cons, List.length_nil, List.take_succ_cons, List.take_zero, List.take_nil, List.drop_succ_cons, List.drop_zero, List.drop_nil, List.cons_append, List.nil_append, Nat.zero_add, Nat.add_zero, Nat.reduceAdd]); all_goals rfl) | rfl) (by first | ((conv => lhs; simp only [AV.ren, AV.renL, AO.ren, renL_b, renL_s, renL_w, renL_i, renL_append, ren_b, ren_s, ren_w, ren_i, pi_n, pi_0, pi_s, pi_1, pi_2, pi_3, pi_4, chOld, chNew, nuNew, hpl, Option.map_some, Option.map_none, List.length_cons, List.length_nil, List.take_succ_cons, List.take_zero, List.take_nil, List.drop_succ_cons, List.drop_zero, List.drop_nil, List.cons_append, List.nil_append, Nat.zero_add, Nat.add_zero, Nat.reduceAdd]); all_goals rfl) | rfl) (by first | exact trivial | exact ⟨rfl, trivial⟩ | exact ⟨rfl, rfl, trivial⟩ | exact ⟨rfl, rfl, rfl, trivial⟩ | exact ⟨rfl, rfl, rfl, rfl, trivial⟩) (by first | exact trivial | exact ⟨rfl, trivial⟩ | exact ⟨rfl, rfl, trivial⟩ | exact ⟨rfl, rfl, rfl, trivial⟩ | exact ⟨rfl, rfl, rfl, rfl, trivial⟩) rfl ?_
        refine Ch.pu (by exact gdT rfl rfl) (by exact ⟨rfl, trivial⟩) (OpS.not) trivial rfl ?_
        refine Ch.pu gdN (by first | exact ⟨rfl, rfl, trivial⟩ | exact ⟨rfl, rfl, rfl, trivial⟩) (OpS.pickF) trivial rfl ?_
        refine Ch.mv rfl rfl ?_
        refine Ch.pu (by exact gdT rfl rfl) (by exact ⟨rfl, trivial⟩) (OpS.move) trivial rfl ?_
        refine Ch.pu (by exact gdT rfl rfl) (by exact ⟨rfl, trivial⟩) (OpS.move) trivial rfl ?_
        refine Ch.pu (by exact gdT rfl rfl) (by exact ⟨rfl, rfl, trivial⟩) (OpS.shl1u (by omega)) (by first | exact trivial | exact ⟨rfl, trivial⟩) rfl ?_
        refine Ch.pu (by exact gdT rfl rfl) (by exact ⟨rfl, rfl, trivial⟩) (OpS.int (op := .geq) (v' := .bool false) rfl (by exact congrArg Value.bool (decide_eq_false (by omega)))) trivial rfl ?_
        refine Ch.pu gdN (by first | exact ⟨rfl, rfl, trivial⟩ | exact ⟨rfl, rfl, rfl, trivial⟩) (OpS.pickF) trivial rfl ?_
        refine Ch.nil ?_
        refine WP.cond_false rfl ?_
        refine WP.skip ?_
        have h32 : ∀ x ∈ pa, x.length = 32 := by have := rdP_32 f0 (l2, b2) m; rw [hP] at this; exact this rfl
        have hsl : s.length ≤ 160 := by have := rdText_le 160 (l1, b1); rw [hr2] at this; exact this
        have hfr := from_fc hm s msg (by omega) hv
        have hcl := climb_fc hm (fromT s msg) (nn.toNat : Int) pa (by omega) (MidC.of32 (Nat.le_trans (fromT_len s msg) (by decide)) h32) (by omega)
        rw [show climbT (fromT s msg) (nn.toNat : Int) pa = climbL (fromT s msg) nn.toNat pa by unfold climbT; rw [Int.toNat_natCast], hpm] at hcl
        refine WP.from (SEnt.frzA (t := 13) (id := 4) rfl rfl) ?_
        refine WP.rsD (by kernel_rfl) hG ?_
        refine Ch.mv rfl rfl ?_
        refine Ch.mv rfl rfl ?_
        refine Ch.callP (hfr) gdN (by repeat (first | exact EvL.nil | (apply EvL.cons; exact rfl))) (by exact (And.intro (by first | exact .rfl _ | exact .untip _ _ _ | exact .nil | exact .func _ | exact AV.wk.sh (renL_s _ _) | exact AV.wk.sh (by simp; first | done | fail)) (And.intro (by first | exact .rfl _ | exact .untip _ _ _ | exact .nil | exact .func _ | exact AV.wk.sh (renL_s _ _) | exact AV.wk.sh (by simp; first | done | fail)) trivial))) (by rfl) rfl ?_
        refine Ch.mv rfl rfl ?_
        refine Ch.pu gdN (by exact ⟨rfl, trivial⟩) (OpS.conv rfl rfl (by first | exact cv_u32_u8 _ | exact cv_u64_u8 _ | exact cv_i64_u8 _ | exact cv_u8_u32 _ | exact cv_u8_u64 _ | exact cv_u32_u64 _ | exact cv_u64_u32 _ | exact cv_u8_u8 _ | exact cv_u32_u32 _ | exact cv_u64_u64 _ | exact wr64 (by omega) | exact cv_u64_nat _ | exact cv_u32_nat _ | exact cv_u8_nat _ | exact rfl)) trivial rfl ?_
        refine Ch.mv rfl rfl ?_
        refine Ch.callP (hcl) gdN (by repeat (first | exact EvL.nil | (apply EvL.cons; exact rfl))) (by exact (And.intro (by first | exact .rfl _ | exact .untip _ _ _ | exact .nil | exact .func _ | exact AV.wk.sh (renL_s _ _) | exact AV.wk.sh (by simp; first | done | fail)) (And.intro (by first | exact .rfl _ | exact .untip _ _ _ | exact .nil | exact .func _ | exact AV.wk.sh (renL_s _ _) | exact AV.wk.sh (by simp; first | done | fail)) (And.intro (by first | exact .rfl _ | exact .untip _ _ _ | exact .nil | exact .func _ | exact AV.wk.sh (renL_s _ _) | exact AV.wk.sh (by simp; first | done | fail)) trivial)))) (by rfl) rfl ?_
        refine Ch.mv rfl rfl ?_
        refine Ch.pu gdN (by exact ⟨rfl, rfl, trivial⟩) (OpS.sliceSl (m' := 8) (l := pub) rfl rfl (by decide) (by omega)) trivial rfl ?_
        refine Ch.pu gdN (by exact ⟨rfl, rfl, trivial⟩) (OpS.strEqB (c := decide (climbL (fromT s msg) nn.toNat pa = pub.drop 8)) rfl) trivial rfl ?_
        refine Ch.asg rfl rfl ?_
        refine Ch.nilD ?_ (by kernel_rfl)
        exact WP.ret (Ret.one rfl (.of_eq (by rw [verF_t hs]; rfl)) trivial hnA)
theorem verify_fc (hm : ShaIn G) (pub msg sig : Txt) (hl : sig.length ≤ 9223372036854775807) (hv : msg.length ≤ 140737488355264) :
    FC Tryd.prog G 19 [sA pub, sA msg, sA sig] [] (.v (.bool (verifyT pub msg sig))) [] := by
  unfold verifyT
  split
  · rename_i h
    exact verify40_fc pub msg sig h
  · rename_i h
    split
    · rename_i h7
      exact verifyH_fc pub msg sig _ (by omega) rfl h7
    · rename_i h7
      exact verifyY_fc hm pub msg sig _ (by omega) rfl (by omega) hl hv
end
end Go.Proofs.YtcojfnjpcpochaaDoor.E
end
section
namespace Go.Proofs.YtcojfnjpcpochaaDoor.V
noncomputable def force {α : Type} (x : Nat) (k : Nat → α) : α := Nat.rec (motive := fun _ => α) (k 0) (fun n _ => k (Nat.succ n)) x
theorem force_eq {α : Type} (x : Nat) (k : Nat → α) : force x k = k x := by cases x <;> rfl
def dblF (x : Nat) : Nat := Nat.mul x 4294967297
def S1F (y : Nat) : Nat := Nat.mod (Nat.xor (Nat.xor (Nat.shiftRight y 6) (Nat.shiftRight y 11)) (Nat.shiftRight y 25)) 4294967296
def S0F (y : Nat) : Nat := Nat.mod (Nat.xor (Nat.xor (Nat.shiftRight y 2) (Nat.shiftRight y 13)) (Nat.shiftRight y 22)) 4294967296
def s0F (x y : Nat) : Nat := Nat.xor (Nat.mod (Nat.xor (Nat.shiftRight y 7) (Nat.shiftRight y 18)) 4294967296) (Nat.shiftRight x 3)
def s1F (x y : Nat) : Nat := Nat.xor (Nat.mod (Nat.xor (Nat.shiftRight y 17) (Nat.shiftRight y 19)) 4294967296) (Nat.shiftRight x 10)
def chF (e f g : Nat) : Nat := Nat.xor (Nat.land e f) (Nat.land (Nat.sub 4294967295 e) g)
def majF (a b c : Nat) : Nat := Nat.xor (Nat.xor (Nat.land a b) (Nat.land a c)) (Nat.land b c)
theorem ror_nat (x : UInt32) (n : Nat) (h0 : 0 < n) (h : n < 32) : (ror x n).toNat = (x.toNat * 4294967297) >>> n % 4294967296 := by
  have hx := x.toNat_lt
  unfold ror shl32 shr32
  rw [UInt32.toNat_or, UInt32.toNat_ofNat', UInt32.toNat_ofNat', Nat.shiftRight_eq_div_pow]
  have hp : (2 : Nat) ^ 32 = 2 ^ (32 - n) * 2 ^ n := by rw [← Nat.pow_add]; congr 1; omega
  have hpn : 0 < (2 : Nat) ^ n := Nat.pow_pos (by decide)
  have hq : 0 < (2 : Nat) ^ (32 - n) := Nat.pow_pos (by decide)
  have hd : x.toNat / 2 ^ n < 2 ^ (32 - n) := by
    rw [Nat.div_lt_iff_lt_mul hpn, ← hp]
    exact hx
  have hle : (2 : Nat) ^ (32 - n) ≤ 2 ^ 32 := Nat.pow_le_pow_right (by decide) (by omega)
  have e1 : x.toNat * 2 ^ (32 - n) % 2 ^ 32 = 2 ^ (32 - n) * (x.toNat % 2 ^ n) := by
    rw [hp, Nat.mul_comm x.toNat, Nat.mul_mod_mul_left]
  have e2 : x.toNat / 2 ^ n % 2 ^ 32 = x.toNat / 2 ^ n := Nat.mod_eq_of_lt (by omega)
  rw [e1, e2, ← Nat.two_pow_add_eq_or_of_lt hd]
  have e3 : x.toNat * 4294967297 = x.toNat + 2 ^ n * (2 ^ (32 - n) * x.toNat) := by
    rw [← Nat.mul_assoc, Nat.mul_comm (2 ^ n), ← hp]
    omega
  have e6 : 2 ^ (32 - n) * x.toNat = 2 ^ (32 - n) * (x.toNat % 2 ^ n) + 2 ^ 32 * (x.toNat / 2 ^ n) := by
    conv => lhs; rw [← Nat.mod_add_div x.toNat (2 ^ n)]
    rw [Nat.mul_add, ← Nat.mul_assoc, ← hp]
  have hm : x.toNat % 2 ^ n < 2 ^ n := Nat.mod_lt _ hpn
  have hm2 : 2 ^ (32 - n) * (x.toNat % 2 ^ n) + 2 ^ (32 - n) ≤ 2 ^ 32 := by
    rw [hp, ← Nat.mul_succ]
    exact Nat.mul_le_mul_left _ hm
  rw [e3, Nat.add_mul_div_left _ _ hpn, show (4294967296 : Nat) = 2 ^ 32 from rfl, e6, ← Nat.add_assoc, Nat.add_mul_mod_self_left, Nat.add_comm (x.toNat / 2 ^ n)]
  exact (Nat.mod_eq_of_lt (by omega)).symm
theorem shr_nat (x : UInt32) (n : Nat) : (shr32 x n).toNat = x.toNat >>> n := by
  unfold shr32
  have hx := x.toNat_lt
  have := Nat.div_le_self x.toNat (2 ^ n)
  rw [UInt32.toNat_ofNat', Nat.shiftRight_eq_div_pow]
  exact Nat.mod_eq_of_lt (by omega)
theorem xmod (a b : Nat) : (a ^^^ b) % 4294967296 = a % 4294967296 ^^^ b % 4294967296 := Nat.xor_mod_two_pow (n := 32)
theorem S1_nat (x : UInt32) : (ror x 6 ^^^ ror x 11 ^^^ ror x 25).toNat = S1F (dblF x.toNat) := by
  rw [UInt32.toNat_xor, UInt32.toNat_xor, ror_nat x 6 (by decide) (by decide), ror_nat x 11 (by decide) (by decide), ror_nat x 25 (by decide) (by decide), ← xmod, ← xmod]
  rfl
theorem S0_nat (x : UInt32) : (ror x 2 ^^^ ror x 13 ^^^ ror x 22).toNat = S0F (dblF x.toNat) := by
  rw [UInt32.toNat_xor, UInt32.toNat_xor, ror_nat x 2 (by decide) (by decide), ror_nat x 13 (by decide) (by decide), ror_nat x 22 (by decide) (by decide), ← xmod, ← xmod]
  rfl
theorem s0_nat (x : UInt32) : (sig0 x).toNat = s0F x.toNat (dblF x.toNat) := by
  unfold sig0
  rw [UInt32.toNat_xor, UInt32.toNat_xor, ror_nat x 7 (by decide) (by decide), ror_nat x 18 (by decide) (by decide), shr_nat, ← xmod]
  rfl
theorem s1_nat (x : UInt32) : (sig1 x).toNat = s1F x.toNat (dblF x.toNat) := by
  unfold sig1
  rw [UInt32.toNat_xor, UInt32.toNat_xor, ror_nat x 17 (by decide) (by decide), ror_nat x 19 (by decide) (by decide), shr_nat, ← xmod]
  rfl
theorem ch_nat (e f g : UInt32) : (e &&& f ^^^ ~~~e &&& g).toNat = chF e.toNat f.toNat g.toNat := by
  rw [UInt32.toNat_xor, UInt32.toNat_and, UInt32.toNat_and, UInt32.toNat_not]
  rfl
theorem maj_nat (a b c : UInt32) : (a &&& b ^^^ a &&& c ^^^ b &&& c).toNat = majF a.toNat b.toNat c.toNat := by
  rw [UInt32.toNat_xor, UInt32.toNat_xor, UInt32.toNat_and, UInt32.toNat_and, UInt32.toNat_and]
  rfl
def tF (e f g h k w : Nat) : Nat := Nat.add (Nat.add (Nat.add (Nat.add h (S1F (dblF e))) (chF e f g)) k) w
def eF (d t : Nat) : Nat := Nat.mod (Nat.add d t) 4294967296
def aF (a b c t : Nat) : Nat := Nat.mod (Nat.add t (Nat.add (S0F (dblF a)) (majF a b c))) 4294967296
def nF (w0 w1 w9 w14 : Nat) : Nat := Nat.mod (Nat.add (Nat.add (Nat.add w0 (s0F w1 (dblF w1))) w9) (s1F w14 (dblF w14))) 4294967296
theorem e_nat (s : St) (k w : UInt32) : (rnd s (k + w)).e.toNat = eF s.d.toNat (tF s.e.toNat s.f.toNat s.g.toNat s.h.toNat k.toNat w.toNat) := by
  show (s.d + (s.h + (ror s.e 6 ^^^ ror s.e 11 ^^^ ror s.e 25) + (s.e &&& s.f ^^^ ~~~s.e &&& s.g) + (k + w))).toNat = _
  simp only [UInt32.toNat_add, S1_nat, ch_nat]
  show _ = (s.d.toNat + (s.h.toNat + S1F (dblF s.e.toNat) + chF s.e.toNat s.f.toNat s.g.toNat + k.toNat + w.toNat)) % 4294967296
  generalize S1F (dblF s.e.toNat) = x
  generalize chF s.e.toNat s.f.toNat s.g.toNat = y
  omega
theorem a_nat (s : St) (k w : UInt32) : (rnd s (k + w)).a.toNat = aF s.a.toNat s.b.toNat s.c.toNat (tF s.e.toNat s.f.toNat s.g.toNat s.h.toNat k.toNat w.toNat) := by
  show ((s.h + (ror s.e 6 ^^^ ror s.e 11 ^^^ ror s.e 25) + (s.e &&& s.f ^^^ ~~~s.e &&& s.g) + (k + w)) + ((ror s.a 2 ^^^ ror s.a 13 ^^^ ror s.a 22) + (s.a &&& s.b ^^^ s.a &&& s.c ^^^ s.b &&& s.c))).toNat = _
  simp only [UInt32.toNat_add, S1_nat, ch_nat, S0_nat, maj_nat]
  show _ = ((s.h.toNat + S1F (dblF s.e.toNat) + chF s.e.toNat s.f.toNat s.g.toNat + k.toNat + w.toNat) + (S0F (dblF s.a.toNat) + majF s.a.toNat s.b.toNat s.c.toNat)) % 4294967296
  generalize S1F (dblF s.e.toNat) = x
  generalize chF s.e.toNat s.f.toNat s.g.toNat = y
  generalize S0F (dblF s.a.toNat) = z
  generalize majF s.a.toNat s.b.toNat s.c.toNat = u
  omega
def wd (blk : List UInt8) (i : Nat) : UInt32 := lget (sched blk (i + 1)) i
theorem wd_get (blk : List UInt8) (i : Nat) : ∀ m, i < m → lget (sched blk m) i = wd blk i := by
  intro m hm
  obtain ⟨k, rfl⟩ : ∃ k, m = i + 1 + k := ⟨m - (i + 1), by omega⟩
  clear hm
  induction k with
  | zero => rfl
  | succ k ih =>
    rw [← ih]
    show lget (sched blk (i + 1 + k) ++ [nxt blk (sched blk (i + 1 + k))]) i = _
    unfold lget
    rw [List.getElem?_append_left (by rw [sched_length]; omega)]
theorem wd_nxt (blk : List UInt8) (n : Nat) : wd blk n = nxt blk (sched blk n) := by
  show lget (sched blk n ++ [nxt blk (sched blk n)]) n = _
  unfold lget
  rw [List.getElem?_append_right (by rw [sched_length]; exact Nat.le_refl _), sched_length, Nat.sub_self]
  rfl
theorem wd_low (blk : List UInt8) (n : Nat) (h : n < 16) : wd blk n = wordOf (blk.drop (4 * n)) := by
  rw [wd_nxt]
  unfold nxt
  rw [sched_length, if_pos h]
theorem wd_high (blk : List UInt8) (n : Nat) : wd blk (n + 16) = wd blk n + sig0 (wd blk (n + 1)) + wd blk (n + 9) + sig1 (wd blk (n + 14)) := by
  rw [wd_nxt]
  unfold nxt
  rw [sched_length, if_neg (by omega), wd_get blk _ _ (by omega), wd_get blk _ _ (by omega), wd_get blk _ _ (by omega), wd_get blk _ _ (by omega), show n + 16 - 16 = n by omega, show n + 16 - 15 = n + 1 by omega, show n + 16 - 7 = n + 9 by omega, show n + 16 - 2 = n + 14 by omega]
theorem n_nat (blk : List UInt8) (n : Nat) : (wd blk (n + 16)).toNat = nF (wd blk n).toNat (wd blk (n + 1)).toNat (wd blk (n + 9)).toNat (wd blk (n + 14)).toNat := by
  rw [wd_high]
  simp only [UInt32.toNat_add, s0_nat, s1_nat]
  show _ = ((wd blk n).toNat + s0F (wd blk (n + 1)).toNat (dblF (wd blk (n + 1)).toNat) + (wd blk (n + 9)).toNat + s1F (wd blk (n + 14)).toNat (dblF (wd blk (n + 14)).toNat)) % 4294967296
  generalize s0F (wd blk (n + 1)).toNat (dblF (wd blk (n + 1)).toNat) = x
  generalize s1F (wd blk (n + 14)).toNat (dblF (wd blk (n + 14)).toNat) = y
  omega
noncomputable def goF (ks : List Nat) : Nat → Nat → Nat → Nat → Nat → Nat → Nat → Nat → Nat → Nat → Nat → Nat → Nat → Nat → Nat → Nat → Nat → Nat → Nat → Nat → Nat → Nat → Nat → Nat → St :=
  List.rec (motive := fun _ => Nat → Nat → Nat → Nat → Nat → Nat → Nat → Nat → Nat → Nat → Nat → Nat → Nat → Nat → Nat → Nat → Nat → Nat → Nat → Nat → Nat → Nat → Nat → Nat → St) (fun a b c d e f g h _ _ _ _ _ _ _ _ _ _ _ _ _ _ _ _ => ⟨UInt32.ofNat a, UInt32.ofNat b, UInt32.ofNat c, UInt32.ofNat d, UInt32.ofNat e, UInt32.ofNat f, UInt32.ofNat g, UInt32.ofNat h⟩)
    (fun k _ ih a b c d e f g h w0 w1 w2 w3 w4 w5 w6 w7 w8 w9 w10 w11 w12 w13 w14 w15 => force (tF e f g h k w0) fun t => force (eF d t) fun e2 => force (aF a b c t) fun a2 => force (nF w0 w1 w9 w14) fun w16 => ih a2 a b c e2 e f g w1 w2 w3 w4 w5 w6 w7 w8 w9 w10 w11 w12 w13 w14 w15 w16) ks
theorem goF_cons (k : Nat) (ks : List Nat) (a b c d e f g h w0 w1 w2 w3 w4 w5 w6 w7 w8 w9 w10 w11 w12 w13 w14 w15 : Nat) : goF (k :: ks) a b c d e f g h w0 w1 w2 w3 w4 w5 w6 w7 w8 w9 w10 w11 w12 w13 w14 w15 = goF ks (aF a b c (tF e f g h k w0)) a b c (eF d (tF e f g h k w0)) e f g w1 w2 w3 w4 w5 w6 w7 w8 w9 w10 w11 w12 w13 w14 w15 (nF w0 w1 w9 w14) := by
  have h : goF (k :: ks) a b c d e f g h w0 w1 w2 w3 w4 w5 w6 w7 w8 w9 w10 w11 w12 w13 w14 w15 = force (tF e f g h k w0) fun t => force (eF d t) fun e2 => force (aF a b c t) fun a2 => force (nF w0 w1 w9 w14) fun w16 => goF ks a2 a b c e2 e f g w1 w2 w3 w4 w5 w6 w7 w8 w9 w10 w11 w12 w13 w14 w15 w16 := rfl
  rw [h, force_eq, force_eq, force_eq, force_eq]
def kTabN : List Nat := kTab.map (·.toNat)
theorem goF_eq (v : St) (blk : List UInt8) : ∀ n t : Nat, t + n = 64 → goF ((kTab.drop t).map (·.toNat)) (rounds v (sched blk 64) t).a.toNat (rounds v (sched blk 64) t).b.toNat (rounds v (sched blk 64) t).c.toNat (rounds v (sched blk 64) t).d.toNat (rounds v (sched blk 64) t).e.toNat (rounds v (sched blk 64) t).f.toNat (rounds v (sched blk 64) t).g.toNat (rounds v (sched blk 64) t).h.toNat (wd blk (t + 0)).toNat (wd blk (t + 1)).toNat (wd blk (t + 2)).toNat (wd blk (t + 3)).toNat (wd blk (t + 4)).toNat (wd blk (t + 5)).toNat (wd blk (t + 6)).toNat (wd blk (t + 7)).toNat (wd blk (t + 8)).toNat (wd blk (t + 9)).toNat (wd blk (t + 10)).toNat (wd blk (t + 11)).toNat (wd blk (t + 12)).toNat (wd blk (t + 13)).toNat (wd blk (t + 14)).toNat (wd blk (t + 15)).toNat = rounds v (sched blk 64) 64
  | 0, t, h => by
    obtain rfl : t = 64 := by omega
    rw [List.drop_of_length_le (by decide)]
    show (⟨UInt32.ofNat (rounds v (sched blk 64) 64).a.toNat, UInt32.ofNat (rounds v (sched blk 64) 64).b.toNat, UInt32.ofNat (rounds v (sched blk 64) 64).c.toNat, UInt32.ofNat (rounds v (sched blk 64) 64).d.toNat, UInt32.ofNat (rounds v (sched blk 64) 64).e.toNat, UInt32.ofNat (rounds v (sched blk 64) 64).f.toNat, UInt32.ofNat (rounds v (sched blk 64) 64).g.toNat, UInt32.ofNat (rounds v (sched blk 64) 64).h.toNat⟩ : St) = _
    simp only [UInt32.ofNat_toNat]
  | n + 1, t, h => by
    have ht : t < kTab.length := by show t < 64; omega
    rw [List.drop_eq_getElem_cons ht, List.map_cons, goF_cons]
    have ih := goF_eq v blk n (t + 1) (by omega)
    have hr : rounds v (sched blk 64) (t + 1) = rnd (rounds v (sched blk 64) t) (kTab[t] + wd blk t) := by
      show rnd _ (lget kTab t + lget (sched blk 64) t) = _
      rw [wd_get blk t 64 (by omega)]
      unfold lget
      rw [List.getElem?_eq_getElem ht]
      rfl
    have ha := a_nat (rounds v (sched blk 64) t) kTab[t] (wd blk t)
    have he := e_nat (rounds v (sched blk 64) t) kTab[t] (wd blk t)
    rw [← hr] at ha he
    rw [← ih, ha, he, hr]
    have hn := n_nat blk t
    rw [show t + 1 + 15 = t + 16 by omega, hn]
    rw [show t + 1 + 0 = t + 1 by omega, show t + 1 + 1 = t + 2 by omega, show t + 1 + 2 = t + 3 by omega, show t + 1 + 3 = t + 4 by omega, show t + 1 + 4 = t + 5 by omega, show t + 1 + 5 = t + 6 by omega, show t + 1 + 6 = t + 7 by omega, show t + 1 + 7 = t + 8 by omega, show t + 1 + 8 = t + 9 by omega, show t + 1 + 9 = t + 10 by omega, show t + 1 + 10 = t + 11 by omega, show t + 1 + 11 = t + 12 by omega, show t + 1 + 12 = t + 13 by omega, show t + 1 + 13 = t + 14 by omega, show t + 1 + 14 = t + 15 by omega]
    rfl
noncomputable def mixedF (v : St) (blk : List UInt8) : St :=
  force (wordOf (blk.drop 0)).toNat fun w0 => force (wordOf (blk.drop 4)).toNat fun w1 => force (wordOf (blk.drop 8)).toNat fun w2 => force (wordOf (blk.drop 12)).toNat fun w3 => force (wordOf (blk.drop 16)).toNat fun w4 => force (wordOf (blk.drop 20)).toNat fun w5 => force (wordOf (blk.drop 24)).toNat fun w6 => force (wordOf (blk.drop 28)).toNat fun w7 => force (wordOf (blk.drop 32)).toNat fun w8 => force (wordOf (blk.drop 36)).toNat fun w9 => force (wordOf (blk.drop 40)).toNat fun w10 => force (wordOf (blk.drop 44)).toNat fun w11 => force (wordOf (blk.drop 48)).toNat fun w12 => force (wordOf (blk.drop 52)).toNat fun w13 => force (wordOf (blk.drop 56)).toNat fun w14 => force (wordOf (blk.drop 60)).toNat fun w15 => 
  v.add (goF kTabN v.a.toNat v.b.toNat v.c.toNat v.d.toNat v.e.toNat v.f.toNat v.g.toNat v.h.toNat w0 w1 w2 w3 w4 w5 w6 w7 w8 w9 w10 w11 w12 w13 w14 w15)
theorem mixed_fast (v : St) (blk : List UInt8) : mixed v blk = mixedF v blk := by
  have := goF_eq v blk 64 0 rfl
  unfold mixedF
  simp only [force_eq]
  unfold mixed
  rw [← this]
  simp only [Nat.zero_add]
  rw [wd_low blk 0 (by decide), wd_low blk 1 (by decide), wd_low blk 2 (by decide), wd_low blk 3 (by decide), wd_low blk 4 (by decide), wd_low blk 5 (by decide), wd_low blk 6 (by decide), wd_low blk 7 (by decide), wd_low blk 8 (by decide), wd_low blk 9 (by decide), wd_low blk 10 (by decide), wd_low blk 11 (by decide), wd_low blk 12 (by decide), wd_low blk 13 (by decide), wd_low blk 14 (by decide), wd_low blk 15 (by decide)]
  rfl
noncomputable def forceSt {α : Type} (s : St) (k : St → α) : α := force s.a.toNat fun a => force s.b.toNat fun b => force s.c.toNat fun c => force s.d.toNat fun d => force s.e.toNat fun e => force s.f.toNat fun f => force s.g.toNat fun g => force s.h.toNat fun h =>  k ⟨UInt32.ofNat a, UInt32.ofNat b, UInt32.ofNat c, UInt32.ofNat d, UInt32.ofNat e, UInt32.ofNat f, UInt32.ofNat g, UInt32.ofNat h⟩
theorem forceSt_eq {α : Type} (s : St) (k : St → α) : forceSt s k = k s := by
  unfold forceSt
  simp only [force_eq, UInt32.ofNat_toNat]
noncomputable def eatF (n : Nat) : St → List UInt8 → St := Nat.rec (motive := fun _ => St → List UInt8 → St) (fun v _ => v) (fun _ ih v l => forceSt (mixedF v (l.take 64)) fun u => ih u (l.drop 64)) n
theorem eat_fast : ∀ (n : Nat) (v : St) (l : List UInt8), eat n v l = eatF n v l
  | 0, _, _ => rfl
  | n + 1, v, l => by
    have h : eatF (n + 1) v l = forceSt (mixedF v (l.take 64)) fun u => eatF n u (l.drop 64) := rfl
    rw [h, forceSt_eq, ← mixed_fast, ← eat_fast n]
    rfl
noncomputable def forceL {α : Type} (l : List UInt8) : (List UInt8 → α) → α := List.rec (motive := fun _ => (List UInt8 → α) → α) (fun k => k []) (fun x _ ih k => force x.toNat fun n => ih fun r => k (UInt8.ofNat n :: r)) l
theorem forceL_eq {α : Type} : ∀ (l : List UInt8) (k : List UInt8 → α), forceL l k = k l
  | [], _ => rfl
  | x :: l, k => by
    have h : forceL (x :: l) k = force x.toNat fun n => forceL l fun r => k (UInt8.ofNat n :: r) := rfl
    rw [h, force_eq, show UInt8.ofNat x.toNat = x from UInt8.ofNat_toNat]
    exact forceL_eq l _
noncomputable def sumF (l : List UInt8) : List UInt8 := forceL l fun l => forceL (eatF ((l ++ pad l.length).length / 64) first (l ++ pad l.length)).text fun r => r
theorem sum_fast (l : List UInt8) : sum l = sumF l := by
  unfold sumF sum sumSt
  rw [forceL_eq, forceL_eq, eat_fast]
theorem tag_fast (d : UInt8) (ps : List (List UInt8)) : tag d ps = sumF (input d ps) := sum_fast _
end Go.Proofs.YtcojfnjpcpochaaDoor.V
end
section
namespace Go.Proofs.YtcojfnjpcpochaaDoor.V
noncomputable def wstepF (c a : Int) (v : Txw) : Txw := (sumF (input 2 [laidN c, laidN a, v])).take 16
theorem wstep_fast (c a : Int) (v : Txw) : wstep c a v = wstepF c a v := by
  unfold wstep wstepF
  rw [tag_fast]
noncomputable def walkNF (c : Int) (n : Nat) : Nat → Txw → Txw := Nat.rec (motive := fun _ => Nat → Txw → Txw) (fun _ v => v) (fun _ ih a v => forceL (wstepF c (a : Int) v) fun u => ih (Nat.succ a) u) n
theorem walkN_fast (c : Int) : ∀ (n a : Nat) (v : Txw), walkN c n (a : Int) v = walkNF c n a v
  | 0, _, _ => rfl
  | n + 1, a, v => by
    have h : walkNF c (n + 1) a v = forceL (wstepF c (a : Int) v) fun u => walkNF c n (Nat.succ a) u := rfl
    rw [h, forceL_eq, ← wstep_fast, ← walkN_fast c n]
    rfl
noncomputable def secretF (seed : Txw) (leaf c : Int) : Txw := (sumF (input 3 [seed, laidN leaf, laidN c])).take 16
theorem secret_fast (seed : Txw) (leaf c : Int) : secretT seed leaf c = secretF seed leaf c := by
  unfold secretT secretF
  rw [tag_fast]
theorem pubF_fast (seed : Txw) (leaf : Int) (c : Nat) : pubF seed leaf c = walkNF (c : Int) 15 0 (secretF seed leaf c) := by
  unfold pubF
  rw [secret_fast, ← walkN_fast]
  rfl
end Go.Proofs.YtcojfnjpcpochaaDoor.V
end
section
namespace Go.Proofs.YtcojfnjpcpochaaDoor.V
set_option maxRecDepth 100000
theorem dig_fast (m : Txw) : digitsT m = digitsD (sumF (input 1 [m])) := by unfold digitsT; rw [tag_fast]
theorem dig_m : digitsT [109] = [9, 8, 6, 7, 11, 12, 2, 11, 3, 6] := by rw [dig_fast]; decide +kernel
theorem dig_n : digitsT [110] = [4, 7, 5, 7, 7, 12, 11, 11, 3, 8] := by rw [dig_fast]; decide +kernel
theorem p0_0 : pubF [115] 0 0 = [215, 85, 34, 21, 86, 119, 150, 114, 152, 236, 87, 81, 128, 114, 134, 228] := by rw [pubF_fast]; decide +kernel
theorem p0_1 : pubF [115] 0 1 = [23, 21, 18, 215, 248, 159, 244, 147, 156, 99, 110, 6, 84, 10, 249, 201] := by rw [pubF_fast]; decide +kernel
theorem p0_2 : pubF [115] 0 2 = [99, 254, 27, 95, 6, 77, 118, 124, 103, 135, 207, 130, 71, 37, 153, 55] := by rw [pubF_fast]; decide +kernel
theorem p0_3 : pubF [115] 0 3 = [146, 192, 15, 66, 49, 100, 35, 56, 108, 27, 109, 34, 189, 207, 48, 33] := by rw [pubF_fast]; decide +kernel
theorem p0_4 : pubF [115] 0 4 = [208, 243, 152, 95, 57, 172, 243, 215, 216, 62, 46, 24, 93, 89, 132, 72] := by rw [pubF_fast]; decide +kernel
theorem p0_5 : pubF [115] 0 5 = [190, 24, 227, 189, 178, 22, 62, 76, 240, 247, 239, 102, 24, 184, 143, 215] := by rw [pubF_fast]; decide +kernel
theorem p0_6 : pubF [115] 0 6 = [175, 60, 127, 216, 66, 89, 219, 40, 155, 105, 69, 165, 117, 232, 236, 247] := by rw [pubF_fast]; decide +kernel
theorem p0_7 : pubF [115] 0 7 = [216, 240, 217, 139, 130, 124, 254, 80, 87, 140, 61, 210, 206, 225, 139, 118] := by rw [pubF_fast]; decide +kernel
theorem p0_8 : pubF [115] 0 8 = [252, 246, 14, 190, 40, 161, 152, 76, 192, 44, 211, 49, 100, 64, 246, 42] := by rw [pubF_fast]; decide +kernel
theorem p0_9 : pubF [115] 0 9 = [154, 79, 143, 200, 148, 101, 64, 30, 76, 15, 109, 176, 218, 184, 227, 211] := by rw [pubF_fast]; decide +kernel
theorem pub_0 : pubT [115] 0 = [4, 237, 173, 158, 204, 17, 37, 244, 122, 120, 182, 173, 173, 230, 101, 229, 95, 104, 25, 190, 174, 162, 149, 140, 8, 166, 239, 128, 0, 248, 149, 227] := by
  show tag 4 [pubF [115] 0 0, pubF [115] 0 1, pubF [115] 0 2, pubF [115] 0 3, pubF [115] 0 4, pubF [115] 0 5, pubF [115] 0 6, pubF [115] 0 7, pubF [115] 0 8, pubF [115] 0 9] = _
  rw [p0_0, p0_1, p0_2, p0_3, p0_4, p0_5, p0_6, p0_7, p0_8, p0_9, tag_fast]
  decide +kernel
theorem p1_0 : pubF [115] 1 0 = [72, 46, 70, 83, 127, 42, 219, 89, 42, 183, 3, 121, 86, 204, 37, 1] := by rw [pubF_fast]; decide +kernel
theorem p1_1 : pubF [115] 1 1 = [151, 0, 7, 3, 121, 56, 248, 96, 5, 73, 199, 16, 234, 73, 20, 135] := by rw [pubF_fast]; decide +kernel
theorem p1_2 : pubF [115] 1 2 = [139, 100, 147, 79, 247, 63, 140, 194, 171, 103, 200, 90, 48, 203, 217, 159] := by rw [pubF_fast]; decide +kernel
theorem p1_3 : pubF [115] 1 3 = [78, 10, 201, 40, 245, 87, 27, 17, 225, 112, 240, 201, 104, 232, 130, 146] := by rw [pubF_fast]; decide +kernel
theorem p1_4 : pubF [115] 1 4 = [26, 31, 133, 167, 239, 129, 66, 123, 212, 172, 158, 188, 122, 72, 49, 217] := by rw [pubF_fast]; decide +kernel
theorem p1_5 : pubF [115] 1 5 = [203, 218, 220, 227, 246, 23, 170, 135, 29, 121, 255, 33, 46, 73, 11, 50] := by rw [pubF_fast]; decide +kernel
theorem p1_6 : pubF [115] 1 6 = [96, 147, 226, 74, 152, 147, 108, 1, 246, 232, 102, 176, 114, 46, 61, 253] := by rw [pubF_fast]; decide +kernel
theorem p1_7 : pubF [115] 1 7 = [152, 191, 255, 151, 217, 12, 190, 103, 186, 37, 12, 33, 31, 105, 64, 183] := by rw [pubF_fast]; decide +kernel
theorem p1_8 : pubF [115] 1 8 = [44, 134, 159, 119, 209, 38, 6, 154, 1, 158, 1, 198, 78, 104, 171, 210] := by rw [pubF_fast]; decide +kernel
theorem p1_9 : pubF [115] 1 9 = [251, 176, 251, 61, 39, 73, 9, 48, 83, 25, 91, 183, 150, 208, 176, 54] := by rw [pubF_fast]; decide +kernel
theorem pub_1 : pubT [115] 1 = [215, 99, 77, 77, 111, 153, 117, 148, 52, 101, 14, 184, 198, 71, 24, 100, 69, 134, 62, 95, 129, 56, 99, 234, 138, 104, 102, 10, 236, 134, 156, 250] := by
  show tag 4 [pubF [115] 1 0, pubF [115] 1 1, pubF [115] 1 2, pubF [115] 1 3, pubF [115] 1 4, pubF [115] 1 5, pubF [115] 1 6, pubF [115] 1 7, pubF [115] 1 8, pubF [115] 1 9] = _
  rw [p1_0, p1_1, p1_2, p1_3, p1_4, p1_5, p1_6, p1_7, p1_8, p1_9, tag_fast]
  decide +kernel
theorem from_piece (c : Nat) (hc : c < 10) (a b : Nat) (ha : nget (digitsT [109]) c = a) (hb : nget (digitsT [110]) c = b) (ha' : a ≤ 15) (hb' : b ≤ 15) :
    fromF (signT [115] 0 [109]) (digitsT [110]) c = walkNF (c : Int) (15 - b) b (walkNF (c : Int) a 0 (secretF [115] 0 c)) := by
  have h1 : ((signT [115] 0 [109]).drop (16 * c)).take 16 = signF [115] 0 (digitsT [109]) c := joinL_piece _ (signF_length _ _ _) 10 c hc
  unfold fromF
  rw [h1, hb]
  unfold signF
  rw [ha, ← secret_fast]
  have e1 : walkT (c : Int) 0 (a : Int) (secretT [115] 0 c) = walkNF (c : Int) a 0 (secretT [115] 0 c) := by
    unfold walkT
    rw [if_neg (by omega), show ((a : Int) - 0).toNat = a by omega]
    exact walkN_fast (c : Int) a 0 _
  have e2 : ∀ v, walkT (c : Int) (b : Int) 15 v = walkNF (c : Int) (15 - b) b v := fun v => by
    unfold walkT
    rw [if_neg (by omega), show (15 - (b : Int)).toNat = 15 - b by omega]
    exact walkN_fast (c : Int) (15 - b) b v
  rw [e1, e2]
theorem x_0 : fromF (signT [115] 0 [109]) (digitsT [110]) 0 = [124, 177, 6, 223, 179, 58, 48, 159, 68, 22, 205, 162, 136, 75, 73, 252] := by
  rw [from_piece 0 (by decide) 9 4 (by rw [dig_m]; rfl) (by rw [dig_n]; rfl) (by decide) (by decide)]
  decide +kernel
theorem x_1 : fromF (signT [115] 0 [109]) (digitsT [110]) 1 = [40, 115, 64, 137, 233, 104, 56, 87, 165, 53, 222, 69, 183, 123, 63, 222] := by
  rw [from_piece 1 (by decide) 8 7 (by rw [dig_m]; rfl) (by rw [dig_n]; rfl) (by decide) (by decide)]
  decide +kernel
theorem x_2 : fromF (signT [115] 0 [109]) (digitsT [110]) 2 = [68, 106, 90, 248, 216, 50, 186, 138, 42, 33, 248, 80, 125, 200, 248, 122] := by
  rw [from_piece 2 (by decide) 6 5 (by rw [dig_m]; rfl) (by rw [dig_n]; rfl) (by decide) (by decide)]
  decide +kernel
theorem x_3 : fromF (signT [115] 0 [109]) (digitsT [110]) 3 = [146, 192, 15, 66, 49, 100, 35, 56, 108, 27, 109, 34, 189, 207, 48, 33] := by
  rw [from_piece 3 (by decide) 7 7 (by rw [dig_m]; rfl) (by rw [dig_n]; rfl) (by decide) (by decide)]
  decide +kernel
theorem x_4 : fromF (signT [115] 0 [109]) (digitsT [110]) 4 = [99, 89, 205, 66, 134, 134, 218, 246, 206, 163, 159, 131, 157, 35, 34, 160] := by
  rw [from_piece 4 (by decide) 11 7 (by rw [dig_m]; rfl) (by rw [dig_n]; rfl) (by decide) (by decide)]
  decide +kernel
theorem x_5 : fromF (signT [115] 0 [109]) (digitsT [110]) 5 = [190, 24, 227, 189, 178, 22, 62, 76, 240, 247, 239, 102, 24, 184, 143, 215] := by
  rw [from_piece 5 (by decide) 12 12 (by rw [dig_m]; rfl) (by rw [dig_n]; rfl) (by decide) (by decide)]
  decide +kernel
theorem x_6 : fromF (signT [115] 0 [109]) (digitsT [110]) 6 = [34, 8, 94, 56, 76, 244, 61, 167, 172, 73, 130, 21, 15, 102, 72, 211] := by
  rw [from_piece 6 (by decide) 2 11 (by rw [dig_m]; rfl) (by rw [dig_n]; rfl) (by decide) (by decide)]
  decide +kernel
theorem x_7 : fromF (signT [115] 0 [109]) (digitsT [110]) 7 = [216, 240, 217, 139, 130, 124, 254, 80, 87, 140, 61, 210, 206, 225, 139, 118] := by
  rw [from_piece 7 (by decide) 11 11 (by rw [dig_m]; rfl) (by rw [dig_n]; rfl) (by decide) (by decide)]
  decide +kernel
theorem x_8 : fromF (signT [115] 0 [109]) (digitsT [110]) 8 = [252, 246, 14, 190, 40, 161, 152, 76, 192, 44, 211, 49, 100, 64, 246, 42] := by
  rw [from_piece 8 (by decide) 3 3 (by rw [dig_m]; rfl) (by rw [dig_n]; rfl) (by decide) (by decide)]
  decide +kernel
theorem x_9 : fromF (signT [115] 0 [109]) (digitsT [110]) 9 = [194, 116, 87, 112, 27, 214, 156, 157, 109, 127, 226, 60, 10, 137, 134, 114] := by
  rw [from_piece 9 (by decide) 6 8 (by rw [dig_m]; rfl) (by rw [dig_n]; rfl) (by decide) (by decide)]
  decide +kernel
theorem x_all : fromT (signT [115] 0 [109]) [110] = [112, 114, 59, 246, 206, 243, 10, 178, 103, 191, 1, 89, 67, 125, 74, 137, 212, 165, 254, 243, 88, 36, 188, 80, 243, 126, 199, 131, 241, 187, 23, 105] := by
  unfold fromT
  rw [if_pos (signT_length _ _ _)]
  show tag 4 [fromF (signT [115] 0 [109]) (digitsT [110]) 0, fromF (signT [115] 0 [109]) (digitsT [110]) 1, fromF (signT [115] 0 [109]) (digitsT [110]) 2, fromF (signT [115] 0 [109]) (digitsT [110]) 3, fromF (signT [115] 0 [109]) (digitsT [110]) 4, fromF (signT [115] 0 [109]) (digitsT [110]) 5, fromF (signT [115] 0 [109]) (digitsT [110]) 6, fromF (signT [115] 0 [109]) (digitsT [110]) 7, fromF (signT [115] 0 [109]) (digitsT [110]) 8, fromF (signT [115] 0 [109]) (digitsT [110]) 9] = _
  rw [x_0, x_1, x_2, x_3, x_4, x_5, x_6, x_7, x_8, x_9, tag_fast]
  decide +kernel
theorem verify_no : verifyT (keyT [115] 1) [110] (sigT [115] 1 0 [109]) = false := by
  rw [verify_sig [115] 1 0 (by decide) (by decide)]
  refine decide_eq_false ?_
  have e1 : rootN 1 (leavesT [115] 1) = tag 5 [pubT [115] 0, pubT [115] 1] := rfl
  have e2 : pathN 1 (leavesT [115] 1) 0 = [pubT [115] 1] := rfl
  rw [e1, e2]
  show ¬ tag 5 [fromT (signT [115] 0 [109]) [110], pubT [115] 1] = _
  rw [x_all, pub_0, pub_1, tag_fast, tag_fast]
  decide +kernel
end Go.Proofs.YtcojfnjpcpochaaDoor.V
end
section
namespace Go.Proofs.YtcojfnjpcpochaaDoor.E
def pickW (c : Int) (n : Nat) : Nat := ((if c < 0 then -(c + 1) else c) % (n : Int)).toNat
end Go.Proofs.YtcojfnjpcpochaaDoor.E
end
