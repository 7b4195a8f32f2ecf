import Derived.Test.YtcojfnjpcpochaaDoorZ9f432c36
section
namespace Go.Proofs.YtcojfnjpcpochaaDoor.E
open Go Go.RowKit Go.Proofs.YtcojfnjpcpochaaDoor.V
attribute [local go_sem] B_size B_append B_extract mk_B B_toList take_drop_len List.length_drop List.length_take sgn32 sgn64 add32 sub32 mul32 add64 sub64 mul64 mul64_8 and32 or32 xor32 and64 or64 xor64 shl32_run shr32_run shl64_run shr64_run not32 not32' xor32_all w_u32_u8 w_u64_u8 w_i64_u8 w_u8_u32 w_u8_u64 w_u32_u64 w_u64_u32 w_u8_u8 w_u32_u32 w_u64_u64
attribute [local go_sem ↓] run_index_B' add32 sub32 mul32 add64 sub64 mul64 mul64_8 and32 or32 xor32 and64 or64 xor64 shl32_run shr32_run shl64_run shr64_run not32 not32' xor32_all w_u32_u8 w_u64_u8 w_i64_u8 w_u8_u32 w_u8_u64 w_u32_u64 w_u64_u32 w_u8_u8 w_u32_u32 w_u64_u64 w_u64_nat w_u32_nat w_u8_nat
set_option maxRecDepth 4000
theorem keyT_form (seed : Txt) (h : Nat) : beS (UInt64.ofNat h) 8 ++ rootN h (leavesT seed h) = keyT seed h := rfl
def sigP (seed : Txt) (h i : Nat) (msg : Txt) (m : Nat) : Txt := beS (UInt64.ofNat i) 8 ++ pieceT (signT seed (i : Int) msg) ++ (((pathN h (leavesT seed h) i).take m).map pieceT).flatten
theorem sigP_0 (seed : Txt) (h i : Nat) (msg : Txt) : sigP seed h i msg 0 = beS (UInt64.ofNat i) 8 ++ beS (UInt64.ofNat (signT seed (i : Int) msg).length) 4 ++ signT seed (i : Int) msg := by
  unfold sigP pieceT
  simp
theorem sigP_succ (seed : Txt) (h i : Nat) (msg : Txt) (m : Nat) (hm : m < (pathN h (leavesT seed h) i).length) : sigP seed h i msg (m + 1) = sigP seed h i msg m ++ beS (UInt64.ofNat (el (pathN h (leavesT seed h) i) m).length) 4 ++ el (pathN h (leavesT seed h) i) m := by
  have hx : el (pathN h (leavesT seed h) i) m = (pathN h (leavesT seed h) i)[m] := by unfold el; rw [List.getElem?_eq_getElem hm]; rfl
  unfold sigP
  rw [hx, List.take_add_one, List.getElem?_eq_getElem hm, Option.toList_some, List.map_append, List.flatten_append, ← List.append_assoc]
  show _ ++ (pieceT _ ++ []) = _
  rw [List.append_nil]
  unfold pieceT
  rw [← List.append_assoc]
theorem sigP_all (seed : Txt) (h i : Nat) (msg : Txt) : sigP seed h i msg h = sigT seed h i msg := by
  unfold sigP sigT
  rw [List.take_of_length_le (by rw [pathN_length]; exact Nat.le_refl _)]
theorem el_mem' {α : Type} [Inhabited α] (l : List α) (m : Nat) (h : m < l.length) : el l m ∈ l := by
  unfold el
  rw [List.getElem?_eq_getElem h]
  exact List.getElem_mem h
theorem sigP_len (seed : Txt) (h i : Nat) (msg : Txt) (hi : i < 2 ^ h) : ∀ m, m ≤ h → (sigP seed h i msg m).length = 172 + 36 * m
  | 0, _ => by rw [sigP_0, List.length_append, List.length_append, beS_length, beS_length, signT_length]
  | m + 1, hm => by
    have hl : m < (pathN h (leavesT seed h) i).length := by rw [pathN_length]; omega
    have h32 := pathN_mem h _ i (leavesT_length seed h) hi (leavesT_32 seed h) _ (el_mem' _ m hl)
    rw [sigP_succ seed h i msg m hl, List.length_append, List.length_append, sigP_len seed h i msg hi m (by omega), beS_length, h32]
    omega
attribute [local irreducible] sum tag input laidN wstep walkT secretT digitsT pubT signT fromT rootN pathN leavesT beS sigP sigT keyT
section
variable {G : List (Nat × Array Value)}
theorem sgSpent_fc (seed : Txt) (h n : Nat) (L : List Txt) : FC Tryd.prog G 14 [.ptr 0 0] (sgH seed h n L) (.v (.int .i64 (n : Int))) (sgH seed h n L) := by
  refine FC.of_wp [2] Tryd.func14 rfl rfl rfl rfl ⟨rfl, trivial⟩ (sg_bel _ rfl _ _ _ _) (by exact Nat.le_of_ble_eq_true rfl) ?_
  intro A hG hnA hAB
  unfold start
  refine WP.rs hG ?_
  refine Ch.asg rfl rfl ?_
  refine Ch.nil ?_
  refine WP.rs hG ?_
  refine Ch.mv rfl rfl ?_
  refine Ch.pu gdN (by exact ⟨rfl, trivial⟩) (OpS.nilCheckP) trivial rfl ?_
  refine Ch.pu gdN (by exact ⟨rfl, trivial⟩) (OpS.fieldAddr rfl rfl rfl rfl) trivial rfl ?_
  refine Ch.pu gdN (by exact ⟨rfl, trivial⟩) (OpS.loadP rfl rfl rfl) ⟨rfl, trivial⟩ rfl ?_
  refine Ch.asg rfl rfl ?_
  refine Ch.nil ?_
  refine WP.ret ?_
  refine (Ret.of (rs := [2]) (vs := [.v (.int .i64 (n : Int))]) (H' := sgH seed h n L) (res := .v (.int .i64 (n : Int))) [0, 1] ?_ ?_ rfl ?_ (by simp only [List.length_cons, List.length_nil]; decide) ?_).1
  · exact (fun i hi => by rw [hnA] at hi; simp only [List.length_cons, List.length_nil] at hi ⊢; first | exact absurd hi (Nat.not_lt_zero _) | (revert i; decide))
  · (repeat (first | exact trivial | (refine And.intro ⟨(by first | trivial | (simp; first | done | fail) | exact ⟨trivial, hbel _⟩), _, rfl, (by first | exact .rfl _ | exact .nil | exact .of_eq (by simp; first | done | fail) | exact AV.wk.sh (by simp; first | done | fail) | exact .untip _ _ _)⟩ ?_)))
  · (repeat (first | exact trivial | refine HFromL.skip ?_ | (refine And.intro ⟨(by first | trivial | (simp; first | done | fail) | exact ⟨trivial, hbel _⟩), (by first | rfl | (simp; first | done | fail))⟩ ?_)))
  · rfl
theorem sgPublic_fc (hm : ShaIn G) (seed : Txt) (h n : Nat) (hh : h ≤ 7) : FC Tryd.prog G 16 [.ptr 0 0] (sgH seed h n (leavesT seed h)) (sA (keyT seed h)) (sgH seed h n (leavesT seed h)) := by
  have hw := wNum_fc (G := G) [] (UInt64.ofNat h) (by decide)
  have hb := wBytes_fc (G := G) (beS (UInt64.ofNat h) 8)
  have hr := rootY_fc hm (leavesT seed h) h hh (leavesT_length seed h) (Mid.of32 (leavesT_32 seed h))
  have hl8 := beS_length (UInt64.ofNat h) 8
  have hrl := rootN_length h _ (leavesT_length seed h) (leavesT_32 seed h)
  have hk := keyT_form seed h
  refine FC.of_wp [2] Tryd.func16 rfl rfl rfl rfl ⟨rfl, trivial⟩ (sg_bel _ rfl _ _ _ _) (by exact Nat.le_of_ble_eq_true rfl) ?_
  intro A hG hnA hAB
  unfold start
  refine WP.rs hG ?_
  refine Ch.asg rfl rfl ?_
  refine Ch.nil ?_
  refine WP.rs hG ?_
  refine Ch.callH (FC.split (newWriter_fc)) [] 2 gdN (by repeat (first | exact EvL.nil | (apply EvL.cons; exact rfl))) (by exact trivial) rfl rfl (by decide) (by decide) (by first | ((conv => lhs; simp only [AV.ren, AV.renL, AO.ren, renL_b, renL_s, renL_w, renL_i, renL_append, ren_b, ren_s, ren_w, ren_i, pi_n, pi_0, pi_s, pi_1, pi_2, pi_3, pi_4, chOld, chNew, nuNew, hpl, Option.map_some, Option.map_none, List.length_cons, List.length_nil, List.take_succ_cons, List.take_zero, List.take_nil, List.drop_succ_cons, List.drop_zero, List.drop_nil, List.cons_append, List.nil_append, Nat.zero_add, Nat.add_zero, Nat.reduceAdd]); all_goals rfl) | rfl) (by first | ((conv => lhs; simp only [AV.ren, AV.renL, AO.ren, renL_b, renL_s, renL_w, renL_i, renL_append, ren_b, ren_s, ren_w, ren_i, pi_n, pi_0, pi_s, pi_1, pi_2, pi_3, pi_4, chOld, chNew, nuNew, hpl, Option.map_some, Option.map_none, List.length_cons, List.length_nil, List.take_succ_cons, List.take_zero, List.take_nil, List.drop_succ_cons, List.drop_zero, List.drop_nil, List.cons_append, List.nil_append, Nat.zero_add, Nat.add_zero, Nat.reduceAdd]); all_goals rfl) | rfl) (by first | ((conv => lhs; simp only [AV.ren, AV.renL, AO.ren, renL_b, renL_s, renL_w, renL_i, renL_append, ren_b, ren_s, ren_w, ren_i, pi_n, pi_0, pi_s, pi_1, pi_2, pi_3, pi_4, chOld, chNew, nuNew, hpl, Option.map_some, Option.map_none, List.length_cons, List.length_nil, List.take_succ_cons, List.take_zero, List.take_nil, List.drop_succ_cons, List.drop_zero, List.drop_nil, List.cons_append, List.nil_append, Nat.zero_add, Nat.add_zero, Nat.reduceAdd]); all_goals rfl) | rfl) (by first | ((conv => lhs; simp only [AV.ren, AV.renL, AO.ren, renL_b, renL_s, renL_w, renL_i, renL_append, ren_b, ren_s, ren_w, ren_i, pi_n, pi_0, pi_s, pi_1, pi_2, pi_3, pi_4, chOld, chNew, nuNew, hpl, Option.map_some, Option.map_none, List.length_cons, List.length_nil, List.take_succ_cons, List.take_zero, List.take_nil, List.drop_succ_cons, List.drop_zero, List.drop_nil, List.cons_append, List.nil_append, Nat.zero_add, Nat.add_zero, Nat.reduceAdd]); all_goals rfl) | rfl) (by first | exact trivial | exact ⟨rfl, trivial⟩ | exact ⟨rfl, rfl, trivial⟩ | exact ⟨rfl, rfl, rfl, trivial⟩ | exact ⟨rfl, rfl, rfl, rfl, trivial⟩) (by first | exact trivial | exact ⟨rfl, trivial⟩ | exact ⟨rfl, rfl, trivial⟩ | exact ⟨rfl, rfl, rfl, trivial⟩ | exact ⟨rfl, rfl, rfl, rfl, trivial⟩) rfl ?_
  refine Ch.asg rfl rfl ?_
  refine Ch.nil ?_
  refine WP.rs hG ?_
  refine Ch.mv rfl rfl ?_
  refine Ch.mv rfl rfl ?_
  refine Ch.pu gdN (by exact ⟨rfl, trivial⟩) (OpS.nilCheckP) trivial rfl ?_
  refine Ch.pu gdN (by exact ⟨rfl, trivial⟩) (OpS.fieldAddr rfl rfl rfl rfl) trivial rfl ?_
  refine Ch.pu gdN (by exact ⟨rfl, trivial⟩) (OpS.loadP rfl rfl rfl) ⟨rfl, trivial⟩ rfl ?_
  refine Ch.pu gdN (by exact ⟨rfl, trivial⟩) (OpS.conv rfl rfl (by first | exact cv_u32_u8 _ | exact cv_u64_u8 _ | exact cv_i64_u8 _ | exact cv_u8_u32 _ | exact cv_u8_u64 _ | exact cv_u32_u64 _ | exact cv_u64_u32 _ | exact cv_u8_u8 _ | exact cv_u32_u32 _ | exact cv_u64_u64 _ | exact wr64 (by omega) | exact cv_u64_nat _ | exact cv_u32_nat _ | exact cv_u8_nat _ | exact rfl)) trivial rfl ?_
  refine Ch.callH (FC.split (hw)) [2,3] 4 gdN (by repeat (first | exact EvL.nil | (apply EvL.cons; exact rfl))) (by exact (And.intro (by first | exact .rfl _ | exact .untip _ _ _ | exact .nil | exact .func _ | exact AV.wk.sh (renL_s _ _) | exact AV.wk.tip rfl (by first | exact renL_b _ _ | exact renL_s _ _ | exact renL_i _ _ | exact renL_w _ _) | exact AV.wk.sh (by simp; first | done | fail)) (And.intro (by first | exact .rfl _ | exact .untip _ _ _ | exact .nil | exact .func _ | exact AV.wk.sh (renL_s _ _) | exact AV.wk.tip rfl (by first | exact renL_b _ _ | exact renL_s _ _ | exact renL_i _ _ | exact renL_w _ _) | exact AV.wk.sh (by simp; first | done | fail)) trivial))) rfl rfl (by decide) (by decide) (by first | ((conv => lhs; simp only [AV.ren, AV.renL, AO.ren, renL_b, renL_s, renL_w, renL_i, renL_append, ren_b, ren_s, ren_w, ren_i, pi_n, pi_0, pi_s, pi_1, pi_2, pi_3, pi_4, chOld, chNew, nuNew, hpl, Option.map_some, Option.map_none, List.length_cons, List.length_nil, List.take_succ_cons, List.take_zero, List.take_nil, List.drop_succ_cons, List.drop_zero, List.drop_nil, List.cons_append, List.nil_append, Nat.zero_add, Nat.add_zero, Nat.reduceAdd]); all_goals rfl) | rfl) (by first | ((conv => lhs; simp only [AV.ren, AV.renL, AO.ren, renL_b, renL_s, renL_w, renL_i, renL_append, ren_b, ren_s, ren_w, ren_i, pi_n, pi_0, pi_s, pi_1, pi_2, pi_3, pi_4, chOld, chNew, nuNew, hpl, Option.map_some, Option.map_none, List.length_cons, List.length_nil, List.take_succ_cons, List.take_zero, List.take_nil, List.drop_succ_cons, List.drop_zero, List.drop_nil, List.cons_append, List.nil_append, Nat.zero_add, Nat.add_zero, Nat.reduceAdd]); all_goals rfl) | rfl) (by first | ((conv => lhs; simp only [AV.ren, AV.renL, AO.ren, renL_b, renL_s, renL_w, renL_i, renL_append, ren_b, ren_s, ren_w, ren_i, pi_n, pi_0, pi_s, pi_1, pi_2, pi_3, pi_4, chOld, chNew, nuNew, hpl, Option.map_some, Option.map_none, List.length_cons, List.length_nil, List.take_succ_cons, List.take_zero, List.take_nil, List.drop_succ_cons, List.drop_zero, List.drop_nil, List.cons_append, List.nil_append, Nat.zero_add, Nat.add_zero, Nat.reduceAdd]); all_goals rfl) | rfl) (by first | ((conv => lhs; simp only [AV.ren, AV.renL, AO.ren, renL_b, renL_s, renL_w, renL_i, renL_append, ren_b, ren_s, ren_w, ren_i, pi_n, pi_0, pi_s, pi_1, pi_2, pi_3, pi_4, chOld, chNew, nuNew, hpl, Option.map_some, Option.map_none, List.length_cons, List.length_nil, List.take_succ_cons, List.take_zero, List.take_nil, List.drop_succ_cons, List.drop_zero, List.drop_nil, List.cons_append, List.nil_append, Nat.zero_add, Nat.add_zero, Nat.reduceAdd]); all_goals rfl) | rfl) (by first | exact trivial | exact ⟨rfl, trivial⟩ | exact ⟨rfl, rfl, trivial⟩ | exact ⟨rfl, rfl, rfl, trivial⟩ | exact ⟨rfl, rfl, rfl, rfl, trivial⟩) (by first | exact trivial | exact ⟨rfl, trivial⟩ | exact ⟨rfl, rfl, trivial⟩ | exact ⟨rfl, rfl, rfl, trivial⟩ | exact ⟨rfl, rfl, rfl, rfl, trivial⟩) rfl ?_
  refine Ch.nil ?_
  refine WP.rsD (by kernel_rfl) hG ?_
  refine Ch.mv rfl rfl ?_
  refine Ch.callH (FC.split (hb)) [2,4] 5 gdN (by repeat (first | exact EvL.nil | (apply EvL.cons; exact rfl))) (by exact (And.intro (by first | exact .rfl _ | exact .untip _ _ _ | exact .nil | exact .func _ | exact AV.wk.sh (renL_s _ _) | exact AV.wk.tip rfl (by first | exact renL_b _ _ | exact renL_s _ _ | exact renL_i _ _ | exact renL_w _ _) | exact AV.wk.sh (by simp; first | done | fail)) trivial)) rfl rfl (by decide) (by decide) (by first | ((conv => lhs; simp only [AV.ren, AV.renL, AO.ren, renL_b, renL_s, renL_w, renL_i, renL_append, ren_b, ren_s, ren_w, ren_i, pi_n, pi_0, pi_s, pi_1, pi_2, pi_3, pi_4, chOld, chNew, nuNew, hpl, Option.map_some, Option.map_none, List.length_cons, List.length_nil, List.take_succ_cons, List.take_zero, List.take_nil, List.drop_succ_cons, List.drop_zero, List.drop_nil, List.cons_append, List.nil_append, Nat.zero_add, Nat.add_zero, Nat.reduceAdd]); all_goals rfl) | rfl) (by first | ((conv => lhs; simp only [AV.ren, AV.renL, AO.ren, renL_b, renL_s, renL_w, renL_i, renL_append, ren_b, ren_s, ren_w, ren_i, pi_n, pi_0, pi_s, pi_1, pi_2, pi_3, pi_4, chOld, chNew, nuNew, hpl, Option.map_some, Option.map_none, List.length_cons, List.length_nil, List.take_succ_cons, List.take_zero, List.take_nil, List.drop_succ_cons, List.drop_zero, List.drop_nil, List.cons_append, List.nil_append, Nat.zero_add, Nat.add_zero, Nat.reduceAdd]); all_goals rfl) | rfl) (by first | ((conv => lhs; simp only [AV.ren, AV.renL, AO.ren, renL_b, renL_s, renL_w, renL_i, renL_append, ren_b, ren_s, ren_w, ren_i, pi_n, pi_0, pi_s, pi_1, pi_2, pi_3, pi_4, chOld, chNew, nuNew, hpl, Option.map_some, Option.map_none, List.length_cons, List.length_nil, List.take_succ_cons, List.take_zero, List.take_nil, List.drop_succ_cons, List.drop_zero, List.drop_nil, List.cons_append, List.nil_append, Nat.zero_add, Nat.add_zero, Nat.reduceAdd]); all_goals rfl) | rfl) (by first | ((conv => lhs; simp only [AV.ren, AV.renL, AO.ren, renL_b, renL_s, renL_w, renL_i, renL_append, ren_b, ren_s, ren_w, ren_i, pi_n, pi_0, pi_s, pi_1, pi_2, pi_3, pi_4, chOld, chNew, nuNew, hpl, Option.map_some, Option.map_none, List.length_cons, List.length_nil, List.take_succ_cons, List.take_zero, List.take_nil, List.drop_succ_cons, List.drop_zero, List.drop_nil, List.cons_append, List.nil_append, Nat.zero_add, Nat.add_zero, Nat.reduceAdd]); all_goals rfl) | rfl) (by first | exact trivial | exact ⟨rfl, trivial⟩ | exact ⟨rfl, rfl, trivial⟩ | exact ⟨rfl, rfl, rfl, trivial⟩ | exact ⟨rfl, rfl, rfl, rfl, trivial⟩) (by first | exact trivial | exact ⟨rfl, trivial⟩ | exact ⟨rfl, rfl, trivial⟩ | exact ⟨rfl, rfl, rfl, trivial⟩ | exact ⟨rfl, rfl, rfl, rfl, trivial⟩) rfl ?_
  refine Ch.mv rfl rfl ?_
  refine Ch.pu gdN (by exact ⟨rfl, trivial⟩) (OpS.nilCheckP) trivial rfl ?_
  refine Ch.pu gdN (by exact ⟨rfl, trivial⟩) (OpS.fieldAddr rfl rfl rfl rfl) trivial rfl ?_
  refine Ch.pu gdN (by exact ⟨rfl, trivial⟩) (OpS.loadP rfl rfl rfl) ⟨rfl, trivial⟩ rfl ?_
  refine Ch.callP (hr) gdN (by repeat (first | exact EvL.nil | (apply EvL.cons; exact rfl))) (by exact (And.intro (by first | exact .rfl _ | exact .untip _ _ _ | exact .nil | exact .func _ | exact AV.wk.sh (renL_s _ _) | exact AV.wk.sh (by simp; first | done | fail)) trivial)) (by rfl) rfl ?_
  refine Ch.pu gdN (by exact ⟨rfl, rfl, trivial⟩) (OpS.strAdd (by omega)) trivial rfl ?_
  refine Ch.asg rfl rfl ?_
  refine Ch.nilD ?_ (by kernel_rfl)
  refine WP.ret ?_
  rw [← hk]
  refine (Ret.of (rs := [2]) (vs := [sA (beS (UInt64.ofNat h) 8 ++ rootN h (leavesT seed h))]) (H' := sgH seed h n (leavesT seed h)) (res := sA (beS (UInt64.ofNat h) 8 ++ rootN h (leavesT seed h))) [0, 1] ?_ ?_ rfl ?_ (by simp only [List.length_cons, List.length_nil]; decide) ?_).1
  · exact (fun i hi => by rw [hnA] at hi; simp only [List.length_cons, List.length_nil] at hi ⊢; first | exact absurd hi (Nat.not_lt_zero _) | (revert i; decide))
  · (repeat (first | exact trivial | (refine And.intro ⟨(by first | trivial | (simp; first | done | fail) | exact ⟨trivial, hbel _⟩), _, rfl, (by first | exact .rfl _ | exact .nil | exact .of_eq (by simp; first | done | fail) | exact AV.wk.sh (by simp; first | done | fail) | exact .untip _ _ _)⟩ ?_)))
  · (repeat (first | exact trivial | refine HFromL.skip ?_ | (refine And.intro ⟨(by first | trivial | (simp; first | done | fail) | exact ⟨trivial, hbel _⟩), (by first | rfl | (simp; first | done | fail))⟩ ?_)))
  · rfl
theorem sgSignNo_fc (seed : Txt) (h n : Nat) (L : List Txt) (msg : Txt) (hn : L.length ≤ n) : FC Tryd.prog G 12 [.ptr 0 0, sA msg] (sgH seed h n L) (.tup [sA [], .v (.int .i64 70)]) (sgH seed h n L) := by
  refine FC.of_wp [4, 5] Tryd.func12 rfl rfl rfl rfl ⟨rfl, trivial, trivial⟩ (sg_bel _ rfl _ _ _ _) (by exact Nat.le_of_ble_eq_true rfl) ?_
  intro A hG hnA hAB
  unfold start
  refine WP.rs hG ?_
  refine Ch.asg rfl rfl ?_
  refine Ch.asg rfl rfl ?_
  refine Ch.nil ?_
  refine WP.rs hG ?_
  refine Ch.mv rfl rfl ?_
  refine Ch.pu gdN (by exact ⟨rfl, trivial⟩) (OpS.nilCheckP) trivial rfl ?_
  refine Ch.pu gdN (by exact ⟨rfl, trivial⟩) (OpS.fieldAddr rfl rfl rfl rfl) trivial rfl ?_
  refine Ch.pu gdN (by exact ⟨rfl, trivial⟩) (OpS.loadP rfl rfl rfl) ⟨rfl, trivial⟩ rfl ?_
  refine Ch.asg rfl rfl ?_
  refine Ch.nil ?_
  refine WP.seq ?_
  refine WP.rs hG ?_
  refine Ch.mv rfl rfl ?_
  refine Ch.mv rfl rfl ?_
  refine Ch.pu gdN (by exact ⟨rfl, trivial⟩) (OpS.nilCheckP) trivial rfl ?_
  refine Ch.pu gdN (by exact ⟨rfl, trivial⟩) (OpS.fieldAddr rfl rfl rfl rfl) trivial rfl ?_
  refine Ch.pu gdN (by exact ⟨rfl, trivial⟩) (OpS.loadP rfl rfl rfl) ⟨rfl, trivial⟩ rfl ?_
  refine Ch.pu gdN (by exact ⟨rfl, trivial⟩) (OpS.len rfl) trivial rfl ?_
  refine Ch.pu gdN (by exact ⟨rfl, rfl, trivial⟩) (OpS.int (op := .geq) (v' := .bool true) rfl (by exact congrArg Value.bool (decide_eq_true (by omega)))) trivial rfl ?_
  refine Ch.nil ?_
  refine WP.cond_true rfl ?_
  refine WP.rs hG ?_
  refine Ch.asg rfl rfl ?_
  refine Ch.asg rfl rfl ?_
  refine Ch.nil ?_
  refine WP.ret ?_
  refine (Ret.of (rs := [4, 5]) (vs := [sA [], .v (.int .i64 70)]) (H' := sgH seed h n L) (res := .tup [sA [], .v (.int .i64 70)]) [0, 1] ?_ ?_ rfl ?_ (by simp only [List.length_cons, List.length_nil]; decide) ?_).1
  · exact (fun i hi => by rw [hnA] at hi; simp only [List.length_cons, List.length_nil] at hi ⊢; first | exact absurd hi (Nat.not_lt_zero _) | (revert i; decide))
  · (repeat (first | exact trivial | (refine And.intro ⟨(by first | trivial | (simp; first | done | fail) | exact ⟨trivial, hbel _⟩), _, rfl, (by first | exact .rfl _ | exact .nil | exact .of_eq (by simp; first | done | fail) | exact AV.wk.sh (by simp; first | done | fail) | exact .untip _ _ _)⟩ ?_)))
  · (repeat (first | exact trivial | refine HFromL.skip ?_ | (refine And.intro ⟨(by first | trivial | (simp; first | done | fail) | exact ⟨trivial, hbel _⟩), (by first | rfl | (simp; first | done | fail))⟩ ?_)))
  · exact ⟨_, rfl, rfl, by simp [ls, TsOk, List.zip, List.zipWith]⟩
theorem sgSign_fc (hm : ShaIn G) (seed : Txt) (h n : Nat) (hh : h ≤ 7) (msg : Txt) (hn : n < 2 ^ h) (hv : seed.length ≤ 140737488355264) (hv2 : msg.length ≤ 140737488355264) :
    FC Tryd.prog G 12 [.ptr 0 0, sA msg] (sgH seed h n (leavesT seed h)) (.tup [sA (sigT seed h n msg), .v (.int .i64 0)]) (sgH seed h (n + 1) (leavesT seed h)) := by
  have h128 := pw7 hh
  have hL := leavesT_length seed h
  have hw := wNum_fc (G := G) [] (UInt64.ofNat n) (by decide)
  have hs := sign_fc hm seed (n : Int) msg hv hv2
  have hsl := signT_length seed (n : Int) msg
  have hl8 := beS_length (UInt64.ofNat n) 8
  have hw2 := wText_fc (G := G) (beS (UInt64.ofNat n) 8) (signT seed (n : Int) msg) (by omega) (by omega)
  rw [← sigP_0 seed h n msg] at hw2
  have hpa := path_fc hm (leavesT seed h) (n : Int) (Mid.of32 (leavesT_32 seed h))
  rw [pathT_eq hh hL hn] at hpa
  have hpaL := pathN_length h (leavesT seed h) n
  have h32 := pathN_mem h _ n hL hn (leavesT_32 seed h)
  have hpl2 := sigP_len seed h n msg hn
  obtain ⟨p, hp⟩ : ∃ p, p = pathN h (leavesT seed h) n := ⟨_, rfl⟩
  have hsu := sigP_succ seed h n msg
  rw [← hp] at hpa hpaL h32 hsu
  have hb := wBytes_fc (G := G) (sigP seed h n msg h)
  have hal := sigP_all seed h n msg
  refine FC.of_wp [4, 5] Tryd.func12 rfl rfl rfl rfl ⟨rfl, trivial, trivial⟩ (sg_bel _ rfl _ _ _ _) (by exact Nat.le_of_ble_eq_true rfl) ?_
  intro A hG hnA hAB
  unfold start
  refine WP.rs hG ?_
  refine Ch.asg rfl rfl ?_
  refine Ch.asg rfl rfl ?_
  refine Ch.nil ?_
  refine WP.rs hG ?_
  refine Ch.mv rfl rfl ?_
  refine Ch.pu gdN (by exact ⟨rfl, trivial⟩) (OpS.nilCheckP) trivial rfl ?_
  refine Ch.pu gdN (by exact ⟨rfl, trivial⟩) (OpS.fieldAddr rfl rfl rfl rfl) trivial rfl ?_
  refine Ch.pu gdN (by exact ⟨rfl, trivial⟩) (OpS.loadP rfl rfl rfl) ⟨rfl, trivial⟩ rfl ?_
  refine Ch.asg rfl rfl ?_
  refine Ch.nil ?_
  refine WP.seq ?_
  refine WP.rs hG ?_
  refine Ch.mv rfl rfl ?_
  refine Ch.mv rfl rfl ?_
  refine Ch.pu gdN (by exact ⟨rfl, trivial⟩) (OpS.nilCheckP) trivial rfl ?_
  refine Ch.pu gdN (by exact ⟨rfl, trivial⟩) (OpS.fieldAddr rfl rfl rfl rfl) trivial rfl ?_
  refine Ch.pu gdN (by exact ⟨rfl, trivial⟩) (OpS.loadP rfl rfl rfl) ⟨rfl, trivial⟩ rfl ?_
  refine Ch.pu gdN (by exact ⟨rfl, trivial⟩) (OpS.len rfl) trivial rfl ?_
  refine Ch.pu gdN (by exact ⟨rfl, rfl, trivial⟩) (OpS.int (op := .geq) (v' := .bool false) rfl (by exact congrArg Value.bool (decide_eq_false (by omega)))) trivial rfl ?_
  refine Ch.nil ?_
  refine WP.cond_false rfl ?_
  refine WP.skip ?_
  refine WP.rs hG ?_
  refine Ch.mv rfl rfl ?_
  refine Ch.pu gdN (by exact ⟨rfl, trivial⟩) (OpS.nilCheckP) trivial rfl ?_
  refine Ch.pu gdN (by exact ⟨rfl, trivial⟩) (OpS.fieldAddr rfl rfl rfl rfl) trivial rfl ?_
  refine Ch.pu gdN (by exact ⟨rfl, trivial⟩) (OpS.loadP rfl rfl rfl) ⟨rfl, trivial⟩ rfl ?_
  refine Ch.pu gdN (by exact ⟨rfl, rfl, trivial⟩) (OpS.int (op := .add) (v' := .int .i64 ((n + 1 : Nat) : Int)) rfl (by rw [wr64 (by omega)]; exact congrArg (Value.int .i64) (by omega))) trivial rfl ?_
  refine Ch.pu gdN (by exact ⟨rfl, trivial⟩) (OpS.nilCheckP) trivial rfl ?_
  refine Ch.pu gdN (by exact ⟨rfl, trivial⟩) (OpS.fieldAddr rfl rfl rfl rfl) trivial rfl ?_
  refine Ch.wr gdN (by exact ⟨rfl, rfl, trivial⟩) (OpS.storeP (cs := sgC seed h n (leavesT seed h)) rfl rfl rfl (by simp)) (by first | exact trivial | exact ⟨rfl, trivial⟩) (by first | exact trivial | exact ⟨rfl, trivial⟩ | exact ⟨rfl, rfl, trivial⟩) ?_
  refine Ch.nil ?_
  refine WP.rs hG ?_
  refine Ch.callH (FC.split (newWriter_fc)) [] 2 gdN (by repeat (first | exact EvL.nil | (apply EvL.cons; exact rfl))) (by exact trivial) rfl rfl (by decide) (by decide) (by first | ((conv => lhs; simp only [AV.ren, AV.renL, AO.ren, renL_b, renL_s, renL_w, renL_i, renL_append, ren_b, ren_s, ren_w, ren_i, pi_n, pi_0, pi_s, pi_1, pi_2, pi_3, pi_4, chOld, chNew, nuNew, hpl, Option.map_some, Option.map_none, List.length_cons, List.length_nil, List.take_succ_cons, List.take_zero, List.take_nil, List.drop_succ_cons, List.drop_zero, List.drop_nil, List.cons_append, List.nil_append, Nat.zero_add, Nat.add_zero, Nat.reduceAdd]); all_goals rfl) | rfl) (by first | ((conv => lhs; simp only [AV.ren, AV.renL, AO.ren, renL_b, renL_s, renL_w, renL_i, renL_append, ren_b, ren_s, ren_w, ren_i, pi_n, pi_0, pi_s, pi_1, pi_2, pi_3, pi_4, chOld, chNew, nuNew, hpl, Option.map_some, Option.map_none, List.length_cons, List.length_nil, List.take_succ_cons, List.take_zero, List.take_nil, List.drop_succ_cons, List.drop_zero, List.drop_nil, List.cons_append, List.nil_append, Nat.zero_add, Nat.add_zero, Nat.reduceAdd]); all_goals rfl) | rfl) (by first | ((conv => lhs; simp only [AV.ren, AV.renL, AO.ren, renL_b, renL_s, renL_w, renL_i, renL_append, ren_b, ren_s, ren_w, ren_i, pi_n, pi_0, pi_s, pi_1, pi_2, pi_3, pi_4, chOld, chNew, nuNew, hpl, Option.map_some, Option.map_none, List.length_cons, List.length_nil, List.take_succ_cons, List.take_zero, List.take_nil, List.drop_succ_cons, List.drop_zero, List.drop_nil, List.cons_append, List.nil_append, Nat.zero_add, Nat.add_zero, Nat.reduceAdd]); all_goals rfl) | rfl) (by first | ((conv => lhs; simp only [AV.ren, AV.renL, AO.ren, renL_b, renL_s, renL_w, renL_i, renL_append, ren_b, ren_s, ren_w, ren_i, pi_n, pi_0, pi_s, pi_1, pi_2, pi_3, pi_4, chOld, chNew, nuNew, hpl, Option.map_some, Option.map_none, List.length_cons, List.length_nil, List.take_succ_cons, List.take_zero, List.take_nil, List.drop_succ_cons, List.drop_zero, List.drop_nil, List.cons_append, List.nil_append, Nat.zero_add, Nat.add_zero, Nat.reduceAdd]); all_goals rfl) | rfl) (by first | exact trivial | exact ⟨rfl, trivial⟩ | exact ⟨rfl, rfl, trivial⟩ | exact ⟨rfl, rfl, rfl, trivial⟩ | exact ⟨rfl, rfl, rfl, rfl, trivial⟩) (by first | exact trivial | exact ⟨rfl, trivial⟩ | exact ⟨rfl, rfl, trivial⟩ | exact ⟨rfl, rfl, rfl, trivial⟩ | exact ⟨rfl, rfl, rfl, rfl, trivial⟩) rfl ?_
  refine Ch.asg rfl rfl ?_
  refine Ch.nil ?_
  refine WP.rs hG ?_
  refine Ch.mv rfl rfl ?_
  refine Ch.mv rfl rfl ?_
  refine Ch.pu gdN (by exact ⟨rfl, trivial⟩) (OpS.conv rfl rfl (by first | exact cv_u32_u8 _ | exact cv_u64_u8 _ | exact cv_i64_u8 _ | exact cv_u8_u32 _ | exact cv_u8_u64 _ | exact cv_u32_u64 _ | exact cv_u64_u32 _ | exact cv_u8_u8 _ | exact cv_u32_u32 _ | exact cv_u64_u64 _ | exact wr64 (by omega) | exact cv_u64_nat _ | exact cv_u32_nat _ | exact cv_u8_nat _ | exact rfl)) trivial rfl ?_
  refine Ch.callH (FC.split (hw)) [2,3] 4 gdN (by repeat (first | exact EvL.nil | (apply EvL.cons; exact rfl))) (by exact (And.intro (by first | exact .rfl _ | exact .untip _ _ _ | exact .nil | exact .func _ | exact AV.wk.sh (renL_s _ _) | exact AV.wk.tip rfl (by first | exact renL_b _ _ | exact renL_s _ _ | exact renL_i _ _ | exact renL_w _ _) | exact AV.wk.sh (by simp; first | done | fail)) (And.intro (by first | exact .rfl _ | exact .untip _ _ _ | exact .nil | exact .func _ | exact AV.wk.sh (renL_s _ _) | exact AV.wk.tip rfl (by first | exact renL_b _ _ | exact renL_s _ _ | exact renL_i _ _ | exact renL_w _ _) | exact AV.wk.sh (by simp; first | done | fail)) trivial))) rfl rfl (by decide) (by decide) (by first | ((conv => lhs; simp only [AV.ren, AV.renL, AO.ren, renL_b, renL_s, renL_w, renL_i, renL_append, ren_b, ren_s, ren_w, ren_i, pi_n, pi_0, pi_s, pi_1, pi_2, pi_3, pi_4, chOld, chNew, nuNew, hpl, Option.map_some, Option.map_none, List.length_cons, List.length_nil, List.take_succ_cons, List.take_zero, List.take_nil, List.drop_succ_cons, List.drop_zero, List.drop_nil, List.cons_append, List.nil_append, Nat.zero_add, Nat.add_zero, Nat.reduceAdd]); all_goals rfl) | rfl) (by first | ((conv => lhs; simp only [AV.ren, AV.renL, AO.ren, renL_b, renL_s, renL_w, renL_i, renL_append, ren_b, ren_s, ren_w, ren_i, pi_n, pi_0, pi_s, pi_1, pi_2, pi_3, pi_4, chOld, chNew, nuNew, hpl, Option.map_some, Option.map_none, List.length_cons, List.length_nil, List.take_succ_cons, List.take_zero, List.take_nil, List.drop_succ_cons, List.drop_zero, List.drop_nil, List.cons_append, List.nil_append, Nat.zero_add, Nat.add_zero, Nat.reduceAdd]); all_goals rfl) | rfl) (by first | ((conv => lhs; simp only [AV.ren, AV.renL, AO.ren, renL_b, renL_s, renL_w, renL_i, renL_append, ren_b, ren_s, ren_w, ren_i, pi_n, pi_0, pi_s, pi_1, pi_2, pi_3, pi_4, chOld, chNew, nuNew, hpl, Option.map_some, Option.map_none, List.length_cons, List.length_nil, List.take_succ_cons, List.take_zero, List.take_nil, List.drop_succ_cons, List.drop_zero, List.drop_nil, List.cons_append, List.nil_append, Nat.zero_add, Nat.add_zero, Nat.reduceAdd]); all_goals rfl) | rfl) (by first | ((conv => lhs; simp only [AV.ren, AV.renL, AO.ren, renL_b, renL_s, renL_w, renL_i, renL_append, ren_b, ren_s, ren_w, ren_i, pi_n, pi_0, pi_s, pi_1, pi_2, pi_3, pi_4, chOld, chNew, nuNew, hpl, Option.map_some, Option.map_none, List.length_cons, List.length_nil, List.take_succ_cons, List.take_zero, List.take_nil, List.drop_succ_cons, List.drop_zero, List.drop_nil, List.cons_append, List.nil_append, Nat.zero_add, Nat.add_zero, Nat.reduceAdd]); all_goals rfl) | rfl) (by first | exact trivial | exact ⟨rfl, trivial⟩ | exact ⟨rfl, rfl, trivial⟩ | exact ⟨rfl, rfl, rfl, trivial⟩ | exact ⟨rfl, rfl, rfl, rfl, trivial⟩) (by first | exact trivial | exact ⟨rfl, trivial⟩ | exact ⟨rfl, rfl, trivial⟩ | exact ⟨rfl, rfl, rfl, trivial⟩ | exact ⟨rfl, rfl, rfl, rfl, trivial⟩) rfl ?_
  refine Ch.nil ?_
  refine WP.rs hG ?_
  refine Ch.mv rfl rfl ?_
  refine Ch.mv rfl rfl ?_
  refine Ch.pu gdN (by exact ⟨rfl, trivial⟩) (OpS.nilCheckP) trivial rfl ?_
  refine Ch.pu gdN (by exact ⟨rfl, trivial⟩) (OpS.fieldAddr rfl rfl rfl rfl) trivial rfl ?_
  refine Ch.pu gdN (by exact ⟨rfl, trivial⟩) (OpS.loadP rfl rfl rfl) ⟨rfl, trivial⟩ rfl ?_
  refine Ch.mv rfl rfl ?_
  refine Ch.mv rfl rfl ?_
  refine Ch.callP (hs) gdN (by repeat (first | exact EvL.nil | (apply EvL.cons; exact rfl))) (by exact (And.intro (by first | exact .rfl _ | exact .untip _ _ _ | exact .nil | exact .func _ | exact AV.wk.sh (renL_s _ _) | exact AV.wk.sh (by simp; first | done | fail)) (And.intro (by first | exact .rfl _ | exact .untip _ _ _ | exact .nil | exact .func _ | exact AV.wk.sh (renL_s _ _) | exact AV.wk.sh (by simp; first | done | fail)) (And.intro (by first | exact .rfl _ | exact .untip _ _ _ | exact .nil | exact .func _ | exact AV.wk.sh (renL_s _ _) | exact AV.wk.sh (by simp; first | done | fail)) trivial)))) (by rfl) rfl ?_
  refine Ch.callH (FC.split (hw2)) [2,4] 5 gdN (by repeat (first | exact EvL.nil | (apply EvL.cons; exact rfl))) (by exact (And.intro (by first | exact .rfl _ | exact .untip _ _ _ | exact .nil | exact .func _ | exact AV.wk.sh (renL_s _ _) | exact AV.wk.tip rfl (by first | exact renL_b _ _ | exact renL_s _ _ | exact renL_i _ _ | exact renL_w _ _) | exact AV.wk.sh (by simp; first | done | fail)) (And.intro (by first | exact .rfl _ | exact .untip _ _ _ | exact .nil | exact .func _ | exact AV.wk.sh (renL_s _ _) | exact AV.wk.tip rfl (by first | exact renL_b _ _ | exact renL_s _ _ | exact renL_i _ _ | exact renL_w _ _) | exact AV.wk.sh (by simp; first | done | fail)) trivial))) rfl rfl (by decide) (by decide) (by first | ((conv => lhs; simp only [AV.ren, AV.renL, AO.ren, renL_b, renL_s, renL_w, renL_i, renL_append, ren_b, ren_s, ren_w, ren_i, pi_n, pi_0, pi_s, pi_1, pi_2, pi_3, pi_4, chOld, chNew, nuNew, hpl, Option.map_some, Option.map_none, List.length_cons, List.length_nil, List.take_succ_cons, List.take_zero, List.take_nil, List.drop_succ_cons, List.drop_zero, List.drop_nil, List.cons_append, List.nil_append, Nat.zero_add, Nat.add_zero, Nat.reduceAdd]); all_goals rfl) | rfl) (by first | ((conv => lhs; simp only [AV.ren, AV.renL, AO.ren, renL_b, renL_s, renL_w, renL_i, renL_append, ren_b, ren_s, ren_w, ren_i, pi_n, pi_0, pi_s, pi_1, pi_2, pi_3, pi_4, chOld, chNew, nuNew, hpl, Option.map_some, Option.map_none, List.length_cons, List.length_nil, List.take_succ_cons, List.take_zero, List.take_nil, List.drop_succ_cons, List.drop_zero, List.drop_nil, List.cons_append, List.nil_append, Nat.zero_add, Nat.add_zero, Nat.reduceAdd]); all_goals rfl) | rfl) (by first | ((conv => lhs; simp only [AV.ren, AV.renL, AO.ren, renL_b, renL_s, renL_w, renL_i, renL_append, ren_b, ren_s, ren_w, ren_i, pi_n, pi_0, pi_s, pi_1, pi_2, pi_3, pi_4, chOld, chNew, nuNew, hpl, Option.map_some, Option.map_none, List.length_cons, List.length_nil, List.take_succ_cons, List.take_zero, List.take_nil, List.drop_succ_cons, List.drop_zero, List.drop_nil, List.cons_append, List.nil_append, Nat.zero_add, Nat.add_zero, Nat.reduceAdd]); all_goals rfl) | rfl) (by first | ((conv => lhs; simp only [AV.ren, AV.renL, AO.ren, renL_b, renL_s, renL_w, renL_i, renL_append, ren_b, ren_s, ren_w, ren_i, pi_n, pi_0, pi_s, pi_1, pi_2, pi_3, pi_4, chOld, chNew, nuNew, hpl, Option.map_some, Option.map_none, List.length_cons, List.length_nil, List.take_succ_cons, List.take_zero, List.take_nil, List.drop_succ_cons, List.drop_zero, List.drop_nil, List.cons_append, List.nil_append, Nat.zero_add, Nat.add_zero, Nat.reduceAdd]); all_goals rfl) | rfl) (by first | exact trivial | exact ⟨rfl, trivial⟩ | exact ⟨rfl, rfl, trivial⟩ | exact ⟨rfl, rfl, rfl, trivial⟩ | exact ⟨rfl, rfl, rfl, rfl, trivial⟩) (by first | exact trivial | exact ⟨rfl, trivial⟩ | exact ⟨rfl, rfl, trivial⟩ | exact ⟨rfl, rfl, rfl, trivial⟩ | exact ⟨rfl, rfl, rfl, rfl, trivial⟩) rfl ?_
  refine Ch.nil ?_
  refine WP.seq ?_
  refine WP.rs hG ?_
  refine Ch.mv rfl rfl ?_
  refine Ch.pu gdN (by exact ⟨rfl, trivial⟩) (OpS.nilCheckP) trivial rfl ?_
  refine Ch.pu gdN (by exact ⟨rfl, trivial⟩) (OpS.fieldAddr rfl rfl rfl rfl) trivial rfl ?_
  refine Ch.pu gdN (by exact ⟨rfl, trivial⟩) (OpS.loadP rfl rfl rfl) ⟨rfl, trivial⟩ rfl ?_
  refine Ch.mv rfl rfl ?_
  refine Ch.callS (hpa) gdN (by repeat (first | exact EvL.nil | (apply EvL.cons; exact rfl))) (by exact (And.intro (by first | exact .rfl _ | exact .untip _ _ _ | exact .nil | exact .func _ | exact AV.wk.sh (renL_s _ _) | exact AV.wk.sh (by simp; first | done | fail)) (And.intro (by first | exact .rfl _ | exact .untip _ _ _ | exact .nil | exact .func _ | exact AV.wk.sh (renL_s _ _) | exact AV.wk.sh (by simp; first | done | fail)) trivial))) (by first | rfl | simp) rfl ?_
  refine Ch.pu gdN (by exact ⟨rfl, trivial⟩) (OpS.len rfl) trivial rfl ?_
  refine Ch.mv rfl rfl ?_
  refine Ch.nil ?_
  refine WP.block ?_
  refine WP.loop (fun k σ => ∃ m : Nat, m + k = h ∧ σ = ⟨59, ls [(0, .ptr 0 0), (7, .ptr 2 0), (47, .sl none p.length (p.map sA)), (48, .v (.int .i64 (h : Int))), (49, .v (.int .i64 (m : Int)))], lh [(0, .cells 51 (sgC seed h (n + 1) (leavesT seed h))), (1, .tip 9 1 (leavesT seed h).length), (2, .cells 71 [.sl (some 3) (sigP seed h n msg m).length ((sigP seed h n msg m).map bA)]), (3, .tip 5 1 (sigP seed h n msg m).length)], blt 4⟩) (h) (Ent.of [0, 1, 2, 6] ?_ ?_ ?_ ?_).se ⟨0, by omega, rfl⟩ ?_
  · exact (fun i hi => by rw [hnA] at hi; simp only [List.length_cons, List.length_nil] at hi ⊢; first | exact absurd hi (Nat.not_lt_zero _) | (revert i; decide))
  · (repeat (first | exact trivial | (refine And.intro ⟨(by first | trivial | (simp; first | done | fail) | exact ⟨trivial, hbel _⟩), _, rfl, (by first | exact .rfl _ | exact .nil | exact .of_eq (by simp [hpaL]; first | done | fail) | exact AV.wk.sh (by simp [hpaL]; first | done | fail) | exact .untip _ _ _)⟩ ?_)))
  · (repeat (first | exact trivial | (refine And.intro ⟨rfl, (by first | trivial | (simp; first | done | fail) | exact ⟨trivial, hbel _⟩), (by first | rfl | (simp [hpaL]; first | done | fail))⟩ ?_)))
  · simp [rn]
  · rintro k σ ⟨m, hm', rfl⟩
    refine WP.rs hG ?_
    refine Ch.pu gdN (by exact ⟨rfl, rfl, trivial⟩) (OpS.int rfl (by first | exact wr64 (by omega) | exact rfl)) trivial rfl ?_
    refine Ch.nil ?_
    refine WP.seq ?_
    refine WP.cond rfl ?_ ?_
    · intro ht
      have ht' := of_decide_eq_true ht
      have hml := hpl2 m (by omega)
      have hx := h32 _ (el_mem' p m (by omega))
      have hw3 := wText_fc (G := G) (sigP seed h n msg m) (el p m) (by omega) (by omega)
      rw [← hsu m (by omega)] at hw3
      refine WP.skip ?_
      refine WP.seq ?_
      refine WP.block ?_
      refine WP.rs hG ?_
      refine Ch.pu gdN (by exact ⟨rfl, rfl, trivial⟩) (OpS.indexM rfl rfl rfl (by first | with_reducible exact Int.toNat_natCast _ | with_reducible exact tnLit _ _ | with_reducible exact tnLitA _ _ | with_reducible exact tnL _ | with_reducible exact tnA _ _ | with_reducible exact tnM _ _ | with_reducible exact tnMA _ _ _ | exact rfl) (by omega) (by omega) (by first | rfl | (simp; done) | omega)) trivial rfl ?_
      refine Ch.pu gdN (by exact ⟨rfl, trivial⟩) (OpS.loadS rfl rfl) trivial rfl ?_
      refine Ch.asg rfl rfl ?_
      refine Ch.nil ?_
      refine WP.rg hG ?_
      refine Ch.mv rfl rfl ?_
      refine Ch.mv rfl rfl ?_
      refine Ch.callH (FC.split (hw3)) [2,3] 4 gdN (by repeat (first | exact EvL.nil | (apply EvL.cons; exact rfl))) (by exact (And.intro (by first | exact .rfl _ | exact .untip _ _ _ | exact .nil | exact .func _ | exact AV.wk.sh (renL_s _ _) | exact AV.wk.tip rfl (by first | exact renL_b _ _ | exact renL_s _ _ | exact renL_i _ _ | exact renL_w _ _) | exact AV.wk.sh (by simp; first | done | fail)) (And.intro (by first | exact .rfl _ | exact .untip _ _ _ | exact .nil | exact .func _ | exact AV.wk.sh (renL_s _ _) | exact AV.wk.tip rfl (by first | exact renL_b _ _ | exact renL_s _ _ | exact renL_i _ _ | exact renL_w _ _) | exact AV.wk.sh (by simp; first | done | fail)) trivial))) rfl rfl (by decide) (by decide) (by first | ((conv => lhs; simp only [AV.ren, AV.renL, AO.ren, renL_b, renL_s, renL_w, renL_i, renL_append, ren_b, ren_s, ren_w, ren_i, pi_n, pi_0, pi_s, pi_1, pi_2, pi_3, pi_4, chOld, chNew, nuNew, hpl, Option.map_some, Option.map_none, List.length_cons, List.length_nil, List.take_succ_cons, List.take_zero, List.take_nil, List.drop_succ_cons, List.drop_zero, List.drop_nil, List.cons_append, List.nil_append, Nat.zero_add, Nat.add_zero, Nat.reduceAdd]); all_goals rfl) | rfl) (by first | ((conv => lhs; simp only [AV.ren, AV.renL, AO.ren, renL_b, renL_s, renL_w, renL_i, renL_append, ren_b, ren_s, ren_w, ren_i, pi_n, pi_0, pi_s, pi_1, pi_2, pi_3, pi_4, chOld, chNew, nuNew, hpl, Option.map_some, Option.map_none, List.length_cons, List.length_nil, List.take_succ_cons, List.take_zero, List.take_nil, List.drop_succ_cons, List.drop_zero, List.drop_nil, List.cons_append, List.nil_append, Nat.zero_add, Nat.add_zero, Nat.reduceAdd]); all_goals rfl) | rfl) (by first | ((conv => lhs; simp only [AV.ren, AV.renL, AO.ren, renL_b, renL_s, renL_w, renL_i, renL_append, ren_b, ren_s, ren_w, ren_i, pi_n, pi_0, pi_s, pi_1, pi_2, pi_3, pi_4, chOld, chNew, nuNew, hpl, Option.map_some, Option.map_none, List.length_cons, List.length_nil, List.take_succ_cons, List.take_zero, List.take_nil, List.drop_succ_cons, List.drop_zero, List.drop_nil, List.cons_append, List.nil_append, Nat.zero_add, Nat.add_zero, Nat.reduceAdd]); all_goals rfl) | rfl) (by first | ((conv => lhs; simp only [AV.ren, AV.renL, AO.ren, renL_b, renL_s, renL_w, renL_i, renL_append, ren_b, ren_s, ren_w, ren_i, pi_n, pi_0, pi_s, pi_1, pi_2, pi_3, pi_4, chOld, chNew, nuNew, hpl, Option.map_some, Option.map_none, List.length_cons, List.length_nil, List.take_succ_cons, List.take_zero, List.take_nil, List.drop_succ_cons, List.drop_zero, List.drop_nil, List.cons_append, List.nil_append, Nat.zero_add, Nat.add_zero, Nat.reduceAdd]); all_goals rfl) | rfl) (by first | exact trivial | exact ⟨rfl, trivial⟩ | exact ⟨rfl, rfl, trivial⟩ | exact ⟨rfl, rfl, rfl, trivial⟩ | exact ⟨rfl, rfl, rfl, rfl, trivial⟩) (by first | exact trivial | exact ⟨rfl, trivial⟩ | exact ⟨rfl, rfl, trivial⟩ | exact ⟨rfl, rfl, rfl, trivial⟩ | exact ⟨rfl, rfl, rfl, rfl, trivial⟩) rfl ?_
      refine Ch.nil ?_
      refine WP.rg hG ?_
      refine Ch.pu gdN (by exact ⟨rfl, rfl, trivial⟩) (OpS.int (op := .add) (v' := .int .i64 ((m + 1 : Nat) : Int)) rfl (by rw [wr64 (by omega)]; exact congrArg (Value.int .i64) (by omega))) trivial rfl ?_
      refine Ch.mv rfl rfl ?_
      refine Ch.nil ?_
      refine ⟨k - 1, _, by omega, (Ent.of [0, 1, 2, 5] ?_ ?_ ?_ ?_).se, m + 1, by omega, rfl⟩
      · exact (fun i hi => by rw [hnA] at hi; simp only [List.length_cons, List.length_nil] at hi ⊢; first | exact absurd hi (Nat.not_lt_zero _) | (revert i; decide))
      · (repeat (first | exact trivial | (refine And.intro ⟨(by first | trivial | (simp; first | done | fail) | exact ⟨trivial, hbel _⟩), _, rfl, (by first | exact .rfl _ | exact .nil | exact .of_eq (by simp; first | done | fail) | exact AV.wk.sh (by simp; first | done | fail) | exact .untip _ _ _)⟩ ?_)))
      · (repeat (first | exact trivial | (refine And.intro ⟨rfl, (by first | trivial | (simp; first | done | fail) | exact ⟨trivial, hbel _⟩), (by first | rfl | (simp; first | done | fail))⟩ ?_)))
      · simp [rn]
    · intro ht
      have ht' := of_decide_eq_false ht
      obtain rfl : m = h := by omega
      refine WP.exit ?_
      refine WP.rs hG ?_
      refine Ch.mv rfl rfl ?_
      refine Ch.callH (FC.split (hb)) [2,3] 4 gdN (by repeat (first | exact EvL.nil | (apply EvL.cons; exact rfl))) (by exact (And.intro (by first | exact .rfl _ | exact .untip _ _ _ | exact .nil | exact .func _ | exact AV.wk.sh (renL_s _ _) | exact AV.wk.tip rfl (by first | exact renL_b _ _ | exact renL_s _ _ | exact renL_i _ _ | exact renL_w _ _) | exact AV.wk.sh (by simp; first | done | fail)) trivial)) rfl rfl (by decide) (by decide) (by first | ((conv => lhs; simp only [AV.ren, AV.renL, AO.ren, renL_b, renL_s, renL_w, renL_i, renL_append, ren_b, ren_s, ren_w, ren_i, pi_n, pi_0, pi_s, pi_1, pi_2, pi_3, pi_4, chOld, chNew, nuNew, hpl, Option.map_some, Option.map_none, List.length_cons, List.length_nil, List.take_succ_cons, List.take_zero, List.take_nil, List.drop_succ_cons, List.drop_zero, List.drop_nil, List.cons_append, List.nil_append, Nat.zero_add, Nat.add_zero, Nat.reduceAdd]); all_goals rfl) | rfl) (by first | ((conv => lhs; simp only [AV.ren, AV.renL, AO.ren, renL_b, renL_s, renL_w, renL_i, renL_append, ren_b, ren_s, ren_w, ren_i, pi_n, pi_0, pi_s, pi_1, pi_2, pi_3, pi_4, chOld, chNew, nuNew, hpl, Option.map_some, Option.map_none, List.length_cons, List.length_nil, List.take_succ_cons, List.take_zero, List.take_nil, List.drop_succ_cons, List.drop_zero, List.drop_nil, List.cons_append, List.nil_append, Nat.zero_add, Nat.add_zero, Nat.reduceAdd]); all_goals rfl) | rfl) (by first | ((conv => lhs; simp only [AV.ren, AV.renL, AO.ren, renL_b, renL_s, renL_w, renL_i, renL_append, ren_b, ren_s, ren_w, ren_i, pi_n, pi_0, pi_s, pi_1, pi_2, pi_3, pi_4, chOld, chNew, nuNew, hpl, Option.map_some, Option.map_none, List.length_cons, List.length_nil, List.take_succ_cons, List.take_zero, List.take_nil, List.drop_succ_cons, List.drop_zero, List.drop_nil, List.cons_append, List.nil_append, Nat.zero_add, Nat.add_zero, Nat.reduceAdd]); all_goals rfl) | rfl) (by first | ((conv => lhs; simp only [AV.ren, AV.renL, AO.ren, renL_b, renL_s, renL_w, renL_i, renL_append, ren_b, ren_s, ren_w, ren_i, pi_n, pi_0, pi_s, pi_1, pi_2, pi_3, pi_4, chOld, chNew, nuNew, hpl, Option.map_some, Option.map_none, List.length_cons, List.length_nil, List.take_succ_cons, List.take_zero, List.take_nil, List.drop_succ_cons, List.drop_zero, List.drop_nil, List.cons_append, List.nil_append, Nat.zero_add, Nat.add_zero, Nat.reduceAdd]); all_goals rfl) | rfl) (by first | exact trivial | exact ⟨rfl, trivial⟩ | exact ⟨rfl, rfl, trivial⟩ | exact ⟨rfl, rfl, rfl, trivial⟩ | exact ⟨rfl, rfl, rfl, rfl, trivial⟩) (by first | exact trivial | exact ⟨rfl, trivial⟩ | exact ⟨rfl, rfl, trivial⟩ | exact ⟨rfl, rfl, rfl, trivial⟩ | exact ⟨rfl, rfl, rfl, rfl, trivial⟩) rfl ?_
      refine Ch.asg rfl rfl ?_
      refine Ch.asg rfl rfl ?_
      refine Ch.nil ?_
      refine WP.ret ?_
      rw [← hal]
      refine (Ret.of (rs := [4, 5]) (vs := [sA (sigP seed m n msg m), .v (.int .i64 0)]) (H' := sgH seed m (n + 1) (leavesT seed m)) (res := .tup [sA (sigP seed m n msg m), .v (.int .i64 0)]) [0, 1] ?_ ?_ rfl ?_ (by simp only [List.length_cons, List.length_nil]; decide) ?_).1
      · exact (fun i hi => by rw [hnA] at hi; simp only [List.length_cons, List.length_nil] at hi ⊢; first | exact absurd hi (Nat.not_lt_zero _) | (revert i; decide))
      · (repeat (first | exact trivial | (refine And.intro ⟨(by first | trivial | (simp; first | done | fail) | exact ⟨trivial, hbel _⟩), _, rfl, (by first | exact .rfl _ | exact .nil | exact .of_eq (by simp; first | done | fail) | exact AV.wk.sh (by simp; first | done | fail) | exact .untip _ _ _)⟩ ?_)))
      · (repeat (first | exact trivial | refine HFromL.skip ?_ | (refine And.intro ⟨(by first | trivial | (simp; first | done | fail) | exact ⟨trivial, hbel _⟩), (by first | rfl | (simp; first | done | fail))⟩ ?_)))
      · exact ⟨_, rfl, rfl, by simp [ls, TsOk, List.zip, List.zipWith]⟩
end
end Go.Proofs.YtcojfnjpcpochaaDoor.E
end
