import Derived.Test.YtcojfnjpcpochaaDoorZ4e98bc1d
section
/- Layer 7's statements: the example. -/
namespace Go.Proofs.YtcojfnjpcpochaaDoor.E
open Go Go.RowKit Go.Proofs.YtcojfnjpcpochaaDoor.V
attribute [local go_sem] B_size B_append B_extract mk_B B_toList take_drop_len List.length_drop List.length_take sgn32 sgn64 add32 sub32 mul32 add64 sub64 mul64 mul64_8 and32 or32 xor32 and64 or64 xor64 shl32_run shr32_run shl64_run shr64_run not32 not32' xor32_all w_u32_u8 w_u64_u8 w_i64_u8 w_u8_u32 w_u8_u64 w_u32_u64 w_u64_u32 w_u8_u8 w_u32_u32 w_u64_u64
attribute [local go_sem ↓] run_index_B' add32 sub32 mul32 add64 sub64 mul64 mul64_8 and32 or32 xor32 and64 or64 xor64 shl32_run shr32_run shl64_run shr64_run not32 not32' xor32_all w_u32_u8 w_u64_u8 w_i64_u8 w_u8_u32 w_u8_u64 w_u32_u64 w_u64_u32 w_u8_u8 w_u32_u32 w_u64_u64 w_u64_nat w_u32_nat w_u8_nat
set_option maxRecDepth 4000
theorem keyT_take (seed : Txt) (h k : Nat) (hk : k < 40) : ((keyT seed h).take k).length ≠ 40 := by
  rw [List.length_take, keyT_length]
  omega
theorem pw3 {h : Nat} (hh : h < 4) : 2 ^ h ≤ 8 := Nat.pow_le_pow_right (n := 2) (by decide) (show h ≤ 3 by omega)
theorem pw_pos (h : Nat) : 0 < 2 ^ h := Nat.pow_pos (by decide)
attribute [local irreducible] sum tag input laidN wstep walkT secretT digitsT pubT signT fromT rootN pathN leavesT beS sigT keyT verifyT
section
variable {G : List (Nat × Array Value)}
theorem pickW_fc (c : Int) (n : Nat) (h1 : -9223372036854775808 ≤ c) (h2 : c ≤ 9223372036854775807) (h0 : 0 < n) (hn : (n : Int) ≤ 9223372036854775807) :
    FC Tryd.prog G 18 [.v (.int .i64 c), .v (.int .i64 (n : Int))] [] (.v (.int .i64 ((pickW c n : Nat) : Int))) [] := by
  have hpk := pickW_eq c n h0
  refine FC.of_wp [4] Tryd.func18 rfl rfl rfl rfl (by first | trivial | (simp; first | done | fail) | exact ⟨trivial, hbel _⟩) (by first | trivial | (simp; first | done | fail) | exact ⟨trivial, hbel _⟩) (by exact Nat.le_of_ble_eq_true rfl) ?_
  intro A hG hnA hAB
  unfold start
  refine WP.rs hG ?_
  refine Ch.pu gdN (by exact ⟨rfl, trivial⟩) (OpS.assign) trivial rfl ?_
  refine Ch.nil ?_
  refine WP.seq ?_
  refine WP.rs hG ?_
  refine Ch.pu gdN (by exact ⟨rfl, trivial⟩) (OpS.move) trivial rfl ?_
  refine Ch.pu gdN (by exact ⟨rfl, rfl, trivial⟩) (OpS.int rfl (by first | exact wr64 (by omega) | exact rfl)) trivial rfl ?_
  refine Ch.nil ?_
  refine WP.cond rfl ?_ ?_
  · intro ht
    have ht' := of_decide_eq_true ht
    refine WP.rg hG ?_
    refine Ch.pu gdN (by exact ⟨rfl, trivial⟩) (OpS.move) trivial rfl ?_
    refine Ch.pu gdN (by exact ⟨rfl, rfl, trivial⟩) (OpS.int rfl (by first | exact wr64 (by omega) | exact rfl)) trivial rfl ?_
    refine Ch.pu gdN (by exact ⟨rfl, trivial⟩) (OpS.negI rfl (by omega)) (by first | exact trivial | exact ⟨rfl, trivial⟩) rfl ?_
    refine Ch.pu gdN (by exact ⟨rfl, trivial⟩) (OpS.assign) trivial rfl ?_
    refine Ch.nil ?_
    refine WP.rs hG ?_
    refine Ch.pu gdN (by exact ⟨rfl, trivial⟩) (OpS.move) trivial rfl ?_
    refine Ch.pu gdN (by exact ⟨rfl, trivial⟩) (OpS.move) trivial rfl ?_
    refine Ch.pu gdN (by exact ⟨rfl, rfl, trivial⟩) (OpS.rem (by omega) (by omega)) trivial rfl ?_
    refine Ch.pu gdN (by exact ⟨rfl, trivial⟩) (OpS.assign) trivial rfl ?_
    refine Ch.nil ?_
    exact WP.ret (Ret.one rfl (.of_eq (by rw [hpk, if_pos ht']; rfl)) trivial hnA)
  · intro ht
    have ht' := of_decide_eq_false ht
    refine WP.skip ?_
    refine WP.rs hG ?_
    refine Ch.pu gdN (by exact ⟨rfl, trivial⟩) (OpS.move) trivial rfl ?_
    refine Ch.pu gdN (by exact ⟨rfl, trivial⟩) (OpS.move) trivial rfl ?_
    refine Ch.pu gdN (by exact ⟨rfl, rfl, trivial⟩) (OpS.rem (by omega) (by omega)) trivial rfl ?_
    refine Ch.pu gdN (by exact ⟨rfl, trivial⟩) (OpS.assign) trivial rfl ?_
    refine Ch.nil ?_
    exact WP.ret (Ret.one rfl (.of_eq (by rw [hpk, if_neg ht']; rfl)) trivial hnA)
theorem awake_fc (hm : ShaIn G) : FC Tryd.prog G 9 [] [] (.v (.bool true)) [] := by
  have f1 := sgNew_fc hm [115] 1 0 (by decide) (by decide) (by decide)
  have f2 := sgBad_fc (G := G) [115] 8 0 (.inr (.inl (by decide)))
  have f3 := sgSign_fc hm [115] 1 0 (by decide) [109] (by decide) (by decide) (by decide)
  have f4 := sgSign_fc hm [115] 1 1 (by decide) [110] (by decide) (by decide) (by decide)
  have f5 := sgSignNo_fc (G := G) [115] 1 2 (leavesT [115] 1) [109] (by rw [leavesT_length]; decide)
  have f6 := sgPublic_fc hm [115] 1 2 (by decide)
  have f7 := sgSpent_fc (G := G) [115] 1 2 (leavesT [115] 1)
  have l1 := sigT_length [115] 1 0 [109] (by decide) (by decide)
  have l2 := sigT_length [115] 1 1 [110] (by decide) (by decide)
  have g1 := verify_fc hm (keyT [115] 1) [109] (sigT [115] 1 0 [109]) (by rw [l1]; decide) (by decide)
  have g2 := verify_fc hm (keyT [115] 1) [110] (sigT [115] 1 1 [110]) (by rw [l2]; decide) (by decide)
  have g3 := verify_fc hm (keyT [115] 1) [110] (sigT [115] 1 0 [109]) (by rw [l1]; decide) (by decide)
  rw [verify_back [115] 1 0 (by decide) (by decide)] at g1
  rw [verify_back [115] 1 1 (by decide) (by decide)] at g2
  rw [verify_no] at g3
  have hkl := keyT_length [115] 1
  refine FC.of_wp [0] Tryd.func9 rfl rfl rfl rfl (by first | trivial | (simp; first | done | fail) | exact ⟨trivial, hbel _⟩) (by first | trivial | (simp; first | done | fail) | exact ⟨trivial, hbel _⟩) (by exact Nat.le_of_ble_eq_true rfl) ?_
  intro A hG hnA hAB
  unfold start
  refine WP.rs hG ?_
  refine Ch.pu gdN (by exact ⟨rfl, trivial⟩) (OpS.assign) trivial rfl ?_
  refine Ch.nil ?_
  refine WP.rs hG ?_
  refine Ch.callH (FC.split (f1)) [] 0 gdN (by repeat (first | exact EvL.nil | (apply EvL.cons; exact rfl))) (by exact (And.intro (by first | exact .rfl _ | exact .untip _ _ _ | exact .nil | exact .func _ | exact AV.wk.sh (renL_s _ _) | exact AV.wk.tip rfl (by first | exact renL_b _ _ | exact renL_s _ _ | exact renL_i _ _ | exact renL_w _ _) | exact AV.wk.sh (by simp; first | done | fail)) (And.intro (by first | exact .rfl _ | exact .untip _ _ _ | exact .nil | exact .func _ | exact AV.wk.sh (renL_s _ _) | exact AV.wk.tip rfl (by first | exact renL_b _ _ | exact renL_s _ _ | exact renL_i _ _ | exact renL_w _ _) | exact AV.wk.sh (by simp; first | done | fail)) (And.intro (by first | exact .rfl _ | exact .untip _ _ _ | exact .nil | exact .func _ | exact AV.wk.sh (renL_s _ _) | exact AV.wk.tip rfl (by first | exact renL_b _ _ | exact renL_s _ _ | exact renL_i _ _ | exact renL_w _ _) | exact AV.wk.sh (by simp; first | done | fail)) trivial)))) rfl rfl (by decide) (by decide) (by first | ((conv => lhs; simp only [AV.ren, AV.renL, AO.ren, renL_b, renL_s, renL_w, renL_i, renL_append, ren_b, ren_s, ren_w, ren_i, pi_n, pi_0, pi_s, pi_1, pi_2, pi_3, pi_4, chOld, chNew, nuNew, hpl, Option.map_some, Option.map_none, List.length_cons, List.length_nil, List.take_succ_cons, List.take_zero, List.take_nil, List.drop_succ_cons, List.drop_zero, List.drop_nil, List.cons_append, List.nil_append, Nat.zero_add, Nat.add_zero, Nat.reduceAdd]); all_goals rfl) | rfl) (by first | ((conv => lhs; simp only [AV.ren, AV.renL, AO.ren, renL_b, renL_s, renL_w, renL_i, renL_append, ren_b, ren_s, ren_w, ren_i, pi_n, pi_0, pi_s, pi_1, pi_2, pi_3, pi_4, chOld, chNew, nuNew, hpl, Option.map_some, Option.map_none, List.length_cons, List.length_nil, List.take_succ_cons, List.take_zero, List.take_nil, List.drop_succ_cons, List.drop_zero, List.drop_nil, List.cons_append, List.nil_append, Nat.zero_add, Nat.add_zero, Nat.reduceAdd]); all_goals rfl) | rfl) (by first | ((conv => lhs; simp only [AV.ren, AV.renL, AO.ren, renL_b, renL_s, renL_w, renL_i, renL_append, ren_b, ren_s, ren_w, ren_i, pi_n, pi_0, pi_s, pi_1, pi_2, pi_3, pi_4, chOld, chNew, nuNew, hpl, Option.map_some, Option.map_none, List.length_cons, List.length_nil, List.take_succ_cons, List.take_zero, List.take_nil, List.drop_succ_cons, List.drop_zero, List.drop_nil, List.cons_append, List.nil_append, Nat.zero_add, Nat.add_zero, Nat.reduceAdd]); all_goals rfl) | rfl) (by first | ((conv => lhs; simp only [AV.ren, AV.renL, AO.ren, renL_b, renL_s, renL_w, renL_i, renL_append, ren_b, ren_s, ren_w, ren_i, pi_n, pi_0, pi_s, pi_1, pi_2, pi_3, pi_4, chOld, chNew, nuNew, hpl, Option.map_some, Option.map_none, List.length_cons, List.length_nil, List.take_succ_cons, List.take_zero, List.take_nil, List.drop_succ_cons, List.drop_zero, List.drop_nil, List.cons_append, List.nil_append, Nat.zero_add, Nat.add_zero, Nat.reduceAdd]); all_goals rfl) | rfl) (by first | exact trivial | exact ⟨rfl, trivial⟩ | exact ⟨rfl, rfl, trivial⟩ | exact ⟨rfl, rfl, rfl, trivial⟩ | exact ⟨rfl, rfl, rfl, rfl, trivial⟩) (by first | exact trivial | exact ⟨rfl, trivial⟩ | exact ⟨rfl, rfl, trivial⟩ | exact ⟨rfl, rfl, rfl, trivial⟩ | exact ⟨rfl, rfl, rfl, rfl, trivial⟩) rfl ?_
  refine Ch.pu gdN (by exact ⟨rfl, trivial⟩) (OpS.move) trivial rfl ?_
  refine Ch.pu gdN (by exact ⟨rfl, trivial⟩) (OpS.extract rfl) trivial rfl ?_
  refine Ch.pu gdN (by exact ⟨rfl, trivial⟩) (OpS.extract rfl) trivial rfl ?_
  refine Ch.pu gdN (by exact ⟨rfl, trivial⟩) (OpS.assign) trivial rfl ?_
  refine Ch.pu gdN (by exact ⟨rfl, trivial⟩) (OpS.assign) trivial rfl ?_
  refine Ch.nil ?_
  refine WP.rs hG ?_
  refine Ch.callP (f2) gdN (by repeat (first | exact EvL.nil | (apply EvL.cons; exact rfl))) (by exact (And.intro (by first | exact .rfl _ | exact .untip _ _ _ | exact .nil | exact .func _ | exact AV.wk.sh (renL_s _ _) | exact AV.wk.sh (by simp; first | done | fail)) (And.intro (by first | exact .rfl _ | exact .untip _ _ _ | exact .nil | exact .func _ | exact AV.wk.sh (renL_s _ _) | exact AV.wk.sh (by simp; first | done | fail)) (And.intro (by first | exact .rfl _ | exact .untip _ _ _ | exact .nil | exact .func _ | exact AV.wk.sh (renL_s _ _) | exact AV.wk.sh (by simp; first | done | fail)) trivial)))) (by rfl) rfl ?_
  refine Ch.pu gdN (by exact ⟨rfl, trivial⟩) (OpS.move) trivial rfl ?_
  refine Ch.pu gdN (by exact ⟨rfl, trivial⟩) (OpS.extract rfl) trivial rfl ?_
  refine Ch.pu gdN (by exact ⟨rfl, trivial⟩) (OpS.extract rfl) trivial rfl ?_
  refine Ch.pu gdN (by exact ⟨rfl, trivial⟩) (OpS.assign) trivial rfl ?_
  refine Ch.pu gdN (by exact ⟨rfl, trivial⟩) (OpS.assign) trivial rfl ?_
  refine Ch.nil ?_
  refine WP.seq ?_
  refine WP.rs hG ?_
  refine Ch.pu gdN (by exact ⟨rfl, trivial⟩) (OpS.move) trivial rfl ?_
  refine Ch.pu gdN (by exact ⟨rfl, rfl, trivial⟩) (OpS.eqNil (.p _ _) rfl) trivial rfl ?_
  refine Ch.pu gdN (by exact ⟨rfl, trivial⟩) (OpS.move) trivial rfl ?_
  refine Ch.pu (by exact gdT rfl rfl) (by exact ⟨rfl, trivial⟩) (OpS.move) trivial rfl ?_
  refine Ch.pu (by exact gdT rfl rfl) (by exact ⟨rfl, rfl, trivial⟩) (OpS.int (op := .neq) (v' := .bool false) rfl rfl) trivial rfl ?_
  refine Ch.pu gdN (by first | exact ⟨rfl, rfl, trivial⟩ | exact ⟨rfl, rfl, rfl, trivial⟩) (OpS.pickF) trivial rfl ?_
  refine Ch.pu gdN (by exact ⟨rfl, trivial⟩) (OpS.move) trivial rfl ?_
  refine Ch.pu (by exact gdT rfl rfl) (by exact ⟨rfl, trivial⟩) (OpS.move) trivial rfl ?_
  refine Ch.pu (by exact gdT rfl rfl) (by exact ⟨rfl, rfl, trivial⟩) (OpS.int (op := .neq) (v' := .bool false) rfl rfl) trivial rfl ?_
  refine Ch.pu gdN (by first | exact ⟨rfl, rfl, trivial⟩ | exact ⟨rfl, rfl, rfl, trivial⟩) (OpS.pickF) trivial rfl ?_
  refine Ch.nil ?_
  refine WP.cond_false rfl ?_
  refine WP.skip ?_
  refine WP.rs hG ?_
  refine Ch.pu gdN (by exact ⟨rfl, trivial⟩) (OpS.move) trivial rfl ?_
  refine Ch.callH (FC.split (f3)) [0,1] 2 gdN (by repeat (first | exact EvL.nil | (apply EvL.cons; exact rfl))) (by exact (And.intro (by first | exact .rfl _ | exact .untip _ _ _ | exact .nil | exact .func _ | exact AV.wk.sh (renL_s _ _) | exact AV.wk.tip rfl (by first | exact renL_b _ _ | exact renL_s _ _ | exact renL_i _ _ | exact renL_w _ _) | exact AV.wk.sh (by simp; first | done | fail)) (And.intro (by first | exact .rfl _ | exact .untip _ _ _ | exact .nil | exact .func _ | exact AV.wk.sh (renL_s _ _) | exact AV.wk.tip rfl (by first | exact renL_b _ _ | exact renL_s _ _ | exact renL_i _ _ | exact renL_w _ _) | exact AV.wk.sh (by simp; first | done | fail)) trivial))) rfl rfl (by decide) (by decide) (by first | ((conv => lhs; simp only [AV.ren, AV.renL, AO.ren, renL_b, renL_s, renL_w, renL_i, renL_append, ren_b, ren_s, ren_w, ren_i, pi_n, pi_0, pi_s, pi_1, pi_2, pi_3, pi_4, chOld, chNew, nuNew, hpl, Option.map_some, Option.map_none, List.length_cons, List.length_nil, List.take_succ_cons, List.take_zero, List.take_nil, List.drop_succ_cons, List.drop_zero, List.drop_nil, List.cons_append, List.nil_append, Nat.zero_add, Nat.add_zero, Nat.reduceAdd]); all_goals rfl) | rfl) (by first | ((conv => lhs; simp only [AV.ren, AV.renL, AO.ren, renL_b, renL_s, renL_w, renL_i, renL_append, ren_b, ren_s, ren_w, ren_i, pi_n, pi_0, pi_s, pi_1, pi_2, pi_3, pi_4, chOld, chNew, nuNew, hpl, Option.map_some, Option.map_none, List.length_cons, List.length_nil, List.take_succ_cons, List.take_zero, List.take_nil, List.drop_succ_cons, List.drop_zero, List.drop_nil, List.cons_append, List.nil_append, Nat.zero_add, Nat.add_zero, Nat.reduceAdd]); all_goals rfl) | rfl) (by first | ((conv => lhs; simp only [AV.ren, AV.renL, AO.ren, renL_b, renL_s, renL_w, renL_i, renL_append, ren_b, ren_s, ren_w, ren_i, pi_n, pi_0, pi_s, pi_1, pi_2, pi_3, pi_4, chOld, chNew, nuNew, hpl, Option.map_some, Option.map_none, List.length_cons, List.length_nil, List.take_succ_cons, List.take_zero, List.take_nil, List.drop_succ_cons, List.drop_zero, List.drop_nil, List.cons_append, List.nil_append, Nat.zero_add, Nat.add_zero, Nat.reduceAdd]); all_goals rfl) | rfl) (by first | ((conv => lhs; simp only [AV.ren, AV.renL, AO.ren, renL_b, renL_s, renL_w, renL_i, renL_append, ren_b, ren_s, ren_w, ren_i, pi_n, pi_0, pi_s, pi_1, pi_2, pi_3, pi_4, chOld, chNew, nuNew, hpl, Option.map_some, Option.map_none, List.length_cons, List.length_nil, List.take_succ_cons, List.take_zero, List.take_nil, List.drop_succ_cons, List.drop_zero, List.drop_nil, List.cons_append, List.nil_append, Nat.zero_add, Nat.add_zero, Nat.reduceAdd]); all_goals rfl) | rfl) (by first | exact trivial | exact ⟨rfl, trivial⟩ | exact ⟨rfl, rfl, trivial⟩ | exact ⟨rfl, rfl, rfl, trivial⟩ | exact ⟨rfl, rfl, rfl, rfl, trivial⟩) (by first | exact trivial | exact ⟨rfl, trivial⟩ | exact ⟨rfl, rfl, trivial⟩ | exact ⟨rfl, rfl, rfl, trivial⟩ | exact ⟨rfl, rfl, rfl, rfl, trivial⟩) rfl ?_
  refine Ch.pu gdN (by exact ⟨rfl, trivial⟩) (OpS.move) trivial rfl ?_
  refine Ch.pu gdN (by exact ⟨rfl, trivial⟩) (OpS.extract rfl) trivial rfl ?_
  refine Ch.pu gdN (by exact ⟨rfl, trivial⟩) (OpS.extract rfl) trivial rfl ?_
  refine Ch.pu gdN (by exact ⟨rfl, trivial⟩) (OpS.assign) trivial rfl ?_
  refine Ch.pu gdN (by exact ⟨rfl, trivial⟩) (OpS.assign) trivial rfl ?_
  refine Ch.nil ?_
  refine WP.rs hG ?_
  refine Ch.pu gdN (by exact ⟨rfl, trivial⟩) (OpS.move) trivial rfl ?_
  refine Ch.callH (FC.split (f4)) [0,1] 2 gdN (by repeat (first | exact EvL.nil | (apply EvL.cons; exact rfl))) (by exact (And.intro (by first | exact .rfl _ | exact .untip _ _ _ | exact .nil | exact .func _ | exact AV.wk.sh (renL_s _ _) | exact AV.wk.tip rfl (by first | exact renL_b _ _ | exact renL_s _ _ | exact renL_i _ _ | exact renL_w _ _) | exact AV.wk.sh (by simp; first | done | fail)) (And.intro (by first | exact .rfl _ | exact .untip _ _ _ | exact .nil | exact .func _ | exact AV.wk.sh (renL_s _ _) | exact AV.wk.tip rfl (by first | exact renL_b _ _ | exact renL_s _ _ | exact renL_i _ _ | exact renL_w _ _) | exact AV.wk.sh (by simp; first | done | fail)) trivial))) rfl rfl (by decide) (by decide) (by first | ((conv => lhs; simp only [AV.ren, AV.renL, AO.ren, renL_b, renL_s, renL_w, renL_i, renL_append, ren_b, ren_s, ren_w, ren_i, pi_n, pi_0, pi_s, pi_1, pi_2, pi_3, pi_4, chOld, chNew, nuNew, hpl, Option.map_some, Option.map_none, List.length_cons, List.length_nil, List.take_succ_cons, List.take_zero, List.take_nil, List.drop_succ_cons, List.drop_zero, List.drop_nil, List.cons_append, List.nil_append, Nat.zero_add, Nat.add_zero, Nat.reduceAdd]); all_goals rfl) | rfl) (by first | ((conv => lhs; simp only [AV.ren, AV.renL, AO.ren, renL_b, renL_s, renL_w, renL_i, renL_append, ren_b, ren_s, ren_w, ren_i, pi_n, pi_0, pi_s, pi_1, pi_2, pi_3, pi_4, chOld, chNew, nuNew, hpl, Option.map_some, Option.map_none, List.length_cons, List.length_nil, List.take_succ_cons, List.take_zero, List.take_nil, List.drop_succ_cons, List.drop_zero, List.drop_nil, List.cons_append, List.nil_append, Nat.zero_add, Nat.add_zero, Nat.reduceAdd]); all_goals rfl) | rfl) (by first | ((conv => lhs; simp only [AV.ren, AV.renL, AO.ren, renL_b, renL_s, renL_w, renL_i, renL_append, ren_b, ren_s, ren_w, ren_i, pi_n, pi_0, pi_s, pi_1, pi_2, pi_3, pi_4, chOld, chNew, nuNew, hpl, Option.map_some, Option.map_none, List.length_cons, List.length_nil, List.take_succ_cons, List.take_zero, List.take_nil, List.drop_succ_cons, List.drop_zero, List.drop_nil, List.cons_append, List.nil_append, Nat.zero_add, Nat.add_zero, Nat.reduceAdd]); all_goals rfl) | rfl) (by first | ((conv => lhs; simp only [AV.ren, AV.renL, AO.ren, renL_b, renL_s, renL_w, renL_i, renL_append, ren_b, ren_s, ren_w, ren_i, pi_n, pi_0, pi_s, pi_1, pi_2, pi_3, pi_4, chOld, chNew, nuNew, hpl, Option.map_some, Option.map_none, List.length_cons, List.length_nil, List.take_succ_cons, List.take_zero, List.take_nil, List.drop_succ_cons, List.drop_zero, List.drop_nil, List.cons_append, List.nil_append, Nat.zero_add, Nat.add_zero, Nat.reduceAdd]); all_goals rfl) | rfl) (by first | exact trivial | exact ⟨rfl, trivial⟩ | exact ⟨rfl, rfl, trivial⟩ | exact ⟨rfl, rfl, rfl, trivial⟩ | exact ⟨rfl, rfl, rfl, rfl, trivial⟩) (by first | exact trivial | exact ⟨rfl, trivial⟩ | exact ⟨rfl, rfl, trivial⟩ | exact ⟨rfl, rfl, rfl, trivial⟩ | exact ⟨rfl, rfl, rfl, rfl, trivial⟩) rfl ?_
  refine Ch.pu gdN (by exact ⟨rfl, trivial⟩) (OpS.move) trivial rfl ?_
  refine Ch.pu gdN (by exact ⟨rfl, trivial⟩) (OpS.extract rfl) trivial rfl ?_
  refine Ch.pu gdN (by exact ⟨rfl, trivial⟩) (OpS.extract rfl) trivial rfl ?_
  refine Ch.pu gdN (by exact ⟨rfl, trivial⟩) (OpS.assign) trivial rfl ?_
  refine Ch.pu gdN (by exact ⟨rfl, trivial⟩) (OpS.assign) trivial rfl ?_
  refine Ch.nil ?_
  refine WP.rs hG ?_
  refine Ch.pu gdN (by exact ⟨rfl, trivial⟩) (OpS.move) trivial rfl ?_
  refine Ch.callH (FC.split (f5)) [0,1] 2 gdN (by repeat (first | exact EvL.nil | (apply EvL.cons; exact rfl))) (by exact (And.intro (by first | exact .rfl _ | exact .untip _ _ _ | exact .nil | exact .func _ | exact AV.wk.sh (renL_s _ _) | exact AV.wk.tip rfl (by first | exact renL_b _ _ | exact renL_s _ _ | exact renL_i _ _ | exact renL_w _ _) | exact AV.wk.sh (by simp; first | done | fail)) (And.intro (by first | exact .rfl _ | exact .untip _ _ _ | exact .nil | exact .func _ | exact AV.wk.sh (renL_s _ _) | exact AV.wk.tip rfl (by first | exact renL_b _ _ | exact renL_s _ _ | exact renL_i _ _ | exact renL_w _ _) | exact AV.wk.sh (by simp; first | done | fail)) trivial))) rfl rfl (by decide) (by decide) (by first | ((conv => lhs; simp only [AV.ren, AV.renL, AO.ren, renL_b, renL_s, renL_w, renL_i, renL_append, ren_b, ren_s, ren_w, ren_i, pi_n, pi_0, pi_s, pi_1, pi_2, pi_3, pi_4, chOld, chNew, nuNew, hpl, Option.map_some, Option.map_none, List.length_cons, List.length_nil, List.take_succ_cons, List.take_zero, List.take_nil, List.drop_succ_cons, List.drop_zero, List.drop_nil, List.cons_append, List.nil_append, Nat.zero_add, Nat.add_zero, Nat.reduceAdd]); all_goals rfl) | rfl) (by first | ((conv => lhs; simp only [AV.ren, AV.renL, AO.ren, renL_b, renL_s, renL_w, renL_i, renL_append, ren_b, ren_s, ren_w, ren_i, pi_n, pi_0, pi_s, pi_1, pi_2, pi_3, pi_4, chOld, chNew, nuNew, hpl, Option.map_some, Option.map_none, List.length_cons, List.length_nil, List.take_succ_cons, List.take_zero, List.take_nil, List.drop_succ_cons, List.drop_zero, List.drop_nil, List.cons_append, List.nil_append, Nat.zero_add, Nat.add_zero, Nat.reduceAdd]); all_goals rfl) | rfl) (by first | ((conv => lhs; simp only [AV.ren, AV.renL, AO.ren, renL_b, renL_s, renL_w, renL_i, renL_append, ren_b, ren_s, ren_w, ren_i, pi_n, pi_0, pi_s, pi_1, pi_2, pi_3, pi_4, chOld, chNew, nuNew, hpl, Option.map_some, Option.map_none, List.length_cons, List.length_nil, List.take_succ_cons, List.take_zero, List.take_nil, List.drop_succ_cons, List.drop_zero, List.drop_nil, List.cons_append, List.nil_append, Nat.zero_add, Nat.add_zero, Nat.reduceAdd]); all_goals rfl) | rfl) (by first | ((conv => lhs; simp only [AV.ren, AV.renL, AO.ren, renL_b, renL_s, renL_w, renL_i, renL_append, ren_b, ren_s, ren_w, ren_i, pi_n, pi_0, pi_s, pi_1, pi_2, pi_3, pi_4, chOld, chNew, nuNew, hpl, Option.map_some, Option.map_none, List.length_cons, List.length_nil, List.take_succ_cons, List.take_zero, List.take_nil, List.drop_succ_cons, List.drop_zero, List.drop_nil, List.cons_append, List.nil_append, Nat.zero_add, Nat.add_zero, Nat.reduceAdd]); all_goals rfl) | rfl) (by first | exact trivial | exact ⟨rfl, trivial⟩ | exact ⟨rfl, rfl, trivial⟩ | exact ⟨rfl, rfl, rfl, trivial⟩ | exact ⟨rfl, rfl, rfl, rfl, trivial⟩) (by first | exact trivial | exact ⟨rfl, trivial⟩ | exact ⟨rfl, rfl, trivial⟩ | exact ⟨rfl, rfl, rfl, trivial⟩ | exact ⟨rfl, rfl, rfl, rfl, trivial⟩) rfl ?_
  refine Ch.pu gdN (by exact ⟨rfl, trivial⟩) (OpS.move) trivial rfl ?_
  refine Ch.pu gdN (by exact ⟨rfl, trivial⟩) (OpS.extract rfl) trivial rfl ?_
  refine Ch.pu gdN (by exact ⟨rfl, trivial⟩) (OpS.extract rfl) trivial rfl ?_
  refine Ch.pu gdN (by exact ⟨rfl, trivial⟩) (OpS.assign) trivial rfl ?_
  refine Ch.pu gdN (by exact ⟨rfl, trivial⟩) (OpS.assign) trivial rfl ?_
  refine Ch.nil ?_
  refine WP.rs hG ?_
  refine Ch.pu gdN (by exact ⟨rfl, trivial⟩) (OpS.move) trivial rfl ?_
  refine Ch.callH (FC.split (f6)) [0,1] 2 gdN (by repeat (first | exact EvL.nil | (apply EvL.cons; exact rfl))) (by exact (And.intro (by first | exact .rfl _ | exact .untip _ _ _ | exact .nil | exact .func _ | exact AV.wk.sh (renL_s _ _) | exact AV.wk.tip rfl (by first | exact renL_b _ _ | exact renL_s _ _ | exact renL_i _ _ | exact renL_w _ _) | exact AV.wk.sh (by simp; first | done | fail)) trivial)) rfl rfl (by decide) (by decide) (by first | ((conv => lhs; simp only [AV.ren, AV.renL, AO.ren, renL_b, renL_s, renL_w, renL_i, renL_append, ren_b, ren_s, ren_w, ren_i, pi_n, pi_0, pi_s, pi_1, pi_2, pi_3, pi_4, chOld, chNew, nuNew, hpl, Option.map_some, Option.map_none, List.length_cons, List.length_nil, List.take_succ_cons, List.take_zero, List.take_nil, List.drop_succ_cons, List.drop_zero, List.drop_nil, List.cons_append, List.nil_append, Nat.zero_add, Nat.add_zero, Nat.reduceAdd]); all_goals rfl) | rfl) (by first | ((conv => lhs; simp only [AV.ren, AV.renL, AO.ren, renL_b, renL_s, renL_w, renL_i, renL_append, ren_b, ren_s, ren_w, ren_i, pi_n, pi_0, pi_s, pi_1, pi_2, pi_3, pi_4, chOld, chNew, nuNew, hpl, Option.map_some, Option.map_none, List.length_cons, List.length_nil, List.take_succ_cons, List.take_zero, List.take_nil, List.drop_succ_cons, List.drop_zero, List.drop_nil, List.cons_append, List.nil_append, Nat.zero_add, Nat.add_zero, Nat.reduceAdd]); all_goals rfl) | rfl) (by first | ((conv => lhs; simp only [AV.ren, AV.renL, AO.ren, renL_b, renL_s, renL_w, renL_i, renL_append, ren_b, ren_s, ren_w, ren_i, pi_n, pi_0, pi_s, pi_1, pi_2, pi_3, pi_4, chOld, chNew, nuNew, hpl, Option.map_some, Option.map_none, List.length_cons, List.length_nil, List.take_succ_cons, List.take_zero, List.take_nil, List.drop_succ_cons, List.drop_zero, List.drop_nil, List.cons_append, List.nil_append, Nat.zero_add, Nat.add_zero, Nat.reduceAdd]); all_goals rfl) | rfl) (by first | ((conv => lhs; simp only [AV.ren, AV.renL, AO.ren, renL_b, renL_s, renL_w, renL_i, renL_append, ren_b, ren_s, ren_w, ren_i, pi_n, pi_0, pi_s, pi_1, pi_2, pi_3, pi_4, chOld, chNew, nuNew, hpl, Option.map_some, Option.map_none, List.length_cons, List.length_nil, List.take_succ_cons, List.take_zero, List.take_nil, List.drop_succ_cons, List.drop_zero, List.drop_nil, List.cons_append, List.nil_append, Nat.zero_add, Nat.add_zero, Nat.reduceAdd]); all_goals rfl) | rfl) (by first | exact trivial | exact ⟨rfl, trivial⟩ | exact ⟨rfl, rfl, trivial⟩ | exact ⟨rfl, rfl, rfl, trivial⟩ | exact ⟨rfl, rfl, rfl, rfl, trivial⟩) (by first | exact trivial | exact ⟨rfl, trivial⟩ | exact ⟨rfl, rfl, trivial⟩ | exact ⟨rfl, rfl, rfl, trivial⟩ | exact ⟨rfl, rfl, rfl, rfl, trivial⟩) rfl ?_
  refine Ch.pu gdN (by exact ⟨rfl, trivial⟩) (OpS.assign) trivial rfl ?_
  refine Ch.nil ?_
  refine WP.rs hG ?_
  refine Ch.pu gdN (by exact ⟨rfl, trivial⟩) (OpS.move) trivial rfl ?_
  refine Ch.pu gdN (by exact ⟨rfl, rfl, trivial⟩) (OpS.int (op := .eql) (v' := .bool true) rfl rfl) trivial rfl ?_
  refine Ch.pu gdN (by exact ⟨rfl, trivial⟩) (OpS.move) trivial rfl ?_
  refine Ch.pu (by exact gdT rfl rfl) (by exact ⟨rfl, trivial⟩) (OpS.move) trivial rfl ?_
  refine Ch.pu (by exact gdT rfl rfl) (by exact ⟨rfl, rfl, trivial⟩) (OpS.int (op := .eql) (v' := .bool true) rfl rfl) trivial rfl ?_
  refine Ch.pu gdN (by first | exact ⟨rfl, rfl, trivial⟩ | exact ⟨rfl, rfl, rfl, trivial⟩) (OpS.pickT) trivial rfl ?_
  refine Ch.pu gdN (by exact ⟨rfl, trivial⟩) (OpS.move) trivial rfl ?_
  refine Ch.pu (by exact gdT rfl rfl) (by exact ⟨rfl, trivial⟩) (OpS.move) trivial rfl ?_
  refine Ch.pu (by exact gdT rfl rfl) (by exact ⟨rfl, rfl, trivial⟩) (OpS.int (op := .eql) (v' := .bool true) rfl rfl) trivial rfl ?_
  refine Ch.pu gdN (by first | exact ⟨rfl, rfl, trivial⟩ | exact ⟨rfl, rfl, rfl, trivial⟩) (OpS.pickT) trivial rfl ?_
  refine Ch.pu gdN (by exact ⟨rfl, trivial⟩) (OpS.move) trivial rfl ?_
  refine Ch.pu (by exact gdT rfl rfl) (by exact ⟨rfl, trivial⟩) (OpS.move) trivial rfl ?_
  refine Ch.callH (FC.split (f7)) [0,1] 2 (by exact gdT rfl rfl) (by repeat (first | exact EvL.nil | (apply EvL.cons; exact rfl))) (by exact (And.intro (by first | exact .rfl _ | exact .untip _ _ _ | exact .nil | exact .func _ | exact AV.wk.sh (renL_s _ _) | exact AV.wk.tip rfl (by first | exact renL_b _ _ | exact renL_s _ _ | exact renL_i _ _ | exact renL_w _ _) | exact AV.wk.sh (by simp; first | done | fail)) trivial)) rfl rfl (by decide) (by decide) (by first | ((conv => lhs; simp only [AV.ren, AV.renL, AO.ren, renL_b, renL_s, renL_w, renL_i, renL_append, ren_b, ren_s, ren_w, ren_i, pi_n, pi_0, pi_s, pi_1, pi_2, pi_3, pi_4, chOld, chNew, nuNew, hpl, Option.map_some, Option.map_none, List.length_cons, List.length_nil, List.take_succ_cons, List.take_zero, List.take_nil, List.drop_succ_cons, List.drop_zero, List.drop_nil, List.cons_append, List.nil_append, Nat.zero_add, Nat.add_zero, Nat.reduceAdd]); all_goals rfl) | rfl) (by first | ((conv => lhs; simp only [AV.ren, AV.renL, AO.ren, renL_b, renL_s, renL_w, renL_i, renL_append, ren_b, ren_s, ren_w, ren_i, pi_n, pi_0, pi_s, pi_1, pi_2, pi_3, pi_4, chOld, chNew, nuNew, hpl, Option.map_some, Option.map_none, List.length_cons, List.length_nil, List.take_succ_cons, List.take_zero, List.take_nil, List.drop_succ_cons, List.drop_zero, List.drop_nil, List.cons_append, List.nil_append, Nat.zero_add, Nat.add_zero, Nat.reduceAdd]); all_goals rfl) | rfl) (by first | ((conv => lhs; simp only [AV.ren, AV.renL, AO.ren, renL_b, renL_s, renL_w, renL_i, renL_append, ren_b, ren_s, ren_w, ren_i, pi_n, pi_0, pi_s, pi_1, pi_2, pi_3, pi_4, chOld, chNew, nuNew, hpl, Option.map_some, Option.map_none, List.length_cons, List.length_nil, List.take_succ_cons, List.take_zero, List.take_nil, List.drop_succ_cons, List.drop_zero, List.drop_nil, List.cons_append, List.nil_append, Nat.zero_add, Nat.add_zero, Nat.reduceAdd]); all_goals rfl) | rfl) (by first | ((conv => lhs; simp only [AV.ren, AV.renL, AO.ren, renL_b, renL_s, renL_w, renL_i, renL_append, ren_b, ren_s, ren_w, ren_i, pi_n, pi_0, pi_s, pi_1, pi_2, pi_3, pi_4, chOld, chNew, nuNew, hpl, Option.map_some, Option.map_none, List.length_cons, List.length_nil, List.take_succ_cons, List.take_zero, List.take_nil, List.drop_succ_cons, List.drop_zero, List.drop_nil, List.cons_append, List.nil_append, Nat.zero_add, Nat.add_zero, Nat.reduceAdd]); all_goals rfl) | rfl) (by first | exact trivial | exact ⟨rfl, trivial⟩ | exact ⟨rfl, rfl, trivial⟩ | exact ⟨rfl, rfl, rfl, trivial⟩ | exact ⟨rfl, rfl, rfl, rfl, trivial⟩) (by first | exact trivial | exact ⟨rfl, trivial⟩ | exact ⟨rfl, rfl, trivial⟩ | exact ⟨rfl, rfl, rfl, trivial⟩ | exact ⟨rfl, rfl, rfl, rfl, trivial⟩) rfl ?_
  refine Ch.pu (by exact gdT rfl rfl) (by exact ⟨rfl, rfl, trivial⟩) (OpS.int (op := .eql) (v' := .bool true) rfl rfl) trivial rfl ?_
  refine Ch.pu gdN (by first | exact ⟨rfl, rfl, trivial⟩ | exact ⟨rfl, rfl, rfl, trivial⟩) (OpS.pickT) trivial rfl ?_
  refine Ch.pu gdN (by exact ⟨rfl, trivial⟩) (OpS.move) trivial rfl ?_
  refine Ch.pu (by exact gdT rfl rfl) (by exact ⟨rfl, trivial⟩) (OpS.move) trivial rfl ?_
  refine Ch.pu (by exact gdT rfl rfl) (by exact ⟨rfl, trivial⟩) (OpS.move) trivial rfl ?_
  refine Ch.callP (g1) (by exact gdT rfl rfl) (by repeat (first | exact EvL.nil | (apply EvL.cons; exact rfl))) (by exact (And.intro (by first | exact .rfl _ | exact .untip _ _ _ | exact .nil | exact .func _ | exact AV.wk.sh (renL_s _ _) | exact AV.wk.sh (by simp; first | done | fail)) (And.intro (by first | exact .rfl _ | exact .untip _ _ _ | exact .nil | exact .func _ | exact AV.wk.sh (renL_s _ _) | exact AV.wk.sh (by simp; first | done | fail)) (And.intro (by first | exact .rfl _ | exact .untip _ _ _ | exact .nil | exact .func _ | exact AV.wk.sh (renL_s _ _) | exact AV.wk.sh (by simp; first | done | fail)) trivial)))) (by rfl) rfl ?_
  refine Ch.pu gdN (by first | exact ⟨rfl, rfl, trivial⟩ | exact ⟨rfl, rfl, rfl, trivial⟩) (OpS.pickT) trivial rfl ?_
  refine Ch.pu gdN (by exact ⟨rfl, trivial⟩) (OpS.move) trivial rfl ?_
  refine Ch.pu (by exact gdT rfl rfl) (by exact ⟨rfl, trivial⟩) (OpS.move) trivial rfl ?_
  refine Ch.pu (by exact gdT rfl rfl) (by exact ⟨rfl, trivial⟩) (OpS.move) trivial rfl ?_
  refine Ch.callP (g2) (by exact gdT rfl rfl) (by repeat (first | exact EvL.nil | (apply EvL.cons; exact rfl))) (by exact (And.intro (by first | exact .rfl _ | exact .untip _ _ _ | exact .nil | exact .func _ | exact AV.wk.sh (renL_s _ _) | exact AV.wk.sh (by simp; first | done | fail)) (And.intro (by first | exact .rfl _ | exact .untip _ _ _ | exact .nil | exact .func _ | exact AV.wk.sh (renL_s _ _) | exact AV.wk.sh (by simp; first | done | fail)) (And.intro (by first | exact .rfl _ | exact .untip _ _ _ | exact .nil | exact .func _ | exact AV.wk.sh (renL_s _ _) | exact AV.wk.sh (by simp; first | done | fail)) trivial)))) (by rfl) rfl ?_
  refine Ch.pu gdN (by first | exact ⟨rfl, rfl, trivial⟩ | exact ⟨rfl, rfl, rfl, trivial⟩) (OpS.pickT) trivial rfl ?_
  refine Ch.pu gdN (by exact ⟨rfl, trivial⟩) (OpS.move) trivial rfl ?_
  refine Ch.pu (by exact gdT rfl rfl) (by exact ⟨rfl, trivial⟩) (OpS.move) trivial rfl ?_
  refine Ch.pu (by exact gdT rfl rfl) (by exact ⟨rfl, trivial⟩) (OpS.move) trivial rfl ?_
  refine Ch.callP (g3) (by exact gdT rfl rfl) (by repeat (first | exact EvL.nil | (apply EvL.cons; exact rfl))) (by exact (And.intro (by first | exact .rfl _ | exact .untip _ _ _ | exact .nil | exact .func _ | exact AV.wk.sh (renL_s _ _) | exact AV.wk.sh (by simp; first | done | fail)) (And.intro (by first | exact .rfl _ | exact .untip _ _ _ | exact .nil | exact .func _ | exact AV.wk.sh (renL_s _ _) | exact AV.wk.sh (by simp; first | done | fail)) (And.intro (by first | exact .rfl _ | exact .untip _ _ _ | exact .nil | exact .func _ | exact AV.wk.sh (renL_s _ _) | exact AV.wk.sh (by simp; first | done | fail)) trivial)))) (by rfl) rfl ?_
  refine Ch.pu (by exact gdT rfl rfl) (by exact ⟨rfl, trivial⟩) (OpS.not) trivial rfl ?_
  refine Ch.pu gdN (by first | exact ⟨rfl, rfl, trivial⟩ | exact ⟨rfl, rfl, rfl, trivial⟩) (OpS.pickT) trivial rfl ?_
  refine Ch.pu gdN (by exact ⟨rfl, trivial⟩) (OpS.move) trivial rfl ?_
  refine Ch.pu (by exact gdT rfl rfl) (by exact ⟨rfl, trivial⟩) (OpS.move) trivial rfl ?_
  refine Ch.pu (by exact gdT rfl rfl) (by exact ⟨rfl, trivial⟩) (OpS.lenS rfl) (by first | exact trivial | exact ⟨rfl, trivial⟩) rfl ?_
  refine Ch.pu (by exact gdT rfl rfl) (by exact ⟨rfl, rfl, trivial⟩) (OpS.int (op := .eql) (v' := .bool true) rfl (by rw [hkl]; rfl)) trivial rfl ?_
  refine Ch.pu gdN (by first | exact ⟨rfl, rfl, trivial⟩ | exact ⟨rfl, rfl, rfl, trivial⟩) (OpS.pickT) trivial rfl ?_
  refine Ch.pu gdN (by exact ⟨rfl, trivial⟩) (OpS.assign) trivial rfl ?_
  refine Ch.nil ?_
  refine WP.ret (Ret.one rfl (by first | exact .rfl _ | exact .nil | exact .of_eq (by simp; first | done | fail) | exact AV.wk.sh (by simp; first | done | fail) | exact .untip _ _ _) (by first | trivial | simp [AV.bel]) hnA)
end
end Go.Proofs.YtcojfnjpcpochaaDoor.E
end
