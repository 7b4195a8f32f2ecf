import Derived.Test.YtcojfnjpcpochaaDoorZc340833e
import Derived.Test.YtcojfnjpcpochaaDoorZ3011c649
import Derived.Test.YtcojfnjpcpochaaDoorZ679ce220
section
/- Layer 2's writer, by abstract steps; the document's own. -/
namespace Go.Proofs.YtcojfnjpcpochaaDoor.E
open Go Go.RowKit Go.Proofs.YtcojfnjpcpochaaDoor.V
attribute [local go_sem] B_size B_append B_extract mk_B B_toList take_drop_len List.length_drop List.length_take sgn32 sgn64 add32 sub32 mul32 add64 sub64 mul64 mul64_8 and32 or32 xor32 and64 or64 xor64 shl32_run shr32_run shl64_run shr64_run not32 not32' xor32_all w_u32_u8 w_u64_u8 w_i64_u8 w_u8_u32 w_u8_u64 w_u32_u64 w_u64_u32 w_u8_u8 w_u32_u32 w_u64_u64
attribute [local go_sem ↓] run_index_B' add32 sub32 mul32 add64 sub64 mul64 mul64_8 and32 or32 xor32 and64 or64 xor64 shl32_run shr32_run shl64_run shr64_run not32 not32' xor32_all w_u32_u8 w_u64_u8 w_i64_u8 w_u8_u32 w_u8_u64 w_u32_u64 w_u64_u32 w_u8_u8 w_u32_u32 w_u64_u64 w_u64_nat w_u32_nat w_u8_nat
set_option maxRecDepth 4000
theorem lay_fc {G : List (Nat × Array Value)} (l : List UInt8) (x : UInt64) (size : Nat) (hs0 : 0 < size) (hs : size ≤ 8) (hl : l.length ≤ 70368744177664) :
    FC Tryd.prog G 47 [.sl (some 0) l.length (l.map bA), .v (.int .u64 (U64 x)), .v (.int .i64 (size : Int))] [some (.tip 5 1 l.length)] (.sl (some 1) (l.length + size) ((l ++ beS x size).map bA)) [none, some (.tip 5 1 (l.length + size))] := by
  refine FC.of_wp [6] Tryd.func47 rfl rfl rfl rfl ⟨⟨fun k hk => by cases hk; rfl, belL_b _ _⟩, trivial, trivial, trivial⟩ ⟨trivial, trivial⟩ (by exact Nat.le_of_ble_eq_true rfl) ?_
  intro A hG hnA hAB
  unfold start
  refine WP.from (SEnt.retip (t := 0) (c := 0) 1 rfl rfl rfl) ?_
  refine WP.rs hG ?_
  refine Ch.pu gdN (by exact ⟨rfl, trivial⟩) (OpS.assign) trivial rfl ?_
  refine Ch.nil ?_
  refine WP.seq ?_
  refine WP.rs hG ?_
  refine Ch.pu gdN (by exact ⟨rfl, trivial⟩) (OpS.move) trivial rfl ?_
  refine Ch.pu gdN (by exact ⟨rfl, rfl, trivial⟩) (OpS.int rfl (by first | exact wr64 (by omega) | exact rfl)) trivial rfl ?_
  refine Ch.pu gdN (by exact ⟨rfl, rfl, trivial⟩) (OpS.int rfl (by first | exact wr64 (by omega) | exact rfl)) trivial rfl ?_
  refine Ch.pu gdN (by exact ⟨rfl, trivial⟩) (OpS.assign) trivial rfl ?_
  refine Ch.nil ?_
  refine WP.block ?_
  refine WP.loop (fun k σ => ∃ (m : Nat) (at' : Int), (m + k = size ∧ at' = 8 * ((size : Int) - 1 - (m : Int))) ∧ σ = ⟨23, ls [(0, .sl (some 1) (l.length + m) ((l ++ beP x size m).map bA)), (1, .v (.int .u64 (U64 x))), (7, .v (.int .i64 at'))], lh [(1, .tip 5 1 (l.length + m))], blt 2⟩) (size) (Ent.of [] ?_ ?_ ?_ ?_).se ⟨0, 8 * ((size : Int) - 1), ⟨by omega, by omega⟩, rfl⟩ ?_
  · exact (fun i hi => by rw [hnA] at hi; simp only [List.length_cons, List.length_nil] at hi ⊢; first | exact absurd hi (Nat.not_lt_zero _) | (revert i; decide))
  · (repeat (first | exact trivial | (refine And.intro ⟨(by first | trivial | (simp; first | done | fail) | exact ⟨trivial, hbel _⟩), _, rfl, (by first | exact .rfl _ | exact .nil | exact .of_eq (by simp [beP_0]; first | done | fail) | exact AV.wk.sh (by simp [beP_0]; first | done | fail) | exact .untip _ _ _)⟩ ?_)))
  · (repeat (first | exact trivial | (refine And.intro ⟨rfl, (by first | trivial | (simp; first | done | fail) | exact ⟨trivial, hbel _⟩), (by first | rfl | (simp [beP_0]; first | done | fail))⟩ ?_)))
  · simp [rn]
  · rintro k σ ⟨m, at', ⟨hm, hat⟩, rfl⟩
    have hbs := beP_succ x size m
    have hbl := beP_length x size m
    have hsh := sh8 x (size - 1 - m)
    refine WP.seq ?_
    refine WP.rs hG ?_
    refine Ch.pu gdN (by exact ⟨rfl, trivial⟩) (OpS.move) trivial rfl ?_
    refine Ch.pu gdN (by exact ⟨rfl, rfl, trivial⟩) (OpS.int rfl (by first | exact wr64 (by omega) | exact rfl)) trivial rfl ?_
    refine Ch.nil ?_
    refine WP.cond rfl ?_ ?_
    · intro ht
      have ht' := of_decide_eq_true ht
      refine WP.skip ?_
      refine WP.seq ?_
      refine WP.block ?_
      refine WP.rg hG ?_
      refine Ch.pu gdN (by exact ⟨rfl, trivial⟩) (OpS.move) trivial rfl ?_
      refine Ch.pu gdN (by exact ⟨rfl, trivial⟩) (OpS.move) trivial rfl ?_
      refine Ch.pu gdN (by exact ⟨rfl, trivial⟩) (OpS.move) trivial rfl ?_
      refine Ch.pu gdN (by exact ⟨rfl, rfl, trivial⟩) (OpS.shr_u64 (j := 8 * (size - 1 - m)) (by omega) (by omega)) (by first | exact trivial | exact ⟨rfl, trivial⟩) rfl ?_
      refine Ch.pu gdN (by exact ⟨rfl, trivial⟩) (OpS.conv rfl rfl (by first | exact cv_u32_u8 _ | exact cv_u64_u8 _ | exact cv_i64_u8 _ | exact cv_u8_u32 _ | exact cv_u8_u64 _ | exact cv_u32_u64 _ | exact cv_u64_u32 _ | exact cv_u8_u8 _ | exact cv_u32_u32 _ | exact cv_u64_u64 _ | exact wr64 (by omega) | exact cv_u64_nat _ | exact cv_u32_nat _ | exact cv_u8_nat _ | exact rfl)) trivial rfl ?_
      refine Ch.pup gdN (by repeat (first | exact EvP.nil | (apply EvP.cons; exact rfl))) (OpS.slice1 rfl rfl rfl rfl rfl rfl (by rfl) rfl (by rfl)) rfl ?_
      refine Ch.al gdN (by exact ⟨rfl, rfl, trivial⟩) (OpS.append (sz := 1) (bb := 1) 2 rfl rfl rfl rfl rfl (by decide) (SrcA.sl rfl (by simp)) (by first | (simp; done) | (simp; assumption)) (by simp) (by unfold maxLen; omega) rfl (by omega)) (by first | exact trivial | exact ⟨rfl, trivial⟩) (by first | exact trivial | exact ⟨rfl, trivial⟩ | exact ⟨rfl, rfl, trivial⟩) rfl ?_
      refine Ch.pu gdN (by exact ⟨rfl, trivial⟩) (OpS.assign) trivial rfl ?_
      refine Ch.nil ?_
      refine WP.rg hG ?_
      refine Ch.pu gdN (by exact ⟨rfl, trivial⟩) (OpS.move) trivial rfl ?_
      refine Ch.pu gdN (by exact ⟨rfl, rfl, trivial⟩) (OpS.int rfl (by first | exact wr64 (by omega) | exact rfl)) trivial rfl ?_
      refine Ch.pu gdN (by exact ⟨rfl, trivial⟩) (OpS.assign) trivial rfl ?_
      refine Ch.nil ?_
      refine ⟨k - 1, _, by omega, (Ent.of [0, 2] ?_ ?_ ?_ ?_).se, m + 1, at' - 8, ⟨by omega, by omega⟩, rfl⟩
      · exact (fun i hi => by rw [hnA] at hi; simp only [List.length_cons, List.length_nil] at hi ⊢; first | exact absurd hi (Nat.not_lt_zero _) | (revert i; decide))
      · (repeat (first | exact trivial | (refine And.intro ⟨(by first | trivial | (simp; first | done | fail) | exact ⟨trivial, hbel _⟩), _, rfl, (by first | exact .rfl _ | exact .nil | exact .of_eq (by simp [hbs, hsh, Nat.add_assoc]; first | done | fail) | exact AV.wk.sh (by simp [hbs, hsh, Nat.add_assoc]; first | done | fail) | exact .untip _ _ _)⟩ ?_)))
      · (repeat (first | exact trivial | (refine And.intro ⟨rfl, (by first | trivial | (simp; first | done | fail) | exact ⟨trivial, hbel _⟩), (by first | rfl | (simp [hbs, hsh, Nat.add_assoc]; first | done | fail))⟩ ?_)))
      · simp [rn]
    · intro ht
      have ht' := of_decide_eq_false ht
      obtain rfl : m = size := by omega
      refine WP.exit ?_
      refine WP.rs hG ?_
      refine Ch.pu gdN (by exact ⟨rfl, trivial⟩) (OpS.move) trivial rfl ?_
      refine Ch.pu gdN (by exact ⟨rfl, trivial⟩) (OpS.assign) trivial rfl ?_
      refine Ch.nil ?_
      refine WP.ret ?_
      refine (Ret.of (rs := [6]) (vs := [.sl (some 1) (l.length + m) ((l ++ beS x m).map bA)]) (H' := [none, some (.tip 5 1 (l.length + m))]) (res := .sl (some 1) (l.length + m) ((l ++ beS x m).map bA)) [0, 1] ?_ ?_ rfl ?_ (by simp only [List.length_cons, List.length_nil]; decide) ?_).1
      · exact (fun i hi => by rw [hnA] at hi; simp only [List.length_cons, List.length_nil] at hi ⊢; first | exact absurd hi (Nat.not_lt_zero _) | (revert i; decide))
      · (repeat (first | exact trivial | (refine And.intro ⟨(by first | trivial | (simp; first | done | fail) | exact ⟨trivial, hbel _⟩), _, rfl, (by first | exact .rfl _ | exact .nil | exact .of_eq (by simp [beS]; first | done | fail) | exact AV.wk.sh (by simp [beS]; first | done | fail) | exact .untip _ _ _)⟩ ?_)))
      · (repeat (first | exact trivial | refine HFromL.skip ?_ | (refine And.intro ⟨(by first | trivial | (simp; first | done | fail) | exact ⟨trivial, hbel _⟩), (by first | rfl | (simp [beS]; first | done | fail) | (conv => rhs; simp only [AO.ren, AV.ren, AV.renL, Option.map_some, beS]) <;> rfl)⟩ ?_)))
      · rfl

/-- a writer that holds these bytes: an entry, and the row -/
abbrev wrH (l : List UInt8) : List (Option AO) := [some (.cells 71 [.sl (some 1) l.length (l.map bA)]), some (.tip 5 1 l.length)]
theorem newWriter_fc0 {G : List (Nat × Array Value)} : FC Tryd.prog G 21 [] [] (.ptr 0 0) [some (.cells 71 [.v (.slice none 0 0)])] := by
  refine FC.of_wp [0] Tryd.func21 rfl rfl rfl rfl (by first | trivial | (simp; first | done | fail) | exact ⟨trivial, hbel _⟩) (by first | trivial | (simp; first | done | fail) | exact ⟨trivial, hbel _⟩) (by exact Nat.le_of_ble_eq_true rfl) ?_
  intro A hG hnA hAB
  unfold start
  refine WP.rs hG ?_
  refine Ch.pu gdN (by exact ⟨rfl, trivial⟩) (OpS.assign) trivial rfl ?_
  refine Ch.nil ?_
  refine WP.rs hG ?_
  refine Ch.pup gdN (by repeat (first | exact EvP.nil | (apply EvP.cons; exact rfl))) (OpS.build (cs := [.v (.slice none 0 0)]) rfl rfl rfl rfl rfl (by rfl)) rfl ?_
  refine Ch.al gdN (by exact ⟨rfl, trivial⟩) (OpS.box 0 rfl) (by first | exact trivial | exact ⟨rfl, trivial⟩) (by first | exact trivial | exact ⟨rfl, trivial⟩ | exact ⟨rfl, rfl, trivial⟩) rfl ?_
  refine Ch.pu gdN (by exact ⟨rfl, trivial⟩) (OpS.assign) trivial rfl ?_
  refine Ch.nil ?_
  refine WP.ret ?_
  refine (Ret.of (rs := [0]) (vs := [.ptr 0 0]) (H' := [some (.cells 71 [.v (.slice none 0 0)])]) (res := .ptr 0 0) [0] ?_ ?_ rfl ?_ (by simp only [List.length_cons, List.length_nil]; decide) ?_).1
  · exact (fun i hi => by rw [hnA] at hi; simp only [List.length_cons, List.length_nil] at hi ⊢; first | exact absurd hi (Nat.not_lt_zero _) | (revert i; decide))
  · (repeat (first | exact trivial | (refine And.intro ⟨(by first | trivial | (simp; first | done | fail) | exact ⟨trivial, hbel _⟩), _, rfl, (by first | exact .rfl _ | exact .nil | exact .of_eq (by simp; first | done | fail) | exact AV.wk.sh (by simp; first | done | fail) | exact .untip _ _ _)⟩ ?_)))
  · (repeat (first | exact trivial | refine HFromL.skip ?_ | (refine And.intro ⟨(by first | trivial | (simp; first | done | fail) | exact ⟨trivial, hbel _⟩), (by first | rfl | (simp; first | done | fail))⟩ ?_)))
  · rfl
theorem newWriter_fc {G : List (Nat × Array Value)} : FC Tryd.prog G 21 [] [] (.ptr 0 0) (wrH []) :=
  newWriter_fc0.conv (Nat.zero_le _) fun A hA _ _ => by
    refine (SEnt.nilCell (id := 0) (off := 0) 1 5 1 rfl rfl rfl rfl).trans (Ent.se (π := rn []) ⟨rfl, fun i hi => ?_, fun t v ht => ?_, fun i o hi => ?_, fun i j oi oj _ _ h => h⟩)
    · rw [hA] at hi; exact absurd hi (Nat.not_lt_zero _)
    · have hm := ls_some ht
      simp only [List.mem_singleton, Prod.mk.injEq] at hm
      obtain ⟨rfl, rfl⟩ := hm
      exact ⟨rfl, _, rfl, .rfl _⟩
    · match i, hi with
      | 0, hi => cases hi; exact ⟨rfl, ⟨⟨fun k hk => by cases hk; rfl, trivial⟩, trivial⟩, rfl⟩
      | 1, hi => cases hi; exact ⟨rfl, trivial, rfl⟩
      | _ + 2, hi => cases hi
theorem wNum_fc {G : List (Nat × Array Value)} (l : List UInt8) (x : UInt64) (hl : l.length ≤ 70368744177664) :
    FC Tryd.prog G 22 [.ptr 0 0, .v (.int .u64 (U64 x))] (wrH l) (.tup []) [some (.cells 71 [.sl (some 2) (l ++ beS x 8).length ((l ++ beS x 8).map bA)]), none, some (.tip 5 1 (l ++ beS x 8).length)] := by
  have hbl := beS_length x 8
  refine FC.of_wp [] Tryd.func22 rfl rfl rfl rfl ⟨rfl, trivial, trivial⟩ ⟨⟨⟨fun k hk => by cases hk; rfl, belL_b _ _⟩, trivial⟩, trivial, trivial⟩ (by exact Nat.le_of_ble_eq_true rfl) ?_
  intro A hG hnA hAB
  unfold start
  refine WP.rg hG ?_
  refine Ch.pu gdN (by exact ⟨rfl, trivial⟩) (OpS.move) trivial rfl ?_
  refine Ch.pu gdN (by exact ⟨rfl, trivial⟩) (OpS.move) trivial rfl ?_
  refine Ch.pu gdN (by exact ⟨rfl, trivial⟩) (OpS.nilCheckP) (by first | exact trivial | exact ⟨rfl, trivial⟩) rfl ?_
  refine Ch.pu gdN (by exact ⟨rfl, trivial⟩) (OpS.fieldAddr rfl rfl rfl rfl) (by first | exact trivial | exact ⟨rfl, trivial⟩) rfl ?_
  refine Ch.pu gdN (by exact ⟨rfl, trivial⟩) (OpS.loadP rfl rfl rfl) (by first | exact trivial | exact ⟨rfl, trivial⟩) rfl ?_
  refine Ch.pu gdN (by exact ⟨rfl, trivial⟩) (OpS.move) trivial rfl ?_
  refine Ch.callH (FC.split (lay_fc l x 8 (by decide) (by decide) hl)) [1] 2 gdN (by repeat (first | exact EvL.nil | (apply EvL.cons; exact rfl))) (by exact (And.intro (by first | exact .rfl _ | exact .untip _ _ _ | exact .nil | exact .func _ | exact AV.wk.sh (renL_s _ _) | exact AV.wk.tip rfl (by first | exact renL_b _ _ | exact renL_s _ _ | exact renL_i _ _ | exact renL_w _ _) | exact AV.wk.sh (by simp; first | done | fail)) (And.intro (by first | exact .rfl _ | exact .untip _ _ _ | exact .nil | exact .func _ | exact AV.wk.sh (renL_s _ _) | exact AV.wk.tip rfl (by first | exact renL_b _ _ | exact renL_s _ _ | exact renL_i _ _ | exact renL_w _ _) | exact AV.wk.sh (by simp; first | done | fail)) (And.intro (by first | exact .rfl _ | exact .untip _ _ _ | exact .nil | exact .func _ | exact AV.wk.sh (renL_s _ _) | exact AV.wk.tip rfl (by first | exact renL_b _ _ | exact renL_s _ _ | exact renL_i _ _ | exact renL_w _ _) | exact AV.wk.sh (by simp; first | done | fail)) trivial)))) rfl rfl (by decide) (by decide) (by first | ((conv => lhs; simp only [AV.ren, AV.renL, AO.ren, renL_b, renL_s, renL_w, renL_i, renL_append, ren_b, ren_s, ren_w, ren_i, pi_n, pi_0, pi_s, pi_1, pi_2, pi_3, pi_4, chOld, chNew, nuNew, hpl, Option.map_some, Option.map_none, List.length_cons, List.length_nil, List.take_succ_cons, List.take_zero, List.take_nil, List.drop_succ_cons, List.drop_zero, List.drop_nil, List.cons_append, List.nil_append, Nat.zero_add, Nat.add_zero, Nat.reduceAdd]); all_goals rfl) | rfl) (by first | ((conv => lhs; simp only [AV.ren, AV.renL, AO.ren, renL_b, renL_s, renL_w, renL_i, renL_append, ren_b, ren_s, ren_w, ren_i, pi_n, pi_0, pi_s, pi_1, pi_2, pi_3, pi_4, chOld, chNew, nuNew, hpl, Option.map_some, Option.map_none, List.length_cons, List.length_nil, List.take_succ_cons, List.take_zero, List.take_nil, List.drop_succ_cons, List.drop_zero, List.drop_nil, List.cons_append, List.nil_append, Nat.zero_add, Nat.add_zero, Nat.reduceAdd]); all_goals rfl) | rfl) (by first | ((conv => lhs; simp only [AV.ren, AV.renL, AO.ren, renL_b, renL_s, renL_w, renL_i, renL_append, ren_b, ren_s, ren_w, ren_i, pi_n, pi_0, pi_s, pi_1, pi_2, pi_3, pi_4, chOld, chNew, nuNew, hpl, Option.map_some, Option.map_none, List.length_cons, List.length_nil, List.take_succ_cons, List.take_zero, List.take_nil, List.drop_succ_cons, List.drop_zero, List.drop_nil, List.cons_append, List.nil_append, Nat.zero_add, Nat.add_zero, Nat.reduceAdd]); all_goals rfl) | rfl) (by first | ((conv => lhs; simp only [AV.ren, AV.renL, AO.ren, renL_b, renL_s, renL_w, renL_i, renL_append, ren_b, ren_s, ren_w, ren_i, pi_n, pi_0, pi_s, pi_1, pi_2, pi_3, pi_4, chOld, chNew, nuNew, hpl, Option.map_some, Option.map_none, List.length_cons, List.length_nil, List.take_succ_cons, List.take_zero, List.take_nil, List.drop_succ_cons, List.drop_zero, List.drop_nil, List.cons_append, List.nil_append, Nat.zero_add, Nat.add_zero, Nat.reduceAdd]); all_goals rfl) | rfl) (by first | exact trivial | exact ⟨rfl, trivial⟩ | exact ⟨rfl, rfl, trivial⟩ | exact ⟨rfl, rfl, rfl, trivial⟩ | exact ⟨rfl, rfl, rfl, rfl, trivial⟩) (by first | exact trivial | exact ⟨rfl, trivial⟩ | exact ⟨rfl, rfl, trivial⟩ | exact ⟨rfl, rfl, rfl, trivial⟩ | exact ⟨rfl, rfl, rfl, rfl, trivial⟩) rfl ?_
  refine Ch.pu gdN (by exact ⟨rfl, trivial⟩) (OpS.nilCheckP) (by first | exact trivial | exact ⟨rfl, trivial⟩) rfl ?_
  refine Ch.pu gdN (by exact ⟨rfl, trivial⟩) (OpS.fieldAddr rfl rfl rfl rfl) (by first | exact trivial | exact ⟨rfl, trivial⟩) rfl ?_
  refine Ch.wr gdN (by exact ⟨rfl, rfl, trivial⟩) (OpS.storeP (cs := [.sl (some 1) l.length (l.map bA)]) rfl rfl rfl (by simp)) (by first | exact trivial | exact ⟨rfl, trivial⟩) (by first | exact trivial | exact ⟨rfl, trivial⟩ | exact ⟨rfl, rfl, trivial⟩) ?_
  refine Ch.nil ?_
  refine (Ret.of (rs := []) (vs := []) (H' := [some (.cells 71 [.sl (some 2) (l ++ beS x 8).length ((l ++ beS x 8).map bA)]), none, some (.tip 5 1 (l ++ beS x 8).length)]) (res := .tup []) [0, 1, 2] ?_ ?_ rfl ?_ (by simp only [List.length_cons, List.length_nil]; decide) ?_).2
  · exact (fun i hi => by rw [hnA] at hi; simp only [List.length_cons, List.length_nil] at hi ⊢; first | exact absurd hi (Nat.not_lt_zero _) | (revert i; decide))
  · (repeat (first | exact trivial | (refine And.intro ⟨(by first | trivial | (simp; first | done | fail) | exact ⟨trivial, hbel _⟩), _, rfl, (by first | exact .rfl _ | exact .nil | exact .of_eq (by simp [hbl]; first | done | fail) | exact AV.wk.sh (by simp [hbl]; first | done | fail) | exact .untip _ _ _)⟩ ?_)))
  · (repeat (first | exact trivial | refine HFromL.skip ?_ | (refine And.intro ⟨(by first | trivial | (simp; first | done | fail) | exact ⟨trivial, hbel _⟩), (by first | rfl | (simp [hbl]; first | done | fail) | (conv => rhs; simp only [AO.ren, AV.ren, AV.renL, Option.map_some, hbl]) <;> rfl)⟩ ?_)))
  · exact ⟨_, rfl, rfl, by simp [ls, TsOk, List.zip, List.zipWith]⟩
theorem wBytes_fc {G : List (Nat × Array Value)} (l : List UInt8) : FC Tryd.prog G 26 [.ptr 0 0] (wrH l) (sA l) (wrH l) := by
  refine FC.of_wp [2] Tryd.func26 rfl rfl rfl rfl ⟨rfl, trivial⟩ ⟨⟨⟨fun k hk => by cases hk; rfl, belL_b _ _⟩, trivial⟩, trivial, trivial⟩ (by exact Nat.le_of_ble_eq_true rfl) ?_
  intro A hG hnA hAB
  unfold start
  refine WP.rs hG ?_
  refine Ch.pu gdN (by exact ⟨rfl, trivial⟩) (OpS.assign) trivial rfl ?_
  refine Ch.nil ?_
  refine WP.rs hG ?_
  refine Ch.pu gdN (by exact ⟨rfl, trivial⟩) (OpS.move) trivial rfl ?_
  refine Ch.pu gdN (by exact ⟨rfl, trivial⟩) (OpS.nilCheckP) (by first | exact trivial | exact ⟨rfl, trivial⟩) rfl ?_
  refine Ch.pu gdN (by exact ⟨rfl, trivial⟩) (OpS.fieldAddr rfl rfl rfl rfl) (by first | exact trivial | exact ⟨rfl, trivial⟩) rfl ?_
  refine Ch.pu gdN (by exact ⟨rfl, trivial⟩) (OpS.loadP rfl rfl rfl) (by first | exact trivial | exact ⟨rfl, trivial⟩) rfl ?_
  refine Ch.pu gdN (by exact ⟨rfl, trivial⟩) (OpS.b2s rfl rfl rfl (by first | rfl | (simp; done) | omega)) (by first | exact trivial | exact ⟨rfl, trivial⟩) rfl ?_
  refine Ch.pu gdN (by exact ⟨rfl, trivial⟩) (OpS.assign) trivial rfl ?_
  refine Ch.nil ?_
  refine WP.ret ?_
  refine (Ret.of (rs := [2]) (vs := [sA l]) (H' := wrH l) (res := sA l) [0, 1] ?_ ?_ rfl ?_ (by simp only [List.length_cons, List.length_nil]; decide) ?_).1
  · exact (fun i hi => by rw [hnA] at hi; simp only [List.length_cons, List.length_nil] at hi ⊢; first | exact absurd hi (Nat.not_lt_zero _) | (revert i; decide))
  · (repeat (first | exact trivial | (refine And.intro ⟨(by first | trivial | (simp; first | done | fail) | exact ⟨trivial, hbel _⟩), _, rfl, (by first | exact .rfl _ | exact .nil | exact .of_eq (by simp; first | done | fail) | exact AV.wk.sh (by simp; first | done | fail) | exact .untip _ _ _)⟩ ?_)))
  · (repeat (first | exact trivial | refine HFromL.skip ?_ | (refine And.intro ⟨(by first | trivial | (simp; first | done | fail) | exact ⟨trivial, hbel _⟩), (by first | rfl | (simp; first | done | fail))⟩ ?_)))
  · rfl
end Go.Proofs.YtcojfnjpcpochaaDoor.E
end
section
/- The document's own writer of layer 2, by abstract steps. -/
namespace Go.Proofs.YtcojfnjpcpochaaDoor.E
open Go Go.RowKit Go.Proofs.YtcojfnjpcpochaaDoor.V
attribute [local go_sem] B_size B_append B_extract mk_B B_toList take_drop_len List.length_drop List.length_take sgn32 sgn64 add32 sub32 mul32 add64 sub64 mul64 mul64_8 and32 or32 xor32 and64 or64 xor64 shl32_run shr32_run shl64_run shr64_run not32 not32' xor32_all w_u32_u8 w_u64_u8 w_i64_u8 w_u8_u32 w_u8_u64 w_u32_u64 w_u64_u32 w_u8_u8 w_u32_u32 w_u64_u64
attribute [local go_sem ↓] run_index_B' add32 sub32 mul32 add64 sub64 mul64 mul64_8 and32 or32 xor32 and64 or64 xor64 shl32_run shr32_run shl64_run shr64_run not32 not32' xor32_all w_u32_u8 w_u64_u8 w_i64_u8 w_u8_u32 w_u8_u64 w_u32_u64 w_u64_u32 w_u8_u8 w_u32_u32 w_u64_u64 w_u64_nat w_u32_nat w_u8_nat
set_option maxRecDepth 4000
theorem u64q (x : UInt64) (m : Nat) : ((x.toNat / 256 ^ m : Nat) : Int) / 256 = ((x.toNat / 256 ^ (m + 1) : Nat) : Int) := by
  rw [Nat.pow_succ, ← Nat.div_div_eq_div_mul]
  omega
theorem rowN_cells (x : UInt64) (many : Nat) : (((rowN x many many).map bA).drop 0).take many = (beS x many).map bA := by
  rw [rowN_all, List.drop_zero, List.take_of_length_le (by simp [beS_length])]
theorem rowN_start (x : UInt64) (many : Nat) : List.replicate many (.v (.int .u8 0) : AV) = (rowN x many 0).map bA := by
  rw [rowN_0, List.map_replicate]
  rfl
theorem setA (l : List UInt8) (i : Nat) (b : UInt8) : (l.map bA).set i (.v (.int .u8 (U8 b))) = (l.set i b).map bA := by
  rw [List.map_set]
  rfl
theorem number_fc {G : List (Nat × Array Value)} (x : UInt64) (many : Nat) (h8 : many ≤ 8) :
    FC Tryd.prog G 58 [.v (.int .u64 (U64 x)), .v (.int .i64 (many : Int))] [] (sA (beS x many)) [] := by
  have hx := x.toNat_lt
  refine FC.of_wp [4] Tryd.func58 rfl rfl rfl rfl (by first | trivial | (simp; first | done | fail) | exact ⟨trivial, hbel _⟩) (by first | trivial | (simp; first | done | fail) | exact ⟨trivial, hbel _⟩) (by exact Nat.le_of_ble_eq_true rfl) ?_
  intro A hG hnA hAB
  unfold start
  refine WP.rs hG ?_
  refine Ch.pu gdN (by exact ⟨rfl, trivial⟩) (OpS.assign) trivial rfl ?_
  refine Ch.nil ?_
  refine WP.rs hG ?_
  refine Ch.pu gdN (by exact ⟨rfl, trivial⟩) (OpS.move) trivial rfl ?_
  refine Ch.al gdN (by exact ⟨rfl, rfl, trivial⟩) (OpS.makeB (n := many) (bb := 1) 0 rfl rfl rfl rfl rfl rfl rfl rfl (by omega) (by unfold maxLen; omega)) (by first | exact trivial | exact ⟨rfl, trivial⟩) (by first | exact trivial | exact ⟨rfl, trivial⟩ | exact ⟨rfl, rfl, trivial⟩) rfl ?_
  refine Ch.pu gdN (by exact ⟨rfl, trivial⟩) (OpS.assign) trivial rfl ?_
  refine Ch.nil ?_
  refine WP.seq ?_
  refine WP.rs hG ?_
  refine Ch.pu gdN (by exact ⟨rfl, trivial⟩) (OpS.move) trivial rfl ?_
  refine Ch.pu gdN (by exact ⟨rfl, rfl, trivial⟩) (OpS.int rfl (by first | exact wr64 (by omega) | exact rfl)) trivial rfl ?_
  refine Ch.pu gdN (by exact ⟨rfl, trivial⟩) (OpS.assign) trivial rfl ?_
  refine Ch.nil ?_
  refine WP.block ?_
  refine WP.loop (fun k σ => ∃ (m y : Nat) (i : Int), (m + k = many ∧ i = (many : Int) - 1 - m ∧ y = x.toNat / 256 ^ m) ∧ σ = ⟨25, ls [(0, .v (.int .u64 (y : Int))), (5, .arr 0 0 many), (6, .v (.int .i64 i))], lh [(0, .cells 5 ((rowN x many m).map bA))], blt 1⟩) (many) (Ent.of [] ?_ ?_ ?_ ?_).se ⟨0, x.toNat, (many : Int) - 1, ⟨by omega, by omega, by simp⟩, rfl⟩ ?_
  · exact (fun i hi => by rw [hnA] at hi; simp only [List.length_cons, List.length_nil] at hi ⊢; first | exact absurd hi (Nat.not_lt_zero _) | (revert i; decide))
  · (repeat (first | exact trivial | (refine And.intro ⟨(by first | trivial | (simp; first | done | fail) | exact ⟨trivial, hbel _⟩), _, rfl, (by first | exact .rfl _ | exact .nil | exact .of_eq (by simp [rowN_start x]; first | done | fail) | exact AV.wk.sh (by simp [rowN_start x]; first | done | fail) | exact .untip _ _ _)⟩ ?_)))
  · (repeat (first | exact trivial | (refine And.intro ⟨rfl, (by first | trivial | (simp; first | done | fail) | exact ⟨trivial, hbel _⟩), (by first | rfl | (simp [rowN_start x]; first | done | fail))⟩ ?_)))
  · simp [rn]
  · rintro k σ ⟨m, y, i, ⟨hm, hi, hy⟩, rfl⟩
    have hy2 : y ≤ x.toNat := by rw [hy]; exact Nat.div_le_self _ _
    have hrl := rowN_length x many m (by omega)
    refine WP.seq ?_
    refine WP.rs hG ?_
    refine Ch.pu gdN (by exact ⟨rfl, trivial⟩) (OpS.move) trivial rfl ?_
    refine Ch.pu gdN (by exact ⟨rfl, rfl, trivial⟩) (OpS.int rfl (by first | exact wr64 (by omega) | exact rfl)) trivial rfl ?_
    refine Ch.nil ?_
    refine WP.cond rfl ?_ ?_
    · intro ht
      have ht' := of_decide_eq_true ht
      have hrs := rowN_set x many m (by omega)
      have hit : i.toNat = many - 1 - m := by omega
      rw [← hy, ← hit] at hrs
      refine WP.skip ?_
      refine WP.seq ?_
      refine WP.block ?_
      refine WP.rs hG ?_
      refine Ch.pu gdN (by exact ⟨rfl, trivial⟩) (OpS.move) trivial rfl ?_
      refine Ch.pu gdN (by exact ⟨rfl, trivial⟩) (OpS.move) trivial rfl ?_
      refine Ch.pu gdN (by exact ⟨rfl, trivial⟩) (OpS.move) trivial rfl ?_
      refine Ch.pu gdN (by exact ⟨rfl, rfl, trivial⟩) (OpS.rem (by omega) (by omega)) trivial rfl ?_
      refine Ch.pu gdN (by exact ⟨rfl, trivial⟩) (OpS.conv (k := .u8) rfl rfl (cv_mod y)) trivial rfl ?_
      refine Ch.pu gdN (by exact ⟨rfl, rfl, trivial⟩) (OpS.indexAddrA (sz := 1) rfl rfl rfl (by omega) (by omega)) (by first | exact trivial | exact ⟨rfl, trivial⟩) rfl ?_
      refine Ch.wr gdN (by exact ⟨rfl, rfl, trivial⟩) (OpS.storeP (cs := (rowN x many m).map bA) rfl rfl rfl (by rw [List.length_map, hrl]; omega)) (by first | exact trivial | exact ⟨rfl, trivial⟩) (by first | exact trivial | exact ⟨rfl, trivial⟩ | exact ⟨rfl, rfl, trivial⟩) ?_
      refine Ch.nil ?_
      refine WP.rg hG ?_
      refine Ch.pu gdN (by exact ⟨rfl, trivial⟩) (OpS.move) trivial rfl ?_
      refine Ch.pu gdN (by exact ⟨rfl, rfl, trivial⟩) (OpS.quoU (by omega) (by omega) (by omega)) (by first | exact trivial | exact ⟨rfl, trivial⟩) rfl ?_
      refine Ch.pu gdN (by exact ⟨rfl, trivial⟩) (OpS.assign) trivial rfl ?_
      refine Ch.nil ?_
      refine WP.rg hG ?_
      refine Ch.pu gdN (by exact ⟨rfl, trivial⟩) (OpS.move) trivial rfl ?_
      refine Ch.pu gdN (by exact ⟨rfl, rfl, trivial⟩) (OpS.int rfl (by first | exact wr64 (by omega) | exact rfl)) trivial rfl ?_
      refine Ch.pu gdN (by exact ⟨rfl, trivial⟩) (OpS.assign) trivial rfl ?_
      refine Ch.nil ?_
      refine ⟨k - 1, _, by omega, (Ent.of [0] ?_ ?_ ?_ ?_).se, m + 1, y / 256, i - 1, ⟨by omega, by omega, by rw [hy, Nat.pow_succ, ← Nat.div_div_eq_div_mul]⟩, rfl⟩
      · exact (fun i hi => by rw [hnA] at hi; simp only [List.length_cons, List.length_nil] at hi ⊢; first | exact absurd hi (Nat.not_lt_zero _) | (revert i; decide))
      · (repeat (first | exact trivial | (refine And.intro ⟨(by first | trivial | (simp; first | done | fail) | exact ⟨trivial, hbel _⟩), _, rfl, (by first | exact .rfl _ | exact .nil | exact .of_eq (by simp [setA, hrs]; first | done | fail) | exact AV.wk.sh (by simp [setA, hrs]; first | done | fail) | exact .untip _ _ _)⟩ ?_)))
      · (repeat (first | exact trivial | (refine And.intro ⟨rfl, (by first | trivial | (simp; first | done | fail) | exact ⟨trivial, hbel _⟩), (by first | rfl | (simp [setA, hrs]; first | done | fail))⟩ ?_)))
      · simp [rn]
    · intro ht
      have ht' := of_decide_eq_false ht
      obtain rfl : m = many := by omega
      refine WP.exit ?_
      refine WP.rs hG ?_
      refine Ch.pu gdN (by exact ⟨rfl, trivial⟩) (OpS.move) trivial rfl ?_
      refine Ch.pu gdN (by exact ⟨rfl, trivial⟩) (OpS.b2sA (l := beS x m) rfl rfl rfl (beS_length x m).symm (rowN_cells x m)) (by first | exact trivial | exact ⟨rfl, trivial⟩) rfl ?_
      refine Ch.pu gdN (by exact ⟨rfl, trivial⟩) (OpS.assign) trivial rfl ?_
      refine Ch.nil ?_
      refine WP.ret (Ret.one rfl (by first | exact .rfl _ | exact .nil | exact .of_eq (by simp; first | done | fail) | exact AV.wk.sh (by simp; first | done | fail) | exact .untip _ _ _) (by first | trivial | simp [AV.bel]) hnA)
abbrev rwH (l : List UInt8) : List (Option AO) := [some (.cells 88 [sA l])]
theorem rnewWriter_fc {G : List (Nat × Array Value)} : FC Tryd.prog G 29 [] [] (.ptr 0 0) (rwH []) := by
  refine FC.of_wp [0] Tryd.func29 rfl rfl rfl rfl (by first | trivial | (simp; first | done | fail) | exact ⟨trivial, hbel _⟩) (by first | trivial | (simp; first | done | fail) | exact ⟨trivial, hbel _⟩) (by exact Nat.le_of_ble_eq_true rfl) ?_
  intro A hG hnA hAB
  unfold start
  refine WP.rs hG ?_
  refine Ch.pu gdN (by exact ⟨rfl, trivial⟩) (OpS.assign) trivial rfl ?_
  refine Ch.nil ?_
  refine WP.rs hG ?_
  refine Ch.pup gdN (by repeat (first | exact EvP.nil | (apply EvP.cons; exact rfl))) (OpS.build (cs := [sA []]) rfl rfl rfl rfl rfl (by rfl)) rfl ?_
  refine Ch.al gdN (by exact ⟨rfl, trivial⟩) (OpS.box 0 rfl) (by first | exact trivial | exact ⟨rfl, trivial⟩) (by first | exact trivial | exact ⟨rfl, trivial⟩ | exact ⟨rfl, rfl, trivial⟩) rfl ?_
  refine Ch.pu gdN (by exact ⟨rfl, trivial⟩) (OpS.assign) trivial rfl ?_
  refine Ch.nil ?_
  refine WP.ret ?_
  refine (Ret.of (rs := [0]) (vs := [.ptr 0 0]) (H' := rwH []) (res := .ptr 0 0) [0] ?_ ?_ rfl ?_ (by simp only [List.length_cons, List.length_nil]; decide) ?_).1
  · exact (fun i hi => by rw [hnA] at hi; simp only [List.length_cons, List.length_nil] at hi ⊢; first | exact absurd hi (Nat.not_lt_zero _) | (revert i; decide))
  · (repeat (first | exact trivial | (refine And.intro ⟨(by first | trivial | (simp; first | done | fail) | exact ⟨trivial, hbel _⟩), _, rfl, (by first | exact .rfl _ | exact .nil | exact .of_eq (by simp; first | done | fail) | exact AV.wk.sh (by simp; first | done | fail) | exact .untip _ _ _)⟩ ?_)))
  · (repeat (first | exact trivial | refine HFromL.skip ?_ | (refine And.intro ⟨(by first | trivial | (simp; first | done | fail) | exact ⟨trivial, hbel _⟩), (by first | rfl | (simp; first | done | fail))⟩ ?_)))
  · rfl
theorem rwNum_fc {G : List (Nat × Array Value)} (l : List UInt8) (x : UInt64) (hl : l.length ≤ 70368744177664) :
    FC Tryd.prog G 30 [.ptr 0 0, .v (.int .u64 (U64 x))] (rwH l) (.tup []) (rwH (l ++ beS x 8)) := by
  have hbl := beS_length x 8
  refine FC.of_wp [] Tryd.func30 rfl rfl rfl rfl ⟨rfl, trivial, trivial⟩ ⟨⟨trivial, trivial⟩, trivial⟩ (by exact Nat.le_of_ble_eq_true rfl) ?_
  intro A hG hnA hAB
  unfold start
  refine WP.rgD (by kernel_rfl) hG ?_
  refine Ch.pu gdN (by exact ⟨rfl, trivial⟩) (OpS.move) trivial rfl ?_
  refine Ch.pu gdN (by exact ⟨rfl, trivial⟩) (OpS.move) trivial rfl ?_
  refine Ch.pu gdN (by exact ⟨rfl, trivial⟩) (OpS.nilCheckP) (by first | exact trivial | exact ⟨rfl, trivial⟩) rfl ?_
  refine Ch.pu gdN (by exact ⟨rfl, trivial⟩) (OpS.fieldAddr rfl rfl rfl rfl) (by first | exact trivial | exact ⟨rfl, trivial⟩) rfl ?_
  refine Ch.pu gdN (by exact ⟨rfl, trivial⟩) (OpS.loadP rfl rfl rfl) (by first | exact trivial | exact ⟨rfl, trivial⟩) rfl ?_
  refine Ch.pu gdN (by exact ⟨rfl, trivial⟩) (OpS.move) trivial rfl ?_
  refine Ch.callP (number_fc x 8 (by decide)) gdN (by repeat (first | exact EvL.nil | (apply EvL.cons; exact rfl))) (by exact (And.intro (by first | exact .rfl _ | exact .untip _ _ _ | exact .nil | exact .func _ | exact AV.wk.sh (renL_s _ _) | exact AV.wk.sh (by simp; first | done | fail)) (And.intro (by first | exact .rfl _ | exact .untip _ _ _ | exact .nil | exact .func _ | exact AV.wk.sh (renL_s _ _) | exact AV.wk.sh (by simp; first | done | fail)) trivial))) (by rfl) rfl ?_
  refine Ch.pu gdN (by exact ⟨rfl, rfl, trivial⟩) (OpS.strAdd (by omega)) trivial rfl ?_
  refine Ch.pu gdN (by exact ⟨rfl, trivial⟩) (OpS.nilCheckP) (by first | exact trivial | exact ⟨rfl, trivial⟩) rfl ?_
  refine Ch.pu gdN (by exact ⟨rfl, trivial⟩) (OpS.fieldAddr rfl rfl rfl rfl) (by first | exact trivial | exact ⟨rfl, trivial⟩) rfl ?_
  refine Ch.wr gdN (by exact ⟨rfl, rfl, trivial⟩) (OpS.storeP (cs := [sA l]) rfl rfl rfl (by simp)) (by first | exact trivial | exact ⟨rfl, trivial⟩) (by first | exact trivial | exact ⟨rfl, trivial⟩ | exact ⟨rfl, rfl, trivial⟩) ?_
  refine Ch.nilD ?_ (by kernel_rfl)
  refine (Ret.of (rs := []) (vs := []) (H' := rwH (l ++ beS x 8)) (res := .tup []) [0] ?_ ?_ rfl ?_ (by simp only [List.length_cons, List.length_nil]; decide) ?_).2
  · exact (fun i hi => by rw [hnA] at hi; simp only [List.length_cons, List.length_nil] at hi ⊢; first | exact absurd hi (Nat.not_lt_zero _) | (revert i; decide))
  · (repeat (first | exact trivial | (refine And.intro ⟨(by first | trivial | (simp; first | done | fail) | exact ⟨trivial, hbel _⟩), _, rfl, (by first | exact .rfl _ | exact .nil | exact .of_eq (by simp; first | done | fail) | exact AV.wk.sh (by simp; first | done | fail) | exact .untip _ _ _)⟩ ?_)))
  · (repeat (first | exact trivial | refine HFromL.skip ?_ | (refine And.intro ⟨(by first | trivial | (simp; first | done | fail) | exact ⟨trivial, hbel _⟩), (by first | rfl | (simp; first | done | fail))⟩ ?_)))
  · exact ⟨_, rfl, rfl, by simp [ls, TsOk, List.zip, List.zipWith]⟩
theorem rwBytes_fc {G : List (Nat × Array Value)} (l : List UInt8) : FC Tryd.prog G 34 [.ptr 0 0] (rwH l) (sA l) (rwH l) := by
  refine FC.of_wp [2] Tryd.func34 rfl rfl rfl rfl ⟨rfl, trivial⟩ ⟨⟨trivial, trivial⟩, trivial⟩ (by exact Nat.le_of_ble_eq_true rfl) ?_
  intro A hG hnA hAB
  unfold start
  refine WP.rs hG ?_
  refine Ch.pu gdN (by exact ⟨rfl, trivial⟩) (OpS.assign) trivial rfl ?_
  refine Ch.nil ?_
  refine WP.rs hG ?_
  refine Ch.pu gdN (by exact ⟨rfl, trivial⟩) (OpS.move) trivial rfl ?_
  refine Ch.pu gdN (by exact ⟨rfl, trivial⟩) (OpS.nilCheckP) (by first | exact trivial | exact ⟨rfl, trivial⟩) rfl ?_
  refine Ch.pu gdN (by exact ⟨rfl, trivial⟩) (OpS.fieldAddr rfl rfl rfl rfl) (by first | exact trivial | exact ⟨rfl, trivial⟩) rfl ?_
  refine Ch.pu gdN (by exact ⟨rfl, trivial⟩) (OpS.loadP rfl rfl rfl) (by first | exact trivial | exact ⟨rfl, trivial⟩) rfl ?_
  refine Ch.pu gdN (by exact ⟨rfl, trivial⟩) (OpS.assign) trivial rfl ?_
  refine Ch.nil ?_
  refine WP.ret ?_
  refine (Ret.of (rs := [2]) (vs := [sA l]) (H' := rwH l) (res := sA l) [0] ?_ ?_ rfl ?_ (by simp only [List.length_cons, List.length_nil]; decide) ?_).1
  · exact (fun i hi => by rw [hnA] at hi; simp only [List.length_cons, List.length_nil] at hi ⊢; first | exact absurd hi (Nat.not_lt_zero _) | (revert i; decide))
  · (repeat (first | exact trivial | (refine And.intro ⟨(by first | trivial | (simp; first | done | fail) | exact ⟨trivial, hbel _⟩), _, rfl, (by first | exact .rfl _ | exact .nil | exact .of_eq (by simp; first | done | fail) | exact AV.wk.sh (by simp; first | done | fail) | exact .untip _ _ _)⟩ ?_)))
  · (repeat (first | exact trivial | refine HFromL.skip ?_ | (refine And.intro ⟨(by first | trivial | (simp; first | done | fail) | exact ⟨trivial, hbel _⟩), (by first | rfl | (simp; first | done | fail))⟩ ?_)))
  · rfl
end Go.Proofs.YtcojfnjpcpochaaDoor.E
end
section
/- What layer 5 computes, in plain Lean: digits, steps, walks, keys, signatures; and the stage's theorems on them. -/
namespace Go.Proofs.YtcojfnjpcpochaaDoor.V
abbrev Txw := List UInt8
def nrm (n : Int) : Nat := if n < 0 ∨ 4294967296 < n then 0 else n.toNat
theorem nrm_le (n : Int) : nrm n ≤ 4294967296 := by unfold nrm; split <;> omega
def laidN (n : Int) : Txw := beS (UInt64.ofNat (nrm n)) 8
theorem laidN_length (n : Int) : (laidN n).length = 8 := beS_length _ _
def hiD (d : Txw) (i : Nat) : Nat := (nth d i).toNat / 16
def loD (d : Txw) (i : Nat) : Nat := (nth d i).toNat % 16
theorem hiD_lt (d : Txw) (i : Nat) : hiD d i < 16 := by unfold hiD; have := (nth d i).toNat_lt; omega
theorem loD_lt (d : Txw) (i : Nat) : loD d i < 16 := by unfold loD; omega
def dgs (d : Txw) : Nat → List Nat
  | 0 => []
  | m + 1 => dgs d m ++ [hiD d m, loD d m]
def lackD (d : Txw) : Nat → Nat
  | 0 => 0
  | m + 1 => lackD d m + (30 - hiD d m - loD d m)
theorem dgs_length (d : Txw) : ∀ m, (dgs d m).length = 2 * m
  | 0 => rfl
  | m + 1 => by simp [dgs, dgs_length d m]; omega
theorem lackD_le (d : Txw) : ∀ m, lackD d m ≤ 30 * m
  | 0 => Nat.le_refl _
  | m + 1 => by have := lackD_le d m; simp only [lackD]; omega
def digitsD (d : Txw) : List Nat := dgs d 4 ++ [lackD d 4 / 16, lackD d 4 % 16]
def digitsT (msg : Txw) : List Nat := digitsD (tag 1 [msg])
theorem digitsT_length (msg : Txw) : (digitsT msg).length = 10 := by simp [digitsT, digitsD, dgs_length]
def nget (l : List Nat) (i : Nat) : Nat := l[i]?.getD 0
/-- the digits, one by one -/
theorem digitsD_list (d : Txw) : digitsD d = [hiD d 0, loD d 0, hiD d 1, loD d 1, hiD d 2, loD d 2, hiD d 3, loD d 3, lackD d 4 / 16, lackD d 4 % 16] := rfl
theorem digits_ten (d : Txw) : ∃ a0 a1 a2 a3 a4 a5 a6 a7 a8 a9 : Nat, digitsD d = [a0, a1, a2, a3, a4, a5, a6, a7, a8, a9] ∧ a0 < 16 ∧ a1 < 16 ∧ a2 < 16 ∧ a3 < 16 ∧ a4 < 16 ∧ a5 < 16 ∧ a6 < 16 ∧ a7 < 16 ∧ a8 < 16 ∧ a9 < 16 ∧
    (15 - a0) + (15 - a1) + (15 - a2) + (15 - a3) + (15 - a4) + (15 - a5) + (15 - a6) + (15 - a7) = 16 * a8 + a9 := by
  have h0 := hiD_lt d 0; have h1 := loD_lt d 0; have h2 := hiD_lt d 1; have h3 := loD_lt d 1; have h4 := hiD_lt d 2; have h5 := loD_lt d 2; have h6 := hiD_lt d 3; have h7 := loD_lt d 3
  refine ⟨_, _, _, _, _, _, _, _, _, _, digitsD_list d, h0, h1, h2, h3, h4, h5, h6, h7, ?_, ?_, ?_⟩
  · have := lackD_le d 4; omega
  · omega
  · simp only [lackD]; omega
theorem digits_lt (d : Txw) (i : Nat) : nget (digitsD d) i < 16 := by
  obtain ⟨a0, a1, a2, a3, a4, a5, a6, a7, a8, a9, he, h0, h1, h2, h3, h4, h5, h6, h7, h8, h9, _⟩ := digits_ten d
  rw [he]
  match i with
  | 0 => exact h0
  | 1 => exact h1
  | 2 => exact h2
  | 3 => exact h3
  | 4 => exact h4
  | 5 => exact h5
  | 6 => exact h6
  | 7 => exact h7
  | 8 => exact h8
  | 9 => exact h9
  | _ + 10 => exact (by decide : (0 : Nat) < 16)
def wstep (c a : Int) (v : Txw) : Txw := (tag 2 [laidN c, laidN a, v]).take 16
theorem wstep_length (c a : Int) (v : Txw) : (wstep c a v).length = 16 := by simp [wstep, tag_length]
def walkN (c : Int) : Nat → Int → Txw → Txw
  | 0, _, v => v
  | n + 1, a, v => walkN c n (a + 1) (wstep c a v)
def walkT (c a b : Int) (v : Txw) : Txw := if a < 0 ∨ 15 < b then v else walkN c (b - a).toNat a v
theorem walkN_add (c : Int) : ∀ (m n : Nat) (a : Int) (v : Txw), walkN c (m + n) a v = walkN c n (a + m) (walkN c m a v)
  | 0, n, a, v => by simp [walkN]
  | m + 1, n, a, v => by
    rw [show m + 1 + n = (m + n) + 1 by omega]
    show walkN c (m + n) (a + 1) (wstep c a v) = walkN c n (a + ((m + 1 : Nat) : Int)) (walkN c m (a + 1) (wstep c a v))
    rw [walkN_add c m n]
    congr 1
    omega
theorem walkN_length (c : Int) : ∀ (n : Nat) (a : Int) (v : Txw), v.length = 16 → (walkN c n a v).length = 16
  | 0, _, _, h => h
  | n + 1, a, v, _ => walkN_length c n _ _ (wstep_length c a v)
theorem walkT_length (c a b : Int) (v : Txw) (h : v.length = 16) : (walkT c a b v).length = 16 := by
  unfold walkT
  split
  · exact h
  · exact walkN_length _ _ _ _ h
/-- to walk on from where one came is to walk all the way -/
theorem walk_on (c : Int) (a b e : Nat) (v : Txw) (h1 : a ≤ b) (h2 : b ≤ e) (h3 : e ≤ 15) : walkT c b e (walkT c a b v) = walkT c a e v := by
  unfold walkT
  rw [if_neg (by omega), if_neg (by omega), if_neg (by omega)]
  rw [show ((e : Int) - (a : Int)).toNat = (b - a) + (e - b) by omega, walkN_add, show ((b : Int) - (a : Int)).toNat = b - a by omega, show ((e : Int) - (b : Int)).toNat = e - b by omega]
  congr 1
  omega
theorem walk_stay (c : Int) (b : Int) (v : Txw) : walkT c b b v = v := by
  unfold walkT
  split
  · rfl
  · rw [show (b - b).toNat = 0 by omega]; rfl
def secretT (seed : Txw) (leaf c : Int) : Txw := (tag 3 [seed, laidN leaf, laidN c]).take 16
theorem secretT_length (seed : Txw) (leaf c : Int) : (secretT seed leaf c).length = 16 := by simp [secretT, tag_length]
/-- one behind the other -/
def joinL (f : Nat → Txw) : Nat → Txw
  | 0 => []
  | n + 1 => joinL f n ++ f n
def endsL (f : Nat → Txw) (n : Nat) : List Txw := (List.range n).map f
theorem endsL_succ (f : Nat → Txw) (n : Nat) : endsL f (n + 1) = endsL f n ++ [f n] := by simp [endsL, List.range_succ]
theorem endsL_length (f : Nat → Txw) (n : Nat) : (endsL f n).length = n := by simp [endsL]
theorem joinL_length (f : Nat → Txw) (h : ∀ c, (f c).length = 16) : ∀ n, (joinL f n).length = 16 * n
  | 0 => rfl
  | n + 1 => by rw [joinL, List.length_append, joinL_length f h n, h]; omega
theorem joinL_piece (f : Nat → Txw) (h : ∀ c, (f c).length = 16) : ∀ (n c : Nat), c < n → ((joinL f n).drop (16 * c)).take 16 = f c
  | n + 1, c, hc => by
    have hl := joinL_length f h n
    rw [joinL]
    by_cases hcn : c = n
    · subst hcn
      rw [List.drop_append_of_le_length (by omega), List.drop_of_length_le (by omega), List.nil_append, List.take_of_length_le (by rw [h]; omega)]
    · rw [List.drop_append_of_le_length (by omega), List.take_append_of_le_length (by rw [List.length_drop]; omega)]
      exact joinL_piece f h n c (by omega)
def pubF (seed : Txw) (leaf : Int) (c : Nat) : Txw := walkT c 0 15 (secretT seed leaf c)
def signF (seed : Txw) (leaf : Int) (d : List Nat) (c : Nat) : Txw := walkT c 0 (nget d c) (secretT seed leaf c)
def fromF (sig : Txw) (d : List Nat) (c : Nat) : Txw := walkT c (nget d c) 15 ((sig.drop (16 * c)).take 16)
def pubT (seed : Txw) (leaf : Int) : Txw := tag 4 (endsL (pubF seed leaf) 10)
def signT (seed : Txw) (leaf : Int) (msg : Txw) : Txw := joinL (signF seed leaf (digitsT msg)) 10
def fromT (sig msg : Txw) : Txw := if sig.length = 160 then tag 4 (endsL (fromF sig (digitsT msg)) 10) else []
theorem signF_length (seed : Txw) (leaf : Int) (d : List Nat) (c : Nat) : (signF seed leaf d c).length = 16 := walkT_length _ _ _ _ (secretT_length _ _ _)
theorem signT_length (seed : Txw) (leaf : Int) (msg : Txw) : (signT seed leaf msg).length = 160 := joinL_length _ (signF_length _ _ _) 10
/-- From of what was signed is the public key -/
theorem sign_ends (seed : Txw) (leaf : Int) (msg : Txw) (c : Nat) (hc : c < 10) : fromF (signT seed leaf msg) (digitsT msg) c = pubF seed leaf c := by
  unfold fromF signT
  rw [joinL_piece _ (signF_length _ _ _) 10 c hc]
  unfold signF pubF
  have := digits_lt (tag 1 [msg]) c
  exact walk_on c 0 (nget (digitsT msg) c) 15 _ (Nat.zero_le _) (by show nget (digitsD _) c ≤ 15; omega) (Nat.le_refl _)
theorem sign_back (seed : Txw) (leaf : Int) (msg : Txw) : fromT (signT seed leaf msg) msg = pubT seed leaf := by
  unfold fromT pubT
  rw [if_pos (signT_length _ _ _)]
  congr 1
  unfold endsL
  exact List.map_congr_left fun c hc => sign_ends seed leaf msg c (by simpa using hc)
theorem pubF_length (seed : Txw) (leaf : Int) (c : Nat) : (pubF seed leaf c).length = 16 := walkT_length _ _ _ _ (secretT_length _ _ _)
theorem fromF_length (sig : Txw) (d : List Nat) (c : Nat) (h : sig.length = 160) (hc : c < 10) : (fromF sig d c).length = 16 := walkT_length _ _ _ _ (by rw [List.length_take, List.length_drop]; omega)
/-- of unlike digits some one is lower in the one, and some other one in the other -/
theorem digits_apart (x y : Txw) (h : ∀ i, i < 10 → ¬ nget (digitsD x) i < nget (digitsD y) i) : digitsD x = digitsD y := by
  obtain ⟨a0, a1, a2, a3, a4, a5, a6, a7, a8, a9, ha, u0, u1, u2, u3, u4, u5, u6, u7, -, -, hs⟩ := digits_ten x
  obtain ⟨b0, b1, b2, b3, b4, b5, b6, b7, b8, b9, hb, v0, v1, v2, v3, v4, v5, v6, v7, -, -, ht⟩ := digits_ten y
  rw [ha, hb] at h
  have q0 : ¬ a0 < b0 := h 0 (by decide)
  have q1 : ¬ a1 < b1 := h 1 (by decide)
  have q2 : ¬ a2 < b2 := h 2 (by decide)
  have q3 : ¬ a3 < b3 := h 3 (by decide)
  have q4 : ¬ a4 < b4 := h 4 (by decide)
  have q5 : ¬ a5 < b5 := h 5 (by decide)
  have q6 : ¬ a6 < b6 := h 6 (by decide)
  have q7 : ¬ a7 < b7 := h 7 (by decide)
  have q8 : ¬ a8 < b8 := h 8 (by decide)
  have q9 : ¬ a9 < b9 := h 9 (by decide)
  rw [ha, hb]
  simp only [List.cons.injEq, and_true]
  omega
end Go.Proofs.YtcojfnjpcpochaaDoor.V
end
section
/- Layer 5, by abstract steps: numbers laid, digits, steps, walks; the document's own. -/
namespace Go.Proofs.YtcojfnjpcpochaaDoor.E
open Go Go.RowKit Go.Proofs.YtcojfnjpcpochaaDoor.V
attribute [local go_sem] B_size B_append B_extract mk_B B_toList take_drop_len List.length_drop List.length_take sgn32 sgn64 add32 sub32 mul32 add64 sub64 mul64 mul64_8 and32 or32 xor32 and64 or64 xor64 shl32_run shr32_run shl64_run shr64_run not32 not32' xor32_all w_u32_u8 w_u64_u8 w_i64_u8 w_u8_u32 w_u8_u64 w_u32_u64 w_u64_u32 w_u8_u8 w_u32_u32 w_u64_u64
attribute [local go_sem ↓] run_index_B' add32 sub32 mul32 add64 sub64 mul64 mul64_8 and32 or32 xor32 and64 or64 xor64 shl32_run shr32_run shl64_run shr64_run not32 not32' xor32_all w_u32_u8 w_u64_u8 w_i64_u8 w_u8_u32 w_u8_u64 w_u32_u64 w_u64_u32 w_u8_u8 w_u32_u32 w_u64_u64 w_u64_nat w_u32_nat w_u8_nat
set_option maxRecDepth 4000
theorem nrm_cases (n : Int) : n < 0 ∨ (0 ≤ n ∧ 4294967296 < n) ∨ (0 ≤ n ∧ n ≤ 4294967296) := by omega
theorem nrm_0 {n : Int} (h : n < 0 ∨ 4294967296 < n) : nrm n = 0 := if_pos h
theorem nrm_n {n : Int} (h : 0 ≤ n ∧ n ≤ 4294967296) : nrm n = n.toNat := if_neg (by omega)
theorem drop0 (x : UInt64) : [] ++ beS x 8 = beS x 8 := rfl
attribute [local irreducible] sum tag input
theorem laid_fc {G : List (Nat × Array Value)} (n : Int) : FC Tryd.prog G 72 [.v (.int .i64 n)] [] (sA (laidN n)) [] := by
  refine FC.of_wp [2] Tryd.func72 rfl rfl rfl rfl (by first | trivial | (simp; first | done | fail) | exact ⟨trivial, hbel _⟩) (by first | trivial | (simp; first | done | fail) | exact ⟨trivial, hbel _⟩) (by exact Nat.le_of_ble_eq_true rfl) ?_
  intro A hG hnA hAB
  unfold start
  refine WP.rs hG ?_
  refine Ch.pu gdN (by exact ⟨rfl, trivial⟩) (OpS.assign) trivial rfl ?_
  refine Ch.nil ?_
  refine WP.seqJ (fun σ => ∃ m : Nat, m = nrm n ∧ σ = ⟨17, ls [(0, .v (.int .i64 (m : Int)))], lh [], blt 0⟩) ?_ ?_
  · skip
    rcases nrm_cases n with hq | hq | hq
    · have hs := hq
      refine WP.rs hG ?_
      refine Ch.pu gdN (by exact ⟨rfl, trivial⟩) (OpS.move) trivial rfl ?_
      refine Ch.pu gdN (by exact ⟨rfl, rfl, trivial⟩) (OpS.int (v' := .bool true) rfl (by first | (simp [hs]; done) | (have hs2 := hs; simp; omega) | fail)) trivial rfl ?_
      refine Ch.pu gdN (by exact ⟨rfl, trivial⟩) (OpS.move) trivial rfl ?_
      refine Ch.skU (gdF rfl rfl rfl) rfl ?_
      refine Ch.skU (gdF rfl rfl rfl) rfl ?_
      refine Ch.pu gdN (by first | exact ⟨rfl, rfl, trivial⟩ | exact ⟨rfl, rfl, rfl, trivial⟩) (OpS.pickT) trivial rfl ?_
      refine Ch.nil ?_
      refine WP.cond_true rfl ?_
      refine WP.rg hG ?_
      refine Ch.pu gdN (by exact ⟨rfl, trivial⟩) (OpS.assign) trivial rfl ?_
      refine Ch.nil ?_
      refine ⟨_, (Ent.of [] ?_ ?_ ?_ ?_).se, 0, (nrm_0 (.inl hs)).symm, rfl⟩
      · exact (fun i hi => by rw [hnA] at hi; simp only [List.length_cons, List.length_nil] at hi ⊢; first | exact absurd hi (Nat.not_lt_zero _) | (revert i; decide))
      · (repeat (first | exact trivial | (refine And.intro ⟨(by first | trivial | (simp; first | done | fail) | exact ⟨trivial, hbel _⟩), _, rfl, (by first | exact .rfl _ | exact .nil | exact .of_eq (by simp; first | done | fail) | exact AV.wk.sh (by simp; first | done | fail) | exact .untip _ _ _)⟩ ?_)))
      · (repeat (first | exact trivial | (refine And.intro ⟨rfl, (by first | trivial | (simp; first | done | fail) | exact ⟨trivial, hbel _⟩), (by first | rfl | (simp; first | done | fail))⟩ ?_)))
      · simp [rn]
    · have hs := hq
      refine WP.rs hG ?_
      refine Ch.pu gdN (by exact ⟨rfl, trivial⟩) (OpS.move) trivial rfl ?_
      refine Ch.pu gdN (by exact ⟨rfl, rfl, trivial⟩) (OpS.int (v' := .bool false) rfl (by first | (simp [hs]; done) | (have hs2 := hs; simp; omega) | fail)) trivial rfl ?_
      refine Ch.pu gdN (by exact ⟨rfl, trivial⟩) (OpS.move) trivial rfl ?_
      refine Ch.pu (by exact gdT rfl rfl) (by exact ⟨rfl, trivial⟩) (OpS.move) trivial rfl ?_
      refine Ch.pu (by exact gdT rfl rfl) (by exact ⟨rfl, rfl, trivial⟩) (OpS.int (v' := .bool true) rfl (by first | (simp [hs]; done) | (have hs2 := hs; simp; omega) | fail)) trivial rfl ?_
      refine Ch.pu gdN (by first | exact ⟨rfl, rfl, trivial⟩ | exact ⟨rfl, rfl, rfl, trivial⟩) (OpS.pickF) trivial rfl ?_
      refine Ch.nil ?_
      refine WP.cond_true rfl ?_
      refine WP.rg hG ?_
      refine Ch.pu gdN (by exact ⟨rfl, trivial⟩) (OpS.assign) trivial rfl ?_
      refine Ch.nil ?_
      refine ⟨_, (Ent.of [] ?_ ?_ ?_ ?_).se, 0, (nrm_0 (.inr hs.2)).symm, rfl⟩
      · exact (fun i hi => by rw [hnA] at hi; simp only [List.length_cons, List.length_nil] at hi ⊢; first | exact absurd hi (Nat.not_lt_zero _) | (revert i; decide))
      · (repeat (first | exact trivial | (refine And.intro ⟨(by first | trivial | (simp; first | done | fail) | exact ⟨trivial, hbel _⟩), _, rfl, (by first | exact .rfl _ | exact .nil | exact .of_eq (by simp; first | done | fail) | exact AV.wk.sh (by simp; first | done | fail) | exact .untip _ _ _)⟩ ?_)))
      · (repeat (first | exact trivial | (refine And.intro ⟨rfl, (by first | trivial | (simp; first | done | fail) | exact ⟨trivial, hbel _⟩), (by first | rfl | (simp; first | done | fail))⟩ ?_)))
      · simp [rn]
    · have hs := hq
      obtain ⟨m, rfl⟩ : ∃ m : Nat, n = (m : Int) := ⟨n.toNat, by omega⟩
      refine WP.rs hG ?_
      refine Ch.pu gdN (by exact ⟨rfl, trivial⟩) (OpS.move) trivial rfl ?_
      refine Ch.pu gdN (by exact ⟨rfl, rfl, trivial⟩) (OpS.int (v' := .bool false) rfl (by first | (simp [hs]; done) | (have hs2 := hs; simp; omega) | fail)) trivial rfl ?_
      refine Ch.pu gdN (by exact ⟨rfl, trivial⟩) (OpS.move) trivial rfl ?_
      refine Ch.pu (by exact gdT rfl rfl) (by exact ⟨rfl, trivial⟩) (OpS.move) trivial rfl ?_
      refine Ch.pu (by exact gdT rfl rfl) (by exact ⟨rfl, rfl, trivial⟩) (OpS.int (v' := .bool false) rfl (by first | (simp [hs]; done) | (have hs2 := hs; simp; omega) | fail)) trivial rfl ?_
      refine Ch.pu gdN (by first | exact ⟨rfl, rfl, trivial⟩ | exact ⟨rfl, rfl, rfl, trivial⟩) (OpS.pickF) trivial rfl ?_
      refine Ch.nil ?_
      refine WP.cond_false rfl ?_
      refine WP.skip ?_
      refine ⟨_, (Ent.of [] ?_ ?_ ?_ ?_).se, m, by rw [nrm_n hs, Int.toNat_natCast], rfl⟩
      · exact (fun i hi => by rw [hnA] at hi; simp only [List.length_cons, List.length_nil] at hi ⊢; first | exact absurd hi (Nat.not_lt_zero _) | (revert i; decide))
      · (repeat (first | exact trivial | (refine And.intro ⟨(by first | trivial | (simp; first | done | fail) | exact ⟨trivial, hbel _⟩), _, rfl, (by first | exact .rfl _ | exact .nil | exact .of_eq (by simp; first | done | fail) | exact AV.wk.sh (by simp; first | done | fail) | exact .untip _ _ _)⟩ ?_)))
      · (repeat (first | exact trivial | (refine And.intro ⟨rfl, (by first | trivial | (simp; first | done | fail) | exact ⟨trivial, hbel _⟩), (by first | rfl | (simp; first | done | fail))⟩ ?_)))
      · simp [rn]
  · rintro σ ⟨m, hm, rfl⟩
    refine WP.rs hG ?_
    refine Ch.callH (FC.split (newWriter_fc)) [] 0 gdN (by repeat (first | exact EvL.nil | (apply EvL.cons; exact rfl))) (by exact trivial) rfl rfl (by decide) (by decide) (by first | ((conv => lhs; simp only [AV.ren, AV.renL, AO.ren, renL_b, renL_s, renL_w, renL_i, renL_append, ren_b, ren_s, ren_w, ren_i, pi_n, pi_0, pi_s, pi_1, pi_2, pi_3, pi_4, chOld, chNew, nuNew, hpl, Option.map_some, Option.map_none, List.length_cons, List.length_nil, List.take_succ_cons, List.take_zero, List.take_nil, List.drop_succ_cons, List.drop_zero, List.drop_nil, List.cons_append, List.nil_append, Nat.zero_add, Nat.add_zero, Nat.reduceAdd]); all_goals rfl) | rfl) (by first | ((conv => lhs; simp only [AV.ren, AV.renL, AO.ren, renL_b, renL_s, renL_w, renL_i, renL_append, ren_b, ren_s, ren_w, ren_i, pi_n, pi_0, pi_s, pi_1, pi_2, pi_3, pi_4, chOld, chNew, nuNew, hpl, Option.map_some, Option.map_none, List.length_cons, List.length_nil, List.take_succ_cons, List.take_zero, List.take_nil, List.drop_succ_cons, List.drop_zero, List.drop_nil, List.cons_append, List.nil_append, Nat.zero_add, Nat.add_zero, Nat.reduceAdd]); all_goals rfl) | rfl) (by first | ((conv => lhs; simp only [AV.ren, AV.renL, AO.ren, renL_b, renL_s, renL_w, renL_i, renL_append, ren_b, ren_s, ren_w, ren_i, pi_n, pi_0, pi_s, pi_1, pi_2, pi_3, pi_4, chOld, chNew, nuNew, hpl, Option.map_some, Option.map_none, List.length_cons, List.length_nil, List.take_succ_cons, List.take_zero, List.take_nil, List.drop_succ_cons, List.drop_zero, List.drop_nil, List.cons_append, List.nil_append, Nat.zero_add, Nat.add_zero, Nat.reduceAdd]); all_goals rfl) | rfl) (by first | ((conv => lhs; simp only [AV.ren, AV.renL, AO.ren, renL_b, renL_s, renL_w, renL_i, renL_append, ren_b, ren_s, ren_w, ren_i, pi_n, pi_0, pi_s, pi_1, pi_2, pi_3, pi_4, chOld, chNew, nuNew, hpl, Option.map_some, Option.map_none, List.length_cons, List.length_nil, List.take_succ_cons, List.take_zero, List.take_nil, List.drop_succ_cons, List.drop_zero, List.drop_nil, List.cons_append, List.nil_append, Nat.zero_add, Nat.add_zero, Nat.reduceAdd]); all_goals rfl) | rfl) (by first | exact trivial | exact ⟨rfl, trivial⟩ | exact ⟨rfl, rfl, trivial⟩ | exact ⟨rfl, rfl, rfl, trivial⟩ | exact ⟨rfl, rfl, rfl, rfl, trivial⟩) (by first | exact trivial | exact ⟨rfl, trivial⟩ | exact ⟨rfl, rfl, trivial⟩ | exact ⟨rfl, rfl, rfl, trivial⟩ | exact ⟨rfl, rfl, rfl, rfl, trivial⟩) rfl ?_
    refine Ch.pu gdN (by exact ⟨rfl, trivial⟩) (OpS.assign) trivial rfl ?_
    refine Ch.nil ?_
    refine WP.rs hG ?_
    refine Ch.pu gdN (by exact ⟨rfl, trivial⟩) (OpS.move) trivial rfl ?_
    refine Ch.pu gdN (by exact ⟨rfl, trivial⟩) (OpS.move) trivial rfl ?_
    refine Ch.pu gdN (by exact ⟨rfl, trivial⟩) (OpS.conv rfl rfl (by first | exact cv_u32_u8 _ | exact cv_u64_u8 _ | exact cv_i64_u8 _ | exact cv_u8_u32 _ | exact cv_u8_u64 _ | exact cv_u32_u64 _ | exact cv_u64_u32 _ | exact cv_u8_u8 _ | exact cv_u32_u32 _ | exact cv_u64_u64 _ | exact wr64 (by omega) | exact cv_u64_nat _ | exact cv_u32_nat _ | exact cv_u8_nat _ | exact rfl)) trivial rfl ?_
    refine Ch.callH (FC.split (wNum_fc [] (UInt64.ofNat m) (by simp))) [0,1] 2 gdN (by repeat (first | exact EvL.nil | (apply EvL.cons; exact rfl))) (by exact (And.intro (by first | exact .rfl _ | exact .untip _ _ _ | exact .nil | exact .func _ | exact AV.wk.sh (renL_s _ _) | exact AV.wk.tip rfl (by first | exact renL_b _ _ | exact renL_s _ _ | exact renL_i _ _ | exact renL_w _ _) | exact AV.wk.sh (by simp; first | done | fail)) (And.intro (by first | exact .rfl _ | exact .untip _ _ _ | exact .nil | exact .func _ | exact AV.wk.sh (renL_s _ _) | exact AV.wk.tip rfl (by first | exact renL_b _ _ | exact renL_s _ _ | exact renL_i _ _ | exact renL_w _ _) | exact AV.wk.sh (by simp; first | done | fail)) trivial))) rfl rfl (by decide) (by decide) (by first | ((conv => lhs; simp only [AV.ren, AV.renL, AO.ren, renL_b, renL_s, renL_w, renL_i, renL_append, ren_b, ren_s, ren_w, ren_i, pi_n, pi_0, pi_s, pi_1, pi_2, pi_3, pi_4, chOld, chNew, nuNew, hpl, Option.map_some, Option.map_none, List.length_cons, List.length_nil, List.take_succ_cons, List.take_zero, List.take_nil, List.drop_succ_cons, List.drop_zero, List.drop_nil, List.cons_append, List.nil_append, Nat.zero_add, Nat.add_zero, Nat.reduceAdd]); all_goals rfl) | rfl) (by first | ((conv => lhs; simp only [AV.ren, AV.renL, AO.ren, renL_b, renL_s, renL_w, renL_i, renL_append, ren_b, ren_s, ren_w, ren_i, pi_n, pi_0, pi_s, pi_1, pi_2, pi_3, pi_4, chOld, chNew, nuNew, hpl, Option.map_some, Option.map_none, List.length_cons, List.length_nil, List.take_succ_cons, List.take_zero, List.take_nil, List.drop_succ_cons, List.drop_zero, List.drop_nil, List.cons_append, List.nil_append, Nat.zero_add, Nat.add_zero, Nat.reduceAdd]); all_goals rfl) | rfl) (by first | ((conv => lhs; simp only [AV.ren, AV.renL, AO.ren, renL_b, renL_s, renL_w, renL_i, renL_append, ren_b, ren_s, ren_w, ren_i, pi_n, pi_0, pi_s, pi_1, pi_2, pi_3, pi_4, chOld, chNew, nuNew, hpl, Option.map_some, Option.map_none, List.length_cons, List.length_nil, List.take_succ_cons, List.take_zero, List.take_nil, List.drop_succ_cons, List.drop_zero, List.drop_nil, List.cons_append, List.nil_append, Nat.zero_add, Nat.add_zero, Nat.reduceAdd]); all_goals rfl) | rfl) (by first | ((conv => lhs; simp only [AV.ren, AV.renL, AO.ren, renL_b, renL_s, renL_w, renL_i, renL_append, ren_b, ren_s, ren_w, ren_i, pi_n, pi_0, pi_s, pi_1, pi_2, pi_3, pi_4, chOld, chNew, nuNew, hpl, Option.map_some, Option.map_none, List.length_cons, List.length_nil, List.take_succ_cons, List.take_zero, List.take_nil, List.drop_succ_cons, List.drop_zero, List.drop_nil, List.cons_append, List.nil_append, Nat.zero_add, Nat.add_zero, Nat.reduceAdd]); all_goals rfl) | rfl) (by first | exact trivial | exact ⟨rfl, trivial⟩ | exact ⟨rfl, rfl, trivial⟩ | exact ⟨rfl, rfl, rfl, trivial⟩ | exact ⟨rfl, rfl, rfl, rfl, trivial⟩) (by first | exact trivial | exact ⟨rfl, trivial⟩ | exact ⟨rfl, rfl, trivial⟩ | exact ⟨rfl, rfl, rfl, trivial⟩ | exact ⟨rfl, rfl, rfl, rfl, trivial⟩) rfl ?_
    refine Ch.nil ?_
    refine WP.rs hG ?_
    refine Ch.pu gdN (by exact ⟨rfl, trivial⟩) (OpS.move) trivial rfl ?_
    refine Ch.callH (FC.split (wBytes_fc (beS (UInt64.ofNat m) 8))) [0,2] 3 gdN (by repeat (first | exact EvL.nil | (apply EvL.cons; exact rfl))) (by exact (And.intro (by first | exact .rfl _ | exact .untip _ _ _ | exact .nil | exact .func _ | exact AV.wk.sh (renL_s _ _) | exact AV.wk.tip rfl (by first | exact renL_b _ _ | exact renL_s _ _ | exact renL_i _ _ | exact renL_w _ _) | exact AV.wk.sh (by simp; first | done | fail)) trivial)) rfl rfl (by decide) (by decide) (by first | ((conv => lhs; simp only [AV.ren, AV.renL, AO.ren, renL_b, renL_s, renL_w, renL_i, renL_append, ren_b, ren_s, ren_w, ren_i, pi_n, pi_0, pi_s, pi_1, pi_2, pi_3, pi_4, chOld, chNew, nuNew, hpl, Option.map_some, Option.map_none, List.length_cons, List.length_nil, List.take_succ_cons, List.take_zero, List.take_nil, List.drop_succ_cons, List.drop_zero, List.drop_nil, List.cons_append, List.nil_append, Nat.zero_add, Nat.add_zero, Nat.reduceAdd]); all_goals rfl) | rfl) (by first | ((conv => lhs; simp only [AV.ren, AV.renL, AO.ren, renL_b, renL_s, renL_w, renL_i, renL_append, ren_b, ren_s, ren_w, ren_i, pi_n, pi_0, pi_s, pi_1, pi_2, pi_3, pi_4, chOld, chNew, nuNew, hpl, Option.map_some, Option.map_none, List.length_cons, List.length_nil, List.take_succ_cons, List.take_zero, List.take_nil, List.drop_succ_cons, List.drop_zero, List.drop_nil, List.cons_append, List.nil_append, Nat.zero_add, Nat.add_zero, Nat.reduceAdd]); all_goals rfl) | rfl) (by first | ((conv => lhs; simp only [AV.ren, AV.renL, AO.ren, renL_b, renL_s, renL_w, renL_i, renL_append, ren_b, ren_s, ren_w, ren_i, pi_n, pi_0, pi_s, pi_1, pi_2, pi_3, pi_4, chOld, chNew, nuNew, hpl, Option.map_some, Option.map_none, List.length_cons, List.length_nil, List.take_succ_cons, List.take_zero, List.take_nil, List.drop_succ_cons, List.drop_zero, List.drop_nil, List.cons_append, List.nil_append, Nat.zero_add, Nat.add_zero, Nat.reduceAdd]); all_goals rfl) | rfl) (by first | ((conv => lhs; simp only [AV.ren, AV.renL, AO.ren, renL_b, renL_s, renL_w, renL_i, renL_append, ren_b, ren_s, ren_w, ren_i, pi_n, pi_0, pi_s, pi_1, pi_2, pi_3, pi_4, chOld, chNew, nuNew, hpl, Option.map_some, Option.map_none, List.length_cons, List.length_nil, List.take_succ_cons, List.take_zero, List.take_nil, List.drop_succ_cons, List.drop_zero, List.drop_nil, List.cons_append, List.nil_append, Nat.zero_add, Nat.add_zero, Nat.reduceAdd]); all_goals rfl) | rfl) (by first | exact trivial | exact ⟨rfl, trivial⟩ | exact ⟨rfl, rfl, trivial⟩ | exact ⟨rfl, rfl, rfl, trivial⟩ | exact ⟨rfl, rfl, rfl, rfl, trivial⟩) (by first | exact trivial | exact ⟨rfl, trivial⟩ | exact ⟨rfl, rfl, trivial⟩ | exact ⟨rfl, rfl, rfl, trivial⟩ | exact ⟨rfl, rfl, rfl, rfl, trivial⟩) rfl ?_
    refine Ch.pu gdN (by exact ⟨rfl, trivial⟩) (OpS.assign) trivial rfl ?_
    refine Ch.nil ?_
    exact WP.ret (Ret.one rfl (.of_eq (by rw [hm]; rfl)) trivial hnA)
theorem rlaid_fc {G : List (Nat × Array Value)} (n : Int) : FC Tryd.prog G 79 [.v (.int .i64 n)] [] (sA (laidN n)) [] := by
  refine FC.of_wp [2] Tryd.func79 rfl rfl rfl rfl (by first | trivial | (simp; first | done | fail) | exact ⟨trivial, hbel _⟩) (by first | trivial | (simp; first | done | fail) | exact ⟨trivial, hbel _⟩) (by exact Nat.le_of_ble_eq_true rfl) ?_
  intro A hG hnA hAB
  unfold start
  refine WP.rs hG ?_
  refine Ch.pu gdN (by exact ⟨rfl, trivial⟩) (OpS.assign) trivial rfl ?_
  refine Ch.nil ?_
  refine WP.seqJ (fun σ => ∃ m : Nat, m = nrm n ∧ σ = ⟨17, ls [(0, .v (.int .i64 (m : Int)))], lh [], blt 0⟩) ?_ ?_
  · skip
    rcases nrm_cases n with hq | hq | hq
    · have hs := hq
      refine WP.rs hG ?_
      refine Ch.pu gdN (by exact ⟨rfl, trivial⟩) (OpS.move) trivial rfl ?_
      refine Ch.pu gdN (by exact ⟨rfl, rfl, trivial⟩) (OpS.int (v' := .bool true) rfl (by first | (simp [hs]; done) | (have hs2 := hs; simp; omega) | fail)) trivial rfl ?_
      refine Ch.pu gdN (by exact ⟨rfl, trivial⟩) (OpS.move) trivial rfl ?_
      refine Ch.skU (gdF rfl rfl rfl) rfl ?_
      refine Ch.skU (gdF rfl rfl rfl) rfl ?_
      refine Ch.pu gdN (by first | exact ⟨rfl, rfl, trivial⟩ | exact ⟨rfl, rfl, rfl, trivial⟩) (OpS.pickT) trivial rfl ?_
      refine Ch.nil ?_
      refine WP.cond_true rfl ?_
      refine WP.rg hG ?_
      refine Ch.pu gdN (by exact ⟨rfl, trivial⟩) (OpS.assign) trivial rfl ?_
      refine Ch.nil ?_
      refine ⟨_, (Ent.of [] ?_ ?_ ?_ ?_).se, 0, (nrm_0 (.inl hs)).symm, rfl⟩
      · exact (fun i hi => by rw [hnA] at hi; simp only [List.length_cons, List.length_nil] at hi ⊢; first | exact absurd hi (Nat.not_lt_zero _) | (revert i; decide))
      · (repeat (first | exact trivial | (refine And.intro ⟨(by first | trivial | (simp; first | done | fail) | exact ⟨trivial, hbel _⟩), _, rfl, (by first | exact .rfl _ | exact .nil | exact .of_eq (by simp; first | done | fail) | exact AV.wk.sh (by simp; first | done | fail) | exact .untip _ _ _)⟩ ?_)))
      · (repeat (first | exact trivial | (refine And.intro ⟨rfl, (by first | trivial | (simp; first | done | fail) | exact ⟨trivial, hbel _⟩), (by first | rfl | (simp; first | done | fail))⟩ ?_)))
      · simp [rn]
    · have hs := hq
      refine WP.rs hG ?_
      refine Ch.pu gdN (by exact ⟨rfl, trivial⟩) (OpS.move) trivial rfl ?_
      refine Ch.pu gdN (by exact ⟨rfl, rfl, trivial⟩) (OpS.int (v' := .bool false) rfl (by first | (simp [hs]; done) | (have hs2 := hs; simp; omega) | fail)) trivial rfl ?_
      refine Ch.pu gdN (by exact ⟨rfl, trivial⟩) (OpS.move) trivial rfl ?_
      refine Ch.pu (by exact gdT rfl rfl) (by exact ⟨rfl, trivial⟩) (OpS.move) trivial rfl ?_
      refine Ch.pu (by exact gdT rfl rfl) (by exact ⟨rfl, rfl, trivial⟩) (OpS.int (v' := .bool true) rfl (by first | (simp [hs]; done) | (have hs2 := hs; simp; omega) | fail)) trivial rfl ?_
      refine Ch.pu gdN (by first | exact ⟨rfl, rfl, trivial⟩ | exact ⟨rfl, rfl, rfl, trivial⟩) (OpS.pickF) trivial rfl ?_
      refine Ch.nil ?_
      refine WP.cond_true rfl ?_
      refine WP.rg hG ?_
      refine Ch.pu gdN (by exact ⟨rfl, trivial⟩) (OpS.assign) trivial rfl ?_
      refine Ch.nil ?_
      refine ⟨_, (Ent.of [] ?_ ?_ ?_ ?_).se, 0, (nrm_0 (.inr hs.2)).symm, rfl⟩
      · exact (fun i hi => by rw [hnA] at hi; simp only [List.length_cons, List.length_nil] at hi ⊢; first | exact absurd hi (Nat.not_lt_zero _) | (revert i; decide))
      · (repeat (first | exact trivial | (refine And.intro ⟨(by first | trivial | (simp; first | done | fail) | exact ⟨trivial, hbel _⟩), _, rfl, (by first | exact .rfl _ | exact .nil | exact .of_eq (by simp; first | done | fail) | exact AV.wk.sh (by simp; first | done | fail) | exact .untip _ _ _)⟩ ?_)))
      · (repeat (first | exact trivial | (refine And.intro ⟨rfl, (by first | trivial | (simp; first | done | fail) | exact ⟨trivial, hbel _⟩), (by first | rfl | (simp; first | done | fail))⟩ ?_)))
      · simp [rn]
    · have hs := hq
      obtain ⟨m, rfl⟩ : ∃ m : Nat, n = (m : Int) := ⟨n.toNat, by omega⟩
      refine WP.rs hG ?_
      refine Ch.pu gdN (by exact ⟨rfl, trivial⟩) (OpS.move) trivial rfl ?_
      refine Ch.pu gdN (by exact ⟨rfl, rfl, trivial⟩) (OpS.int (v' := .bool false) rfl (by first | (simp [hs]; done) | (have hs2 := hs; simp; omega) | fail)) trivial rfl ?_
      refine Ch.pu gdN (by exact ⟨rfl, trivial⟩) (OpS.move) trivial rfl ?_
      refine Ch.pu (by exact gdT rfl rfl) (by exact ⟨rfl, trivial⟩) (OpS.move) trivial rfl ?_
      refine Ch.pu (by exact gdT rfl rfl) (by exact ⟨rfl, rfl, trivial⟩) (OpS.int (v' := .bool false) rfl (by first | (simp [hs]; done) | (have hs2 := hs; simp; omega) | fail)) trivial rfl ?_
      refine Ch.pu gdN (by first | exact ⟨rfl, rfl, trivial⟩ | exact ⟨rfl, rfl, rfl, trivial⟩) (OpS.pickF) trivial rfl ?_
      refine Ch.nil ?_
      refine WP.cond_false rfl ?_
      refine WP.skip ?_
      refine ⟨_, (Ent.of [] ?_ ?_ ?_ ?_).se, m, by rw [nrm_n hs, Int.toNat_natCast], rfl⟩
      · exact (fun i hi => by rw [hnA] at hi; simp only [List.length_cons, List.length_nil] at hi ⊢; first | exact absurd hi (Nat.not_lt_zero _) | (revert i; decide))
      · (repeat (first | exact trivial | (refine And.intro ⟨(by first | trivial | (simp; first | done | fail) | exact ⟨trivial, hbel _⟩), _, rfl, (by first | exact .rfl _ | exact .nil | exact .of_eq (by simp; first | done | fail) | exact AV.wk.sh (by simp; first | done | fail) | exact .untip _ _ _)⟩ ?_)))
      · (repeat (first | exact trivial | (refine And.intro ⟨rfl, (by first | trivial | (simp; first | done | fail) | exact ⟨trivial, hbel _⟩), (by first | rfl | (simp; first | done | fail))⟩ ?_)))
      · simp [rn]
  · rintro σ ⟨m, hm, rfl⟩
    refine WP.rs hG ?_
    refine Ch.callH (FC.split (rnewWriter_fc)) [] 0 gdN (by repeat (first | exact EvL.nil | (apply EvL.cons; exact rfl))) (by exact trivial) rfl rfl (by decide) (by decide) (by first | ((conv => lhs; simp only [AV.ren, AV.renL, AO.ren, renL_b, renL_s, renL_w, renL_i, renL_append, ren_b, ren_s, ren_w, ren_i, pi_n, pi_0, pi_s, pi_1, pi_2, pi_3, pi_4, chOld, chNew, nuNew, hpl, Option.map_some, Option.map_none, List.length_cons, List.length_nil, List.take_succ_cons, List.take_zero, List.take_nil, List.drop_succ_cons, List.drop_zero, List.drop_nil, List.cons_append, List.nil_append, Nat.zero_add, Nat.add_zero, Nat.reduceAdd]); all_goals rfl) | rfl) (by first | ((conv => lhs; simp only [AV.ren, AV.renL, AO.ren, renL_b, renL_s, renL_w, renL_i, renL_append, ren_b, ren_s, ren_w, ren_i, pi_n, pi_0, pi_s, pi_1, pi_2, pi_3, pi_4, chOld, chNew, nuNew, hpl, Option.map_some, Option.map_none, List.length_cons, List.length_nil, List.take_succ_cons, List.take_zero, List.take_nil, List.drop_succ_cons, List.drop_zero, List.drop_nil, List.cons_append, List.nil_append, Nat.zero_add, Nat.add_zero, Nat.reduceAdd]); all_goals rfl) | rfl) (by first | ((conv => lhs; simp only [AV.ren, AV.renL, AO.ren, renL_b, renL_s, renL_w, renL_i, renL_append, ren_b, ren_s, ren_w, ren_i, pi_n, pi_0, pi_s, pi_1, pi_2, pi_3, pi_4, chOld, chNew, nuNew, hpl, Option.map_some, Option.map_none, List.length_cons, List.length_nil, List.take_succ_cons, List.take_zero, List.take_nil, List.drop_succ_cons, List.drop_zero, List.drop_nil, List.cons_append, List.nil_append, Nat.zero_add, Nat.add_zero, Nat.reduceAdd]); all_goals rfl) | rfl) (by first | ((conv => lhs; simp only [AV.ren, AV.renL, AO.ren, renL_b, renL_s, renL_w, renL_i, renL_append, ren_b, ren_s, ren_w, ren_i, pi_n, pi_0, pi_s, pi_1, pi_2, pi_3, pi_4, chOld, chNew, nuNew, hpl, Option.map_some, Option.map_none, List.length_cons, List.length_nil, List.take_succ_cons, List.take_zero, List.take_nil, List.drop_succ_cons, List.drop_zero, List.drop_nil, List.cons_append, List.nil_append, Nat.zero_add, Nat.add_zero, Nat.reduceAdd]); all_goals rfl) | rfl) (by first | exact trivial | exact ⟨rfl, trivial⟩ | exact ⟨rfl, rfl, trivial⟩ | exact ⟨rfl, rfl, rfl, trivial⟩ | exact ⟨rfl, rfl, rfl, rfl, trivial⟩) (by first | exact trivial | exact ⟨rfl, trivial⟩ | exact ⟨rfl, rfl, trivial⟩ | exact ⟨rfl, rfl, rfl, trivial⟩ | exact ⟨rfl, rfl, rfl, rfl, trivial⟩) rfl ?_
    refine Ch.pu gdN (by exact ⟨rfl, trivial⟩) (OpS.assign) trivial rfl ?_
    refine Ch.nil ?_
    refine WP.rs hG ?_
    refine Ch.pu gdN (by exact ⟨rfl, trivial⟩) (OpS.move) trivial rfl ?_
    refine Ch.pu gdN (by exact ⟨rfl, trivial⟩) (OpS.move) trivial rfl ?_
    refine Ch.pu gdN (by exact ⟨rfl, trivial⟩) (OpS.conv rfl rfl (by first | exact cv_u32_u8 _ | exact cv_u64_u8 _ | exact cv_i64_u8 _ | exact cv_u8_u32 _ | exact cv_u8_u64 _ | exact cv_u32_u64 _ | exact cv_u64_u32 _ | exact cv_u8_u8 _ | exact cv_u32_u32 _ | exact cv_u64_u64 _ | exact wr64 (by omega) | exact cv_u64_nat _ | exact cv_u32_nat _ | exact cv_u8_nat _ | exact rfl)) trivial rfl ?_
    refine Ch.callH (FC.split (rwNum_fc [] (UInt64.ofNat m) (by simp))) [0] 1 gdN (by repeat (first | exact EvL.nil | (apply EvL.cons; exact rfl))) (by exact (And.intro (by first | exact .rfl _ | exact .untip _ _ _ | exact .nil | exact .func _ | exact AV.wk.sh (renL_s _ _) | exact AV.wk.tip rfl (by first | exact renL_b _ _ | exact renL_s _ _ | exact renL_i _ _ | exact renL_w _ _) | exact AV.wk.sh (by simp; first | done | fail)) (And.intro (by first | exact .rfl _ | exact .untip _ _ _ | exact .nil | exact .func _ | exact AV.wk.sh (renL_s _ _) | exact AV.wk.tip rfl (by first | exact renL_b _ _ | exact renL_s _ _ | exact renL_i _ _ | exact renL_w _ _) | exact AV.wk.sh (by simp; first | done | fail)) trivial))) rfl rfl (by decide) (by decide) (by first | ((conv => lhs; simp only [AV.ren, AV.renL, AO.ren, renL_b, renL_s, renL_w, renL_i, renL_append, ren_b, ren_s, ren_w, ren_i, pi_n, pi_0, pi_s, pi_1, pi_2, pi_3, pi_4, chOld, chNew, nuNew, hpl, Option.map_some, Option.map_none, List.length_cons, List.length_nil, List.take_succ_cons, List.take_zero, List.take_nil, List.drop_succ_cons, List.drop_zero, List.drop_nil, List.cons_append, List.nil_append, Nat.zero_add, Nat.add_zero, Nat.reduceAdd]); all_goals rfl) | rfl) (by first | ((conv => lhs; simp only [AV.ren, AV.renL, AO.ren, renL_b, renL_s, renL_w, renL_i, renL_append, ren_b, ren_s, ren_w, ren_i, pi_n, pi_0, pi_s, pi_1, pi_2, pi_3, pi_4, chOld, chNew, nuNew, hpl, Option.map_some, Option.map_none, List.length_cons, List.length_nil, List.take_succ_cons, List.take_zero, List.take_nil, List.drop_succ_cons, List.drop_zero, List.drop_nil, List.cons_append, List.nil_append, Nat.zero_add, Nat.add_zero, Nat.reduceAdd]); all_goals rfl) | rfl) (by first | ((conv => lhs; simp only [AV.ren, AV.renL, AO.ren, renL_b, renL_s, renL_w, renL_i, renL_append, ren_b, ren_s, ren_w, ren_i, pi_n, pi_0, pi_s, pi_1, pi_2, pi_3, pi_4, chOld, chNew, nuNew, hpl, Option.map_some, Option.map_none, List.length_cons, List.length_nil, List.take_succ_cons, List.take_zero, List.take_nil, List.drop_succ_cons, List.drop_zero, List.drop_nil, List.cons_append, List.nil_append, Nat.zero_add, Nat.add_zero, Nat.reduceAdd]); all_goals rfl) | rfl) (by first | ((conv => lhs; simp only [AV.ren, AV.renL, AO.ren, renL_b, renL_s, renL_w, renL_i, renL_append, ren_b, ren_s, ren_w, ren_i, pi_n, pi_0, pi_s, pi_1, pi_2, pi_3, pi_4, chOld, chNew, nuNew, hpl, Option.map_some, Option.map_none, List.length_cons, List.length_nil, List.take_succ_cons, List.take_zero, List.take_nil, List.drop_succ_cons, List.drop_zero, List.drop_nil, List.cons_append, List.nil_append, Nat.zero_add, Nat.add_zero, Nat.reduceAdd]); all_goals rfl) | rfl) (by first | exact trivial | exact ⟨rfl, trivial⟩ | exact ⟨rfl, rfl, trivial⟩ | exact ⟨rfl, rfl, rfl, trivial⟩ | exact ⟨rfl, rfl, rfl, rfl, trivial⟩) (by first | exact trivial | exact ⟨rfl, trivial⟩ | exact ⟨rfl, rfl, trivial⟩ | exact ⟨rfl, rfl, rfl, trivial⟩ | exact ⟨rfl, rfl, rfl, rfl, trivial⟩) rfl ?_
    refine Ch.nil ?_
    refine WP.rs hG ?_
    refine Ch.pu gdN (by exact ⟨rfl, trivial⟩) (OpS.move) trivial rfl ?_
    refine Ch.callH (FC.split (rwBytes_fc (beS (UInt64.ofNat m) 8))) [0] 1 gdN (by repeat (first | exact EvL.nil | (apply EvL.cons; exact rfl))) (by exact (And.intro (by first | exact .rfl _ | exact .untip _ _ _ | exact .nil | exact .func _ | exact AV.wk.sh (renL_s _ _) | exact AV.wk.tip rfl (by first | exact renL_b _ _ | exact renL_s _ _ | exact renL_i _ _ | exact renL_w _ _) | exact AV.wk.sh (by simp; first | done | fail)) trivial)) rfl rfl (by decide) (by decide) (by first | ((conv => lhs; simp only [AV.ren, AV.renL, AO.ren, renL_b, renL_s, renL_w, renL_i, renL_append, ren_b, ren_s, ren_w, ren_i, pi_n, pi_0, pi_s, pi_1, pi_2, pi_3, pi_4, chOld, chNew, nuNew, hpl, Option.map_some, Option.map_none, List.length_cons, List.length_nil, List.take_succ_cons, List.take_zero, List.take_nil, List.drop_succ_cons, List.drop_zero, List.drop_nil, List.cons_append, List.nil_append, Nat.zero_add, Nat.add_zero, Nat.reduceAdd]); all_goals rfl) | rfl) (by first | ((conv => lhs; simp only [AV.ren, AV.renL, AO.ren, renL_b, renL_s, renL_w, renL_i, renL_append, ren_b, ren_s, ren_w, ren_i, pi_n, pi_0, pi_s, pi_1, pi_2, pi_3, pi_4, chOld, chNew, nuNew, hpl, Option.map_some, Option.map_none, List.length_cons, List.length_nil, List.take_succ_cons, List.take_zero, List.take_nil, List.drop_succ_cons, List.drop_zero, List.drop_nil, List.cons_append, List.nil_append, Nat.zero_add, Nat.add_zero, Nat.reduceAdd]); all_goals rfl) | rfl) (by first | ((conv => lhs; simp only [AV.ren, AV.renL, AO.ren, renL_b, renL_s, renL_w, renL_i, renL_append, ren_b, ren_s, ren_w, ren_i, pi_n, pi_0, pi_s, pi_1, pi_2, pi_3, pi_4, chOld, chNew, nuNew, hpl, Option.map_some, Option.map_none, List.length_cons, List.length_nil, List.take_succ_cons, List.take_zero, List.take_nil, List.drop_succ_cons, List.drop_zero, List.drop_nil, List.cons_append, List.nil_append, Nat.zero_add, Nat.add_zero, Nat.reduceAdd]); all_goals rfl) | rfl) (by first | ((conv => lhs; simp only [AV.ren, AV.renL, AO.ren, renL_b, renL_s, renL_w, renL_i, renL_append, ren_b, ren_s, ren_w, ren_i, pi_n, pi_0, pi_s, pi_1, pi_2, pi_3, pi_4, chOld, chNew, nuNew, hpl, Option.map_some, Option.map_none, List.length_cons, List.length_nil, List.take_succ_cons, List.take_zero, List.take_nil, List.drop_succ_cons, List.drop_zero, List.drop_nil, List.cons_append, List.nil_append, Nat.zero_add, Nat.add_zero, Nat.reduceAdd]); all_goals rfl) | rfl) (by first | exact trivial | exact ⟨rfl, trivial⟩ | exact ⟨rfl, rfl, trivial⟩ | exact ⟨rfl, rfl, rfl, trivial⟩ | exact ⟨rfl, rfl, rfl, rfl, trivial⟩) (by first | exact trivial | exact ⟨rfl, trivial⟩ | exact ⟨rfl, rfl, trivial⟩ | exact ⟨rfl, rfl, rfl, trivial⟩ | exact ⟨rfl, rfl, rfl, rfl, trivial⟩) rfl ?_
    refine Ch.pu gdN (by exact ⟨rfl, trivial⟩) (OpS.assign) trivial rfl ?_
    refine Ch.nil ?_
    exact WP.ret (Ret.one rfl (.of_eq (by rw [hm]; rfl)) trivial hnA)
end Go.Proofs.YtcojfnjpcpochaaDoor.E
end
