import Derived.Test.YtpnbpcopdckgpaaGreatDoorZ5b96d459
namespace Go.Proofs.YtpnbpcopdckgpaaGreatDoor.E
open Go Go.RowKit V
set_option maxRecDepth 4000
set_option maxRecDepth 4000
def lkT (x : Rp) (b : Nat) : Nat := if (vwT x.tr x.lk).toNat < (vwT x.tr (gpT x.tr b)).toNat then gpT x.tr b else x.lk
theorem lkT_lt {x : Rp} (hw : WfT x.tr) {b : Nat} (hb : b < x.tr.length) (hk : x.lk < x.tr.length) : lkT x b < x.tr.length := by
 unfold lkT
 split
 · exact (hw.pr_lt (hw.pr_lt hb).1).1
 exact hk
theorem may_lt {l : List TB} {vo : UInt64} {lk b : Nat} (h : mayT l vo lk b = true) : ¬ (vwT l b).toNat ≤ vo.toNat := fun h2 => by
 rw [may_f h2] at h
 cases h
theorem ofN_succ (n : Nat) (h : n ≤ 1000) : Value.int .u64 (IntKind.u64.wrap ((n + 1 : Nat) : Int)) = .int .u64 (U64 (UInt64.ofNat (n + 1))) := by
 rw [IntKind.wrap_u64]
 unfold U64
 rw [UInt64.toNat_ofNat']
 exact congrArg (Value.int .u64) (by omega)
attribute [local irreducible] sum tag input beS rdNum rdText leavesT f64 tb sigT firstT leadT mayT lkT recT
section
variable {G : List (Nat × Array Value)}
theorem rCastD_fc (x : Rp) (hw : WfT x.tr) (b : Nat) (hb : b < x.tr.length) (hk : x.lk < x.tr.length) (n : Nt) (h : ¬ n.view.toNat < x.view.toNat) (hn : x.n < 32) (hm : mayT x.tr x.vo x.lk b = true) (hbl : x.bs.length = x.tr.length)
  (lk : Txt) (hlk : (el x.bs (lkT x b)).1 = lk) (h200 : lk.length ≤ 200) (d' : Dk) (s' : Txt) (c' : UInt64) (lo' : Bool)
  (hsv : FP G 137 [.ptr 1 0, sA (recT n.view (x.n + 1) lk)] (djH x.d x.s x.c x.lost) (.v (.int .i64 120)) (djH d' s' c' lo')) :
  FP G 98 [.ptr 2 0, .v (.int .i64 (b : Int)), .agg (ntA n)] (rpH x) (.tup [.agg (ntA nt0), .v (.bool false)]) (rpH { x with d := d', s := s', c := c', lost := lo', dead := true }) := by
 have e1 : U64 n.view = (n.view.toNat : Int) := rfl
 have e2 : U64 x.view = (x.view.toNat : Int) := rfl
 have hl := hw.le
 have fs := sgSpent_fc (G := G) x.seed 5 x.n (leavesT x.seed 5)
 have fm := tMay_fc (G := G) x.tr hw x.vo x.lk b hk hb
 rw [hm] at fm
 have fa := tAfter_fc (G := G) x.tr hw x.vo x.lk b hk hb (may_lt hm)
 rw [show (if (vwT x.tr x.lk).toNat < (vwT x.tr (gpT x.tr b)).toNat then gpT x.tr b else x.lk) = lkT x b from by with_unfolding_all rfl] at fa
 have hkl := lkT_lt hw hb hk
 have fr := recStr_fc (G := G) n.view (x.n + 1) lk h200
 refine FC.of_wpc [(6, some 46), (7, none)] Tryz.func98 rfl rfl rfl rfl (by exact ⟨_, rfl, ⟨_, _, rfl, rfl, rfl, rfl⟩, trivial, trivial⟩) ⟨rfl, trivial, nt_bel _ n, trivial⟩ (rp_bel _ blt10 x) (Nat.le_of_ble_eq_true rfl) ?_
 intro A hG hnA hAB
 unfold start
 refine WP.rs hG (Ch.p1 rfl (OpS.boxS) rfl (Ch.a0 (OpS.alloc 10 rfl rfl rfl) rfl rfl (Ch.asg rfl rfl (Ch.nil (WP.seq (WP.block (WP.rsD (by kernel_rfl) hG (Ch.p1 rfl (OpS.fieldAddrS rfl rfl rfl rfl rfl) rfl (Ch.p1 rfl (OpS.loadS rfl rfl) rfl ?_)))))))))
 refine Ch.mv rfl rfl (Ch.p1 rfl (OpS.nilCheckP) rfl (Ch.p1 rfl (OpS.fieldAddr rfl rfl rfl rfl) rfl (Ch.q1 rfl (OpS.loadP rfl rfl rfl) rfl rfl (Ch.p2 rfl rfl (OpS.lssF (by omega)) rfl ?_))))
 refine Ch.asg rfl rfl (Ch.nilD ?_ (by kernel_rfl))
 refine WP.cond_false rfl (WP.rs hG (Ch.mv rfl rfl (Ch.p1 rfl (OpS.nilCheckP) rfl (Ch.p1 rfl (OpS.fieldAddr rfl rfl rfl rfl) rfl (Ch.q1 rfl (OpS.loadP rfl rfl rfl) rfl rfl ?_)))))
 refine Ch.cH (fs) [6,7] 11 gdN (.cons rfl .nil) (.c (.rfl _) .n) rfl (by refine ⟨?_, ?_, ?_, ?_⟩ <;> first | ((conv => lhs; simp only [nrmA, Nat.reduceAdd, renL_tbs, renL_tb1, renL_bks, renL_b1, renL_vs, renL_v1, ren_vt, pend_ren, ren_ss]); all_goals rfl) | rfl) (by exact ⟨rfl, rfl, trivial⟩) (by exact trivial) rfl ?_
 refine Ch.p2 rfl rfl (OpS.geqF (by omega)) rfl ?_
 refine Ch.asg rfl rfl (Ch.nil (WP.cond_false rfl (WP.rsD (by kernel_rfl) hG (Ch.mv rfl rfl (Ch.p1 rfl (OpS.nilCheckP) rfl (Ch.p1 rfl (OpS.fieldAddr rfl rfl rfl rfl) rfl (Ch.p1 rfl (OpS.fieldAddr rfl rfl rfl rfl) rfl (Ch.q1 rfl (OpS.loadP rfl rfl rfl) rfl rfl (Ch.mv rfl rfl ?_)))))))))
 refine Ch.p1 rfl (OpS.nilCheckP) rfl (Ch.p1 rfl (OpS.fieldAddr rfl rfl rfl rfl) rfl (Ch.p1 rfl (OpS.fieldAddr rfl rfl rfl rfl) rfl (Ch.q1 rfl (OpS.loadPA (off := 2) (sz := 2) (cs := rpC x 5 9) rfl rfl rfl rfl (by exact Nat.le_of_ble_eq_true rfl)) rfl rfl ?_)))
 refine Ch.mv rfl rfl ?_
 refine Ch.cH (fm) [3,4] 11 gdN (.cons rfl (.cons rfl (.cons rfl .nil))) (.c (.rfl _) (.c (.rfl _) (.c (.rfl _) .n))) rfl (by refine ⟨?_, ?_, ?_, ?_⟩ <;> first | ((conv => lhs; simp only [nrmA, Nat.reduceAdd, renL_tbs, renL_tb1, renL_bks, renL_b1, renL_vs, renL_v1, ren_vt, pend_ren, ren_ss]); all_goals rfl) | rfl) (by exact ⟨rfl, rfl, trivial⟩) (by exact trivial) rfl ?_
 refine Ch.p1 rfl (OpS.not) rfl (Ch.asg rfl rfl (Ch.nilD ?_ (by kernel_rfl)))
 refine WP.cond_false rfl (WP.skip (WP.rsD (by kernel_rfl) hG (Ch.mv rfl rfl (Ch.p1 rfl (OpS.nilCheckP) rfl (Ch.p1 rfl (OpS.fieldAddr rfl rfl rfl rfl) rfl (Ch.p1 rfl (OpS.fieldAddr rfl rfl rfl rfl) rfl (Ch.q1 rfl (OpS.loadP rfl rfl rfl) rfl rfl (Ch.mv rfl rfl (Ch.p1 rfl (OpS.nilCheckP) rfl ?_)))))))))
 refine Ch.p1 rfl (OpS.fieldAddr rfl rfl rfl rfl) rfl (Ch.p1 rfl (OpS.fieldAddr rfl rfl rfl rfl) rfl (Ch.q1 rfl (OpS.loadPA (off := 2) (sz := 2) (cs := rpC x 5 9) rfl rfl rfl rfl (by exact Nat.le_of_ble_eq_true rfl)) rfl rfl ?_))
 refine Ch.mv rfl rfl ?_
 refine Ch.cH (fa) [3,4] 11 gdN (.cons rfl (.cons rfl (.cons rfl .nil))) (.c (.rfl _) (.c (.rfl _) (.c (.rfl _) .n))) rfl (by refine ⟨?_, ?_, ?_, ?_⟩ <;> first | ((conv => lhs; simp only [nrmA, Nat.reduceAdd, renL_tbs, renL_tb1, renL_bks, renL_b1, renL_vs, renL_v1, ren_vt, pend_ren, ren_ss]); all_goals rfl) | rfl) (by exact ⟨rfl, rfl, trivial⟩) (by exact trivial) rfl ?_
 refine Ch.a0 (OpS.alloc 11 rfl rfl rfl) rfl rfl (Ch.ws rfl rfl (OpS.storePA (cs := [.v (.int .u64 0), .v (.int .i64 0)]) (c := .agg [.v (.int .u64 (U64 (vwT x.tr b))), .v (.int .i64 (lkT x b : Int))]) rfl rfl rfl (by exact Nat.le_refl 2)) rfl ?_)
 refine Ch.nilD ?_ (by kernel_rfl)
 refine WP.rsD (by kernel_rfl) hG (Ch.p1 rfl (OpS.fieldAddrS rfl rfl rfl rfl rfl) rfl (Ch.p1 rfl (OpS.loadS rfl rfl) rfl (Ch.mv rfl rfl (Ch.p1 rfl (OpS.nilCheckP) rfl (Ch.p1 rfl (OpS.fieldAddr rfl rfl rfl rfl) rfl (Ch.q1 rfl (OpS.loadP rfl rfl rfl) rfl rfl ?_))))))
 refine Ch.cH (fs) [6,7] 12 gdN (.cons rfl .nil) (.c (.rfl _) .n) rfl (by refine ⟨?_, ?_, ?_, ?_⟩ <;> first | ((conv => lhs; simp only [nrmA, Nat.reduceAdd, renL_tbs, renL_tb1, renL_bks, renL_b1, renL_vs, renL_v1, ren_vt, pend_ren, ren_ss]); all_goals rfl) | rfl) (by exact ⟨rfl, rfl, trivial⟩) (by exact trivial) rfl ?_
 refine Ch.p2 rfl rfl (OpS.int (op := .add) (v' := .int .i64 ((x.n + 1 : Nat) : Int)) rfl (by rw [wr64 (by omega)]; exact congrArg (Value.int .i64) (by omega))) rfl ?_
 refine Ch.p1 rfl (OpS.conv (v := .int .u64 (U64 (UInt64.ofNat (x.n + 1)))) rfl rfl (ofN_succ x.n (by omega))) rfl ?_
 refine Ch.mv rfl rfl (Ch.p1 rfl (OpS.nilCheckP) rfl (Ch.p1 rfl (OpS.fieldAddr rfl rfl rfl rfl) rfl (Ch.p1 rfl (OpS.fieldAddr rfl rfl rfl rfl) rfl (Ch.q1 rfl (OpS.loadP rfl rfl rfl) rfl rfl (Ch.p1 rfl (OpS.fieldAddr rfl rfl rfl rfl) rfl (Ch.q1 rfl (OpS.loadP rfl rfl rfl) rfl rfl (Ch.p2 rfl rfl (OpS.indexF rfl rfl rfl bkA_len (by decide) (Int.toNat_natCast _) (by omega) (by omega) rfl) rfl ?_)))))))
 refine Ch.p1 rfl (OpS.fieldAddrS rfl rfl rfl rfl rfl) rfl (Ch.p1 rfl (OpS.loadS rfl rfl) rfl (Ch.pup gdN (by repeat (first | exact EvP.nil | (apply EvP.cons; exact rfl))) (OpS.build (cs := [.v (.int .u64 (U64 n.view)), .v (.int .u64 (U64 (UInt64.ofNat (x.n + 1)))), sA (el x.bs (lkT x b)).1]) rfl rfl rfl rfl rfl (by rfl)) rfl ?_))
 refine Ch.a0 (OpS.alloc 12 rfl rfl rfl) rfl rfl (Ch.ws rfl rfl (OpS.storePA (cs := [.v (.int .u64 0), .v (.int .u64 0), sA []]) (c := .agg [.v (.int .u64 (U64 n.view)), .v (.int .u64 (U64 (UInt64.ofNat (x.n + 1)))), sA (el x.bs (lkT x b)).1]) rfl rfl rfl (by exact Nat.le_refl 3)) rfl ?_)
 refine Ch.nilD ?_ (by kernel_rfl)
 refine WP.seq ?_
 rw [hlk]
 refine WP.rsD (by kernel_rfl) hG (Ch.mv rfl rfl (Ch.p1 rfl (OpS.nilCheckP) rfl (Ch.p1 rfl (OpS.fieldAddr rfl rfl rfl rfl) rfl (Ch.q1 rfl (OpS.loadP rfl rfl rfl) rfl rfl (Ch.q1 rfl (OpS.loadPA (off := 0) (sz := 3) (cs := [.v (.int .u64 (U64 n.view)), .v (.int .u64 (U64 (UInt64.ofNat (x.n + 1)))), sA lk]) rfl rfl rfl rfl (by exact Nat.le_refl 3)) rfl rfl ?_)))))
 refine Ch.callP (fr) gdN (.cons rfl .nil) (.c (.rfl _) .n) (by rfl) rfl ?_
 refine Ch.cH (hsv) [0,1] 13 gdN (.cons rfl (.cons rfl .nil)) (.c (.rfl _) (.c (.rfl _) .n)) rfl (by refine ⟨?_, ?_, ?_, ?_⟩ <;> first | ((conv => lhs; simp only [nrmA, Nat.reduceAdd, renL_tbs, renL_tb1, renL_bks, renL_b1, renL_vs, renL_v1, ren_vt, pend_ren, ren_ss]); all_goals rfl) | rfl) (by exact ⟨rfl, rfl, trivial⟩) (by exact trivial) rfl ?_
 refine Ch.p2 rfl rfl (OpS.int (op := .neq) (v' := .bool true) rfl rfl) rfl (Ch.nilD ?_ (by kernel_rfl))
 refine WP.cond_true rfl (WP.rs hG (Ch.mv rfl rfl (Ch.p1 rfl (OpS.nilCheckP) rfl (Ch.p1 rfl (OpS.fieldAddr rfl rfl rfl rfl) rfl (Ch.ws rfl rfl (OpS.storeP (cs := rpC x 5 9) rfl rfl rfl (by simp)) rfl ?_)))))
 refine Ch.nil (WP.rs hG (Ch.pup gdN (by repeat (first | exact EvP.nil | (apply EvP.cons; exact rfl))) (OpS.build (cs := ntA nt0) rfl rfl rfl rfl rfl (by rfl)) rfl ?_))
 refine Ch.ws rfl rfl (OpS.storePA (cs := ntA nt0) (c := .agg (ntA nt0)) rfl rfl rfl (by exact Nat.le_refl 9)) rfl ?_
 refine Ch.asg rfl rfl (Ch.nil (WP.from (SEnt.frz (t := 6) rfl rfl) (WP.ret ?_)))
 refine (Ret.of (rs := [6, 7]) (vs := [.sptr (ntA nt0), .v (.bool false)]) (H' := rpH { x with d := d', s := s', c := c', lost := lo', dead := true }) (res := .tup [.sptr (ntA nt0), .v (.bool false)]) [0, 1, 2, 3, 4, 5, 6, 7, 8, 9] ?_ ?_ rfl ?_ (by simp only [List.length_cons, List.length_nil]; decide) ?_).1
 · exact na_of hnA rfl
 · (repeat (first | exact trivial | (refine ⟨⟨(by trivial), _, rfl, .rfl _⟩, ?_⟩)))
 · (repeat (first | exact trivial | refine HFromL.skip ?_ | (refine ⟨⟨(by first | trivial | (simp; first | done | fail)), (by first | rfl | (simp [renL_tbs, renL_bks, renL_vs, pend_ren]; first | done | fail))⟩, ?_⟩)))
 exact ⟨_, rfl, rfl, by simp [ls, TsOk, List.zip, List.zipWith]⟩
theorem rCastY_fc (hsha : ShaIn G) (x : Rp) (hw : WfT x.tr) (b : Nat) (hb : b < x.tr.length) (hk : x.lk < x.tr.length) (n : Nt) (h : ¬ n.view.toNat < x.view.toNat) (hv : n.view.toNat ≤ 4611686018427387904) (hn : x.n < 32) (hm : mayT x.tr x.vo x.lk b = true) (hbl : x.bs.length = x.tr.length)
  (lk : Txt) (hlk : (el x.bs (lkT x b)).1 = lk) (h200 : lk.length ≤ 200) (hid : n.id.length ≤ 1000000) (hsg : x.sg.length ≤ 1000000) (hsd : x.seed.length ≤ 140737488355264) (d' : Dk) (s' : Txt) (c' : UInt64) (lo' : Bool)
  (hsv : FP G 137 [.ptr 1 0, sA (recT n.view (x.n + 1) lk)] (djH x.d x.s x.c x.lost) (.v (.int .i64 0)) (djH d' s' c' lo')) :
  FP G 98 [.ptr 2 0, .v (.int .i64 (b : Int)), .agg (ntA n)] (rpH x) (.tup [.agg (ntA (voteN x n)), .v (.bool true)]) (rpS { x with d := d', s := s', c := c', lost := lo', vo := vwT x.tr b, lk := lkT x b, lid := lk, n := x.n + 1, sg := x.sg ++ [ballotT n.id], view := n.view + 1 }) := by
 have e1 : U64 n.view = (n.view.toNat : Int) := rfl
 have e2 : U64 x.view = (x.view.toNat : Int) := rfl
 have e3 := succ_nat hv
 have hl := hw.le
 have fs := sgSpent_fc (G := G) x.seed 5 x.n (leavesT x.seed 5)
 have fm := tMay_fc (G := G) x.tr hw x.vo x.lk b hk hb
 rw [hm] at fm
 have fa := tAfter_fc (G := G) x.tr hw x.vo x.lk b hk hb (may_lt hm)
 rw [show (if (vwT x.tr x.lk).toNat < (vwT x.tr (gpT x.tr b)).toNat then gpT x.tr b else x.lk) = lkT x b from by with_unfolding_all rfl] at fa
 have hkl := lkT_lt hw hb hk
 have fr := recStr_fc (G := G) n.view (x.n + 1) lk h200
 have fb := rBallot_fc (G := G) n.id (by omega)
 have hbal : (ballotT n.id).length = n.id.length + 1 := rfl
 have fg := sgSign_fc hsha x.seed 5 x.n (by decide) (ballotT n.id) (by simpa using hn) hsd (by omega)
 have fl := rLead_fc (G := G) (n.view + 1)
 have eS : x.sg.length + 1 = (x.sg ++ [ballotT n.id]).length := by simp
 have eM : x.sg.map sA ++ [sA (ballotT n.id)] = (x.sg ++ [ballotT n.id]).map sA := by simp
 have fgo := rGoes_fc (G := G) { x with d := d', s := s', c := c', lost := lo', vo := vwT x.tr b, lk := lkT x b, lid := lk, n := x.n + 1, sg := x.sg ++ [ballotT n.id] } (n.view + 1) (n.view + 1) (max_r (by show x.view.toNat ≤ _; omega))
 refine FC.of_wpc [(6, some 46), (7, none)] Tryz.func98 rfl rfl rfl rfl (by exact ⟨_, rfl, ⟨_, _, rfl, rfl, rfl, rfl⟩, trivial, trivial⟩) ⟨rfl, trivial, nt_bel _ n, trivial⟩ (rp_bel _ blt10 x) (Nat.le_of_ble_eq_true rfl) ?_
 intro A hG hnA hAB
 unfold start
 refine WP.rs hG (Ch.p1 rfl (OpS.boxS) rfl (Ch.a0 (OpS.alloc 10 rfl rfl rfl) rfl rfl (Ch.asg rfl rfl (Ch.nil (WP.seq (WP.block (WP.rsD (by kernel_rfl) hG (Ch.p1 rfl (OpS.fieldAddrS rfl rfl rfl rfl rfl) rfl (Ch.p1 rfl (OpS.loadS rfl rfl) rfl ?_)))))))))
 refine Ch.mv rfl rfl (Ch.p1 rfl (OpS.nilCheckP) rfl (Ch.p1 rfl (OpS.fieldAddr rfl rfl rfl rfl) rfl (Ch.q1 rfl (OpS.loadP rfl rfl rfl) rfl rfl (Ch.p2 rfl rfl (OpS.lssF (by omega)) rfl ?_))))
 refine Ch.asg rfl rfl (Ch.nilD ?_ (by kernel_rfl))
 refine WP.cond_false rfl (WP.rs hG (Ch.mv rfl rfl (Ch.p1 rfl (OpS.nilCheckP) rfl (Ch.p1 rfl (OpS.fieldAddr rfl rfl rfl rfl) rfl (Ch.q1 rfl (OpS.loadP rfl rfl rfl) rfl rfl ?_)))))
 refine Ch.cH (fs) [6,7] 11 gdN (.cons rfl .nil) (.c (.rfl _) .n) rfl (by refine ⟨?_, ?_, ?_, ?_⟩ <;> first | ((conv => lhs; simp only [nrmA, Nat.reduceAdd, renL_tbs, renL_tb1, renL_bks, renL_b1, renL_vs, renL_v1, ren_vt, pend_ren, ren_ss]); all_goals rfl) | rfl) (by exact ⟨rfl, rfl, trivial⟩) (by exact trivial) rfl ?_
 refine Ch.p2 rfl rfl (OpS.geqF (by omega)) rfl ?_
 refine Ch.asg rfl rfl (Ch.nil (WP.cond_false rfl (WP.rsD (by kernel_rfl) hG (Ch.mv rfl rfl (Ch.p1 rfl (OpS.nilCheckP) rfl (Ch.p1 rfl (OpS.fieldAddr rfl rfl rfl rfl) rfl (Ch.p1 rfl (OpS.fieldAddr rfl rfl rfl rfl) rfl (Ch.q1 rfl (OpS.loadP rfl rfl rfl) rfl rfl (Ch.mv rfl rfl ?_)))))))))
 refine Ch.p1 rfl (OpS.nilCheckP) rfl (Ch.p1 rfl (OpS.fieldAddr rfl rfl rfl rfl) rfl (Ch.p1 rfl (OpS.fieldAddr rfl rfl rfl rfl) rfl (Ch.q1 rfl (OpS.loadPA (off := 2) (sz := 2) (cs := rpC x 5 9) rfl rfl rfl rfl (by exact Nat.le_of_ble_eq_true rfl)) rfl rfl ?_)))
 refine Ch.mv rfl rfl ?_
 refine Ch.cH (fm) [3,4] 11 gdN (.cons rfl (.cons rfl (.cons rfl .nil))) (.c (.rfl _) (.c (.rfl _) (.c (.rfl _) .n))) rfl (by refine ⟨?_, ?_, ?_, ?_⟩ <;> first | ((conv => lhs; simp only [nrmA, Nat.reduceAdd, renL_tbs, renL_tb1, renL_bks, renL_b1, renL_vs, renL_v1, ren_vt, pend_ren, ren_ss]); all_goals rfl) | rfl) (by exact ⟨rfl, rfl, trivial⟩) (by exact trivial) rfl ?_
 refine Ch.p1 rfl (OpS.not) rfl (Ch.asg rfl rfl (Ch.nilD ?_ (by kernel_rfl)))
 refine WP.cond_false rfl (WP.skip (WP.rsD (by kernel_rfl) hG (Ch.mv rfl rfl (Ch.p1 rfl (OpS.nilCheckP) rfl (Ch.p1 rfl (OpS.fieldAddr rfl rfl rfl rfl) rfl (Ch.p1 rfl (OpS.fieldAddr rfl rfl rfl rfl) rfl (Ch.q1 rfl (OpS.loadP rfl rfl rfl) rfl rfl (Ch.mv rfl rfl (Ch.p1 rfl (OpS.nilCheckP) rfl ?_)))))))))
 refine Ch.p1 rfl (OpS.fieldAddr rfl rfl rfl rfl) rfl (Ch.p1 rfl (OpS.fieldAddr rfl rfl rfl rfl) rfl (Ch.q1 rfl (OpS.loadPA (off := 2) (sz := 2) (cs := rpC x 5 9) rfl rfl rfl rfl (by exact Nat.le_of_ble_eq_true rfl)) rfl rfl ?_))
 refine Ch.mv rfl rfl ?_
 refine Ch.cH (fa) [3,4] 11 gdN (.cons rfl (.cons rfl (.cons rfl .nil))) (.c (.rfl _) (.c (.rfl _) (.c (.rfl _) .n))) rfl (by refine ⟨?_, ?_, ?_, ?_⟩ <;> first | ((conv => lhs; simp only [nrmA, Nat.reduceAdd, renL_tbs, renL_tb1, renL_bks, renL_b1, renL_vs, renL_v1, ren_vt, pend_ren, ren_ss]); all_goals rfl) | rfl) (by exact ⟨rfl, rfl, trivial⟩) (by exact trivial) rfl ?_
 refine Ch.a0 (OpS.alloc 11 rfl rfl rfl) rfl rfl (Ch.ws rfl rfl (OpS.storePA (cs := [.v (.int .u64 0), .v (.int .i64 0)]) (c := .agg [.v (.int .u64 (U64 (vwT x.tr b))), .v (.int .i64 (lkT x b : Int))]) rfl rfl rfl (by exact Nat.le_refl 2)) rfl ?_)
 refine Ch.nilD ?_ (by kernel_rfl)
 refine WP.rsD (by kernel_rfl) hG (Ch.p1 rfl (OpS.fieldAddrS rfl rfl rfl rfl rfl) rfl (Ch.p1 rfl (OpS.loadS rfl rfl) rfl (Ch.mv rfl rfl (Ch.p1 rfl (OpS.nilCheckP) rfl (Ch.p1 rfl (OpS.fieldAddr rfl rfl rfl rfl) rfl (Ch.q1 rfl (OpS.loadP rfl rfl rfl) rfl rfl ?_))))))
 refine Ch.cH (fs) [6,7] 12 gdN (.cons rfl .nil) (.c (.rfl _) .n) rfl (by refine ⟨?_, ?_, ?_, ?_⟩ <;> first | ((conv => lhs; simp only [nrmA, Nat.reduceAdd, renL_tbs, renL_tb1, renL_bks, renL_b1, renL_vs, renL_v1, ren_vt, pend_ren, ren_ss]); all_goals rfl) | rfl) (by exact ⟨rfl, rfl, trivial⟩) (by exact trivial) rfl ?_
 refine Ch.p2 rfl rfl (OpS.int (op := .add) (v' := .int .i64 ((x.n + 1 : Nat) : Int)) rfl (by rw [wr64 (by omega)]; exact congrArg (Value.int .i64) (by omega))) rfl ?_
 refine Ch.p1 rfl (OpS.conv (v := .int .u64 (U64 (UInt64.ofNat (x.n + 1)))) rfl rfl (ofN_succ x.n (by omega))) rfl ?_
 refine Ch.mv rfl rfl (Ch.p1 rfl (OpS.nilCheckP) rfl (Ch.p1 rfl (OpS.fieldAddr rfl rfl rfl rfl) rfl (Ch.p1 rfl (OpS.fieldAddr rfl rfl rfl rfl) rfl (Ch.q1 rfl (OpS.loadP rfl rfl rfl) rfl rfl (Ch.p1 rfl (OpS.fieldAddr rfl rfl rfl rfl) rfl (Ch.q1 rfl (OpS.loadP rfl rfl rfl) rfl rfl (Ch.p2 rfl rfl (OpS.indexF rfl rfl rfl bkA_len (by decide) (Int.toNat_natCast _) (by omega) (by omega) rfl) rfl ?_)))))))
 refine Ch.p1 rfl (OpS.fieldAddrS rfl rfl rfl rfl rfl) rfl (Ch.p1 rfl (OpS.loadS rfl rfl) rfl (Ch.pup gdN (by repeat (first | exact EvP.nil | (apply EvP.cons; exact rfl))) (OpS.build (cs := [.v (.int .u64 (U64 n.view)), .v (.int .u64 (U64 (UInt64.ofNat (x.n + 1)))), sA (el x.bs (lkT x b)).1]) rfl rfl rfl rfl rfl (by rfl)) rfl ?_))
 refine Ch.a0 (OpS.alloc 12 rfl rfl rfl) rfl rfl (Ch.ws rfl rfl (OpS.storePA (cs := [.v (.int .u64 0), .v (.int .u64 0), sA []]) (c := .agg [.v (.int .u64 (U64 n.view)), .v (.int .u64 (U64 (UInt64.ofNat (x.n + 1)))), sA (el x.bs (lkT x b)).1]) rfl rfl rfl (by exact Nat.le_refl 3)) rfl ?_)
 refine Ch.nilD ?_ (by kernel_rfl)
 refine WP.seq ?_
 rw [hlk]
 refine WP.rsD (by kernel_rfl) hG (Ch.mv rfl rfl (Ch.p1 rfl (OpS.nilCheckP) rfl (Ch.p1 rfl (OpS.fieldAddr rfl rfl rfl rfl) rfl (Ch.q1 rfl (OpS.loadP rfl rfl rfl) rfl rfl (Ch.q1 rfl (OpS.loadPA (off := 0) (sz := 3) (cs := [.v (.int .u64 (U64 n.view)), .v (.int .u64 (U64 (UInt64.ofNat (x.n + 1)))), sA lk]) rfl rfl rfl rfl (by exact Nat.le_refl 3)) rfl rfl ?_)))))
 refine Ch.callP (fr) gdN (.cons rfl .nil) (.c (.rfl _) .n) (by rfl) rfl ?_
 refine Ch.cH (hsv) [0,1] 13 gdN (.cons rfl (.cons rfl .nil)) (.c (.rfl _) (.c (.rfl _) .n)) rfl (by refine ⟨?_, ?_, ?_, ?_⟩ <;> first | ((conv => lhs; simp only [nrmA, Nat.reduceAdd, renL_tbs, renL_tb1, renL_bks, renL_b1, renL_vs, renL_v1, ren_vt, pend_ren, ren_ss]); all_goals rfl) | rfl) (by exact ⟨rfl, rfl, trivial⟩) (by exact trivial) rfl ?_
 refine Ch.p2 rfl rfl (OpS.int (op := .neq) (v' := .bool false) rfl rfl) rfl (Ch.nilD ?_ (by kernel_rfl))
 refine WP.cond_false rfl (WP.skip (WP.rsD (by kernel_rfl) hG (Ch.mv rfl rfl (Ch.mv rfl rfl (Ch.q1 rfl (OpS.loadPA (off := 0) (sz := 2) (cs := [.v (.int .u64 (U64 (vwT x.tr b))), .v (.int .i64 (lkT x b : Int))]) rfl rfl rfl rfl (by exact Nat.le_refl 2)) rfl rfl ?_)))))
 refine Ch.p1 rfl (OpS.fieldAddr rfl rfl rfl rfl) rfl (Ch.q1 rfl (OpS.loadP rfl rfl rfl) rfl rfl (Ch.p1 rfl (OpS.nilCheckP) rfl (Ch.p1 rfl (OpS.fieldAddr rfl rfl rfl rfl) rfl (Ch.p1 rfl (OpS.fieldAddr rfl rfl rfl rfl) rfl (Ch.ws rfl rfl (OpS.storePA (cs := rpC x 5 9) (c := .agg [.v (.int .u64 (U64 (vwT x.tr b))), .v (.int .i64 (lkT x b : Int))]) rfl rfl rfl (by exact Nat.le_of_ble_eq_true rfl)) rfl ?_)))))
 refine Ch.p1 rfl (OpS.nilCheckP) rfl (Ch.p1 rfl (OpS.fieldAddr rfl rfl rfl rfl) rfl (Ch.p1 rfl (OpS.fieldAddr rfl rfl rfl rfl) rfl (Ch.ws rfl rfl (OpS.storeP (cs := rpC { x with vo := vwT x.tr b, lk := lkT x b } 5 9) rfl rfl rfl (by simp)) rfl ?_)))
 refine Ch.nilD ?_ (by kernel_rfl)
 refine WP.rsD (by kernel_rfl) hG (Ch.mv rfl rfl (Ch.p1 rfl (OpS.nilCheckP) rfl (Ch.p1 rfl (OpS.fieldAddr rfl rfl rfl rfl) rfl (Ch.q1 rfl (OpS.loadP rfl rfl rfl) rfl rfl (Ch.p1 rfl (OpS.fieldAddrS rfl rfl rfl rfl rfl) rfl (Ch.p1 rfl (OpS.loadS rfl rfl) rfl (Ch.callP (fb) gdN (.cons rfl .nil) (.c (.rfl _) .n) (by rfl) rfl ?_)))))))
 refine Ch.cH (fg) [6,7] 13 gdN (.cons rfl (.cons rfl .nil)) (.c (.rfl _) (.c (.rfl _) .n)) rfl (by refine ⟨?_, ?_, ?_, ?_⟩ <;> first | ((conv => lhs; simp only [nrmA, Nat.reduceAdd, renL_tbs, renL_tb1, renL_bks, renL_b1, renL_vs, renL_v1, ren_vt, pend_ren, ren_ss]); all_goals rfl) | rfl) (by exact ⟨rfl, rfl, trivial⟩) (by exact trivial) rfl ?_
 refine Ch.mv rfl rfl (Ch.p1 rfl (OpS.extract rfl) rfl (Ch.p1 rfl (OpS.extract rfl) rfl (Ch.asg rfl rfl (Ch.asg rfl rfl (Ch.nilD ?_ (by kernel_rfl))))))
 refine WP.rsD (by kernel_rfl) hG (Ch.mv rfl rfl (Ch.mv rfl rfl (Ch.p1 rfl (OpS.nilCheckP) rfl (Ch.p1 rfl (OpS.fieldAddr rfl rfl rfl rfl) rfl (Ch.q1 rfl (OpS.loadP rfl rfl rfl) rfl rfl (Ch.p1 rfl (OpS.fieldAddrS rfl rfl rfl rfl rfl) rfl (Ch.p1 rfl (OpS.loadS rfl rfl) rfl (Ch.callP (fb) gdN (.cons rfl .nil) (.c (.rfl _) .n) (by rfl) rfl ?_))))))))
 refine Ch.pup gdN (by repeat (first | exact EvP.nil | (apply EvP.cons; exact rfl))) (OpS.slice1 (ys := ([ballotT n.id] : List Txt).map sA) rfl rfl rfl rfl rfl rfl (by rfl) rfl (by rfl)) rfl ?_
 refine Ch.a2 rfl rfl (OpS.append (sz := 1) (bb := 16) 13 rfl rfl rfl rfl rfl (by decide) (SrcA.sl rfl (by exact rfl)) (by rw [List.length_map, Nat.mul_one]) rfl (by show x.sg.length + 1 ≤ _; unfold maxLen; omega) rfl (by show (x.sg.length + 1) * 16 ≤ _; omega)) rfl rfl rfl ?_
 refine Ch.p1 rfl (OpS.nilCheckP) rfl (Ch.p1 rfl (OpS.fieldAddr rfl rfl rfl rfl) rfl (Ch.ws rfl rfl (OpS.storeP (cs := rpC { x with vo := vwT x.tr b, lk := lkT x b, lid := lk } 5 9) rfl rfl rfl (by simp)) rfl ?_))
 refine Ch.nilD ?_ (by kernel_rfl)
 rw [show (List.map sA [ballotT n.id]) = [sA (ballotT n.id)] from rfl, eM, eS]
 refine WP.rs hG (Ch.mv rfl rfl (Ch.p1 rfl (OpS.fieldAddrS rfl rfl rfl rfl rfl) rfl (Ch.p1 rfl (OpS.loadS rfl rfl) rfl (Ch.p2 rfl rfl (OpS.int (op := .add) (v' := .int .u64 (U64 (n.view + 1))) rfl (u64_succ _)) rfl ?_))))
 refine Ch.cH (fgo) [0,1,2,3,4,5,6,7,8,13] 14 gdN (.cons rfl (.cons rfl .nil)) (.c (.rfl _) (.c (.rfl _) .n)) rfl (by refine ⟨?_, ?_, ?_, ?_⟩ <;> first | ((conv => lhs; simp only [nrmA, Nat.reduceAdd, renL_tbs, renL_tb1, renL_bks, renL_b1, renL_vs, renL_v1, ren_vt, pend_ren, ren_ss]); all_goals rfl) | rfl) (by exact ⟨rfl, rfl, rfl, rfl, rfl, rfl, rfl, rfl, rfl, rfl, trivial⟩) (by exact trivial) rfl ?_
 refine Ch.nil (WP.rsD (by kernel_rfl) hG (Ch.mv rfl rfl (Ch.p1 rfl (OpS.nilCheckP) rfl (Ch.p1 rfl (OpS.fieldAddr rfl rfl rfl rfl) rfl (Ch.q1 rfl (OpS.loadP rfl rfl rfl) rfl rfl (Ch.mv rfl rfl (Ch.p1 rfl (OpS.nilCheckP) rfl (Ch.p1 rfl (OpS.fieldAddr rfl rfl rfl rfl) rfl (Ch.q1 rfl (OpS.loadP rfl rfl rfl) rfl rfl ?_)))))))))
 refine Ch.callP (fl) gdN (.cons rfl .nil) (.c (.rfl _) .n) (by rfl) rfl ?_
 refine Ch.p1 rfl (OpS.fieldAddrS rfl rfl rfl rfl rfl) rfl (Ch.p1 rfl (OpS.loadS rfl rfl) rfl (Ch.p1 rfl (OpS.fieldAddrS rfl rfl rfl rfl rfl) rfl (Ch.p1 rfl (OpS.loadS rfl rfl) rfl (Ch.mv rfl rfl (Ch.pup gdN (by repeat (first | exact EvP.nil | (apply EvP.cons; exact rfl))) (OpS.build (cs := ntA (voteN x n)) rfl rfl rfl rfl rfl (by rfl)) rfl ?_)))))
 refine Ch.ws rfl rfl (OpS.storePA (cs := ntA nt0) (c := .agg (ntA (voteN x n))) rfl rfl rfl (by exact Nat.le_refl 9)) rfl ?_
 refine Ch.asg rfl rfl (Ch.nilD ?_ (by kernel_rfl))
 refine WP.from (SEnt.frz (t := 6) rfl rfl) (WP.ret ?_)
 refine (Ret.of (rs := [6, 7]) (vs := [.sptr (ntA (voteN x n)), .v (.bool true)]) (H' := rpS { x with d := d', s := s', c := c', lost := lo', vo := vwT x.tr b, lk := lkT x b, lid := lk, n := x.n + 1, sg := x.sg ++ [ballotT n.id], view := n.view + 1 }) (res := .tup [.sptr (ntA (voteN x n)), .v (.bool true)]) [0, 1, 2, 3, 4, 5, 6, 7, 8, 9, 13] ?_ ?_ rfl ?_ (by simp only [List.length_cons, List.length_nil]; decide) ?_).1
 · exact na_of hnA rfl
 · (repeat (first | exact trivial | (refine ⟨⟨(by trivial), _, rfl, .rfl _⟩, ?_⟩)))
 · (repeat (first | exact trivial | refine HFromL.skip ?_ | (refine ⟨⟨(by first | trivial | (simp; first | done | fail)), (by first | rfl | (simp [renL_tbs, renL_bks, renL_vs, pend_ren]; first | done | fail))⟩, ?_⟩)))
 exact ⟨_, rfl, rfl, by simp [ls, TsOk, List.zip, List.zipWith]⟩
end
end Go.Proofs.YtpnbpcopdckgpaaGreatDoor.E
namespace Go.Proofs.YtpnbpcopdckgpaaGreatDoor.E
open Go Go.RowKit V
set_option maxRecDepth 4000
set_option maxRecDepth 4000
theorem ren_nt (π : Nat → Nat) (n : Nt) : AV.ren π (.agg (ntA n)) = .agg (ntA n) := by
 show AV.agg [_, _, _, _, _, _, _, _, AV.ren π (ssA n.sigs)] = _
 rw [ren_ss]
 rfl
theorem ren_spt (π : Nat → Nat) (n : Nt) : AV.ren π (.sptr (ntA n)) = .sptr (ntA n) := by
 show AV.sptr [_, _, _, _, _, _, _, _, AV.ren π (ssA n.sigs)] = _
 rw [ren_ss]
 rfl
@[simp] theorem bel_spt (u : Nat → Bool) (n : Nt) : AV.bel u (.sptr (ntA n)) := nt_bel u n
abbrev rpV (x : Rp) : List (Option AO) := [some (.cells 105 (dkC x.d)), some (.cells 129 (jC x.s x.c x.lost)), some (.cells 94 (rpC x 11 12)),
 some (.cells 140 [.sl (some 10) x.tr.length (x.tr.flatMap tbA)]), none, none,
 some (.cells 142 (kyC x)), some (.tip 9 1 (leavesT x.seed 5).length), some (.map x.tm), none,
 some (.tip 137 2 x.tr.length), some (.tip 97 3 x.bs.length), some (.tip 9 1 x.sg.length)]
attribute [local irreducible] sum tag input beS rdNum rdText leavesT f64 tb sigT firstT leadT mayT lkT recT idT
section
variable {G : List (Nat × Array Value)}
theorem rOnK_fc (hsha : ShaIn G) (x x1 x2 : Rp) (n r : Nt) (ok : Bool) (b : Nat) (hbs : x.bs.length ≤ 1000) (hpa : findT (idsT x.bs) n.pa = ((0 : Nat) : Int)) (hfr : n.fr = (leadT n.view : Int)) (hpll : n.pl.length ≤ 200) (hpal : n.pa.length ≤ 1000) (hid : n.id = idT n.view n.pa n.pl) (htr : 0 < x.tr.length ∧ x.tr.length ≤ 256) (hv0 : vwT x.tr 0 = 0) (hnv : 0 < n.view.toNat)
  (htr1 : 0 < x1.tr.length ∧ x1.tr.length ≤ 256) (hw1 : WfT x1.tr) (hb : b < x1.tr.length) (hcom : comT x1.tr b = -1)
  (hlearn : FP G 94 [.ptr 2 0, .v (.int .i64 ((0 : Nat) : Int)), .agg (ntA n)] (rpH x) (.v (.int .i64 (b : Int))) (rpH x1))
  (hcast : FP G 98 [.ptr 2 0, .v (.int .i64 (b : Int)), .agg (ntA n)] (rpH x1) (.tup [.agg (ntA r), .v (.bool ok)]) (rpH x2)) :
  FP G 61 [.ptr 2 0, .agg (ntA n)] (rpH x) (.tup [.agg (ntA r), .v (.bool ok)]) (rpH x2) := by
 have e1 : U64 n.view = (n.view.toNat : Int) := rfl
 have e0 : U64 0 = 0 := rfl
 have hfp := find_fc (G := G) x n.pa hbs
 rw [hpa] at hfp
 have fl := rLead_fc (G := G) n.view
 have fi := rID_fc hsha n.view n.pa n.pl (by omega)
 rw [← hid] at fi
 have fv := tView_fc (G := G) x.tr 0 htr.1 htr.2
 rw [hv0] at fv
 have fc := rCert0_fc (G := G) x n.sigs
 have fr := rRaise0_fc (G := G) x1 n.sigs htr1.1 htr1.2
 have fm := tCom_fc (G := G) x1.tr hw1 b hb
 rw [hcom] at fm
 refine FC.of_wpc [(4, some 46), (5, none)] Tryz.func61 rfl rfl rfl rfl (by exact ⟨_, rfl, ⟨_, _, rfl, rfl, rfl, rfl⟩, trivial, trivial⟩) ⟨rfl, nt_bel _ n, trivial⟩ (rp_bel _ blt10 x) (Nat.le_of_ble_eq_true rfl) ?_
 intro A hG hnA hAB
 unfold start
 refine WP.rs hG (Ch.p1 rfl (OpS.boxS) rfl (Ch.a0 (OpS.alloc 10 rfl rfl rfl) rfl rfl (Ch.asg rfl rfl (Ch.nil (WP.rsD (by kernel_rfl) hG (Ch.mv rfl rfl (Ch.p1 rfl (OpS.nilCheckP) rfl (Ch.p1 rfl (OpS.fieldAddr rfl rfl rfl rfl) rfl (Ch.p1 rfl (OpS.fieldAddrS rfl rfl rfl rfl rfl) rfl ?_)))))))))
 refine Ch.p1 rfl (OpS.loadS rfl rfl) rfl ?_
 refine Ch.cH (hfp) [0,1,2,3,4,5,6,7,8,9] 11 gdN (.cons rfl (.cons rfl .nil)) (.c (.rfl _) (.c (.rfl _) .n)) rfl (by refine ⟨?_, ?_, ?_, ?_⟩ <;> first | ((conv => lhs; simp only [nrmA, Nat.reduceAdd, renL_tbs, renL_tb1, renL_bks, renL_b1, renL_vs, renL_v1, ren_vt, pend_ren, ren_ss]); all_goals rfl) | rfl) (by exact ⟨rfl, rfl, rfl, rfl, rfl, rfl, rfl, rfl, rfl, rfl, trivial⟩) (by exact trivial) rfl ?_
 refine Ch.asg rfl rfl (Ch.nilD ?_ (by kernel_rfl))
 refine WP.seq (WP.rsD (by kernel_rfl) hG (Ch.p1 rfl (OpS.fieldAddrS rfl rfl rfl rfl rfl) rfl (Ch.p1 rfl (OpS.loadS rfl rfl) rfl (Ch.p1 rfl (OpS.fieldAddrS rfl rfl rfl rfl rfl) rfl (Ch.p1 rfl (OpS.loadS rfl rfl) rfl (Ch.callP (fl) gdN (.cons rfl .nil) (.c (.rfl _) .n) (by rfl) rfl ?_))))))
 refine Ch.p2 rfl rfl (OpS.neqF hfr) rfl (Ch.mv rfl rfl (Ch.g1 rfl rfl rfl (OpS.fieldAddrS rfl rfl rfl rfl rfl) rfl (Ch.g1 rfl rfl rfl (OpS.loadS rfl rfl) rfl (Ch.g1 rfl rfl rfl (OpS.lenS rfl) rfl (Ch.g2 rfl rfl rfl rfl (OpS.gtrF (by omega)) rfl ?_)))))
 refine Ch.p2 rfl rfl (OpS.pickF) rfl (Ch.mv rfl rfl (Ch.g1 rfl rfl rfl (OpS.fieldAddrS rfl rfl rfl rfl rfl) rfl (Ch.g1 rfl rfl rfl (OpS.loadS rfl rfl) rfl (Ch.g1 rfl rfl rfl (OpS.fieldAddrS rfl rfl rfl rfl rfl) rfl (Ch.g1 rfl rfl rfl (OpS.loadS rfl rfl) rfl (Ch.g1 rfl rfl rfl (OpS.fieldAddrS rfl rfl rfl rfl rfl) rfl (Ch.g1 rfl rfl rfl (OpS.loadS rfl rfl) rfl (Ch.g1 rfl rfl rfl (OpS.fieldAddrS rfl rfl rfl rfl rfl) rfl (Ch.g1 rfl rfl rfl (OpS.loadS rfl rfl) rfl ?_)))))))))
 refine Ch.callP (fi) (gdT rfl rfl) (.cons rfl (.cons rfl (.cons rfl .nil))) (.c (.rfl _) (.c (.rfl _) (.c (.rfl _) .n))) (by rfl) rfl ?_
 refine Ch.g2 rfl rfl rfl rfl (OpS.strNeB (c := false) (by simp)) rfl ?_
 refine Ch.p2 rfl rfl (OpS.pickF) rfl (Ch.mv rfl rfl (Ch.gm rfl rfl rfl rfl (Ch.g2 rfl rfl rfl rfl (OpS.int (op := .lss) (v' := .bool false) rfl rfl) rfl (Ch.p2 rfl rfl (OpS.pickF) rfl (Ch.nilD ?_ (by kernel_rfl))))))
 refine WP.cond_false rfl (WP.skip (WP.seq (WP.rsD (by kernel_rfl) hG (Ch.p1 rfl (OpS.fieldAddrS rfl rfl rfl rfl rfl) rfl (Ch.p1 rfl (OpS.loadS rfl rfl) rfl (Ch.mv rfl rfl (Ch.p1 rfl (OpS.nilCheckP) rfl (Ch.p1 rfl (OpS.fieldAddr rfl rfl rfl rfl) rfl (Ch.p1 rfl (OpS.fieldAddr rfl rfl rfl rfl) rfl ?_)))))))))
 refine Ch.q1 rfl (OpS.loadP rfl rfl rfl) rfl rfl (Ch.mv rfl rfl ?_)
 refine Ch.cH (fv) [3,4] 11 gdN (.cons rfl (.cons rfl .nil)) (.c (.rfl _) (.c (.rfl _) .n)) rfl (by refine ⟨?_, ?_, ?_, ?_⟩ <;> first | ((conv => lhs; simp only [nrmA, Nat.reduceAdd, renL_tbs, renL_tb1, renL_bks, renL_b1, renL_vs, renL_v1, ren_vt, pend_ren, ren_ss]); all_goals rfl) | rfl) (by exact ⟨rfl, rfl, trivial⟩) (by exact trivial) rfl ?_
 refine Ch.p2 rfl rfl (OpS.leqF (by omega)) rfl ?_
 refine Ch.mv rfl rfl (Ch.gm rfl rfl rfl rfl (Ch.gm rfl rfl rfl rfl (Ch.g1 rfl rfl rfl (OpS.fieldAddrS rfl rfl rfl rfl rfl) rfl (Ch.g1 rfl rfl rfl (OpS.loadS rfl rfl) rfl ?_))))
 refine Ch.cH (fc) [0,1,2,3,4,5,6,7,8,9] 11 (gdT rfl rfl) (.cons rfl (.cons rfl (.cons rfl .nil))) (.c (.rfl _) (.c (.rfl _) (.c (.of_eq (ren_ss _ _).symm) .n))) rfl (by refine ⟨?_, ?_, ?_, ?_⟩ <;> first | ((conv => lhs; simp only [nrmA, Nat.reduceAdd, renL_tbs, renL_tb1, renL_bks, renL_b1, renL_vs, renL_v1, ren_vt, pend_ren, ren_ss]); all_goals rfl) | rfl) (by exact ⟨rfl, rfl, rfl, rfl, rfl, rfl, rfl, rfl, rfl, rfl, trivial⟩) (by exact trivial) rfl ?_
 refine Ch.g1 rfl rfl rfl (OpS.not) rfl (Ch.p2 rfl rfl (OpS.pickF) rfl (Ch.nilD ?_ (by kernel_rfl)))
 refine WP.cond_false rfl (WP.skip (WP.rsD (by kernel_rfl) hG (Ch.mv rfl rfl (Ch.p1 rfl (OpS.nilCheckP) rfl (Ch.p1 rfl (OpS.fieldAddr rfl rfl rfl rfl) rfl (Ch.mv rfl rfl (Ch.p1 rfl (OpS.loadSA rfl rfl rfl) rfl ?_)))))))
 refine Ch.cH (hlearn) [0,1,2,3,4,5,6,7,8,9] 11 gdN (.cons rfl (.cons rfl (.cons rfl .nil))) (.c (.rfl _) (.c (.rfl _) (.c (.of_eq (ren_nt _ _).symm) .n))) rfl (by refine ⟨?_, ?_, ?_, ?_⟩ <;> first | ((conv => lhs; simp only [nrmA, Nat.reduceAdd, renL_tbs, renL_tb1, renL_bks, renL_b1, renL_vs, renL_v1, ren_vt, pend_ren, ren_ss]); all_goals rfl) | rfl) (by exact ⟨rfl, rfl, rfl, rfl, rfl, rfl, rfl, rfl, rfl, rfl, trivial⟩) (by exact trivial) rfl ?_
 refine Ch.asg rfl rfl (Ch.nilD ?_ (by kernel_rfl))
 refine WP.seq (WP.rs hG (Ch.mv rfl rfl (Ch.p2 rfl rfl (OpS.lssF (by omega)) rfl ?_)))
 refine Ch.nil (WP.cond_false rfl (WP.skip (WP.rs hG (Ch.mv rfl rfl (Ch.mv rfl rfl (Ch.p1 rfl (OpS.fieldAddrS rfl rfl rfl rfl rfl) rfl (Ch.p1 rfl (OpS.loadS rfl rfl) rfl ?_)))))))
 refine Ch.cH (fr) [0,1,2,3,4,5,6,7,8,9] 11 gdN (.cons rfl (.cons rfl (.cons rfl .nil))) (.c (.rfl _) (.c (.rfl _) (.c (.of_eq (ren_ss _ _).symm) .n))) rfl (by refine ⟨?_, ?_, ?_, ?_⟩ <;> first | ((conv => lhs; simp only [nrmA, Nat.reduceAdd, renL_tbs, renL_tb1, renL_bks, renL_b1, renL_vs, renL_v1, ren_vt, pend_ren, ren_ss]); all_goals rfl) | rfl) (by exact ⟨rfl, rfl, rfl, rfl, rfl, rfl, rfl, rfl, rfl, rfl, trivial⟩) (by exact trivial) rfl ?_
 refine Ch.nil (WP.seq (WP.rs hG (Ch.mv rfl rfl (Ch.p1 rfl (OpS.nilCheckP) rfl (Ch.p1 rfl (OpS.fieldAddr rfl rfl rfl rfl) rfl (Ch.p1 rfl (OpS.fieldAddr rfl rfl rfl rfl) rfl (Ch.q1 rfl (OpS.loadP rfl rfl rfl) rfl rfl (Ch.mv rfl rfl ?_))))))))
 refine Ch.cH (fm) [3,4] 11 gdN (.cons rfl (.cons rfl .nil)) (.c (.rfl _) (.c (.rfl _) .n)) rfl (by refine ⟨?_, ?_, ?_, ?_⟩ <;> first | ((conv => lhs; simp only [nrmA, Nat.reduceAdd, renL_tbs, renL_tb1, renL_bks, renL_b1, renL_vs, renL_v1, ren_vt, pend_ren, ren_ss]); all_goals rfl) | rfl) (by exact ⟨rfl, rfl, trivial⟩) (by exact trivial) rfl ?_
 refine Ch.asg rfl rfl (Ch.nil (WP.rsD (by kernel_rfl) hG (Ch.mv rfl rfl (Ch.p2 rfl rfl (OpS.int (op := .geq) (v' := .bool false) rfl rfl) rfl (Ch.mv rfl rfl (Ch.skU (gdF rfl rfl rfl) rfl (Ch.skU (gdF rfl rfl rfl) rfl (Ch.skU (gdF rfl rfl rfl) rfl (Ch.skU (gdF rfl rfl rfl) rfl ?_)))))))))
 refine Ch.skU (gdF rfl rfl rfl) rfl (Ch.skU (gdF rfl rfl rfl) rfl (Ch.skU (gdF rfl rfl rfl) rfl (Ch.skU (gdF rfl rfl rfl) rfl (Ch.skU (gdF rfl rfl rfl) rfl (Ch.skU (gdF rfl rfl rfl) rfl (Ch.skU (gdF rfl rfl rfl) rfl (Ch.skU (gdF rfl rfl rfl) rfl (Ch.skU (gdF rfl rfl rfl) rfl (Ch.skU (gdF rfl rfl rfl) rfl ?_)))))))))
 refine Ch.skU (gdF rfl rfl rfl) rfl (Ch.skU (gdF rfl rfl rfl) rfl (Ch.skU (gdF rfl rfl rfl) rfl (Ch.skU (gdF rfl rfl rfl) rfl (Ch.p2 rfl rfl (OpS.pickF) rfl (Ch.nilD ?_ (by kernel_rfl))))))
 refine WP.cond_false rfl (WP.skip (WP.rs hG (Ch.mv rfl rfl (Ch.mv rfl rfl (Ch.p1 rfl (OpS.loadSA rfl rfl rfl) rfl ?_)))))
 refine Ch.cH (hcast) [0,1,2,3,4,5,6,7,8,9] 11 gdN (.cons rfl (.cons rfl (.cons rfl .nil))) (.c (.rfl _) (.c (.rfl _) (.c (.of_eq (ren_nt _ _).symm) .n))) rfl (by refine ⟨?_, ?_, ?_, ?_⟩ <;> first | ((conv => lhs; simp only [nrmA, Nat.reduceAdd, renL_tbs, renL_tb1, renL_bks, renL_b1, renL_vs, renL_v1, ren_vt, pend_ren, ren_ss]); all_goals rfl) | rfl) (by exact ⟨rfl, rfl, rfl, rfl, rfl, rfl, rfl, rfl, rfl, rfl, trivial⟩) (by exact trivial) rfl ?_
 refine Ch.p1 rfl (OpS.extract rfl) rfl (Ch.p1 rfl (OpS.extract rfl) rfl (Ch.ws rfl rfl (OpS.storePA (cs := ntA nt0) (c := .agg (ntA r)) rfl rfl (nt_one r) (by exact Nat.le_refl 9)) rfl ?_))
 refine Ch.asg rfl rfl (Ch.nil (WP.from (SEnt.frz (t := 4) rfl rfl) (WP.ret ?_)))
 refine (Ret.of (rs := [4, 5]) (vs := [.sptr (ntA r), .v (.bool ok)]) (H' := rpH x2) (res := .tup [.sptr (ntA r), .v (.bool ok)]) [0, 1, 2, 3, 4, 5, 6, 7, 8, 9] ?_ ?_ rfl ?_ (by simp only [List.length_cons, List.length_nil]; decide) ?_).1
 · exact na_of hnA rfl
 · (repeat (first | exact trivial | (refine ⟨⟨(by first | trivial | (simp; first | done | fail)), _, rfl, (by first | exact .rfl _ | exact .of_eq (ren_spt _ _).symm)⟩, ?_⟩)))
 · (repeat (first | exact trivial | refine HFromL.skip ?_ | (refine ⟨⟨(by first | trivial | (simp; first | done | fail)), (by first | rfl | (simp [renL_tbs, renL_bks, renL_vs, pend_ren, ren_ss]; first | done | fail))⟩, ?_⟩)))
 exact ⟨_, rfl, rfl, by simp [ls, TsOk, List.zip, List.zipWith]⟩
theorem rOnL_fc (hsha : ShaIn G) (x x1 x2 : Rp) (n r : Nt) (ok : Bool) (b : Nat) (hbs : x.bs.length ≤ 1000) (hpa : findT (idsT x.bs) n.pa = ((0 : Nat) : Int)) (hfr : n.fr = (leadT n.view : Int)) (hpll : n.pl.length ≤ 200) (hpal : n.pa.length ≤ 1000) (hid : n.id = idT n.view n.pa n.pl) (htr : 0 < x.tr.length ∧ x.tr.length ≤ 256) (hv0 : vwT x.tr 0 = 0) (hnv : 0 < n.view.toNat)
  (htr1 : 0 < x1.tr.length ∧ x1.tr.length ≤ 256) (hw1 : WfT x1.tr) (hb : b < x1.tr.length) (hcom : comT x1.tr b = -1)
  (hlearn : FP G 94 [.ptr 2 0, .v (.int .i64 ((0 : Nat) : Int)), .agg (ntA n)] (rpH x) (.v (.int .i64 (b : Int))) (rpL x1))
  (hcast : FP G 98 [.ptr 2 0, .v (.int .i64 (b : Int)), .agg (ntA n)] (rpH x1) (.tup [.agg (ntA r), .v (.bool ok)]) (rpH x2)) :
  FP G 61 [.ptr 2 0, .agg (ntA n)] (rpH x) (.tup [.agg (ntA r), .v (.bool ok)]) (rpL x2) := by
 have e1 : U64 n.view = (n.view.toNat : Int) := rfl
 have e0 : U64 0 = 0 := rfl
 have hfp := find_fc (G := G) x n.pa hbs
 rw [hpa] at hfp
 have fl := rLead_fc (G := G) n.view
 have fi := rID_fc hsha n.view n.pa n.pl (by omega)
 rw [← hid] at fi
 have fv := tView_fc (G := G) x.tr 0 htr.1 htr.2
 rw [hv0] at fv
 have fc := rCert0_fc (G := G) x n.sigs
 have fr := rRaise0_fc (G := G) x1 n.sigs htr1.1 htr1.2
 have fm := tCom_fc (G := G) x1.tr hw1 b hb
 rw [hcom] at fm
 refine FC.of_wpc [(4, some 46), (5, none)] Tryz.func61 rfl rfl rfl rfl (by exact ⟨_, rfl, ⟨_, _, rfl, rfl, rfl, rfl⟩, trivial, trivial⟩) ⟨rfl, nt_bel _ n, trivial⟩ (rp_bel _ blt10 x) (Nat.le_of_ble_eq_true rfl) ?_
 intro A hG hnA hAB
 unfold start
 refine WP.rs hG (Ch.p1 rfl (OpS.boxS) rfl (Ch.a0 (OpS.alloc 10 rfl rfl rfl) rfl rfl (Ch.asg rfl rfl (Ch.nil (WP.rsD (by kernel_rfl) hG (Ch.mv rfl rfl (Ch.p1 rfl (OpS.nilCheckP) rfl (Ch.p1 rfl (OpS.fieldAddr rfl rfl rfl rfl) rfl (Ch.p1 rfl (OpS.fieldAddrS rfl rfl rfl rfl rfl) rfl ?_)))))))))
 refine Ch.p1 rfl (OpS.loadS rfl rfl) rfl ?_
 refine Ch.cH (hfp) [0,1,2,3,4,5,6,7,8,9] 11 gdN (.cons rfl (.cons rfl .nil)) (.c (.rfl _) (.c (.rfl _) .n)) rfl (by refine ⟨?_, ?_, ?_, ?_⟩ <;> first | ((conv => lhs; simp only [nrmA, Nat.reduceAdd, renL_tbs, renL_tb1, renL_bks, renL_b1, renL_vs, renL_v1, ren_vt, pend_ren, ren_ss]); all_goals rfl) | rfl) (by exact ⟨rfl, rfl, rfl, rfl, rfl, rfl, rfl, rfl, rfl, rfl, trivial⟩) (by exact trivial) rfl ?_
 refine Ch.asg rfl rfl (Ch.nilD ?_ (by kernel_rfl))
 refine WP.seq (WP.rsD (by kernel_rfl) hG (Ch.p1 rfl (OpS.fieldAddrS rfl rfl rfl rfl rfl) rfl (Ch.p1 rfl (OpS.loadS rfl rfl) rfl (Ch.p1 rfl (OpS.fieldAddrS rfl rfl rfl rfl rfl) rfl (Ch.p1 rfl (OpS.loadS rfl rfl) rfl (Ch.callP (fl) gdN (.cons rfl .nil) (.c (.rfl _) .n) (by rfl) rfl ?_))))))
 refine Ch.p2 rfl rfl (OpS.neqF hfr) rfl (Ch.mv rfl rfl (Ch.g1 rfl rfl rfl (OpS.fieldAddrS rfl rfl rfl rfl rfl) rfl (Ch.g1 rfl rfl rfl (OpS.loadS rfl rfl) rfl (Ch.g1 rfl rfl rfl (OpS.lenS rfl) rfl (Ch.g2 rfl rfl rfl rfl (OpS.gtrF (by omega)) rfl ?_)))))
 refine Ch.p2 rfl rfl (OpS.pickF) rfl (Ch.mv rfl rfl (Ch.g1 rfl rfl rfl (OpS.fieldAddrS rfl rfl rfl rfl rfl) rfl (Ch.g1 rfl rfl rfl (OpS.loadS rfl rfl) rfl (Ch.g1 rfl rfl rfl (OpS.fieldAddrS rfl rfl rfl rfl rfl) rfl (Ch.g1 rfl rfl rfl (OpS.loadS rfl rfl) rfl (Ch.g1 rfl rfl rfl (OpS.fieldAddrS rfl rfl rfl rfl rfl) rfl (Ch.g1 rfl rfl rfl (OpS.loadS rfl rfl) rfl (Ch.g1 rfl rfl rfl (OpS.fieldAddrS rfl rfl rfl rfl rfl) rfl (Ch.g1 rfl rfl rfl (OpS.loadS rfl rfl) rfl ?_)))))))))
 refine Ch.callP (fi) (gdT rfl rfl) (.cons rfl (.cons rfl (.cons rfl .nil))) (.c (.rfl _) (.c (.rfl _) (.c (.rfl _) .n))) (by rfl) rfl ?_
 refine Ch.g2 rfl rfl rfl rfl (OpS.strNeB (c := false) (by simp)) rfl ?_
 refine Ch.p2 rfl rfl (OpS.pickF) rfl (Ch.mv rfl rfl (Ch.gm rfl rfl rfl rfl (Ch.g2 rfl rfl rfl rfl (OpS.int (op := .lss) (v' := .bool false) rfl rfl) rfl (Ch.p2 rfl rfl (OpS.pickF) rfl (Ch.nilD ?_ (by kernel_rfl))))))
 refine WP.cond_false rfl (WP.skip (WP.seq (WP.rsD (by kernel_rfl) hG (Ch.p1 rfl (OpS.fieldAddrS rfl rfl rfl rfl rfl) rfl (Ch.p1 rfl (OpS.loadS rfl rfl) rfl (Ch.mv rfl rfl (Ch.p1 rfl (OpS.nilCheckP) rfl (Ch.p1 rfl (OpS.fieldAddr rfl rfl rfl rfl) rfl (Ch.p1 rfl (OpS.fieldAddr rfl rfl rfl rfl) rfl ?_)))))))))
 refine Ch.q1 rfl (OpS.loadP rfl rfl rfl) rfl rfl (Ch.mv rfl rfl ?_)
 refine Ch.cH (fv) [3,4] 11 gdN (.cons rfl (.cons rfl .nil)) (.c (.rfl _) (.c (.rfl _) .n)) rfl (by refine ⟨?_, ?_, ?_, ?_⟩ <;> first | ((conv => lhs; simp only [nrmA, Nat.reduceAdd, renL_tbs, renL_tb1, renL_bks, renL_b1, renL_vs, renL_v1, ren_vt, pend_ren, ren_ss]); all_goals rfl) | rfl) (by exact ⟨rfl, rfl, trivial⟩) (by exact trivial) rfl ?_
 refine Ch.p2 rfl rfl (OpS.leqF (by omega)) rfl ?_
 refine Ch.mv rfl rfl (Ch.gm rfl rfl rfl rfl (Ch.gm rfl rfl rfl rfl (Ch.g1 rfl rfl rfl (OpS.fieldAddrS rfl rfl rfl rfl rfl) rfl (Ch.g1 rfl rfl rfl (OpS.loadS rfl rfl) rfl ?_))))
 refine Ch.cH (fc) [0,1,2,3,4,5,6,7,8,9] 11 (gdT rfl rfl) (.cons rfl (.cons rfl (.cons rfl .nil))) (.c (.rfl _) (.c (.rfl _) (.c (.of_eq (ren_ss _ _).symm) .n))) rfl (by refine ⟨?_, ?_, ?_, ?_⟩ <;> first | ((conv => lhs; simp only [nrmA, Nat.reduceAdd, renL_tbs, renL_tb1, renL_bks, renL_b1, renL_vs, renL_v1, ren_vt, pend_ren, ren_ss]); all_goals rfl) | rfl) (by exact ⟨rfl, rfl, rfl, rfl, rfl, rfl, rfl, rfl, rfl, rfl, trivial⟩) (by exact trivial) rfl ?_
 refine Ch.g1 rfl rfl rfl (OpS.not) rfl (Ch.p2 rfl rfl (OpS.pickF) rfl (Ch.nilD ?_ (by kernel_rfl)))
 refine WP.cond_false rfl (WP.skip (WP.rsD (by kernel_rfl) hG (Ch.mv rfl rfl (Ch.p1 rfl (OpS.nilCheckP) rfl (Ch.p1 rfl (OpS.fieldAddr rfl rfl rfl rfl) rfl (Ch.mv rfl rfl (Ch.p1 rfl (OpS.loadSA rfl rfl rfl) rfl ?_)))))))
 refine Ch.cH (hlearn) [0,1,2,3,4,5,6,7,8,9] 11 gdN (.cons rfl (.cons rfl (.cons rfl .nil))) (.c (.rfl _) (.c (.rfl _) (.c (.of_eq (ren_nt _ _).symm) .n))) rfl (by refine ⟨?_, ?_, ?_, ?_⟩ <;> first | ((conv => lhs; simp only [nrmA, Nat.reduceAdd, renL_tbs, renL_tb1, renL_bks, renL_b1, renL_vs, renL_v1, ren_vt, pend_ren, ren_ss]); all_goals rfl) | rfl) (by exact ⟨rfl, rfl, rfl, rfl, rfl, rfl, rfl, rfl, rfl, rfl, trivial⟩) (by exact ⟨rfl, rfl, trivial⟩) rfl ?_
 refine Ch.asg rfl rfl (Ch.nilD ?_ (by kernel_rfl))
 refine WP.seq (WP.rs hG (Ch.mv rfl rfl (Ch.p2 rfl rfl (OpS.lssF (by omega)) rfl ?_)))
 refine Ch.nil (WP.cond_false rfl (WP.skip (WP.rs hG (Ch.mv rfl rfl (Ch.mv rfl rfl (Ch.p1 rfl (OpS.fieldAddrS rfl rfl rfl rfl rfl) rfl (Ch.p1 rfl (OpS.loadS rfl rfl) rfl ?_)))))))
 refine Ch.cH (fr) [0,1,2,3,11,12,6,7,8,9] 13 gdN (.cons rfl (.cons rfl (.cons rfl .nil))) (.c (.rfl _) (.c (.rfl _) (.c (.of_eq (ren_ss _ _).symm) .n))) rfl (by refine ⟨?_, ?_, ?_, ?_⟩ <;> first | ((conv => lhs; simp only [nrmA, Nat.reduceAdd, renL_tbs, renL_tb1, renL_bks, renL_b1, renL_vs, renL_v1, ren_vt, pend_ren, ren_ss]); all_goals rfl) | rfl) (by exact ⟨rfl, rfl, rfl, rfl, rfl, rfl, rfl, rfl, rfl, rfl, trivial⟩) (by exact trivial) rfl ?_
 refine Ch.nil (WP.seq (WP.rs hG (Ch.mv rfl rfl (Ch.p1 rfl (OpS.nilCheckP) rfl (Ch.p1 rfl (OpS.fieldAddr rfl rfl rfl rfl) rfl (Ch.p1 rfl (OpS.fieldAddr rfl rfl rfl rfl) rfl (Ch.q1 rfl (OpS.loadP rfl rfl rfl) rfl rfl (Ch.mv rfl rfl ?_))))))))
 refine Ch.cH (fm) [3,11] 13 gdN (.cons rfl (.cons rfl .nil)) (.c (.rfl _) (.c (.rfl _) .n)) rfl (by refine ⟨?_, ?_, ?_, ?_⟩ <;> first | ((conv => lhs; simp only [nrmA, Nat.reduceAdd, renL_tbs, renL_tb1, renL_bks, renL_b1, renL_vs, renL_v1, ren_vt, pend_ren, ren_ss]); all_goals rfl) | rfl) (by exact ⟨rfl, rfl, trivial⟩) (by exact trivial) rfl ?_
 refine Ch.asg rfl rfl (Ch.nil (WP.rsD (by kernel_rfl) hG (Ch.mv rfl rfl (Ch.p2 rfl rfl (OpS.int (op := .geq) (v' := .bool false) rfl rfl) rfl (Ch.mv rfl rfl (Ch.skU (gdF rfl rfl rfl) rfl (Ch.skU (gdF rfl rfl rfl) rfl (Ch.skU (gdF rfl rfl rfl) rfl (Ch.skU (gdF rfl rfl rfl) rfl ?_)))))))))
 refine Ch.skU (gdF rfl rfl rfl) rfl (Ch.skU (gdF rfl rfl rfl) rfl (Ch.skU (gdF rfl rfl rfl) rfl (Ch.skU (gdF rfl rfl rfl) rfl (Ch.skU (gdF rfl rfl rfl) rfl (Ch.skU (gdF rfl rfl rfl) rfl (Ch.skU (gdF rfl rfl rfl) rfl (Ch.skU (gdF rfl rfl rfl) rfl (Ch.skU (gdF rfl rfl rfl) rfl (Ch.skU (gdF rfl rfl rfl) rfl ?_)))))))))
 refine Ch.skU (gdF rfl rfl rfl) rfl (Ch.skU (gdF rfl rfl rfl) rfl (Ch.skU (gdF rfl rfl rfl) rfl (Ch.skU (gdF rfl rfl rfl) rfl (Ch.p2 rfl rfl (OpS.pickF) rfl (Ch.nilD ?_ (by kernel_rfl))))))
 refine WP.cond_false rfl (WP.skip (WP.rs hG (Ch.mv rfl rfl (Ch.mv rfl rfl (Ch.p1 rfl (OpS.loadSA rfl rfl rfl) rfl ?_)))))
 refine Ch.cH (hcast) [0,1,2,3,11,12,6,7,8,9] 13 gdN (.cons rfl (.cons rfl (.cons rfl .nil))) (.c (.rfl _) (.c (.rfl _) (.c (.of_eq (ren_nt _ _).symm) .n))) rfl (by refine ⟨?_, ?_, ?_, ?_⟩ <;> first | ((conv => lhs; simp only [nrmA, Nat.reduceAdd, renL_tbs, renL_tb1, renL_bks, renL_b1, renL_vs, renL_v1, ren_vt, pend_ren, ren_ss]); all_goals rfl) | rfl) (by exact ⟨rfl, rfl, rfl, rfl, rfl, rfl, rfl, rfl, rfl, rfl, trivial⟩) (by exact trivial) rfl ?_
 refine Ch.p1 rfl (OpS.extract rfl) rfl (Ch.p1 rfl (OpS.extract rfl) rfl (Ch.ws rfl rfl (OpS.storePA (cs := ntA nt0) (c := .agg (ntA r)) rfl rfl (nt_one r) (by exact Nat.le_refl 9)) rfl ?_))
 refine Ch.asg rfl rfl (Ch.nil (WP.from (SEnt.frz (t := 4) rfl rfl) (WP.ret ?_)))
 refine (Ret.of (rs := [4, 5]) (vs := [.sptr (ntA r), .v (.bool ok)]) (H' := rpL x2) (res := .tup [.sptr (ntA r), .v (.bool ok)]) [0, 1, 2, 3, 4, 5, 6, 7, 8, 9, 11, 12] ?_ ?_ rfl ?_ (by simp only [List.length_cons, List.length_nil]; decide) ?_).1
 · exact na_of hnA rfl
 · (repeat (first | exact trivial | (refine ⟨⟨(by first | trivial | (simp; first | done | fail)), _, rfl, (by first | exact .rfl _ | exact .of_eq (ren_spt _ _).symm)⟩, ?_⟩)))
 · (repeat (first | exact trivial | refine HFromL.skip ?_ | (refine ⟨⟨(by first | trivial | (simp; first | done | fail)), (by first | rfl | (simp [renL_tbs, renL_bks, renL_vs, pend_ren, ren_ss]; first | done | fail))⟩, ?_⟩)))
 exact ⟨_, rfl, rfl, by simp [ls, TsOk, List.zip, List.zipWith]⟩
theorem rOnV_fc (hsha : ShaIn G) (x x1 x2 : Rp) (n r : Nt) (ok : Bool) (b : Nat) (hbs : x.bs.length ≤ 1000) (hpa : findT (idsT x.bs) n.pa = ((0 : Nat) : Int)) (hfr : n.fr = (leadT n.view : Int)) (hpll : n.pl.length ≤ 200) (hpal : n.pa.length ≤ 1000) (hid : n.id = idT n.view n.pa n.pl) (htr : 0 < x.tr.length ∧ x.tr.length ≤ 256) (hv0 : vwT x.tr 0 = 0) (hnv : 0 < n.view.toNat)
  (htr1 : 0 < x1.tr.length ∧ x1.tr.length ≤ 256) (hw1 : WfT x1.tr) (hb : b < x1.tr.length) (hcom : comT x1.tr b = -1)
  (hlearn : FP G 94 [.ptr 2 0, .v (.int .i64 ((0 : Nat) : Int)), .agg (ntA n)] (rpH x) (.v (.int .i64 (b : Int))) (rpL x1))
  (hcast : FP G 98 [.ptr 2 0, .v (.int .i64 (b : Int)), .agg (ntA n)] (rpH x1) (.tup [.agg (ntA r), .v (.bool ok)]) (rpS x2)) :
  FP G 61 [.ptr 2 0, .agg (ntA n)] (rpH x) (.tup [.agg (ntA r), .v (.bool ok)]) (rpV x2) := by
 have e1 : U64 n.view = (n.view.toNat : Int) := rfl
 have e0 : U64 0 = 0 := rfl
 have hfp := find_fc (G := G) x n.pa hbs
 rw [hpa] at hfp
 have fl := rLead_fc (G := G) n.view
 have fi := rID_fc hsha n.view n.pa n.pl (by omega)
 rw [← hid] at fi
 have fv := tView_fc (G := G) x.tr 0 htr.1 htr.2
 rw [hv0] at fv
 have fc := rCert0_fc (G := G) x n.sigs
 have fr := rRaise0_fc (G := G) x1 n.sigs htr1.1 htr1.2
 have fm := tCom_fc (G := G) x1.tr hw1 b hb
 rw [hcom] at fm
 refine FC.of_wpc [(4, some 46), (5, none)] Tryz.func61 rfl rfl rfl rfl (by exact ⟨_, rfl, ⟨_, _, rfl, rfl, rfl, rfl⟩, trivial, trivial⟩) ⟨rfl, nt_bel _ n, trivial⟩ (rp_bel _ blt10 x) (Nat.le_of_ble_eq_true rfl) ?_
 intro A hG hnA hAB
 unfold start
 refine WP.rs hG (Ch.p1 rfl (OpS.boxS) rfl (Ch.a0 (OpS.alloc 10 rfl rfl rfl) rfl rfl (Ch.asg rfl rfl (Ch.nil (WP.rsD (by kernel_rfl) hG (Ch.mv rfl rfl (Ch.p1 rfl (OpS.nilCheckP) rfl (Ch.p1 rfl (OpS.fieldAddr rfl rfl rfl rfl) rfl (Ch.p1 rfl (OpS.fieldAddrS rfl rfl rfl rfl rfl) rfl ?_)))))))))
 refine Ch.p1 rfl (OpS.loadS rfl rfl) rfl ?_
 refine Ch.cH (hfp) [0,1,2,3,4,5,6,7,8,9] 11 gdN (.cons rfl (.cons rfl .nil)) (.c (.rfl _) (.c (.rfl _) .n)) rfl (by refine ⟨?_, ?_, ?_, ?_⟩ <;> first | ((conv => lhs; simp only [nrmA, Nat.reduceAdd, renL_tbs, renL_tb1, renL_bks, renL_b1, renL_vs, renL_v1, ren_vt, pend_ren, ren_ss]); all_goals rfl) | rfl) (by exact ⟨rfl, rfl, rfl, rfl, rfl, rfl, rfl, rfl, rfl, rfl, trivial⟩) (by exact trivial) rfl ?_
 refine Ch.asg rfl rfl (Ch.nilD ?_ (by kernel_rfl))
 refine WP.seq (WP.rsD (by kernel_rfl) hG (Ch.p1 rfl (OpS.fieldAddrS rfl rfl rfl rfl rfl) rfl (Ch.p1 rfl (OpS.loadS rfl rfl) rfl (Ch.p1 rfl (OpS.fieldAddrS rfl rfl rfl rfl rfl) rfl (Ch.p1 rfl (OpS.loadS rfl rfl) rfl (Ch.callP (fl) gdN (.cons rfl .nil) (.c (.rfl _) .n) (by rfl) rfl ?_))))))
 refine Ch.p2 rfl rfl (OpS.neqF hfr) rfl (Ch.mv rfl rfl (Ch.g1 rfl rfl rfl (OpS.fieldAddrS rfl rfl rfl rfl rfl) rfl (Ch.g1 rfl rfl rfl (OpS.loadS rfl rfl) rfl (Ch.g1 rfl rfl rfl (OpS.lenS rfl) rfl (Ch.g2 rfl rfl rfl rfl (OpS.gtrF (by omega)) rfl ?_)))))
 refine Ch.p2 rfl rfl (OpS.pickF) rfl (Ch.mv rfl rfl (Ch.g1 rfl rfl rfl (OpS.fieldAddrS rfl rfl rfl rfl rfl) rfl (Ch.g1 rfl rfl rfl (OpS.loadS rfl rfl) rfl (Ch.g1 rfl rfl rfl (OpS.fieldAddrS rfl rfl rfl rfl rfl) rfl (Ch.g1 rfl rfl rfl (OpS.loadS rfl rfl) rfl (Ch.g1 rfl rfl rfl (OpS.fieldAddrS rfl rfl rfl rfl rfl) rfl (Ch.g1 rfl rfl rfl (OpS.loadS rfl rfl) rfl (Ch.g1 rfl rfl rfl (OpS.fieldAddrS rfl rfl rfl rfl rfl) rfl (Ch.g1 rfl rfl rfl (OpS.loadS rfl rfl) rfl ?_)))))))))
 refine Ch.callP (fi) (gdT rfl rfl) (.cons rfl (.cons rfl (.cons rfl .nil))) (.c (.rfl _) (.c (.rfl _) (.c (.rfl _) .n))) (by rfl) rfl ?_
 refine Ch.g2 rfl rfl rfl rfl (OpS.strNeB (c := false) (by simp)) rfl ?_
 refine Ch.p2 rfl rfl (OpS.pickF) rfl (Ch.mv rfl rfl (Ch.gm rfl rfl rfl rfl (Ch.g2 rfl rfl rfl rfl (OpS.int (op := .lss) (v' := .bool false) rfl rfl) rfl (Ch.p2 rfl rfl (OpS.pickF) rfl (Ch.nilD ?_ (by kernel_rfl))))))
 refine WP.cond_false rfl (WP.skip (WP.seq (WP.rsD (by kernel_rfl) hG (Ch.p1 rfl (OpS.fieldAddrS rfl rfl rfl rfl rfl) rfl (Ch.p1 rfl (OpS.loadS rfl rfl) rfl (Ch.mv rfl rfl (Ch.p1 rfl (OpS.nilCheckP) rfl (Ch.p1 rfl (OpS.fieldAddr rfl rfl rfl rfl) rfl (Ch.p1 rfl (OpS.fieldAddr rfl rfl rfl rfl) rfl ?_)))))))))
 refine Ch.q1 rfl (OpS.loadP rfl rfl rfl) rfl rfl (Ch.mv rfl rfl ?_)
 refine Ch.cH (fv) [3,4] 11 gdN (.cons rfl (.cons rfl .nil)) (.c (.rfl _) (.c (.rfl _) .n)) rfl (by refine ⟨?_, ?_, ?_, ?_⟩ <;> first | ((conv => lhs; simp only [nrmA, Nat.reduceAdd, renL_tbs, renL_tb1, renL_bks, renL_b1, renL_vs, renL_v1, ren_vt, pend_ren, ren_ss]); all_goals rfl) | rfl) (by exact ⟨rfl, rfl, trivial⟩) (by exact trivial) rfl ?_
 refine Ch.p2 rfl rfl (OpS.leqF (by omega)) rfl ?_
 refine Ch.mv rfl rfl (Ch.gm rfl rfl rfl rfl (Ch.gm rfl rfl rfl rfl (Ch.g1 rfl rfl rfl (OpS.fieldAddrS rfl rfl rfl rfl rfl) rfl (Ch.g1 rfl rfl rfl (OpS.loadS rfl rfl) rfl ?_))))
 refine Ch.cH (fc) [0,1,2,3,4,5,6,7,8,9] 11 (gdT rfl rfl) (.cons rfl (.cons rfl (.cons rfl .nil))) (.c (.rfl _) (.c (.rfl _) (.c (.of_eq (ren_ss _ _).symm) .n))) rfl (by refine ⟨?_, ?_, ?_, ?_⟩ <;> first | ((conv => lhs; simp only [nrmA, Nat.reduceAdd, renL_tbs, renL_tb1, renL_bks, renL_b1, renL_vs, renL_v1, ren_vt, pend_ren, ren_ss]); all_goals rfl) | rfl) (by exact ⟨rfl, rfl, rfl, rfl, rfl, rfl, rfl, rfl, rfl, rfl, trivial⟩) (by exact trivial) rfl ?_
 refine Ch.g1 rfl rfl rfl (OpS.not) rfl (Ch.p2 rfl rfl (OpS.pickF) rfl (Ch.nilD ?_ (by kernel_rfl)))
 refine WP.cond_false rfl (WP.skip (WP.rsD (by kernel_rfl) hG (Ch.mv rfl rfl (Ch.p1 rfl (OpS.nilCheckP) rfl (Ch.p1 rfl (OpS.fieldAddr rfl rfl rfl rfl) rfl (Ch.mv rfl rfl (Ch.p1 rfl (OpS.loadSA rfl rfl rfl) rfl ?_)))))))
 refine Ch.cH (hlearn) [0,1,2,3,4,5,6,7,8,9] 11 gdN (.cons rfl (.cons rfl (.cons rfl .nil))) (.c (.rfl _) (.c (.rfl _) (.c (.of_eq (ren_nt _ _).symm) .n))) rfl (by refine ⟨?_, ?_, ?_, ?_⟩ <;> first | ((conv => lhs; simp only [nrmA, Nat.reduceAdd, renL_tbs, renL_tb1, renL_bks, renL_b1, renL_vs, renL_v1, ren_vt, pend_ren, ren_ss]); all_goals rfl) | rfl) (by exact ⟨rfl, rfl, rfl, rfl, rfl, rfl, rfl, rfl, rfl, rfl, trivial⟩) (by exact ⟨rfl, rfl, trivial⟩) rfl ?_
 refine Ch.asg rfl rfl (Ch.nilD ?_ (by kernel_rfl))
 refine WP.seq (WP.rs hG (Ch.mv rfl rfl (Ch.p2 rfl rfl (OpS.lssF (by omega)) rfl ?_)))
 refine Ch.nil (WP.cond_false rfl (WP.skip (WP.rs hG (Ch.mv rfl rfl (Ch.mv rfl rfl (Ch.p1 rfl (OpS.fieldAddrS rfl rfl rfl rfl rfl) rfl (Ch.p1 rfl (OpS.loadS rfl rfl) rfl ?_)))))))
 refine Ch.cH (fr) [0,1,2,3,11,12,6,7,8,9] 13 gdN (.cons rfl (.cons rfl (.cons rfl .nil))) (.c (.rfl _) (.c (.rfl _) (.c (.of_eq (ren_ss _ _).symm) .n))) rfl (by refine ⟨?_, ?_, ?_, ?_⟩ <;> first | ((conv => lhs; simp only [nrmA, Nat.reduceAdd, renL_tbs, renL_tb1, renL_bks, renL_b1, renL_vs, renL_v1, ren_vt, pend_ren, ren_ss]); all_goals rfl) | rfl) (by exact ⟨rfl, rfl, rfl, rfl, rfl, rfl, rfl, rfl, rfl, rfl, trivial⟩) (by exact trivial) rfl ?_
 refine Ch.nil (WP.seq (WP.rs hG (Ch.mv rfl rfl (Ch.p1 rfl (OpS.nilCheckP) rfl (Ch.p1 rfl (OpS.fieldAddr rfl rfl rfl rfl) rfl (Ch.p1 rfl (OpS.fieldAddr rfl rfl rfl rfl) rfl (Ch.q1 rfl (OpS.loadP rfl rfl rfl) rfl rfl (Ch.mv rfl rfl ?_))))))))
 refine Ch.cH (fm) [3,11] 13 gdN (.cons rfl (.cons rfl .nil)) (.c (.rfl _) (.c (.rfl _) .n)) rfl (by refine ⟨?_, ?_, ?_, ?_⟩ <;> first | ((conv => lhs; simp only [nrmA, Nat.reduceAdd, renL_tbs, renL_tb1, renL_bks, renL_b1, renL_vs, renL_v1, ren_vt, pend_ren, ren_ss]); all_goals rfl) | rfl) (by exact ⟨rfl, rfl, trivial⟩) (by exact trivial) rfl ?_
 refine Ch.asg rfl rfl (Ch.nil (WP.rsD (by kernel_rfl) hG (Ch.mv rfl rfl (Ch.p2 rfl rfl (OpS.int (op := .geq) (v' := .bool false) rfl rfl) rfl (Ch.mv rfl rfl (Ch.skU (gdF rfl rfl rfl) rfl (Ch.skU (gdF rfl rfl rfl) rfl (Ch.skU (gdF rfl rfl rfl) rfl (Ch.skU (gdF rfl rfl rfl) rfl ?_)))))))))
 refine Ch.skU (gdF rfl rfl rfl) rfl (Ch.skU (gdF rfl rfl rfl) rfl (Ch.skU (gdF rfl rfl rfl) rfl (Ch.skU (gdF rfl rfl rfl) rfl (Ch.skU (gdF rfl rfl rfl) rfl (Ch.skU (gdF rfl rfl rfl) rfl (Ch.skU (gdF rfl rfl rfl) rfl (Ch.skU (gdF rfl rfl rfl) rfl (Ch.skU (gdF rfl rfl rfl) rfl (Ch.skU (gdF rfl rfl rfl) rfl ?_)))))))))
 refine Ch.skU (gdF rfl rfl rfl) rfl (Ch.skU (gdF rfl rfl rfl) rfl (Ch.skU (gdF rfl rfl rfl) rfl (Ch.skU (gdF rfl rfl rfl) rfl (Ch.p2 rfl rfl (OpS.pickF) rfl (Ch.nilD ?_ (by kernel_rfl))))))
 refine WP.cond_false rfl (WP.skip (WP.rs hG (Ch.mv rfl rfl (Ch.mv rfl rfl (Ch.p1 rfl (OpS.loadSA rfl rfl rfl) rfl ?_)))))
 refine Ch.cH (hcast) [0,1,2,3,11,12,6,7,8,9] 13 gdN (.cons rfl (.cons rfl (.cons rfl .nil))) (.c (.rfl _) (.c (.rfl _) (.c (.of_eq (ren_nt _ _).symm) .n))) rfl (by refine ⟨?_, ?_, ?_, ?_⟩ <;> first | ((conv => lhs; simp only [nrmA, Nat.reduceAdd, renL_tbs, renL_tb1, renL_bks, renL_b1, renL_vs, renL_v1, ren_vt, pend_ren, ren_ss]); all_goals rfl) | rfl) (by exact ⟨rfl, rfl, rfl, rfl, rfl, rfl, rfl, rfl, rfl, rfl, trivial⟩) (by exact ⟨rfl, trivial⟩) rfl ?_
 refine Ch.p1 rfl (OpS.extract rfl) rfl (Ch.p1 rfl (OpS.extract rfl) rfl (Ch.ws rfl rfl (OpS.storePA (cs := ntA nt0) (c := .agg (ntA r)) rfl rfl (nt_one r) (by exact Nat.le_refl 9)) rfl ?_))
 refine Ch.asg rfl rfl (Ch.nil (WP.from (SEnt.frz (t := 4) rfl rfl) (WP.ret ?_)))
 refine (Ret.of (rs := [4, 5]) (vs := [.sptr (ntA r), .v (.bool ok)]) (H' := rpV x2) (res := .tup [.sptr (ntA r), .v (.bool ok)]) [0, 1, 2, 3, 4, 5, 6, 7, 8, 9, 11, 12, 13] ?_ ?_ rfl ?_ (by simp only [List.length_cons, List.length_nil]; decide) ?_).1
 · exact na_of hnA rfl
 · (repeat (first | exact trivial | (refine ⟨⟨(by first | trivial | (simp; first | done | fail)), _, rfl, (by first | exact .rfl _ | exact .of_eq (ren_spt _ _).symm)⟩, ?_⟩)))
 · (repeat (first | exact trivial | refine HFromL.skip ?_ | (refine ⟨⟨(by first | trivial | (simp; first | done | fail)), (by first | rfl | (simp [renL_tbs, renL_bks, renL_vs, pend_ren, ren_ss]; first | done | fail))⟩, ?_⟩)))
 exact ⟨_, rfl, rfl, by simp [ls, TsOk, List.zip, List.zipWith]⟩
theorem rRecK_fc (x x2 : Rp) (n r : Nt) (ok : Bool) (hk : n.kind = 1) (hd : x.dead = false) (hv : n.view.toNat ≤ 4611686018427387904)
  (hon : FP G 61 [.ptr 2 0, .agg (ntA n)] (rpH x) (.tup [.agg (ntA r), .v (.bool ok)]) (rpH x2)) :
  FP G 30 [.ptr 2 0, .agg (ntA n)] (rpH x) (.tup [.agg (ntA r), .v (.bool ok)]) (rpH x2) := by
 have e1 : U64 n.view = (n.view.toNat : Int) := rfl
 obtain ⟨d, s, c, lost, tr, bs, vo, lk, lid, me, ks, seed, n', view, tm, prop, sg, dead⟩ := x
 replace hd : dead = false := hd
 subst hd
 refine FC.of_wpc [(4, some 46), (5, none)] Tryz.func30 rfl rfl rfl rfl (by exact ⟨_, rfl, ⟨_, _, rfl, rfl, rfl, rfl⟩, trivial, trivial⟩) ⟨rfl, nt_bel _ n, trivial⟩ (rp_bel _ blt10 _) (Nat.le_of_ble_eq_true rfl) ?_
 intro A hG hnA hAB
 unfold start
 refine WP.rs hG (Ch.p1 rfl (OpS.boxS) rfl (Ch.a0 (OpS.alloc 10 rfl rfl rfl) rfl rfl (Ch.asg rfl rfl (Ch.nil (WP.seq (WP.rs hG (Ch.mv rfl rfl (Ch.p1 rfl (OpS.nilCheckP) rfl (Ch.p1 rfl (OpS.fieldAddr rfl rfl rfl rfl) rfl ?_)))))))))
 refine Ch.q1 rfl (OpS.loadP rfl rfl rfl) rfl rfl (Ch.mv rfl rfl (Ch.g1 rfl rfl rfl (OpS.fieldAddrS rfl rfl rfl rfl rfl) rfl (Ch.g1 rfl rfl rfl (OpS.loadS rfl rfl) rfl (Ch.g2 rfl rfl rfl rfl (OpS.gtrF (by omega)) rfl ?_))))
 refine Ch.p2 rfl rfl (OpS.pickF) rfl (Ch.nil (WP.cond_false rfl (WP.skip (WP.seq (WP.rs hG (Ch.p1 rfl (OpS.fieldAddrS rfl rfl rfl rfl rfl) rfl (Ch.p1 rfl (OpS.loadS rfl rfl) rfl (Ch.nil (WP.block ?_)))))))))
 refine WP.rs hG (Ch.p2 rfl rfl (OpS.eqlT hk) rfl (Ch.asg rfl rfl (Ch.nil (WP.cond_true rfl (WP.rs hG (Ch.mv rfl rfl (Ch.p1 rfl (OpS.loadSA rfl rfl rfl) rfl ?_)))))))
 refine Ch.cH (hon) [0,1,2,3,4,5,6,7,8,9] 11 gdN (.cons rfl (.cons rfl .nil)) (.c (.rfl _) (.c (.of_eq (ren_nt _ _).symm) .n)) rfl (by refine ⟨?_, ?_, ?_, ?_⟩ <;> first | ((conv => lhs; simp only [nrmA, Nat.reduceAdd, renL_tbs, renL_tb1, renL_bks, renL_b1, renL_vs, renL_v1, ren_vt, pend_ren, ren_ss]); all_goals rfl) | rfl) (by exact ⟨rfl, rfl, rfl, rfl, rfl, rfl, rfl, rfl, rfl, rfl, trivial⟩) (by exact trivial) rfl ?_
 refine Ch.p1 rfl (OpS.extract rfl) rfl (Ch.p1 rfl (OpS.extract rfl) rfl (Ch.ws rfl rfl (OpS.storePA (cs := ntA nt0) (c := .agg (ntA r)) rfl rfl (nt_one r) (by exact Nat.le_refl 9)) rfl ?_))
 refine Ch.asg rfl rfl (Ch.nil (WP.from (SEnt.frz (t := 4) rfl rfl) (WP.ret ?_)))
 refine (Ret.of (rs := [4, 5]) (vs := [.sptr (ntA r), .v (.bool ok)]) (H' := rpH x2) (res := .tup [.sptr (ntA r), .v (.bool ok)]) [0, 1, 2, 3, 4, 5, 6, 7, 8, 9] ?_ ?_ rfl ?_ (by simp only [List.length_cons, List.length_nil]; decide) ?_).1
 · exact na_of hnA rfl
 · (repeat (first | exact trivial | (refine ⟨⟨(by first | trivial | (simp; first | done | fail)), _, rfl, (by first | exact .rfl _ | exact .of_eq (ren_spt _ _).symm)⟩, ?_⟩)))
 · (repeat (first | exact trivial | refine HFromL.skip ?_ | (refine ⟨⟨(by first | trivial | (simp; first | done | fail)), (by first | rfl | (simp [renL_tbs, renL_bks, renL_vs, pend_ren, ren_ss]; first | done | fail))⟩, ?_⟩)))
 exact ⟨_, rfl, rfl, by simp [ls, TsOk, List.zip, List.zipWith]⟩
theorem rRecL_fc (x x2 : Rp) (n r : Nt) (ok : Bool) (hk : n.kind = 1) (hd : x.dead = false) (hv : n.view.toNat ≤ 4611686018427387904)
  (hon : FP G 61 [.ptr 2 0, .agg (ntA n)] (rpH x) (.tup [.agg (ntA r), .v (.bool ok)]) (rpL x2)) :
  FP G 30 [.ptr 2 0, .agg (ntA n)] (rpH x) (.tup [.agg (ntA r), .v (.bool ok)]) (rpL x2) := by
 have e1 : U64 n.view = (n.view.toNat : Int) := rfl
 obtain ⟨d, s, c, lost, tr, bs, vo, lk, lid, me, ks, seed, n', view, tm, prop, sg, dead⟩ := x
 replace hd : dead = false := hd
 subst hd
 refine FC.of_wpc [(4, some 46), (5, none)] Tryz.func30 rfl rfl rfl rfl (by exact ⟨_, rfl, ⟨_, _, rfl, rfl, rfl, rfl⟩, trivial, trivial⟩) ⟨rfl, nt_bel _ n, trivial⟩ (rp_bel _ blt10 _) (Nat.le_of_ble_eq_true rfl) ?_
 intro A hG hnA hAB
 unfold start
 refine WP.rs hG (Ch.p1 rfl (OpS.boxS) rfl (Ch.a0 (OpS.alloc 10 rfl rfl rfl) rfl rfl (Ch.asg rfl rfl (Ch.nil (WP.seq (WP.rs hG (Ch.mv rfl rfl (Ch.p1 rfl (OpS.nilCheckP) rfl (Ch.p1 rfl (OpS.fieldAddr rfl rfl rfl rfl) rfl ?_)))))))))
 refine Ch.q1 rfl (OpS.loadP rfl rfl rfl) rfl rfl (Ch.mv rfl rfl (Ch.g1 rfl rfl rfl (OpS.fieldAddrS rfl rfl rfl rfl rfl) rfl (Ch.g1 rfl rfl rfl (OpS.loadS rfl rfl) rfl (Ch.g2 rfl rfl rfl rfl (OpS.gtrF (by omega)) rfl ?_))))
 refine Ch.p2 rfl rfl (OpS.pickF) rfl (Ch.nil (WP.cond_false rfl (WP.skip (WP.seq (WP.rs hG (Ch.p1 rfl (OpS.fieldAddrS rfl rfl rfl rfl rfl) rfl (Ch.p1 rfl (OpS.loadS rfl rfl) rfl (Ch.nil (WP.block ?_)))))))))
 refine WP.rs hG (Ch.p2 rfl rfl (OpS.eqlT hk) rfl (Ch.asg rfl rfl (Ch.nil (WP.cond_true rfl (WP.rs hG (Ch.mv rfl rfl (Ch.p1 rfl (OpS.loadSA rfl rfl rfl) rfl ?_)))))))
 refine Ch.cH (hon) [0,1,2,3,4,5,6,7,8,9] 11 gdN (.cons rfl (.cons rfl .nil)) (.c (.rfl _) (.c (.of_eq (ren_nt _ _).symm) .n)) rfl (by refine ⟨?_, ?_, ?_, ?_⟩ <;> first | ((conv => lhs; simp only [nrmA, Nat.reduceAdd, renL_tbs, renL_tb1, renL_bks, renL_b1, renL_vs, renL_v1, ren_vt, pend_ren, ren_ss]); all_goals rfl) | rfl) (by exact ⟨rfl, rfl, rfl, rfl, rfl, rfl, rfl, rfl, rfl, rfl, trivial⟩) (by exact ⟨rfl, rfl, trivial⟩) rfl ?_
 refine Ch.p1 rfl (OpS.extract rfl) rfl (Ch.p1 rfl (OpS.extract rfl) rfl (Ch.ws rfl rfl (OpS.storePA (cs := ntA nt0) (c := .agg (ntA r)) rfl rfl (nt_one r) (by exact Nat.le_refl 9)) rfl ?_))
 refine Ch.asg rfl rfl (Ch.nil (WP.from (SEnt.frz (t := 4) rfl rfl) (WP.ret ?_)))
 refine (Ret.of (rs := [4, 5]) (vs := [.sptr (ntA r), .v (.bool ok)]) (H' := rpL x2) (res := .tup [.sptr (ntA r), .v (.bool ok)]) [0, 1, 2, 3, 4, 5, 6, 7, 8, 9, 11, 12] ?_ ?_ rfl ?_ (by simp only [List.length_cons, List.length_nil]; decide) ?_).1
 · exact na_of hnA rfl
 · (repeat (first | exact trivial | (refine ⟨⟨(by first | trivial | (simp; first | done | fail)), _, rfl, (by first | exact .rfl _ | exact .of_eq (ren_spt _ _).symm)⟩, ?_⟩)))
 · (repeat (first | exact trivial | refine HFromL.skip ?_ | (refine ⟨⟨(by first | trivial | (simp; first | done | fail)), (by first | rfl | (simp [renL_tbs, renL_bks, renL_vs, pend_ren, ren_ss]; first | done | fail))⟩, ?_⟩)))
 exact ⟨_, rfl, rfl, by simp [ls, TsOk, List.zip, List.zipWith]⟩
theorem rRecV_fc (x x2 : Rp) (n r : Nt) (ok : Bool) (hk : n.kind = 1) (hd : x.dead = false) (hv : n.view.toNat ≤ 4611686018427387904)
  (hon : FP G 61 [.ptr 2 0, .agg (ntA n)] (rpH x) (.tup [.agg (ntA r), .v (.bool ok)]) (rpV x2)) :
  FP G 30 [.ptr 2 0, .agg (ntA n)] (rpH x) (.tup [.agg (ntA r), .v (.bool ok)]) (rpV x2) := by
 have e1 : U64 n.view = (n.view.toNat : Int) := rfl
 obtain ⟨d, s, c, lost, tr, bs, vo, lk, lid, me, ks, seed, n', view, tm, prop, sg, dead⟩ := x
 replace hd : dead = false := hd
 subst hd
 refine FC.of_wpc [(4, some 46), (5, none)] Tryz.func30 rfl rfl rfl rfl (by exact ⟨_, rfl, ⟨_, _, rfl, rfl, rfl, rfl⟩, trivial, trivial⟩) ⟨rfl, nt_bel _ n, trivial⟩ (rp_bel _ blt10 _) (Nat.le_of_ble_eq_true rfl) ?_
 intro A hG hnA hAB
 unfold start
 refine WP.rs hG (Ch.p1 rfl (OpS.boxS) rfl (Ch.a0 (OpS.alloc 10 rfl rfl rfl) rfl rfl (Ch.asg rfl rfl (Ch.nil (WP.seq (WP.rs hG (Ch.mv rfl rfl (Ch.p1 rfl (OpS.nilCheckP) rfl (Ch.p1 rfl (OpS.fieldAddr rfl rfl rfl rfl) rfl ?_)))))))))
 refine Ch.q1 rfl (OpS.loadP rfl rfl rfl) rfl rfl (Ch.mv rfl rfl (Ch.g1 rfl rfl rfl (OpS.fieldAddrS rfl rfl rfl rfl rfl) rfl (Ch.g1 rfl rfl rfl (OpS.loadS rfl rfl) rfl (Ch.g2 rfl rfl rfl rfl (OpS.gtrF (by omega)) rfl ?_))))
 refine Ch.p2 rfl rfl (OpS.pickF) rfl (Ch.nil (WP.cond_false rfl (WP.skip (WP.seq (WP.rs hG (Ch.p1 rfl (OpS.fieldAddrS rfl rfl rfl rfl rfl) rfl (Ch.p1 rfl (OpS.loadS rfl rfl) rfl (Ch.nil (WP.block ?_)))))))))
 refine WP.rs hG (Ch.p2 rfl rfl (OpS.eqlT hk) rfl (Ch.asg rfl rfl (Ch.nil (WP.cond_true rfl (WP.rs hG (Ch.mv rfl rfl (Ch.p1 rfl (OpS.loadSA rfl rfl rfl) rfl ?_)))))))
 refine Ch.cH (hon) [0,1,2,3,4,5,6,7,8,9] 11 gdN (.cons rfl (.cons rfl .nil)) (.c (.rfl _) (.c (.of_eq (ren_nt _ _).symm) .n)) rfl (by refine ⟨?_, ?_, ?_, ?_⟩ <;> first | ((conv => lhs; simp only [nrmA, Nat.reduceAdd, renL_tbs, renL_tb1, renL_bks, renL_b1, renL_vs, renL_v1, ren_vt, pend_ren, ren_ss]); all_goals rfl) | rfl) (by exact ⟨rfl, rfl, rfl, rfl, rfl, rfl, rfl, rfl, rfl, rfl, trivial⟩) (by exact ⟨rfl, rfl, rfl, trivial⟩) rfl ?_
 refine Ch.p1 rfl (OpS.extract rfl) rfl (Ch.p1 rfl (OpS.extract rfl) rfl (Ch.ws rfl rfl (OpS.storePA (cs := ntA nt0) (c := .agg (ntA r)) rfl rfl (nt_one r) (by exact Nat.le_refl 9)) rfl ?_))
 refine Ch.asg rfl rfl (Ch.nil (WP.from (SEnt.frz (t := 4) rfl rfl) (WP.ret ?_)))
 refine (Ret.of (rs := [4, 5]) (vs := [.sptr (ntA r), .v (.bool ok)]) (H' := rpV x2) (res := .tup [.sptr (ntA r), .v (.bool ok)]) [0, 1, 2, 3, 4, 5, 6, 7, 8, 9, 11, 12, 13] ?_ ?_ rfl ?_ (by simp only [List.length_cons, List.length_nil]; decide) ?_).1
 · exact na_of hnA rfl
 · (repeat (first | exact trivial | (refine ⟨⟨(by first | trivial | (simp; first | done | fail)), _, rfl, (by first | exact .rfl _ | exact .of_eq (ren_spt _ _).symm)⟩, ?_⟩)))
 · (repeat (first | exact trivial | refine HFromL.skip ?_ | (refine ⟨⟨(by first | trivial | (simp; first | done | fail)), (by first | rfl | (simp [renL_tbs, renL_bks, renL_vs, pend_ren, ren_ss]; first | done | fail))⟩, ?_⟩)))
 exact ⟨_, rfl, rfl, by simp [ls, TsOk, List.zip, List.zipWith]⟩
end
end Go.Proofs.YtpnbpcopdckgpaaGreatDoor.E
namespace Go.Proofs.YtpnbpcopdckgpaaGreatDoor.E
open Go Go.RowKit V
attribute [local go_sem] B_size B_append B_extract mk_B B_toList take_drop_len List.length_drop List.length_take sgn32 sgn64 add32 sub32 mul32 add64 sub64 mul64 mul64_8 and32 or32 xor32 and64 or64 xor64 shl32_run shr32_run shl64_run shr64_run not32 not32' xor32_all w_u32_u8 w_u64_u8 w_i64_u8 w_u8_u32 w_u8_u64 w_u32_u64 w_u64_u32 w_u8_u8 w_u32_u32 w_u64_u64
attribute [local go_sem ↓] run_index_B' add32 sub32 mul32 add64 sub64 mul64 mul64_8 and32 or32 xor32 and64 or64 xor64 shl32_run shr32_run shl64_run shr64_run not32 not32' xor32_all w_u32_u8 w_u64_u8 w_i64_u8 w_u8_u32 w_u8_u64 w_u32_u64 w_u64_u32 w_u8_u8 w_u32_u32 w_u64_u64 w_u64_nat w_u32_nat w_u8_nat
set_option maxRecDepth 4000
set_option maxRecDepth 4000
def turnN (x : Rp) (i0 : Txt) : Nt := ⟨3, (x.me : Int), (leadT (x.view + 1) : Int), x.view + 1, i0, [], [], [], none⟩
def propN (x : Rp) (i0 pl : Txt) : Nt := ⟨1, (x.me : Int), -1, x.view, idT x.view i0 pl, i0, pl, [], none⟩
attribute [local irreducible] sum tag input beS rdNum rdText leavesT f64 tb sigT firstT leadT mayT lkT recT idT
section
variable {G : List (Nat × Array Value)}
theorem rSigned_fc (x : Rp) (k : Nat) (hk : x.sg.length = k + 1) (h9 : k ≤ 1000) : FP G 34 [.ptr 2 0] (rpH x) (.sl none (k + 1) (x.sg.map sA)) (rpH x) := by
 have hc := sClone_fc (G := G) x.sg k hk h9
 have hc' : FP G 58 [.sl none x.sg.length (x.sg.map sA)] [] (.sl none (k + 1) (x.sg.map sA)) [] := by rw [hk]; exact hc
 refine FC.of_wp [2] Tryz.func34 rfl rfl rfl rfl ⟨rfl, trivial⟩ (rp_bel _ blt10 x) (Nat.le_of_ble_eq_true rfl) ?_
 intro A hG hnA hAB
 unfold start
 refine WP.rs hG (Ch.asg rfl rfl (Ch.nil (WP.rs hG (Ch.mv rfl rfl (Ch.p1 rfl (OpS.nilCheckP) rfl (Ch.p1 rfl (OpS.fieldAddr rfl rfl rfl rfl) rfl (Ch.q1 rfl (OpS.loadP rfl rfl rfl) rfl rfl (Ch.callS (hc') gdN (.cons rfl .nil) (.c (AV.wk.sh (renL_s _ _)) .n) (by simp) rfl ?_))))))))
 refine Ch.asg rfl rfl (Ch.nil (WP.ret ?_))
 refine (Ret.of (rs := [2]) (vs := [.sl none (k + 1) (x.sg.map sA)]) (H' := rpH x) (res := .sl none (k + 1) (x.sg.map sA)) [0, 1, 2, 3, 4, 5, 6, 7, 8, 9] ?_ ?_ rfl ?_ (by simp only [List.length_cons, List.length_nil]; decide) ?_).1
 · exact na_of hnA rfl
 · (repeat (first | exact trivial | (refine ⟨⟨(by (simp; first | done | fail)), _, rfl, (by exact .of_eq (by simp [renL_tbs, renL_bks, renL_vs, pend_ren, renL_s]; first | done | fail))⟩, ?_⟩)))
 · (repeat (first | exact trivial | refine HFromL.skip ?_ | (refine ⟨⟨(by first | trivial | (simp; first | done | fail)), (by first | rfl | (simp [renL_tbs, renL_bks, renL_vs, pend_ren, renL_s]; first | done | fail))⟩, ?_⟩)))
 rfl
theorem rTurn_fc (x : Rp) (hd : x.dead = false) (i0 : Txt) (hb : 0 < x.bs.length) (hi : (el x.bs 0).1 = i0) : FP G 28 [.ptr 2 0] (rpH x) (.tup [.agg (ntA (turnN x i0)), .v (.bool true)]) (rpH { x with view := x.view + 1 }) := by
 obtain ⟨d, s, c, lost, tr, bs, vo, lk, lid, me, ks, seed, n', view, tm, prop, sg, dead⟩ := x
 replace hd : dead = false := hd
 subst hd
 replace hi : (el bs 0).1 = i0 := hi
 replace hb : 0 < bs.length := hb
 subst hi
 have fl := rLead_fc (G := G) (view + 1)
 refine FC.of_wpc [(2, some 46), (3, none)] Tryz.func28 rfl rfl rfl rfl (by exact ⟨_, rfl, ⟨_, _, rfl, rfl, rfl, rfl⟩, trivial, trivial⟩) ⟨rfl, trivial⟩ (rp_bel _ blt10 _) (Nat.le_of_ble_eq_true rfl) ?_
 intro A hG hnA hAB
 unfold start
 refine WP.rs hG (Ch.a0 (OpS.alloc 10 rfl rfl rfl) rfl rfl (Ch.asg rfl rfl (Ch.nil (WP.seq (WP.rs hG (Ch.mv rfl rfl (Ch.p1 rfl (OpS.nilCheckP) rfl (Ch.p1 rfl (OpS.fieldAddr rfl rfl rfl rfl) rfl (Ch.q1 rfl (OpS.loadP rfl rfl rfl) rfl rfl ?_)))))))))
 refine Ch.nil (WP.cond_false rfl (WP.skip (WP.rs hG (Ch.mv rfl rfl (Ch.p1 rfl (OpS.nilCheckP) rfl (Ch.p1 rfl (OpS.fieldAddr rfl rfl rfl rfl) rfl (Ch.q1 rfl (OpS.loadP rfl rfl rfl) rfl rfl (Ch.p2 rfl rfl (OpS.int (op := .add) (v' := .int .u64 (U64 (view + 1))) rfl (u64_succ _)) rfl (Ch.p1 rfl (OpS.nilCheckP) rfl ?_)))))))))
 refine Ch.p1 rfl (OpS.fieldAddr rfl rfl rfl rfl) rfl (Ch.ws rfl rfl (OpS.storeP (cs := rpC ⟨d, s, c, lost, tr, bs, vo, lk, lid, me, ks, seed, n', view, tm, prop, sg, false⟩ 5 9) rfl rfl rfl (by simp)) rfl ?_)
 refine Ch.nil (WP.rsD (by kernel_rfl) hG (Ch.mv rfl rfl (Ch.p1 rfl (OpS.nilCheckP) rfl (Ch.p1 rfl (OpS.fieldAddr rfl rfl rfl rfl) rfl (Ch.q1 rfl (OpS.loadP rfl rfl rfl) rfl rfl (Ch.mv rfl rfl (Ch.p1 rfl (OpS.nilCheckP) rfl (Ch.p1 rfl (OpS.fieldAddr rfl rfl rfl rfl) rfl (Ch.q1 rfl (OpS.loadP rfl rfl rfl) rfl rfl ?_)))))))))
 refine Ch.callP (fl) gdN (.cons rfl .nil) (.c (.rfl _) .n) (by rfl) rfl ?_
 refine Ch.mv rfl rfl (Ch.p1 rfl (OpS.nilCheckP) rfl (Ch.p1 rfl (OpS.fieldAddr rfl rfl rfl rfl) rfl (Ch.q1 rfl (OpS.loadP rfl rfl rfl) rfl rfl (Ch.mv rfl rfl (Ch.p1 rfl (OpS.nilCheckP) rfl (Ch.p1 rfl (OpS.fieldAddr rfl rfl rfl rfl) rfl (Ch.p1 rfl (OpS.fieldAddr rfl rfl rfl rfl) rfl (Ch.q1 rfl (OpS.loadP rfl rfl rfl) rfl rfl (Ch.mv rfl rfl ?_)))))))))
 refine Ch.p1 rfl (OpS.nilCheckP) rfl (Ch.p1 rfl (OpS.fieldAddr rfl rfl rfl rfl) rfl (Ch.q1 rfl (OpS.loadP rfl rfl rfl) rfl rfl (Ch.p2 rfl rfl (OpS.indexF (j := 0) rfl rfl rfl bkA_len (by decide) rfl (by decide) (by show (0 : Int) < (bs.length : Int); omega) rfl) rfl ?_)))
 refine Ch.p1 rfl (OpS.fieldAddrS rfl rfl rfl rfl rfl) rfl (Ch.p1 rfl (OpS.loadS rfl rfl) rfl (Ch.mv rfl rfl (Ch.p1 rfl (OpS.nilCheckP) rfl (Ch.p1 rfl (OpS.fieldAddr rfl rfl rfl rfl) rfl (Ch.q1 rfl (OpS.loadP rfl rfl rfl) rfl rfl (Ch.callP (sCloneN_fc) gdN (.cons rfl .nil) (.c (.rfl _) .n) (by rfl) rfl ?_))))))
 refine Ch.pup gdN (by repeat (first | exact EvP.nil | (apply EvP.cons; exact rfl))) (OpS.build (cs := ntA (turnN ⟨d, s, c, lost, tr, bs, vo, lk, lid, me, ks, seed, n', view, tm, prop, sg, false⟩ (el bs 0).1)) rfl rfl rfl rfl rfl (by rfl)) rfl ?_
 refine Ch.ws rfl rfl (OpS.storePA (cs := ntA nt0) (c := .agg (ntA (turnN ⟨d, s, c, lost, tr, bs, vo, lk, lid, me, ks, seed, n', view, tm, prop, sg, false⟩ (el bs 0).1))) rfl rfl rfl (by exact Nat.le_refl 9)) rfl ?_
 refine Ch.asg rfl rfl (Ch.nilD ?_ (by kernel_rfl))
 refine WP.from (SEnt.frz (t := 2) rfl rfl) (WP.ret ?_)
 refine (Ret.of (rs := [2, 3]) (vs := [.sptr (ntA (turnN ⟨d, s, c, lost, tr, bs, vo, lk, lid, me, ks, seed, n', view, tm, prop, sg, false⟩ (el bs 0).1)), .v (.bool true)]) (H' := rpH ⟨d, s, c, lost, tr, bs, vo, lk, lid, me, ks, seed, n', view + 1, tm, prop, sg, false⟩) (res := .tup [.sptr (ntA (turnN ⟨d, s, c, lost, tr, bs, vo, lk, lid, me, ks, seed, n', view, tm, prop, sg, false⟩ (el bs 0).1)), .v (.bool true)]) [0, 1, 2, 3, 4, 5, 6, 7, 8, 9] ?_ ?_ rfl ?_ (by simp only [List.length_cons, List.length_nil]; decide) ?_).1
 · exact na_of hnA rfl
 · (repeat (first | exact trivial | (refine ⟨⟨(by trivial), _, rfl, .rfl _⟩, ?_⟩)))
 · (repeat (first | exact trivial | refine HFromL.skip ?_ | (refine ⟨⟨(by first | trivial | (simp; first | done | fail)), (by first | rfl | (simp [renL_tbs, renL_bks, renL_vs, pend_ren]; first | done | fail))⟩, ?_⟩)))
 exact ⟨_, rfl, rfl, by simp [ls, TsOk, List.zip, List.zipWith]⟩
theorem ones64_0 : FP G 91 [.v (.int .u64 (U64 0))] [] (.v (.int .i64 0)) [] := by
 refine FC.of_wp [2] Tryz.func91 rfl rfl rfl rfl (by trivial) (by trivial) (Nat.le_of_ble_eq_true rfl) ?_
 intro A hG hnA hAB
 unfold start
 refine WP.rs hG (Ch.asg rfl rfl (Ch.nil (WP.rs hG (Ch.mv rfl rfl (Ch.p2 rfl rfl (OpS.shr_u64 (by decide) (by rfl)) rfl ?_)))))
 refine Ch.p2 rfl rfl (OpS.binR rfl (by intro w; go_simp; with_reducible rfl)) rfl ?_
 refine Ch.mv rfl rfl (Ch.p2 rfl rfl (OpS.binR rfl (by intro w; go_simp; with_reducible rfl)) rfl ?_)
 refine Ch.p2 rfl rfl (OpS.int rfl (by exact rfl)) rfl ?_
 refine Ch.asg rfl rfl (Ch.nil (WP.rs hG (Ch.mv rfl rfl (Ch.p2 rfl rfl (OpS.binR rfl (by intro w; go_simp; with_reducible rfl)) rfl ?_))))
 refine Ch.p2 rfl rfl (OpS.binR rfl (by intro w; go_simp; with_reducible rfl)) rfl ?_
 refine Ch.mv rfl rfl (Ch.p2 rfl rfl (OpS.binR rfl (by intro w; go_simp; with_reducible rfl)) rfl ?_)
 refine Ch.p2 rfl rfl (OpS.int rfl (by exact rfl)) rfl ?_
 refine Ch.asg rfl rfl (Ch.nil (WP.rs hG (Ch.mv rfl rfl (Ch.p2 rfl rfl (OpS.binR rfl (by intro w; go_simp; with_reducible rfl)) rfl ?_))))
 refine Ch.mv rfl rfl (Ch.p2 rfl rfl (OpS.int rfl (by exact rfl)) rfl ?_)
 refine Ch.p2 rfl rfl (OpS.binR rfl (by intro w; go_simp; with_reducible rfl)) rfl ?_
 refine Ch.asg rfl rfl (Ch.nil (WP.rs hG (Ch.mv rfl rfl (Ch.mv rfl rfl (Ch.p2 rfl rfl (OpS.binR rfl (by intro w; go_simp; with_reducible rfl)) rfl ?_)))))
 refine Ch.p2 rfl rfl (OpS.int rfl (by exact rfl)) rfl ?_
 refine Ch.asg rfl rfl (Ch.nil (WP.rs hG (Ch.mv rfl rfl (Ch.mv rfl rfl (Ch.p2 rfl rfl (OpS.binR rfl (by intro w; go_simp; with_reducible rfl)) rfl ?_)))))
 refine Ch.p2 rfl rfl (OpS.int rfl (by exact rfl)) rfl ?_
 refine Ch.asg rfl rfl (Ch.nil (WP.rs hG (Ch.mv rfl rfl (Ch.mv rfl rfl (Ch.p2 rfl rfl (OpS.binR rfl (by intro w; go_simp; with_reducible rfl)) rfl ?_)))))
 refine Ch.p2 rfl rfl (OpS.int rfl (by exact rfl)) rfl ?_
 refine Ch.asg rfl rfl (Ch.nil (WP.rs hG (Ch.mv rfl rfl (Ch.p1 rfl (OpS.conv (v := .int .i64 0) rfl rfl (by exact congrArg (Value.int .i64) (by decide +kernel))) rfl ?_))))
 refine Ch.p2 rfl rfl (OpS.binR rfl (by intro w; go_simp; with_reducible rfl)) rfl ?_
 refine Ch.asg rfl rfl (Ch.nil ?_)
 exact WP.ret (Ret.one rfl (.of_eq rfl) trivial hnA)
theorem ones_0 : FP G 60 [.v (.int .u64 (U64 0))] [] (.v (.int .i64 0)) [] := by
 refine FC.of_wp [2] Tryz.func60 rfl rfl rfl rfl (by trivial) (by trivial) (Nat.le_of_ble_eq_true rfl) ?_
 intro A hG hnA hAB
 unfold start
 refine WP.rs hG (Ch.asg rfl rfl (Ch.nil (WP.seq (WP.cond_false rfl (WP.skip (WP.rs hG (Ch.mv rfl rfl (Ch.callP (ones64_0) gdN (.cons rfl .nil) (.c (.rfl _) .n) (by rfl) rfl ?_))))))))
 refine Ch.asg rfl rfl (Ch.nil ?_)
 exact WP.ret (Ret.one rfl (.of_eq rfl) trivial hnA)
theorem ones64_1 : FP G 91 [.v (.int .u64 (U64 1))] [] (.v (.int .i64 1)) [] := by
 refine FC.of_wp [2] Tryz.func91 rfl rfl rfl rfl (by trivial) (by trivial) (Nat.le_of_ble_eq_true rfl) ?_
 intro A hG hnA hAB
 unfold start
 refine WP.rs hG (Ch.asg rfl rfl (Ch.nil (WP.rs hG (Ch.mv rfl rfl (Ch.p2 rfl rfl (OpS.shr_u64 (by decide) (by rfl)) rfl ?_)))))
 refine Ch.p2 rfl rfl (OpS.binR rfl (by intro w; go_simp; with_reducible rfl)) rfl ?_
 refine Ch.mv rfl rfl (Ch.p2 rfl rfl (OpS.binR rfl (by intro w; go_simp; with_reducible rfl)) rfl ?_)
 refine Ch.p2 rfl rfl (OpS.int rfl (by exact rfl)) rfl ?_
 refine Ch.asg rfl rfl (Ch.nil (WP.rs hG (Ch.mv rfl rfl (Ch.p2 rfl rfl (OpS.binR rfl (by intro w; go_simp; with_reducible rfl)) rfl ?_))))
 refine Ch.p2 rfl rfl (OpS.binR rfl (by intro w; go_simp; with_reducible rfl)) rfl ?_
 refine Ch.mv rfl rfl (Ch.p2 rfl rfl (OpS.binR rfl (by intro w; go_simp; with_reducible rfl)) rfl ?_)
 refine Ch.p2 rfl rfl (OpS.int rfl (by exact rfl)) rfl ?_
 refine Ch.asg rfl rfl (Ch.nil (WP.rs hG (Ch.mv rfl rfl (Ch.p2 rfl rfl (OpS.binR rfl (by intro w; go_simp; with_reducible rfl)) rfl ?_))))
 refine Ch.mv rfl rfl (Ch.p2 rfl rfl (OpS.int rfl (by exact rfl)) rfl ?_)
 refine Ch.p2 rfl rfl (OpS.binR rfl (by intro w; go_simp; with_reducible rfl)) rfl ?_
 refine Ch.asg rfl rfl (Ch.nil (WP.rs hG (Ch.mv rfl rfl (Ch.mv rfl rfl (Ch.p2 rfl rfl (OpS.binR rfl (by intro w; go_simp; with_reducible rfl)) rfl ?_)))))
 refine Ch.p2 rfl rfl (OpS.int rfl (by exact rfl)) rfl ?_
 refine Ch.asg rfl rfl (Ch.nil (WP.rs hG (Ch.mv rfl rfl (Ch.mv rfl rfl (Ch.p2 rfl rfl (OpS.binR rfl (by intro w; go_simp; with_reducible rfl)) rfl ?_)))))
 refine Ch.p2 rfl rfl (OpS.int rfl (by exact rfl)) rfl ?_
 refine Ch.asg rfl rfl (Ch.nil (WP.rs hG (Ch.mv rfl rfl (Ch.mv rfl rfl (Ch.p2 rfl rfl (OpS.binR rfl (by intro w; go_simp; with_reducible rfl)) rfl ?_)))))
 refine Ch.p2 rfl rfl (OpS.int rfl (by exact rfl)) rfl ?_
 refine Ch.asg rfl rfl (Ch.nil (WP.rs hG (Ch.mv rfl rfl (Ch.p1 rfl (OpS.conv (v := .int .i64 1) rfl rfl (by exact congrArg (Value.int .i64) (by decide +kernel))) rfl ?_))))
 refine Ch.p2 rfl rfl (OpS.binR rfl (by intro w; go_simp; with_reducible rfl)) rfl ?_
 refine Ch.asg rfl rfl (Ch.nil ?_)
 exact WP.ret (Ret.one rfl (.of_eq rfl) trivial hnA)
theorem ones_1 : FP G 60 [.v (.int .u64 (U64 1))] [] (.v (.int .i64 1)) [] := by
 refine FC.of_wp [2] Tryz.func60 rfl rfl rfl rfl (by trivial) (by trivial) (Nat.le_of_ble_eq_true rfl) ?_
 intro A hG hnA hAB
 unfold start
 refine WP.rs hG (Ch.asg rfl rfl (Ch.nil (WP.seq (WP.cond_false rfl (WP.skip (WP.rs hG (Ch.mv rfl rfl (Ch.callP (ones64_1) gdN (.cons rfl .nil) (.c (.rfl _) .n) (by rfl) rfl ?_))))))))
 refine Ch.asg rfl rfl (Ch.nil ?_)
 exact WP.ret (Ret.one rfl (.of_eq rfl) trivial hnA)
theorem ones64_3 : FP G 91 [.v (.int .u64 (U64 3))] [] (.v (.int .i64 2)) [] := by
 refine FC.of_wp [2] Tryz.func91 rfl rfl rfl rfl (by trivial) (by trivial) (Nat.le_of_ble_eq_true rfl) ?_
 intro A hG hnA hAB
 unfold start
 refine WP.rs hG (Ch.asg rfl rfl (Ch.nil (WP.rs hG (Ch.mv rfl rfl (Ch.p2 rfl rfl (OpS.shr_u64 (by decide) (by rfl)) rfl ?_)))))
 refine Ch.p2 rfl rfl (OpS.binR rfl (by intro w; go_simp; with_reducible rfl)) rfl ?_
 refine Ch.mv rfl rfl (Ch.p2 rfl rfl (OpS.binR rfl (by intro w; go_simp; with_reducible rfl)) rfl ?_)
 refine Ch.p2 rfl rfl (OpS.int rfl (by exact rfl)) rfl ?_
 refine Ch.asg rfl rfl (Ch.nil (WP.rs hG (Ch.mv rfl rfl (Ch.p2 rfl rfl (OpS.binR rfl (by intro w; go_simp; with_reducible rfl)) rfl ?_))))
 refine Ch.p2 rfl rfl (OpS.binR rfl (by intro w; go_simp; with_reducible rfl)) rfl ?_
 refine Ch.mv rfl rfl (Ch.p2 rfl rfl (OpS.binR rfl (by intro w; go_simp; with_reducible rfl)) rfl ?_)
 refine Ch.p2 rfl rfl (OpS.int rfl (by exact rfl)) rfl ?_
 refine Ch.asg rfl rfl (Ch.nil (WP.rs hG (Ch.mv rfl rfl (Ch.p2 rfl rfl (OpS.binR rfl (by intro w; go_simp; with_reducible rfl)) rfl ?_))))
 refine Ch.mv rfl rfl (Ch.p2 rfl rfl (OpS.int rfl (by exact rfl)) rfl ?_)
 refine Ch.p2 rfl rfl (OpS.binR rfl (by intro w; go_simp; with_reducible rfl)) rfl ?_
 refine Ch.asg rfl rfl (Ch.nil (WP.rs hG (Ch.mv rfl rfl (Ch.mv rfl rfl (Ch.p2 rfl rfl (OpS.binR rfl (by intro w; go_simp; with_reducible rfl)) rfl ?_)))))
 refine Ch.p2 rfl rfl (OpS.int rfl (by exact rfl)) rfl ?_
 refine Ch.asg rfl rfl (Ch.nil (WP.rs hG (Ch.mv rfl rfl (Ch.mv rfl rfl (Ch.p2 rfl rfl (OpS.binR rfl (by intro w; go_simp; with_reducible rfl)) rfl ?_)))))
 refine Ch.p2 rfl rfl (OpS.int rfl (by exact rfl)) rfl ?_
 refine Ch.asg rfl rfl (Ch.nil (WP.rs hG (Ch.mv rfl rfl (Ch.mv rfl rfl (Ch.p2 rfl rfl (OpS.binR rfl (by intro w; go_simp; with_reducible rfl)) rfl ?_)))))
 refine Ch.p2 rfl rfl (OpS.int rfl (by exact rfl)) rfl ?_
 refine Ch.asg rfl rfl (Ch.nil (WP.rs hG (Ch.mv rfl rfl (Ch.p1 rfl (OpS.conv (v := .int .i64 2) rfl rfl (by exact congrArg (Value.int .i64) (by decide +kernel))) rfl ?_))))
 refine Ch.p2 rfl rfl (OpS.binR rfl (by intro w; go_simp; with_reducible rfl)) rfl ?_
 refine Ch.asg rfl rfl (Ch.nil ?_)
 exact WP.ret (Ret.one rfl (.of_eq rfl) trivial hnA)
theorem ones_3 : FP G 60 [.v (.int .u64 (U64 3))] [] (.v (.int .i64 2)) [] := by
 refine FC.of_wp [2] Tryz.func60 rfl rfl rfl rfl (by trivial) (by trivial) (Nat.le_of_ble_eq_true rfl) ?_
 intro A hG hnA hAB
 unfold start
 refine WP.rs hG (Ch.asg rfl rfl (Ch.nil (WP.seq (WP.cond_false rfl (WP.skip (WP.rs hG (Ch.mv rfl rfl (Ch.callP (ones64_3) gdN (.cons rfl .nil) (.c (.rfl _) .n) (by rfl) rfl ?_))))))))
 refine Ch.asg rfl rfl (Ch.nil ?_)
 exact WP.ret (Ret.one rfl (.of_eq rfl) trivial hnA)
theorem ones64_7 : FP G 91 [.v (.int .u64 (U64 7))] [] (.v (.int .i64 3)) [] := by
 refine FC.of_wp [2] Tryz.func91 rfl rfl rfl rfl (by trivial) (by trivial) (Nat.le_of_ble_eq_true rfl) ?_
 intro A hG hnA hAB
 unfold start
 refine WP.rs hG (Ch.asg rfl rfl (Ch.nil (WP.rs hG (Ch.mv rfl rfl (Ch.p2 rfl rfl (OpS.shr_u64 (by decide) (by rfl)) rfl ?_)))))
 refine Ch.p2 rfl rfl (OpS.binR rfl (by intro w; go_simp; with_reducible rfl)) rfl ?_
 refine Ch.mv rfl rfl (Ch.p2 rfl rfl (OpS.binR rfl (by intro w; go_simp; with_reducible rfl)) rfl ?_)
 refine Ch.p2 rfl rfl (OpS.int rfl (by exact rfl)) rfl ?_
 refine Ch.asg rfl rfl (Ch.nil (WP.rs hG (Ch.mv rfl rfl (Ch.p2 rfl rfl (OpS.binR rfl (by intro w; go_simp; with_reducible rfl)) rfl ?_))))
 refine Ch.p2 rfl rfl (OpS.binR rfl (by intro w; go_simp; with_reducible rfl)) rfl ?_
 refine Ch.mv rfl rfl (Ch.p2 rfl rfl (OpS.binR rfl (by intro w; go_simp; with_reducible rfl)) rfl ?_)
 refine Ch.p2 rfl rfl (OpS.int rfl (by exact rfl)) rfl ?_
 refine Ch.asg rfl rfl (Ch.nil (WP.rs hG (Ch.mv rfl rfl (Ch.p2 rfl rfl (OpS.binR rfl (by intro w; go_simp; with_reducible rfl)) rfl ?_))))
 refine Ch.mv rfl rfl (Ch.p2 rfl rfl (OpS.int rfl (by exact rfl)) rfl ?_)
 refine Ch.p2 rfl rfl (OpS.binR rfl (by intro w; go_simp; with_reducible rfl)) rfl ?_
 refine Ch.asg rfl rfl (Ch.nil (WP.rs hG (Ch.mv rfl rfl (Ch.mv rfl rfl (Ch.p2 rfl rfl (OpS.binR rfl (by intro w; go_simp; with_reducible rfl)) rfl ?_)))))
 refine Ch.p2 rfl rfl (OpS.int rfl (by exact rfl)) rfl ?_
 refine Ch.asg rfl rfl (Ch.nil (WP.rs hG (Ch.mv rfl rfl (Ch.mv rfl rfl (Ch.p2 rfl rfl (OpS.binR rfl (by intro w; go_simp; with_reducible rfl)) rfl ?_)))))
 refine Ch.p2 rfl rfl (OpS.int rfl (by exact rfl)) rfl ?_
 refine Ch.asg rfl rfl (Ch.nil (WP.rs hG (Ch.mv rfl rfl (Ch.mv rfl rfl (Ch.p2 rfl rfl (OpS.binR rfl (by intro w; go_simp; with_reducible rfl)) rfl ?_)))))
 refine Ch.p2 rfl rfl (OpS.int rfl (by exact rfl)) rfl ?_
 refine Ch.asg rfl rfl (Ch.nil (WP.rs hG (Ch.mv rfl rfl (Ch.p1 rfl (OpS.conv (v := .int .i64 3) rfl rfl (by exact congrArg (Value.int .i64) (by decide +kernel))) rfl ?_))))
 refine Ch.p2 rfl rfl (OpS.binR rfl (by intro w; go_simp; with_reducible rfl)) rfl ?_
 refine Ch.asg rfl rfl (Ch.nil ?_)
 exact WP.ret (Ret.one rfl (.of_eq rfl) trivial hnA)
theorem ones_7 : FP G 60 [.v (.int .u64 (U64 7))] [] (.v (.int .i64 3)) [] := by
 refine FC.of_wp [2] Tryz.func60 rfl rfl rfl rfl (by trivial) (by trivial) (Nat.le_of_ble_eq_true rfl) ?_
 intro A hG hnA hAB
 unfold start
 refine WP.rs hG (Ch.asg rfl rfl (Ch.nil (WP.seq (WP.cond_false rfl (WP.skip (WP.rs hG (Ch.mv rfl rfl (Ch.callP (ones64_7) gdN (.cons rfl .nil) (.c (.rfl _) .n) (by rfl) rfl ?_))))))))
 refine Ch.asg rfl rfl (Ch.nil ?_)
 exact WP.ret (Ret.one rfl (.of_eq rfl) trivial hnA)
theorem rPropV_fc (hsha : ShaIn G) (x : Rp) (hd : x.dead = false) (i0 pl : Txt) (hb : 0 < x.bs.length) (hi : (el x.bs 0).1 = i0) (h32 : i0.length ≤ 1000) (hme : leadT x.view = x.me) (hpll : pl.length ≤ 200) (hpr : x.prop.toNat < x.view.toNat) (htr : 0 < x.tr.length ∧ x.tr.length ≤ 256) (hv0 : vwT x.tr 0 = 0) (hvw : x.view = 1) : FP G 29 [.ptr 2 0, sA pl] (rpH x) (.tup [.agg (ntA (propN x i0 pl)), .v (.bool true)]) (rpH { x with prop := x.view }) := by
 obtain ⟨d, s, c, lost, tr, bs, vo, lk, lid, me, ks, seed, n', view, tm, prop, sg, dead⟩ := x
 replace hd : dead = false := hd
 subst hd
 replace hi : (el bs 0).1 = i0 := hi
 replace hb : 0 < bs.length := hb
 replace hme : leadT view = me := hme
 replace hpr : prop.toNat < view.toNat := hpr
 have e1 : U64 prop = (prop.toNat : Int) := rfl
 have e2 : U64 view = (view.toNat : Int) := rfl
 subst hi
 have fl := rLead_fc (G := G) view
 have fv := tView_fc (G := G) tr 0 htr.1 htr.2
 rw [show vwT tr 0 = 0 from hv0] at fv
 replace hvw : view = 1 := hvw
 have fi := rID_fc hsha view (el bs 0).1 pl (by omega)
 have hsub : Value.int .u64 (IntKind.u64.wrap (U64 view - 1)) = .int .u64 0 := by rw [hvw]; exact congrArg (Value.int .u64) (by decide +kernel)
 refine FC.of_wpc [(4, some 46), (5, none)] Tryz.func29 rfl rfl rfl rfl (by exact ⟨_, rfl, ⟨_, _, rfl, rfl, rfl, rfl⟩, trivial, trivial⟩) ⟨rfl, trivial, trivial⟩ (rp_bel _ blt10 _) (Nat.le_of_ble_eq_true rfl) ?_
 intro A hG hnA hAB
 unfold start
 refine WP.rs hG (Ch.a0 (OpS.alloc 10 rfl rfl rfl) rfl rfl (Ch.asg rfl rfl (Ch.nil (WP.seq (WP.block (WP.rsD (by kernel_rfl) hG (Ch.mv rfl rfl (Ch.p1 rfl (OpS.nilCheckP) rfl (Ch.p1 rfl (OpS.fieldAddr rfl rfl rfl rfl) rfl ?_)))))))))
 refine Ch.q1 rfl (OpS.loadP rfl rfl rfl) rfl rfl (Ch.mv rfl rfl (Ch.gm rfl rfl rfl rfl (Ch.g1 rfl rfl rfl (OpS.nilCheckP) rfl (Ch.g1 rfl rfl rfl (OpS.fieldAddr rfl rfl rfl rfl) rfl (Ch.pu (by exact gdT rfl rfl) (by exact ⟨rfl, trivial⟩) (OpS.loadP rfl rfl rfl) (by exact ⟨rfl, trivial⟩) rfl ?_)))))
 refine Ch.callP (fl) (gdT rfl rfl) (.cons rfl .nil) (.c (.rfl _) .n) (by rfl) rfl ?_
 refine Ch.gm rfl rfl rfl rfl (Ch.g1 rfl rfl rfl (OpS.nilCheckP) rfl (Ch.g1 rfl rfl rfl (OpS.fieldAddr rfl rfl rfl rfl) rfl (Ch.pu (by exact gdT rfl rfl) (by exact ⟨rfl, trivial⟩) (OpS.loadP rfl rfl rfl) (by exact ⟨rfl, trivial⟩) rfl ?_)))
 refine Ch.g2 rfl rfl rfl rfl (OpS.neqF (show (leadT view : Int) = (me : Int) by omega)) rfl ?_
 refine Ch.p2 rfl rfl (OpS.pickF) rfl (Ch.mv rfl rfl (Ch.gm rfl rfl rfl rfl (Ch.g1 rfl rfl rfl (OpS.lenS rfl) rfl (Ch.g2 rfl rfl rfl rfl (OpS.gtrF (by omega)) rfl ?_))))
 refine Ch.p2 rfl rfl (OpS.pickF) rfl (Ch.mv rfl rfl (Ch.gm rfl rfl rfl rfl (Ch.g1 rfl rfl rfl (OpS.nilCheckP) rfl (Ch.g1 rfl rfl rfl (OpS.fieldAddr rfl rfl rfl rfl) rfl (Ch.pu (by exact gdT rfl rfl) (by exact ⟨rfl, trivial⟩) (OpS.loadP rfl rfl rfl) (by exact ⟨rfl, trivial⟩) rfl ?_)))))
 refine Ch.gm rfl rfl rfl rfl (Ch.g1 rfl rfl rfl (OpS.nilCheckP) rfl (Ch.g1 rfl rfl rfl (OpS.fieldAddr rfl rfl rfl rfl) rfl (Ch.pu (by exact gdT rfl rfl) (by exact ⟨rfl, trivial⟩) (OpS.loadP rfl rfl rfl) (by exact ⟨rfl, trivial⟩) rfl ?_)))
 refine Ch.g2 rfl rfl rfl rfl (OpS.geqF (show ¬ U64 prop ≥ U64 view by omega)) rfl ?_
 refine Ch.p2 rfl rfl (OpS.pickF) rfl (Ch.asg rfl rfl (Ch.nilD ?_ (by kernel_rfl)))
 refine WP.cond_false rfl (WP.rsD (by kernel_rfl) hG (Ch.mv rfl rfl (Ch.p1 rfl (OpS.nilCheckP) rfl (Ch.p1 rfl (OpS.fieldAddr rfl rfl rfl rfl) rfl (Ch.p1 rfl (OpS.fieldAddr rfl rfl rfl rfl) rfl (Ch.q1 rfl (OpS.loadP rfl rfl rfl) rfl rfl (Ch.mv rfl rfl (Ch.p1 rfl (OpS.nilCheckP) rfl (Ch.p1 rfl (OpS.fieldAddr rfl rfl rfl rfl) rfl ?_)))))))))
 refine Ch.q1 rfl (OpS.loadP rfl rfl rfl) rfl rfl ?_
 refine Ch.cH (fv) [3,4] 11 gdN (.cons rfl (.cons rfl .nil)) (.c (.rfl _) (.c (.rfl _) .n)) rfl (by refine ⟨?_, ?_, ?_, ?_⟩ <;> first | ((conv => lhs; simp only [nrmA, Nat.reduceAdd, renL_tbs, renL_tb1, renL_bks, renL_b1, renL_vs, renL_v1, ren_vt, pend_ren, ren_ss]); all_goals rfl) | rfl) (by exact ⟨rfl, rfl, trivial⟩) (by exact trivial) rfl ?_
 refine Ch.mv rfl rfl (Ch.p1 rfl (OpS.nilCheckP) rfl (Ch.p1 rfl (OpS.fieldAddr rfl rfl rfl rfl) rfl (Ch.q1 rfl (OpS.loadP rfl rfl rfl) rfl rfl (Ch.p2 rfl rfl (OpS.int (op := .sub) (v' := .int .u64 0) rfl hsub) rfl (Ch.p2 rfl rfl (OpS.int (op := .neq) (v' := .bool false) rfl rfl) rfl (Ch.mv rfl rfl (Ch.skU (gdF rfl rfl rfl) rfl (Ch.skU (gdF rfl rfl rfl) rfl (Ch.skU (gdF rfl rfl rfl) rfl ?_)))))))))
 refine Ch.skU (gdF rfl rfl rfl) rfl (Ch.skU (gdF rfl rfl rfl) rfl (Ch.skU (gdF rfl rfl rfl) rfl (Ch.skU (gdF rfl rfl rfl) rfl (Ch.skU (gdF rfl rfl rfl) rfl (Ch.skU (gdF rfl rfl rfl) rfl (Ch.skU (gdF rfl rfl rfl) rfl (Ch.skU (gdF rfl rfl rfl) rfl (Ch.p2 rfl rfl (OpS.pickF) rfl (Ch.asg rfl rfl ?_)))))))))
 refine Ch.nilD ?_ (by kernel_rfl)
 refine WP.cond_false rfl (WP.skip (WP.rs hG (Ch.mv rfl rfl (Ch.mv rfl rfl (Ch.p1 rfl (OpS.nilCheckP) rfl (Ch.p1 rfl (OpS.fieldAddr rfl rfl rfl rfl) rfl (Ch.q1 rfl (OpS.loadP rfl rfl rfl) rfl rfl (Ch.p1 rfl (OpS.nilCheckP) rfl (Ch.p1 rfl (OpS.fieldAddr rfl rfl rfl rfl) rfl ?_)))))))))
 refine Ch.ws rfl rfl (OpS.storeP (cs := rpC ⟨d, s, c, lost, tr, bs, vo, lk, lid, me, ks, seed, n', view, tm, prop, sg, false⟩ 5 9) rfl rfl rfl (by simp)) rfl ?_
 refine Ch.nil (WP.rsD (by kernel_rfl) hG (Ch.mv rfl rfl (Ch.p1 rfl (OpS.nilCheckP) rfl (Ch.p1 rfl (OpS.fieldAddr rfl rfl rfl rfl) rfl (Ch.q1 rfl (OpS.loadP rfl rfl rfl) rfl rfl (Ch.mv rfl rfl (Ch.p1 rfl (OpS.nilCheckP) rfl (Ch.p1 rfl (OpS.fieldAddr rfl rfl rfl rfl) rfl (Ch.q1 rfl (OpS.loadP rfl rfl rfl) rfl rfl ?_)))))))))
 refine Ch.mv rfl rfl (Ch.p1 rfl (OpS.nilCheckP) rfl (Ch.p1 rfl (OpS.fieldAddr rfl rfl rfl rfl) rfl (Ch.p1 rfl (OpS.fieldAddr rfl rfl rfl rfl) rfl (Ch.q1 rfl (OpS.loadP rfl rfl rfl) rfl rfl (Ch.mv rfl rfl (Ch.p1 rfl (OpS.nilCheckP) rfl (Ch.p1 rfl (OpS.fieldAddr rfl rfl rfl rfl) rfl (Ch.q1 rfl (OpS.loadP rfl rfl rfl) rfl rfl (Ch.p2 rfl rfl (OpS.indexF (j := 0) rfl rfl rfl bkA_len (by decide) rfl (by decide) (by show (0 : Int) < (bs.length : Int); omega) rfl) rfl ?_)))))))))
 refine Ch.p1 rfl (OpS.fieldAddrS rfl rfl rfl rfl rfl) rfl (Ch.p1 rfl (OpS.loadS rfl rfl) rfl (Ch.mv rfl rfl (Ch.mv rfl rfl (Ch.p1 rfl (OpS.nilCheckP) rfl (Ch.p1 rfl (OpS.fieldAddr rfl rfl rfl rfl) rfl (Ch.q1 rfl (OpS.loadP rfl rfl rfl) rfl rfl (Ch.callP (sCloneN_fc) gdN (.cons rfl .nil) (.c (.rfl _) .n) (by rfl) rfl ?_)))))))
 refine Ch.pup gdN (by repeat (first | exact EvP.nil | (apply EvP.cons; exact rfl))) (OpS.build (cs := ntA ⟨1, (me : Int), -1, view, [], (el bs 0).1, pl, [], none⟩) rfl rfl rfl rfl rfl (by rfl)) rfl ?_
 refine Ch.a0 (OpS.alloc 11 rfl rfl rfl) rfl rfl (Ch.ws rfl rfl (OpS.storePA (cs := ntA nt0) (c := .agg (ntA ⟨1, (me : Int), -1, view, [], (el bs 0).1, pl, [], none⟩)) rfl rfl rfl (by exact Nat.le_refl 9)) rfl ?_)
 refine Ch.nilD ?_ (by kernel_rfl)
 refine WP.rs hG (Ch.p1 rfl (OpS.fieldAddr rfl rfl rfl rfl) rfl (Ch.q1 rfl (OpS.loadP rfl rfl rfl) rfl rfl (Ch.p1 rfl (OpS.fieldAddr rfl rfl rfl rfl) rfl (Ch.q1 rfl (OpS.loadP rfl rfl rfl) rfl rfl (Ch.mv rfl rfl (Ch.callP (fi) gdN (.cons rfl (.cons rfl (.cons rfl .nil))) (.c (.rfl _) (.c (.rfl _) (.c (.rfl _) .n))) (by rfl) rfl ?_))))))
 refine Ch.p1 rfl (OpS.fieldAddr rfl rfl rfl rfl) rfl (Ch.ws rfl rfl (OpS.storeP (cs := ntA ⟨1, (me : Int), -1, view, [], (el bs 0).1, pl, [], none⟩) rfl rfl rfl (by exact Nat.le_of_ble_eq_true rfl)) rfl ?_)
 refine Ch.nil (WP.rs hG (Ch.q1 rfl (OpS.loadPA (off := 0) (sz := 9) (cs := ntA (propN ⟨d, s, c, lost, tr, bs, vo, lk, lid, me, ks, seed, n', view, tm, prop, sg, false⟩ (el bs 0).1 pl)) rfl rfl rfl rfl (by exact Nat.le_refl 9)) rfl rfl ?_))
 refine Ch.ws rfl rfl (OpS.storePA (cs := ntA nt0) (c := .agg (ntA (propN ⟨d, s, c, lost, tr, bs, vo, lk, lid, me, ks, seed, n', view, tm, prop, sg, false⟩ (el bs 0).1 pl))) rfl rfl rfl (by exact Nat.le_refl 9)) rfl ?_
 refine Ch.asg rfl rfl (Ch.nil (WP.from (SEnt.frz (t := 4) rfl rfl) (WP.ret ?_)))
 refine (Ret.of (rs := [4, 5]) (vs := [.sptr (ntA (propN ⟨d, s, c, lost, tr, bs, vo, lk, lid, me, ks, seed, n', view, tm, prop, sg, false⟩ (el bs 0).1 pl)), .v (.bool true)]) (H' := rpH ⟨d, s, c, lost, tr, bs, vo, lk, lid, me, ks, seed, n', view, tm, view, sg, false⟩) (res := .tup [.sptr (ntA (propN ⟨d, s, c, lost, tr, bs, vo, lk, lid, me, ks, seed, n', view, tm, prop, sg, false⟩ (el bs 0).1 pl)), .v (.bool true)]) [0, 1, 2, 3, 4, 5, 6, 7, 8, 9] ?_ ?_ rfl ?_ (by simp only [List.length_cons, List.length_nil]; decide) ?_).1
 · exact na_of hnA rfl
 · (repeat (first | exact trivial | (refine ⟨⟨(by trivial), _, rfl, .rfl _⟩, ?_⟩)))
 · (repeat (first | exact trivial | refine HFromL.skip ?_ | (refine ⟨⟨(by first | trivial | (simp; first | done | fail)), (by first | rfl | (simp [renL_tbs, renL_bks, renL_vs, pend_ren]; first | done | fail))⟩, ?_⟩)))
 exact ⟨_, rfl, rfl, by simp [ls, TsOk, List.zip, List.zipWith]⟩
theorem rPropT_fc (hsha : ShaIn G) (x : Rp) (hd : x.dead = false) (i0 pl : Txt) (hb : 0 < x.bs.length) (hi : (el x.bs 0).1 = i0) (h32 : i0.length ≤ 1000) (hme : leadT x.view = x.me) (hpll : pl.length ≤ 200) (hpr : x.prop.toNat < x.view.toNat) (htr : 0 < x.tr.length ∧ x.tr.length ≤ 256) (hv0 : vwT x.tr 0 = 0) (q : Option (Nat × Value)) (m : UInt64) (cn : Int) (hvw : x.view ≠ 1) (hq : fnd (.int .u64) (.int .u64 (U64 x.view)) x.tm 0 = some q) (hqv : (match q with | some p => p.2 | none => .int .u64 0) = .int .u64 (U64 m)) (hon : FP G 60 [.v (.int .u64 (U64 m))] [] (.v (.int .i64 cn)) []) (hc : 3 ≤ cn) : FP G 29 [.ptr 2 0, sA pl] (rpH x) (.tup [.agg (ntA (propN x i0 pl)), .v (.bool true)]) (rpH { x with prop := x.view }) := by
 obtain ⟨d, s, c, lost, tr, bs, vo, lk, lid, me, ks, seed, n', view, tm, prop, sg, dead⟩ := x
 replace hd : dead = false := hd
 subst hd
 replace hi : (el bs 0).1 = i0 := hi
 replace hb : 0 < bs.length := hb
 replace hme : leadT view = me := hme
 replace hpr : prop.toNat < view.toNat := hpr
 have e1 : U64 prop = (prop.toNat : Int) := rfl
 have e2 : U64 view = (view.toNat : Int) := rfl
 subst hi
 have fl := rLead_fc (G := G) view
 have fv := tView_fc (G := G) tr 0 htr.1 htr.2
 rw [show vwT tr 0 = 0 from hv0] at fv
 replace hvw : view ≠ 1 := hvw
 replace hq : fnd (.int .u64) (.int .u64 (U64 view)) tm 0 = some q := hq
 have hsub : Value.int .u64 (IntKind.u64.wrap (U64 view - 1)) = .int .u64 (U64 (view - 1)) := by
  rw [IntKind.wrap_u64]
  refine congrArg (Value.int .u64) ?_
  show _ = ((view - 1).toNat : Int)
  rw [UInt64.toNat_sub, show (1 : UInt64).toNat = 1 from rfl]
  have := view.toNat_lt
  omega
 have hne : (U64 0 != U64 (view - 1)) = true := by
  refine bne_iff_ne.2 (U64_ne fun h => hvw ?_)
  have h2 : view - 1 + 1 = 0 + 1 := by rw [← h]
  rw [UInt64.sub_add_cancel] at h2
  exact h2
 have fi := rID_fc hsha view (el bs 0).1 pl (by omega)
 refine FC.of_wpc [(4, some 46), (5, none)] Tryz.func29 rfl rfl rfl rfl (by exact ⟨_, rfl, ⟨_, _, rfl, rfl, rfl, rfl⟩, trivial, trivial⟩) ⟨rfl, trivial, trivial⟩ (rp_bel _ blt10 _) (Nat.le_of_ble_eq_true rfl) ?_
 intro A hG hnA hAB
 unfold start
 refine WP.rs hG (Ch.a0 (OpS.alloc 10 rfl rfl rfl) rfl rfl (Ch.asg rfl rfl (Ch.nil (WP.seq (WP.block (WP.rsD (by kernel_rfl) hG (Ch.mv rfl rfl (Ch.p1 rfl (OpS.nilCheckP) rfl (Ch.p1 rfl (OpS.fieldAddr rfl rfl rfl rfl) rfl ?_)))))))))
 refine Ch.q1 rfl (OpS.loadP rfl rfl rfl) rfl rfl (Ch.mv rfl rfl (Ch.gm rfl rfl rfl rfl (Ch.g1 rfl rfl rfl (OpS.nilCheckP) rfl (Ch.g1 rfl rfl rfl (OpS.fieldAddr rfl rfl rfl rfl) rfl (Ch.pu (by exact gdT rfl rfl) (by exact ⟨rfl, trivial⟩) (OpS.loadP rfl rfl rfl) (by exact ⟨rfl, trivial⟩) rfl ?_)))))
 refine Ch.callP (fl) (gdT rfl rfl) (.cons rfl .nil) (.c (.rfl _) .n) (by rfl) rfl ?_
 refine Ch.gm rfl rfl rfl rfl (Ch.g1 rfl rfl rfl (OpS.nilCheckP) rfl (Ch.g1 rfl rfl rfl (OpS.fieldAddr rfl rfl rfl rfl) rfl (Ch.pu (by exact gdT rfl rfl) (by exact ⟨rfl, trivial⟩) (OpS.loadP rfl rfl rfl) (by exact ⟨rfl, trivial⟩) rfl ?_)))
 refine Ch.g2 rfl rfl rfl rfl (OpS.neqF (show (leadT view : Int) = (me : Int) by omega)) rfl ?_
 refine Ch.p2 rfl rfl (OpS.pickF) rfl (Ch.mv rfl rfl (Ch.gm rfl rfl rfl rfl (Ch.g1 rfl rfl rfl (OpS.lenS rfl) rfl (Ch.g2 rfl rfl rfl rfl (OpS.gtrF (by omega)) rfl ?_))))
 refine Ch.p2 rfl rfl (OpS.pickF) rfl (Ch.mv rfl rfl (Ch.gm rfl rfl rfl rfl (Ch.g1 rfl rfl rfl (OpS.nilCheckP) rfl (Ch.g1 rfl rfl rfl (OpS.fieldAddr rfl rfl rfl rfl) rfl (Ch.pu (by exact gdT rfl rfl) (by exact ⟨rfl, trivial⟩) (OpS.loadP rfl rfl rfl) (by exact ⟨rfl, trivial⟩) rfl ?_)))))
 refine Ch.gm rfl rfl rfl rfl (Ch.g1 rfl rfl rfl (OpS.nilCheckP) rfl (Ch.g1 rfl rfl rfl (OpS.fieldAddr rfl rfl rfl rfl) rfl (Ch.pu (by exact gdT rfl rfl) (by exact ⟨rfl, trivial⟩) (OpS.loadP rfl rfl rfl) (by exact ⟨rfl, trivial⟩) rfl ?_)))
 refine Ch.g2 rfl rfl rfl rfl (OpS.geqF (show ¬ U64 prop ≥ U64 view by omega)) rfl ?_
 refine Ch.p2 rfl rfl (OpS.pickF) rfl (Ch.asg rfl rfl (Ch.nilD ?_ (by kernel_rfl)))
 refine WP.cond_false rfl (WP.rsD (by kernel_rfl) hG (Ch.mv rfl rfl (Ch.p1 rfl (OpS.nilCheckP) rfl (Ch.p1 rfl (OpS.fieldAddr rfl rfl rfl rfl) rfl (Ch.p1 rfl (OpS.fieldAddr rfl rfl rfl rfl) rfl (Ch.q1 rfl (OpS.loadP rfl rfl rfl) rfl rfl (Ch.mv rfl rfl (Ch.p1 rfl (OpS.nilCheckP) rfl (Ch.p1 rfl (OpS.fieldAddr rfl rfl rfl rfl) rfl ?_)))))))))
 refine Ch.q1 rfl (OpS.loadP rfl rfl rfl) rfl rfl ?_
 refine Ch.cH (fv) [3,4] 11 gdN (.cons rfl (.cons rfl .nil)) (.c (.rfl _) (.c (.rfl _) .n)) rfl (by refine ⟨?_, ?_, ?_, ?_⟩ <;> first | ((conv => lhs; simp only [nrmA, Nat.reduceAdd, renL_tbs, renL_tb1, renL_bks, renL_b1, renL_vs, renL_v1, ren_vt, pend_ren, ren_ss]); all_goals rfl) | rfl) (by exact ⟨rfl, rfl, trivial⟩) (by exact trivial) rfl ?_
 refine Ch.mv rfl rfl (Ch.p1 rfl (OpS.nilCheckP) rfl (Ch.p1 rfl (OpS.fieldAddr rfl rfl rfl rfl) rfl (Ch.q1 rfl (OpS.loadP rfl rfl rfl) rfl rfl (Ch.p2 rfl rfl (OpS.int (op := .sub) (v' := .int .u64 (U64 (view - 1))) rfl hsub) rfl (Ch.p2 rfl rfl (OpS.int (op := .neq) (v' := .bool true) rfl (by exact congrArg Value.bool hne)) rfl ?_)))))
 refine Ch.mv rfl rfl (Ch.gm rfl rfl rfl rfl (Ch.g1 rfl rfl rfl (OpS.nilCheckP) rfl (Ch.g1 rfl rfl rfl (OpS.fieldAddr rfl rfl rfl rfl) rfl (Ch.pu (by exact gdT rfl rfl) (by exact ⟨rfl, trivial⟩) (OpS.loadP rfl rfl rfl) (by exact ⟨rfl, trivial⟩) rfl ?_))))
 refine Ch.gm rfl rfl rfl rfl (Ch.g1 rfl rfl rfl (OpS.nilCheckP) rfl (Ch.g1 rfl rfl rfl (OpS.fieldAddr rfl rfl rfl rfl) rfl (Ch.pu (by exact gdT rfl rfl) (by exact ⟨rfl, trivial⟩) (OpS.loadP rfl rfl rfl) (by exact ⟨rfl, trivial⟩) rfl ?_)))
 refine Ch.pu (by exact gdT rfl rfl) (by exact ⟨rfl, rfl, trivial⟩) (OpS.lookup (k := .int .u64 (U64 view)) (r := q) (v := .int .u64 (U64 m)) rfl rfl rfl rfl rfl hq (by cases q <;> exact hqv)) (by exact ⟨rfl, trivial⟩) rfl ?_
 refine Ch.callP (hon) (gdT rfl rfl) (.cons rfl .nil) (.c (.rfl _) .n) (by rfl) rfl ?_
 refine Ch.g2 rfl rfl rfl rfl (OpS.lssF (by omega)) rfl ?_
 refine Ch.p2 rfl rfl (OpS.pickT) rfl (Ch.asg rfl rfl (Ch.nilD ?_ (by kernel_rfl)))
 refine WP.cond_false rfl (WP.skip (WP.rs hG (Ch.mv rfl rfl (Ch.mv rfl rfl (Ch.p1 rfl (OpS.nilCheckP) rfl (Ch.p1 rfl (OpS.fieldAddr rfl rfl rfl rfl) rfl (Ch.q1 rfl (OpS.loadP rfl rfl rfl) rfl rfl (Ch.p1 rfl (OpS.nilCheckP) rfl (Ch.p1 rfl (OpS.fieldAddr rfl rfl rfl rfl) rfl ?_)))))))))
 refine Ch.ws rfl rfl (OpS.storeP (cs := rpC ⟨d, s, c, lost, tr, bs, vo, lk, lid, me, ks, seed, n', view, tm, prop, sg, false⟩ 5 9) rfl rfl rfl (by simp)) rfl ?_
 refine Ch.nil (WP.rsD (by kernel_rfl) hG (Ch.mv rfl rfl (Ch.p1 rfl (OpS.nilCheckP) rfl (Ch.p1 rfl (OpS.fieldAddr rfl rfl rfl rfl) rfl (Ch.q1 rfl (OpS.loadP rfl rfl rfl) rfl rfl (Ch.mv rfl rfl (Ch.p1 rfl (OpS.nilCheckP) rfl (Ch.p1 rfl (OpS.fieldAddr rfl rfl rfl rfl) rfl (Ch.q1 rfl (OpS.loadP rfl rfl rfl) rfl rfl ?_)))))))))
 refine Ch.mv rfl rfl (Ch.p1 rfl (OpS.nilCheckP) rfl (Ch.p1 rfl (OpS.fieldAddr rfl rfl rfl rfl) rfl (Ch.p1 rfl (OpS.fieldAddr rfl rfl rfl rfl) rfl (Ch.q1 rfl (OpS.loadP rfl rfl rfl) rfl rfl (Ch.mv rfl rfl (Ch.p1 rfl (OpS.nilCheckP) rfl (Ch.p1 rfl (OpS.fieldAddr rfl rfl rfl rfl) rfl (Ch.q1 rfl (OpS.loadP rfl rfl rfl) rfl rfl (Ch.p2 rfl rfl (OpS.indexF (j := 0) rfl rfl rfl bkA_len (by decide) rfl (by decide) (by show (0 : Int) < (bs.length : Int); omega) rfl) rfl ?_)))))))))
 refine Ch.p1 rfl (OpS.fieldAddrS rfl rfl rfl rfl rfl) rfl (Ch.p1 rfl (OpS.loadS rfl rfl) rfl (Ch.mv rfl rfl (Ch.mv rfl rfl (Ch.p1 rfl (OpS.nilCheckP) rfl (Ch.p1 rfl (OpS.fieldAddr rfl rfl rfl rfl) rfl (Ch.q1 rfl (OpS.loadP rfl rfl rfl) rfl rfl (Ch.callP (sCloneN_fc) gdN (.cons rfl .nil) (.c (.rfl _) .n) (by rfl) rfl ?_)))))))
 refine Ch.pup gdN (by repeat (first | exact EvP.nil | (apply EvP.cons; exact rfl))) (OpS.build (cs := ntA ⟨1, (me : Int), -1, view, [], (el bs 0).1, pl, [], none⟩) rfl rfl rfl rfl rfl (by rfl)) rfl ?_
 refine Ch.a0 (OpS.alloc 11 rfl rfl rfl) rfl rfl (Ch.ws rfl rfl (OpS.storePA (cs := ntA nt0) (c := .agg (ntA ⟨1, (me : Int), -1, view, [], (el bs 0).1, pl, [], none⟩)) rfl rfl rfl (by exact Nat.le_refl 9)) rfl ?_)
 refine Ch.nilD ?_ (by kernel_rfl)
 refine WP.rs hG (Ch.p1 rfl (OpS.fieldAddr rfl rfl rfl rfl) rfl (Ch.q1 rfl (OpS.loadP rfl rfl rfl) rfl rfl (Ch.p1 rfl (OpS.fieldAddr rfl rfl rfl rfl) rfl (Ch.q1 rfl (OpS.loadP rfl rfl rfl) rfl rfl (Ch.mv rfl rfl (Ch.callP (fi) gdN (.cons rfl (.cons rfl (.cons rfl .nil))) (.c (.rfl _) (.c (.rfl _) (.c (.rfl _) .n))) (by rfl) rfl ?_))))))
 refine Ch.p1 rfl (OpS.fieldAddr rfl rfl rfl rfl) rfl (Ch.ws rfl rfl (OpS.storeP (cs := ntA ⟨1, (me : Int), -1, view, [], (el bs 0).1, pl, [], none⟩) rfl rfl rfl (by exact Nat.le_of_ble_eq_true rfl)) rfl ?_)
 refine Ch.nil (WP.rs hG (Ch.q1 rfl (OpS.loadPA (off := 0) (sz := 9) (cs := ntA (propN ⟨d, s, c, lost, tr, bs, vo, lk, lid, me, ks, seed, n', view, tm, prop, sg, false⟩ (el bs 0).1 pl)) rfl rfl rfl rfl (by exact Nat.le_refl 9)) rfl rfl ?_))
 refine Ch.ws rfl rfl (OpS.storePA (cs := ntA nt0) (c := .agg (ntA (propN ⟨d, s, c, lost, tr, bs, vo, lk, lid, me, ks, seed, n', view, tm, prop, sg, false⟩ (el bs 0).1 pl))) rfl rfl rfl (by exact Nat.le_refl 9)) rfl ?_
 refine Ch.asg rfl rfl (Ch.nil (WP.from (SEnt.frz (t := 4) rfl rfl) (WP.ret ?_)))
 refine (Ret.of (rs := [4, 5]) (vs := [.sptr (ntA (propN ⟨d, s, c, lost, tr, bs, vo, lk, lid, me, ks, seed, n', view, tm, prop, sg, false⟩ (el bs 0).1 pl)), .v (.bool true)]) (H' := rpH ⟨d, s, c, lost, tr, bs, vo, lk, lid, me, ks, seed, n', view, tm, view, sg, false⟩) (res := .tup [.sptr (ntA (propN ⟨d, s, c, lost, tr, bs, vo, lk, lid, me, ks, seed, n', view, tm, prop, sg, false⟩ (el bs 0).1 pl)), .v (.bool true)]) [0, 1, 2, 3, 4, 5, 6, 7, 8, 9] ?_ ?_ rfl ?_ (by simp only [List.length_cons, List.length_nil]; decide) ?_).1
 · exact na_of hnA rfl
 · (repeat (first | exact trivial | (refine ⟨⟨(by trivial), _, rfl, .rfl _⟩, ?_⟩)))
 · (repeat (first | exact trivial | refine HFromL.skip ?_ | (refine ⟨⟨(by first | trivial | (simp; first | done | fail)), (by first | rfl | (simp [renL_tbs, renL_bks, renL_vs, pend_ren]; first | done | fail))⟩, ?_⟩)))
 exact ⟨_, rfl, rfl, by simp [ls, TsOk, List.zip, List.zipWith]⟩
theorem rPropF_fc (x : Rp) (hd : x.dead = false) (i0 pl : Txt) (hb : 0 < x.bs.length) (hi : (el x.bs 0).1 = i0) (h32 : i0.length ≤ 1000) (hme : leadT x.view = x.me) (hpll : pl.length ≤ 200) (hpr : x.prop.toNat < x.view.toNat) (htr : 0 < x.tr.length ∧ x.tr.length ≤ 256) (hv0 : vwT x.tr 0 = 0) (q : Option (Nat × Value)) (m : UInt64) (cn : Int) (hvw : x.view ≠ 1) (hq : fnd (.int .u64) (.int .u64 (U64 x.view)) x.tm 0 = some q) (hqv : (match q with | some p => p.2 | none => .int .u64 0) = .int .u64 (U64 m)) (hon : FP G 60 [.v (.int .u64 (U64 m))] [] (.v (.int .i64 cn)) []) (hc : cn < 3) : FP G 29 [.ptr 2 0, sA pl] (rpH x) (.tup [.agg (ntA nt0), .v (.bool false)]) (rpH x) := by
 obtain ⟨d, s, c, lost, tr, bs, vo, lk, lid, me, ks, seed, n', view, tm, prop, sg, dead⟩ := x
 replace hd : dead = false := hd
 subst hd
 replace hi : (el bs 0).1 = i0 := hi
 replace hb : 0 < bs.length := hb
 replace hme : leadT view = me := hme
 replace hpr : prop.toNat < view.toNat := hpr
 have e1 : U64 prop = (prop.toNat : Int) := rfl
 have e2 : U64 view = (view.toNat : Int) := rfl
 subst hi
 have fl := rLead_fc (G := G) view
 have fv := tView_fc (G := G) tr 0 htr.1 htr.2
 rw [show vwT tr 0 = 0 from hv0] at fv
 replace hvw : view ≠ 1 := hvw
 replace hq : fnd (.int .u64) (.int .u64 (U64 view)) tm 0 = some q := hq
 have hsub : Value.int .u64 (IntKind.u64.wrap (U64 view - 1)) = .int .u64 (U64 (view - 1)) := by
  rw [IntKind.wrap_u64]
  refine congrArg (Value.int .u64) ?_
  show _ = ((view - 1).toNat : Int)
  rw [UInt64.toNat_sub, show (1 : UInt64).toNat = 1 from rfl]
  have := view.toNat_lt
  omega
 have hne : (U64 0 != U64 (view - 1)) = true := by
  refine bne_iff_ne.2 (U64_ne fun h => hvw ?_)
  have h2 : view - 1 + 1 = 0 + 1 := by rw [← h]
  rw [UInt64.sub_add_cancel] at h2
  exact h2
 refine FC.of_wpc [(4, some 46), (5, none)] Tryz.func29 rfl rfl rfl rfl (by exact ⟨_, rfl, ⟨_, _, rfl, rfl, rfl, rfl⟩, trivial, trivial⟩) ⟨rfl, trivial, trivial⟩ (rp_bel _ blt10 _) (Nat.le_of_ble_eq_true rfl) ?_
 intro A hG hnA hAB
 unfold start
 refine WP.rs hG (Ch.a0 (OpS.alloc 10 rfl rfl rfl) rfl rfl (Ch.asg rfl rfl (Ch.nil (WP.seq (WP.block (WP.rsD (by kernel_rfl) hG (Ch.mv rfl rfl (Ch.p1 rfl (OpS.nilCheckP) rfl (Ch.p1 rfl (OpS.fieldAddr rfl rfl rfl rfl) rfl ?_)))))))))
 refine Ch.q1 rfl (OpS.loadP rfl rfl rfl) rfl rfl (Ch.mv rfl rfl (Ch.gm rfl rfl rfl rfl (Ch.g1 rfl rfl rfl (OpS.nilCheckP) rfl (Ch.g1 rfl rfl rfl (OpS.fieldAddr rfl rfl rfl rfl) rfl (Ch.pu (by exact gdT rfl rfl) (by exact ⟨rfl, trivial⟩) (OpS.loadP rfl rfl rfl) (by exact ⟨rfl, trivial⟩) rfl ?_)))))
 refine Ch.callP (fl) (gdT rfl rfl) (.cons rfl .nil) (.c (.rfl _) .n) (by rfl) rfl ?_
 refine Ch.gm rfl rfl rfl rfl (Ch.g1 rfl rfl rfl (OpS.nilCheckP) rfl (Ch.g1 rfl rfl rfl (OpS.fieldAddr rfl rfl rfl rfl) rfl (Ch.pu (by exact gdT rfl rfl) (by exact ⟨rfl, trivial⟩) (OpS.loadP rfl rfl rfl) (by exact ⟨rfl, trivial⟩) rfl ?_)))
 refine Ch.g2 rfl rfl rfl rfl (OpS.neqF (show (leadT view : Int) = (me : Int) by omega)) rfl ?_
 refine Ch.p2 rfl rfl (OpS.pickF) rfl (Ch.mv rfl rfl (Ch.gm rfl rfl rfl rfl (Ch.g1 rfl rfl rfl (OpS.lenS rfl) rfl (Ch.g2 rfl rfl rfl rfl (OpS.gtrF (by omega)) rfl ?_))))
 refine Ch.p2 rfl rfl (OpS.pickF) rfl (Ch.mv rfl rfl (Ch.gm rfl rfl rfl rfl (Ch.g1 rfl rfl rfl (OpS.nilCheckP) rfl (Ch.g1 rfl rfl rfl (OpS.fieldAddr rfl rfl rfl rfl) rfl (Ch.pu (by exact gdT rfl rfl) (by exact ⟨rfl, trivial⟩) (OpS.loadP rfl rfl rfl) (by exact ⟨rfl, trivial⟩) rfl ?_)))))
 refine Ch.gm rfl rfl rfl rfl (Ch.g1 rfl rfl rfl (OpS.nilCheckP) rfl (Ch.g1 rfl rfl rfl (OpS.fieldAddr rfl rfl rfl rfl) rfl (Ch.pu (by exact gdT rfl rfl) (by exact ⟨rfl, trivial⟩) (OpS.loadP rfl rfl rfl) (by exact ⟨rfl, trivial⟩) rfl ?_)))
 refine Ch.g2 rfl rfl rfl rfl (OpS.geqF (show ¬ U64 prop ≥ U64 view by omega)) rfl ?_
 refine Ch.p2 rfl rfl (OpS.pickF) rfl (Ch.asg rfl rfl (Ch.nilD ?_ (by kernel_rfl)))
 refine WP.cond_false rfl (WP.rsD (by kernel_rfl) hG (Ch.mv rfl rfl (Ch.p1 rfl (OpS.nilCheckP) rfl (Ch.p1 rfl (OpS.fieldAddr rfl rfl rfl rfl) rfl (Ch.p1 rfl (OpS.fieldAddr rfl rfl rfl rfl) rfl (Ch.q1 rfl (OpS.loadP rfl rfl rfl) rfl rfl (Ch.mv rfl rfl (Ch.p1 rfl (OpS.nilCheckP) rfl (Ch.p1 rfl (OpS.fieldAddr rfl rfl rfl rfl) rfl ?_)))))))))
 refine Ch.q1 rfl (OpS.loadP rfl rfl rfl) rfl rfl ?_
 refine Ch.cH (fv) [3,4] 11 gdN (.cons rfl (.cons rfl .nil)) (.c (.rfl _) (.c (.rfl _) .n)) rfl (by refine ⟨?_, ?_, ?_, ?_⟩ <;> first | ((conv => lhs; simp only [nrmA, Nat.reduceAdd, renL_tbs, renL_tb1, renL_bks, renL_b1, renL_vs, renL_v1, ren_vt, pend_ren, ren_ss]); all_goals rfl) | rfl) (by exact ⟨rfl, rfl, trivial⟩) (by exact trivial) rfl ?_
 refine Ch.mv rfl rfl (Ch.p1 rfl (OpS.nilCheckP) rfl (Ch.p1 rfl (OpS.fieldAddr rfl rfl rfl rfl) rfl (Ch.q1 rfl (OpS.loadP rfl rfl rfl) rfl rfl (Ch.p2 rfl rfl (OpS.int (op := .sub) (v' := .int .u64 (U64 (view - 1))) rfl hsub) rfl (Ch.p2 rfl rfl (OpS.int (op := .neq) (v' := .bool true) rfl (by exact congrArg Value.bool hne)) rfl ?_)))))
 refine Ch.mv rfl rfl (Ch.gm rfl rfl rfl rfl (Ch.g1 rfl rfl rfl (OpS.nilCheckP) rfl (Ch.g1 rfl rfl rfl (OpS.fieldAddr rfl rfl rfl rfl) rfl (Ch.pu (by exact gdT rfl rfl) (by exact ⟨rfl, trivial⟩) (OpS.loadP rfl rfl rfl) (by exact ⟨rfl, trivial⟩) rfl ?_))))
 refine Ch.gm rfl rfl rfl rfl (Ch.g1 rfl rfl rfl (OpS.nilCheckP) rfl (Ch.g1 rfl rfl rfl (OpS.fieldAddr rfl rfl rfl rfl) rfl (Ch.pu (by exact gdT rfl rfl) (by exact ⟨rfl, trivial⟩) (OpS.loadP rfl rfl rfl) (by exact ⟨rfl, trivial⟩) rfl ?_)))
 refine Ch.pu (by exact gdT rfl rfl) (by exact ⟨rfl, rfl, trivial⟩) (OpS.lookup (k := .int .u64 (U64 view)) (r := q) (v := .int .u64 (U64 m)) rfl rfl rfl rfl rfl hq (by cases q <;> exact hqv)) (by exact ⟨rfl, trivial⟩) rfl ?_
 refine Ch.callP (hon) (gdT rfl rfl) (.cons rfl .nil) (.c (.rfl _) .n) (by rfl) rfl ?_
 refine Ch.g2 rfl rfl rfl rfl (OpS.lssT (by omega)) rfl ?_
 refine Ch.p2 rfl rfl (OpS.pickT) rfl (Ch.asg rfl rfl (Ch.nilD ?_ (by kernel_rfl)))
 refine WP.cond_true rfl (WP.rs hG (Ch.pup gdN (by repeat (first | exact EvP.nil | (apply EvP.cons; exact rfl))) (OpS.build (cs := ntA nt0) rfl rfl rfl rfl rfl (by rfl)) rfl ?_))
 refine Ch.ws rfl rfl (OpS.storePA (cs := ntA nt0) (c := .agg (ntA nt0)) rfl rfl rfl (by exact Nat.le_refl 9)) rfl ?_
 refine Ch.asg rfl rfl (Ch.nil (WP.from (SEnt.frz (t := 4) rfl rfl) (WP.ret ?_)))
 refine (Ret.of (rs := [4, 5]) (vs := [.sptr (ntA nt0), .v (.bool false)]) (H' := rpH ⟨d, s, c, lost, tr, bs, vo, lk, lid, me, ks, seed, n', view, tm, prop, sg, false⟩) (res := .tup [.sptr (ntA nt0), .v (.bool false)]) [0, 1, 2, 3, 4, 5, 6, 7, 8, 9] ?_ ?_ rfl ?_ (by simp only [List.length_cons, List.length_nil]; decide) ?_).1
 · exact na_of hnA rfl
 · (repeat (first | exact trivial | (refine ⟨⟨(by trivial), _, rfl, .rfl _⟩, ?_⟩)))
 · (repeat (first | exact trivial | refine HFromL.skip ?_ | (refine ⟨⟨(by first | trivial | (simp; first | done | fail)), (by first | rfl | (simp [renL_tbs, renL_bks, renL_vs, pend_ren]; first | done | fail))⟩, ?_⟩)))
 exact ⟨_, rfl, rfl, by simp [ls, TsOk, List.zip, List.zipWith]⟩
end
end Go.Proofs.YtpnbpcopdckgpaaGreatDoor.E
