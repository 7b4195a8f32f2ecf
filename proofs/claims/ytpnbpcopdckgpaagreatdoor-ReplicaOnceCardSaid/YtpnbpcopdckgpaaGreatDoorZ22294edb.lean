import Derived.Test.YtpnbpcopdckgpaaGreatDoorZ21840745
import Derived.Test.YtpnbpcopdckgpaaGreatDoorZ7a091fc5
import Derived.Test.YtpnbpcopdckgpaaGreatDoorZa6369017
import Derived.Test.YtpnbpcopdckgpaaGreatDoorZ55edb3f0
import Derived.Test.YtpnbpcopdckgpaaGreatDoorZa48715c1
import Derived.Test.YtpnbpcopdckgpaaGreatDoorZ32eb6be3
section
namespace Go.Proofs.YtpnbpcopdckgpaaGreatDoor.E
open Go Go.RowKit Go.Proofs.YtpnbpcopdckgpaaGreatDoor.V
set_option maxRecDepth 4000
set_option maxRecDepth 4000
--NRM renL_tbs, renL_tb1, renL_bks, renL_b1, renL_vs, renL_v1, ren_vt, pend_ren, ren_ss
def lkT (x : Rp) (b : Nat) : Nat := if (vwT x.tr x.lk).toNat < (vwT x.tr (gpT x.tr b)).toNat then gpT x.tr b else x.lk
theorem lkT_lt {x : Rp} (hw : WfT x.tr) {b : Nat} (hb : b < x.tr.length) (hk : x.lk < x.tr.length) : lkT x b < x.tr.length := by
 unfold lkT
 split
 · exact (hw.pr_lt (hw.pr_lt hb).1).1
 · exact hk
theorem may_lt {l : List TB} {vo : UInt64} {lk b : Nat} (h : mayT l vo lk b = true) : ¬ (vwT l b).toNat ≤ vo.toNat := fun h2 => by
 rw [may_f h2] at h
 cases h
theorem ofN_succ (n : Nat) (h : n ≤ 1000) : Value.int .u64 (IntKind.u64.wrap ((n + 1 : Nat) : Int)) = .int .u64 (U64 (UInt64.ofNat (n + 1))) := by
 rw [IntKind.wrap_u64]
 unfold U64
 rw [UInt64.toNat_ofNat']
 exact congrArg (Value.int .u64) (by omega)
attribute [local irreducible] sum tag input beS rdNum rdText leavesT f64 tb sigT firstT leadT mayT lkT recT
section
variable {G : List (Nat × Array Value)}
theorem rCastD_fc (x : Rp) (hw : WfT x.tr) (b : Nat) (hb : b < x.tr.length) (hk : x.lk < x.tr.length) (n : Nt) (h : ¬ n.view.toNat < x.view.toNat) (hn : x.n < 32) (hm : mayT x.tr x.vo x.lk b = true) (hbl : x.bs.length = x.tr.length)
  (lk : Txt) (hlk : (el x.bs (lkT x b)).1 = lk) (h200 : lk.length ≤ 200) (d' : Dk) (s' : Txt) (c' : UInt64) (lo' : Bool)
  (hsv : FP G 137 [.ptr 1 0, sA (recT n.view (x.n + 1) lk)] (djH x.d x.s x.c x.lost) (.v (.int .i64 120)) (djH d' s' c' lo')) :
  FP G 98 [.ptr 2 0, .v (.int .i64 (b : Int)), .agg (ntA n)] (rpH x) (.tup [.agg (ntA nt0), .v (.bool false)]) (rpH { x with d := d', s := s', c := c', lost := lo', dead := true }) := by
 have e1 : U64 n.view = (n.view.toNat : Int) := rfl
 have e2 : U64 x.view = (x.view.toNat : Int) := rfl
 have hl := hw.le
 have fs := sgSpent_fc (G := G) x.seed 5 x.n (leavesT x.seed 5)
 have fm := tMay_fc (G := G) x.tr hw x.vo x.lk b hk hb
 rw [hm] at fm
 have fa := tAfter_fc (G := G) x.tr hw x.vo x.lk b hk hb (may_lt hm)
 rw [show (if (vwT x.tr x.lk).toNat < (vwT x.tr (gpT x.tr b)).toNat then gpT x.tr b else x.lk) = lkT x b from by with_unfolding_all rfl] at fa
 have hkl := lkT_lt hw hb hk
 have fr := recStr_fc (G := G) n.view (x.n + 1) lk h200
 refine FC.of_wpc [(6, some 46), (7, none)] Tryz.func98 rfl rfl rfl rfl (by exact ⟨_, rfl, ⟨_, _, rfl, rfl, rfl, rfl⟩, trivial, trivial⟩) ⟨rfl, trivial, nt_bel _ n, trivial⟩ (rp_bel _ blt10 x) (Nat.le_of_ble_eq_true rfl) ?_
 intro A hG hnA hAB
 unfold start
 refine WP.rs hG (Ch.p1 rfl (OpS.boxS) rfl (Ch.a0 (OpS.alloc 10 rfl rfl rfl) rfl rfl (Ch.asg rfl rfl (Ch.nil (WP.seq (WP.block (WP.rsD (by kernel_rfl) hG (Ch.p1 rfl (OpS.fieldAddrS rfl rfl rfl rfl rfl) rfl (Ch.p1 rfl (OpS.loadS rfl rfl) rfl ?_)))))))))
 refine Ch.mv rfl rfl (Ch.p1 rfl (OpS.nilCheckP) rfl (Ch.p1 rfl (OpS.fieldAddr rfl rfl rfl rfl) rfl (Ch.q1 rfl (OpS.loadP rfl rfl rfl) rfl rfl (Ch.p2 rfl rfl (OpS.lssF (by omega)) rfl ?_))))
 refine Ch.asg rfl rfl (Ch.nilD ?_ (by kernel_rfl))
 refine WP.cond_false rfl (WP.rs hG (Ch.mv rfl rfl (Ch.p1 rfl (OpS.nilCheckP) rfl (Ch.p1 rfl (OpS.fieldAddr rfl rfl rfl rfl) rfl (Ch.q1 rfl (OpS.loadP rfl rfl rfl) rfl rfl ?_)))))
 refine Ch.cH (fs) [6,7] 11 gdN (.cons rfl .nil) (.c (.rfl _) .n) rfl (by refine ⟨?_, ?_, ?_, ?_⟩ <;> first | ((conv => lhs; simp only [nrmA, Nat.reduceAdd, renL_tbs, renL_tb1, renL_bks, renL_b1, renL_vs, renL_v1, ren_vt, pend_ren, ren_ss]); all_goals rfl) | rfl) (by exact ⟨rfl, rfl, trivial⟩) (by exact trivial) rfl ?_
 refine Ch.p2 rfl rfl (OpS.geqF (by omega)) rfl ?_
 refine Ch.asg rfl rfl (Ch.nil (WP.cond_false rfl (WP.rsD (by kernel_rfl) hG (Ch.mv rfl rfl (Ch.p1 rfl (OpS.nilCheckP) rfl (Ch.p1 rfl (OpS.fieldAddr rfl rfl rfl rfl) rfl (Ch.p1 rfl (OpS.fieldAddr rfl rfl rfl rfl) rfl (Ch.q1 rfl (OpS.loadP rfl rfl rfl) rfl rfl (Ch.mv rfl rfl ?_)))))))))
 refine Ch.p1 rfl (OpS.nilCheckP) rfl (Ch.p1 rfl (OpS.fieldAddr rfl rfl rfl rfl) rfl (Ch.p1 rfl (OpS.fieldAddr rfl rfl rfl rfl) rfl (Ch.q1 rfl (OpS.loadPA (off := 2) (sz := 2) (cs := rpC x 5 9) rfl rfl rfl rfl (by exact Nat.le_of_ble_eq_true rfl)) rfl rfl ?_)))
 refine Ch.mv rfl rfl ?_
 refine Ch.cH (fm) [3,4] 11 gdN (.cons rfl (.cons rfl (.cons rfl .nil))) (.c (.rfl _) (.c (.rfl _) (.c (.rfl _) .n))) rfl (by refine ⟨?_, ?_, ?_, ?_⟩ <;> first | ((conv => lhs; simp only [nrmA, Nat.reduceAdd, renL_tbs, renL_tb1, renL_bks, renL_b1, renL_vs, renL_v1, ren_vt, pend_ren, ren_ss]); all_goals rfl) | rfl) (by exact ⟨rfl, rfl, trivial⟩) (by exact trivial) rfl ?_
 refine Ch.p1 rfl (OpS.not) rfl (Ch.asg rfl rfl (Ch.nilD ?_ (by kernel_rfl)))
 refine WP.cond_false rfl (WP.skip (WP.rsD (by kernel_rfl) hG (Ch.mv rfl rfl (Ch.p1 rfl (OpS.nilCheckP) rfl (Ch.p1 rfl (OpS.fieldAddr rfl rfl rfl rfl) rfl (Ch.p1 rfl (OpS.fieldAddr rfl rfl rfl rfl) rfl (Ch.q1 rfl (OpS.loadP rfl rfl rfl) rfl rfl (Ch.mv rfl rfl (Ch.p1 rfl (OpS.nilCheckP) rfl ?_)))))))))
 refine Ch.p1 rfl (OpS.fieldAddr rfl rfl rfl rfl) rfl (Ch.p1 rfl (OpS.fieldAddr rfl rfl rfl rfl) rfl (Ch.q1 rfl (OpS.loadPA (off := 2) (sz := 2) (cs := rpC x 5 9) rfl rfl rfl rfl (by exact Nat.le_of_ble_eq_true rfl)) rfl rfl ?_))
 refine Ch.mv rfl rfl ?_
 refine Ch.cH (fa) [3,4] 11 gdN (.cons rfl (.cons rfl (.cons rfl .nil))) (.c (.rfl _) (.c (.rfl _) (.c (.rfl _) .n))) rfl (by refine ⟨?_, ?_, ?_, ?_⟩ <;> first | ((conv => lhs; simp only [nrmA, Nat.reduceAdd, renL_tbs, renL_tb1, renL_bks, renL_b1, renL_vs, renL_v1, ren_vt, pend_ren, ren_ss]); all_goals rfl) | rfl) (by exact ⟨rfl, rfl, trivial⟩) (by exact trivial) rfl ?_
 refine Ch.a0 (OpS.alloc 11 rfl rfl rfl) rfl rfl (Ch.ws rfl rfl (OpS.storePA (cs := [.v (.int .u64 0), .v (.int .i64 0)]) (c := .agg [.v (.int .u64 (U64 (vwT x.tr b))), .v (.int .i64 (lkT x b : Int))]) rfl rfl rfl (by exact Nat.le_refl 2)) rfl ?_)
 refine Ch.nilD ?_ (by kernel_rfl)
 refine WP.rsD (by kernel_rfl) hG (Ch.p1 rfl (OpS.fieldAddrS rfl rfl rfl rfl rfl) rfl (Ch.p1 rfl (OpS.loadS rfl rfl) rfl (Ch.mv rfl rfl (Ch.p1 rfl (OpS.nilCheckP) rfl (Ch.p1 rfl (OpS.fieldAddr rfl rfl rfl rfl) rfl (Ch.q1 rfl (OpS.loadP rfl rfl rfl) rfl rfl ?_))))))
 refine Ch.cH (fs) [6,7] 12 gdN (.cons rfl .nil) (.c (.rfl _) .n) rfl (by refine ⟨?_, ?_, ?_, ?_⟩ <;> first | ((conv => lhs; simp only [nrmA, Nat.reduceAdd, renL_tbs, renL_tb1, renL_bks, renL_b1, renL_vs, renL_v1, ren_vt, pend_ren, ren_ss]); all_goals rfl) | rfl) (by exact ⟨rfl, rfl, trivial⟩) (by exact trivial) rfl ?_
 refine Ch.p2 rfl rfl (OpS.int (op := .add) (v' := .int .i64 ((x.n + 1 : Nat) : Int)) rfl (by rw [wr64 (by omega)]; exact congrArg (Value.int .i64) (by omega))) rfl ?_
 refine Ch.p1 rfl (OpS.conv (v := .int .u64 (U64 (UInt64.ofNat (x.n + 1)))) rfl rfl (ofN_succ x.n (by omega))) rfl ?_
 refine Ch.mv rfl rfl (Ch.p1 rfl (OpS.nilCheckP) rfl (Ch.p1 rfl (OpS.fieldAddr rfl rfl rfl rfl) rfl (Ch.p1 rfl (OpS.fieldAddr rfl rfl rfl rfl) rfl (Ch.q1 rfl (OpS.loadP rfl rfl rfl) rfl rfl (Ch.p1 rfl (OpS.fieldAddr rfl rfl rfl rfl) rfl (Ch.q1 rfl (OpS.loadP rfl rfl rfl) rfl rfl (Ch.p2 rfl rfl (OpS.indexF rfl rfl rfl bkA_len (by decide) (Int.toNat_natCast _) (by omega) (by omega) rfl) rfl ?_)))))))
 refine Ch.p1 rfl (OpS.fieldAddrS rfl rfl rfl rfl rfl) rfl (Ch.p1 rfl (OpS.loadS rfl rfl) rfl (Ch.pup gdN (by repeat (first | exact EvP.nil | (apply EvP.cons; exact rfl))) (OpS.build (cs := [.v (.int .u64 (U64 n.view)), .v (.int .u64 (U64 (UInt64.ofNat (x.n + 1)))), sA (el x.bs (lkT x b)).1]) rfl rfl rfl rfl rfl (by rfl)) rfl ?_))
 refine Ch.a0 (OpS.alloc 12 rfl rfl rfl) rfl rfl (Ch.ws rfl rfl (OpS.storePA (cs := [.v (.int .u64 0), .v (.int .u64 0), sA []]) (c := .agg [.v (.int .u64 (U64 n.view)), .v (.int .u64 (U64 (UInt64.ofNat (x.n + 1)))), sA (el x.bs (lkT x b)).1]) rfl rfl rfl (by exact Nat.le_refl 3)) rfl ?_)
 refine Ch.nilD ?_ (by kernel_rfl)
 refine WP.seq ?_
 rw [hlk]
 refine WP.rsD (by kernel_rfl) hG (Ch.mv rfl rfl (Ch.p1 rfl (OpS.nilCheckP) rfl (Ch.p1 rfl (OpS.fieldAddr rfl rfl rfl rfl) rfl (Ch.q1 rfl (OpS.loadP rfl rfl rfl) rfl rfl (Ch.q1 rfl (OpS.loadPA (off := 0) (sz := 3) (cs := [.v (.int .u64 (U64 n.view)), .v (.int .u64 (U64 (UInt64.ofNat (x.n + 1)))), sA lk]) rfl rfl rfl rfl (by exact Nat.le_refl 3)) rfl rfl ?_)))))
 refine Ch.callP (fr) gdN (.cons rfl .nil) (.c (.rfl _) .n) (by rfl) rfl ?_
 refine Ch.cH (hsv) [0,1] 13 gdN (.cons rfl (.cons rfl .nil)) (.c (.rfl _) (.c (.rfl _) .n)) rfl (by refine ⟨?_, ?_, ?_, ?_⟩ <;> first | ((conv => lhs; simp only [nrmA, Nat.reduceAdd, renL_tbs, renL_tb1, renL_bks, renL_b1, renL_vs, renL_v1, ren_vt, pend_ren, ren_ss]); all_goals rfl) | rfl) (by exact ⟨rfl, rfl, trivial⟩) (by exact trivial) rfl ?_
 refine Ch.p2 rfl rfl (OpS.int (op := .neq) (v' := .bool true) rfl rfl) rfl (Ch.nilD ?_ (by kernel_rfl))
 refine WP.cond_true rfl (WP.rs hG (Ch.mv rfl rfl (Ch.p1 rfl (OpS.nilCheckP) rfl (Ch.p1 rfl (OpS.fieldAddr rfl rfl rfl rfl) rfl (Ch.ws rfl rfl (OpS.storeP (cs := rpC x 5 9) rfl rfl rfl (by simp)) rfl ?_)))))
 refine Ch.nil (WP.rs hG (Ch.pup gdN (by repeat (first | exact EvP.nil | (apply EvP.cons; exact rfl))) (OpS.build (cs := ntA nt0) rfl rfl rfl rfl rfl (by rfl)) rfl ?_))
 refine Ch.ws rfl rfl (OpS.storePA (cs := ntA nt0) (c := .agg (ntA nt0)) rfl rfl rfl (by exact Nat.le_refl 9)) rfl ?_
 refine Ch.asg rfl rfl (Ch.nil (WP.from (SEnt.frz (t := 6) rfl rfl) (WP.ret ?_)))
 refine (Ret.of (rs := [6, 7]) (vs := [.sptr (ntA nt0), .v (.bool false)]) (H' := rpH { x with d := d', s := s', c := c', lost := lo', dead := true }) (res := .tup [.sptr (ntA nt0), .v (.bool false)]) [0, 1, 2, 3, 4, 5, 6, 7, 8, 9] ?_ ?_ rfl ?_ (by simp only [List.length_cons, List.length_nil]; decide) ?_).1
 · exact na_of hnA rfl
 · (repeat (first | exact trivial | (refine And.intro ⟨(by trivial), _, rfl, .rfl _⟩ ?_)))
 · (repeat (first | exact trivial | refine HFromL.skip ?_ | (refine And.intro ⟨(by first | trivial | (simp; first | done | fail)), (by first | rfl | (simp [renL_tbs, renL_bks, renL_vs, pend_ren]; first | done | fail))⟩ ?_)))
 · exact ⟨_, rfl, rfl, by simp [ls, TsOk, List.zip, List.zipWith]⟩
theorem rCastY_fc (hsha : ShaIn G) (x : Rp) (hw : WfT x.tr) (b : Nat) (hb : b < x.tr.length) (hk : x.lk < x.tr.length) (n : Nt) (h : ¬ n.view.toNat < x.view.toNat) (hv : n.view.toNat ≤ 4611686018427387904) (hn : x.n < 32) (hm : mayT x.tr x.vo x.lk b = true) (hbl : x.bs.length = x.tr.length)
  (lk : Txt) (hlk : (el x.bs (lkT x b)).1 = lk) (h200 : lk.length ≤ 200) (hid : n.id.length ≤ 1000000) (hsg : x.sg.length ≤ 1000000) (hsd : x.seed.length ≤ 140737488355264) (d' : Dk) (s' : Txt) (c' : UInt64) (lo' : Bool)
  (hsv : FP G 137 [.ptr 1 0, sA (recT n.view (x.n + 1) lk)] (djH x.d x.s x.c x.lost) (.v (.int .i64 0)) (djH d' s' c' lo')) :
  FP G 98 [.ptr 2 0, .v (.int .i64 (b : Int)), .agg (ntA n)] (rpH x) (.tup [.agg (ntA (voteN x n)), .v (.bool true)]) (rpS { x with d := d', s := s', c := c', lost := lo', vo := vwT x.tr b, lk := lkT x b, lid := lk, n := x.n + 1, sg := x.sg ++ [ballotT n.id], view := n.view + 1 }) := by
 have e1 : U64 n.view = (n.view.toNat : Int) := rfl
 have e2 : U64 x.view = (x.view.toNat : Int) := rfl
 have e3 := succ_nat hv
 have hl := hw.le
 have fs := sgSpent_fc (G := G) x.seed 5 x.n (leavesT x.seed 5)
 have fm := tMay_fc (G := G) x.tr hw x.vo x.lk b hk hb
 rw [hm] at fm
 have fa := tAfter_fc (G := G) x.tr hw x.vo x.lk b hk hb (may_lt hm)
 rw [show (if (vwT x.tr x.lk).toNat < (vwT x.tr (gpT x.tr b)).toNat then gpT x.tr b else x.lk) = lkT x b from by with_unfolding_all rfl] at fa
 have hkl := lkT_lt hw hb hk
 have fr := recStr_fc (G := G) n.view (x.n + 1) lk h200
 have fb := rBallot_fc (G := G) n.id (by omega)
 have hbal : (ballotT n.id).length = n.id.length + 1 := rfl
 have fg := sgSign_fc hsha x.seed 5 x.n (by decide) (ballotT n.id) (by simpa using hn) hsd (by omega)
 have fl := rLead_fc (G := G) (n.view + 1)
 have eS : x.sg.length + 1 = (x.sg ++ [ballotT n.id]).length := by simp
 have eM : x.sg.map sA ++ [sA (ballotT n.id)] = (x.sg ++ [ballotT n.id]).map sA := by simp
 have fgo := rGoes_fc (G := G) { x with d := d', s := s', c := c', lost := lo', vo := vwT x.tr b, lk := lkT x b, lid := lk, n := x.n + 1, sg := x.sg ++ [ballotT n.id] } (n.view + 1) (n.view + 1) (max_r (by show x.view.toNat ≤ _; omega))
 refine FC.of_wpc [(6, some 46), (7, none)] Tryz.func98 rfl rfl rfl rfl (by exact ⟨_, rfl, ⟨_, _, rfl, rfl, rfl, rfl⟩, trivial, trivial⟩) ⟨rfl, trivial, nt_bel _ n, trivial⟩ (rp_bel _ blt10 x) (Nat.le_of_ble_eq_true rfl) ?_
 intro A hG hnA hAB
 unfold start
 refine WP.rs hG (Ch.p1 rfl (OpS.boxS) rfl (Ch.a0 (OpS.alloc 10 rfl rfl rfl) rfl rfl (Ch.asg rfl rfl (Ch.nil (WP.seq (WP.block (WP.rsD (by kernel_rfl) hG (Ch.p1 rfl (OpS.fieldAddrS rfl rfl rfl rfl rfl) rfl (Ch.p1 rfl (OpS.loadS rfl rfl) rfl ?_)))))))))
 refine Ch.mv rfl rfl (Ch.p1 rfl (OpS.nilCheckP) rfl (Ch.p1 rfl (OpS.fieldAddr rfl rfl rfl rfl) rfl (Ch.q1 rfl (OpS.loadP rfl rfl rfl) rfl rfl (Ch.p2 rfl rfl (OpS.lssF (by omega)) rfl ?_))))
 refine Ch.asg rfl rfl (Ch.nilD ?_ (by kernel_rfl))
 refine WP.cond_false rfl (WP.rs hG (Ch.mv rfl rfl (Ch.p1 rfl (OpS.nilCheckP) rfl (Ch.p1 rfl (OpS.fieldAddr rfl rfl rfl rfl) rfl (Ch.q1 rfl (OpS.loadP rfl rfl rfl) rfl rfl ?_)))))
 refine Ch.cH (fs) [6,7] 11 gdN (.cons rfl .nil) (.c (.rfl _) .n) rfl (by refine ⟨?_, ?_, ?_, ?_⟩ <;> first | ((conv => lhs; simp only [nrmA, Nat.reduceAdd, renL_tbs, renL_tb1, renL_bks, renL_b1, renL_vs, renL_v1, ren_vt, pend_ren, ren_ss]); all_goals rfl) | rfl) (by exact ⟨rfl, rfl, trivial⟩) (by exact trivial) rfl ?_
 refine Ch.p2 rfl rfl (OpS.geqF (by omega)) rfl ?_
 refine Ch.asg rfl rfl (Ch.nil (WP.cond_false rfl (WP.rsD (by kernel_rfl) hG (Ch.mv rfl rfl (Ch.p1 rfl (OpS.nilCheckP) rfl (Ch.p1 rfl (OpS.fieldAddr rfl rfl rfl rfl) rfl (Ch.p1 rfl (OpS.fieldAddr rfl rfl rfl rfl) rfl (Ch.q1 rfl (OpS.loadP rfl rfl rfl) rfl rfl (Ch.mv rfl rfl ?_)))))))))
 refine Ch.p1 rfl (OpS.nilCheckP) rfl (Ch.p1 rfl (OpS.fieldAddr rfl rfl rfl rfl) rfl (Ch.p1 rfl (OpS.fieldAddr rfl rfl rfl rfl) rfl (Ch.q1 rfl (OpS.loadPA (off := 2) (sz := 2) (cs := rpC x 5 9) rfl rfl rfl rfl (by exact Nat.le_of_ble_eq_true rfl)) rfl rfl ?_)))
 refine Ch.mv rfl rfl ?_
 refine Ch.cH (fm) [3,4] 11 gdN (.cons rfl (.cons rfl (.cons rfl .nil))) (.c (.rfl _) (.c (.rfl _) (.c (.rfl _) .n))) rfl (by refine ⟨?_, ?_, ?_, ?_⟩ <;> first | ((conv => lhs; simp only [nrmA, Nat.reduceAdd, renL_tbs, renL_tb1, renL_bks, renL_b1, renL_vs, renL_v1, ren_vt, pend_ren, ren_ss]); all_goals rfl) | rfl) (by exact ⟨rfl, rfl, trivial⟩) (by exact trivial) rfl ?_
 refine Ch.p1 rfl (OpS.not) rfl (Ch.asg rfl rfl (Ch.nilD ?_ (by kernel_rfl)))
 refine WP.cond_false rfl (WP.skip (WP.rsD (by kernel_rfl) hG (Ch.mv rfl rfl (Ch.p1 rfl (OpS.nilCheckP) rfl (Ch.p1 rfl (OpS.fieldAddr rfl rfl rfl rfl) rfl (Ch.p1 rfl (OpS.fieldAddr rfl rfl rfl rfl) rfl (Ch.q1 rfl (OpS.loadP rfl rfl rfl) rfl rfl (Ch.mv rfl rfl (Ch.p1 rfl (OpS.nilCheckP) rfl ?_)))))))))
 refine Ch.p1 rfl (OpS.fieldAddr rfl rfl rfl rfl) rfl (Ch.p1 rfl (OpS.fieldAddr rfl rfl rfl rfl) rfl (Ch.q1 rfl (OpS.loadPA (off := 2) (sz := 2) (cs := rpC x 5 9) rfl rfl rfl rfl (by exact Nat.le_of_ble_eq_true rfl)) rfl rfl ?_))
 refine Ch.mv rfl rfl ?_
 refine Ch.cH (fa) [3,4] 11 gdN (.cons rfl (.cons rfl (.cons rfl .nil))) (.c (.rfl _) (.c (.rfl _) (.c (.rfl _) .n))) rfl (by refine ⟨?_, ?_, ?_, ?_⟩ <;> first | ((conv => lhs; simp only [nrmA, Nat.reduceAdd, renL_tbs, renL_tb1, renL_bks, renL_b1, renL_vs, renL_v1, ren_vt, pend_ren, ren_ss]); all_goals rfl) | rfl) (by exact ⟨rfl, rfl, trivial⟩) (by exact trivial) rfl ?_
 refine Ch.a0 (OpS.alloc 11 rfl rfl rfl) rfl rfl (Ch.ws rfl rfl (OpS.storePA (cs := [.v (.int .u64 0), .v (.int .i64 0)]) (c := .agg [.v (.int .u64 (U64 (vwT x.tr b))), .v (.int .i64 (lkT x b : Int))]) rfl rfl rfl (by exact Nat.le_refl 2)) rfl ?_)
 refine Ch.nilD ?_ (by kernel_rfl)
 refine WP.rsD (by kernel_rfl) hG (Ch.p1 rfl (OpS.fieldAddrS rfl rfl rfl rfl rfl) rfl (Ch.p1 rfl (OpS.loadS rfl rfl) rfl (Ch.mv rfl rfl (Ch.p1 rfl (OpS.nilCheckP) rfl (Ch.p1 rfl (OpS.fieldAddr rfl rfl rfl rfl) rfl (Ch.q1 rfl (OpS.loadP rfl rfl rfl) rfl rfl ?_))))))
 refine Ch.cH (fs) [6,7] 12 gdN (.cons rfl .nil) (.c (.rfl _) .n) rfl (by refine ⟨?_, ?_, ?_, ?_⟩ <;> first | ((conv => lhs; simp only [nrmA, Nat.reduceAdd, renL_tbs, renL_tb1, renL_bks, renL_b1, renL_vs, renL_v1, ren_vt, pend_ren, ren_ss]); all_goals rfl) | rfl) (by exact ⟨rfl, rfl, trivial⟩) (by exact trivial) rfl ?_
 refine Ch.p2 rfl rfl (OpS.int (op := .add) (v' := .int .i64 ((x.n + 1 : Nat) : Int)) rfl (by rw [wr64 (by omega)]; exact congrArg (Value.int .i64) (by omega))) rfl ?_
 refine Ch.p1 rfl (OpS.conv (v := .int .u64 (U64 (UInt64.ofNat (x.n + 1)))) rfl rfl (ofN_succ x.n (by omega))) rfl ?_
 refine Ch.mv rfl rfl (Ch.p1 rfl (OpS.nilCheckP) rfl (Ch.p1 rfl (OpS.fieldAddr rfl rfl rfl rfl) rfl (Ch.p1 rfl (OpS.fieldAddr rfl rfl rfl rfl) rfl (Ch.q1 rfl (OpS.loadP rfl rfl rfl) rfl rfl (Ch.p1 rfl (OpS.fieldAddr rfl rfl rfl rfl) rfl (Ch.q1 rfl (OpS.loadP rfl rfl rfl) rfl rfl (Ch.p2 rfl rfl (OpS.indexF rfl rfl rfl bkA_len (by decide) (Int.toNat_natCast _) (by omega) (by omega) rfl) rfl ?_)))))))
 refine Ch.p1 rfl (OpS.fieldAddrS rfl rfl rfl rfl rfl) rfl (Ch.p1 rfl (OpS.loadS rfl rfl) rfl (Ch.pup gdN (by repeat (first | exact EvP.nil | (apply EvP.cons; exact rfl))) (OpS.build (cs := [.v (.int .u64 (U64 n.view)), .v (.int .u64 (U64 (UInt64.ofNat (x.n + 1)))), sA (el x.bs (lkT x b)).1]) rfl rfl rfl rfl rfl (by rfl)) rfl ?_))
 refine Ch.a0 (OpS.alloc 12 rfl rfl rfl) rfl rfl (Ch.ws rfl rfl (OpS.storePA (cs := [.v (.int .u64 0), .v (.int .u64 0), sA []]) (c := .agg [.v (.int .u64 (U64 n.view)), .v (.int .u64 (U64 (UInt64.ofNat (x.n + 1)))), sA (el x.bs (lkT x b)).1]) rfl rfl rfl (by exact Nat.le_refl 3)) rfl ?_)
 refine Ch.nilD ?_ (by kernel_rfl)
 refine WP.seq ?_
 rw [hlk]
 refine WP.rsD (by kernel_rfl) hG (Ch.mv rfl rfl (Ch.p1 rfl (OpS.nilCheckP) rfl (Ch.p1 rfl (OpS.fieldAddr rfl rfl rfl rfl) rfl (Ch.q1 rfl (OpS.loadP rfl rfl rfl) rfl rfl (Ch.q1 rfl (OpS.loadPA (off := 0) (sz := 3) (cs := [.v (.int .u64 (U64 n.view)), .v (.int .u64 (U64 (UInt64.ofNat (x.n + 1)))), sA lk]) rfl rfl rfl rfl (by exact Nat.le_refl 3)) rfl rfl ?_)))))
 refine Ch.callP (fr) gdN (.cons rfl .nil) (.c (.rfl _) .n) (by rfl) rfl ?_
 refine Ch.cH (hsv) [0,1] 13 gdN (.cons rfl (.cons rfl .nil)) (.c (.rfl _) (.c (.rfl _) .n)) rfl (by refine ⟨?_, ?_, ?_, ?_⟩ <;> first | ((conv => lhs; simp only [nrmA, Nat.reduceAdd, renL_tbs, renL_tb1, renL_bks, renL_b1, renL_vs, renL_v1, ren_vt, pend_ren, ren_ss]); all_goals rfl) | rfl) (by exact ⟨rfl, rfl, trivial⟩) (by exact trivial) rfl ?_
 refine Ch.p2 rfl rfl (OpS.int (op := .neq) (v' := .bool false) rfl rfl) rfl (Ch.nilD ?_ (by kernel_rfl))
 refine WP.cond_false rfl (WP.skip (WP.rsD (by kernel_rfl) hG (Ch.mv rfl rfl (Ch.mv rfl rfl (Ch.q1 rfl (OpS.loadPA (off := 0) (sz := 2) (cs := [.v (.int .u64 (U64 (vwT x.tr b))), .v (.int .i64 (lkT x b : Int))]) rfl rfl rfl rfl (by exact Nat.le_refl 2)) rfl rfl ?_)))))
 refine Ch.p1 rfl (OpS.fieldAddr rfl rfl rfl rfl) rfl (Ch.q1 rfl (OpS.loadP rfl rfl rfl) rfl rfl (Ch.p1 rfl (OpS.nilCheckP) rfl (Ch.p1 rfl (OpS.fieldAddr rfl rfl rfl rfl) rfl (Ch.p1 rfl (OpS.fieldAddr rfl rfl rfl rfl) rfl (Ch.ws rfl rfl (OpS.storePA (cs := rpC x 5 9) (c := .agg [.v (.int .u64 (U64 (vwT x.tr b))), .v (.int .i64 (lkT x b : Int))]) rfl rfl rfl (by exact Nat.le_of_ble_eq_true rfl)) rfl ?_)))))
 refine Ch.p1 rfl (OpS.nilCheckP) rfl (Ch.p1 rfl (OpS.fieldAddr rfl rfl rfl rfl) rfl (Ch.p1 rfl (OpS.fieldAddr rfl rfl rfl rfl) rfl (Ch.ws rfl rfl (OpS.storeP (cs := rpC { x with vo := vwT x.tr b, lk := lkT x b } 5 9) rfl rfl rfl (by simp)) rfl ?_)))
 refine Ch.nilD ?_ (by kernel_rfl)
 refine WP.rsD (by kernel_rfl) hG (Ch.mv rfl rfl (Ch.p1 rfl (OpS.nilCheckP) rfl (Ch.p1 rfl (OpS.fieldAddr rfl rfl rfl rfl) rfl (Ch.q1 rfl (OpS.loadP rfl rfl rfl) rfl rfl (Ch.p1 rfl (OpS.fieldAddrS rfl rfl rfl rfl rfl) rfl (Ch.p1 rfl (OpS.loadS rfl rfl) rfl (Ch.callP (fb) gdN (.cons rfl .nil) (.c (.rfl _) .n) (by rfl) rfl ?_)))))))
 refine Ch.cH (fg) [6,7] 13 gdN (.cons rfl (.cons rfl .nil)) (.c (.rfl _) (.c (.rfl _) .n)) rfl (by refine ⟨?_, ?_, ?_, ?_⟩ <;> first | ((conv => lhs; simp only [nrmA, Nat.reduceAdd, renL_tbs, renL_tb1, renL_bks, renL_b1, renL_vs, renL_v1, ren_vt, pend_ren, ren_ss]); all_goals rfl) | rfl) (by exact ⟨rfl, rfl, trivial⟩) (by exact trivial) rfl ?_
 refine Ch.mv rfl rfl (Ch.p1 rfl (OpS.extract rfl) rfl (Ch.p1 rfl (OpS.extract rfl) rfl (Ch.asg rfl rfl (Ch.asg rfl rfl (Ch.nilD ?_ (by kernel_rfl))))))
 refine WP.rsD (by kernel_rfl) hG (Ch.mv rfl rfl (Ch.mv rfl rfl (Ch.p1 rfl (OpS.nilCheckP) rfl (Ch.p1 rfl (OpS.fieldAddr rfl rfl rfl rfl) rfl (Ch.q1 rfl (OpS.loadP rfl rfl rfl) rfl rfl (Ch.p1 rfl (OpS.fieldAddrS rfl rfl rfl rfl rfl) rfl (Ch.p1 rfl (OpS.loadS rfl rfl) rfl (Ch.callP (fb) gdN (.cons rfl .nil) (.c (.rfl _) .n) (by rfl) rfl ?_))))))))
 refine Ch.pup gdN (by repeat (first | exact EvP.nil | (apply EvP.cons; exact rfl))) (OpS.slice1 (ys := ([ballotT n.id] : List Txt).map sA) rfl rfl rfl rfl rfl rfl (by rfl) rfl (by rfl)) rfl ?_
 refine Ch.a2 rfl rfl (OpS.append (sz := 1) (bb := 16) 13 rfl rfl rfl rfl rfl (by decide) (SrcA.sl rfl (by exact rfl)) (by rw [List.length_map, Nat.mul_one]) rfl (by show x.sg.length + 1 ≤ _; unfold maxLen; omega) rfl (by show (x.sg.length + 1) * 16 ≤ _; omega)) rfl rfl rfl ?_
 refine Ch.p1 rfl (OpS.nilCheckP) rfl (Ch.p1 rfl (OpS.fieldAddr rfl rfl rfl rfl) rfl (Ch.ws rfl rfl (OpS.storeP (cs := rpC { x with vo := vwT x.tr b, lk := lkT x b, lid := lk } 5 9) rfl rfl rfl (by simp)) rfl ?_))
 refine Ch.nilD ?_ (by kernel_rfl)
 rw [show (List.map sA [ballotT n.id]) = [sA (ballotT n.id)] from rfl, eM, eS]
 refine WP.rs hG (Ch.mv rfl rfl (Ch.p1 rfl (OpS.fieldAddrS rfl rfl rfl rfl rfl) rfl (Ch.p1 rfl (OpS.loadS rfl rfl) rfl (Ch.p2 rfl rfl (OpS.int (op := .add) (v' := .int .u64 (U64 (n.view + 1))) rfl (u64_succ _)) rfl ?_))))
 refine Ch.cH (fgo) [0,1,2,3,4,5,6,7,8,13] 14 gdN (.cons rfl (.cons rfl .nil)) (.c (.rfl _) (.c (.rfl _) .n)) rfl (by refine ⟨?_, ?_, ?_, ?_⟩ <;> first | ((conv => lhs; simp only [nrmA, Nat.reduceAdd, renL_tbs, renL_tb1, renL_bks, renL_b1, renL_vs, renL_v1, ren_vt, pend_ren, ren_ss]); all_goals rfl) | rfl) (by exact ⟨rfl, rfl, rfl, rfl, rfl, rfl, rfl, rfl, rfl, rfl, trivial⟩) (by exact trivial) rfl ?_
 refine Ch.nil (WP.rsD (by kernel_rfl) hG (Ch.mv rfl rfl (Ch.p1 rfl (OpS.nilCheckP) rfl (Ch.p1 rfl (OpS.fieldAddr rfl rfl rfl rfl) rfl (Ch.q1 rfl (OpS.loadP rfl rfl rfl) rfl rfl (Ch.mv rfl rfl (Ch.p1 rfl (OpS.nilCheckP) rfl (Ch.p1 rfl (OpS.fieldAddr rfl rfl rfl rfl) rfl (Ch.q1 rfl (OpS.loadP rfl rfl rfl) rfl rfl ?_)))))))))
 refine Ch.callP (fl) gdN (.cons rfl .nil) (.c (.rfl _) .n) (by rfl) rfl ?_
 refine Ch.p1 rfl (OpS.fieldAddrS rfl rfl rfl rfl rfl) rfl (Ch.p1 rfl (OpS.loadS rfl rfl) rfl (Ch.p1 rfl (OpS.fieldAddrS rfl rfl rfl rfl rfl) rfl (Ch.p1 rfl (OpS.loadS rfl rfl) rfl (Ch.mv rfl rfl (Ch.pup gdN (by repeat (first | exact EvP.nil | (apply EvP.cons; exact rfl))) (OpS.build (cs := ntA (voteN x n)) rfl rfl rfl rfl rfl (by rfl)) rfl ?_)))))
 refine Ch.ws rfl rfl (OpS.storePA (cs := ntA nt0) (c := .agg (ntA (voteN x n))) rfl rfl rfl (by exact Nat.le_refl 9)) rfl ?_
 refine Ch.asg rfl rfl (Ch.nilD ?_ (by kernel_rfl))
 refine WP.from (SEnt.frz (t := 6) rfl rfl) (WP.ret ?_)
 refine (Ret.of (rs := [6, 7]) (vs := [.sptr (ntA (voteN x n)), .v (.bool true)]) (H' := rpS { x with d := d', s := s', c := c', lost := lo', vo := vwT x.tr b, lk := lkT x b, lid := lk, n := x.n + 1, sg := x.sg ++ [ballotT n.id], view := n.view + 1 }) (res := .tup [.sptr (ntA (voteN x n)), .v (.bool true)]) [0, 1, 2, 3, 4, 5, 6, 7, 8, 9, 13] ?_ ?_ rfl ?_ (by simp only [List.length_cons, List.length_nil]; decide) ?_).1
 · exact na_of hnA rfl
 · (repeat (first | exact trivial | (refine And.intro ⟨(by trivial), _, rfl, .rfl _⟩ ?_)))
 · (repeat (first | exact trivial | refine HFromL.skip ?_ | (refine And.intro ⟨(by first | trivial | (simp; first | done | fail)), (by first | rfl | (simp [renL_tbs, renL_bks, renL_vs, pend_ren]; first | done | fail))⟩ ?_)))
 · exact ⟨_, rfl, rfl, by simp [ls, TsOk, List.zip, List.zipWith]⟩
end
end Go.Proofs.YtpnbpcopdckgpaaGreatDoor.E
end
section
namespace Go.Proofs.YtpnbpcopdckgpaaGreatDoor.E
open Go Go.RowKit Go.Proofs.YtpnbpcopdckgpaaGreatDoor.V
set_option maxRecDepth 4000
set_option maxRecDepth 4000
--NRM renL_tbs, renL_tb1, renL_bks, renL_b1, renL_vs, renL_v1, ren_vt, pend_ren, ren_ss
--WKX exact .of_eq (ren_ss _ _).symm | exact .of_eq (ren_nt _ _).symm | exact .of_eq (ren_spt _ _).symm
theorem ren_nt (π : Nat → Nat) (n : Nt) : AV.ren π (.agg (ntA n)) = .agg (ntA n) := by
 show AV.agg [_, _, _, _, _, _, _, _, AV.ren π (ssA n.sigs)] = _
 rw [ren_ss]
 rfl
theorem ren_spt (π : Nat → Nat) (n : Nt) : AV.ren π (.sptr (ntA n)) = .sptr (ntA n) := by
 show AV.sptr [_, _, _, _, _, _, _, _, AV.ren π (ssA n.sigs)] = _
 rw [ren_ss]
 rfl
@[simp] theorem bel_spt (u : Nat → Bool) (n : Nt) : AV.bel u (.sptr (ntA n)) := nt_bel u n
abbrev rpV (x : Rp) : List (Option AO) := [some (.cells 105 (dkC x.d)), some (.cells 129 (jC x.s x.c x.lost)), some (.cells 94 (rpC x 11 12)),
 some (.cells 140 [.sl (some 10) x.tr.length (x.tr.flatMap tbA)]), none, none,
 some (.cells 142 (kyC x)), some (.tip 9 1 (leavesT x.seed 5).length), some (.map x.tm), none,
 some (.tip 137 2 x.tr.length), some (.tip 97 3 x.bs.length), some (.tip 9 1 x.sg.length)]
attribute [local irreducible] sum tag input beS rdNum rdText leavesT f64 tb sigT firstT leadT mayT lkT recT idT
section
variable {G : List (Nat × Array Value)}
theorem rOnK_fc (hsha : ShaIn G) (x x1 x2 : Rp) (n r : Nt) (ok : Bool) (b : Nat) (hbs : x.bs.length ≤ 1000) (hpa : findT (idsT x.bs) n.pa = ((0 : Nat) : Int)) (hfr : n.fr = (leadT n.view : Int)) (hpll : n.pl.length ≤ 200) (hpal : n.pa.length ≤ 1000) (hid : n.id = idT n.view n.pa n.pl) (htr : 0 < x.tr.length ∧ x.tr.length ≤ 256) (hv0 : vwT x.tr 0 = 0) (hnv : 0 < n.view.toNat)
  (htr1 : 0 < x1.tr.length ∧ x1.tr.length ≤ 256) (hw1 : WfT x1.tr) (hb : b < x1.tr.length) (hcom : comT x1.tr b = -1)
  (hlearn : FP G 94 [.ptr 2 0, .v (.int .i64 ((0 : Nat) : Int)), .agg (ntA n)] (rpH x) (.v (.int .i64 (b : Int))) (rpH x1))
  (hcast : FP G 98 [.ptr 2 0, .v (.int .i64 (b : Int)), .agg (ntA n)] (rpH x1) (.tup [.agg (ntA r), .v (.bool ok)]) (rpH x2)) :
  FP G 61 [.ptr 2 0, .agg (ntA n)] (rpH x) (.tup [.agg (ntA r), .v (.bool ok)]) (rpH x2) := by
 have e1 : U64 n.view = (n.view.toNat : Int) := rfl
 have e0 : U64 0 = 0 := rfl
 have hfp := find_fc (G := G) x n.pa hbs
 rw [hpa] at hfp
 have fl := rLead_fc (G := G) n.view
 have fi := rID_fc hsha n.view n.pa n.pl (by omega)
 rw [← hid] at fi
 have fv := tView_fc (G := G) x.tr 0 htr.1 htr.2
 rw [hv0] at fv
 have fc := rCert0_fc (G := G) x n.sigs
 have fr := rRaise0_fc (G := G) x1 n.sigs htr1.1 htr1.2
 have fm := tCom_fc (G := G) x1.tr hw1 b hb
 rw [hcom] at fm
 refine FC.of_wpc [(4, some 46), (5, none)] Tryz.func61 rfl rfl rfl rfl (by exact ⟨_, rfl, ⟨_, _, rfl, rfl, rfl, rfl⟩, trivial, trivial⟩) ⟨rfl, nt_bel _ n, trivial⟩ (rp_bel _ blt10 x) (Nat.le_of_ble_eq_true rfl) ?_
 intro A hG hnA hAB
 unfold start
 refine WP.rs hG (Ch.p1 rfl (OpS.boxS) rfl (Ch.a0 (OpS.alloc 10 rfl rfl rfl) rfl rfl (Ch.asg rfl rfl (Ch.nil (WP.rsD (by kernel_rfl) hG (Ch.mv rfl rfl (Ch.p1 rfl (OpS.nilCheckP) rfl (Ch.p1 rfl (OpS.fieldAddr rfl rfl rfl rfl) rfl (Ch.p1 rfl (OpS.fieldAddrS rfl rfl rfl rfl rfl) rfl ?_)))))))))
 refine Ch.p1 rfl (OpS.loadS rfl rfl) rfl ?_
 refine Ch.cH (hfp) [0,1,2,3,4,5,6,7,8,9] 11 gdN (.cons rfl (.cons rfl .nil)) (.c (.rfl _) (.c (.rfl _) .n)) rfl (by refine ⟨?_, ?_, ?_, ?_⟩ <;> first | ((conv => lhs; simp only [nrmA, Nat.reduceAdd, renL_tbs, renL_tb1, renL_bks, renL_b1, renL_vs, renL_v1, ren_vt, pend_ren, ren_ss]); all_goals rfl) | rfl) (by exact ⟨rfl, rfl, rfl, rfl, rfl, rfl, rfl, rfl, rfl, rfl, trivial⟩) (by exact trivial) rfl ?_
 refine Ch.asg rfl rfl (Ch.nilD ?_ (by kernel_rfl))
 refine WP.seq (WP.rsD (by kernel_rfl) hG (Ch.p1 rfl (OpS.fieldAddrS rfl rfl rfl rfl rfl) rfl (Ch.p1 rfl (OpS.loadS rfl rfl) rfl (Ch.p1 rfl (OpS.fieldAddrS rfl rfl rfl rfl rfl) rfl (Ch.p1 rfl (OpS.loadS rfl rfl) rfl (Ch.callP (fl) gdN (.cons rfl .nil) (.c (.rfl _) .n) (by rfl) rfl ?_))))))
 refine Ch.p2 rfl rfl (OpS.neqF hfr) rfl (Ch.mv rfl rfl (Ch.g1 rfl rfl rfl (OpS.fieldAddrS rfl rfl rfl rfl rfl) rfl (Ch.g1 rfl rfl rfl (OpS.loadS rfl rfl) rfl (Ch.g1 rfl rfl rfl (OpS.lenS rfl) rfl (Ch.g2 rfl rfl rfl rfl (OpS.gtrF (by omega)) rfl ?_)))))
 refine Ch.p2 rfl rfl (OpS.pickF) rfl (Ch.mv rfl rfl (Ch.g1 rfl rfl rfl (OpS.fieldAddrS rfl rfl rfl rfl rfl) rfl (Ch.g1 rfl rfl rfl (OpS.loadS rfl rfl) rfl (Ch.g1 rfl rfl rfl (OpS.fieldAddrS rfl rfl rfl rfl rfl) rfl (Ch.g1 rfl rfl rfl (OpS.loadS rfl rfl) rfl (Ch.g1 rfl rfl rfl (OpS.fieldAddrS rfl rfl rfl rfl rfl) rfl (Ch.g1 rfl rfl rfl (OpS.loadS rfl rfl) rfl (Ch.g1 rfl rfl rfl (OpS.fieldAddrS rfl rfl rfl rfl rfl) rfl (Ch.g1 rfl rfl rfl (OpS.loadS rfl rfl) rfl ?_)))))))))
 refine Ch.callP (fi) (gdT rfl rfl) (.cons rfl (.cons rfl (.cons rfl .nil))) (.c (.rfl _) (.c (.rfl _) (.c (.rfl _) .n))) (by rfl) rfl ?_
 refine Ch.g2 rfl rfl rfl rfl (OpS.strNeB (c := false) (by simp)) rfl ?_
 refine Ch.p2 rfl rfl (OpS.pickF) rfl (Ch.mv rfl rfl (Ch.gm rfl rfl rfl rfl (Ch.g2 rfl rfl rfl rfl (OpS.int (op := .lss) (v' := .bool false) rfl rfl) rfl (Ch.p2 rfl rfl (OpS.pickF) rfl (Ch.nilD ?_ (by kernel_rfl))))))
 refine WP.cond_false rfl (WP.skip (WP.seq (WP.rsD (by kernel_rfl) hG (Ch.p1 rfl (OpS.fieldAddrS rfl rfl rfl rfl rfl) rfl (Ch.p1 rfl (OpS.loadS rfl rfl) rfl (Ch.mv rfl rfl (Ch.p1 rfl (OpS.nilCheckP) rfl (Ch.p1 rfl (OpS.fieldAddr rfl rfl rfl rfl) rfl (Ch.p1 rfl (OpS.fieldAddr rfl rfl rfl rfl) rfl ?_)))))))))
 refine Ch.q1 rfl (OpS.loadP rfl rfl rfl) rfl rfl (Ch.mv rfl rfl ?_)
 refine Ch.cH (fv) [3,4] 11 gdN (.cons rfl (.cons rfl .nil)) (.c (.rfl _) (.c (.rfl _) .n)) rfl (by refine ⟨?_, ?_, ?_, ?_⟩ <;> first | ((conv => lhs; simp only [nrmA, Nat.reduceAdd, renL_tbs, renL_tb1, renL_bks, renL_b1, renL_vs, renL_v1, ren_vt, pend_ren, ren_ss]); all_goals rfl) | rfl) (by exact ⟨rfl, rfl, trivial⟩) (by exact trivial) rfl ?_
 refine Ch.p2 rfl rfl (OpS.leqF (by omega)) rfl ?_
 refine Ch.mv rfl rfl (Ch.gm rfl rfl rfl rfl (Ch.gm rfl rfl rfl rfl (Ch.g1 rfl rfl rfl (OpS.fieldAddrS rfl rfl rfl rfl rfl) rfl (Ch.g1 rfl rfl rfl (OpS.loadS rfl rfl) rfl ?_))))
 refine Ch.cH (fc) [0,1,2,3,4,5,6,7,8,9] 11 (gdT rfl rfl) (.cons rfl (.cons rfl (.cons rfl .nil))) (.c (.rfl _) (.c (.rfl _) (.c (.of_eq (ren_ss _ _).symm) .n))) rfl (by refine ⟨?_, ?_, ?_, ?_⟩ <;> first | ((conv => lhs; simp only [nrmA, Nat.reduceAdd, renL_tbs, renL_tb1, renL_bks, renL_b1, renL_vs, renL_v1, ren_vt, pend_ren, ren_ss]); all_goals rfl) | rfl) (by exact ⟨rfl, rfl, rfl, rfl, rfl, rfl, rfl, rfl, rfl, rfl, trivial⟩) (by exact trivial) rfl ?_
 refine Ch.g1 rfl rfl rfl (OpS.not) rfl (Ch.p2 rfl rfl (OpS.pickF) rfl (Ch.nilD ?_ (by kernel_rfl)))
 refine WP.cond_false rfl (WP.skip (WP.rsD (by kernel_rfl) hG (Ch.mv rfl rfl (Ch.p1 rfl (OpS.nilCheckP) rfl (Ch.p1 rfl (OpS.fieldAddr rfl rfl rfl rfl) rfl (Ch.mv rfl rfl (Ch.p1 rfl (OpS.loadSA rfl rfl rfl) rfl ?_)))))))
 refine Ch.cH (hlearn) [0,1,2,3,4,5,6,7,8,9] 11 gdN (.cons rfl (.cons rfl (.cons rfl .nil))) (.c (.rfl _) (.c (.rfl _) (.c (.of_eq (ren_nt _ _).symm) .n))) rfl (by refine ⟨?_, ?_, ?_, ?_⟩ <;> first | ((conv => lhs; simp only [nrmA, Nat.reduceAdd, renL_tbs, renL_tb1, renL_bks, renL_b1, renL_vs, renL_v1, ren_vt, pend_ren, ren_ss]); all_goals rfl) | rfl) (by exact ⟨rfl, rfl, rfl, rfl, rfl, rfl, rfl, rfl, rfl, rfl, trivial⟩) (by exact trivial) rfl ?_
 refine Ch.asg rfl rfl (Ch.nilD ?_ (by kernel_rfl))
 refine WP.seq (WP.rs hG (Ch.mv rfl rfl (Ch.p2 rfl rfl (OpS.lssF (by omega)) rfl ?_)))
 refine Ch.nil (WP.cond_false rfl (WP.skip (WP.rs hG (Ch.mv rfl rfl (Ch.mv rfl rfl (Ch.p1 rfl (OpS.fieldAddrS rfl rfl rfl rfl rfl) rfl (Ch.p1 rfl (OpS.loadS rfl rfl) rfl ?_)))))))
 refine Ch.cH (fr) [0,1,2,3,4,5,6,7,8,9] 11 gdN (.cons rfl (.cons rfl (.cons rfl .nil))) (.c (.rfl _) (.c (.rfl _) (.c (.of_eq (ren_ss _ _).symm) .n))) rfl (by refine ⟨?_, ?_, ?_, ?_⟩ <;> first | ((conv => lhs; simp only [nrmA, Nat.reduceAdd, renL_tbs, renL_tb1, renL_bks, renL_b1, renL_vs, renL_v1, ren_vt, pend_ren, ren_ss]); all_goals rfl) | rfl) (by exact ⟨rfl, rfl, rfl, rfl, rfl, rfl, rfl, rfl, rfl, rfl, trivial⟩) (by exact trivial) rfl ?_
 refine Ch.nil (WP.seq (WP.rs hG (Ch.mv rfl rfl (Ch.p1 rfl (OpS.nilCheckP) rfl (Ch.p1 rfl (OpS.fieldAddr rfl rfl rfl rfl) rfl (Ch.p1 rfl (OpS.fieldAddr rfl rfl rfl rfl) rfl (Ch.q1 rfl (OpS.loadP rfl rfl rfl) rfl rfl (Ch.mv rfl rfl ?_))))))))
 refine Ch.cH (fm) [3,4] 11 gdN (.cons rfl (.cons rfl .nil)) (.c (.rfl _) (.c (.rfl _) .n)) rfl (by refine ⟨?_, ?_, ?_, ?_⟩ <;> first | ((conv => lhs; simp only [nrmA, Nat.reduceAdd, renL_tbs, renL_tb1, renL_bks, renL_b1, renL_vs, renL_v1, ren_vt, pend_ren, ren_ss]); all_goals rfl) | rfl) (by exact ⟨rfl, rfl, trivial⟩) (by exact trivial) rfl ?_
 refine Ch.asg rfl rfl (Ch.nil (WP.rsD (by kernel_rfl) hG (Ch.mv rfl rfl (Ch.p2 rfl rfl (OpS.int (op := .geq) (v' := .bool false) rfl rfl) rfl (Ch.mv rfl rfl (Ch.skU (gdF rfl rfl rfl) rfl (Ch.skU (gdF rfl rfl rfl) rfl (Ch.skU (gdF rfl rfl rfl) rfl (Ch.skU (gdF rfl rfl rfl) rfl ?_)))))))))
 refine Ch.skU (gdF rfl rfl rfl) rfl (Ch.skU (gdF rfl rfl rfl) rfl (Ch.skU (gdF rfl rfl rfl) rfl (Ch.skU (gdF rfl rfl rfl) rfl (Ch.skU (gdF rfl rfl rfl) rfl (Ch.skU (gdF rfl rfl rfl) rfl (Ch.skU (gdF rfl rfl rfl) rfl (Ch.skU (gdF rfl rfl rfl) rfl (Ch.skU (gdF rfl rfl rfl) rfl (Ch.skU (gdF rfl rfl rfl) rfl ?_)))))))))
 refine Ch.skU (gdF rfl rfl rfl) rfl (Ch.skU (gdF rfl rfl rfl) rfl (Ch.skU (gdF rfl rfl rfl) rfl (Ch.skU (gdF rfl rfl rfl) rfl (Ch.p2 rfl rfl (OpS.pickF) rfl (Ch.nilD ?_ (by kernel_rfl))))))
 refine WP.cond_false rfl (WP.skip (WP.rs hG (Ch.mv rfl rfl (Ch.mv rfl rfl (Ch.p1 rfl (OpS.loadSA rfl rfl rfl) rfl ?_)))))
 refine Ch.cH (hcast) [0,1,2,3,4,5,6,7,8,9] 11 gdN (.cons rfl (.cons rfl (.cons rfl .nil))) (.c (.rfl _) (.c (.rfl _) (.c (.of_eq (ren_nt _ _).symm) .n))) rfl (by refine ⟨?_, ?_, ?_, ?_⟩ <;> first | ((conv => lhs; simp only [nrmA, Nat.reduceAdd, renL_tbs, renL_tb1, renL_bks, renL_b1, renL_vs, renL_v1, ren_vt, pend_ren, ren_ss]); all_goals rfl) | rfl) (by exact ⟨rfl, rfl, rfl, rfl, rfl, rfl, rfl, rfl, rfl, rfl, trivial⟩) (by exact trivial) rfl ?_
 refine Ch.p1 rfl (OpS.extract rfl) rfl (Ch.p1 rfl (OpS.extract rfl) rfl (Ch.ws rfl rfl (OpS.storePA (cs := ntA nt0) (c := .agg (ntA r)) rfl rfl (nt_one r) (by exact Nat.le_refl 9)) rfl ?_))
 refine Ch.asg rfl rfl (Ch.nil (WP.from (SEnt.frz (t := 4) rfl rfl) (WP.ret ?_)))
 refine (Ret.of (rs := [4, 5]) (vs := [.sptr (ntA r), .v (.bool ok)]) (H' := rpH x2) (res := .tup [.sptr (ntA r), .v (.bool ok)]) [0, 1, 2, 3, 4, 5, 6, 7, 8, 9] ?_ ?_ rfl ?_ (by simp only [List.length_cons, List.length_nil]; decide) ?_).1
 · exact na_of hnA rfl
 · (repeat (first | exact trivial | (refine And.intro ⟨(by first | trivial | (simp; first | done | fail)), _, rfl, (by first | exact .rfl _ | exact .of_eq (ren_spt _ _).symm)⟩ ?_)))
 · (repeat (first | exact trivial | refine HFromL.skip ?_ | (refine And.intro ⟨(by first | trivial | (simp; first | done | fail)), (by first | rfl | (simp [renL_tbs, renL_bks, renL_vs, pend_ren]; first | done | fail))⟩ ?_)))
 · exact ⟨_, rfl, rfl, by simp [ls, TsOk, List.zip, List.zipWith]⟩
theorem rOnL_fc (hsha : ShaIn G) (x x1 x2 : Rp) (n r : Nt) (ok : Bool) (b : Nat) (hbs : x.bs.length ≤ 1000) (hpa : findT (idsT x.bs) n.pa = ((0 : Nat) : Int)) (hfr : n.fr = (leadT n.view : Int)) (hpll : n.pl.length ≤ 200) (hpal : n.pa.length ≤ 1000) (hid : n.id = idT n.view n.pa n.pl) (htr : 0 < x.tr.length ∧ x.tr.length ≤ 256) (hv0 : vwT x.tr 0 = 0) (hnv : 0 < n.view.toNat)
  (htr1 : 0 < x1.tr.length ∧ x1.tr.length ≤ 256) (hw1 : WfT x1.tr) (hb : b < x1.tr.length) (hcom : comT x1.tr b = -1)
  (hlearn : FP G 94 [.ptr 2 0, .v (.int .i64 ((0 : Nat) : Int)), .agg (ntA n)] (rpH x) (.v (.int .i64 (b : Int))) (rpL x1))
  (hcast : FP G 98 [.ptr 2 0, .v (.int .i64 (b : Int)), .agg (ntA n)] (rpH x1) (.tup [.agg (ntA r), .v (.bool ok)]) (rpH x2)) :
  FP G 61 [.ptr 2 0, .agg (ntA n)] (rpH x) (.tup [.agg (ntA r), .v (.bool ok)]) (rpL x2) := by
 have e1 : U64 n.view = (n.view.toNat : Int) := rfl
 have e0 : U64 0 = 0 := rfl
 have hfp := find_fc (G := G) x n.pa hbs
 rw [hpa] at hfp
 have fl := rLead_fc (G := G) n.view
 have fi := rID_fc hsha n.view n.pa n.pl (by omega)
 rw [← hid] at fi
 have fv := tView_fc (G := G) x.tr 0 htr.1 htr.2
 rw [hv0] at fv
 have fc := rCert0_fc (G := G) x n.sigs
 have fr := rRaise0_fc (G := G) x1 n.sigs htr1.1 htr1.2
 have fm := tCom_fc (G := G) x1.tr hw1 b hb
 rw [hcom] at fm
 refine FC.of_wpc [(4, some 46), (5, none)] Tryz.func61 rfl rfl rfl rfl (by exact ⟨_, rfl, ⟨_, _, rfl, rfl, rfl, rfl⟩, trivial, trivial⟩) ⟨rfl, nt_bel _ n, trivial⟩ (rp_bel _ blt10 x) (Nat.le_of_ble_eq_true rfl) ?_
 intro A hG hnA hAB
 unfold start
 refine WP.rs hG (Ch.p1 rfl (OpS.boxS) rfl (Ch.a0 (OpS.alloc 10 rfl rfl rfl) rfl rfl (Ch.asg rfl rfl (Ch.nil (WP.rsD (by kernel_rfl) hG (Ch.mv rfl rfl (Ch.p1 rfl (OpS.nilCheckP) rfl (Ch.p1 rfl (OpS.fieldAddr rfl rfl rfl rfl) rfl (Ch.p1 rfl (OpS.fieldAddrS rfl rfl rfl rfl rfl) rfl ?_)))))))))
 refine Ch.p1 rfl (OpS.loadS rfl rfl) rfl ?_
 refine Ch.cH (hfp) [0,1,2,3,4,5,6,7,8,9] 11 gdN (.cons rfl (.cons rfl .nil)) (.c (.rfl _) (.c (.rfl _) .n)) rfl (by refine ⟨?_, ?_, ?_, ?_⟩ <;> first | ((conv => lhs; simp only [nrmA, Nat.reduceAdd, renL_tbs, renL_tb1, renL_bks, renL_b1, renL_vs, renL_v1, ren_vt, pend_ren, ren_ss]); all_goals rfl) | rfl) (by exact ⟨rfl, rfl, rfl, rfl, rfl, rfl, rfl, rfl, rfl, rfl, trivial⟩) (by exact trivial) rfl ?_
 refine Ch.asg rfl rfl (Ch.nilD ?_ (by kernel_rfl))
 refine WP.seq (WP.rsD (by kernel_rfl) hG (Ch.p1 rfl (OpS.fieldAddrS rfl rfl rfl rfl rfl) rfl (Ch.p1 rfl (OpS.loadS rfl rfl) rfl (Ch.p1 rfl (OpS.fieldAddrS rfl rfl rfl rfl rfl) rfl (Ch.p1 rfl (OpS.loadS rfl rfl) rfl (Ch.callP (fl) gdN (.cons rfl .nil) (.c (.rfl _) .n) (by rfl) rfl ?_))))))
 refine Ch.p2 rfl rfl (OpS.neqF hfr) rfl (Ch.mv rfl rfl (Ch.g1 rfl rfl rfl (OpS.fieldAddrS rfl rfl rfl rfl rfl) rfl (Ch.g1 rfl rfl rfl (OpS.loadS rfl rfl) rfl (Ch.g1 rfl rfl rfl (OpS.lenS rfl) rfl (Ch.g2 rfl rfl rfl rfl (OpS.gtrF (by omega)) rfl ?_)))))
 refine Ch.p2 rfl rfl (OpS.pickF) rfl (Ch.mv rfl rfl (Ch.g1 rfl rfl rfl (OpS.fieldAddrS rfl rfl rfl rfl rfl) rfl (Ch.g1 rfl rfl rfl (OpS.loadS rfl rfl) rfl (Ch.g1 rfl rfl rfl (OpS.fieldAddrS rfl rfl rfl rfl rfl) rfl (Ch.g1 rfl rfl rfl (OpS.loadS rfl rfl) rfl (Ch.g1 rfl rfl rfl (OpS.fieldAddrS rfl rfl rfl rfl rfl) rfl (Ch.g1 rfl rfl rfl (OpS.loadS rfl rfl) rfl (Ch.g1 rfl rfl rfl (OpS.fieldAddrS rfl rfl rfl rfl rfl) rfl (Ch.g1 rfl rfl rfl (OpS.loadS rfl rfl) rfl ?_)))))))))
 refine Ch.callP (fi) (gdT rfl rfl) (.cons rfl (.cons rfl (.cons rfl .nil))) (.c (.rfl _) (.c (.rfl _) (.c (.rfl _) .n))) (by rfl) rfl ?_
 refine Ch.g2 rfl rfl rfl rfl (OpS.strNeB (c := false) (by simp)) rfl ?_
 refine Ch.p2 rfl rfl (OpS.pickF) rfl (Ch.mv rfl rfl (Ch.gm rfl rfl rfl rfl (Ch.g2 rfl rfl rfl rfl (OpS.int (op := .lss) (v' := .bool false) rfl rfl) rfl (Ch.p2 rfl rfl (OpS.pickF) rfl (Ch.nilD ?_ (by kernel_rfl))))))
 refine WP.cond_false rfl (WP.skip (WP.seq (WP.rsD (by kernel_rfl) hG (Ch.p1 rfl (OpS.fieldAddrS rfl rfl rfl rfl rfl) rfl (Ch.p1 rfl (OpS.loadS rfl rfl) rfl (Ch.mv rfl rfl (Ch.p1 rfl (OpS.nilCheckP) rfl (Ch.p1 rfl (OpS.fieldAddr rfl rfl rfl rfl) rfl (Ch.p1 rfl (OpS.fieldAddr rfl rfl rfl rfl) rfl ?_)))))))))
 refine Ch.q1 rfl (OpS.loadP rfl rfl rfl) rfl rfl (Ch.mv rfl rfl ?_)
 refine Ch.cH (fv) [3,4] 11 gdN (.cons rfl (.cons rfl .nil)) (.c (.rfl _) (.c (.rfl _) .n)) rfl (by refine ⟨?_, ?_, ?_, ?_⟩ <;> first | ((conv => lhs; simp only [nrmA, Nat.reduceAdd, renL_tbs, renL_tb1, renL_bks, renL_b1, renL_vs, renL_v1, ren_vt, pend_ren, ren_ss]); all_goals rfl) | rfl) (by exact ⟨rfl, rfl, trivial⟩) (by exact trivial) rfl ?_
 refine Ch.p2 rfl rfl (OpS.leqF (by omega)) rfl ?_
 refine Ch.mv rfl rfl (Ch.gm rfl rfl rfl rfl (Ch.gm rfl rfl rfl rfl (Ch.g1 rfl rfl rfl (OpS.fieldAddrS rfl rfl rfl rfl rfl) rfl (Ch.g1 rfl rfl rfl (OpS.loadS rfl rfl) rfl ?_))))
 refine Ch.cH (fc) [0,1,2,3,4,5,6,7,8,9] 11 (gdT rfl rfl) (.cons rfl (.cons rfl (.cons rfl .nil))) (.c (.rfl _) (.c (.rfl _) (.c (.of_eq (ren_ss _ _).symm) .n))) rfl (by refine ⟨?_, ?_, ?_, ?_⟩ <;> first | ((conv => lhs; simp only [nrmA, Nat.reduceAdd, renL_tbs, renL_tb1, renL_bks, renL_b1, renL_vs, renL_v1, ren_vt, pend_ren, ren_ss]); all_goals rfl) | rfl) (by exact ⟨rfl, rfl, rfl, rfl, rfl, rfl, rfl, rfl, rfl, rfl, trivial⟩) (by exact trivial) rfl ?_
 refine Ch.g1 rfl rfl rfl (OpS.not) rfl (Ch.p2 rfl rfl (OpS.pickF) rfl (Ch.nilD ?_ (by kernel_rfl)))
 refine WP.cond_false rfl (WP.skip (WP.rsD (by kernel_rfl) hG (Ch.mv rfl rfl (Ch.p1 rfl (OpS.nilCheckP) rfl (Ch.p1 rfl (OpS.fieldAddr rfl rfl rfl rfl) rfl (Ch.mv rfl rfl (Ch.p1 rfl (OpS.loadSA rfl rfl rfl) rfl ?_)))))))
 refine Ch.cH (hlearn) [0,1,2,3,4,5,6,7,8,9] 11 gdN (.cons rfl (.cons rfl (.cons rfl .nil))) (.c (.rfl _) (.c (.rfl _) (.c (.of_eq (ren_nt _ _).symm) .n))) rfl (by refine ⟨?_, ?_, ?_, ?_⟩ <;> first | ((conv => lhs; simp only [nrmA, Nat.reduceAdd, renL_tbs, renL_tb1, renL_bks, renL_b1, renL_vs, renL_v1, ren_vt, pend_ren, ren_ss]); all_goals rfl) | rfl) (by exact ⟨rfl, rfl, rfl, rfl, rfl, rfl, rfl, rfl, rfl, rfl, trivial⟩) (by exact ⟨rfl, rfl, trivial⟩) rfl ?_
 refine Ch.asg rfl rfl (Ch.nilD ?_ (by kernel_rfl))
 refine WP.seq (WP.rs hG (Ch.mv rfl rfl (Ch.p2 rfl rfl (OpS.lssF (by omega)) rfl ?_)))
 refine Ch.nil (WP.cond_false rfl (WP.skip (WP.rs hG (Ch.mv rfl rfl (Ch.mv rfl rfl (Ch.p1 rfl (OpS.fieldAddrS rfl rfl rfl rfl rfl) rfl (Ch.p1 rfl (OpS.loadS rfl rfl) rfl ?_)))))))
 refine Ch.cH (fr) [0,1,2,3,11,12,6,7,8,9] 13 gdN (.cons rfl (.cons rfl (.cons rfl .nil))) (.c (.rfl _) (.c (.rfl _) (.c (.of_eq (ren_ss _ _).symm) .n))) rfl (by refine ⟨?_, ?_, ?_, ?_⟩ <;> first | ((conv => lhs; simp only [nrmA, Nat.reduceAdd, renL_tbs, renL_tb1, renL_bks, renL_b1, renL_vs, renL_v1, ren_vt, pend_ren, ren_ss]); all_goals rfl) | rfl) (by exact ⟨rfl, rfl, rfl, rfl, rfl, rfl, rfl, rfl, rfl, rfl, trivial⟩) (by exact trivial) rfl ?_
 refine Ch.nil (WP.seq (WP.rs hG (Ch.mv rfl rfl (Ch.p1 rfl (OpS.nilCheckP) rfl (Ch.p1 rfl (OpS.fieldAddr rfl rfl rfl rfl) rfl (Ch.p1 rfl (OpS.fieldAddr rfl rfl rfl rfl) rfl (Ch.q1 rfl (OpS.loadP rfl rfl rfl) rfl rfl (Ch.mv rfl rfl ?_))))))))
 refine Ch.cH (fm) [3,11] 13 gdN (.cons rfl (.cons rfl .nil)) (.c (.rfl _) (.c (.rfl _) .n)) rfl (by refine ⟨?_, ?_, ?_, ?_⟩ <;> first | ((conv => lhs; simp only [nrmA, Nat.reduceAdd, renL_tbs, renL_tb1, renL_bks, renL_b1, renL_vs, renL_v1, ren_vt, pend_ren, ren_ss]); all_goals rfl) | rfl) (by exact ⟨rfl, rfl, trivial⟩) (by exact trivial) rfl ?_
 refine Ch.asg rfl rfl (Ch.nil (WP.rsD (by kernel_rfl) hG (Ch.mv rfl rfl (Ch.p2 rfl rfl (OpS.int (op := .geq) (v' := .bool false) rfl rfl) rfl (Ch.mv rfl rfl (Ch.skU (gdF rfl rfl rfl) rfl (Ch.skU (gdF rfl rfl rfl) rfl (Ch.skU (gdF rfl rfl rfl) rfl (Ch.skU (gdF rfl rfl rfl) rfl ?_)))))))))
 refine Ch.skU (gdF rfl rfl rfl) rfl (Ch.skU (gdF rfl rfl rfl) rfl (Ch.skU (gdF rfl rfl rfl) rfl (Ch.skU (gdF rfl rfl rfl) rfl (Ch.skU (gdF rfl rfl rfl) rfl (Ch.skU (gdF rfl rfl rfl) rfl (Ch.skU (gdF rfl rfl rfl) rfl (Ch.skU (gdF rfl rfl rfl) rfl (Ch.skU (gdF rfl rfl rfl) rfl (Ch.skU (gdF rfl rfl rfl) rfl ?_)))))))))
 refine Ch.skU (gdF rfl rfl rfl) rfl (Ch.skU (gdF rfl rfl rfl) rfl (Ch.skU (gdF rfl rfl rfl) rfl (Ch.skU (gdF rfl rfl rfl) rfl (Ch.p2 rfl rfl (OpS.pickF) rfl (Ch.nilD ?_ (by kernel_rfl))))))
 refine WP.cond_false rfl (WP.skip (WP.rs hG (Ch.mv rfl rfl (Ch.mv rfl rfl (Ch.p1 rfl (OpS.loadSA rfl rfl rfl) rfl ?_)))))
 refine Ch.cH (hcast) [0,1,2,3,11,12,6,7,8,9] 13 gdN (.cons rfl (.cons rfl (.cons rfl .nil))) (.c (.rfl _) (.c (.rfl _) (.c (.of_eq (ren_nt _ _).symm) .n))) rfl (by refine ⟨?_, ?_, ?_, ?_⟩ <;> first | ((conv => lhs; simp only [nrmA, Nat.reduceAdd, renL_tbs, renL_tb1, renL_bks, renL_b1, renL_vs, renL_v1, ren_vt, pend_ren, ren_ss]); all_goals rfl) | rfl) (by exact ⟨rfl, rfl, rfl, rfl, rfl, rfl, rfl, rfl, rfl, rfl, trivial⟩) (by exact trivial) rfl ?_
 refine Ch.p1 rfl (OpS.extract rfl) rfl (Ch.p1 rfl (OpS.extract rfl) rfl (Ch.ws rfl rfl (OpS.storePA (cs := ntA nt0) (c := .agg (ntA r)) rfl rfl (nt_one r) (by exact Nat.le_refl 9)) rfl ?_))
 refine Ch.asg rfl rfl (Ch.nil (WP.from (SEnt.frz (t := 4) rfl rfl) (WP.ret ?_)))
 refine (Ret.of (rs := [4, 5]) (vs := [.sptr (ntA r), .v (.bool ok)]) (H' := rpL x2) (res := .tup [.sptr (ntA r), .v (.bool ok)]) [0, 1, 2, 3, 4, 5, 6, 7, 8, 9, 11, 12] ?_ ?_ rfl ?_ (by simp only [List.length_cons, List.length_nil]; decide) ?_).1
 · exact na_of hnA rfl
 · (repeat (first | exact trivial | (refine And.intro ⟨(by first | trivial | (simp; first | done | fail)), _, rfl, (by first | exact .rfl _ | exact .of_eq (ren_spt _ _).symm)⟩ ?_)))
 · (repeat (first | exact trivial | refine HFromL.skip ?_ | (refine And.intro ⟨(by first | trivial | (simp; first | done | fail)), (by first | rfl | (simp [renL_tbs, renL_bks, renL_vs, pend_ren]; first | done | fail))⟩ ?_)))
 · exact ⟨_, rfl, rfl, by simp [ls, TsOk, List.zip, List.zipWith]⟩
theorem rOnV_fc (hsha : ShaIn G) (x x1 x2 : Rp) (n r : Nt) (ok : Bool) (b : Nat) (hbs : x.bs.length ≤ 1000) (hpa : findT (idsT x.bs) n.pa = ((0 : Nat) : Int)) (hfr : n.fr = (leadT n.view : Int)) (hpll : n.pl.length ≤ 200) (hpal : n.pa.length ≤ 1000) (hid : n.id = idT n.view n.pa n.pl) (htr : 0 < x.tr.length ∧ x.tr.length ≤ 256) (hv0 : vwT x.tr 0 = 0) (hnv : 0 < n.view.toNat)
  (htr1 : 0 < x1.tr.length ∧ x1.tr.length ≤ 256) (hw1 : WfT x1.tr) (hb : b < x1.tr.length) (hcom : comT x1.tr b = -1)
  (hlearn : FP G 94 [.ptr 2 0, .v (.int .i64 ((0 : Nat) : Int)), .agg (ntA n)] (rpH x) (.v (.int .i64 (b : Int))) (rpL x1))
  (hcast : FP G 98 [.ptr 2 0, .v (.int .i64 (b : Int)), .agg (ntA n)] (rpH x1) (.tup [.agg (ntA r), .v (.bool ok)]) (rpS x2)) :
  FP G 61 [.ptr 2 0, .agg (ntA n)] (rpH x) (.tup [.agg (ntA r), .v (.bool ok)]) (rpV x2) := by
 have e1 : U64 n.view = (n.view.toNat : Int) := rfl
 have e0 : U64 0 = 0 := rfl
 have hfp := find_fc (G := G) x n.pa hbs
 rw [hpa] at hfp
 have fl := rLead_fc (G := G) n.view
 have fi := rID_fc hsha n.view n.pa n.pl (by omega)
 rw [← hid] at fi
 have fv := tView_fc (G := G) x.tr 0 htr.1 htr.2
 rw [hv0] at fv
 have fc := rCert0_fc (G := G) x n.sigs
 have fr := rRaise0_fc (G := G) x1 n.sigs htr1.1 htr1.2
 have fm := tCom_fc (G := G) x1.tr hw1 b hb
 rw [hcom] at fm
 refine FC.of_wpc [(4, some 46), (5, none)] Tryz.func61 rfl rfl rfl rfl (by exact ⟨_, rfl, ⟨_, _, rfl, rfl, rfl, rfl⟩, trivial, trivial⟩) ⟨rfl, nt_bel _ n, trivial⟩ (rp_bel _ blt10 x) (Nat.le_of_ble_eq_true rfl) ?_
 intro A hG hnA hAB
 unfold start
 refine WP.rs hG (Ch.p1 rfl (OpS.boxS) rfl (Ch.a0 (OpS.alloc 10 rfl rfl rfl) rfl rfl (Ch.asg rfl rfl (Ch.nil (WP.rsD (by kernel_rfl) hG (Ch.mv rfl rfl (Ch.p1 rfl (OpS.nilCheckP) rfl (Ch.p1 rfl (OpS.fieldAddr rfl rfl rfl rfl) rfl (Ch.p1 rfl (OpS.fieldAddrS rfl rfl rfl rfl rfl) rfl ?_)))))))))
 refine Ch.p1 rfl (OpS.loadS rfl rfl) rfl ?_
 refine Ch.cH (hfp) [0,1,2,3,4,5,6,7,8,9] 11 gdN (.cons rfl (.cons rfl .nil)) (.c (.rfl _) (.c (.rfl _) .n)) rfl (by refine ⟨?_, ?_, ?_, ?_⟩ <;> first | ((conv => lhs; simp only [nrmA, Nat.reduceAdd, renL_tbs, renL_tb1, renL_bks, renL_b1, renL_vs, renL_v1, ren_vt, pend_ren, ren_ss]); all_goals rfl) | rfl) (by exact ⟨rfl, rfl, rfl, rfl, rfl, rfl, rfl, rfl, rfl, rfl, trivial⟩) (by exact trivial) rfl ?_
 refine Ch.asg rfl rfl (Ch.nilD ?_ (by kernel_rfl))
 refine WP.seq (WP.rsD (by kernel_rfl) hG (Ch.p1 rfl (OpS.fieldAddrS rfl rfl rfl rfl rfl) rfl (Ch.p1 rfl (OpS.loadS rfl rfl) rfl (Ch.p1 rfl (OpS.fieldAddrS rfl rfl rfl rfl rfl) rfl (Ch.p1 rfl (OpS.loadS rfl rfl) rfl (Ch.callP (fl) gdN (.cons rfl .nil) (.c (.rfl _) .n) (by rfl) rfl ?_))))))
 refine Ch.p2 rfl rfl (OpS.neqF hfr) rfl (Ch.mv rfl rfl (Ch.g1 rfl rfl rfl (OpS.fieldAddrS rfl rfl rfl rfl rfl) rfl (Ch.g1 rfl rfl rfl (OpS.loadS rfl rfl) rfl (Ch.g1 rfl rfl rfl (OpS.lenS rfl) rfl (Ch.g2 rfl rfl rfl rfl (OpS.gtrF (by omega)) rfl ?_)))))
 refine Ch.p2 rfl rfl (OpS.pickF) rfl (Ch.mv rfl rfl (Ch.g1 rfl rfl rfl (OpS.fieldAddrS rfl rfl rfl rfl rfl) rfl (Ch.g1 rfl rfl rfl (OpS.loadS rfl rfl) rfl (Ch.g1 rfl rfl rfl (OpS.fieldAddrS rfl rfl rfl rfl rfl) rfl (Ch.g1 rfl rfl rfl (OpS.loadS rfl rfl) rfl (Ch.g1 rfl rfl rfl (OpS.fieldAddrS rfl rfl rfl rfl rfl) rfl (Ch.g1 rfl rfl rfl (OpS.loadS rfl rfl) rfl (Ch.g1 rfl rfl rfl (OpS.fieldAddrS rfl rfl rfl rfl rfl) rfl (Ch.g1 rfl rfl rfl (OpS.loadS rfl rfl) rfl ?_)))))))))
 refine Ch.callP (fi) (gdT rfl rfl) (.cons rfl (.cons rfl (.cons rfl .nil))) (.c (.rfl _) (.c (.rfl _) (.c (.rfl _) .n))) (by rfl) rfl ?_
 refine Ch.g2 rfl rfl rfl rfl (OpS.strNeB (c := false) (by simp)) rfl ?_
 refine Ch.p2 rfl rfl (OpS.pickF) rfl (Ch.mv rfl rfl (Ch.gm rfl rfl rfl rfl (Ch.g2 rfl rfl rfl rfl (OpS.int (op := .lss) (v' := .bool false) rfl rfl) rfl (Ch.p2 rfl rfl (OpS.pickF) rfl (Ch.nilD ?_ (by kernel_rfl))))))
 refine WP.cond_false rfl (WP.skip (WP.seq (WP.rsD (by kernel_rfl) hG (Ch.p1 rfl (OpS.fieldAddrS rfl rfl rfl rfl rfl) rfl (Ch.p1 rfl (OpS.loadS rfl rfl) rfl (Ch.mv rfl rfl (Ch.p1 rfl (OpS.nilCheckP) rfl (Ch.p1 rfl (OpS.fieldAddr rfl rfl rfl rfl) rfl (Ch.p1 rfl (OpS.fieldAddr rfl rfl rfl rfl) rfl ?_)))))))))
 refine Ch.q1 rfl (OpS.loadP rfl rfl rfl) rfl rfl (Ch.mv rfl rfl ?_)
 refine Ch.cH (fv) [3,4] 11 gdN (.cons rfl (.cons rfl .nil)) (.c (.rfl _) (.c (.rfl _) .n)) rfl (by refine ⟨?_, ?_, ?_, ?_⟩ <;> first | ((conv => lhs; simp only [nrmA, Nat.reduceAdd, renL_tbs, renL_tb1, renL_bks, renL_b1, renL_vs, renL_v1, ren_vt, pend_ren, ren_ss]); all_goals rfl) | rfl) (by exact ⟨rfl, rfl, trivial⟩) (by exact trivial) rfl ?_
 refine Ch.p2 rfl rfl (OpS.leqF (by omega)) rfl ?_
 refine Ch.mv rfl rfl (Ch.gm rfl rfl rfl rfl (Ch.gm rfl rfl rfl rfl (Ch.g1 rfl rfl rfl (OpS.fieldAddrS rfl rfl rfl rfl rfl) rfl (Ch.g1 rfl rfl rfl (OpS.loadS rfl rfl) rfl ?_))))
 refine Ch.cH (fc) [0,1,2,3,4,5,6,7,8,9] 11 (gdT rfl rfl) (.cons rfl (.cons rfl (.cons rfl .nil))) (.c (.rfl _) (.c (.rfl _) (.c (.of_eq (ren_ss _ _).symm) .n))) rfl (by refine ⟨?_, ?_, ?_, ?_⟩ <;> first | ((conv => lhs; simp only [nrmA, Nat.reduceAdd, renL_tbs, renL_tb1, renL_bks, renL_b1, renL_vs, renL_v1, ren_vt, pend_ren, ren_ss]); all_goals rfl) | rfl) (by exact ⟨rfl, rfl, rfl, rfl, rfl, rfl, rfl, rfl, rfl, rfl, trivial⟩) (by exact trivial) rfl ?_
 refine Ch.g1 rfl rfl rfl (OpS.not) rfl (Ch.p2 rfl rfl (OpS.pickF) rfl (Ch.nilD ?_ (by kernel_rfl)))
 refine WP.cond_false rfl (WP.skip (WP.rsD (by kernel_rfl) hG (Ch.mv rfl rfl (Ch.p1 rfl (OpS.nilCheckP) rfl (Ch.p1 rfl (OpS.fieldAddr rfl rfl rfl rfl) rfl (Ch.mv rfl rfl (Ch.p1 rfl (OpS.loadSA rfl rfl rfl) rfl ?_)))))))
 refine Ch.cH (hlearn) [0,1,2,3,4,5,6,7,8,9] 11 gdN (.cons rfl (.cons rfl (.cons rfl .nil))) (.c (.rfl _) (.c (.rfl _) (.c (.of_eq (ren_nt _ _).symm) .n))) rfl (by refine ⟨?_, ?_, ?_, ?_⟩ <;> first | ((conv => lhs; simp only [nrmA, Nat.reduceAdd, renL_tbs, renL_tb1, renL_bks, renL_b1, renL_vs, renL_v1, ren_vt, pend_ren, ren_ss]); all_goals rfl) | rfl) (by exact ⟨rfl, rfl, rfl, rfl, rfl, rfl, rfl, rfl, rfl, rfl, trivial⟩) (by exact ⟨rfl, rfl, trivial⟩) rfl ?_
 refine Ch.asg rfl rfl (Ch.nilD ?_ (by kernel_rfl))
 refine WP.seq (WP.rs hG (Ch.mv rfl rfl (Ch.p2 rfl rfl (OpS.lssF (by omega)) rfl ?_)))
 refine Ch.nil (WP.cond_false rfl (WP.skip (WP.rs hG (Ch.mv rfl rfl (Ch.mv rfl rfl (Ch.p1 rfl (OpS.fieldAddrS rfl rfl rfl rfl rfl) rfl (Ch.p1 rfl (OpS.loadS rfl rfl) rfl ?_)))))))
 refine Ch.cH (fr) [0,1,2,3,11,12,6,7,8,9] 13 gdN (.cons rfl (.cons rfl (.cons rfl .nil))) (.c (.rfl _) (.c (.rfl _) (.c (.of_eq (ren_ss _ _).symm) .n))) rfl (by refine ⟨?_, ?_, ?_, ?_⟩ <;> first | ((conv => lhs; simp only [nrmA, Nat.reduceAdd, renL_tbs, renL_tb1, renL_bks, renL_b1, renL_vs, renL_v1, ren_vt, pend_ren, ren_ss]); all_goals rfl) | rfl) (by exact ⟨rfl, rfl, rfl, rfl, rfl, rfl, rfl, rfl, rfl, rfl, trivial⟩) (by exact trivial) rfl ?_
 refine Ch.nil (WP.seq (WP.rs hG (Ch.mv rfl rfl (Ch.p1 rfl (OpS.nilCheckP) rfl (Ch.p1 rfl (OpS.fieldAddr rfl rfl rfl rfl) rfl (Ch.p1 rfl (OpS.fieldAddr rfl rfl rfl rfl) rfl (Ch.q1 rfl (OpS.loadP rfl rfl rfl) rfl rfl (Ch.mv rfl rfl ?_))))))))
 refine Ch.cH (fm) [3,11] 13 gdN (.cons rfl (.cons rfl .nil)) (.c (.rfl _) (.c (.rfl _) .n)) rfl (by refine ⟨?_, ?_, ?_, ?_⟩ <;> first | ((conv => lhs; simp only [nrmA, Nat.reduceAdd, renL_tbs, renL_tb1, renL_bks, renL_b1, renL_vs, renL_v1, ren_vt, pend_ren, ren_ss]); all_goals rfl) | rfl) (by exact ⟨rfl, rfl, trivial⟩) (by exact trivial) rfl ?_
 refine Ch.asg rfl rfl (Ch.nil (WP.rsD (by kernel_rfl) hG (Ch.mv rfl rfl (Ch.p2 rfl rfl (OpS.int (op := .geq) (v' := .bool false) rfl rfl) rfl (Ch.mv rfl rfl (Ch.skU (gdF rfl rfl rfl) rfl (Ch.skU (gdF rfl rfl rfl) rfl (Ch.skU (gdF rfl rfl rfl) rfl (Ch.skU (gdF rfl rfl rfl) rfl ?_)))))))))
 refine Ch.skU (gdF rfl rfl rfl) rfl (Ch.skU (gdF rfl rfl rfl) rfl (Ch.skU (gdF rfl rfl rfl) rfl (Ch.skU (gdF rfl rfl rfl) rfl (Ch.skU (gdF rfl rfl rfl) rfl (Ch.skU (gdF rfl rfl rfl) rfl (Ch.skU (gdF rfl rfl rfl) rfl (Ch.skU (gdF rfl rfl rfl) rfl (Ch.skU (gdF rfl rfl rfl) rfl (Ch.skU (gdF rfl rfl rfl) rfl ?_)))))))))
 refine Ch.skU (gdF rfl rfl rfl) rfl (Ch.skU (gdF rfl rfl rfl) rfl (Ch.skU (gdF rfl rfl rfl) rfl (Ch.skU (gdF rfl rfl rfl) rfl (Ch.p2 rfl rfl (OpS.pickF) rfl (Ch.nilD ?_ (by kernel_rfl))))))
 refine WP.cond_false rfl (WP.skip (WP.rs hG (Ch.mv rfl rfl (Ch.mv rfl rfl (Ch.p1 rfl (OpS.loadSA rfl rfl rfl) rfl ?_)))))
 refine Ch.cH (hcast) [0,1,2,3,11,12,6,7,8,9] 13 gdN (.cons rfl (.cons rfl (.cons rfl .nil))) (.c (.rfl _) (.c (.rfl _) (.c (.of_eq (ren_nt _ _).symm) .n))) rfl (by refine ⟨?_, ?_, ?_, ?_⟩ <;> first | ((conv => lhs; simp only [nrmA, Nat.reduceAdd, renL_tbs, renL_tb1, renL_bks, renL_b1, renL_vs, renL_v1, ren_vt, pend_ren, ren_ss]); all_goals rfl) | rfl) (by exact ⟨rfl, rfl, rfl, rfl, rfl, rfl, rfl, rfl, rfl, rfl, trivial⟩) (by exact ⟨rfl, trivial⟩) rfl ?_
 refine Ch.p1 rfl (OpS.extract rfl) rfl (Ch.p1 rfl (OpS.extract rfl) rfl (Ch.ws rfl rfl (OpS.storePA (cs := ntA nt0) (c := .agg (ntA r)) rfl rfl (nt_one r) (by exact Nat.le_refl 9)) rfl ?_))
 refine Ch.asg rfl rfl (Ch.nil (WP.from (SEnt.frz (t := 4) rfl rfl) (WP.ret ?_)))
 refine (Ret.of (rs := [4, 5]) (vs := [.sptr (ntA r), .v (.bool ok)]) (H' := rpV x2) (res := .tup [.sptr (ntA r), .v (.bool ok)]) [0, 1, 2, 3, 4, 5, 6, 7, 8, 9, 11, 12, 13] ?_ ?_ rfl ?_ (by simp only [List.length_cons, List.length_nil]; decide) ?_).1
 · exact na_of hnA rfl
 · (repeat (first | exact trivial | (refine And.intro ⟨(by first | trivial | (simp; first | done | fail)), _, rfl, (by first | exact .rfl _ | exact .of_eq (ren_spt _ _).symm)⟩ ?_)))
 · (repeat (first | exact trivial | refine HFromL.skip ?_ | (refine And.intro ⟨(by first | trivial | (simp; first | done | fail)), (by first | rfl | (simp [renL_tbs, renL_bks, renL_vs, pend_ren]; first | done | fail))⟩ ?_)))
 · exact ⟨_, rfl, rfl, by simp [ls, TsOk, List.zip, List.zipWith]⟩
theorem rRecK_fc (x x2 : Rp) (n r : Nt) (ok : Bool) (hk : n.kind = 1) (hd : x.dead = false) (hv : n.view.toNat ≤ 4611686018427387904)
  (hon : FP G 61 [.ptr 2 0, .agg (ntA n)] (rpH x) (.tup [.agg (ntA r), .v (.bool ok)]) (rpH x2)) :
  FP G 30 [.ptr 2 0, .agg (ntA n)] (rpH x) (.tup [.agg (ntA r), .v (.bool ok)]) (rpH x2) := by
 have e1 : U64 n.view = (n.view.toNat : Int) := rfl
 obtain ⟨d, s, c, lost, tr, bs, vo, lk, lid, me, ks, seed, n', view, tm, prop, sg, dead⟩ := x
 replace hd : dead = false := hd
 subst hd
 refine FC.of_wpc [(4, some 46), (5, none)] Tryz.func30 rfl rfl rfl rfl (by exact ⟨_, rfl, ⟨_, _, rfl, rfl, rfl, rfl⟩, trivial, trivial⟩) ⟨rfl, nt_bel _ n, trivial⟩ (rp_bel _ blt10 _) (Nat.le_of_ble_eq_true rfl) ?_
 intro A hG hnA hAB
 unfold start
 refine WP.rs hG (Ch.p1 rfl (OpS.boxS) rfl (Ch.a0 (OpS.alloc 10 rfl rfl rfl) rfl rfl (Ch.asg rfl rfl (Ch.nil (WP.seq (WP.rs hG (Ch.mv rfl rfl (Ch.p1 rfl (OpS.nilCheckP) rfl (Ch.p1 rfl (OpS.fieldAddr rfl rfl rfl rfl) rfl ?_)))))))))
 refine Ch.q1 rfl (OpS.loadP rfl rfl rfl) rfl rfl (Ch.mv rfl rfl (Ch.g1 rfl rfl rfl (OpS.fieldAddrS rfl rfl rfl rfl rfl) rfl (Ch.g1 rfl rfl rfl (OpS.loadS rfl rfl) rfl (Ch.g2 rfl rfl rfl rfl (OpS.gtrF (by omega)) rfl ?_))))
 refine Ch.p2 rfl rfl (OpS.pickF) rfl (Ch.nil (WP.cond_false rfl (WP.skip (WP.seq (WP.rs hG (Ch.p1 rfl (OpS.fieldAddrS rfl rfl rfl rfl rfl) rfl (Ch.p1 rfl (OpS.loadS rfl rfl) rfl (Ch.nil (WP.block ?_)))))))))
 refine WP.rs hG (Ch.p2 rfl rfl (OpS.eqlT hk) rfl (Ch.asg rfl rfl (Ch.nil (WP.cond_true rfl (WP.rs hG (Ch.mv rfl rfl (Ch.p1 rfl (OpS.loadSA rfl rfl rfl) rfl ?_)))))))
 refine Ch.cH (hon) [0,1,2,3,4,5,6,7,8,9] 11 gdN (.cons rfl (.cons rfl .nil)) (.c (.rfl _) (.c (.of_eq (ren_nt _ _).symm) .n)) rfl (by refine ⟨?_, ?_, ?_, ?_⟩ <;> first | ((conv => lhs; simp only [nrmA, Nat.reduceAdd, renL_tbs, renL_tb1, renL_bks, renL_b1, renL_vs, renL_v1, ren_vt, pend_ren, ren_ss]); all_goals rfl) | rfl) (by exact ⟨rfl, rfl, rfl, rfl, rfl, rfl, rfl, rfl, rfl, rfl, trivial⟩) (by exact trivial) rfl ?_
 refine Ch.p1 rfl (OpS.extract rfl) rfl (Ch.p1 rfl (OpS.extract rfl) rfl (Ch.ws rfl rfl (OpS.storePA (cs := ntA nt0) (c := .agg (ntA r)) rfl rfl (nt_one r) (by exact Nat.le_refl 9)) rfl ?_))
 refine Ch.asg rfl rfl (Ch.nil (WP.from (SEnt.frz (t := 4) rfl rfl) (WP.ret ?_)))
 refine (Ret.of (rs := [4, 5]) (vs := [.sptr (ntA r), .v (.bool ok)]) (H' := rpH x2) (res := .tup [.sptr (ntA r), .v (.bool ok)]) [0, 1, 2, 3, 4, 5, 6, 7, 8, 9] ?_ ?_ rfl ?_ (by simp only [List.length_cons, List.length_nil]; decide) ?_).1
 · exact na_of hnA rfl
 · (repeat (first | exact trivial | (refine And.intro ⟨(by first | trivial | (simp; first | done | fail)), _, rfl, (by first | exact .rfl _ | exact .of_eq (ren_spt _ _).symm)⟩ ?_)))
 · (repeat (first | exact trivial | refine HFromL.skip ?_ | (refine And.intro ⟨(by first | trivial | (simp; first | done | fail)), (by first | rfl | (simp [renL_tbs, renL_bks, renL_vs, pend_ren]; first | done | fail))⟩ ?_)))
 · exact ⟨_, rfl, rfl, by simp [ls, TsOk, List.zip, List.zipWith]⟩
theorem rRecL_fc (x x2 : Rp) (n r : Nt) (ok : Bool) (hk : n.kind = 1) (hd : x.dead = false) (hv : n.view.toNat ≤ 4611686018427387904)
  (hon : FP G 61 [.ptr 2 0, .agg (ntA n)] (rpH x) (.tup [.agg (ntA r), .v (.bool ok)]) (rpL x2)) :
  FP G 30 [.ptr 2 0, .agg (ntA n)] (rpH x) (.tup [.agg (ntA r), .v (.bool ok)]) (rpL x2) := by
 have e1 : U64 n.view = (n.view.toNat : Int) := rfl
 obtain ⟨d, s, c, lost, tr, bs, vo, lk, lid, me, ks, seed, n', view, tm, prop, sg, dead⟩ := x
 replace hd : dead = false := hd
 subst hd
 refine FC.of_wpc [(4, some 46), (5, none)] Tryz.func30 rfl rfl rfl rfl (by exact ⟨_, rfl, ⟨_, _, rfl, rfl, rfl, rfl⟩, trivial, trivial⟩) ⟨rfl, nt_bel _ n, trivial⟩ (rp_bel _ blt10 _) (Nat.le_of_ble_eq_true rfl) ?_
 intro A hG hnA hAB
 unfold start
 refine WP.rs hG (Ch.p1 rfl (OpS.boxS) rfl (Ch.a0 (OpS.alloc 10 rfl rfl rfl) rfl rfl (Ch.asg rfl rfl (Ch.nil (WP.seq (WP.rs hG (Ch.mv rfl rfl (Ch.p1 rfl (OpS.nilCheckP) rfl (Ch.p1 rfl (OpS.fieldAddr rfl rfl rfl rfl) rfl ?_)))))))))
 refine Ch.q1 rfl (OpS.loadP rfl rfl rfl) rfl rfl (Ch.mv rfl rfl (Ch.g1 rfl rfl rfl (OpS.fieldAddrS rfl rfl rfl rfl rfl) rfl (Ch.g1 rfl rfl rfl (OpS.loadS rfl rfl) rfl (Ch.g2 rfl rfl rfl rfl (OpS.gtrF (by omega)) rfl ?_))))
 refine Ch.p2 rfl rfl (OpS.pickF) rfl (Ch.nil (WP.cond_false rfl (WP.skip (WP.seq (WP.rs hG (Ch.p1 rfl (OpS.fieldAddrS rfl rfl rfl rfl rfl) rfl (Ch.p1 rfl (OpS.loadS rfl rfl) rfl (Ch.nil (WP.block ?_)))))))))
 refine WP.rs hG (Ch.p2 rfl rfl (OpS.eqlT hk) rfl (Ch.asg rfl rfl (Ch.nil (WP.cond_true rfl (WP.rs hG (Ch.mv rfl rfl (Ch.p1 rfl (OpS.loadSA rfl rfl rfl) rfl ?_)))))))
 refine Ch.cH (hon) [0,1,2,3,4,5,6,7,8,9] 11 gdN (.cons rfl (.cons rfl .nil)) (.c (.rfl _) (.c (.of_eq (ren_nt _ _).symm) .n)) rfl (by refine ⟨?_, ?_, ?_, ?_⟩ <;> first | ((conv => lhs; simp only [nrmA, Nat.reduceAdd, renL_tbs, renL_tb1, renL_bks, renL_b1, renL_vs, renL_v1, ren_vt, pend_ren, ren_ss]); all_goals rfl) | rfl) (by exact ⟨rfl, rfl, rfl, rfl, rfl, rfl, rfl, rfl, rfl, rfl, trivial⟩) (by exact ⟨rfl, rfl, trivial⟩) rfl ?_
 refine Ch.p1 rfl (OpS.extract rfl) rfl (Ch.p1 rfl (OpS.extract rfl) rfl (Ch.ws rfl rfl (OpS.storePA (cs := ntA nt0) (c := .agg (ntA r)) rfl rfl (nt_one r) (by exact Nat.le_refl 9)) rfl ?_))
 refine Ch.asg rfl rfl (Ch.nil (WP.from (SEnt.frz (t := 4) rfl rfl) (WP.ret ?_)))
 refine (Ret.of (rs := [4, 5]) (vs := [.sptr (ntA r), .v (.bool ok)]) (H' := rpL x2) (res := .tup [.sptr (ntA r), .v (.bool ok)]) [0, 1, 2, 3, 4, 5, 6, 7, 8, 9, 11, 12] ?_ ?_ rfl ?_ (by simp only [List.length_cons, List.length_nil]; decide) ?_).1
 · exact na_of hnA rfl
 · (repeat (first | exact trivial | (refine And.intro ⟨(by first | trivial | (simp; first | done | fail)), _, rfl, (by first | exact .rfl _ | exact .of_eq (ren_spt _ _).symm)⟩ ?_)))
 · (repeat (first | exact trivial | refine HFromL.skip ?_ | (refine And.intro ⟨(by first | trivial | (simp; first | done | fail)), (by first | rfl | (simp [renL_tbs, renL_bks, renL_vs, pend_ren]; first | done | fail))⟩ ?_)))
 · exact ⟨_, rfl, rfl, by simp [ls, TsOk, List.zip, List.zipWith]⟩
theorem rRecV_fc (x x2 : Rp) (n r : Nt) (ok : Bool) (hk : n.kind = 1) (hd : x.dead = false) (hv : n.view.toNat ≤ 4611686018427387904)
  (hon : FP G 61 [.ptr 2 0, .agg (ntA n)] (rpH x) (.tup [.agg (ntA r), .v (.bool ok)]) (rpV x2)) :
  FP G 30 [.ptr 2 0, .agg (ntA n)] (rpH x) (.tup [.agg (ntA r), .v (.bool ok)]) (rpV x2) := by
 have e1 : U64 n.view = (n.view.toNat : Int) := rfl
 obtain ⟨d, s, c, lost, tr, bs, vo, lk, lid, me, ks, seed, n', view, tm, prop, sg, dead⟩ := x
 replace hd : dead = false := hd
 subst hd
 refine FC.of_wpc [(4, some 46), (5, none)] Tryz.func30 rfl rfl rfl rfl (by exact ⟨_, rfl, ⟨_, _, rfl, rfl, rfl, rfl⟩, trivial, trivial⟩) ⟨rfl, nt_bel _ n, trivial⟩ (rp_bel _ blt10 _) (Nat.le_of_ble_eq_true rfl) ?_
 intro A hG hnA hAB
 unfold start
 refine WP.rs hG (Ch.p1 rfl (OpS.boxS) rfl (Ch.a0 (OpS.alloc 10 rfl rfl rfl) rfl rfl (Ch.asg rfl rfl (Ch.nil (WP.seq (WP.rs hG (Ch.mv rfl rfl (Ch.p1 rfl (OpS.nilCheckP) rfl (Ch.p1 rfl (OpS.fieldAddr rfl rfl rfl rfl) rfl ?_)))))))))
 refine Ch.q1 rfl (OpS.loadP rfl rfl rfl) rfl rfl (Ch.mv rfl rfl (Ch.g1 rfl rfl rfl (OpS.fieldAddrS rfl rfl rfl rfl rfl) rfl (Ch.g1 rfl rfl rfl (OpS.loadS rfl rfl) rfl (Ch.g2 rfl rfl rfl rfl (OpS.gtrF (by omega)) rfl ?_))))
 refine Ch.p2 rfl rfl (OpS.pickF) rfl (Ch.nil (WP.cond_false rfl (WP.skip (WP.seq (WP.rs hG (Ch.p1 rfl (OpS.fieldAddrS rfl rfl rfl rfl rfl) rfl (Ch.p1 rfl (OpS.loadS rfl rfl) rfl (Ch.nil (WP.block ?_)))))))))
 refine WP.rs hG (Ch.p2 rfl rfl (OpS.eqlT hk) rfl (Ch.asg rfl rfl (Ch.nil (WP.cond_true rfl (WP.rs hG (Ch.mv rfl rfl (Ch.p1 rfl (OpS.loadSA rfl rfl rfl) rfl ?_)))))))
 refine Ch.cH (hon) [0,1,2,3,4,5,6,7,8,9] 11 gdN (.cons rfl (.cons rfl .nil)) (.c (.rfl _) (.c (.of_eq (ren_nt _ _).symm) .n)) rfl (by refine ⟨?_, ?_, ?_, ?_⟩ <;> first | ((conv => lhs; simp only [nrmA, Nat.reduceAdd, renL_tbs, renL_tb1, renL_bks, renL_b1, renL_vs, renL_v1, ren_vt, pend_ren, ren_ss]); all_goals rfl) | rfl) (by exact ⟨rfl, rfl, rfl, rfl, rfl, rfl, rfl, rfl, rfl, rfl, trivial⟩) (by exact ⟨rfl, rfl, rfl, trivial⟩) rfl ?_
 refine Ch.p1 rfl (OpS.extract rfl) rfl (Ch.p1 rfl (OpS.extract rfl) rfl (Ch.ws rfl rfl (OpS.storePA (cs := ntA nt0) (c := .agg (ntA r)) rfl rfl (nt_one r) (by exact Nat.le_refl 9)) rfl ?_))
 refine Ch.asg rfl rfl (Ch.nil (WP.from (SEnt.frz (t := 4) rfl rfl) (WP.ret ?_)))
 refine (Ret.of (rs := [4, 5]) (vs := [.sptr (ntA r), .v (.bool ok)]) (H' := rpV x2) (res := .tup [.sptr (ntA r), .v (.bool ok)]) [0, 1, 2, 3, 4, 5, 6, 7, 8, 9, 11, 12, 13] ?_ ?_ rfl ?_ (by simp only [List.length_cons, List.length_nil]; decide) ?_).1
 · exact na_of hnA rfl
 · (repeat (first | exact trivial | (refine And.intro ⟨(by first | trivial | (simp; first | done | fail)), _, rfl, (by first | exact .rfl _ | exact .of_eq (ren_spt _ _).symm)⟩ ?_)))
 · (repeat (first | exact trivial | refine HFromL.skip ?_ | (refine And.intro ⟨(by first | trivial | (simp; first | done | fail)), (by first | rfl | (simp [renL_tbs, renL_bks, renL_vs, pend_ren]; first | done | fail))⟩ ?_)))
 · exact ⟨_, rfl, rfl, by simp [ls, TsOk, List.zip, List.zipWith]⟩
end
end Go.Proofs.YtpnbpcopdckgpaaGreatDoor.E
end
section
namespace Go.Proofs.YtpnbpcopdckgpaaGreatDoor.E
open Go Go.RowKit Go.Proofs.YtpnbpcopdckgpaaGreatDoor.V
attribute [local go_sem] B_size B_append B_extract mk_B B_toList take_drop_len List.length_drop List.length_take sgn32 sgn64 add32 sub32 mul32 add64 sub64 mul64 mul64_8 and32 or32 xor32 and64 or64 xor64 shl32_run shr32_run shl64_run shr64_run not32 not32' xor32_all w_u32_u8 w_u64_u8 w_i64_u8 w_u8_u32 w_u8_u64 w_u32_u64 w_u64_u32 w_u8_u8 w_u32_u32 w_u64_u64
attribute [local go_sem ↓] run_index_B' add32 sub32 mul32 add64 sub64 mul64 mul64_8 and32 or32 xor32 and64 or64 xor64 shl32_run shr32_run shl64_run shr64_run not32 not32' xor32_all w_u32_u8 w_u64_u8 w_i64_u8 w_u8_u32 w_u8_u64 w_u32_u64 w_u64_u32 w_u8_u8 w_u32_u32 w_u64_u64 w_u64_nat w_u32_nat w_u8_nat
set_option maxRecDepth 4000
set_option maxRecDepth 4000
--NRM renL_tbs, renL_tb1, renL_bks, renL_b1, renL_vs, renL_v1, ren_vt, pend_ren, ren_ss
--WKX exact .of_eq (ren_ss _ _).symm | exact .of_eq (ren_nt _ _).symm | exact .of_eq (ren_spt _ _).symm
def turnN (x : Rp) (i0 : Txt) : Nt := ⟨3, (x.me : Int), (leadT (x.view + 1) : Int), x.view + 1, i0, [], [], [], none⟩
def propN (x : Rp) (i0 pl : Txt) : Nt := ⟨1, (x.me : Int), -1, x.view, idT x.view i0 pl, i0, pl, [], none⟩
attribute [local irreducible] sum tag input beS rdNum rdText leavesT f64 tb sigT firstT leadT mayT lkT recT idT
section
variable {G : List (Nat × Array Value)}
theorem rSigned_fc (x : Rp) (k : Nat) (hk : x.sg.length = k + 1) (h9 : k ≤ 1000) : FP G 34 [.ptr 2 0] (rpH x) (.sl none (k + 1) (x.sg.map sA)) (rpH x) := by
 have hc := sClone_fc (G := G) x.sg k hk h9
 have hc' : FP G 58 [.sl none x.sg.length (x.sg.map sA)] [] (.sl none (k + 1) (x.sg.map sA)) [] := by rw [hk]; exact hc
 refine FC.of_wp [2] Tryz.func34 rfl rfl rfl rfl ⟨rfl, trivial⟩ (rp_bel _ blt10 x) (Nat.le_of_ble_eq_true rfl) ?_
 intro A hG hnA hAB
 unfold start
 refine WP.rs hG (Ch.asg rfl rfl (Ch.nil (WP.rs hG (Ch.mv rfl rfl (Ch.p1 rfl (OpS.nilCheckP) rfl (Ch.p1 rfl (OpS.fieldAddr rfl rfl rfl rfl) rfl (Ch.q1 rfl (OpS.loadP rfl rfl rfl) rfl rfl (Ch.callS (hc') gdN (.cons rfl .nil) (.c (AV.wk.sh (renL_s _ _)) .n) (by simp) rfl ?_))))))))
 refine Ch.asg rfl rfl (Ch.nil (WP.ret ?_))
 refine (Ret.of (rs := [2]) (vs := [.sl none (k + 1) (x.sg.map sA)]) (H' := rpH x) (res := .sl none (k + 1) (x.sg.map sA)) [0, 1, 2, 3, 4, 5, 6, 7, 8, 9] ?_ ?_ rfl ?_ (by simp only [List.length_cons, List.length_nil]; decide) ?_).1
 · exact na_of hnA rfl
 · (repeat (first | exact trivial | (refine And.intro ⟨(by (simp; first | done | fail)), _, rfl, (by exact .of_eq (by simp [renL_s]; first | done | fail))⟩ ?_)))
 · (repeat (first | exact trivial | refine HFromL.skip ?_ | (refine And.intro ⟨(by first | trivial | (simp; first | done | fail)), (by first | rfl | (simp [renL_tbs, renL_bks, renL_vs, pend_ren, renL_s]; first | done | fail))⟩ ?_)))
 · rfl
theorem rSigned0_fc (x : Rp) (hk : x.sg = []) : FP G 34 [.ptr 2 0] (rpH x) (.sl none 0 []) (rpH x) := by
 obtain ⟨d, s, c, lost, tr, bs, vo, lk, lid, me, ks, seed, n', view, tm, prop, sg, dead⟩ := x
 replace hk : sg = [] := hk
 subst hk
 refine FC.of_wp [2] Tryz.func34 rfl rfl rfl rfl ⟨rfl, trivial⟩ (rp_bel _ blt10 _) (Nat.le_of_ble_eq_true rfl) ?_
 intro A hG hnA hAB
 unfold start
 refine WP.rs hG (Ch.asg rfl rfl (Ch.nil (WP.rs hG (Ch.mv rfl rfl (Ch.p1 rfl (OpS.nilCheckP) rfl (Ch.p1 rfl (OpS.fieldAddr rfl rfl rfl rfl) rfl (Ch.q1 rfl (OpS.loadP rfl rfl rfl) rfl rfl ?_)))))))
 refine Ch.cH (sClone0_fc) [9] 10 gdN (.cons rfl .nil) (.c (.rfl _) .n) rfl (by refine ⟨?_, ?_, ?_, ?_⟩ <;> first | ((conv => lhs; simp only [nrmA, Nat.reduceAdd, renL_tbs, renL_tb1, renL_bks, renL_b1, renL_vs, renL_v1, ren_vt, pend_ren, ren_ss]); all_goals rfl) | rfl) (by exact ⟨rfl, trivial⟩) (by exact trivial) rfl ?_
 refine Ch.asg rfl rfl (Ch.nil (WP.ret ?_))
 refine (Ret.of (rs := [2]) (vs := [.sl none 0 []]) (H' := rpH ⟨d, s, c, lost, tr, bs, vo, lk, lid, me, ks, seed, n', view, tm, prop, [], dead⟩) (res := .sl none 0 []) [0, 1, 2, 3, 4, 5, 6, 7, 8, 9] ?_ ?_ rfl ?_ (by simp only [List.length_cons, List.length_nil]; decide) ?_).1
 · exact na_of hnA rfl
 · (repeat (first | exact trivial | (refine And.intro ⟨(by (simp; first | done | fail)), _, rfl, (by exact .rfl _)⟩ ?_)))
 · (repeat (first | exact trivial | refine HFromL.skip ?_ | (refine And.intro ⟨(by first | trivial | (simp; first | done | fail)), (by first | rfl | (simp [renL_tbs, renL_bks, renL_vs, pend_ren]; first | done | fail))⟩ ?_)))
 · rfl
theorem rTurn_fc (x : Rp) (hd : x.dead = false) (i0 : Txt) (hb : 0 < x.bs.length) (hi : (el x.bs 0).1 = i0) : FP G 28 [.ptr 2 0] (rpH x) (.tup [.agg (ntA (turnN x i0)), .v (.bool true)]) (rpH { x with view := x.view + 1 }) := by
 obtain ⟨d, s, c, lost, tr, bs, vo, lk, lid, me, ks, seed, n', view, tm, prop, sg, dead⟩ := x
 replace hd : dead = false := hd
 subst hd
 replace hi : (el bs 0).1 = i0 := hi
 replace hb : 0 < bs.length := hb
 subst hi
 have fl := rLead_fc (G := G) (view + 1)
 refine FC.of_wpc [(2, some 46), (3, none)] Tryz.func28 rfl rfl rfl rfl (by exact ⟨_, rfl, ⟨_, _, rfl, rfl, rfl, rfl⟩, trivial, trivial⟩) ⟨rfl, trivial⟩ (rp_bel _ blt10 _) (Nat.le_of_ble_eq_true rfl) ?_
 intro A hG hnA hAB
 unfold start
 refine WP.rs hG (Ch.a0 (OpS.alloc 10 rfl rfl rfl) rfl rfl (Ch.asg rfl rfl (Ch.nil (WP.seq (WP.rs hG (Ch.mv rfl rfl (Ch.p1 rfl (OpS.nilCheckP) rfl (Ch.p1 rfl (OpS.fieldAddr rfl rfl rfl rfl) rfl (Ch.q1 rfl (OpS.loadP rfl rfl rfl) rfl rfl ?_)))))))))
 refine Ch.nil (WP.cond_false rfl (WP.skip (WP.rs hG (Ch.mv rfl rfl (Ch.p1 rfl (OpS.nilCheckP) rfl (Ch.p1 rfl (OpS.fieldAddr rfl rfl rfl rfl) rfl (Ch.q1 rfl (OpS.loadP rfl rfl rfl) rfl rfl (Ch.p2 rfl rfl (OpS.int (op := .add) (v' := .int .u64 (U64 (view + 1))) rfl (u64_succ _)) rfl (Ch.p1 rfl (OpS.nilCheckP) rfl ?_)))))))))
 refine Ch.p1 rfl (OpS.fieldAddr rfl rfl rfl rfl) rfl (Ch.ws rfl rfl (OpS.storeP (cs := rpC ⟨d, s, c, lost, tr, bs, vo, lk, lid, me, ks, seed, n', view, tm, prop, sg, false⟩ 5 9) rfl rfl rfl (by simp)) rfl ?_)
 refine Ch.nil (WP.rsD (by kernel_rfl) hG (Ch.mv rfl rfl (Ch.p1 rfl (OpS.nilCheckP) rfl (Ch.p1 rfl (OpS.fieldAddr rfl rfl rfl rfl) rfl (Ch.q1 rfl (OpS.loadP rfl rfl rfl) rfl rfl (Ch.mv rfl rfl (Ch.p1 rfl (OpS.nilCheckP) rfl (Ch.p1 rfl (OpS.fieldAddr rfl rfl rfl rfl) rfl (Ch.q1 rfl (OpS.loadP rfl rfl rfl) rfl rfl ?_)))))))))
 refine Ch.callP (fl) gdN (.cons rfl .nil) (.c (.rfl _) .n) (by rfl) rfl ?_
 refine Ch.mv rfl rfl (Ch.p1 rfl (OpS.nilCheckP) rfl (Ch.p1 rfl (OpS.fieldAddr rfl rfl rfl rfl) rfl (Ch.q1 rfl (OpS.loadP rfl rfl rfl) rfl rfl (Ch.mv rfl rfl (Ch.p1 rfl (OpS.nilCheckP) rfl (Ch.p1 rfl (OpS.fieldAddr rfl rfl rfl rfl) rfl (Ch.p1 rfl (OpS.fieldAddr rfl rfl rfl rfl) rfl (Ch.q1 rfl (OpS.loadP rfl rfl rfl) rfl rfl (Ch.mv rfl rfl ?_)))))))))
 refine Ch.p1 rfl (OpS.nilCheckP) rfl (Ch.p1 rfl (OpS.fieldAddr rfl rfl rfl rfl) rfl (Ch.q1 rfl (OpS.loadP rfl rfl rfl) rfl rfl (Ch.p2 rfl rfl (OpS.indexF (j := 0) rfl rfl rfl bkA_len (by decide) rfl (by decide) (by show (0 : Int) < (bs.length : Int); omega) rfl) rfl ?_)))
 refine Ch.p1 rfl (OpS.fieldAddrS rfl rfl rfl rfl rfl) rfl (Ch.p1 rfl (OpS.loadS rfl rfl) rfl (Ch.mv rfl rfl (Ch.p1 rfl (OpS.nilCheckP) rfl (Ch.p1 rfl (OpS.fieldAddr rfl rfl rfl rfl) rfl (Ch.q1 rfl (OpS.loadP rfl rfl rfl) rfl rfl (Ch.callP (sCloneN_fc) gdN (.cons rfl .nil) (.c (.rfl _) .n) (by rfl) rfl ?_))))))
 refine Ch.pup gdN (by repeat (first | exact EvP.nil | (apply EvP.cons; exact rfl))) (OpS.build (cs := ntA (turnN ⟨d, s, c, lost, tr, bs, vo, lk, lid, me, ks, seed, n', view, tm, prop, sg, false⟩ (el bs 0).1)) rfl rfl rfl rfl rfl (by rfl)) rfl ?_
 refine Ch.ws rfl rfl (OpS.storePA (cs := ntA nt0) (c := .agg (ntA (turnN ⟨d, s, c, lost, tr, bs, vo, lk, lid, me, ks, seed, n', view, tm, prop, sg, false⟩ (el bs 0).1))) rfl rfl rfl (by exact Nat.le_refl 9)) rfl ?_
 refine Ch.asg rfl rfl (Ch.nilD ?_ (by kernel_rfl))
 refine WP.from (SEnt.frz (t := 2) rfl rfl) (WP.ret ?_)
 refine (Ret.of (rs := [2, 3]) (vs := [.sptr (ntA (turnN ⟨d, s, c, lost, tr, bs, vo, lk, lid, me, ks, seed, n', view, tm, prop, sg, false⟩ (el bs 0).1)), .v (.bool true)]) (H' := rpH ⟨d, s, c, lost, tr, bs, vo, lk, lid, me, ks, seed, n', view + 1, tm, prop, sg, false⟩) (res := .tup [.sptr (ntA (turnN ⟨d, s, c, lost, tr, bs, vo, lk, lid, me, ks, seed, n', view, tm, prop, sg, false⟩ (el bs 0).1)), .v (.bool true)]) [0, 1, 2, 3, 4, 5, 6, 7, 8, 9] ?_ ?_ rfl ?_ (by simp only [List.length_cons, List.length_nil]; decide) ?_).1
 · exact na_of hnA rfl
 · (repeat (first | exact trivial | (refine And.intro ⟨(by trivial), _, rfl, .rfl _⟩ ?_)))
 · (repeat (first | exact trivial | refine HFromL.skip ?_ | (refine And.intro ⟨(by first | trivial | (simp; first | done | fail)), (by first | rfl | (simp [renL_tbs, renL_bks, renL_vs, pend_ren]; first | done | fail))⟩ ?_)))
 · exact ⟨_, rfl, rfl, by simp [ls, TsOk, List.zip, List.zipWith]⟩
theorem rPropV_fc (hsha : ShaIn G) (x : Rp) (hd : x.dead = false) (i0 pl : Txt) (hb : 0 < x.bs.length) (hi : (el x.bs 0).1 = i0) (h32 : i0.length ≤ 1000) (hme : leadT x.view = x.me) (hpll : pl.length ≤ 200) (hpr : x.prop.toNat < x.view.toNat) (htr : 0 < x.tr.length ∧ x.tr.length ≤ 256) (hv0 : vwT x.tr 0 = 0) (hvw : x.view = 1) : FP G 29 [.ptr 2 0, sA pl] (rpH x) (.tup [.agg (ntA (propN x i0 pl)), .v (.bool true)]) (rpH { x with prop := x.view }) := by
 obtain ⟨d, s, c, lost, tr, bs, vo, lk, lid, me, ks, seed, n', view, tm, prop, sg, dead⟩ := x
 replace hd : dead = false := hd
 subst hd
 replace hi : (el bs 0).1 = i0 := hi
 replace hb : 0 < bs.length := hb
 replace hme : leadT view = me := hme
 replace hpr : prop.toNat < view.toNat := hpr
 have e1 : U64 prop = (prop.toNat : Int) := rfl
 have e2 : U64 view = (view.toNat : Int) := rfl
 subst hi
 have fl := rLead_fc (G := G) view
 have fv := tView_fc (G := G) tr 0 htr.1 htr.2
 rw [show vwT tr 0 = 0 from hv0] at fv
 replace hvw : view = 1 := hvw
 have fi := rID_fc hsha view (el bs 0).1 pl (by omega)
 have hsub : Value.int .u64 (IntKind.u64.wrap (U64 view - 1)) = .int .u64 0 := by rw [hvw]; exact congrArg (Value.int .u64) (by decide +kernel)
 refine FC.of_wpc [(4, some 46), (5, none)] Tryz.func29 rfl rfl rfl rfl (by exact ⟨_, rfl, ⟨_, _, rfl, rfl, rfl, rfl⟩, trivial, trivial⟩) ⟨rfl, trivial, trivial⟩ (rp_bel _ blt10 _) (Nat.le_of_ble_eq_true rfl) ?_
 intro A hG hnA hAB
 unfold start
 refine WP.rs hG (Ch.a0 (OpS.alloc 10 rfl rfl rfl) rfl rfl (Ch.asg rfl rfl (Ch.nil (WP.seq (WP.block (WP.rsD (by kernel_rfl) hG (Ch.mv rfl rfl (Ch.p1 rfl (OpS.nilCheckP) rfl (Ch.p1 rfl (OpS.fieldAddr rfl rfl rfl rfl) rfl ?_)))))))))
 refine Ch.q1 rfl (OpS.loadP rfl rfl rfl) rfl rfl (Ch.mv rfl rfl (Ch.gm rfl rfl rfl rfl (Ch.g1 rfl rfl rfl (OpS.nilCheckP) rfl (Ch.g1 rfl rfl rfl (OpS.fieldAddr rfl rfl rfl rfl) rfl (Ch.pu (by exact gdT rfl rfl) (by exact ⟨rfl, trivial⟩) (OpS.loadP rfl rfl rfl) (by exact ⟨rfl, trivial⟩) rfl ?_)))))
 refine Ch.callP (fl) (gdT rfl rfl) (.cons rfl .nil) (.c (.rfl _) .n) (by rfl) rfl ?_
 refine Ch.gm rfl rfl rfl rfl (Ch.g1 rfl rfl rfl (OpS.nilCheckP) rfl (Ch.g1 rfl rfl rfl (OpS.fieldAddr rfl rfl rfl rfl) rfl (Ch.pu (by exact gdT rfl rfl) (by exact ⟨rfl, trivial⟩) (OpS.loadP rfl rfl rfl) (by exact ⟨rfl, trivial⟩) rfl ?_)))
 refine Ch.g2 rfl rfl rfl rfl (OpS.neqF (show (leadT view : Int) = (me : Int) by omega)) rfl ?_
 refine Ch.p2 rfl rfl (OpS.pickF) rfl (Ch.mv rfl rfl (Ch.gm rfl rfl rfl rfl (Ch.g1 rfl rfl rfl (OpS.lenS rfl) rfl (Ch.g2 rfl rfl rfl rfl (OpS.gtrF (by omega)) rfl ?_))))
 refine Ch.p2 rfl rfl (OpS.pickF) rfl (Ch.mv rfl rfl (Ch.gm rfl rfl rfl rfl (Ch.g1 rfl rfl rfl (OpS.nilCheckP) rfl (Ch.g1 rfl rfl rfl (OpS.fieldAddr rfl rfl rfl rfl) rfl (Ch.pu (by exact gdT rfl rfl) (by exact ⟨rfl, trivial⟩) (OpS.loadP rfl rfl rfl) (by exact ⟨rfl, trivial⟩) rfl ?_)))))
 refine Ch.gm rfl rfl rfl rfl (Ch.g1 rfl rfl rfl (OpS.nilCheckP) rfl (Ch.g1 rfl rfl rfl (OpS.fieldAddr rfl rfl rfl rfl) rfl (Ch.pu (by exact gdT rfl rfl) (by exact ⟨rfl, trivial⟩) (OpS.loadP rfl rfl rfl) (by exact ⟨rfl, trivial⟩) rfl ?_)))
 refine Ch.g2 rfl rfl rfl rfl (OpS.geqF (show ¬ U64 prop ≥ U64 view by omega)) rfl ?_
 refine Ch.p2 rfl rfl (OpS.pickF) rfl (Ch.asg rfl rfl (Ch.nilD ?_ (by kernel_rfl)))
 refine WP.cond_false rfl (WP.rsD (by kernel_rfl) hG (Ch.mv rfl rfl (Ch.p1 rfl (OpS.nilCheckP) rfl (Ch.p1 rfl (OpS.fieldAddr rfl rfl rfl rfl) rfl (Ch.p1 rfl (OpS.fieldAddr rfl rfl rfl rfl) rfl (Ch.q1 rfl (OpS.loadP rfl rfl rfl) rfl rfl (Ch.mv rfl rfl (Ch.p1 rfl (OpS.nilCheckP) rfl (Ch.p1 rfl (OpS.fieldAddr rfl rfl rfl rfl) rfl ?_)))))))))
 refine Ch.q1 rfl (OpS.loadP rfl rfl rfl) rfl rfl ?_
 refine Ch.cH (fv) [3,4] 11 gdN (.cons rfl (.cons rfl .nil)) (.c (.rfl _) (.c (.rfl _) .n)) rfl (by refine ⟨?_, ?_, ?_, ?_⟩ <;> first | ((conv => lhs; simp only [nrmA, Nat.reduceAdd, renL_tbs, renL_tb1, renL_bks, renL_b1, renL_vs, renL_v1, ren_vt, pend_ren, ren_ss]); all_goals rfl) | rfl) (by exact ⟨rfl, rfl, trivial⟩) (by exact trivial) rfl ?_
 refine Ch.mv rfl rfl (Ch.p1 rfl (OpS.nilCheckP) rfl (Ch.p1 rfl (OpS.fieldAddr rfl rfl rfl rfl) rfl (Ch.q1 rfl (OpS.loadP rfl rfl rfl) rfl rfl (Ch.p2 rfl rfl (OpS.int (op := .sub) (v' := .int .u64 0) rfl hsub) rfl (Ch.p2 rfl rfl (OpS.int (op := .neq) (v' := .bool false) rfl rfl) rfl (Ch.mv rfl rfl (Ch.skU (gdF rfl rfl rfl) rfl (Ch.skU (gdF rfl rfl rfl) rfl (Ch.skU (gdF rfl rfl rfl) rfl ?_)))))))))
 refine Ch.skU (gdF rfl rfl rfl) rfl (Ch.skU (gdF rfl rfl rfl) rfl (Ch.skU (gdF rfl rfl rfl) rfl (Ch.skU (gdF rfl rfl rfl) rfl (Ch.skU (gdF rfl rfl rfl) rfl (Ch.skU (gdF rfl rfl rfl) rfl (Ch.skU (gdF rfl rfl rfl) rfl (Ch.skU (gdF rfl rfl rfl) rfl (Ch.p2 rfl rfl (OpS.pickF) rfl (Ch.asg rfl rfl ?_)))))))))
 refine Ch.nilD ?_ (by kernel_rfl)
 refine WP.cond_false rfl (WP.skip (WP.rs hG (Ch.mv rfl rfl (Ch.mv rfl rfl (Ch.p1 rfl (OpS.nilCheckP) rfl (Ch.p1 rfl (OpS.fieldAddr rfl rfl rfl rfl) rfl (Ch.q1 rfl (OpS.loadP rfl rfl rfl) rfl rfl (Ch.p1 rfl (OpS.nilCheckP) rfl (Ch.p1 rfl (OpS.fieldAddr rfl rfl rfl rfl) rfl ?_)))))))))
 refine Ch.ws rfl rfl (OpS.storeP (cs := rpC ⟨d, s, c, lost, tr, bs, vo, lk, lid, me, ks, seed, n', view, tm, prop, sg, false⟩ 5 9) rfl rfl rfl (by simp)) rfl ?_
 refine Ch.nil (WP.rsD (by kernel_rfl) hG (Ch.mv rfl rfl (Ch.p1 rfl (OpS.nilCheckP) rfl (Ch.p1 rfl (OpS.fieldAddr rfl rfl rfl rfl) rfl (Ch.q1 rfl (OpS.loadP rfl rfl rfl) rfl rfl (Ch.mv rfl rfl (Ch.p1 rfl (OpS.nilCheckP) rfl (Ch.p1 rfl (OpS.fieldAddr rfl rfl rfl rfl) rfl (Ch.q1 rfl (OpS.loadP rfl rfl rfl) rfl rfl ?_)))))))))
 refine Ch.mv rfl rfl (Ch.p1 rfl (OpS.nilCheckP) rfl (Ch.p1 rfl (OpS.fieldAddr rfl rfl rfl rfl) rfl (Ch.p1 rfl (OpS.fieldAddr rfl rfl rfl rfl) rfl (Ch.q1 rfl (OpS.loadP rfl rfl rfl) rfl rfl (Ch.mv rfl rfl (Ch.p1 rfl (OpS.nilCheckP) rfl (Ch.p1 rfl (OpS.fieldAddr rfl rfl rfl rfl) rfl (Ch.q1 rfl (OpS.loadP rfl rfl rfl) rfl rfl (Ch.p2 rfl rfl (OpS.indexF (j := 0) rfl rfl rfl bkA_len (by decide) rfl (by decide) (by show (0 : Int) < (bs.length : Int); omega) rfl) rfl ?_)))))))))
 refine Ch.p1 rfl (OpS.fieldAddrS rfl rfl rfl rfl rfl) rfl (Ch.p1 rfl (OpS.loadS rfl rfl) rfl (Ch.mv rfl rfl (Ch.mv rfl rfl (Ch.p1 rfl (OpS.nilCheckP) rfl (Ch.p1 rfl (OpS.fieldAddr rfl rfl rfl rfl) rfl (Ch.q1 rfl (OpS.loadP rfl rfl rfl) rfl rfl (Ch.callP (sCloneN_fc) gdN (.cons rfl .nil) (.c (.rfl _) .n) (by rfl) rfl ?_)))))))
 refine Ch.pup gdN (by repeat (first | exact EvP.nil | (apply EvP.cons; exact rfl))) (OpS.build (cs := ntA ⟨1, (me : Int), -1, view, [], (el bs 0).1, pl, [], none⟩) rfl rfl rfl rfl rfl (by rfl)) rfl ?_
 refine Ch.a0 (OpS.alloc 11 rfl rfl rfl) rfl rfl (Ch.ws rfl rfl (OpS.storePA (cs := ntA nt0) (c := .agg (ntA ⟨1, (me : Int), -1, view, [], (el bs 0).1, pl, [], none⟩)) rfl rfl rfl (by exact Nat.le_refl 9)) rfl ?_)
 refine Ch.nilD ?_ (by kernel_rfl)
 refine WP.rs hG (Ch.p1 rfl (OpS.fieldAddr rfl rfl rfl rfl) rfl (Ch.q1 rfl (OpS.loadP rfl rfl rfl) rfl rfl (Ch.p1 rfl (OpS.fieldAddr rfl rfl rfl rfl) rfl (Ch.q1 rfl (OpS.loadP rfl rfl rfl) rfl rfl (Ch.mv rfl rfl (Ch.callP (fi) gdN (.cons rfl (.cons rfl (.cons rfl .nil))) (.c (.rfl _) (.c (.rfl _) (.c (.rfl _) .n))) (by rfl) rfl ?_))))))
 refine Ch.p1 rfl (OpS.fieldAddr rfl rfl rfl rfl) rfl (Ch.ws rfl rfl (OpS.storeP (cs := ntA ⟨1, (me : Int), -1, view, [], (el bs 0).1, pl, [], none⟩) rfl rfl rfl (by exact Nat.le_of_ble_eq_true rfl)) rfl ?_)
 refine Ch.nil (WP.rs hG (Ch.q1 rfl (OpS.loadPA (off := 0) (sz := 9) (cs := ntA (propN ⟨d, s, c, lost, tr, bs, vo, lk, lid, me, ks, seed, n', view, tm, prop, sg, false⟩ (el bs 0).1 pl)) rfl rfl rfl rfl (by exact Nat.le_refl 9)) rfl rfl ?_))
 refine Ch.ws rfl rfl (OpS.storePA (cs := ntA nt0) (c := .agg (ntA (propN ⟨d, s, c, lost, tr, bs, vo, lk, lid, me, ks, seed, n', view, tm, prop, sg, false⟩ (el bs 0).1 pl))) rfl rfl rfl (by exact Nat.le_refl 9)) rfl ?_
 refine Ch.asg rfl rfl (Ch.nil (WP.from (SEnt.frz (t := 4) rfl rfl) (WP.ret ?_)))
 refine (Ret.of (rs := [4, 5]) (vs := [.sptr (ntA (propN ⟨d, s, c, lost, tr, bs, vo, lk, lid, me, ks, seed, n', view, tm, prop, sg, false⟩ (el bs 0).1 pl)), .v (.bool true)]) (H' := rpH ⟨d, s, c, lost, tr, bs, vo, lk, lid, me, ks, seed, n', view, tm, view, sg, false⟩) (res := .tup [.sptr (ntA (propN ⟨d, s, c, lost, tr, bs, vo, lk, lid, me, ks, seed, n', view, tm, prop, sg, false⟩ (el bs 0).1 pl)), .v (.bool true)]) [0, 1, 2, 3, 4, 5, 6, 7, 8, 9] ?_ ?_ rfl ?_ (by simp only [List.length_cons, List.length_nil]; decide) ?_).1
 · exact na_of hnA rfl
 · (repeat (first | exact trivial | (refine And.intro ⟨(by trivial), _, rfl, .rfl _⟩ ?_)))
 · (repeat (first | exact trivial | refine HFromL.skip ?_ | (refine And.intro ⟨(by first | trivial | (simp; first | done | fail)), (by first | rfl | (simp [renL_tbs, renL_bks, renL_vs, pend_ren]; first | done | fail))⟩ ?_)))
 · exact ⟨_, rfl, rfl, by simp [ls, TsOk, List.zip, List.zipWith]⟩
end
end Go.Proofs.YtpnbpcopdckgpaaGreatDoor.E
end
section
namespace Go.Proofs.YtpnbpcopdckgpaaGreatDoor.E
open Go Go.RowKit Go.Proofs.YtpnbpcopdckgpaaGreatDoor.V
set_option maxRecDepth 4000
def RefInT (G : List (Nat × Array Value)) : Prop := (3, kArr) ∈ G ∧ (2, V.first.cells) ∈ G

theorem rmay_fc {G : List (Nat × Array Value)} (n : Nat) : FP G 114 [.v (.int .i64 (n : Int))] [] (.v (.bool (mayN n))) [] := by
 refine FC.of_wp [2] Tryz.func114 rfl rfl rfl rfl (by trivial) (by trivial) (Nat.le_of_ble_eq_true rfl) ?_
 intro A hG hnA hAB
 unfold start
 refine WP.rs hG (Ch.asg rfl rfl (Ch.nil (WP.seq (WP.rs hG (Ch.asg rfl rfl (Ch.nil (WP.block ?_)))))))
 refine WP.loop (fun k σ => ∃ m : Nat, (m + k = 8 ∧ ∀ j, j < m → n ≠ 2 ^ j) ∧ σ = ⟨11, ls [(0, .v (.int .i64 (n : Int))), (3, .v (.int .i64 ((2 ^ m : Nat) : Int)))], lh [], blt 0⟩) (8) (Ent.of [] ?_ ?_ ?_ ?_).se ⟨0, ⟨by omega, fun _ h => absurd h (by omega)⟩, rfl⟩ ?_
 · exact na_of hnA rfl
 · (repeat (first | exact trivial | (refine And.intro ⟨(by trivial), _, rfl, .rfl _⟩ ?_)))
 · (repeat (first | exact trivial | (refine And.intro ⟨rfl, (by first | trivial | (simp; first | done | fail) | exact ⟨trivial, hbel _⟩), (by first | rfl | (simp; first | done | fail))⟩ ?_)))
 · exact nd_of rfl
 ·
  rintro k σ ⟨m, ⟨hm, hno⟩, rfl⟩
  have hp8 : 2 ^ m ≤ 256 := Nat.pow_le_pow_right (n := 2) (by decide) (show m ≤ 8 by omega)
  have hps : 2 ^ (m + 1) = 2 * 2 ^ m := by rw [Nat.pow_succ]; omega
  refine WP.seq (WP.rs hG (Ch.mv rfl rfl (Ch.p2 rfl rfl (OpS.int rfl (by exact rfl)) rfl ?_)))
  refine Ch.nil ?_
  refine WP.cond rfl ?_ ?_
  ·
   intro ht
   have ht' := of_decide_eq_true ht
   have hm7 : m ≤ 7 := by
    by_cases h8 : m = 8
    · subst h8; simp at ht'; first | done | omega
    · omega
   refine WP.skip (WP.seq (WP.block (WP.rs hG (Ch.mv rfl rfl (Ch.mv rfl rfl (Ch.p2 rfl rfl (OpS.int rfl (by exact rfl)) rfl ?_))))))
   refine Ch.nil ?_
   refine WP.cond rfl ?_ ?_
   ·
    intro ht
    have hn : n = 2 ^ m := by have := eq_of_beq ht; omega
    refine WP.rs hG (Ch.asg rfl rfl (Ch.nil ?_))
    exact WP.ret (Ret.one rfl (.of_eq (by rw [hn, mayN_pow hm7]; rfl)) trivial hnA)
   ·
    intro ht
    have hn : n ≠ 2 ^ m := fun e => by rw [e] at ht; simp at ht
    refine WP.skip (WP.rg hG (Ch.mv rfl rfl (Ch.p2 rfl rfl (OpS.int rfl (by exact wr64 (by omega))) rfl ?_)))
    refine Ch.asg rfl rfl (Ch.nil ?_)
    refine ⟨k - 1, _, by omega, (Ent.of [] ?_ ?_ ?_ ?_).se, m + 1, ⟨by omega, fun j hj => by by_cases e : j = m; exact e ▸ hn; exact hno j (by omega)⟩, rfl⟩
    · exact na_of hnA rfl
    · (repeat (first | exact trivial | (refine And.intro ⟨(by trivial), _, rfl, (by first | exact .rfl _ | exact .of_eq (by simp [hps]; first | done | fail))⟩ ?_)))
    · (repeat (first | exact trivial | (refine And.intro ⟨rfl, (by first | trivial | (simp; first | done | fail) | exact ⟨trivial, hbel _⟩), (by first | rfl | (simp [hps]; first | done | fail))⟩ ?_)))
    · exact nd_of rfl
  ·
   intro ht
   have ht' := of_decide_eq_false ht
   have hm8 : m = 8 := by
    by_cases h8 : m ≤ 7
    · have := Nat.pow_le_pow_right (n := 2) (by decide) h8; omega
    · omega
   refine WP.exit (WP.rs hG (Ch.asg rfl rfl (Ch.nil ?_)))
   have hf : mayN n = false := by
    cases h : mayN n with
    | false => rfl
    | true => obtain ⟨j, hj, he⟩ := mayN_iff.1 h; exact (hno j (by omega) he).elim
   exact WP.ret (Ret.one rfl (.of_eq (by rw [hf]; rfl)) trivial hnA)
theorem rmayT_fc {G : List (Nat × Array Value)} (n : Nat) (h : mayN n = true) : FP G 114 [.v (.int .i64 (n : Int))] [] (.v (.bool true)) [] := by
 have := rmay_fc (G := G) n
 rwa [h] at this
attribute [local irreducible] sum tag input node rootN pathN inputsN climbL climbedL
theorem rnode_fc {G : List (Nat × Array Value)} (hr : RefInT G) (a b : Txt) (h : a.length + b.length ≤ 140737488355300) : FP G 149 [sA a, sA b] [] (sA (node a b)) [] := by
 refine FC.of_wp [4] Tryz.func149 rfl rfl rfl rfl (by trivial) (by trivial) (Nat.le_of_ble_eq_true rfl) ?_
 intro A hG hnA hAB
 unfold start
 refine WP.rs hG (Ch.asg rfl rfl (Ch.nil (WP.rs hG (Ch.mv rfl rfl (Ch.mv rfl rfl (Ch.pup gdN (by repeat (first | exact EvP.nil | (apply EvP.cons; exact rfl))) (OpS.slice1 (ys := ([a, b] : List Txt).map sA) rfl rfl rfl rfl rfl rfl (by rfl) rfl (by rfl)) rfl ?_))))))
 refine Ch.callP (rtag_fc hr.1 hr.2 5 [a, b] (inp2_le h)) gdN (.cons rfl (.cons rfl .nil)) (.c (.rfl _) (.c (.rfl _) .n)) (by rfl) rfl ?_
 refine Ch.asg rfl rfl (Ch.nil ?_)
 exact WP.ret (Ret.one rfl (.of_eq (by unfold node; simp)) trivial hnA)
theorem above_fc0 {G : List (Nat × Array Value)} (hr : RefInT G) (l : List Txt) (hl : l.length ≤ 1000000) (hok : Mid l) :
  FP G 115 [.sl none l.length (l.map sA)] [] (.sl (some 0) (pairsL node l).length ((pairsL node l).map sA)) [some (.tip 9 1 (pairsL node l).length)] := by
 refine FC.of_wp [2] Tryz.func115 rfl rfl rfl rfl ⟨⟨by simp, belL_s _ _⟩, trivial⟩ trivial (Nat.le_of_ble_eq_true rfl) ?_
 intro A hG hnA hAB
 unfold start
 refine WP.rs hG (Ch.asg rfl rfl (Ch.nil (WP.rs hG (Ch.a1 rfl (OpS.assignTip 0 9 1) rfl rfl (Ch.nil (WP.seq (WP.rs hG (Ch.asg rfl rfl (Ch.nil ?_)))))))))
 refine WP.block ?_
 refine WP.loop (fun k σ => ∃ m ii : Nat, (ii = 2 * m ∧ m + k = l.length / 2) ∧ σ = ⟨26, ls [(0, .sl none l.length (l.map sA)), (3, .sl (some 0) m ((pairsL node (l.take (2 * m))).map sA)), (4, .v (.int .i64 (ii : Int)))], lh [(0, .tip 9 1 m)], blt 1⟩) (l.length / 2) (Ent.of [] ?_ ?_ ?_ ?_).se ⟨0, 0, by omega, rfl⟩ ?_
 · exact na_of hnA rfl
 · (repeat (first | exact trivial | (refine And.intro ⟨(by first | trivial | (simp; first | done | fail)), _, rfl, (by first | exact .rfl _ | exact .of_eq (by simp []; first | done | fail))⟩ ?_)))
 · (repeat (first | exact trivial | (refine And.intro ⟨rfl, (by trivial), (by rfl)⟩ ?_)))
 · exact nd_of rfl
 ·
  rintro k σ ⟨m, ii, ⟨hi, hm⟩, rfl⟩
  refine WP.seq (WP.rs hG (Ch.mv rfl rfl (Ch.p2 rfl rfl (OpS.int rfl (by exact wr64 (by omega))) rfl ?_)))
  refine Ch.mv rfl rfl (Ch.p1 rfl (OpS.len rfl) rfl (Ch.p2 rfl rfl (OpS.int rfl (by exact rfl)) rfl ?_))
  refine Ch.nil ?_
  refine WP.cond rfl ?_ ?_
  ·
   intro ht
   have ht' := of_decide_eq_true ht
   have hc := pairsL_step node l m (by omega)
   have hfm := rnode_fc hr (tget l (2 * m)) (tget l (2 * m + 1)) (hok.two (by omega) (by omega))
   have hpl : (pairsL node (l.take (2 * m))).length = m := by rw [pairsL_length, List.length_take]; omega
   have e1 : tget l (2 * m) = el l ii := by rw [hi]; rfl
   have e2 : tget l (2 * m + 1) = el l (ii + 1) := by rw [hi]; rfl
   rw [e1, e2] at hc hfm
   refine WP.skip (WP.seq (WP.block (WP.rgD (by kernel_rfl) hG (Ch.mv rfl rfl (Ch.mv rfl rfl (Ch.mv rfl rfl (Ch.p2 rfl rfl (OpS.indexM rfl rfl rfl (by with_reducible exact Int.toNat_natCast _) (by omega) (by omega) (by rfl)) rfl ?_)))))))
   refine Ch.p1 rfl (OpS.loadS rfl rfl) rfl (Ch.mv rfl rfl (Ch.mv rfl rfl (Ch.p2 rfl rfl (OpS.int rfl (by exact wr64 (by omega))) rfl ?_)))
   refine Ch.p2 rfl rfl (OpS.indexM rfl rfl rfl (by with_reducible exact tnLitA _ _) (by omega) (by omega) (by rfl)) rfl ?_
   refine Ch.p1 rfl (OpS.loadS rfl rfl) rfl (Ch.callP (hfm) gdN (.cons rfl (.cons rfl .nil)) (.c (.rfl _) (.c (.rfl _) .n)) (by rfl) rfl ?_)
   refine Ch.pup gdN (by repeat (first | exact EvP.nil | (apply EvP.cons; exact rfl))) (OpS.slice1 rfl rfl rfl rfl rfl rfl (by rfl) rfl (by rfl)) rfl ?_
   refine Ch.a2 rfl rfl (OpS.append (sz := 1) (bb := 16) 1 rfl rfl rfl rfl rfl (by decide) (SrcA.sl rfl (by simp)) (by (simp; assumption)) (by simp) (by unfold maxLen; omega) rfl (by omega)) rfl rfl rfl ?_
   refine Ch.asg rfl rfl (Ch.nilD ?_ (by kernel_rfl))
   refine WP.rg hG (Ch.mv rfl rfl (Ch.p2 rfl rfl (OpS.int rfl (by exact wr64 (by omega))) rfl ?_))
   refine Ch.asg rfl rfl (Ch.nil ?_)
   refine ⟨k - 1, _, by omega, (Ent.of [1] ?_ ?_ ?_ ?_).se, m + 1, ii + 2, by omega, rfl⟩
   · exact na_of hnA rfl
   · (repeat (first | exact trivial | (refine And.intro ⟨(by first | trivial | (simp; first | done | fail)), _, rfl, (by first | exact .rfl _ | exact .of_eq (by simp [hc]; first | done | fail))⟩ ?_)))
   · (repeat (first | exact trivial | (refine And.intro ⟨rfl, (by trivial), (by rfl)⟩ ?_)))
   · exact nd_of rfl
  ·
   intro ht
   have ht' := of_decide_eq_false ht
   have hc := pairsL_last node l m (by omega) (by omega)
   have hpl : (pairsL node l).length = m := by rw [pairsL_length]; omega
   refine WP.exit (WP.rs hG (Ch.mv rfl rfl (Ch.asg rfl rfl (Ch.nil ?_))))
   rw [hpl]
   exact WP.ret (Ret.row 0 rfl (.of_eq (by simp [hc])) (by (simp; first | done | fail)) rfl trivial hnA)
theorem above_fc {G : List (Nat × Array Value)} (hr : RefInT G) (l : List Txt) (hl : l.length ≤ 1000000) (hok : Mid l) :
  FP G 115 [.sl none l.length (l.map sA)] [] (.sl none (pairsL node l).length ((pairsL node l).map sA)) [] :=
 (above_fc0 hr l hl hok).shut (belL_s _ _) (renL_s _ _)

theorem rrootY_fc {G : List (Nat × Array Value)} (hr : RefInT G) (l : List Txt) (h : Nat) (hh : h ≤ 7) (hl : l.length = 2 ^ h) (hok : Mid l) : FP G 75 [.sl none l.length (l.map sA)] [] (sA (rootN h l)) [] := by
 have hmay := mayL hh hl
 refine FC.of_wp [2] Tryz.func75 rfl rfl rfl rfl ⟨⟨by simp, belL_s _ _⟩, trivial⟩ trivial (Nat.le_of_ble_eq_true rfl) ?_
 intro A hG hnA hAB
 unfold start
 refine WP.rs hG (Ch.asg rfl rfl (Ch.nil (WP.rs hG (Ch.mv rfl rfl (Ch.p1 rfl (OpS.len rfl) rfl (Ch.callP (rmayT_fc l.length hmay) gdN (.cons rfl .nil) (.c (.rfl _) .n) (by rfl) rfl ?_))))))
 refine Ch.asg rfl rfl (Ch.nil (WP.seq (WP.rs hG (Ch.mv rfl rfl (Ch.p1 rfl (OpS.not) rfl (Ch.nil (WP.cond_false rfl (WP.skip (WP.rs hG ?_)))))))))
 refine Ch.mv rfl rfl (Ch.asg rfl rfl (Ch.nil (WP.seq (WP.block ?_))))
 refine WP.loop (fun k σ => ∃ cur : List Txt, (cur.length = 2 ^ k ∧ k ≤ 7 ∧ rootN k cur = rootN h l ∧ Mid cur) ∧ σ = ⟨19, ls [(4, .sl none cur.length (cur.map sA))], lh [], blt 0⟩) (h) (Ent.of [] ?_ ?_ ?_ ?_).se ⟨l, ⟨hl, hh, rfl, hok⟩, rfl⟩ ?_
 · exact na_of hnA rfl
 · (repeat (first | exact trivial | (refine And.intro ⟨(by (simp; first | done | fail)), _, rfl, (by exact .of_eq (by simp; first | done | fail))⟩ ?_)))
 · (repeat (first | exact trivial | (refine And.intro ⟨rfl, (by first | trivial | (simp; first | done | fail) | exact ⟨trivial, hbel _⟩), (by first | rfl | (simp; first | done | fail))⟩ ?_)))
 · exact nd_of rfl
 ·
  rintro k σ ⟨cur, ⟨hlen, hk7, hroot, hmid⟩, rfl⟩
  have hp7 := pow7 hk7
  refine WP.seq (WP.rs hG (Ch.mv rfl rfl (Ch.p1 rfl (OpS.len rfl) rfl (Ch.p2 rfl rfl (OpS.int rfl (by exact rfl)) rfl ?_))))
  refine Ch.nil ?_
  refine WP.cond rfl ?_ ?_
  ·
   intro ht
   have ht' := of_decide_eq_true ht
   obtain ⟨j, rfl⟩ := pow_gt (k := k) (by omega)
   rw [rootN_s] at hroot
   refine WP.skip (WP.block (WP.rg hG (Ch.mv rfl rfl (Ch.callS (above_fc hr cur (by omega) hmid) gdN (.cons rfl .nil) (.c (AV.wk.sh (renL_s _ _)) .n) (by simp) rfl ?_))))
   refine Ch.asg rfl rfl (Ch.nil ?_)
   refine ⟨j, _, by omega, (Ent.of [] ?_ ?_ ?_ ?_).se, pairsL node cur, ⟨half_len hlen, by omega, hroot, Mid.pairs⟩, rfl⟩
   · exact na_of hnA rfl
   · (repeat (first | exact trivial | (refine And.intro ⟨(by (simp; first | done | fail)), _, rfl, (by exact .of_eq (by simp; first | done | fail))⟩ ?_)))
   · (repeat (first | exact trivial | (refine And.intro ⟨rfl, (by first | trivial | (simp; first | done | fail) | exact ⟨trivial, hbel _⟩), (by first | rfl | (simp; first | done | fail))⟩ ?_)))
   · exact nd_of rfl
  ·
   intro ht
   have ht' := of_decide_eq_false ht
   obtain rfl := pow_le (k := k) (by omega)
   rw [rootN_0] at hroot
   refine WP.exit (WP.rs hG (Ch.mv rfl rfl (Ch.p2 rfl rfl (OpS.indexM rfl rfl rfl (by with_reducible exact tnL _) (by omega) (by omega) (by rfl)) rfl ?_)))
   refine Ch.p1 rfl (OpS.loadS rfl rfl) rfl (Ch.asg rfl rfl (Ch.nil ?_))
   exact WP.ret (Ret.one rfl (by rw [← hroot]; exact .rfl _) trivial hnA)
end Go.Proofs.YtpnbpcopdckgpaaGreatDoor.E
end
section
namespace Go.Proofs.YtpnbpcopdckgpaaGreatDoor.E
open Go Go.RowKit Go.Proofs.YtpnbpcopdckgpaaGreatDoor.V
set_option maxRecDepth 4000
abbrev rgH (seed : Txt) (h n : Nat) (L : List Txt) : List (Option AO) := [some (.cells 126 (sgC seed h n L)), some (.tip 9 1 L.length)]
theorem rg_bel (u : Nat → Bool) (hu : u 1 = true) (seed : Txt) (h n : Nat) (L : List Txt) : belH u (rgH seed h n L) := ⟨⟨trivial, trivial, ⟨fun k hk => by cases hk; exact hu, belL_s _ _⟩, trivial, trivial⟩, trivial, trivial⟩
attribute [local irreducible] sum tag input laidN wstep walkT secretT digitsT pubT signT fromT rootN pathN leavesT beS sigP sigT keyT
section
variable {G : List (Nat × Array Value)}
theorem rgNew_fc (hr : RefIn G) (seed : Txt) (h n : Nat) (hv : seed.length ≤ 140737488355264) (hh : h ≤ 7) (hn : n ≤ 2 ^ h) : FP G 48 [sA seed, .v (.int .i64 (h : Int)), .v (.int .i64 (n : Int))] [] (.tup [.ptr 0 0, .v (.int .i64 0)]) (rgH seed h n (leavesT seed h)) := by
 have h128 := pw7 hh
 have hll := leavesT_length seed h
 refine FC.of_wp [6, 7] Tryz.func48 rfl rfl rfl rfl (by trivial) (by trivial) (Nat.le_of_ble_eq_true rfl) ?_
 intro A hG hnA hAB
 unfold start
 refine WP.rs hG (Ch.asg rfl rfl (Ch.asg rfl rfl (Ch.nil (WP.seq (WP.rs hG (Ch.mv rfl rfl (Ch.p2 rfl rfl (OpS.int (v' := .bool false) rfl (by exact congrArg Value.bool (decide_eq_false (by omega)))) rfl ?_)))))))
 refine Ch.mv rfl rfl (Ch.gm rfl rfl rfl rfl (Ch.g2 rfl rfl rfl rfl (OpS.int (v' := .bool false) rfl (by exact congrArg Value.bool (decide_eq_false (by omega)))) rfl ?_))
 refine Ch.p2 rfl rfl (OpS.pickF) rfl (Ch.mv rfl rfl (Ch.gm rfl rfl rfl rfl (Ch.g2 rfl rfl rfl rfl (OpS.int (v' := .bool false) rfl (by exact congrArg Value.bool (decide_eq_false (by omega)))) rfl ?_)))
 refine Ch.p2 rfl rfl (OpS.pickF) rfl (Ch.mv rfl rfl (Ch.gm rfl rfl rfl rfl (Ch.gm rfl rfl rfl rfl (Ch.g2 rfl rfl rfl rfl (OpS.shl1 (by omega)) rfl ?_))))
 refine Ch.g2 rfl rfl rfl rfl (OpS.int (v' := .bool false) rfl (by exact congrArg Value.bool (decide_eq_false (by omega)))) rfl ?_
 refine Ch.p2 rfl rfl (OpS.pickF) rfl (Ch.nil (WP.cond_false rfl (WP.skip (WP.rs hG (Ch.mv rfl rfl (Ch.mv rfl rfl (Ch.mv rfl rfl (Ch.pup gdN (by repeat (first | exact EvP.nil | (apply EvP.cons; exact rfl))) (OpS.build (cs := [sA seed, .v (.int .i64 (h : Int)), .v (.slice none 0 0), .v (.int .i64 (n : Int))]) rfl rfl rfl rfl rfl (by rfl)) rfl ?_))))))))
 refine Ch.a1 rfl (OpS.box 0 rfl) rfl rfl (Ch.asg rfl rfl (Ch.nil (WP.seq (WP.from (SEnt.nilCell (id := 0) (off := 2) 1 9 1 rfl rfl rfl rfl) (WP.rs hG (Ch.asg rfl rfl (Ch.nil (WP.block ?_))))))))
 refine WP.loop (fun k σ => ∃ m : Nat, m + k = 2 ^ h ∧ σ = ⟨50, ls [(0, sA seed), (1, .v (.int .i64 (h : Int))), (8, .ptr 0 0), (9, .v (.int .i64 (m : Int)))], lh [(0, .cells 126 [sA seed, .v (.int .i64 (h : Int)), .sl (some 1) m ((leavesP seed m).map sA), .v (.int .i64 (n : Int))]), (1, .tip 9 1 m)], blt 2⟩) (2 ^ h) (Ent.of [0, 1] ?_ ?_ ?_ ?_).se ⟨0, by omega, rfl⟩ ?_
 · exact na_of hnA rfl
 · (repeat (first | exact trivial | (refine And.intro ⟨(by trivial), _, rfl, .rfl _⟩ ?_)))
 · (repeat (first | exact trivial | (refine And.intro ⟨rfl, (by trivial), (by rfl)⟩ ?_)))
 · exact nd_of rfl
 ·
  rintro k σ ⟨m, hm', rfl⟩
  have hes := leavesP_succ seed m
  have hplL := leavesP_length seed m
  refine WP.seq (WP.rs hG (Ch.mv rfl rfl (Ch.mv rfl rfl (Ch.p2 rfl rfl (OpS.shl1 (by omega)) rfl ?_))))
  refine Ch.p2 rfl rfl (OpS.int rfl (by exact rfl)) rfl ?_
  refine Ch.nil ?_
  refine WP.cond rfl ?_ ?_
  ·
   intro ht
   have ht' := of_decide_eq_true ht
   have hp := rpub_fc hr seed (m : Int) hv
   refine WP.skip (WP.seq (WP.block (WP.rgD (by kernel_rfl) hG (Ch.mv rfl rfl (Ch.mv rfl rfl (Ch.p1 rfl (OpS.nilCheckP) rfl (Ch.p1 rfl (OpS.fieldAddr rfl rfl rfl rfl) rfl (Ch.q1 rfl (OpS.loadP rfl rfl rfl) rfl rfl (Ch.mv rfl rfl ?_)))))))))
   refine Ch.mv rfl rfl (Ch.callP (hp) gdN (.cons rfl (.cons rfl .nil)) (.c (.rfl _) (.c (.rfl _) .n)) (by rfl) rfl ?_)
   refine Ch.pup gdN (by repeat (first | exact EvP.nil | (apply EvP.cons; exact rfl))) (OpS.slice1 (ys := ([pubT seed (m : Int)] : List Txt).map sA) rfl rfl rfl rfl rfl rfl (by rfl) rfl (by rfl)) rfl ?_
   refine Ch.a2 rfl rfl (OpS.append (sz := 1) (bb := 16) 2 rfl rfl rfl rfl rfl (by decide) (SrcA.sl rfl (by simp)) (by (simp; assumption)) (by simp) (by unfold maxLen; omega) rfl (by omega)) rfl rfl rfl ?_
   refine Ch.p1 rfl (OpS.nilCheckP) rfl (Ch.p1 rfl (OpS.fieldAddr rfl rfl rfl rfl) rfl (Ch.ws rfl rfl (OpS.storeP (cs := [sA seed, .v (.int .i64 (h : Int)), .sl (some 1) m ((leavesP seed m).map sA), .v (.int .i64 (n : Int))]) rfl rfl rfl (by simp)) rfl ?_))
   refine Ch.nilD ?_ (by kernel_rfl)
   refine WP.rg hG (Ch.mv rfl rfl (Ch.p2 rfl rfl (OpS.inc m (by omega) (by omega)) rfl ?_))
   refine Ch.asg rfl rfl (Ch.nil ?_)
   refine ⟨k - 1, _, by omega, (Ent.of [0, 2] ?_ ?_ ?_ ?_).se, m + 1, by omega, rfl⟩
   · exact na_of hnA rfl
   · (repeat (first | exact trivial | (refine And.intro ⟨(by trivial), _, rfl, .rfl _⟩ ?_)))
   · (repeat (first | exact trivial | (refine And.intro ⟨rfl, (by first | trivial | (simp; first | done | fail)), (by first | rfl | (simp [hes]; first | done | fail))⟩ ?_)))
   · exact nd_of rfl
  ·
   intro ht
   have ht' := of_decide_eq_false ht
   obtain rfl : m = 2 ^ h := by omega
   rw [leavesP_all, ← hll]
   refine WP.exit (WP.rs hG (Ch.mv rfl rfl (Ch.asg rfl rfl (Ch.asg rfl rfl (Ch.nil (WP.ret ?_))))))
   refine (Ret.of (rs := [6, 7]) (vs := [.ptr 0 0, .v (.int .i64 0)]) (H' := rgH seed h n (leavesT seed h)) (res := .tup [.ptr 0 0, .v (.int .i64 0)]) [0, 1] ?_ ?_ rfl ?_ (by simp only [List.length_cons, List.length_nil]; decide) ?_).1
   · exact na_of hnA rfl
   · (repeat (first | exact trivial | (refine And.intro ⟨(by trivial), _, rfl, .rfl _⟩ ?_)))
   · (repeat (first | exact trivial | refine HFromL.skip ?_ | (refine And.intro ⟨(by first | trivial | (simp; first | done | fail)), (by first | rfl | (simp; first | done | fail))⟩ ?_)))
   · exact ⟨_, rfl, rfl, by simp [ls, TsOk, List.zip, List.zipWith]⟩
theorem rgPublic_fc (hr : RefIn G) (seed : Txt) (h n : Nat) (hh : h ≤ 7) : FP G 49 [.ptr 0 0] (rgH seed h n (leavesT seed h)) (sA (keyT seed h)) (rgH seed h n (leavesT seed h)) := by
 have hw := rwNum_fc (G := G) [] (UInt64.ofNat h) (by decide)
 have hb := rwBytes_fc (G := G) (beS (UInt64.ofNat h) 8)
 have hrt := rrootY_fc hr (leavesT seed h) h hh (leavesT_length seed h) (Mid.of32 (leavesT_32 seed h))
 have hl8 := beS_length (UInt64.ofNat h) 8
 have hrl := rootN_length h _ (leavesT_length seed h) (leavesT_32 seed h)
 have hk := keyT_form seed h
 refine FC.of_wp [2] Tryz.func49 rfl rfl rfl rfl ⟨rfl, trivial⟩ (rg_bel _ rfl _ _ _ _) (Nat.le_of_ble_eq_true rfl) ?_
 intro A hG hnA hAB
 unfold start
 refine WP.rs hG (Ch.asg rfl rfl (Ch.nil (WP.rs hG ?_)))
 refine Ch.cH (rnewWriter_fc) [] 2 gdN .nil .n rfl (by refine ⟨?_, ?_, ?_, ?_⟩ <;> first | ((conv => lhs; simp only [nrmA, Nat.reduceAdd]); all_goals rfl) | rfl) (by exact trivial) (by exact ⟨rfl, trivial⟩) rfl ?_
 refine Ch.asg rfl rfl (Ch.nil (WP.rs hG (Ch.mv rfl rfl (Ch.mv rfl rfl (Ch.p1 rfl (OpS.nilCheckP) rfl (Ch.p1 rfl (OpS.fieldAddr rfl rfl rfl rfl) rfl (Ch.q1 rfl (OpS.loadP rfl rfl rfl) rfl rfl (Ch.p1 rfl (OpS.conv rfl rfl (by exact cv_u64_nat _)) rfl ?_))))))))
 refine Ch.cH (hw) [2] 3 gdN (.cons rfl (.cons rfl .nil)) (.c (.rfl _) (.c (.rfl _) .n)) rfl (by refine ⟨?_, ?_, ?_, ?_⟩ <;> first | ((conv => lhs; simp only [nrmA, Nat.reduceAdd]); all_goals rfl) | rfl) (by exact ⟨rfl, trivial⟩) (by exact trivial) rfl ?_
 refine Ch.nil (WP.rsD (by kernel_rfl) hG (Ch.mv rfl rfl ?_))
 refine Ch.cH (hb) [2] 3 gdN (.cons rfl .nil) (.c (.rfl _) .n) rfl (by refine ⟨?_, ?_, ?_, ?_⟩ <;> first | ((conv => lhs; simp only [nrmA, Nat.reduceAdd]); all_goals rfl) | rfl) (by exact ⟨rfl, trivial⟩) (by exact trivial) rfl ?_
 refine Ch.mv rfl rfl (Ch.p1 rfl (OpS.nilCheckP) rfl (Ch.p1 rfl (OpS.fieldAddr rfl rfl rfl rfl) rfl (Ch.q1 rfl (OpS.loadP rfl rfl rfl) rfl rfl (Ch.callP (hrt) gdN (.cons rfl .nil) (.c (AV.wk.sh (renL_s _ _)) .n) (by rfl) rfl ?_))))
 refine Ch.p2 rfl rfl (OpS.strAdd (by omega)) rfl ?_
 refine Ch.asg rfl rfl (Ch.nilD ?_ (by kernel_rfl))
 refine WP.ret ?_
 rw [← hk]
 refine (Ret.of (rs := [2]) (vs := [sA (beS (UInt64.ofNat h) 8 ++ rootN h (leavesT seed h))]) (H' := rgH seed h n (leavesT seed h)) (res := sA (beS (UInt64.ofNat h) 8 ++ rootN h (leavesT seed h))) [0, 1] ?_ ?_ rfl ?_ (by simp only [List.length_cons, List.length_nil]; decide) ?_).1
 · exact na_of hnA rfl
 · (repeat (first | exact trivial | (refine And.intro ⟨(by trivial), _, rfl, .rfl _⟩ ?_)))
 · (repeat (first | exact trivial | refine HFromL.skip ?_ | (refine And.intro ⟨(by first | trivial | (simp; first | done | fail)), (by first | rfl | (simp; first | done | fail))⟩ ?_)))
 · rfl
end
end Go.Proofs.YtpnbpcopdckgpaaGreatDoor.E
end
section
namespace Go.Proofs.YtpnbpcopdckgpaaGreatDoor.V
noncomputable def force {α : Type} (x : Nat) (k : Nat → α) : α := Nat.rec (motive := fun _ => α) (k 0) (fun n _ => k (Nat.succ n)) x
theorem force_eq {α : Type} (x : Nat) (k : Nat → α) : force x k = k x := by cases x <;> rfl
def dblF (x : Nat) : Nat := Nat.mul x 4294967297
def S1F (y : Nat) : Nat := Nat.mod (Nat.xor (Nat.xor (Nat.shiftRight y 6) (Nat.shiftRight y 11)) (Nat.shiftRight y 25)) 4294967296
def S0F (y : Nat) : Nat := Nat.mod (Nat.xor (Nat.xor (Nat.shiftRight y 2) (Nat.shiftRight y 13)) (Nat.shiftRight y 22)) 4294967296
def s0F (x y : Nat) : Nat := Nat.xor (Nat.mod (Nat.xor (Nat.shiftRight y 7) (Nat.shiftRight y 18)) 4294967296) (Nat.shiftRight x 3)
def s1F (x y : Nat) : Nat := Nat.xor (Nat.mod (Nat.xor (Nat.shiftRight y 17) (Nat.shiftRight y 19)) 4294967296) (Nat.shiftRight x 10)
def chF (e f g : Nat) : Nat := Nat.xor (Nat.land e f) (Nat.land (Nat.sub 4294967295 e) g)
def majF (a b c : Nat) : Nat := Nat.xor (Nat.xor (Nat.land a b) (Nat.land a c)) (Nat.land b c)
theorem ror_nat (x : UInt32) (n : Nat) (h0 : 0 < n) (h : n < 32) : (ror x n).toNat = (x.toNat * 4294967297) >>> n % 4294967296 := by
 have hx := x.toNat_lt
 unfold ror shl32 shr32
 rw [UInt32.toNat_or, UInt32.toNat_ofNat', UInt32.toNat_ofNat', Nat.shiftRight_eq_div_pow]
 have hp : (2 : Nat) ^ 32 = 2 ^ (32 - n) * 2 ^ n := by rw [← Nat.pow_add]; congr 1; omega
 have hpn : 0 < (2 : Nat) ^ n := Nat.pow_pos (by decide)
 have hq : 0 < (2 : Nat) ^ (32 - n) := Nat.pow_pos (by decide)
 have hd : x.toNat / 2 ^ n < 2 ^ (32 - n) := by
  rw [Nat.div_lt_iff_lt_mul hpn, ← hp]
  exact hx
 have hle : (2 : Nat) ^ (32 - n) ≤ 2 ^ 32 := Nat.pow_le_pow_right (by decide) (by omega)
 have e1 : x.toNat * 2 ^ (32 - n) % 2 ^ 32 = 2 ^ (32 - n) * (x.toNat % 2 ^ n) := by
  rw [hp, Nat.mul_comm x.toNat, Nat.mul_mod_mul_left]
 have e2 : x.toNat / 2 ^ n % 2 ^ 32 = x.toNat / 2 ^ n := Nat.mod_eq_of_lt (by omega)
 rw [e1, e2, ← Nat.two_pow_add_eq_or_of_lt hd]
 have e3 : x.toNat * 4294967297 = x.toNat + 2 ^ n * (2 ^ (32 - n) * x.toNat) := by
  rw [← Nat.mul_assoc, Nat.mul_comm (2 ^ n), ← hp]
  omega
 have e6 : 2 ^ (32 - n) * x.toNat = 2 ^ (32 - n) * (x.toNat % 2 ^ n) + 2 ^ 32 * (x.toNat / 2 ^ n) := by
  conv => lhs; rw [← Nat.mod_add_div x.toNat (2 ^ n)]
  rw [Nat.mul_add, ← Nat.mul_assoc, ← hp]
 have hm : x.toNat % 2 ^ n < 2 ^ n := Nat.mod_lt _ hpn
 have hm2 : 2 ^ (32 - n) * (x.toNat % 2 ^ n) + 2 ^ (32 - n) ≤ 2 ^ 32 := by
  rw [hp, ← Nat.mul_succ]
  exact Nat.mul_le_mul_left _ hm
 rw [e3, Nat.add_mul_div_left _ _ hpn, show (4294967296 : Nat) = 2 ^ 32 from rfl, e6, ← Nat.add_assoc, Nat.add_mul_mod_self_left, Nat.add_comm (x.toNat / 2 ^ n)]
 exact (Nat.mod_eq_of_lt (by omega)).symm
theorem shr_nat (x : UInt32) (n : Nat) : (shr32 x n).toNat = x.toNat >>> n := by
 unfold shr32
 have hx := x.toNat_lt
 have := Nat.div_le_self x.toNat (2 ^ n)
 rw [UInt32.toNat_ofNat', Nat.shiftRight_eq_div_pow]
 exact Nat.mod_eq_of_lt (by omega)
theorem xmod (a b : Nat) : (a ^^^ b) % 4294967296 = a % 4294967296 ^^^ b % 4294967296 := Nat.xor_mod_two_pow (n := 32)
theorem S1_nat (x : UInt32) : (ror x 6 ^^^ ror x 11 ^^^ ror x 25).toNat = S1F (dblF x.toNat) := by
 rw [UInt32.toNat_xor, UInt32.toNat_xor, ror_nat x 6 (by decide) (by decide), ror_nat x 11 (by decide) (by decide), ror_nat x 25 (by decide) (by decide), ← xmod, ← xmod]
 rfl
theorem S0_nat (x : UInt32) : (ror x 2 ^^^ ror x 13 ^^^ ror x 22).toNat = S0F (dblF x.toNat) := by
 rw [UInt32.toNat_xor, UInt32.toNat_xor, ror_nat x 2 (by decide) (by decide), ror_nat x 13 (by decide) (by decide), ror_nat x 22 (by decide) (by decide), ← xmod, ← xmod]
 rfl
theorem s0_nat (x : UInt32) : (sig0 x).toNat = s0F x.toNat (dblF x.toNat) := by
 unfold sig0
 rw [UInt32.toNat_xor, UInt32.toNat_xor, ror_nat x 7 (by decide) (by decide), ror_nat x 18 (by decide) (by decide), shr_nat, ← xmod]
 rfl
theorem s1_nat (x : UInt32) : (sig1 x).toNat = s1F x.toNat (dblF x.toNat) := by
 unfold sig1
 rw [UInt32.toNat_xor, UInt32.toNat_xor, ror_nat x 17 (by decide) (by decide), ror_nat x 19 (by decide) (by decide), shr_nat, ← xmod]
 rfl
theorem ch_nat (e f g : UInt32) : (e &&& f ^^^ ~~~e &&& g).toNat = chF e.toNat f.toNat g.toNat := by
 rw [UInt32.toNat_xor, UInt32.toNat_and, UInt32.toNat_and, UInt32.toNat_not]
 rfl
theorem maj_nat (a b c : UInt32) : (a &&& b ^^^ a &&& c ^^^ b &&& c).toNat = majF a.toNat b.toNat c.toNat := by
 rw [UInt32.toNat_xor, UInt32.toNat_xor, UInt32.toNat_and, UInt32.toNat_and, UInt32.toNat_and]
 rfl
def tF (e f g h k w : Nat) : Nat := Nat.add (Nat.add (Nat.add (Nat.add h (S1F (dblF e))) (chF e f g)) k) w
def eF (d t : Nat) : Nat := Nat.mod (Nat.add d t) 4294967296
def aF (a b c t : Nat) : Nat := Nat.mod (Nat.add t (Nat.add (S0F (dblF a)) (majF a b c))) 4294967296
def nF (w0 w1 w9 w14 : Nat) : Nat := Nat.mod (Nat.add (Nat.add (Nat.add w0 (s0F w1 (dblF w1))) w9) (s1F w14 (dblF w14))) 4294967296
theorem e_nat (s : St) (k w : UInt32) : (rnd s (k + w)).e.toNat = eF s.d.toNat (tF s.e.toNat s.f.toNat s.g.toNat s.h.toNat k.toNat w.toNat) := by
 show (s.d + (s.h + (ror s.e 6 ^^^ ror s.e 11 ^^^ ror s.e 25) + (s.e &&& s.f ^^^ ~~~s.e &&& s.g) + (k + w))).toNat = _
 simp only [UInt32.toNat_add, S1_nat, ch_nat]
 show _ = (s.d.toNat + (s.h.toNat + S1F (dblF s.e.toNat) + chF s.e.toNat s.f.toNat s.g.toNat + k.toNat + w.toNat)) % 4294967296
 generalize S1F (dblF s.e.toNat) = x
 generalize chF s.e.toNat s.f.toNat s.g.toNat = y
 omega
theorem a_nat (s : St) (k w : UInt32) : (rnd s (k + w)).a.toNat = aF s.a.toNat s.b.toNat s.c.toNat (tF s.e.toNat s.f.toNat s.g.toNat s.h.toNat k.toNat w.toNat) := by
 show ((s.h + (ror s.e 6 ^^^ ror s.e 11 ^^^ ror s.e 25) + (s.e &&& s.f ^^^ ~~~s.e &&& s.g) + (k + w)) + ((ror s.a 2 ^^^ ror s.a 13 ^^^ ror s.a 22) + (s.a &&& s.b ^^^ s.a &&& s.c ^^^ s.b &&& s.c))).toNat = _
 simp only [UInt32.toNat_add, S1_nat, ch_nat, S0_nat, maj_nat]
 show _ = ((s.h.toNat + S1F (dblF s.e.toNat) + chF s.e.toNat s.f.toNat s.g.toNat + k.toNat + w.toNat) + (S0F (dblF s.a.toNat) + majF s.a.toNat s.b.toNat s.c.toNat)) % 4294967296
 generalize S1F (dblF s.e.toNat) = x
 generalize chF s.e.toNat s.f.toNat s.g.toNat = y
 generalize S0F (dblF s.a.toNat) = z
 generalize majF s.a.toNat s.b.toNat s.c.toNat = u
 omega
def wd (blk : List UInt8) (i : Nat) : UInt32 := lget (sched blk (i + 1)) i
theorem wd_get (blk : List UInt8) (i : Nat) : ∀ m, i < m → lget (sched blk m) i = wd blk i := by
 intro m hm
 obtain ⟨k, rfl⟩ : ∃ k, m = i + 1 + k := ⟨m - (i + 1), by omega⟩
 clear hm
 induction k with
 | zero => rfl
 | succ k ih =>
  rw [← ih]
  show lget (sched blk (i + 1 + k) ++ [nxt blk (sched blk (i + 1 + k))]) i = _
  unfold lget
  rw [List.getElem?_append_left (by rw [sched_length]; omega)]
theorem wd_nxt (blk : List UInt8) (n : Nat) : wd blk n = nxt blk (sched blk n) := by
 show lget (sched blk n ++ [nxt blk (sched blk n)]) n = _
 unfold lget
 rw [List.getElem?_append_right (by rw [sched_length]; exact Nat.le_refl _), sched_length, Nat.sub_self]
 rfl
theorem wd_low (blk : List UInt8) (n : Nat) (h : n < 16) : wd blk n = wordOf (blk.drop (4 * n)) := by
 rw [wd_nxt]
 unfold nxt
 rw [sched_length, if_pos h]
theorem wd_high (blk : List UInt8) (n : Nat) : wd blk (n + 16) = wd blk n + sig0 (wd blk (n + 1)) + wd blk (n + 9) + sig1 (wd blk (n + 14)) := by
 rw [wd_nxt]
 unfold nxt
 rw [sched_length, if_neg (by omega), wd_get blk _ _ (by omega), wd_get blk _ _ (by omega), wd_get blk _ _ (by omega), wd_get blk _ _ (by omega), show n + 16 - 16 = n by omega, show n + 16 - 15 = n + 1 by omega, show n + 16 - 7 = n + 9 by omega, show n + 16 - 2 = n + 14 by omega]
theorem n_nat (blk : List UInt8) (n : Nat) : (wd blk (n + 16)).toNat = nF (wd blk n).toNat (wd blk (n + 1)).toNat (wd blk (n + 9)).toNat (wd blk (n + 14)).toNat := by
 rw [wd_high]
 simp only [UInt32.toNat_add, s0_nat, s1_nat]
 show _ = ((wd blk n).toNat + s0F (wd blk (n + 1)).toNat (dblF (wd blk (n + 1)).toNat) + (wd blk (n + 9)).toNat + s1F (wd blk (n + 14)).toNat (dblF (wd blk (n + 14)).toNat)) % 4294967296
 generalize s0F (wd blk (n + 1)).toNat (dblF (wd blk (n + 1)).toNat) = x
 generalize s1F (wd blk (n + 14)).toNat (dblF (wd blk (n + 14)).toNat) = y
 omega
noncomputable def goF (ks : List Nat) : Nat → Nat → Nat → Nat → Nat → Nat → Nat → Nat → Nat → Nat → Nat → Nat → Nat → Nat → Nat → Nat → Nat → Nat → Nat → Nat → Nat → Nat → Nat → Nat → St :=
 List.rec (motive := fun _ => Nat → Nat → Nat → Nat → Nat → Nat → Nat → Nat → Nat → Nat → Nat → Nat → Nat → Nat → Nat → Nat → Nat → Nat → Nat → Nat → Nat → Nat → Nat → Nat → St) (fun a b c d e f g h _ _ _ _ _ _ _ _ _ _ _ _ _ _ _ _ => ⟨UInt32.ofNat a, UInt32.ofNat b, UInt32.ofNat c, UInt32.ofNat d, UInt32.ofNat e, UInt32.ofNat f, UInt32.ofNat g, UInt32.ofNat h⟩)
  (fun k _ ih a b c d e f g h w0 w1 w2 w3 w4 w5 w6 w7 w8 w9 w10 w11 w12 w13 w14 w15 => force (tF e f g h k w0) fun t => force (eF d t) fun e2 => force (aF a b c t) fun a2 => force (nF w0 w1 w9 w14) fun w16 => ih a2 a b c e2 e f g w1 w2 w3 w4 w5 w6 w7 w8 w9 w10 w11 w12 w13 w14 w15 w16) ks
theorem goF_cons (k : Nat) (ks : List Nat) (a b c d e f g h w0 w1 w2 w3 w4 w5 w6 w7 w8 w9 w10 w11 w12 w13 w14 w15 : Nat) : goF (k :: ks) a b c d e f g h w0 w1 w2 w3 w4 w5 w6 w7 w8 w9 w10 w11 w12 w13 w14 w15 = goF ks (aF a b c (tF e f g h k w0)) a b c (eF d (tF e f g h k w0)) e f g w1 w2 w3 w4 w5 w6 w7 w8 w9 w10 w11 w12 w13 w14 w15 (nF w0 w1 w9 w14) := by
 have h : goF (k :: ks) a b c d e f g h w0 w1 w2 w3 w4 w5 w6 w7 w8 w9 w10 w11 w12 w13 w14 w15 = force (tF e f g h k w0) fun t => force (eF d t) fun e2 => force (aF a b c t) fun a2 => force (nF w0 w1 w9 w14) fun w16 => goF ks a2 a b c e2 e f g w1 w2 w3 w4 w5 w6 w7 w8 w9 w10 w11 w12 w13 w14 w15 w16 := rfl
 rw [h, force_eq, force_eq, force_eq, force_eq]
def kTabN : List Nat := kTab.map (·.toNat)
theorem goF_eq (v : St) (blk : List UInt8) : ∀ n t : Nat, t + n = 64 → goF ((kTab.drop t).map (·.toNat)) (rounds v (sched blk 64) t).a.toNat (rounds v (sched blk 64) t).b.toNat (rounds v (sched blk 64) t).c.toNat (rounds v (sched blk 64) t).d.toNat (rounds v (sched blk 64) t).e.toNat (rounds v (sched blk 64) t).f.toNat (rounds v (sched blk 64) t).g.toNat (rounds v (sched blk 64) t).h.toNat (wd blk (t + 0)).toNat (wd blk (t + 1)).toNat (wd blk (t + 2)).toNat (wd blk (t + 3)).toNat (wd blk (t + 4)).toNat (wd blk (t + 5)).toNat (wd blk (t + 6)).toNat (wd blk (t + 7)).toNat (wd blk (t + 8)).toNat (wd blk (t + 9)).toNat (wd blk (t + 10)).toNat (wd blk (t + 11)).toNat (wd blk (t + 12)).toNat (wd blk (t + 13)).toNat (wd blk (t + 14)).toNat (wd blk (t + 15)).toNat = rounds v (sched blk 64) 64
 | 0, t, h => by
  obtain rfl : t = 64 := by omega
  rw [List.drop_of_length_le (by decide)]
  show (⟨UInt32.ofNat (rounds v (sched blk 64) 64).a.toNat, UInt32.ofNat (rounds v (sched blk 64) 64).b.toNat, UInt32.ofNat (rounds v (sched blk 64) 64).c.toNat, UInt32.ofNat (rounds v (sched blk 64) 64).d.toNat, UInt32.ofNat (rounds v (sched blk 64) 64).e.toNat, UInt32.ofNat (rounds v (sched blk 64) 64).f.toNat, UInt32.ofNat (rounds v (sched blk 64) 64).g.toNat, UInt32.ofNat (rounds v (sched blk 64) 64).h.toNat⟩ : St) = _
  simp only [UInt32.ofNat_toNat]
 | n + 1, t, h => by
  have ht : t < kTab.length := by show t < 64; omega
  rw [List.drop_eq_getElem_cons ht, List.map_cons, goF_cons]
  have ih := goF_eq v blk n (t + 1) (by omega)
  have hr : rounds v (sched blk 64) (t + 1) = rnd (rounds v (sched blk 64) t) (kTab[t] + wd blk t) := by
   show rnd _ (lget kTab t + lget (sched blk 64) t) = _
   rw [wd_get blk t 64 (by omega)]
   unfold lget
   rw [List.getElem?_eq_getElem ht]
   rfl
  have ha := a_nat (rounds v (sched blk 64) t) kTab[t] (wd blk t)
  have he := e_nat (rounds v (sched blk 64) t) kTab[t] (wd blk t)
  rw [← hr] at ha he
  rw [← ih, ha, he, hr]
  have hn := n_nat blk t
  rw [show t + 1 + 15 = t + 16 by omega, hn]
  rw [show t + 1 + 0 = t + 1 by omega, show t + 1 + 1 = t + 2 by omega, show t + 1 + 2 = t + 3 by omega, show t + 1 + 3 = t + 4 by omega, show t + 1 + 4 = t + 5 by omega, show t + 1 + 5 = t + 6 by omega, show t + 1 + 6 = t + 7 by omega, show t + 1 + 7 = t + 8 by omega, show t + 1 + 8 = t + 9 by omega, show t + 1 + 9 = t + 10 by omega, show t + 1 + 10 = t + 11 by omega, show t + 1 + 11 = t + 12 by omega, show t + 1 + 12 = t + 13 by omega, show t + 1 + 13 = t + 14 by omega, show t + 1 + 14 = t + 15 by omega]
  rfl
noncomputable def mixedF (v : St) (blk : List UInt8) : St :=
 force (wordOf (blk.drop 0)).toNat fun w0 => force (wordOf (blk.drop 4)).toNat fun w1 => force (wordOf (blk.drop 8)).toNat fun w2 => force (wordOf (blk.drop 12)).toNat fun w3 => force (wordOf (blk.drop 16)).toNat fun w4 => force (wordOf (blk.drop 20)).toNat fun w5 => force (wordOf (blk.drop 24)).toNat fun w6 => force (wordOf (blk.drop 28)).toNat fun w7 => force (wordOf (blk.drop 32)).toNat fun w8 => force (wordOf (blk.drop 36)).toNat fun w9 => force (wordOf (blk.drop 40)).toNat fun w10 => force (wordOf (blk.drop 44)).toNat fun w11 => force (wordOf (blk.drop 48)).toNat fun w12 => force (wordOf (blk.drop 52)).toNat fun w13 => force (wordOf (blk.drop 56)).toNat fun w14 => force (wordOf (blk.drop 60)).toNat fun w15 => 
 v.add (goF kTabN v.a.toNat v.b.toNat v.c.toNat v.d.toNat v.e.toNat v.f.toNat v.g.toNat v.h.toNat w0 w1 w2 w3 w4 w5 w6 w7 w8 w9 w10 w11 w12 w13 w14 w15)
theorem mixed_fast (v : St) (blk : List UInt8) : mixed v blk = mixedF v blk := by
 have := goF_eq v blk 64 0 rfl
 unfold mixedF
 simp only [force_eq]
 unfold mixed
 rw [← this]
 simp only [Nat.zero_add]
 rw [wd_low blk 0 (by decide), wd_low blk 1 (by decide), wd_low blk 2 (by decide), wd_low blk 3 (by decide), wd_low blk 4 (by decide), wd_low blk 5 (by decide), wd_low blk 6 (by decide), wd_low blk 7 (by decide), wd_low blk 8 (by decide), wd_low blk 9 (by decide), wd_low blk 10 (by decide), wd_low blk 11 (by decide), wd_low blk 12 (by decide), wd_low blk 13 (by decide), wd_low blk 14 (by decide), wd_low blk 15 (by decide)]
 rfl
noncomputable def forceSt {α : Type} (s : St) (k : St → α) : α := force s.a.toNat fun a => force s.b.toNat fun b => force s.c.toNat fun c => force s.d.toNat fun d => force s.e.toNat fun e => force s.f.toNat fun f => force s.g.toNat fun g => force s.h.toNat fun h =>  k ⟨UInt32.ofNat a, UInt32.ofNat b, UInt32.ofNat c, UInt32.ofNat d, UInt32.ofNat e, UInt32.ofNat f, UInt32.ofNat g, UInt32.ofNat h⟩
theorem forceSt_eq {α : Type} (s : St) (k : St → α) : forceSt s k = k s := by
 unfold forceSt
 simp only [force_eq, UInt32.ofNat_toNat]
noncomputable def eatF (n : Nat) : St → List UInt8 → St := Nat.rec (motive := fun _ => St → List UInt8 → St) (fun v _ => v) (fun _ ih v l => forceSt (mixedF v (l.take 64)) fun u => ih u (l.drop 64)) n
theorem eat_fast : ∀ (n : Nat) (v : St) (l : List UInt8), eat n v l = eatF n v l
 | 0, _, _ => rfl
 | n + 1, v, l => by
  have h : eatF (n + 1) v l = forceSt (mixedF v (l.take 64)) fun u => eatF n u (l.drop 64) := rfl
  rw [h, forceSt_eq, ← mixed_fast, ← eat_fast n]
  rfl
noncomputable def forceL {α : Type} (l : List UInt8) : (List UInt8 → α) → α := List.rec (motive := fun _ => (List UInt8 → α) → α) (fun k => k []) (fun x _ ih k => force x.toNat fun n => ih fun r => k (UInt8.ofNat n :: r)) l
theorem forceL_eq {α : Type} : ∀ (l : List UInt8) (k : List UInt8 → α), forceL l k = k l
 | [], _ => rfl
 | x :: l, k => by
  have h : forceL (x :: l) k = force x.toNat fun n => forceL l fun r => k (UInt8.ofNat n :: r) := rfl
  rw [h, force_eq, show UInt8.ofNat x.toNat = x from UInt8.ofNat_toNat]
  exact forceL_eq l _
noncomputable def sumF (l : List UInt8) : List UInt8 := forceL l fun l => forceL (eatF ((l ++ pad l.length).length / 64) first (l ++ pad l.length)).text fun r => r
theorem sum_fast (l : List UInt8) : sum l = sumF l := by
 unfold sumF sum sumSt
 rw [forceL_eq, forceL_eq, eat_fast]
theorem tag_fast (d : UInt8) (ps : List (List UInt8)) : tag d ps = sumF (input d ps) := sum_fast _
end Go.Proofs.YtpnbpcopdckgpaaGreatDoor.V
end
