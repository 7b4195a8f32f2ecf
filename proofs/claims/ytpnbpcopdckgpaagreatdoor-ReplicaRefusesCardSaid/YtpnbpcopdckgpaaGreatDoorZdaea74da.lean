import Derived.Test.YtpnbpcopdckgpaaGreatDoorZbd634ffe
import Derived.Test.YtpnbpcopdckgpaaGreatDoorZ9169d62d
import Derived.Lib.LaidTab
import Derived.LaidSub
import Derived.Test.YtpnbpcopdckgpaaGreatDoorZ66409018
import Derived.Test.YtpnbpcopdckgpaaGreatDoorZ9e7333a0
import Derived.Test.YtpnbpcopdckgpaaGreatDoorCards
import Derived.Test.YtpnbpcopdckgpaaGreatDoorTie
import Derived.ProofKit
import Derived.OpenShut
import Derived.Deep.DeepHandedRow
import Derived.SizedLaws
import Derived.SliceStrings
import Derived.Test.YtpnbpcopdckgpaaGreatDoorZb36c764c
section
namespace Go.Proofs.YtpnbpcopdckgpaaGreatDoor.E
open Go Go.RowKit Go.Proofs.YtpnbpcopdckgpaaGreatDoor.V
set_option maxRecDepth 4000
set_option maxRecDepth 4000
--NRM renL_tbs, renL_tb1, renL_bks, renL_b1, renL_vs, renL_v1, ren_vt, pend_ren, ren_ss
--WKX exact .of_eq (ren_ss _ _).symm | exact .of_eq (ren_nt _ _).symm | exact .of_eq (ren_spt _ _).symm
attribute [local irreducible] sum tag input beS rdNum rdText leavesT f64 tb sigT firstT leadT mayT lkT recT idT learnR voteR dieR
section
variable {G : List (Nat × Array Value)}
theorem rOnPropR_fc (hm : ShaIn G) (x : Rp) (n : Nt) (hl : x.bs.length ≤ 1000) (hi : n.id.length ≤ 31) (hp : n.pa.length ≤ 1000) (hf : findT (idsT x.bs) n.pa = -1) : FP G 61 [.ptr 2 0, .agg (ntA n)] (rpH x) (.tup [.agg (ntA nt0), .v (.bool false)]) (rpH x) := by
 have hfp := find_fc (G := G) x n.pa hl
 rw [hf] at hfp
 have fl := rLead_fc (G := G) n.view
 have fi := fun h => rID_fc hm n.view n.pa n.pl h
 have hne : n.id ≠ idT n.view n.pa n.pl := fun h => by
  have := idT_32 n.view n.pa n.pl
  rw [← h] at this
  omega
 refine FC.of_wpc [(4, some 46), (5, none)] Tryz.func61 rfl rfl rfl rfl (by exact ⟨_, rfl, ⟨_, _, rfl, rfl, rfl, rfl⟩, trivial, trivial⟩) ⟨rfl, nt_bel _ n, trivial⟩ (rp_bel _ blt10 x) (Nat.le_of_ble_eq_true rfl) ?_
 intro A hG hnA hAB
 unfold start
 refine WP.rs hG (Ch.p1 rfl (OpS.boxS) rfl (Ch.a0 (OpS.alloc 10 rfl rfl rfl) rfl rfl (Ch.asg rfl rfl (Ch.nil (WP.rsD (by kernel_rfl) hG (Ch.mv rfl rfl (Ch.p1 rfl (OpS.nilCheckP) rfl (Ch.p1 rfl (OpS.fieldAddr rfl rfl rfl rfl) rfl (Ch.p1 rfl (OpS.fieldAddrS rfl rfl rfl rfl rfl) rfl ?_)))))))))
 refine Ch.p1 rfl (OpS.loadS rfl rfl) rfl ?_
 refine Ch.cH (hfp) [0,1,2,3,4,5,6,7,8,9] 11 gdN (.cons rfl (.cons rfl .nil)) (.c (.rfl _) (.c (.rfl _) .n)) rfl (by refine ⟨?_, ?_, ?_, ?_⟩ <;> first | ((conv => lhs; simp only [nrmA, Nat.reduceAdd, renL_tbs, renL_tb1, renL_bks, renL_b1, renL_vs, renL_v1, ren_vt, pend_ren, ren_ss]); all_goals rfl) | rfl) (by exact ⟨rfl, rfl, rfl, rfl, rfl, rfl, rfl, rfl, rfl, rfl, trivial⟩) (by exact trivial) rfl ?_
 refine Ch.asg rfl rfl (Ch.nilD ?_ (by kernel_rfl))
 refine WP.seq ?_
 rcases (show n.fr ≠ (leadT n.view : Int) ∨ (n.fr = (leadT n.view : Int) ∧ 200 < n.pl.length) ∨ (n.fr = (leadT n.view : Int) ∧ n.pl.length ≤ 200) by omega) with hq | hq | hq
 ·
  have hs := hq
  refine WP.rsD (by kernel_rfl) hG (Ch.p1 rfl (OpS.fieldAddrS rfl rfl rfl rfl rfl) rfl (Ch.p1 rfl (OpS.loadS rfl rfl) rfl (Ch.p1 rfl (OpS.fieldAddrS rfl rfl rfl rfl rfl) rfl (Ch.p1 rfl (OpS.loadS rfl rfl) rfl (Ch.callP (fl) gdN (.cons rfl .nil) (.c (.rfl _) .n) (by rfl) rfl ?_)))))
  refine Ch.p2 rfl rfl (OpS.neqT hs) rfl (Ch.mv rfl rfl (Ch.skU (gdF rfl rfl rfl) rfl (Ch.skU (gdF rfl rfl rfl) rfl (Ch.skU (gdF rfl rfl rfl) rfl (Ch.skU (gdF rfl rfl rfl) rfl (Ch.p2 rfl rfl (OpS.pickT) rfl (Ch.mv rfl rfl (Ch.skU (gdF rfl rfl rfl) rfl (Ch.skU (gdF rfl rfl rfl) rfl ?_)))))))))
  refine Ch.skU (gdF rfl rfl rfl) rfl (Ch.skU (gdF rfl rfl rfl) rfl (Ch.skU (gdF rfl rfl rfl) rfl (Ch.skU (gdF rfl rfl rfl) rfl (Ch.skU (gdF rfl rfl rfl) rfl (Ch.skU (gdF rfl rfl rfl) rfl (Ch.skU (gdF rfl rfl rfl) rfl (Ch.skU (gdF rfl rfl rfl) rfl (Ch.p2 rfl rfl (OpS.pickT) rfl (Ch.mv rfl rfl ?_)))))))))
  refine Ch.skU (gdF rfl rfl rfl) rfl (Ch.skU (gdF rfl rfl rfl) rfl (Ch.p2 rfl rfl (OpS.pickT) rfl (Ch.nilD ?_ (by kernel_rfl))))
  refine WP.cond_true rfl (WP.rs hG (Ch.pup gdN (by repeat (first | exact EvP.nil | (apply EvP.cons; exact rfl))) (OpS.build (cs := ntA nt0) rfl rfl rfl rfl rfl (by rfl)) rfl ?_))
  refine Ch.ws rfl rfl (OpS.storePA (cs := ntA nt0) (c := .agg (ntA nt0)) rfl rfl rfl (by exact Nat.le_refl 9)) rfl ?_
  refine Ch.asg rfl rfl (Ch.nil (WP.from (SEnt.frz (t := 4) rfl rfl) (WP.ret ?_)))
  refine (Ret.of (rs := [4, 5]) (vs := [.sptr (ntA nt0), .v (.bool false)]) (H' := rpH x) (res := .tup [.sptr (ntA nt0), .v (.bool false)]) [0, 1, 2, 3, 4, 5, 6, 7, 8, 9] ?_ ?_ rfl ?_ (by simp only [List.length_cons, List.length_nil]; decide) ?_).1
  · exact na_of hnA rfl
  · (repeat (first | exact trivial | (refine And.intro ⟨(by trivial), _, rfl, .rfl _⟩ ?_)))
  · (repeat (first | exact trivial | refine HFromL.skip ?_ | (refine And.intro ⟨(by first | trivial | (simp; first | done | fail)), (by first | rfl | (simp [renL_tbs, renL_bks, renL_vs, pend_ren]; first | done | fail))⟩ ?_)))
  · exact ⟨_, rfl, rfl, by simp [ls, TsOk, List.zip, List.zipWith]⟩
 ·
  have hs := hq
  refine WP.rsD (by kernel_rfl) hG (Ch.p1 rfl (OpS.fieldAddrS rfl rfl rfl rfl rfl) rfl (Ch.p1 rfl (OpS.loadS rfl rfl) rfl (Ch.p1 rfl (OpS.fieldAddrS rfl rfl rfl rfl rfl) rfl (Ch.p1 rfl (OpS.loadS rfl rfl) rfl (Ch.callP (fl) gdN (.cons rfl .nil) (.c (.rfl _) .n) (by rfl) rfl ?_)))))
  refine Ch.p2 rfl rfl (OpS.neqF hs.1) rfl (Ch.mv rfl rfl (Ch.g1 rfl rfl rfl (OpS.fieldAddrS rfl rfl rfl rfl rfl) rfl (Ch.g1 rfl rfl rfl (OpS.loadS rfl rfl) rfl (Ch.g1 rfl rfl rfl (OpS.lenS rfl) rfl (Ch.g2 rfl rfl rfl rfl (OpS.gtrT (by omega)) rfl ?_)))))
  refine Ch.p2 rfl rfl (OpS.pickF) rfl (Ch.mv rfl rfl (Ch.skU (gdF rfl rfl rfl) rfl (Ch.skU (gdF rfl rfl rfl) rfl (Ch.skU (gdF rfl rfl rfl) rfl (Ch.skU (gdF rfl rfl rfl) rfl (Ch.skU (gdF rfl rfl rfl) rfl (Ch.skU (gdF rfl rfl rfl) rfl (Ch.skU (gdF rfl rfl rfl) rfl (Ch.skU (gdF rfl rfl rfl) rfl ?_)))))))))
  refine Ch.skU (gdF rfl rfl rfl) rfl (Ch.skU (gdF rfl rfl rfl) rfl (Ch.p2 rfl rfl (OpS.pickT) rfl (Ch.mv rfl rfl (Ch.skU (gdF rfl rfl rfl) rfl (Ch.skU (gdF rfl rfl rfl) rfl (Ch.p2 rfl rfl (OpS.pickT) rfl (Ch.nilD ?_ (by kernel_rfl))))))))
  refine WP.cond_true rfl (WP.rs hG (Ch.pup gdN (by repeat (first | exact EvP.nil | (apply EvP.cons; exact rfl))) (OpS.build (cs := ntA nt0) rfl rfl rfl rfl rfl (by rfl)) rfl ?_))
  refine Ch.ws rfl rfl (OpS.storePA (cs := ntA nt0) (c := .agg (ntA nt0)) rfl rfl rfl (by exact Nat.le_refl 9)) rfl ?_
  refine Ch.asg rfl rfl (Ch.nil (WP.from (SEnt.frz (t := 4) rfl rfl) (WP.ret ?_)))
  refine (Ret.of (rs := [4, 5]) (vs := [.sptr (ntA nt0), .v (.bool false)]) (H' := rpH x) (res := .tup [.sptr (ntA nt0), .v (.bool false)]) [0, 1, 2, 3, 4, 5, 6, 7, 8, 9] ?_ ?_ rfl ?_ (by simp only [List.length_cons, List.length_nil]; decide) ?_).1
  · exact na_of hnA rfl
  · (repeat (first | exact trivial | (refine And.intro ⟨(by trivial), _, rfl, .rfl _⟩ ?_)))
  · (repeat (first | exact trivial | refine HFromL.skip ?_ | (refine And.intro ⟨(by first | trivial | (simp; first | done | fail)), (by first | rfl | (simp [renL_tbs, renL_bks, renL_vs, pend_ren]; first | done | fail))⟩ ?_)))
  · exact ⟨_, rfl, rfl, by simp [ls, TsOk, List.zip, List.zipWith]⟩
 ·
  have hs := hq
  refine WP.rsD (by kernel_rfl) hG (Ch.p1 rfl (OpS.fieldAddrS rfl rfl rfl rfl rfl) rfl (Ch.p1 rfl (OpS.loadS rfl rfl) rfl (Ch.p1 rfl (OpS.fieldAddrS rfl rfl rfl rfl rfl) rfl (Ch.p1 rfl (OpS.loadS rfl rfl) rfl (Ch.callP (fl) gdN (.cons rfl .nil) (.c (.rfl _) .n) (by rfl) rfl ?_)))))
  refine Ch.p2 rfl rfl (OpS.neqF hs.1) rfl (Ch.mv rfl rfl (Ch.g1 rfl rfl rfl (OpS.fieldAddrS rfl rfl rfl rfl rfl) rfl (Ch.g1 rfl rfl rfl (OpS.loadS rfl rfl) rfl (Ch.g1 rfl rfl rfl (OpS.lenS rfl) rfl (Ch.g2 rfl rfl rfl rfl (OpS.gtrF (by omega)) rfl ?_)))))
  refine Ch.p2 rfl rfl (OpS.pickF) rfl (Ch.mv rfl rfl (Ch.g1 rfl rfl rfl (OpS.fieldAddrS rfl rfl rfl rfl rfl) rfl (Ch.g1 rfl rfl rfl (OpS.loadS rfl rfl) rfl (Ch.g1 rfl rfl rfl (OpS.fieldAddrS rfl rfl rfl rfl rfl) rfl (Ch.g1 rfl rfl rfl (OpS.loadS rfl rfl) rfl (Ch.g1 rfl rfl rfl (OpS.fieldAddrS rfl rfl rfl rfl rfl) rfl (Ch.g1 rfl rfl rfl (OpS.loadS rfl rfl) rfl (Ch.g1 rfl rfl rfl (OpS.fieldAddrS rfl rfl rfl rfl rfl) rfl (Ch.g1 rfl rfl rfl (OpS.loadS rfl rfl) rfl ?_)))))))))
  refine Ch.callP (fi (by omega)) (gdT rfl rfl) (.cons rfl (.cons rfl (.cons rfl .nil))) (.c (.rfl _) (.c (.rfl _) (.c (.rfl _) .n))) (by rfl) rfl ?_
  refine Ch.g2 rfl rfl rfl rfl (OpS.strNeB (c := true) (by rw [decide_eq_false hne]; rfl)) rfl ?_
  refine Ch.p2 rfl rfl (OpS.pickF) rfl (Ch.mv rfl rfl (Ch.skU (gdF rfl rfl rfl) rfl (Ch.skU (gdF rfl rfl rfl) rfl (Ch.p2 rfl rfl (OpS.pickT) rfl (Ch.nilD ?_ (by kernel_rfl))))))
  refine WP.cond_true rfl (WP.rs hG (Ch.pup gdN (by repeat (first | exact EvP.nil | (apply EvP.cons; exact rfl))) (OpS.build (cs := ntA nt0) rfl rfl rfl rfl rfl (by rfl)) rfl ?_))
  refine Ch.ws rfl rfl (OpS.storePA (cs := ntA nt0) (c := .agg (ntA nt0)) rfl rfl rfl (by exact Nat.le_refl 9)) rfl ?_
  refine Ch.asg rfl rfl (Ch.nil (WP.from (SEnt.frz (t := 4) rfl rfl) (WP.ret ?_)))
  refine (Ret.of (rs := [4, 5]) (vs := [.sptr (ntA nt0), .v (.bool false)]) (H' := rpH x) (res := .tup [.sptr (ntA nt0), .v (.bool false)]) [0, 1, 2, 3, 4, 5, 6, 7, 8, 9] ?_ ?_ rfl ?_ (by simp only [List.length_cons, List.length_nil]; decide) ?_).1
  · exact na_of hnA rfl
  · (repeat (first | exact trivial | (refine And.intro ⟨(by trivial), _, rfl, .rfl _⟩ ?_)))
  · (repeat (first | exact trivial | refine HFromL.skip ?_ | (refine And.intro ⟨(by first | trivial | (simp; first | done | fail)), (by first | rfl | (simp [renL_tbs, renL_bks, renL_vs, pend_ren]; first | done | fail))⟩ ?_)))
  · exact ⟨_, rfl, rfl, by simp [ls, TsOk, List.zip, List.zipWith]⟩
theorem rOnVoteR_fc (x : Rp) (n : Nt) (hk : FP G 99 [.ptr 2 0, .agg (ntA n)] (rpH x) (.v (.int .i64 (-1))) (rpH x)) : FP G 62 [.ptr 2 0, .agg (ntA n)] (rpH x) (.tup []) (rpH x) := by
 refine FC.of_wp [] Tryz.func62 rfl rfl rfl rfl ⟨rfl, nt_bel _ n, trivial⟩ (rp_bel _ blt10 x) (Nat.le_of_ble_eq_true rfl) ?_
 intro A hG hnA hAB
 unfold start
 refine WP.rs hG (Ch.p1 rfl (OpS.boxS) rfl (Ch.nil (WP.rs hG (Ch.mv rfl rfl (Ch.p1 rfl (OpS.loadSA rfl rfl rfl) rfl ?_)))))
 refine Ch.cH (hk) [0,1,2,3,4,5,6,7,8,9] 10 gdN (.cons rfl (.cons rfl .nil)) (.c (.rfl _) (.c (.of_eq (ren_nt _ _).symm) .n)) rfl (by refine ⟨?_, ?_, ?_, ?_⟩ <;> first | ((conv => lhs; simp only [nrmA, Nat.reduceAdd, renL_tbs, renL_tb1, renL_bks, renL_b1, renL_vs, renL_v1, ren_vt, pend_ren, ren_ss]); all_goals rfl) | rfl) (by exact ⟨rfl, rfl, rfl, rfl, rfl, rfl, rfl, rfl, rfl, rfl, trivial⟩) (by exact trivial) rfl ?_
 refine Ch.asg rfl rfl (Ch.nil (WP.seq (WP.rsD (by kernel_rfl) hG (Ch.mv rfl rfl (Ch.p2 rfl rfl (OpS.int (op := .lss) (v' := .bool true) rfl rfl) rfl (Ch.mv rfl rfl (Ch.skU (gdF rfl rfl rfl) rfl (Ch.skU (gdF rfl rfl rfl) rfl (Ch.skU (gdF rfl rfl rfl) rfl ?_)))))))))
 refine Ch.skU (gdF rfl rfl rfl) rfl (Ch.skU (gdF rfl rfl rfl) rfl (Ch.skU (gdF rfl rfl rfl) rfl (Ch.skU (gdF rfl rfl rfl) rfl (Ch.skU (gdF rfl rfl rfl) rfl (Ch.skU (gdF rfl rfl rfl) rfl (Ch.skU (gdF rfl rfl rfl) rfl (Ch.p2 rfl rfl (OpS.pickT) rfl (Ch.nilD ?_ (by kernel_rfl)))))))))
 refine WP.cond_true rfl (WP.ret ?_)
 refine (Ret.of (rs := []) (vs := []) (H' := rpH x) (res := .tup []) [0, 1, 2, 3, 4, 5, 6, 7, 8, 9] ?_ ?_ rfl ?_ (by simp only [List.length_cons, List.length_nil]; decide) ?_).1
 · exact na_of hnA rfl
 · (repeat (first | exact trivial | (refine And.intro ⟨(by first | trivial | (simp; first | done | fail) | exact ⟨trivial, hbel _⟩), _, rfl, (by first | exact .rfl _ | exact .nil | exact .of_eq (by simp [renL_tbs, renL_bks, renL_vs, pend_ren]; first | done | fail) | exact AV.wk.sh (by simp [renL_tbs, renL_bks, renL_vs, pend_ren]; first | done | fail) | exact .untip _ _ _ | exact .of_eq (ren_ss _ _).symm | exact .of_eq (ren_nt _ _).symm | exact .of_eq (ren_spt _ _).symm)⟩ ?_)))
 · (repeat (first | exact trivial | refine HFromL.skip ?_ | (refine And.intro ⟨(by first | trivial | (simp; first | done | fail)), (by first | rfl | (simp [renL_tbs, renL_bks, renL_vs, pend_ren]; first | done | fail))⟩ ?_)))
 · exact ⟨_, rfl, rfl, by simp [ls, TsOk, List.zip, List.zipWith]⟩
theorem rOnTurnR_fc (x : Rp) (n : Nt) (hk : FP G 99 [.ptr 2 0, .agg (ntA n)] (rpH x) (.v (.int .i64 (-1))) (rpH x)) : FP G 63 [.ptr 2 0, .agg (ntA n)] (rpH x) (.tup []) (rpH x) := by
 refine FC.of_wp [] Tryz.func63 rfl rfl rfl rfl ⟨rfl, nt_bel _ n, trivial⟩ (rp_bel _ blt10 x) (Nat.le_of_ble_eq_true rfl) ?_
 intro A hG hnA hAB
 unfold start
 refine WP.rs hG (Ch.p1 rfl (OpS.boxS) rfl (Ch.nil (WP.rs hG (Ch.mv rfl rfl (Ch.p1 rfl (OpS.loadSA rfl rfl rfl) rfl ?_)))))
 refine Ch.cH (hk) [0,1,2,3,4,5,6,7,8,9] 10 gdN (.cons rfl (.cons rfl .nil)) (.c (.rfl _) (.c (.of_eq (ren_nt _ _).symm) .n)) rfl (by refine ⟨?_, ?_, ?_, ?_⟩ <;> first | ((conv => lhs; simp only [nrmA, Nat.reduceAdd, renL_tbs, renL_tb1, renL_bks, renL_b1, renL_vs, renL_v1, ren_vt, pend_ren, ren_ss]); all_goals rfl) | rfl) (by exact ⟨rfl, rfl, rfl, rfl, rfl, rfl, rfl, rfl, rfl, rfl, trivial⟩) (by exact trivial) rfl ?_
 refine Ch.asg rfl rfl (Ch.nil (WP.seq (WP.rs hG (Ch.mv rfl rfl (Ch.p2 rfl rfl (OpS.int (op := .lss) (v' := .bool true) rfl rfl) rfl (Ch.mv rfl rfl (Ch.skU (gdF rfl rfl rfl) rfl (Ch.skU (gdF rfl rfl rfl) rfl (Ch.skU (gdF rfl rfl rfl) rfl ?_)))))))))
 refine Ch.skU (gdF rfl rfl rfl) rfl (Ch.skU (gdF rfl rfl rfl) rfl (Ch.skU (gdF rfl rfl rfl) rfl (Ch.p2 rfl rfl (OpS.pickT) rfl (Ch.nil (WP.cond_true rfl (WP.ret ?_))))))
 refine (Ret.of (rs := []) (vs := []) (H' := rpH x) (res := .tup []) [0, 1, 2, 3, 4, 5, 6, 7, 8, 9] ?_ ?_ rfl ?_ (by simp only [List.length_cons, List.length_nil]; decide) ?_).1
 · exact na_of hnA rfl
 · (repeat (first | exact trivial | (refine And.intro ⟨(by first | trivial | (simp; first | done | fail) | exact ⟨trivial, hbel _⟩), _, rfl, (by first | exact .rfl _ | exact .nil | exact .of_eq (by simp [renL_tbs, renL_bks, renL_vs, pend_ren]; first | done | fail) | exact AV.wk.sh (by simp [renL_tbs, renL_bks, renL_vs, pend_ren]; first | done | fail) | exact .untip _ _ _ | exact .of_eq (ren_ss _ _).symm | exact .of_eq (ren_nt _ _).symm | exact .of_eq (ren_spt _ _).symm)⟩ ?_)))
 · (repeat (first | exact trivial | refine HFromL.skip ?_ | (refine And.intro ⟨(by first | trivial | (simp; first | done | fail)), (by first | rfl | (simp [renL_tbs, renL_bks, renL_vs, pend_ren]; first | done | fail))⟩ ?_)))
 · exact ⟨_, rfl, rfl, by simp [ls, TsOk, List.zip, List.zipWith]⟩
theorem rRecR_fc (x : Rp) (n : Nt) (hd : x.dead = false)
  (h1 : FP G 61 [.ptr 2 0, .agg (ntA n)] (rpH x) (.tup [.agg (ntA nt0), .v (.bool false)]) (rpH x))
  (h2 : FP G 62 [.ptr 2 0, .agg (ntA n)] (rpH x) (.tup []) (rpH x))
  (h3 : FP G 63 [.ptr 2 0, .agg (ntA n)] (rpH x) (.tup []) (rpH x)) :
  FP G 30 [.ptr 2 0, .agg (ntA n)] (rpH x) (.tup [.agg (ntA nt0), .v (.bool false)]) (rpH x) := by
 have e1 : U64 n.view = (n.view.toNat : Int) := rfl
 obtain ⟨d, s, c, lost, tr, bs, vo, lk, lid, me, ks, seed, n', view, tm, prop, sg, dead⟩ := x
 replace hd : dead = false := hd
 subst hd
 refine FC.of_wpc [(4, some 46), (5, none)] Tryz.func30 rfl rfl rfl rfl (by exact ⟨_, rfl, ⟨_, _, rfl, rfl, rfl, rfl⟩, trivial, trivial⟩) ⟨rfl, nt_bel _ n, trivial⟩ (rp_bel _ blt10 _) (Nat.le_of_ble_eq_true rfl) ?_
 intro A hG hnA hAB
 unfold start
 refine WP.rs hG (Ch.p1 rfl (OpS.boxS) rfl (Ch.a0 (OpS.alloc 10 rfl rfl rfl) rfl rfl (Ch.asg rfl rfl (Ch.nil (WP.seq ?_)))))
 rcases (show 4611686018427387904 < n.view.toNat ∨ (n.view.toNat ≤ 4611686018427387904 ∧ n.kind = 1) ∨ (n.view.toNat ≤ 4611686018427387904 ∧ n.kind = 2) ∨ (n.view.toNat ≤ 4611686018427387904 ∧ n.kind = 3) ∨ (n.view.toNat ≤ 4611686018427387904 ∧ n.kind ≠ 1 ∧ n.kind ≠ 2 ∧ n.kind ≠ 3) by omega) with hq | hq | hq | hq | hq
 ·
  have hs := hq
  refine WP.rs hG (Ch.mv rfl rfl (Ch.p1 rfl (OpS.nilCheckP) rfl (Ch.p1 rfl (OpS.fieldAddr rfl rfl rfl rfl) rfl (Ch.q1 rfl (OpS.loadP rfl rfl rfl) rfl rfl (Ch.mv rfl rfl (Ch.g1 rfl rfl rfl (OpS.fieldAddrS rfl rfl rfl rfl rfl) rfl (Ch.g1 rfl rfl rfl (OpS.loadS rfl rfl) rfl (Ch.g2 rfl rfl rfl rfl (OpS.gtrT (by omega)) rfl ?_))))))))
  refine Ch.p2 rfl rfl (OpS.pickF) rfl (Ch.nil (WP.cond_true rfl (WP.from (SEnt.frz (t := 4) rfl rfl) (WP.ret ?_))))
  refine (Ret.of (rs := [4, 5]) (vs := [.sptr (ntA nt0), .v (.bool false)]) (H' := rpH ⟨d, s, c, lost, tr, bs, vo, lk, lid, me, ks, seed, n', view, tm, prop, sg, false⟩) (res := .tup [.sptr (ntA nt0), .v (.bool false)]) [0, 1, 2, 3, 4, 5, 6, 7, 8, 9] ?_ ?_ rfl ?_ (by simp only [List.length_cons, List.length_nil]; decide) ?_).1
  · exact na_of hnA rfl
  · (repeat (first | exact trivial | (refine And.intro ⟨(by trivial), _, rfl, .rfl _⟩ ?_)))
  · (repeat (first | exact trivial | refine HFromL.skip ?_ | (refine And.intro ⟨(by first | trivial | (simp; first | done | fail)), (by first | rfl | (simp [renL_tbs, renL_bks, renL_vs, pend_ren]; first | done | fail))⟩ ?_)))
  · exact ⟨_, rfl, rfl, by simp [ls, TsOk, List.zip, List.zipWith]⟩
 ·
  have hs := hq
  refine WP.rs hG (Ch.mv rfl rfl (Ch.p1 rfl (OpS.nilCheckP) rfl (Ch.p1 rfl (OpS.fieldAddr rfl rfl rfl rfl) rfl (Ch.q1 rfl (OpS.loadP rfl rfl rfl) rfl rfl (Ch.mv rfl rfl (Ch.g1 rfl rfl rfl (OpS.fieldAddrS rfl rfl rfl rfl rfl) rfl (Ch.g1 rfl rfl rfl (OpS.loadS rfl rfl) rfl (Ch.g2 rfl rfl rfl rfl (OpS.gtrF (by omega)) rfl ?_))))))))
  refine Ch.p2 rfl rfl (OpS.pickF) rfl (Ch.nil (WP.cond_false rfl (WP.skip (WP.seq (WP.rs hG (Ch.p1 rfl (OpS.fieldAddrS rfl rfl rfl rfl rfl) rfl (Ch.p1 rfl (OpS.loadS rfl rfl) rfl (Ch.nil (WP.block ?_)))))))))
  refine WP.rs hG (Ch.p2 rfl rfl (OpS.eqlT hs.2) rfl (Ch.asg rfl rfl (Ch.nil (WP.cond_true rfl (WP.rs hG (Ch.mv rfl rfl (Ch.p1 rfl (OpS.loadSA rfl rfl rfl) rfl ?_)))))))
  refine Ch.cH (h1) [0,1,2,3,4,5,6,7,8,9] 11 gdN (.cons rfl (.cons rfl .nil)) (.c (.rfl _) (.c (.of_eq (ren_nt _ _).symm) .n)) rfl (by refine ⟨?_, ?_, ?_, ?_⟩ <;> first | ((conv => lhs; simp only [nrmA, Nat.reduceAdd, renL_tbs, renL_tb1, renL_bks, renL_b1, renL_vs, renL_v1, ren_vt, pend_ren, ren_ss]); all_goals rfl) | rfl) (by exact ⟨rfl, rfl, rfl, rfl, rfl, rfl, rfl, rfl, rfl, rfl, trivial⟩) (by exact trivial) rfl ?_
  refine Ch.p1 rfl (OpS.extract rfl) rfl (Ch.p1 rfl (OpS.extract rfl) rfl (Ch.ws rfl rfl (OpS.storePA (cs := ntA nt0) (c := .agg (ntA nt0)) rfl rfl rfl (by exact Nat.le_refl 9)) rfl ?_))
  refine Ch.asg rfl rfl (Ch.nil (WP.from (SEnt.frz (t := 4) rfl rfl) (WP.ret ?_)))
  refine (Ret.of (rs := [4, 5]) (vs := [.sptr (ntA nt0), .v (.bool false)]) (H' := rpH ⟨d, s, c, lost, tr, bs, vo, lk, lid, me, ks, seed, n', view, tm, prop, sg, false⟩) (res := .tup [.sptr (ntA nt0), .v (.bool false)]) [0, 1, 2, 3, 4, 5, 6, 7, 8, 9] ?_ ?_ rfl ?_ (by simp only [List.length_cons, List.length_nil]; decide) ?_).1
  · exact na_of hnA rfl
  · (repeat (first | exact trivial | (refine And.intro ⟨(by trivial), _, rfl, .rfl _⟩ ?_)))
  · (repeat (first | exact trivial | refine HFromL.skip ?_ | (refine And.intro ⟨(by first | trivial | (simp; first | done | fail)), (by first | rfl | (simp [renL_tbs, renL_bks, renL_vs, pend_ren]; first | done | fail))⟩ ?_)))
  · exact ⟨_, rfl, rfl, by simp [ls, TsOk, List.zip, List.zipWith]⟩
 ·
  have hs := hq
  refine WP.rs hG (Ch.mv rfl rfl (Ch.p1 rfl (OpS.nilCheckP) rfl (Ch.p1 rfl (OpS.fieldAddr rfl rfl rfl rfl) rfl (Ch.q1 rfl (OpS.loadP rfl rfl rfl) rfl rfl (Ch.mv rfl rfl (Ch.g1 rfl rfl rfl (OpS.fieldAddrS rfl rfl rfl rfl rfl) rfl (Ch.g1 rfl rfl rfl (OpS.loadS rfl rfl) rfl (Ch.g2 rfl rfl rfl rfl (OpS.gtrF (by omega)) rfl ?_))))))))
  refine Ch.p2 rfl rfl (OpS.pickF) rfl (Ch.nil (WP.cond_false rfl (WP.skip (WP.seq (WP.rs hG (Ch.p1 rfl (OpS.fieldAddrS rfl rfl rfl rfl rfl) rfl (Ch.p1 rfl (OpS.loadS rfl rfl) rfl (Ch.nil (WP.block ?_)))))))))
  refine WP.rs hG (Ch.p2 rfl rfl (OpS.eqlF (by omega)) rfl ?_)
  refine Ch.asg rfl rfl (Ch.nil (WP.cond_false rfl (WP.rs hG (Ch.p2 rfl rfl (OpS.eqlT hs.2) rfl (Ch.asg rfl rfl (Ch.nil (WP.cond_true rfl (WP.rg hG (Ch.mv rfl rfl ?_)))))))))
  refine Ch.p1 rfl (OpS.loadSA rfl rfl rfl) rfl ?_
  refine Ch.cH (h2) [0,1,2,3,4,5,6,7,8,9] 11 gdN (.cons rfl (.cons rfl .nil)) (.c (.rfl _) (.c (.of_eq (ren_nt _ _).symm) .n)) rfl (by refine ⟨?_, ?_, ?_, ?_⟩ <;> first | ((conv => lhs; simp only [nrmA, Nat.reduceAdd, renL_tbs, renL_tb1, renL_bks, renL_b1, renL_vs, renL_v1, ren_vt, pend_ren, ren_ss]); all_goals rfl) | rfl) (by exact ⟨rfl, rfl, rfl, rfl, rfl, rfl, rfl, rfl, rfl, rfl, trivial⟩) (by exact trivial) rfl ?_
  refine Ch.nil (WP.from (SEnt.frz (t := 4) rfl rfl) (WP.ret ?_))
  refine (Ret.of (rs := [4, 5]) (vs := [.sptr (ntA nt0), .v (.bool false)]) (H' := rpH ⟨d, s, c, lost, tr, bs, vo, lk, lid, me, ks, seed, n', view, tm, prop, sg, false⟩) (res := .tup [.sptr (ntA nt0), .v (.bool false)]) [0, 1, 2, 3, 4, 5, 6, 7, 8, 9] ?_ ?_ rfl ?_ (by simp only [List.length_cons, List.length_nil]; decide) ?_).1
  · exact na_of hnA rfl
  · (repeat (first | exact trivial | (refine And.intro ⟨(by trivial), _, rfl, .rfl _⟩ ?_)))
  · (repeat (first | exact trivial | refine HFromL.skip ?_ | (refine And.intro ⟨(by first | trivial | (simp; first | done | fail)), (by first | rfl | (simp [renL_tbs, renL_bks, renL_vs, pend_ren]; first | done | fail))⟩ ?_)))
  · exact ⟨_, rfl, rfl, by simp [ls, TsOk, List.zip, List.zipWith]⟩
 ·
  have hs := hq
  refine WP.rs hG (Ch.mv rfl rfl (Ch.p1 rfl (OpS.nilCheckP) rfl (Ch.p1 rfl (OpS.fieldAddr rfl rfl rfl rfl) rfl (Ch.q1 rfl (OpS.loadP rfl rfl rfl) rfl rfl (Ch.mv rfl rfl (Ch.g1 rfl rfl rfl (OpS.fieldAddrS rfl rfl rfl rfl rfl) rfl (Ch.g1 rfl rfl rfl (OpS.loadS rfl rfl) rfl (Ch.g2 rfl rfl rfl rfl (OpS.gtrF (by omega)) rfl ?_))))))))
  refine Ch.p2 rfl rfl (OpS.pickF) rfl (Ch.nil (WP.cond_false rfl (WP.skip (WP.seq (WP.rs hG (Ch.p1 rfl (OpS.fieldAddrS rfl rfl rfl rfl rfl) rfl (Ch.p1 rfl (OpS.loadS rfl rfl) rfl (Ch.nil (WP.block ?_)))))))))
  refine WP.rs hG (Ch.p2 rfl rfl (OpS.eqlF (by omega)) rfl ?_)
  refine Ch.asg rfl rfl (Ch.nil (WP.cond_false rfl (WP.rs hG (Ch.p2 rfl rfl (OpS.eqlF (by omega)) rfl ?_))))
  refine Ch.asg rfl rfl (Ch.nil (WP.cond_false rfl (WP.rs hG (Ch.p2 rfl rfl (OpS.eqlT hs.2) rfl (Ch.asg rfl rfl (Ch.nil (WP.cond_true rfl (WP.rg hG (Ch.mv rfl rfl ?_)))))))))
  refine Ch.p1 rfl (OpS.loadSA rfl rfl rfl) rfl ?_
  refine Ch.cH (h3) [0,1,2,3,4,5,6,7,8,9] 11 gdN (.cons rfl (.cons rfl .nil)) (.c (.rfl _) (.c (.of_eq (ren_nt _ _).symm) .n)) rfl (by refine ⟨?_, ?_, ?_, ?_⟩ <;> first | ((conv => lhs; simp only [nrmA, Nat.reduceAdd, renL_tbs, renL_tb1, renL_bks, renL_b1, renL_vs, renL_v1, ren_vt, pend_ren, ren_ss]); all_goals rfl) | rfl) (by exact ⟨rfl, rfl, rfl, rfl, rfl, rfl, rfl, rfl, rfl, rfl, trivial⟩) (by exact trivial) rfl ?_
  refine Ch.nil (WP.from (SEnt.frz (t := 4) rfl rfl) (WP.ret ?_))
  refine (Ret.of (rs := [4, 5]) (vs := [.sptr (ntA nt0), .v (.bool false)]) (H' := rpH ⟨d, s, c, lost, tr, bs, vo, lk, lid, me, ks, seed, n', view, tm, prop, sg, false⟩) (res := .tup [.sptr (ntA nt0), .v (.bool false)]) [0, 1, 2, 3, 4, 5, 6, 7, 8, 9] ?_ ?_ rfl ?_ (by simp only [List.length_cons, List.length_nil]; decide) ?_).1
  · exact na_of hnA rfl
  · (repeat (first | exact trivial | (refine And.intro ⟨(by trivial), _, rfl, .rfl _⟩ ?_)))
  · (repeat (first | exact trivial | refine HFromL.skip ?_ | (refine And.intro ⟨(by first | trivial | (simp; first | done | fail)), (by first | rfl | (simp [renL_tbs, renL_bks, renL_vs, pend_ren]; first | done | fail))⟩ ?_)))
  · exact ⟨_, rfl, rfl, by simp [ls, TsOk, List.zip, List.zipWith]⟩
 ·
  have hs := hq
  refine WP.rs hG (Ch.mv rfl rfl (Ch.p1 rfl (OpS.nilCheckP) rfl (Ch.p1 rfl (OpS.fieldAddr rfl rfl rfl rfl) rfl (Ch.q1 rfl (OpS.loadP rfl rfl rfl) rfl rfl (Ch.mv rfl rfl (Ch.g1 rfl rfl rfl (OpS.fieldAddrS rfl rfl rfl rfl rfl) rfl (Ch.g1 rfl rfl rfl (OpS.loadS rfl rfl) rfl (Ch.g2 rfl rfl rfl rfl (OpS.gtrF (by omega)) rfl ?_))))))))
  refine Ch.p2 rfl rfl (OpS.pickF) rfl (Ch.nil (WP.cond_false rfl (WP.skip (WP.seq (WP.rs hG (Ch.p1 rfl (OpS.fieldAddrS rfl rfl rfl rfl rfl) rfl (Ch.p1 rfl (OpS.loadS rfl rfl) rfl (Ch.nil (WP.block ?_)))))))))
  refine WP.rs hG (Ch.p2 rfl rfl (OpS.eqlF (by omega)) rfl ?_)
  refine Ch.asg rfl rfl (Ch.nil (WP.cond_false rfl (WP.rs hG (Ch.p2 rfl rfl (OpS.eqlF (by omega)) rfl ?_))))
  refine Ch.asg rfl rfl (Ch.nil (WP.cond_false rfl (WP.rs hG (Ch.p2 rfl rfl (OpS.eqlF (by omega)) rfl ?_))))
  refine Ch.asg rfl rfl (Ch.nil (WP.cond_false rfl (WP.skip (WP.from (SEnt.frz (t := 4) rfl rfl) (WP.ret ?_)))))
  refine (Ret.of (rs := [4, 5]) (vs := [.sptr (ntA nt0), .v (.bool false)]) (H' := rpH ⟨d, s, c, lost, tr, bs, vo, lk, lid, me, ks, seed, n', view, tm, prop, sg, false⟩) (res := .tup [.sptr (ntA nt0), .v (.bool false)]) [0, 1, 2, 3, 4, 5, 6, 7, 8, 9] ?_ ?_ rfl ?_ (by simp only [List.length_cons, List.length_nil]; decide) ?_).1
  · exact na_of hnA rfl
  · (repeat (first | exact trivial | (refine And.intro ⟨(by trivial), _, rfl, .rfl _⟩ ?_)))
  · (repeat (first | exact trivial | refine HFromL.skip ?_ | (refine And.intro ⟨(by first | trivial | (simp; first | done | fail)), (by first | rfl | (simp [renL_tbs, renL_bks, renL_vs, pend_ren]; first | done | fail))⟩ ?_)))
  · exact ⟨_, rfl, rfl, by simp [ls, TsOk, List.zip, List.zipWith]⟩
theorem rRefuse_fc (hm : ShaIn G) (x : Rp) (n : Nt) (hd : x.dead = false) (h32 : Ids32 x) (hl : x.bs.length ≤ 1000) (hi : n.id.length ≤ 31) (hp : n.pa.length ≤ 31) :
  FP G 30 [.ptr 2 0, .agg (ntA n)] (rpH x) (.tup [.agg (ntA nt0), .v (.bool false)]) (rpH x) := by
 have hk := rKnown_fc (G := G) x n hl (-1) (by
  have := find_short h32 hi
  by_cases h1 : n.fr < 0
  · exact .inr (.inl ⟨h1, rfl⟩)
  ·
   by_cases h2 : n.fr < 4
   · exact .inl ⟨by omega, h2, this⟩
   · exact .inr (.inr ⟨by omega, by omega, rfl⟩))
 exact rRecR_fc x n hd (rOnPropR_fc hm x n hl hi (by omega) (find_short h32 hp)) (rOnVoteR_fc x n hk) (rOnTurnR_fc x n hk)
end
end Go.Proofs.YtpnbpcopdckgpaaGreatDoor.E
end
section
namespace Go.Proofs.YtpnbpcopdckgpaaGreatDoor.E
open Go Go.RowKit Go.Proofs.YtpnbpcopdckgpaaGreatDoor.V
set_option maxRecDepth 4000
set_option maxRecDepth 4000
set_option maxHeartbeats 4000000
--NRM renL_tbs, renL_tb1, renL_bks, renL_b1, renL_vs, renL_v1, ren_vt, pend_ren, ren_ss
--NUK 9
--WKX exact .of_eq (ren_ss _ _).symm | exact .of_eq (ren_nt _ _).symm | exact .of_eq (ren_spt _ _).symm
theorem min31 (n : Nat) : (if (31 : Int) < (n : Int) then (31 : Int) else (n : Int)) = ((min n 31 : Nat) : Int) := by split <;> omega
theorem ids_learn {x : Rp} {n : Nt} (h : Ids32 x) (hn : n.id.length = 32) : Ids32 (learnR x n) := by
 intro id hid
 rw [learn_bs] at hid
 unfold idsT at hid
 rw [List.map_append, List.mem_append] at hid
 rcases hid with hid | hid
 · exact h id hid
 ·
  simp at hid
  rw [hid, hn]
theorem ids_vote {x : Rp} {n : Nt} {e : Dk} {c : Nat} (h : Ids32 x) (hn : n.id.length = 32) : Ids32 (voteR x n e c) := ids_learn h hn
theorem prop_pn (p : Nat) (hp : p < 12) : PN ⟨1, (leadT (UInt64.ofNat (p + 1)) : Int), -1, UInt64.ofNat (p + 1), idT (UInt64.ofNat (p + 1)) firstT [112], firstT, [112], [], none⟩ := by
 have h : (UInt64.ofNat (p + 1)).toNat = p + 1 := by rw [UInt64.toNat_ofNat']; omega
 exact ⟨rfl, rfl, (show ([112] : Txt).length ≤ 200 by decide), rfl, rfl, by show 0 < (UInt64.ofNat (p + 1)).toNat; omega, by show (UInt64.ofNat (p + 1)).toNat ≤ _; omega⟩
theorem learn_sg (x : Rp) (n : Nt) : (learnR x n).sg = x.sg ∧ (learnR x n).n = x.n ∧ (learnR x n).seed = x.seed ∧ (learnR x n).d = x.d ∧ (learnR x n).bs.length = x.bs.length + 1 := ⟨rfl, rfl, rfl, rfl, by rw [learn_bs]; simp⟩
theorem vote_sg (x : Rp) (n : Nt) (e : Dk) (c : Nat) : (voteR x n e c).sg = x.sg ++ [ballotT n.id] ∧ (voteR x n e c).n = x.n + 1 ∧ (voteR x n e c).seed = x.seed ∧ (voteR x n e c).d = e ∧ (voteR x n e c).bs.length = x.bs.length + 1 := ⟨rfl, rfl, rfl, rfl, by show (learnR x n).bs.length = _; rw [learn_bs]; simp⟩
theorem vote_len (x : Rp) (n : Nt) (e : Dk) (c : Nat) : (voteR x n e c).tr.length = x.tr.length + 1 := learn_len x n
attribute [local irreducible] sum tag input beS rdNum rdText leavesT f64 tb sigT firstT leadT mayT lkT recT idT learnR voteR dieR keysP keyT ballotT voteN
section
variable {G : List (Nat × Array Value)}
theorem step_go (hsha : ShaIn G) {x : Rp} {c : Nat} (h : RI x c) {n : Nt} (hn : PN n) (hc : c + 1 < 250) (hx : x.n < 32) (hl : x.tr.length < 256) (hsg : x.sg.length ≤ 1000) (hsd : x.seed.length ≤ 1000) (h0 : x.d.left = 0) :
  FP G 30 [.ptr 2 0, .agg (ntA n)] (rpH x) (.tup [.agg (ntA nt0), .v (.bool false)]) (rpH x) ∨
  (n.view.toNat ≤ x.vo.toNat ∧ FP G 30 [.ptr 2 0, .agg (ntA n)] (rpH x) (.tup [.agg (ntA nt0), .v (.bool false)]) (rpL (learnR x n))) ∨
  (x.vo.toNat < n.view.toNat ∧ ∃ e, Good e (c + 1) (recT n.view (x.n + 1) firstT) ∧ e.left = 0 ∧ FP G 30 [.ptr 2 0, .agg (ntA n)] (rpH x) (.tup [.agg (ntA (voteN (learnR x n) n)), .v (.bool true)]) (rpV (voteR x n e (c + 1)))) := by
 rcases step_rec hsha h hn hc hx hl hsg hsd with h | h | h | h
 · exact .inl h.2
 · exact .inr (.inl h.2)
 ·
  obtain ⟨-, hv, e, ge, he, hf⟩ := h
  exact .inr (.inr ⟨hv, e, ge, he h0, hf⟩)
 · exact absurd h0 h.2.2.1
theorem lpick_fc (c : Int) (n : Nat) (h1 : -9223372036854775808 ≤ c) (h2 : c ≤ 9223372036854775807) (h0 : 0 < n) (hn : (n : Int) ≤ 9223372036854775807) :
  FP G 26 [.v (.int .i64 c), .v (.int .i64 (n : Int))] [] (.v (.int .i64 ((pickW c n : Nat) : Int))) [] := by
 have hpk := pickW_eq c n h0
 refine FC.of_wp [4] Tryz.func26 rfl rfl rfl rfl (by trivial) (by trivial) (Nat.le_of_ble_eq_true rfl) ?_
 intro A hG hnA hAB
 unfold start
 refine WP.rs hG (Ch.asg rfl rfl (Ch.nil (WP.seq (WP.rs hG (Ch.mv rfl rfl (Ch.p2 rfl rfl (OpS.int rfl (by exact rfl)) rfl ?_))))))
 refine Ch.nil ?_
 refine WP.cond rfl ?_ ?_
 ·
  intro ht
  have ht' := of_decide_eq_true ht
  refine WP.rg hG (Ch.mv rfl rfl (Ch.p2 rfl rfl (OpS.int rfl (by exact wr64 (by omega))) rfl ?_))
  refine Ch.p1 rfl (OpS.negI rfl (by omega)) rfl ?_
  refine Ch.asg rfl rfl (Ch.nil (WP.rs hG (Ch.mv rfl rfl (Ch.mv rfl rfl (Ch.p2 rfl rfl (OpS.rem (by omega) (by omega)) rfl ?_)))))
  refine Ch.asg rfl rfl (Ch.nil ?_)
  exact WP.ret (Ret.one rfl (.of_eq (by rw [hpk, if_pos ht']; rfl)) trivial hnA)
 ·
  intro ht
  have ht' := of_decide_eq_false ht
  refine WP.skip (WP.rs hG (Ch.mv rfl rfl (Ch.mv rfl rfl (Ch.p2 rfl rfl (OpS.rem (by omega) (by omega)) rfl ?_))))
  refine Ch.asg rfl rfl (Ch.nil ?_)
  exact WP.ret (Ret.one rfl (.of_eq (by rw [hpk, if_neg ht']; rfl)) trivial hnA)
theorem newb_fc (hm : ShaIn G) : FP G 23 [.v (.int .i64 1), .sl none 4 ((keysP 4).flatMap vA), sA [114, 98], .ptr 0 0] (dkH (nd 2)) (.ptr 2 0) (rpH (rp0 (nd 2) [] 0 0 1 (keysP 4) [114, 98] 0)) :=
 rNew_fc hm 1 (by decide) (keysP 4) (keysP_len 4) keys40 keys_nd [114, 98] (by decide) (nd 2) 0 [] good_new 0 0 (by decide) load_nil
theorem repRefuses_fc (hm : ShaIn G) (hr : RefIn G) (ns : List Int) (n : Nt) (hl : ns.length ≤ 9223372036854775807) (hok : ∀ m, m < ns.length → -9223372036854775808 ≤ el ns m ∧ el ns m ≤ 9223372036854775807) :
  FP G 8 [.sl none ns.length (ns.map iA), .agg (ntA n)] [] (.v (.bool true)) [] := by
 obtain ⟨x0, h0⟩ : ∃ x, x = rp0 (nd 2) [] 0 0 1 (keysP 4) [114, 98] 0 := ⟨_, rfl⟩
 have f0 := newb_fc hm
 rw [← h0] at f0
 have r0 : RI x0 0 := by rw [h0]; exact RI.new good_new 0 1 (keysP 4) [114, 98] 0 load_nil
 have i0 : Ids32 x0 := by
  intro id hid
  rw [h0] at hid
  have : id = firstT := by simpa [idsT, rp0] using hid
  rw [this, firstT_32]
 have q0 : x0.n = 0 ∧ x0.tr.length = 1 ∧ x0.sg.length = 0 ∧ x0.seed.length = 2 ∧ x0.d.left = 0 := by rw [h0]; exact ⟨rfl, rfl, rfl, rfl, rfl⟩
 refine FC.of_wp [4] Tryz.func8 rfl rfl rfl rfl ⟨⟨(fun k hk => by cases hk), belL_i _ _⟩, nt_bel _ n, trivial⟩ trivial (Nat.le_of_ble_eq_true rfl) ?_
 intro A hG hnA hAB
 unfold start
 refine WP.rs hG (Ch.a1 rfl (OpS.box 0 (show ((cellsA (AV.agg (ntA n))).all fun c => c.one) = true from nt_one n)) rfl rfl (Ch.asg rfl rfl (Ch.nil (WP.rs hG (Ch.callP (rawake_fc hm hr) gdN .nil .n (by rfl) rfl ?_)))))
 refine Ch.asg rfl rfl (Ch.nil (WP.rs hG (Ch.callS (vals_fc hr) gdN .nil .n (by simp) rfl ?_)))
 refine Ch.cH (newDisk_fc) [] 1 gdN .nil .n rfl (by refine ⟨?_, ?_, ?_, ?_⟩ <;> first | ((conv => lhs; simp only [nrmA, Nat.reduceAdd, renL_tbs, renL_tb1, renL_bks, renL_b1, renL_vs, renL_v1, ren_vt, pend_ren, ren_ss]); all_goals rfl) | rfl) (by exact trivial) (by exact ⟨rfl, trivial⟩) rfl ?_
 refine Ch.cH (f0) [1] 2 gdN (.cons rfl (.cons rfl (.cons rfl (.cons rfl .nil)))) (.c (.rfl _) (.c (AV.wk.sh (by simp; first | done | fail)) (.c (.rfl _) (.c (.rfl _) .n)))) rfl (by refine ⟨?_, ?_, ?_, ?_⟩ <;> first | ((conv => lhs; simp only [nrmA, Nat.reduceAdd, renL_tbs, renL_tb1, renL_bks, renL_b1, renL_vs, renL_v1, ren_vt, pend_ren, ren_ss]); all_goals rfl) | rfl) (by exact ⟨rfl, trivial⟩) (by exact ⟨rfl, rfl, rfl, rfl, rfl, rfl, rfl, rfl, rfl, trivial⟩) rfl ?_
 refine Ch.asg rfl rfl (Ch.nil (WP.seq (WP.rs hG (Ch.mv rfl rfl (Ch.p1 rfl (OpS.not) rfl (Ch.mv rfl rfl (Ch.gm rfl rfl rfl rfl (Ch.g2 rfl rfl rfl rfl (OpS.eqNil (.p _ _) rfl) rfl (Ch.p2 rfl rfl (OpS.pickF) rfl ?_)))))))))
 refine Ch.nil (WP.cond_false rfl (WP.skip ?_))
 refine WP.seqJ (fun σ => ∃ (c : Nat) (x : Rp), (RI x c ∧ Ids32 x ∧ x.n ≤ 5 ∧ x.sg.length ≤ 5 ∧ x.bs.length ≤ 6) ∧ σ = ⟨109, ls [(3, .ptr 10 0), (6, .ptr 2 0)], lh [(0, .cells 105 (dkC x.d)), (1, .cells 129 (jC x.s x.c x.lost)), (2, .cells 94 (rpC x 5 9)), (3, .cells 140 [.sl (some 4) x.tr.length (x.tr.flatMap tbA)]), (4, .tip 137 2 x.tr.length), (5, .tip 97 3 x.bs.length), (6, .cells 142 (kyC x)), (7, .tip 9 1 (leavesT x.seed 5).length), (8, .map x.tm), (9, .tip 9 1 x.sg.length), (10, .cells 46 (ntA n))], blt 11⟩) ?_ ?_
 ·
  skip
  refine WP.rs hG (Ch.asg rfl rfl (Ch.nil (WP.block ?_)))
  refine WP.loop (fun k σ => ∃ (m c : Nat) (x : Rp), (m + k = 5 ∧ m ≤ ns.length ∧ c ≤ m ∧ x.n ≤ m ∧ x.tr.length ≤ 1 + m ∧ x.sg.length ≤ m ∧ x.seed.length = 2 ∧ x.d.left = 0 ∧ RI x c ∧ Ids32 x) ∧ σ = ⟨109, ls [(0, .sl none ns.length (ns.map iA)), (3, .ptr 10 0), (6, .ptr 2 0), (7, .v (.int .i64 (m : Int)))], lh [(0, .cells 105 (dkC x.d)), (1, .cells 129 (jC x.s x.c x.lost)), (2, .cells 94 (rpC x 5 9)), (3, .cells 140 [.sl (some 4) x.tr.length (x.tr.flatMap tbA)]), (4, .tip 137 2 x.tr.length), (5, .tip 97 3 x.bs.length), (6, .cells 142 (kyC x)), (7, .tip 9 1 (leavesT x.seed 5).length), (8, .map x.tm), (9, .tip 9 1 x.sg.length), (10, .cells 46 (ntA n))], blt 11⟩) (5) (Ent.of [1, 2, 3, 4, 5, 6, 7, 8, 9, 10, 0] ?_ ?_ ?_ ?_).se ⟨0, 0, x0, ⟨by omega, by omega, by omega, by omega, by omega, by omega, q0.2.2.2.1, q0.2.2.2.2, r0, i0⟩, rfl⟩ ?_
  · exact na_of hnA rfl
  · (repeat (first | exact trivial | (refine And.intro ⟨(by first | trivial | (simp; first | done | fail)), _, rfl, (by first | exact .rfl _ | exact .of_eq (by simp [renL_tbs, renL_bks, renL_vs, pend_ren, ren_ss, renL_i, cellsA]; first | done | fail))⟩ ?_)))
  · (repeat (first | exact trivial | (refine And.intro ⟨rfl, (by first | trivial | (simp; first | done | fail)), (by first | rfl | (simp [renL_tbs, renL_bks, renL_vs, pend_ren, ren_ss, renL_i, cellsA]; first | done | fail))⟩ ?_)))
  · simp [rn]
  ·
   rintro k σ ⟨m, c, x, ⟨hmk, hml, hcm, hxn, hxt, hxs, hsd, hle, hRI, hI32⟩, rfl⟩
   refine WP.seq ?_
   rcases (show (m < ns.length ∧ m < 5) ∨ (m < ns.length ∧ ¬ m < 5) ∨ ¬ m < ns.length by omega) with hq | hq | hq
   ·
    have hs := hq
    refine WP.rs hG (Ch.mv rfl rfl (Ch.mv rfl rfl (Ch.p1 rfl (OpS.len rfl) rfl (Ch.p2 rfl rfl (OpS.lssT (by omega)) rfl ?_))))
    refine Ch.mv rfl rfl (Ch.gm rfl rfl rfl rfl (Ch.g2 rfl rfl rfl rfl (OpS.lssT (by omega)) rfl ?_))
    refine Ch.p2 rfl rfl (OpS.pickT) rfl (Ch.nil (WP.cond_true rfl (WP.skip (WP.seq (WP.block ?_)))))
    have hz := hok m hs.1
    have hplt := pickW_lt (el ns m) 12 (by decide)
    have fp := lpick_fc (G := G) (el ns m) 12 hz.1 hz.2 (by decide) (by decide)
    obtain ⟨p, hp⟩ : ∃ p, p = pickW (el ns m) 12 := ⟨_, rfl⟩
    rw [← hp] at hplt fp
    have fl := rLead_fc (G := G) (UInt64.ofNat (p + 1))
    have ff := rFirst_fc hm
    have fi := rID_fc hm (UInt64.ofNat (p + 1)) firstT [112] (by rw [firstT_32]; decide)
    refine WP.rs hG (Ch.mv rfl rfl (Ch.mv rfl rfl (Ch.p2 rfl rfl (OpS.indexM rfl rfl rfl (by with_reducible exact Int.toNat_natCast _) (by omega) (by omega) (by rfl)) rfl ?_)))
    refine Ch.p1 rfl (OpS.loadS rfl rfl) rfl (Ch.callP (fp) gdN (.cons rfl (.cons rfl .nil)) (.c (.rfl _) (.c (.rfl _) .n)) (by rfl) rfl ?_)
    refine Ch.p2 rfl rfl (OpS.inc p (by omega) (by omega)) rfl ?_
    refine Ch.p1 rfl (OpS.conv (v := .int .u64 (U64 (UInt64.ofNat (p + 1)))) rfl rfl (ofN_succ p (by omega))) rfl ?_
    refine Ch.asg rfl rfl (Ch.nil ?_)
    have hpn := prop_pn p hplt
    have hid : (idT (UInt64.ofNat (p + 1)) firstT [112]).length = 32 := idT_32 _ _ _
    rcases step_go hm hRI hpn (by omega) (by omega) (by omega) (by omega) (by omega) hle with hq | ⟨hv, hq⟩ | ⟨hv, e, ge, he0, hq⟩
    ·
     have hs := hq
     refine WP.rs hG (Ch.mv rfl rfl (Ch.callP (fl) gdN (.cons rfl .nil) (.c (.rfl _) .n) (by rfl) rfl ?_))
     refine Ch.mv rfl rfl (Ch.mv rfl rfl (Ch.callP (ff) gdN .nil .n (by rfl) rfl ?_))
     refine Ch.callP (fi) gdN (.cons rfl (.cons rfl (.cons rfl .nil))) (.c (.rfl _) (.c (.rfl _) (.c (.rfl _) .n))) (by rfl) rfl ?_
     refine Ch.callP (ff) gdN .nil .n (by rfl) rfl ?_
     refine Ch.pup gdN (by repeat (first | exact EvP.nil | (apply EvP.cons; exact rfl))) (OpS.build (cs := ntA ⟨1, (leadT (UInt64.ofNat (p + 1)) : Int), -1, UInt64.ofNat (p + 1), idT (UInt64.ofNat (p + 1)) firstT [112], firstT, [112], [], none⟩) rfl rfl rfl rfl rfl (by rfl)) rfl ?_
     refine Ch.a0 (OpS.alloc 11 rfl rfl rfl) rfl rfl (Ch.ws rfl rfl (OpS.storePA (cs := ntA nt0) (c := .agg (ntA ⟨1, (leadT (UInt64.ofNat (p + 1)) : Int), -1, UInt64.ofNat (p + 1), idT (UInt64.ofNat (p + 1)) firstT [112], firstT, [112], [], none⟩)) rfl rfl rfl (by exact Nat.le_refl 9)) rfl ?_)
     refine Ch.nil (WP.rg hG (Ch.mv rfl rfl (Ch.q1 rfl (OpS.loadPA (off := 0) (sz := 9) (cs := ntA ⟨1, (leadT (UInt64.ofNat (p + 1)) : Int), -1, UInt64.ofNat (p + 1), idT (UInt64.ofNat (p + 1)) firstT [112], firstT, [112], [], none⟩) rfl rfl rfl rfl (by exact Nat.le_refl 9)) rfl rfl ?_)))
     refine Ch.cH (hs) [0,1,2,3,4,5,6,7,8,9] 12 gdN (.cons rfl (.cons rfl .nil)) (.c (.rfl _) (.c (.rfl _) .n)) rfl (by refine ⟨?_, ?_, ?_, ?_⟩ <;> first | ((conv => lhs; simp only [nrmA, Nat.reduceAdd, renL_tbs, renL_tb1, renL_bks, renL_b1, renL_vs, renL_v1, ren_vt, pend_ren, ren_ss]); all_goals rfl) | rfl) (by exact ⟨rfl, rfl, rfl, rfl, rfl, rfl, rfl, rfl, rfl, rfl, trivial⟩) (by exact trivial) rfl ?_
     refine Ch.nil (WP.rg hG (Ch.mv rfl rfl (Ch.p2 rfl rfl (OpS.inc m (by omega) (by omega)) rfl ?_)))
     refine Ch.asg rfl rfl (Ch.nil ?_)
     refine ⟨k - 1, _, by omega, (Ent.of [0, 1, 2, 3, 4, 5, 6, 7, 8, 9, 10] ?_ ?_ ?_ ?_).se, m + 1, c, x, ⟨by omega, by omega, by omega, by omega, by omega, by omega, hsd, hle, hRI, hI32⟩, rfl⟩
     · exact na_of hnA rfl
     · (repeat (first | exact trivial | (refine And.intro ⟨(by first | trivial | (simp; first | done | fail)), _, rfl, (by first | exact .rfl _ | exact .of_eq (by simp [renL_tbs, renL_bks, renL_vs, pend_ren, ren_ss, renL_i]; first | done | fail))⟩ ?_)))
     · (repeat (first | exact trivial | (refine And.intro ⟨rfl, (by first | trivial | (simp; first | done | fail)), (by first | rfl | (simp [renL_tbs, renL_bks, renL_vs, pend_ren, ren_ss, renL_i]; first | done | fail))⟩ ?_)))
     · simp [rn]
    ·
     have hs := hq
     refine WP.rs hG (Ch.mv rfl rfl (Ch.callP (fl) gdN (.cons rfl .nil) (.c (.rfl _) .n) (by rfl) rfl ?_))
     refine Ch.mv rfl rfl (Ch.mv rfl rfl (Ch.callP (ff) gdN .nil .n (by rfl) rfl ?_))
     refine Ch.callP (fi) gdN (.cons rfl (.cons rfl (.cons rfl .nil))) (.c (.rfl _) (.c (.rfl _) (.c (.rfl _) .n))) (by rfl) rfl ?_
     refine Ch.callP (ff) gdN .nil .n (by rfl) rfl ?_
     refine Ch.pup gdN (by repeat (first | exact EvP.nil | (apply EvP.cons; exact rfl))) (OpS.build (cs := ntA ⟨1, (leadT (UInt64.ofNat (p + 1)) : Int), -1, UInt64.ofNat (p + 1), idT (UInt64.ofNat (p + 1)) firstT [112], firstT, [112], [], none⟩) rfl rfl rfl rfl rfl (by rfl)) rfl ?_
     refine Ch.a0 (OpS.alloc 11 rfl rfl rfl) rfl rfl (Ch.ws rfl rfl (OpS.storePA (cs := ntA nt0) (c := .agg (ntA ⟨1, (leadT (UInt64.ofNat (p + 1)) : Int), -1, UInt64.ofNat (p + 1), idT (UInt64.ofNat (p + 1)) firstT [112], firstT, [112], [], none⟩)) rfl rfl rfl (by exact Nat.le_refl 9)) rfl ?_)
     refine Ch.nil (WP.rg hG (Ch.mv rfl rfl (Ch.q1 rfl (OpS.loadPA (off := 0) (sz := 9) (cs := ntA ⟨1, (leadT (UInt64.ofNat (p + 1)) : Int), -1, UInt64.ofNat (p + 1), idT (UInt64.ofNat (p + 1)) firstT [112], firstT, [112], [], none⟩) rfl rfl rfl rfl (by exact Nat.le_refl 9)) rfl rfl ?_)))
     refine Ch.cH (hs) [0,1,2,3,4,5,6,7,8,9] 12 gdN (.cons rfl (.cons rfl .nil)) (.c (.rfl _) (.c (.rfl _) .n)) rfl (by refine ⟨?_, ?_, ?_, ?_⟩ <;> first | ((conv => lhs; simp only [nrmA, Nat.reduceAdd, renL_tbs, renL_tb1, renL_bks, renL_b1, renL_vs, renL_v1, ren_vt, pend_ren, ren_ss]); all_goals rfl) | rfl) (by exact ⟨rfl, rfl, rfl, rfl, rfl, rfl, rfl, rfl, rfl, rfl, trivial⟩) (by exact ⟨rfl, rfl, trivial⟩) rfl ?_
     refine Ch.nil (WP.rg hG (Ch.mv rfl rfl (Ch.p2 rfl rfl (OpS.inc m (by omega) (by omega)) rfl ?_)))
     refine Ch.asg rfl rfl (Ch.nil ?_)
     refine ⟨k - 1, _, by omega, (Ent.of [0, 1, 2, 3, 12, 13, 6, 7, 8, 9, 10] ?_ ?_ ?_ ?_).se, m + 1, c, learnR x ⟨1, (leadT (UInt64.ofNat (p + 1)) : Int), -1, UInt64.ofNat (p + 1), idT (UInt64.ofNat (p + 1)) firstT [112], firstT, [112], [], none⟩, ⟨by omega, by omega, by omega, by rw [(learn_sg x _).2.1]; omega, by rw [learn_len]; omega, by rw [(learn_sg x _).1]; omega, by rw [(learn_sg x _).2.2.1]; exact hsd, by rw [(learn_sg x _).2.2.2.1]; exact hle, hRI.learn (by omega) hv, ids_learn hI32 hid⟩, rfl⟩
     · exact na_of hnA rfl
     · (repeat (first | exact trivial | (refine And.intro ⟨(by first | trivial | (simp; first | done | fail)), _, rfl, (by first | exact .rfl _ | exact .of_eq (by simp [renL_tbs, renL_bks, renL_vs, pend_ren, ren_ss, renL_i]; first | done | fail))⟩ ?_)))
     · (repeat (first | exact trivial | (refine And.intro ⟨rfl, (by first | trivial | (simp; first | done | fail)), (by first | rfl | (simp [renL_tbs, renL_bks, renL_vs, pend_ren, ren_ss, renL_i]; first | done | fail))⟩ ?_)))
     · simp [rn]
    ·
     have hs := hq
     refine WP.rs hG (Ch.mv rfl rfl (Ch.callP (fl) gdN (.cons rfl .nil) (.c (.rfl _) .n) (by rfl) rfl ?_))
     refine Ch.mv rfl rfl (Ch.mv rfl rfl (Ch.callP (ff) gdN .nil .n (by rfl) rfl ?_))
     refine Ch.callP (fi) gdN (.cons rfl (.cons rfl (.cons rfl .nil))) (.c (.rfl _) (.c (.rfl _) (.c (.rfl _) .n))) (by rfl) rfl ?_
     refine Ch.callP (ff) gdN .nil .n (by rfl) rfl ?_
     refine Ch.pup gdN (by repeat (first | exact EvP.nil | (apply EvP.cons; exact rfl))) (OpS.build (cs := ntA ⟨1, (leadT (UInt64.ofNat (p + 1)) : Int), -1, UInt64.ofNat (p + 1), idT (UInt64.ofNat (p + 1)) firstT [112], firstT, [112], [], none⟩) rfl rfl rfl rfl rfl (by rfl)) rfl ?_
     refine Ch.a0 (OpS.alloc 11 rfl rfl rfl) rfl rfl (Ch.ws rfl rfl (OpS.storePA (cs := ntA nt0) (c := .agg (ntA ⟨1, (leadT (UInt64.ofNat (p + 1)) : Int), -1, UInt64.ofNat (p + 1), idT (UInt64.ofNat (p + 1)) firstT [112], firstT, [112], [], none⟩)) rfl rfl rfl (by exact Nat.le_refl 9)) rfl ?_)
     refine Ch.nil (WP.rg hG (Ch.mv rfl rfl (Ch.q1 rfl (OpS.loadPA (off := 0) (sz := 9) (cs := ntA ⟨1, (leadT (UInt64.ofNat (p + 1)) : Int), -1, UInt64.ofNat (p + 1), idT (UInt64.ofNat (p + 1)) firstT [112], firstT, [112], [], none⟩) rfl rfl rfl rfl (by exact Nat.le_refl 9)) rfl rfl ?_)))
     refine Ch.cH (hs) [0,1,2,3,4,5,6,7,8,9] 12 gdN (.cons rfl (.cons rfl .nil)) (.c (.rfl _) (.c (.rfl _) .n)) rfl (by refine ⟨?_, ?_, ?_, ?_⟩ <;> first | ((conv => lhs; simp only [nrmA, Nat.reduceAdd, renL_tbs, renL_tb1, renL_bks, renL_b1, renL_vs, renL_v1, ren_vt, pend_ren, ren_ss]); all_goals rfl) | rfl) (by exact ⟨rfl, rfl, rfl, rfl, rfl, rfl, rfl, rfl, rfl, rfl, trivial⟩) (by exact ⟨rfl, rfl, rfl, trivial⟩) rfl ?_
     refine Ch.nil (WP.rg hG (Ch.mv rfl rfl (Ch.p2 rfl rfl (OpS.inc m (by omega) (by omega)) rfl ?_)))
     refine Ch.asg rfl rfl (Ch.nil ?_)
     refine ⟨k - 1, _, by omega, (Ent.of [0, 1, 2, 3, 12, 13, 6, 7, 8, 14, 10] ?_ ?_ ?_ ?_).se, m + 1, c + 1, voteR x ⟨1, (leadT (UInt64.ofNat (p + 1)) : Int), -1, UInt64.ofNat (p + 1), idT (UInt64.ofNat (p + 1)) firstT [112], firstT, [112], [], none⟩ e (c + 1), ⟨by omega, by omega, by omega, by rw [(vote_sg x _ _ _).2.1]; omega, by rw [vote_len]; omega, by rw [(vote_sg x _ _ _).1, List.length_append]; simp; omega, by rw [(vote_sg x _ _ _).2.2.1]; exact hsd, by rw [(vote_sg x _ _ _).2.2.2.1]; exact he0, hRI.vote (by omega) (by omega) hpn.le hv ge, ids_vote hI32 hid⟩, rfl⟩
     · exact na_of hnA rfl
     · (repeat (first | exact trivial | (refine And.intro ⟨(by first | trivial | (simp; first | done | fail)), _, rfl, (by first | exact .rfl _ | exact .of_eq (by simp [renL_tbs, renL_bks, renL_vs, pend_ren, ren_ss, renL_i]; first | done | fail))⟩ ?_)))
     · (repeat (first | exact trivial | (refine And.intro ⟨rfl, (by first | trivial | (simp; first | done | fail)), (by first | rfl | (simp [renL_tbs, renL_bks, renL_vs, pend_ren, ren_ss, renL_i]; first | done | fail))⟩ ?_)))
     · simp [rn]
   ·
    have hs := hq
    refine WP.rs hG (Ch.mv rfl rfl (Ch.mv rfl rfl (Ch.p1 rfl (OpS.len rfl) rfl (Ch.p2 rfl rfl (OpS.lssT (by omega)) rfl ?_))))
    refine Ch.mv rfl rfl (Ch.gm rfl rfl rfl rfl (Ch.g2 rfl rfl rfl rfl (OpS.lssF (by omega)) rfl ?_))
    refine Ch.p2 rfl rfl (OpS.pickT) rfl (Ch.nil (WP.cond_false rfl (WP.exit ?_)))
    refine ⟨_, (Ent.of [0, 1, 2, 3, 4, 5, 6, 7, 8, 9, 10] ?_ ?_ ?_ ?_).se, c, x, ⟨hRI, hI32, by omega, by omega, by rw [hRI.bl]; omega⟩, rfl⟩
    · exact na_of hnA rfl
    · (repeat (first | exact trivial | (refine And.intro ⟨(by trivial), _, rfl, .rfl _⟩ ?_)))
    · (repeat (first | exact trivial | (refine And.intro ⟨rfl, (by first | trivial | (simp; first | done | fail)), (by first | rfl | (simp [renL_tbs, renL_bks, renL_vs, pend_ren, ren_ss, renL_i]; first | done | fail))⟩ ?_)))
    · simp [rn]
   ·
    have hs := hq
    refine WP.rs hG (Ch.mv rfl rfl (Ch.mv rfl rfl (Ch.p1 rfl (OpS.len rfl) rfl (Ch.p2 rfl rfl (OpS.lssF (by omega)) rfl ?_))))
    refine Ch.mv rfl rfl (Ch.skU (gdF rfl rfl rfl) rfl (Ch.skU (gdF rfl rfl rfl) rfl (Ch.p2 rfl rfl (OpS.pickF) rfl (Ch.nil (WP.cond_false rfl (WP.exit ?_))))))
    refine ⟨_, (Ent.of [0, 1, 2, 3, 4, 5, 6, 7, 8, 9, 10] ?_ ?_ ?_ ?_).se, c, x, ⟨hRI, hI32, by omega, by omega, by rw [hRI.bl]; omega⟩, rfl⟩
    · exact na_of hnA rfl
    · (repeat (first | exact trivial | (refine And.intro ⟨(by trivial), _, rfl, .rfl _⟩ ?_)))
    · (repeat (first | exact trivial | (refine And.intro ⟨rfl, (by first | trivial | (simp; first | done | fail)), (by first | rfl | (simp [renL_tbs, renL_bks, renL_vs, pend_ren, ren_ss, renL_i]; first | done | fail))⟩ ?_)))
    · simp [rn]
 ·
  rintro σ ⟨c, x, ⟨hRI, hI32, hn5, hs5, hb6⟩, rfl⟩
  have fV := rView_fc (G := G) x
  have fS := rSig_fc (G := G) x (by omega)
  have fL := rLog0_fc (G := G) x
  have fA := rAlive_fc (G := G) x
  rw [hRI.dead] at fA
  have fR := rRefuse_fc hm x { n with id := n.id.take (min n.id.length 31), pa := n.pa.take (min n.pa.length 31) } hRI.dead hI32 (by omega) (by rw [List.length_take]; omega) (by rw [List.length_take]; omega)
  refine WP.rs hG (Ch.p1 rfl (OpS.fieldAddr rfl rfl rfl rfl) rfl (Ch.q1 rfl (OpS.loadP rfl rfl rfl) rfl rfl (Ch.p1 rfl (OpS.fieldAddr rfl rfl rfl rfl) rfl (Ch.q1 rfl (OpS.loadP rfl rfl rfl) rfl rfl (Ch.p1 rfl (OpS.lenS rfl) rfl (Ch.p2 rfl rfl (OpS.minI (min31 _)) rfl (Ch.p2 rfl rfl (OpS.sliceSh (l := n.id) rfl (by with_reducible exact Int.toNat_natCast _) (by omega) (by omega)) rfl ?_)))))))
  refine Ch.p1 rfl (OpS.fieldAddr rfl rfl rfl rfl) rfl (Ch.ws rfl rfl (OpS.storeP (cs := ntA n) rfl rfl rfl (by exact Nat.le_of_ble_eq_true rfl)) rfl ?_)
  refine Ch.nil (WP.rs hG (Ch.p1 rfl (OpS.fieldAddr rfl rfl rfl rfl) rfl (Ch.q1 rfl (OpS.loadP rfl rfl rfl) rfl rfl (Ch.p1 rfl (OpS.fieldAddr rfl rfl rfl rfl) rfl (Ch.q1 rfl (OpS.loadP rfl rfl rfl) rfl rfl (Ch.p1 rfl (OpS.lenS rfl) rfl (Ch.p2 rfl rfl (OpS.minI (min31 _)) rfl (Ch.p2 rfl rfl (OpS.sliceSh (l := n.pa) rfl (by with_reducible exact Int.toNat_natCast _) (by omega) (by omega)) rfl ?_))))))))
  refine Ch.p1 rfl (OpS.fieldAddr rfl rfl rfl rfl) rfl (Ch.ws rfl rfl (OpS.storeP (cs := ntA { n with id := n.id.take (min n.id.length 31) }) rfl rfl rfl (by exact Nat.le_of_ble_eq_true rfl)) rfl ?_)
  refine Ch.nil (WP.rs hG (Ch.mv rfl rfl ?_))
  refine Ch.cH (fV) [0,1,2,3,4,5,6,7,8,9] 11 gdN (.cons rfl .nil) (.c (.rfl _) .n) rfl (by refine ⟨?_, ?_, ?_, ?_⟩ <;> first | ((conv => lhs; simp only [nrmA, Nat.reduceAdd, renL_tbs, renL_tb1, renL_bks, renL_b1, renL_vs, renL_v1, ren_vt, pend_ren, ren_ss]); all_goals rfl) | rfl) (by exact ⟨rfl, rfl, rfl, rfl, rfl, rfl, rfl, rfl, rfl, rfl, trivial⟩) (by exact trivial) rfl ?_
  refine Ch.asg rfl rfl (Ch.nil (WP.rs hG (Ch.mv rfl rfl ?_)))
  refine Ch.cH (fS) [0,1,2,3,4,5,6,7,8,9] 11 gdN (.cons rfl .nil) (.c (.rfl _) .n) rfl (by refine ⟨?_, ?_, ?_, ?_⟩ <;> first | ((conv => lhs; simp only [nrmA, Nat.reduceAdd, renL_tbs, renL_tb1, renL_bks, renL_b1, renL_vs, renL_v1, ren_vt, pend_ren, ren_ss]); all_goals rfl) | rfl) (by exact ⟨rfl, rfl, rfl, rfl, rfl, rfl, rfl, rfl, rfl, rfl, trivial⟩) (by exact trivial) rfl ?_
  refine Ch.p1 rfl (OpS.len rfl) rfl (Ch.asg rfl rfl (Ch.nil (WP.rs hG (Ch.mv rfl rfl (Ch.q1 rfl (OpS.loadPA (off := 0) (sz := 9) (cs := ntA { n with id := n.id.take (min n.id.length 31), pa := n.pa.take (min n.pa.length 31) }) rfl rfl rfl rfl (by exact Nat.le_refl 9)) rfl rfl ?_)))))
  refine Ch.cH (fR) [0,1,2,3,4,5,6,7,8,9] 11 gdN (.cons rfl (.cons rfl .nil)) (.c (.rfl _) (.c (.of_eq (ren_nt _ _).symm) .n)) rfl (by refine ⟨?_, ?_, ?_, ?_⟩ <;> first | ((conv => lhs; simp only [nrmA, Nat.reduceAdd, renL_tbs, renL_tb1, renL_bks, renL_b1, renL_vs, renL_v1, ren_vt, pend_ren, ren_ss]); all_goals rfl) | rfl) (by exact ⟨rfl, rfl, rfl, rfl, rfl, rfl, rfl, rfl, rfl, rfl, trivial⟩) (by exact trivial) rfl ?_
  refine Ch.mv rfl rfl (Ch.p1 rfl (OpS.extract rfl) rfl (Ch.p1 rfl (OpS.extract rfl) rfl (Ch.a0 (OpS.alloc 11 rfl rfl rfl) rfl rfl (Ch.ws rfl rfl (OpS.storePA (cs := ntA nt0) (c := .agg (ntA nt0)) rfl rfl (nt_one nt0) (by exact Nat.le_refl 9)) rfl ?_))))
  refine Ch.asg rfl rfl (Ch.nil (WP.rs hG (Ch.mv rfl rfl (Ch.p1 rfl (OpS.not) rfl (Ch.mv rfl rfl (Ch.pu (by exact gdT rfl rfl) (by exact ⟨rfl, trivial⟩) (OpS.loadPA (off := 0) (sz := 9) (cs := ntA nt0) rfl rfl rfl rfl (by exact Nat.le_refl 9)) (by exact ⟨rfl, trivial⟩) rfl ?_))))))
  refine Ch.pup (by exact gdT rfl rfl) (by repeat (first | exact EvP.nil | (apply EvP.cons; exact rfl))) (OpS.build (cs := ntA nt0) rfl rfl rfl rfl rfl (by rfl)) rfl ?_
  refine Ch.callP (same0_fc) (gdT rfl rfl) (.cons rfl (.cons rfl .nil)) (.c (.rfl _) (.c (.rfl _) .n)) (by rfl) rfl ?_
  refine Ch.p2 rfl rfl (OpS.pickT) rfl (Ch.mv rfl rfl (Ch.gm rfl rfl rfl rfl ?_))
  refine Ch.cH (fV) [0,1,2,3,4,5,6,7,8,9] 12 (gdT rfl rfl) (.cons rfl .nil) (.c (.rfl _) .n) rfl (by refine ⟨?_, ?_, ?_, ?_⟩ <;> first | ((conv => lhs; simp only [nrmA, Nat.reduceAdd, renL_tbs, renL_tb1, renL_bks, renL_b1, renL_vs, renL_v1, ren_vt, pend_ren, ren_ss]); all_goals rfl) | rfl) (by exact ⟨rfl, rfl, rfl, rfl, rfl, rfl, rfl, rfl, rfl, rfl, trivial⟩) (by exact trivial) rfl ?_
  refine Ch.gm rfl rfl rfl rfl (Ch.g2 rfl rfl rfl rfl (OpS.int (op := .eql) (v' := .bool true) rfl (by exact congrArg Value.bool (beq_self_eq_true _))) rfl ?_)
  refine Ch.p2 rfl rfl (OpS.pickT) rfl (Ch.mv rfl rfl (Ch.gm rfl rfl rfl rfl ?_))
  refine Ch.cH (fS) [0,1,2,3,4,5,6,7,8,9] 12 (gdT rfl rfl) (.cons rfl .nil) (.c (.rfl _) .n) rfl (by refine ⟨?_, ?_, ?_, ?_⟩ <;> first | ((conv => lhs; simp only [nrmA, Nat.reduceAdd, renL_tbs, renL_tb1, renL_bks, renL_b1, renL_vs, renL_v1, ren_vt, pend_ren, ren_ss]); all_goals rfl) | rfl) (by exact ⟨rfl, rfl, rfl, rfl, rfl, rfl, rfl, rfl, rfl, rfl, trivial⟩) (by exact trivial) rfl ?_
  refine Ch.g1 rfl rfl rfl (OpS.len rfl) rfl (Ch.gm rfl rfl rfl rfl (Ch.g2 rfl rfl rfl rfl (OpS.int (op := .eql) (v' := .bool true) rfl (by exact congrArg Value.bool (beq_self_eq_true _))) rfl ?_))
  refine Ch.p2 rfl rfl (OpS.pickT) rfl (Ch.mv rfl rfl (Ch.gm rfl rfl rfl rfl ?_))
  refine Ch.cH (fL) [0,1,2,3,4,5,6,7,8,9] 12 (gdT rfl rfl) (.cons rfl .nil) (.c (.rfl _) .n) rfl (by refine ⟨?_, ?_, ?_, ?_⟩ <;> first | ((conv => lhs; simp only [nrmA, Nat.reduceAdd, renL_tbs, renL_tb1, renL_bks, renL_b1, renL_vs, renL_v1, ren_vt, pend_ren, ren_ss]); all_goals rfl) | rfl) (by exact ⟨rfl, rfl, rfl, rfl, rfl, rfl, rfl, rfl, rfl, rfl, trivial⟩) (by exact trivial) rfl ?_
  refine Ch.g1 rfl rfl rfl (OpS.lenN rfl) rfl (Ch.g2 rfl rfl rfl rfl (OpS.int (op := .eql) (v' := .bool true) rfl (by exact congrArg Value.bool (beq_self_eq_true _))) rfl ?_)
  refine Ch.p2 rfl rfl (OpS.pickT) rfl (Ch.mv rfl rfl (Ch.gm rfl rfl rfl rfl ?_))
  refine Ch.cH (fA) [0,1,2,3,4,5,6,7,8,9] 12 (gdT rfl rfl) (.cons rfl .nil) (.c (.rfl _) .n) rfl (by refine ⟨?_, ?_, ?_, ?_⟩ <;> first | ((conv => lhs; simp only [nrmA, Nat.reduceAdd, renL_tbs, renL_tb1, renL_bks, renL_b1, renL_vs, renL_v1, ren_vt, pend_ren, ren_ss]); all_goals rfl) | rfl) (by exact ⟨rfl, rfl, rfl, rfl, rfl, rfl, rfl, rfl, rfl, rfl, trivial⟩) (by exact trivial) rfl ?_
  refine Ch.p2 rfl rfl (OpS.pickT) rfl (Ch.asg rfl rfl (Ch.nil ?_))
  exact WP.ret (Ret.one rfl (.of_eq rfl) trivial hnA)
end
end Go.Proofs.YtpnbpcopdckgpaaGreatDoor.E
end
section
namespace Go.Proofs.YtpnbpcopdckgpaaGreatDoor.V
open Go Go.RowKit

theorem laid_var {P : Program} {W : World} {name : String} {k : IntKind} {zs : List Int} {g : Nat} {t e : TypeId} {n : Nat}
  (hg : P.globalNamed name = some g) (hty : (P.globals[g]?).map (·.type) = some t) (ht : P.underlying t = some (.array n e)) (he : P.underlying e = some (.int k)) (hce : P.cellsOf e = 1) (hct : P.cellsOf t = n) :
  ∀ (laid : List (String × DataW Unit)) (ps : List MemPlace), DataW.LaidVars P W laid ps → (name, Lib.tabData k zs) ∈ laid →
   W.var? P name = some (zs.map fun z => Value.int k z).toArray ∧ ∀ i, i < zs.length → MemPlace.cell g i ∈ ps := by
 intro laid
 induction laid with
 | nil => intro ps _ h; cases h
 | cons x r ih =>
  intro ps hl hm
  obtain ⟨g', t', cs, fuel, p, q, hg', ht', hvar, hd, hr, rfl⟩ := hl
  rcases List.mem_cons.1 hm with rfl | hm
  ·
   obtain rfl := Option.some.inj (hg.symm.trans hg')
   obtain rfl := Option.some.inj (hty.symm.trans ht')
   have hcs := Lib.cells_of_tab ht he hce hct hd
   refine ⟨by rw [hvar, ← hcs], fun i hi => ?_⟩
   have hsz : cs.size = zs.length := by rw [← Array.length_toList, hcs, List.length_map]
   refine List.mem_append_left _ (List.mem_append_left _ ?_)
   simpa [MemPlace.row, hsz] using hi
  ·
   obtain ⟨h1, h2⟩ := ih q hr hm
   exact ⟨h1, fun i hi => List.mem_append_right _ (h2 i hi)⟩

theorem laid_tab {P : Program} {W : World} {laid : List (String × DataW Unit)} (h : laidMetH P laid W) {name : String} {k : IntKind} {zs : List Int} {g : Nat} {t e : TypeId} {n : Nat}
  (hm : (name, Lib.tabData k zs) ∈ laid) (h0 : 0 < zs.length)
  (hg : P.globalNamed name = some g) (hty : (P.globals[g]?).map (·.type) = some t) (ht : P.underlying t = some (.array n e)) (he : P.underlying e = some (.int k)) (hce : P.cellsOf e = 1) (hct : P.cellsOf t = n) :
  ∃ T, W.heap[g]? = some (.cells (zs.map fun z => Value.int k z).toArray T (0, 0)) := by
 obtain ⟨⟨ps, hv, _, hr⟩, _⟩ := laidMetH_iff.1 h
 obtain ⟨h1, h2⟩ := laid_var hg hty ht he hce hct _ ps hv (List.mem_filter.2 ⟨hm, rfl⟩)
 obtain ⟨⟨c, T, hc⟩, _⟩ := hr g 0 (h2 0 h0)
 refine ⟨T, ?_⟩
 rw [hc]
 have : W.var? P name = some c := by simp [World.var?, hg, hc]
 rw [h1] at this
 injection this with this
 rw [this]
end Go.Proofs.YtpnbpcopdckgpaaGreatDoor.V
end
section
namespace Go.Proofs.YtpnbpcopdckgpaaGreatDoor.V
open Go Go.RowKit
def bulkL (ps : List (List UInt8)) : Nat := (ps.map (·.length + 1)).sum
end Go.Proofs.YtpnbpcopdckgpaaGreatDoor.V
end
section
namespace Go.Proofs.YtpnbpcopdckgpaaGreatDoor.V
open Go Go.RowKit Go.WideShapes Go.ChangeShapes Go.ChangeAt

theorem own : ownKnob Tryz.prog.godebug = none := by kernel_rfl
theorem laidOut : laidOutB Tryz.prog = true := by kernel_rfl

theorem k_data : (Rows.laid_voussoir_sha_k : DataW Unit) = Lib.tabData .u32 (kTab.map U32) := by kernel_rfl
theorem first_data : (Rows.laid_voussoir_sha_first : DataW Unit) = Lib.tabData .u32 (first.words.map U32) := by kernel_rfl
theorem k_global : Tryz.prog.globalNamed "voussoir/sha.k" = some 1 := by kernel_rfl
theorem first_global : Tryz.prog.globalNamed "voussoir/sha.first" = some 0 := by kernel_rfl

def kCells : Array Value := (kTab.map wv).toArray
def layK : Obj → Obj
 | .cells _ t frozen => .cells kCells t frozen
 | o => o
def layFirst : Obj → Obj
 | .cells _ t frozen => .cells first.cells t frozen
 | o => o
noncomputable def laidWorld (os : Os) : World :=
 { World.holding Tryz.prog os ⟨#[], #[], []⟩ with heap := ((World.holding Tryz.prog os ⟨#[], #[], []⟩).heap.modify 1 layK).modify 0 layFirst }

section
variable {H : Type} {enc : TypeId × Value → H} {P : Program}
theorem post_of_below {f : Func} {s : ChangeSpec} {apart fresh handsOn again : Bool} {W W' : World} {args : Array Value} {v : Value} {ds gs : List (DataW H)} {before pa pv : List MemPlace}
  (hW : DataW.Whole enc P f.params.toList s.vars apart W args.toList ds gs before)
  (hres : ∀ (b : Nat) (sp : Nat → Bool) (hd : Bool), DataW.TrodAll enc P W' b sp hd f.resultTypes.toList (v.resultList f.resultTypes.size) (s.fn H (ds ++ gs)).results [])
  (hargs : ∀ sp : Nat → Bool, (∀ p ∈ before, sp p.block = true) → DataW.TrodAll enc P W' 0 sp true f.params.toList args.toList (s.fn H (ds ++ gs)).args pa)
  (hvars : ∀ sp : Nat → Bool, (∀ p ∈ before, sp p.block = true) → DataW.TrodVars enc P W' sp s.vars (s.fn H (ds ++ gs)).vars pv)
  (hps : before = pa ++ pv) (hb : Below W.heap.size W W')
  (hok : ∀ (j : Nat) (t : TypeId) (r : Value), f.resultTypes[j]? = some t → (v.resultList f.resultTypes.size)[j]? = some r → Value.okWide P W' .any 0 t r) :
  s.post enc P f apart fresh handsOn again W args v W' := by
 have hlt : ∀ p ∈ before, p.block < W.heap.size := fun p hp => hW.lt p hp
 have hold : ∀ p ∈ before, (fun b => decide (b < W.heap.size)) p.block = true := fun p hp => by simpa using hlt p hp
 refine ⟨ds, gs, before, [], pa, pv, hW, hres _ _ _, hargs _ hold, hvars _ hold, World.keptBut_mono (fun p hp => ⟨hp, ?_⟩) (hb.frame (· ∈ before)), fun _ => ?_⟩
 ·
  rw [hps, List.mem_append] at hp
  exact Or.inr hp
 ·
  obtain ⟨_, _, _, _, _, hz, hn⟩ := hW
  refine ⟨hok, _, _, ([] ++ pa) ++ pv, ⟨[] ++ pa, pv, trodAll_append (hargs _ (fun _ _ => rfl)) (hres _ _ _), hvars _ (fun _ _ => rfl), rfl, ?_, ?_⟩, ?_⟩
  ·
   intro b off hp
   have hin : MemPlace.cell b off ∈ before := by rw [hps]; simpa using hp
   rw [hb.frozen (hlt _ hin)]
   exact hz b off hin
  ·
   intro ha
   have := hn ha
   rw [hps] at this
   simpa using this
  ·
   intro p hp _
   rw [hps]
   simpa using hp
end

theorem stays {H : Type} {enc : TypeId × Value → H} {W W' : World} {t : TypeId} {v : Value} {d : DataW H} {ps : List MemPlace} (hr : Tryz.prog.readableRec t = true) (hrow : t < Tryz.prog.types.size)
  (h : DataW.Trod enc Tryz.prog W 0 (fun _ => true) true t v d ps) (hb : Below W.heap.size W W') (hlt : ∀ x ∈ ps, x.block < W.heap.size) (sp : Nat → Bool) (hsp : ∀ x ∈ ps, sp x.block = true) :
  DataW.Trod enc Tryz.prog W' 0 sp true t v d ps := WideElems.Trod_stays laidOut hr hrow h (fun x hx => hb.same (hlt x hx)) hsp

end Go.Proofs.YtpnbpcopdckgpaaGreatDoor.V
end
section
namespace Go.Proofs.YtpnbpcopdckgpaaGreatDoor.E
open Go Go.RowKit Go.WideShapes Go.ChangeShapes Go.ChangeAt Go.Proofs.YtpnbpcopdckgpaaGreatDoor.V

def tabB : List (Nat × Array Value) := [(3, kArr), (1, kArr), (0, first.cells)]
def tabR : List (Nat × Array Value) := (2, first.cells) :: tabB
def RB (w : World) : Prop := ∀ x ∈ tabB, ∃ T, w.heap[x.1]? = some (.cells x.2 T (0, 0))
def RT (w : World) : Prop := ∀ x ∈ tabR, ∃ T, w.heap[x.1]? = some (.cells x.2 T (0, 0))
theorem shaInR : ShaIn tabR := ⟨by simp [tabR, tabB], by simp [tabR, tabB]⟩
theorem kInR : (3, kArr) ∈ tabR := by simp [tabR, tabB]
theorem fInR : (2, first.cells) ∈ tabR := by simp [tabR]
theorem rk_data : (Rows.laid_voussoir_voussoirref01_k : DataW Unit) = Lib.tabData .u32 (kTab.map U32) := by kernel_rfl
theorem rfirst_data : (Rows.laid_voussoir_voussoirref01_first : DataW Unit) = Lib.tabData .u32 (first.words.map U32) := by kernel_rfl
theorem rk_global : Tryz.prog.globalNamed "voussoir/voussoirref01.k" = some 3 := by kernel_rfl
theorem rfirst_global : Tryz.prog.globalNamed "voussoir/voussoirref01.first" = some 2 := by kernel_rfl
theorem kmap : ((kTab.map U32).map fun z => Value.int .u32 z).toArray = kArr := by rw [List.map_map]; rfl

theorem tabB_of {W : World} {laid : List (String × DataW Unit)} (h : laidMetH Tryz.prog laid W) (h1 : ("voussoir/sha.k", Rows.laid_voussoir_sha_k) ∈ laid) (h2 : ("voussoir/sha.first", Rows.laid_voussoir_sha_first) ∈ laid)
  (h3 : ("voussoir/voussoirref01.k", Rows.laid_voussoir_voussoirref01_k) ∈ laid) : RB W := by
 rw [k_data] at h1
 rw [first_data] at h2
 rw [rk_data] at h3
 obtain ⟨T1, hk⟩ := laid_tab h h1 (by decide) k_global (t := 169) (by kernel_rfl) Tryz.underlying169 Tryz.underlying120 (by kernel_rfl) (by kernel_rfl)
 obtain ⟨T2, hf⟩ := laid_tab h h2 (by decide) first_global (t := 122) (by kernel_rfl) Tryz.underlying122 Tryz.underlying120 (by kernel_rfl) (by kernel_rfl)
 obtain ⟨T3, hk'⟩ := laid_tab h h3 (by decide) rk_global (t := 169) (by kernel_rfl) Tryz.underlying169 Tryz.underlying120 (by kernel_rfl) (by kernel_rfl)
 rw [kmap] at hk hk'
 intro x hx
 simp only [tabB, List.mem_cons, List.not_mem_nil, or_false] at hx
 rcases hx with rfl | rfl | rfl
 · exact ⟨T3, hk'⟩
 · exact ⟨T1, hk⟩
 · exact ⟨T2, hf⟩
theorem tabR_of {W : World} {laid : List (String × DataW Unit)} (h : laidMetH Tryz.prog laid W) (h1 : ("voussoir/sha.k", Rows.laid_voussoir_sha_k) ∈ laid) (h2 : ("voussoir/sha.first", Rows.laid_voussoir_sha_first) ∈ laid)
  (h3 : ("voussoir/voussoirref01.k", Rows.laid_voussoir_voussoirref01_k) ∈ laid) (h4 : ("voussoir/voussoirref01.first", Rows.laid_voussoir_voussoirref01_first) ∈ laid) : RT W := by
 rw [rfirst_data] at h4
 obtain ⟨T4, hf'⟩ := laid_tab h h4 (by decide) rfirst_global (t := 121) (by kernel_rfl) Tryz.underlying121 Tryz.underlying120 (by kernel_rfl) (by kernel_rfl)
 intro x hx
 rcases List.mem_cons.1 hx with rfl | hx
 · exact ⟨T4, hf'⟩
 · exact tabB_of h h1 h2 h3 x hx

noncomputable def laidWorldR (os : Os) : World :=
 { laidWorld os with heap := ((laidWorld os).heap.modify 3 layK).modify 2 layFirst }

end Go.Proofs.YtpnbpcopdckgpaaGreatDoor.E
end
