import Derived.Test.YtpnbpcopdckgpaaGreatDoorZ1a6e2a2d
import Derived.Test.YtpnbpcopdckgpaaGreatDoorZ1dc047f2
import Derived.Lib.LaidTab
import Derived.LaidSub
import Derived.Test.YtpnbpcopdckgpaaGreatDoorZe95ca6bc
import Derived.Test.YtpnbpcopdckgpaaGreatDoorZc9f0e65b
import Derived.Test.YtpnbpcopdckgpaaGreatDoorCards
import Derived.Test.YtpnbpcopdckgpaaGreatDoorTie
import Derived.ProofKit
import Derived.OpenShut
import Derived.Deep.DeepHandedRow
import Derived.SizedLaws
import Derived.SliceStrings
import Derived.Test.YtpnbpcopdckgpaaGreatDoorZ5df34c3a
namespace Go.Proofs.YtpnbpcopdckgpaaGreatDoor.E
open Go Go.RowKit V
set_option maxRecDepth 4000
set_option maxRecDepth 8000
set_option maxHeartbeats 16000000
@[simp] theorem renL_n1 (π : Nat → Nat) (n : Nt) : AV.renL π (ntA n) = ntA n := by
 show [_, _, _, _, _, _, _, _, AV.ren π (ssA n.sigs)] = _
 rw [ren_ss]
 rfl
@[simp] theorem renL_ns (π : Nat → Nat) : ∀ l : List Nt, AV.renL π (l.flatMap ntA) = l.flatMap ntA
 | [] => rfl
 | a :: l => by rw [List.flatMap_cons, renL_append, renL_ns π l, renL_n1]
@[simp] theorem belL_ns (u : Nat → Bool) : ∀ l : List Nt, AV.belL u (l.flatMap ntA)
 | [] => trivial
 | a :: l => by rw [List.flatMap_cons]; exact belL_app u _ _ (nt_bel u a) (belL_ns u l)
instance : Inhabited Nt := ⟨nt0⟩
theorem ntA_len (n : Nt) : (ntA n).length = 9 := rfl
theorem tm_0 (V : UInt64) : tmI V 0 = [] := rfl
theorem OpS.indexAddrF {P : Program} {G : List (Nat × Array Value)} {dst : Option Tmp} {ty : TypeId} {pos : String} {aft : Array Edge} {gd : Option (Nat × Bool)} {tx e : TypeId} {inf : TypeInfo} {x i : Operand} {o : Option Nat} {n sz : Nat} {cs cs' : List AV} {k : IntKind} {m : Int} (hu : P.underlying tx = some (.slice e)) (hi : P.info? e = some inf) (hz : inf.size = sz) (h0 : 0 ≤ m) (h1 : m < (n : Int))
  (hl : cs.length = n * sz) (hsz : 0 < sz) (he : (cs.drop (m.toNat * sz)).take sz = cs') :
  OpS P G ⟨dst, .indexAddr tx x i, ty, pos, aft, gd⟩ [(x, .sl o n cs), (i, .v (.int k m))] [] ⟨some (.sptr cs'), [], []⟩ := by
 subst he
 exact OpS.indexAddr hu hi hz h0 h1 hl hsz
def notesT (V : UInt64) : List Nt := [noteT 0 V, noteT 1 V, noteT 2 V, noteT 3 V]
abbrev Xr0 (x : Rp) (r : List (Nat × AO)) : List (Nat × AO) := (1, .cells 105 (dkC x.d)) :: (2, .cells 129 [.ptr 1 0, sA x.s, .v (.int .u64 (U64 x.c)), .v (.bool x.lost)]) ::
 (3, .cells 94 [.ptr 4 0, .sl (some 6) x.bs.length (x.bs.flatMap bkA), .v (.int .u64 (U64 x.vo)), .v (.int .i64 (x.lk : Int)), sA x.lid, .v (.int .i64 (x.me : Int)), .sl none x.ks.length (x.ks.flatMap vA), .ptr 7 0, .ptr 2 0,
  .v (.int .u64 (U64 x.view)), .v (.int .i64 0), .v (.slice none 0 0), .mp 9, .v (.int .i64 0), .v (.int .u64 (U64 x.prop)), .sl (some 10) x.sg.length (x.sg.map sA), .v (.bool x.dead)]) ::
 (4, .cells 140 [.sl (some 5) x.tr.length (x.tr.flatMap tbA)]) :: (5, .tip 137 2 x.tr.length) :: (6, .tip 97 3 x.bs.length) ::
 (7, .cells 142 [sA x.seed, .v (.int .i64 5), .sl (some 8) (leavesT x.seed 5).length ((leavesT x.seed 5).map sA), .v (.int .i64 (x.n : Int))]) :: (8, .tip 9 1 (leavesT x.seed 5).length) :: (9, .map x.tm) :: (10, .tip 9 1 x.sg.length) :: r
abbrev Xr1 (x : Rp) (r : List (Nat × AO)) : List (Nat × AO) := (11, .cells 105 (dkC x.d)) :: (12, .cells 129 [.ptr 11 0, sA x.s, .v (.int .u64 (U64 x.c)), .v (.bool x.lost)]) ::
 (13, .cells 94 [.ptr 14 0, .sl (some 16) x.bs.length (x.bs.flatMap bkA), .v (.int .u64 (U64 x.vo)), .v (.int .i64 (x.lk : Int)), sA x.lid, .v (.int .i64 (x.me : Int)), .sl none x.ks.length (x.ks.flatMap vA), .ptr 17 0, .ptr 12 0,
  .v (.int .u64 (U64 x.view)), .v (.int .i64 0), .v (.slice none 0 0), .mp 19, .v (.int .i64 0), .v (.int .u64 (U64 x.prop)), .sl (some 20) x.sg.length (x.sg.map sA), .v (.bool x.dead)]) ::
 (14, .cells 140 [.sl (some 15) x.tr.length (x.tr.flatMap tbA)]) :: (15, .tip 137 2 x.tr.length) :: (16, .tip 97 3 x.bs.length) ::
 (17, .cells 142 [sA x.seed, .v (.int .i64 5), .sl (some 18) (leavesT x.seed 5).length ((leavesT x.seed 5).map sA), .v (.int .i64 (x.n : Int))]) :: (18, .tip 9 1 (leavesT x.seed 5).length) :: (19, .map x.tm) :: (20, .tip 9 1 x.sg.length) :: r
abbrev Xr2 (x : Rp) (r : List (Nat × AO)) : List (Nat × AO) := (21, .cells 105 (dkC x.d)) :: (22, .cells 129 [.ptr 21 0, sA x.s, .v (.int .u64 (U64 x.c)), .v (.bool x.lost)]) ::
 (23, .cells 94 [.ptr 24 0, .sl (some 26) x.bs.length (x.bs.flatMap bkA), .v (.int .u64 (U64 x.vo)), .v (.int .i64 (x.lk : Int)), sA x.lid, .v (.int .i64 (x.me : Int)), .sl none x.ks.length (x.ks.flatMap vA), .ptr 27 0, .ptr 22 0,
  .v (.int .u64 (U64 x.view)), .v (.int .i64 0), .v (.slice none 0 0), .mp 29, .v (.int .i64 0), .v (.int .u64 (U64 x.prop)), .sl (some 30) x.sg.length (x.sg.map sA), .v (.bool x.dead)]) ::
 (24, .cells 140 [.sl (some 25) x.tr.length (x.tr.flatMap tbA)]) :: (25, .tip 137 2 x.tr.length) :: (26, .tip 97 3 x.bs.length) ::
 (27, .cells 142 [sA x.seed, .v (.int .i64 5), .sl (some 28) (leavesT x.seed 5).length ((leavesT x.seed 5).map sA), .v (.int .i64 (x.n : Int))]) :: (28, .tip 9 1 (leavesT x.seed 5).length) :: (29, .map x.tm) :: (30, .tip 9 1 x.sg.length) :: r
abbrev Xr3 (x : Rp) (r : List (Nat × AO)) : List (Nat × AO) := (31, .cells 105 (dkC x.d)) :: (32, .cells 129 [.ptr 31 0, sA x.s, .v (.int .u64 (U64 x.c)), .v (.bool x.lost)]) ::
 (33, .cells 94 [.ptr 34 0, .sl (some 36) x.bs.length (x.bs.flatMap bkA), .v (.int .u64 (U64 x.vo)), .v (.int .i64 (x.lk : Int)), sA x.lid, .v (.int .i64 (x.me : Int)), .sl none x.ks.length (x.ks.flatMap vA), .ptr 37 0, .ptr 32 0,
  .v (.int .u64 (U64 x.view)), .v (.int .i64 0), .v (.slice none 0 0), .mp 39, .v (.int .i64 0), .v (.int .u64 (U64 x.prop)), .sl (some 40) x.sg.length (x.sg.map sA), .v (.bool x.dead)]) ::
 (34, .cells 140 [.sl (some 35) x.tr.length (x.tr.flatMap tbA)]) :: (35, .tip 137 2 x.tr.length) :: (36, .tip 97 3 x.bs.length) ::
 (37, .cells 142 [sA x.seed, .v (.int .i64 5), .sl (some 38) (leavesT x.seed 5).length ((leavesT x.seed 5).map sA), .v (.int .i64 (x.n : Int))]) :: (38, .tip 9 1 (leavesT x.seed 5).length) :: (39, .map x.tm) :: (40, .tip 9 1 x.sg.length) :: r
abbrev Xr9 (x : Rp) (r : List (Nat × AO)) : List (Nat × AO) := (0, .cells 105 (dkC x.d)) :: (1, .cells 129 [.ptr 0 0, sA x.s, .v (.int .u64 (U64 x.c)), .v (.bool x.lost)]) ::
 (2, .cells 94 [.ptr 3 0, .sl (some 5) x.bs.length (x.bs.flatMap bkA), .v (.int .u64 (U64 x.vo)), .v (.int .i64 (x.lk : Int)), sA x.lid, .v (.int .i64 (x.me : Int)), .sl none x.ks.length (x.ks.flatMap vA), .ptr 6 0, .ptr 1 0,
  .v (.int .u64 (U64 x.view)), .v (.int .i64 0), .v (.slice none 0 0), .mp 8, .v (.int .i64 0), .v (.int .u64 (U64 x.prop)), .sl (some 9) x.sg.length (x.sg.map sA), .v (.bool x.dead)]) ::
 (3, .cells 140 [.sl (some 4) x.tr.length (x.tr.flatMap tbA)]) :: (4, .tip 137 2 x.tr.length) :: (5, .tip 97 3 x.bs.length) ::
 (6, .cells 142 [sA x.seed, .v (.int .i64 5), .sl (some 7) (leavesT x.seed 5).length ((leavesT x.seed 5).map sA), .v (.int .i64 (x.n : Int))]) :: (7, .tip 9 1 (leavesT x.seed 5).length) :: (8, .map x.tm) :: (9, .tip 9 1 x.sg.length) :: r
attribute [local irreducible] sum tag input beS rdNum rdText leavesT f64 tb sigT firstT leadT mayT lkT recT idT learnR voteR dieR tmI fnI mI keysP keyT
section
variable {G : List (Nat × Array Value)}
theorem newI_fc (hm : ShaIn G) (i : Nat) (hi : i < 4) : FP G 23 [.v (.int .i64 (i : Int)), .sl none (3 + 1) ((keysP 4).flatMap vA), sA (seedT i), .ptr 0 0] (dkH (nd 2)) (.ptr 2 0) (rpH (rp0 (nd 2) [] 0 0 i (keysP 4) (seedT i) 0)) :=
 rNew_fc hm i hi (keysP 4) (keysP_len 4) keys40 keys_nd (seedT i) (by show 2 ≤ _; decide) (nd 2) 0 [] good_new 0 0 (by decide) load_nil
theorem viewI_fc {x : Rp} {i : Nat} {V : UInt64} (h : TI x i V) : FP G 27 [.ptr 2 0] (rpH x) (.v (.int .u64 (U64 V))) (rpH x) := by
 have f := rView_fc (G := G) x
 rw [h.view] at f
 exact f
theorem turnI_fc {x : Rp} {i : Nat} {V : UInt64} (h : TI x i V) : FP G 28 [.ptr 2 0] (rpH x) (.tup [.agg (ntA (noteT i (V + 1))), .v (.bool true)]) (rpH { x with view := x.view + 1 }) := by
 have f := rTurn_fc (G := G) x h.dead firstT h.bp h.b0
 rw [turn_is h] at f
 exact f
theorem repTurns_fc (hm : ShaIn G) (hr : RefIn G) (nn : Int) (pl : Txt) (hn1 : -9223372036854775808 ≤ nn) (hn2 : nn ≤ 9223372036854775807) : FP G 6 [.v (.int .i64 nn), sA pl] [] (.v (.bool true)) [] := by
 obtain ⟨x0, h0⟩ : ∃ x, x = rp0 (nd 2) [] 0 0 0 (keysP 4) (seedT 0) 0 := ⟨_, rfl⟩
 have f0 := newI_fc hm 0 (by decide)
 rw [← h0] at f0
 have t0 : TI x0 0 1 := by rw [h0]; exact ti_new 0 _
 obtain ⟨x1, h1⟩ : ∃ x, x = rp0 (nd 2) [] 0 0 1 (keysP 4) (seedT 1) 0 := ⟨_, rfl⟩
 have f1 := newI_fc hm 1 (by decide)
 rw [← h1] at f1
 have t1 : TI x1 1 1 := by rw [h1]; exact ti_new 1 _
 obtain ⟨x2, h2⟩ : ∃ x, x = rp0 (nd 2) [] 0 0 2 (keysP 4) (seedT 2) 0 := ⟨_, rfl⟩
 have f2 := newI_fc hm 2 (by decide)
 rw [← h2] at f2
 have t2 : TI x2 2 1 := by rw [h2]; exact ti_new 2 _
 obtain ⟨x3, h3⟩ : ∃ x, x = rp0 (nd 2) [] 0 0 3 (keysP 4) (seedT 3) 0 := ⟨_, rfl⟩
 have f3 := newI_fc hm 3 (by decide)
 rw [← h3] at f3
 have t3 : TI x3 3 1 := by rw [h3]; exact ti_new 3 _
 obtain ⟨pt, hpt⟩ : ∃ pt, pt = pl.take (min pl.length 200) := ⟨_, rfl⟩
 have hptl : pt.length ≤ 200 := by rw [hpt, List.length_take]; omega
 have fpk := lpick_fc (G := G) nn 8 hn1 hn2 (by decide) (by decide)
 have hqlt := pickW_lt nn 8 (by decide)
 obtain ⟨q, hqq⟩ : ∃ q, q = pickW nn 8 := ⟨_, rfl⟩
 rw [← hqq] at fpk hqlt
 have hsd : sdL.map sA = [sA (seedT 0), sA (seedT 1), sA (seedT 2), sA (seedT 3)] := by with_unfolding_all rfl
 have fsd := seeds_fc (G := G)
 rw [hsd] at fsd
 have ff := rFirst_fc hm
 refine FC.of_wp [4] Tryz.func6 rfl rfl rfl rfl (by trivial) (by trivial) (Nat.le_of_ble_eq_true rfl) ?_
 intro A hG hnA hAB
 unfold start
 refine WP.rs hG (Ch.asg rfl rfl (Ch.nil (WP.rs hG (Ch.callP (rawake_fc hm hr) gdN .nil .n (by rfl) rfl ?_))))
 refine Ch.asg rfl rfl (Ch.nil (WP.rs hG (Ch.callS (vals_fc hr) gdN .nil .n (by simp) rfl ?_)))
 refine Ch.asg rfl rfl (Ch.nil (WP.rs hG (Ch.asg rfl rfl (Ch.nil (WP.seq (WP.from (SEnt.nilTip (t := 7) 0 37 1 rfl rfl) (WP.rs hG (Ch.asg rfl rfl (Ch.nil ?_)))))))))
 refine WP.block ?_
 refine WP.loop (fun k σ => (k = 4 ∧ σ = ⟨184, ls [(0, .v (.int .i64 nn)), (1, sA pl), (5, .v (.bool true)), (6, .sl none (3 + 1) ((keysP 4).flatMap vA)), (7, .sl (some 0) 0 []), (8, .v (.int .i64 0))], lh ((0, .tip 37 1 0) :: []), blt 1⟩) ∨ (k = 3 ∧ σ = ⟨184, ls [(0, .v (.int .i64 nn)), (1, sA pl), (5, .v (.bool true)), (6, .sl none (3 + 1) ((keysP 4).flatMap vA)), (7, .sl (some 0) 1 [.ptr 3 0]), (8, .v (.int .i64 1))], lh ((0, .tip 37 1 1) :: (Xr0 x0 [])), blt 11⟩) ∨ (k = 2 ∧ σ = ⟨184, ls [(0, .v (.int .i64 nn)), (1, sA pl), (5, .v (.bool true)), (6, .sl none (3 + 1) ((keysP 4).flatMap vA)), (7, .sl (some 0) 2 [.ptr 3 0, .ptr 13 0]), (8, .v (.int .i64 2))], lh ((0, .tip 37 1 2) :: (Xr0 x0 (Xr1 x1 []))), blt 21⟩) ∨ (k = 1 ∧ σ = ⟨184, ls [(0, .v (.int .i64 nn)), (1, sA pl), (5, .v (.bool true)), (6, .sl none (3 + 1) ((keysP 4).flatMap vA)), (7, .sl (some 0) 3 [.ptr 3 0, .ptr 13 0, .ptr 23 0]), (8, .v (.int .i64 3))], lh ((0, .tip 37 1 3) :: (Xr0 x0 (Xr1 x1 (Xr2 x2 [])))), blt 31⟩) ∨ (k = 0 ∧ σ = ⟨184, ls [(0, .v (.int .i64 nn)), (1, sA pl), (5, .v (.bool true)), (6, .sl none (3 + 1) ((keysP 4).flatMap vA)), (7, .sl (some 0) 4 [.ptr 3 0, .ptr 13 0, .ptr 23 0, .ptr 33 0]), (8, .v (.int .i64 4))], lh ((0, .tip 37 1 4) :: (Xr0 x0 (Xr1 x1 (Xr2 x2 (Xr3 x3 []))))), blt 41⟩)) (4) (Ent.of [0] ?_ ?_ ?_ ?_).se (.inl ⟨rfl, rfl⟩) ?_
 · exact na_of hnA rfl
 · (repeat (first | exact trivial | (refine ⟨⟨(by first | trivial | (simp; first | done | fail)), _, rfl, (by first | exact .rfl _ | exact .of_eq (by simp [renL_tbs, renL_bks, renL_vs, pend_ren, ren_ss, renL_ns]; first | done | fail))⟩, ?_⟩)))
 · (repeat (first | exact trivial | (refine ⟨⟨rfl, (by trivial), (by rfl)⟩, ?_⟩)))
 · exact nd_of rfl
 rintro k σ hst
 refine WP.seq ?_
 rcases hst with ⟨hq, rfl⟩ | ⟨hq, rfl⟩ | ⟨hq, rfl⟩ | ⟨hq, rfl⟩ | ⟨hq, rfl⟩
 ·
  have hs := hq
  refine WP.rs hG (Ch.mv rfl rfl (Ch.p2 rfl rfl (OpS.int (op := .lss) (v' := .bool true) rfl rfl) rfl (Ch.nil (WP.cond_true rfl (WP.skip (WP.seq (WP.block (WP.rsD (by kernel_rfl) hG (Ch.mv rfl rfl ?_)))))))))
  refine Ch.mv rfl rfl (Ch.callS (fsd) gdN .nil .n (by rfl) rfl ?_)
  refine Ch.mv rfl rfl (Ch.p2 rfl rfl (OpS.indexAddr (sz := 1) rfl rfl rfl (by decide) (by decide) rfl (by decide)) rfl ?_)
  refine Ch.p1 rfl (OpS.loadS rfl rfl) rfl ?_
  refine Ch.cH (newDisk_fc) [] 1 gdN .nil .n rfl (by refine ⟨?_, ?_, ?_, ?_⟩ <;> first | ((conv => lhs; simp only [nrmA, Nat.reduceAdd, renL_tbs, renL_tb1, renL_bks, renL_b1, renL_vs, renL_v1, ren_vt, pend_ren, ren_ss, renL_ns]); all_goals rfl) | rfl) (by exact trivial) (by exact ⟨rfl, trivial⟩) rfl ?_
  refine Ch.cH (f0) [1] 2 gdN (.cons rfl (.cons rfl (.cons rfl (.cons rfl .nil)))) (.c (.rfl _) (.c (AV.wk.sh (by simp; first | done | fail)) (.c (.rfl _) (.c (.rfl _) .n)))) rfl (by refine ⟨?_, ?_, ?_, ?_⟩ <;> first | ((conv => lhs; simp only [nrmA, Nat.reduceAdd, renL_tbs, renL_tb1, renL_bks, renL_b1, renL_vs, renL_v1, ren_vt, pend_ren, ren_ss, renL_ns]); all_goals rfl) | rfl) (by exact ⟨rfl, trivial⟩) (by exact ⟨rfl, rfl, rfl, rfl, rfl, rfl, rfl, rfl, rfl, trivial⟩) rfl ?_
  refine Ch.asg rfl rfl (Ch.nilD ?_ (by kernel_rfl))
  refine WP.seq (WP.rs hG (Ch.mv rfl rfl (Ch.p1 rfl (OpS.not) rfl (Ch.mv rfl rfl (Ch.gm rfl rfl rfl rfl (Ch.g2 rfl rfl rfl rfl (OpS.eqNil (.p _ _) rfl) rfl (Ch.p2 rfl rfl (OpS.pickF) rfl (Ch.nil (WP.cond_false rfl ?_)))))))))
  refine WP.skip (WP.rg hG (Ch.mv rfl rfl (Ch.mv rfl rfl (Ch.pup gdN (by repeat (first | exact EvP.nil | (apply EvP.cons; exact rfl))) (OpS.slice1 (ys := [.ptr 3 0]) rfl rfl rfl rfl rfl rfl (by rfl) rfl (by rfl)) rfl ?_))))
  refine Ch.a2 rfl rfl (OpS.append (sz := 1) (bb := 8) 11 rfl rfl rfl rfl rfl (by decide) (SrcA.sl rfl (by exact rfl)) rfl rfl (by unfold maxLen; omega) rfl (by omega)) rfl rfl rfl ?_
  refine Ch.asg rfl rfl (Ch.nil (WP.rg hG (Ch.mv rfl rfl (Ch.p2 rfl rfl (OpS.int (op := .add) (v' := .int .i64 1) rfl rfl) rfl (Ch.asg rfl rfl (Ch.nil ?_))))))
  refine ⟨k - 1, _, by omega, (Ent.of [11, 1, 2, 3, 4, 5, 6, 7, 8, 9, 10] ?_ ?_ ?_ ?_).se, .inr (.inl (⟨by omega, rfl⟩))⟩
  · exact na_of hnA rfl
  · (repeat (first | exact trivial | (refine ⟨⟨(by first | trivial | (simp; first | done | fail)), _, rfl, (by first | exact .rfl _ | exact .of_eq (by simp [renL_tbs, renL_bks, renL_vs, pend_ren, ren_ss, renL_ns]; first | done | fail))⟩, ?_⟩)))
  · (repeat (first | exact trivial | (refine ⟨⟨rfl, (by first | trivial | (simp; first | done | fail)), (by first | rfl | (simp [renL_tbs, renL_bks, renL_vs, pend_ren, ren_ss, renL_ns]; first | done | fail))⟩, ?_⟩)))
  exact nd_of rfl
 ·
  have hs := hq
  refine WP.rs hG (Ch.mv rfl rfl (Ch.p2 rfl rfl (OpS.int (op := .lss) (v' := .bool true) rfl rfl) rfl (Ch.nil (WP.cond_true rfl (WP.skip (WP.seq (WP.block (WP.rsD (by kernel_rfl) hG (Ch.mv rfl rfl ?_)))))))))
  refine Ch.mv rfl rfl (Ch.callS (fsd) gdN .nil .n (by rfl) rfl ?_)
  refine Ch.mv rfl rfl (Ch.p2 rfl rfl (OpS.indexAddr (sz := 1) rfl rfl rfl (by decide) (by decide) rfl (by decide)) rfl ?_)
  refine Ch.p1 rfl (OpS.loadS rfl rfl) rfl ?_
  refine Ch.cH (newDisk_fc) [] 11 gdN .nil .n rfl (by refine ⟨?_, ?_, ?_, ?_⟩ <;> first | ((conv => lhs; simp only [nrmA, Nat.reduceAdd, renL_tbs, renL_tb1, renL_bks, renL_b1, renL_vs, renL_v1, ren_vt, pend_ren, ren_ss, renL_ns]); all_goals rfl) | rfl) (by exact trivial) (by exact ⟨rfl, trivial⟩) rfl ?_
  refine Ch.cH (f1) [11] 12 gdN (.cons rfl (.cons rfl (.cons rfl (.cons rfl .nil)))) (.c (.rfl _) (.c (AV.wk.sh (by simp; first | done | fail)) (.c (.rfl _) (.c (.rfl _) .n)))) rfl (by refine ⟨?_, ?_, ?_, ?_⟩ <;> first | ((conv => lhs; simp only [nrmA, Nat.reduceAdd, renL_tbs, renL_tb1, renL_bks, renL_b1, renL_vs, renL_v1, ren_vt, pend_ren, ren_ss, renL_ns]); all_goals rfl) | rfl) (by exact ⟨rfl, trivial⟩) (by exact ⟨rfl, rfl, rfl, rfl, rfl, rfl, rfl, rfl, rfl, trivial⟩) rfl ?_
  refine Ch.asg rfl rfl (Ch.nilD ?_ (by kernel_rfl))
  refine WP.seq (WP.rs hG (Ch.mv rfl rfl (Ch.p1 rfl (OpS.not) rfl (Ch.mv rfl rfl (Ch.gm rfl rfl rfl rfl (Ch.g2 rfl rfl rfl rfl (OpS.eqNil (.p _ _) rfl) rfl (Ch.p2 rfl rfl (OpS.pickF) rfl (Ch.nil (WP.cond_false rfl ?_)))))))))
  refine WP.skip (WP.rg hG (Ch.mv rfl rfl (Ch.mv rfl rfl (Ch.pup gdN (by repeat (first | exact EvP.nil | (apply EvP.cons; exact rfl))) (OpS.slice1 (ys := [.ptr 13 0]) rfl rfl rfl rfl rfl rfl (by rfl) rfl (by rfl)) rfl ?_))))
  refine Ch.a2 rfl rfl (OpS.append (sz := 1) (bb := 8) 21 rfl rfl rfl rfl rfl (by decide) (SrcA.sl rfl (by exact rfl)) rfl rfl (by unfold maxLen; omega) rfl (by omega)) rfl rfl rfl ?_
  refine Ch.asg rfl rfl (Ch.nil (WP.rg hG (Ch.mv rfl rfl (Ch.p2 rfl rfl (OpS.int (op := .add) (v' := .int .i64 2) rfl rfl) rfl (Ch.asg rfl rfl (Ch.nil ?_))))))
  refine ⟨k - 1, _, by omega, (Ent.of [21, 1, 2, 3, 4, 5, 6, 7, 8, 9, 10, 11, 12, 13, 14, 15, 16, 17, 18, 19, 20] ?_ ?_ ?_ ?_).se, .inr (.inr (.inl (⟨by omega, rfl⟩)))⟩
  · exact na_of hnA rfl
  · (repeat (first | exact trivial | (refine ⟨⟨(by first | trivial | (simp; first | done | fail)), _, rfl, (by first | exact .rfl _ | exact .of_eq (by simp [renL_tbs, renL_bks, renL_vs, pend_ren, ren_ss, renL_ns]; first | done | fail))⟩, ?_⟩)))
  · (repeat (first | exact trivial | (refine ⟨⟨rfl, (by first | trivial | (simp; first | done | fail)), (by first | rfl | (simp [renL_tbs, renL_bks, renL_vs, pend_ren, ren_ss, renL_ns]; first | done | fail))⟩, ?_⟩)))
  exact nd_of rfl
 ·
  have hs := hq
  refine WP.rs hG (Ch.mv rfl rfl (Ch.p2 rfl rfl (OpS.int (op := .lss) (v' := .bool true) rfl rfl) rfl (Ch.nil (WP.cond_true rfl (WP.skip (WP.seq (WP.block (WP.rsD (by kernel_rfl) hG (Ch.mv rfl rfl ?_)))))))))
  refine Ch.mv rfl rfl (Ch.callS (fsd) gdN .nil .n (by rfl) rfl ?_)
  refine Ch.mv rfl rfl (Ch.p2 rfl rfl (OpS.indexAddr (sz := 1) rfl rfl rfl (by decide) (by decide) rfl (by decide)) rfl ?_)
  refine Ch.p1 rfl (OpS.loadS rfl rfl) rfl ?_
  refine Ch.cH (newDisk_fc) [] 21 gdN .nil .n rfl (by refine ⟨?_, ?_, ?_, ?_⟩ <;> first | ((conv => lhs; simp only [nrmA, Nat.reduceAdd, renL_tbs, renL_tb1, renL_bks, renL_b1, renL_vs, renL_v1, ren_vt, pend_ren, ren_ss, renL_ns]); all_goals rfl) | rfl) (by exact trivial) (by exact ⟨rfl, trivial⟩) rfl ?_
  refine Ch.cH (f2) [21] 22 gdN (.cons rfl (.cons rfl (.cons rfl (.cons rfl .nil)))) (.c (.rfl _) (.c (AV.wk.sh (by simp; first | done | fail)) (.c (.rfl _) (.c (.rfl _) .n)))) rfl (by refine ⟨?_, ?_, ?_, ?_⟩ <;> first | ((conv => lhs; simp only [nrmA, Nat.reduceAdd, renL_tbs, renL_tb1, renL_bks, renL_b1, renL_vs, renL_v1, ren_vt, pend_ren, ren_ss, renL_ns]); all_goals rfl) | rfl) (by exact ⟨rfl, trivial⟩) (by exact ⟨rfl, rfl, rfl, rfl, rfl, rfl, rfl, rfl, rfl, trivial⟩) rfl ?_
  refine Ch.asg rfl rfl (Ch.nilD ?_ (by kernel_rfl))
  refine WP.seq (WP.rs hG (Ch.mv rfl rfl (Ch.p1 rfl (OpS.not) rfl (Ch.mv rfl rfl (Ch.gm rfl rfl rfl rfl (Ch.g2 rfl rfl rfl rfl (OpS.eqNil (.p _ _) rfl) rfl (Ch.p2 rfl rfl (OpS.pickF) rfl (Ch.nil (WP.cond_false rfl ?_)))))))))
  refine WP.skip (WP.rg hG (Ch.mv rfl rfl (Ch.mv rfl rfl (Ch.pup gdN (by repeat (first | exact EvP.nil | (apply EvP.cons; exact rfl))) (OpS.slice1 (ys := [.ptr 23 0]) rfl rfl rfl rfl rfl rfl (by rfl) rfl (by rfl)) rfl ?_))))
  refine Ch.a2 rfl rfl (OpS.append (sz := 1) (bb := 8) 31 rfl rfl rfl rfl rfl (by decide) (SrcA.sl rfl (by exact rfl)) rfl rfl (by unfold maxLen; omega) rfl (by omega)) rfl rfl rfl ?_
  refine Ch.asg rfl rfl (Ch.nil (WP.rg hG (Ch.mv rfl rfl (Ch.p2 rfl rfl (OpS.int (op := .add) (v' := .int .i64 3) rfl rfl) rfl (Ch.asg rfl rfl (Ch.nil ?_))))))
  refine ⟨k - 1, _, by omega, (Ent.of [31, 1, 2, 3, 4, 5, 6, 7, 8, 9, 10, 11, 12, 13, 14, 15, 16, 17, 18, 19, 20, 21, 22, 23, 24, 25, 26, 27, 28, 29, 30] ?_ ?_ ?_ ?_).se, .inr (.inr (.inr (.inl (⟨by omega, rfl⟩))))⟩
  · exact na_of hnA rfl
  · (repeat (first | exact trivial | (refine ⟨⟨(by first | trivial | (simp; first | done | fail)), _, rfl, (by first | exact .rfl _ | exact .of_eq (by simp [renL_tbs, renL_bks, renL_vs, pend_ren, ren_ss, renL_ns]; first | done | fail))⟩, ?_⟩)))
  · (repeat (first | exact trivial | (refine ⟨⟨rfl, (by first | trivial | (simp; first | done | fail)), (by first | rfl | (simp [renL_tbs, renL_bks, renL_vs, pend_ren, ren_ss, renL_ns]; first | done | fail))⟩, ?_⟩)))
  exact nd_of rfl
 ·
  have hs := hq
  refine WP.rs hG (Ch.mv rfl rfl (Ch.p2 rfl rfl (OpS.int (op := .lss) (v' := .bool true) rfl rfl) rfl (Ch.nil (WP.cond_true rfl (WP.skip (WP.seq (WP.block (WP.rsD (by kernel_rfl) hG (Ch.mv rfl rfl ?_)))))))))
  refine Ch.mv rfl rfl (Ch.callS (fsd) gdN .nil .n (by rfl) rfl ?_)
  refine Ch.mv rfl rfl (Ch.p2 rfl rfl (OpS.indexAddr (sz := 1) rfl rfl rfl (by decide) (by decide) rfl (by decide)) rfl ?_)
  refine Ch.p1 rfl (OpS.loadS rfl rfl) rfl ?_
  refine Ch.cH (newDisk_fc) [] 31 gdN .nil .n rfl (by refine ⟨?_, ?_, ?_, ?_⟩ <;> first | ((conv => lhs; simp only [nrmA, Nat.reduceAdd, renL_tbs, renL_tb1, renL_bks, renL_b1, renL_vs, renL_v1, ren_vt, pend_ren, ren_ss, renL_ns]); all_goals rfl) | rfl) (by exact trivial) (by exact ⟨rfl, trivial⟩) rfl ?_
  refine Ch.cH (f3) [31] 32 gdN (.cons rfl (.cons rfl (.cons rfl (.cons rfl .nil)))) (.c (.rfl _) (.c (AV.wk.sh (by simp; first | done | fail)) (.c (.rfl _) (.c (.rfl _) .n)))) rfl (by refine ⟨?_, ?_, ?_, ?_⟩ <;> first | ((conv => lhs; simp only [nrmA, Nat.reduceAdd, renL_tbs, renL_tb1, renL_bks, renL_b1, renL_vs, renL_v1, ren_vt, pend_ren, ren_ss, renL_ns]); all_goals rfl) | rfl) (by exact ⟨rfl, trivial⟩) (by exact ⟨rfl, rfl, rfl, rfl, rfl, rfl, rfl, rfl, rfl, trivial⟩) rfl ?_
  refine Ch.asg rfl rfl (Ch.nilD ?_ (by kernel_rfl))
  refine WP.seq (WP.rs hG (Ch.mv rfl rfl (Ch.p1 rfl (OpS.not) rfl (Ch.mv rfl rfl (Ch.gm rfl rfl rfl rfl (Ch.g2 rfl rfl rfl rfl (OpS.eqNil (.p _ _) rfl) rfl (Ch.p2 rfl rfl (OpS.pickF) rfl (Ch.nil (WP.cond_false rfl ?_)))))))))
  refine WP.skip (WP.rg hG (Ch.mv rfl rfl (Ch.mv rfl rfl (Ch.pup gdN (by repeat (first | exact EvP.nil | (apply EvP.cons; exact rfl))) (OpS.slice1 (ys := [.ptr 33 0]) rfl rfl rfl rfl rfl rfl (by rfl) rfl (by rfl)) rfl ?_))))
  refine Ch.a2 rfl rfl (OpS.append (sz := 1) (bb := 8) 41 rfl rfl rfl rfl rfl (by decide) (SrcA.sl rfl (by exact rfl)) rfl rfl (by unfold maxLen; omega) rfl (by omega)) rfl rfl rfl ?_
  refine Ch.asg rfl rfl (Ch.nil (WP.rg hG (Ch.mv rfl rfl (Ch.p2 rfl rfl (OpS.int (op := .add) (v' := .int .i64 4) rfl rfl) rfl (Ch.asg rfl rfl (Ch.nil ?_))))))
  refine ⟨k - 1, _, by omega, (Ent.of [41, 1, 2, 3, 4, 5, 6, 7, 8, 9, 10, 11, 12, 13, 14, 15, 16, 17, 18, 19, 20, 21, 22, 23, 24, 25, 26, 27, 28, 29, 30, 31, 32, 33, 34, 35, 36, 37, 38, 39, 40] ?_ ?_ ?_ ?_).se, .inr (.inr (.inr (.inr (⟨by omega, rfl⟩))))⟩
  · exact na_of hnA rfl
  · (repeat (first | exact trivial | (refine ⟨⟨(by first | trivial | (simp; first | done | fail)), _, rfl, (by first | exact .rfl _ | exact .of_eq (by simp [renL_tbs, renL_bks, renL_vs, pend_ren, ren_ss, renL_ns]; first | done | fail))⟩, ?_⟩)))
  · (repeat (first | exact trivial | (refine ⟨⟨rfl, (by first | trivial | (simp; first | done | fail)), (by first | rfl | (simp [renL_tbs, renL_bks, renL_vs, pend_ren, ren_ss, renL_ns]; first | done | fail))⟩, ?_⟩)))
  exact nd_of rfl
 have hs := hq
 refine WP.rs hG (Ch.mv rfl rfl (Ch.p2 rfl rfl (OpS.int (op := .lss) (v' := .bool false) rfl rfl) rfl (Ch.nil (WP.cond_false rfl (WP.exit (WP.rs hG (Ch.mv rfl rfl (Ch.mv rfl rfl (Ch.p1 rfl (OpS.lenS rfl) rfl ?_)))))))))
 refine Ch.p2 rfl rfl (OpS.minI (min200 _)) rfl (Ch.p2 rfl rfl (OpS.sliceSh (l := pl) rfl (by with_reducible exact Int.toNat_natCast _) (by omega) (by omega)) rfl ?_)
 refine Ch.asg rfl rfl (Ch.nil ?_)
 rw [← hpt]
 refine WP.rs hG (Ch.asg rfl rfl (Ch.nil (WP.seq (WP.from (SEnt.nilTip (t := 11) 41 46 9 rfl rfl) (WP.rs hG (Ch.asg rfl rfl (Ch.nil (WP.block ?_))))))))
 refine WP.loop (fun k σ => ∃ (t : Nat) (V : UInt64) (y0 y1 y2 y3 : Rp) (z : List Nt), (t + k = 1 + q ∧ V.toNat = 1 + t ∧ TI y0 0 V ∧ TI y1 1 V ∧ TI y2 2 V ∧ TI y3 3 V ∧ (1 ≤ t → z = notesT V)) ∧ σ = ⟨184, ls [(0, .v (.int .i64 nn)), (7, .sl (some 0) 4 [.ptr 3 0, .ptr 13 0, .ptr 23 0, .ptr 33 0]), (10, sA pt), (11, .sl (some 41) z.length (z.flatMap ntA)), (12, .v (.int .i64 (t : Int)))], lh ((0, .tip 37 1 4) :: (Xr0 y0 (Xr1 y1 (Xr2 y2 (Xr3 y3 [(41, .tip 46 9 z.length)]))))), blt 42⟩) (1 + q) (Ent.of [0, 1, 2, 3, 4, 5, 6, 7, 8, 9, 10, 11, 12, 13, 14, 15, 16, 17, 18, 19, 20, 21, 22, 23, 24, 25, 26, 27, 28, 29, 30, 31, 32, 33, 34, 35, 36, 37, 38, 39, 40, 41] ?_ ?_ ?_ ?_).se ⟨0, 1, x0, x1, x2, x3, [], ⟨by omega, by decide, t0, t1, t2, t3, fun h => absurd h (by decide)⟩, rfl⟩ ?_
 · exact na_of hnA rfl
 · (repeat (first | exact trivial | (refine ⟨⟨(by trivial), _, rfl, .rfl _⟩, ?_⟩)))
 · (repeat (first | exact trivial | (refine ⟨⟨rfl, (by first | trivial | (simp; first | done | fail)), (by first | rfl | (simp [renL_tbs, renL_bks, renL_vs, pend_ren, ren_ss, renL_ns]; first | done | fail))⟩, ?_⟩)))
 · exact nd_of rfl
 rintro k1 σ ⟨t, V, y0, y1, y2, y3, z, ⟨htk, hV, u0, u1, u2, u3, hz⟩, rfl⟩
 refine WP.seq ?_
 have hV1 : (V + 1).toNat = V.toNat + 1 := succ_nat (by omega)
 have fl := rLead_fc (G := G) (V + 1)
 rcases Nat.lt_or_ge t (1 + q) with hq | hq
 ·
  have hs := hq
  refine WP.rs hG (Ch.mv rfl rfl (Ch.mv rfl rfl (Ch.callP (fpk) gdN (.cons rfl (.cons rfl .nil)) (.c (.rfl _) (.c (.rfl _) .n)) (by rfl) rfl ?_)))
  refine Ch.p2 rfl rfl (OpS.int (op := .add) (v' := .int .i64 ((1 + q : Nat) : Int)) rfl (by rw [wr64 (by omega)]; exact congrArg (Value.int .i64) (by omega))) rfl ?_
  refine Ch.p2 rfl rfl (OpS.lssT (by omega)) rfl ?_
  refine Ch.nil (WP.cond_true rfl (WP.skip (WP.seq (WP.block (WP.rs hG (Ch.asg rfl rfl (Ch.nil (WP.from (SEnt.nilTip (t := 11) 42 46 9 rfl rfl) (WP.rs hG ?_)))))))))
  refine Ch.asg rfl rfl (Ch.nil (WP.block ?_))
  refine WP.loop (fun k σ => (k = 4 ∧ σ = ⟨184, ls [(0, .v (.int .i64 nn)), (7, .sl (some 0) 4 [.ptr 3 0, .ptr 13 0, .ptr 23 0, .ptr 33 0]), (10, sA pt), (11, .sl (some 41) 0 (List.flatMap ntA ([] : List Nt))), (12, .v (.int .i64 (t : Int))), (13, .v (.int .i64 0))], lh ((0, .tip 37 1 4) :: (Xr0 y0 (Xr1 y1 (Xr2 y2 (Xr3 y3 [(41, .tip 46 9 0)]))))), blt 42⟩) ∨ (k = 3 ∧ σ = ⟨184, ls [(0, .v (.int .i64 nn)), (7, .sl (some 0) 4 [.ptr 3 0, .ptr 13 0, .ptr 23 0, .ptr 33 0]), (10, sA pt), (11, .sl (some 41) 1 (List.flatMap ntA ([noteT 0 (V + 1)] : List Nt))), (12, .v (.int .i64 (t : Int))), (13, .v (.int .i64 1))], lh ((0, .tip 37 1 4) :: (Xr0 ({ y0 with view := y0.view + 1 } : Rp) (Xr1 y1 (Xr2 y2 (Xr3 y3 [(41, .tip 46 9 1)]))))), blt 42⟩) ∨ (k = 2 ∧ σ = ⟨184, ls [(0, .v (.int .i64 nn)), (7, .sl (some 0) 4 [.ptr 3 0, .ptr 13 0, .ptr 23 0, .ptr 33 0]), (10, sA pt), (11, .sl (some 41) 2 (List.flatMap ntA ([noteT 0 (V + 1), noteT 1 (V + 1)] : List Nt))), (12, .v (.int .i64 (t : Int))), (13, .v (.int .i64 2))], lh ((0, .tip 37 1 4) :: (Xr0 ({ y0 with view := y0.view + 1 } : Rp) (Xr1 ({ y1 with view := y1.view + 1 } : Rp) (Xr2 y2 (Xr3 y3 [(41, .tip 46 9 2)]))))), blt 42⟩) ∨ (k = 1 ∧ σ = ⟨184, ls [(0, .v (.int .i64 nn)), (7, .sl (some 0) 4 [.ptr 3 0, .ptr 13 0, .ptr 23 0, .ptr 33 0]), (10, sA pt), (11, .sl (some 41) 3 (List.flatMap ntA ([noteT 0 (V + 1), noteT 1 (V + 1), noteT 2 (V + 1)] : List Nt))), (12, .v (.int .i64 (t : Int))), (13, .v (.int .i64 3))], lh ((0, .tip 37 1 4) :: (Xr0 ({ y0 with view := y0.view + 1 } : Rp) (Xr1 ({ y1 with view := y1.view + 1 } : Rp) (Xr2 ({ y2 with view := y2.view + 1 } : Rp) (Xr3 y3 [(41, .tip 46 9 3)]))))), blt 42⟩) ∨ (k = 0 ∧ σ = ⟨184, ls [(0, .v (.int .i64 nn)), (7, .sl (some 0) 4 [.ptr 3 0, .ptr 13 0, .ptr 23 0, .ptr 33 0]), (10, sA pt), (11, .sl (some 41) 4 (List.flatMap ntA ([noteT 0 (V + 1), noteT 1 (V + 1), noteT 2 (V + 1), noteT 3 (V + 1)] : List Nt))), (12, .v (.int .i64 (t : Int))), (13, .v (.int .i64 4))], lh ((0, .tip 37 1 4) :: (Xr0 ({ y0 with view := y0.view + 1 } : Rp) (Xr1 ({ y1 with view := y1.view + 1 } : Rp) (Xr2 ({ y2 with view := y2.view + 1 } : Rp) (Xr3 ({ y3 with view := y3.view + 1 } : Rp) [(41, .tip 46 9 4)]))))), blt 42⟩)) (4) (Ent.of [0, 1, 2, 3, 4, 5, 6, 7, 8, 9, 10, 11, 12, 13, 14, 15, 16, 17, 18, 19, 20, 21, 22, 23, 24, 25, 26, 27, 28, 29, 30, 31, 32, 33, 34, 35, 36, 37, 38, 39, 40, 42] ?_ ?_ ?_ ?_).se (.inl ⟨rfl, rfl⟩) ?_
  · exact na_of hnA rfl
  · (repeat (first | exact trivial | (refine ⟨⟨(by trivial), _, rfl, .rfl _⟩, ?_⟩)))
  · (repeat (first | exact trivial | (refine ⟨⟨rfl, (by first | trivial | (simp; first | done | fail)), (by first | rfl | (simp [renL_tbs, renL_bks, renL_vs, pend_ren, ren_ss, renL_ns]; first | done | fail))⟩, ?_⟩)))
  · exact nd_of rfl
  rintro k2 σ hst2
  refine WP.seq ?_
  rcases hst2 with ⟨hq, rfl⟩ | ⟨hq, rfl⟩ | ⟨hq, rfl⟩ | ⟨hq, rfl⟩ | ⟨hq, rfl⟩
  ·
   have hs := hq
   refine WP.rs hG (Ch.mv rfl rfl (Ch.p2 rfl rfl (OpS.int (op := .lss) (v' := .bool true) rfl rfl) rfl (Ch.nil (WP.cond_true rfl (WP.skip (WP.seq (WP.block ?_)))))))
   have fV := viewI_fc (G := G) u0
   have fT := turnI_fc (G := G) u0
   have fW := viewI_fc (G := G) u0.turn
   refine WP.rs hG (Ch.mv rfl rfl (Ch.mv rfl rfl (Ch.p2 rfl rfl (OpS.indexAddr (sz := 1) rfl rfl rfl (by decide) (by decide) rfl (by decide)) rfl ?_)))
   refine Ch.p1 rfl (OpS.loadS rfl rfl) rfl ?_
   refine Ch.cH (fV) [1,2,3,4,5,6,7,8,9,10] 50 gdN (.cons rfl .nil) (.c (.rfl _) .n) rfl (by refine ⟨?_, ?_, ?_, ?_⟩ <;> first | ((conv => lhs; simp only [nrmA, Nat.reduceAdd, renL_tbs, renL_tb1, renL_bks, renL_b1, renL_vs, renL_v1, ren_vt, pend_ren, ren_ss, renL_ns]); all_goals rfl) | rfl) (by exact ⟨rfl, rfl, rfl, rfl, rfl, rfl, rfl, rfl, rfl, rfl, trivial⟩) (by exact trivial) rfl ?_
   refine Ch.asg rfl rfl (Ch.nil (WP.rs hG (Ch.mv rfl rfl (Ch.mv rfl rfl (Ch.p2 rfl rfl (OpS.indexAddr (sz := 1) rfl rfl rfl (by decide) (by decide) rfl (by decide)) rfl ?_)))))
   refine Ch.p1 rfl (OpS.loadS rfl rfl) rfl ?_
   refine Ch.cH (fT) [1,2,3,4,5,6,7,8,9,10] 50 gdN (.cons rfl .nil) (.c (.rfl _) .n) rfl (by refine ⟨?_, ?_, ?_, ?_⟩ <;> first | ((conv => lhs; simp only [nrmA, Nat.reduceAdd, renL_tbs, renL_tb1, renL_bks, renL_b1, renL_vs, renL_v1, ren_vt, pend_ren, ren_ss, renL_ns]); all_goals rfl) | rfl) (by exact ⟨rfl, rfl, rfl, rfl, rfl, rfl, rfl, rfl, rfl, rfl, trivial⟩) (by exact trivial) rfl ?_
   refine Ch.mv rfl rfl (Ch.p1 rfl (OpS.extract rfl) rfl (Ch.p1 rfl (OpS.extract rfl) rfl (Ch.a0 (OpS.alloc 50 rfl rfl rfl) rfl rfl (Ch.ws rfl rfl (OpS.storePA (cs := ntA nt0) (c := .agg (ntA (noteT 0 (V + 1)))) rfl rfl (nt_one _) (by exact Nat.le_refl 9)) rfl ?_))))
   refine Ch.asg rfl rfl (Ch.nil (WP.seq (WP.rsD (by kernel_rfl) hG (Ch.mv rfl rfl (Ch.p1 rfl (OpS.not) rfl (Ch.mv rfl rfl (Ch.g1 rfl rfl rfl (OpS.fieldAddr rfl rfl rfl rfl) rfl (Ch.pu (by exact gdT rfl rfl) (by exact ⟨rfl, trivial⟩) (OpS.loadP rfl rfl rfl) (by exact ⟨rfl, trivial⟩) rfl ?_))))))))
   refine Ch.gm rfl rfl rfl rfl (Ch.g2 rfl rfl rfl rfl (OpS.int (op := .add) (v' := .int .u64 (U64 (V + 1))) rfl (u64_succ V)) rfl (Ch.g2 rfl rfl rfl rfl (OpS.int (op := .neq) (v' := .bool false) rfl (by exact congrArg Value.bool (bne_self_eq_false _))) rfl ?_))
   refine Ch.p2 rfl rfl (OpS.pickF) rfl (Ch.mv rfl rfl (Ch.gm rfl rfl rfl rfl (Ch.gm rfl rfl rfl rfl (Ch.g2 rfl rfl rfl rfl (OpS.indexAddr (sz := 1) rfl rfl rfl (by decide) (by decide) rfl (by decide)) rfl ?_))))
   refine Ch.g1 rfl rfl rfl (OpS.loadS rfl rfl) rfl ?_
   refine Ch.cH (fW) [1,2,3,4,5,6,7,8,9,10] 51 (gdT rfl rfl) (.cons rfl .nil) (.c (.rfl _) .n) rfl (by refine ⟨?_, ?_, ?_, ?_⟩ <;> first | ((conv => lhs; simp only [nrmA, Nat.reduceAdd, renL_tbs, renL_tb1, renL_bks, renL_b1, renL_vs, renL_v1, ren_vt, pend_ren, ren_ss, renL_ns]); all_goals rfl) | rfl) (by exact ⟨rfl, rfl, rfl, rfl, rfl, rfl, rfl, rfl, rfl, rfl, trivial⟩) (by exact trivial) rfl ?_
   refine Ch.gm rfl rfl rfl rfl (Ch.g2 rfl rfl rfl rfl (OpS.int (op := .add) (v' := .int .u64 (U64 (V + 1))) rfl (u64_succ V)) rfl (Ch.g2 rfl rfl rfl rfl (OpS.int (op := .neq) (v' := .bool false) rfl (by exact congrArg Value.bool (bne_self_eq_false _))) rfl ?_))
   refine Ch.p2 rfl rfl (OpS.pickF) rfl (Ch.mv rfl rfl (Ch.g1 rfl rfl rfl (OpS.fieldAddr rfl rfl rfl rfl) rfl (Ch.pu (by exact gdT rfl rfl) (by exact ⟨rfl, trivial⟩) (OpS.loadP rfl rfl rfl) (by exact ⟨rfl, trivial⟩) rfl ?_)))
   refine Ch.g1 rfl rfl rfl (OpS.fieldAddr rfl rfl rfl rfl) rfl (Ch.pu (by exact gdT rfl rfl) (by exact ⟨rfl, trivial⟩) (OpS.loadP rfl rfl rfl) (by exact ⟨rfl, trivial⟩) rfl ?_)
   refine Ch.callP (fl) (gdT rfl rfl) (.cons rfl .nil) (.c (.rfl _) .n) (by rfl) rfl ?_
   refine Ch.g2 rfl rfl rfl rfl (OpS.int (op := .neq) (v' := .bool false) rfl (by exact congrArg Value.bool (bne_self_eq_false _))) rfl ?_
   refine Ch.p2 rfl rfl (OpS.pickF) rfl (Ch.mv rfl rfl (Ch.g1 rfl rfl rfl (OpS.fieldAddr rfl rfl rfl rfl) rfl (Ch.pu (by exact gdT rfl rfl) (by exact ⟨rfl, trivial⟩) (OpS.loadP rfl rfl rfl) (by exact ⟨rfl, trivial⟩) rfl ?_)))
   refine Ch.gm rfl rfl rfl rfl (Ch.g2 rfl rfl rfl rfl (OpS.int (op := .neq) (v' := .bool false) rfl (by exact congrArg Value.bool (bne_self_eq_false _))) rfl ?_)
   refine Ch.p2 rfl rfl (OpS.pickF) rfl (Ch.mv rfl rfl (Ch.g1 rfl rfl rfl (OpS.fieldAddr rfl rfl rfl rfl) rfl (Ch.pu (by exact gdT rfl rfl) (by exact ⟨rfl, trivial⟩) (OpS.loadP rfl rfl rfl) (by exact ⟨rfl, trivial⟩) rfl ?_)))
   refine Ch.callP (ff) (gdT rfl rfl) .nil .n (by rfl) rfl ?_
   refine Ch.g2 rfl rfl rfl rfl (OpS.strNeB (c := false) (by simp [noteT])) rfl ?_
   refine Ch.p2 rfl rfl (OpS.pickF) rfl (Ch.nilD ?_ (by kernel_rfl))
   refine WP.cond_false rfl (WP.skip (WP.rg hG (Ch.mv rfl rfl (Ch.q1 rfl (OpS.loadPA (off := 0) (sz := 9) (cs := ntA (noteT 0 (V + 1))) rfl rfl rfl rfl (by exact Nat.le_refl 9)) rfl rfl ?_))))
   refine Ch.pup gdN (by repeat (first | exact EvP.nil | (apply EvP.cons; exact rfl))) (OpS.buildSlice (n := 1) (sz := 9) (cs := ntA (noteT 0 (V + 1))) rfl rfl rfl rfl (by decide) (by decide) rfl rfl (by rfl) (by unfold maxLen; omega)) rfl ?_
   refine Ch.a2 rfl rfl (OpS.append (sz := 9) (bb := 120) 51 rfl rfl rfl rfl rfl (by decide) (SrcA.sl rfl (by exact rfl)) rfl rfl (by unfold maxLen; omega) rfl (by omega)) rfl rfl rfl ?_
   refine Ch.asg rfl rfl (Ch.nil (WP.rg hG (Ch.mv rfl rfl (Ch.p2 rfl rfl (OpS.int (op := .add) (v' := .int .i64 1) rfl rfl) rfl (Ch.asg rfl rfl (Ch.nil ?_))))))
   refine ⟨k2 - 1, _, by omega, (Ent.of [0, 1, 2, 3, 4, 5, 6, 7, 8, 9, 10, 11, 12, 13, 14, 15, 16, 17, 18, 19, 20, 21, 22, 23, 24, 25, 26, 27, 28, 29, 30, 31, 32, 33, 34, 35, 36, 37, 38, 39, 40, 51] ?_ ?_ ?_ ?_).se, .inr (.inl (⟨by omega, rfl⟩))⟩
   · exact na_of hnA rfl
   · (repeat (first | exact trivial | (refine ⟨⟨(by trivial), _, rfl, .rfl _⟩, ?_⟩)))
   · (repeat (first | exact trivial | (refine ⟨⟨rfl, (by first | trivial | (simp; first | done | fail)), (by first | rfl | (simp [renL_tbs, renL_bks, renL_vs, pend_ren, ren_ss, renL_ns]; first | done | fail))⟩, ?_⟩)))
   exact nd_of rfl
  ·
   have hs := hq
   refine WP.rs hG (Ch.mv rfl rfl (Ch.p2 rfl rfl (OpS.int (op := .lss) (v' := .bool true) rfl rfl) rfl (Ch.nil (WP.cond_true rfl (WP.skip (WP.seq (WP.block ?_)))))))
   have fV := viewI_fc (G := G) u1
   have fT := turnI_fc (G := G) u1
   have fW := viewI_fc (G := G) u1.turn
   refine WP.rs hG (Ch.mv rfl rfl (Ch.mv rfl rfl (Ch.p2 rfl rfl (OpS.indexAddr (sz := 1) rfl rfl rfl (by decide) (by decide) rfl (by decide)) rfl ?_)))
   refine Ch.p1 rfl (OpS.loadS rfl rfl) rfl ?_
   refine Ch.cH (fV) [11,12,13,14,15,16,17,18,19,20] 50 gdN (.cons rfl .nil) (.c (.rfl _) .n) rfl (by refine ⟨?_, ?_, ?_, ?_⟩ <;> first | ((conv => lhs; simp only [nrmA, Nat.reduceAdd, renL_tbs, renL_tb1, renL_bks, renL_b1, renL_vs, renL_v1, ren_vt, pend_ren, ren_ss, renL_ns]); all_goals rfl) | rfl) (by exact ⟨rfl, rfl, rfl, rfl, rfl, rfl, rfl, rfl, rfl, rfl, trivial⟩) (by exact trivial) rfl ?_
   refine Ch.asg rfl rfl (Ch.nil (WP.rs hG (Ch.mv rfl rfl (Ch.mv rfl rfl (Ch.p2 rfl rfl (OpS.indexAddr (sz := 1) rfl rfl rfl (by decide) (by decide) rfl (by decide)) rfl ?_)))))
   refine Ch.p1 rfl (OpS.loadS rfl rfl) rfl ?_
   refine Ch.cH (fT) [11,12,13,14,15,16,17,18,19,20] 50 gdN (.cons rfl .nil) (.c (.rfl _) .n) rfl (by refine ⟨?_, ?_, ?_, ?_⟩ <;> first | ((conv => lhs; simp only [nrmA, Nat.reduceAdd, renL_tbs, renL_tb1, renL_bks, renL_b1, renL_vs, renL_v1, ren_vt, pend_ren, ren_ss, renL_ns]); all_goals rfl) | rfl) (by exact ⟨rfl, rfl, rfl, rfl, rfl, rfl, rfl, rfl, rfl, rfl, trivial⟩) (by exact trivial) rfl ?_
   refine Ch.mv rfl rfl (Ch.p1 rfl (OpS.extract rfl) rfl (Ch.p1 rfl (OpS.extract rfl) rfl (Ch.a0 (OpS.alloc 50 rfl rfl rfl) rfl rfl (Ch.ws rfl rfl (OpS.storePA (cs := ntA nt0) (c := .agg (ntA (noteT 1 (V + 1)))) rfl rfl (nt_one _) (by exact Nat.le_refl 9)) rfl ?_))))
   refine Ch.asg rfl rfl (Ch.nil (WP.seq (WP.rsD (by kernel_rfl) hG (Ch.mv rfl rfl (Ch.p1 rfl (OpS.not) rfl (Ch.mv rfl rfl (Ch.g1 rfl rfl rfl (OpS.fieldAddr rfl rfl rfl rfl) rfl (Ch.pu (by exact gdT rfl rfl) (by exact ⟨rfl, trivial⟩) (OpS.loadP rfl rfl rfl) (by exact ⟨rfl, trivial⟩) rfl ?_))))))))
   refine Ch.gm rfl rfl rfl rfl (Ch.g2 rfl rfl rfl rfl (OpS.int (op := .add) (v' := .int .u64 (U64 (V + 1))) rfl (u64_succ V)) rfl (Ch.g2 rfl rfl rfl rfl (OpS.int (op := .neq) (v' := .bool false) rfl (by exact congrArg Value.bool (bne_self_eq_false _))) rfl ?_))
   refine Ch.p2 rfl rfl (OpS.pickF) rfl (Ch.mv rfl rfl (Ch.gm rfl rfl rfl rfl (Ch.gm rfl rfl rfl rfl (Ch.g2 rfl rfl rfl rfl (OpS.indexAddr (sz := 1) rfl rfl rfl (by decide) (by decide) rfl (by decide)) rfl ?_))))
   refine Ch.g1 rfl rfl rfl (OpS.loadS rfl rfl) rfl ?_
   refine Ch.cH (fW) [11,12,13,14,15,16,17,18,19,20] 51 (gdT rfl rfl) (.cons rfl .nil) (.c (.rfl _) .n) rfl (by refine ⟨?_, ?_, ?_, ?_⟩ <;> first | ((conv => lhs; simp only [nrmA, Nat.reduceAdd, renL_tbs, renL_tb1, renL_bks, renL_b1, renL_vs, renL_v1, ren_vt, pend_ren, ren_ss, renL_ns]); all_goals rfl) | rfl) (by exact ⟨rfl, rfl, rfl, rfl, rfl, rfl, rfl, rfl, rfl, rfl, trivial⟩) (by exact trivial) rfl ?_
   refine Ch.gm rfl rfl rfl rfl (Ch.g2 rfl rfl rfl rfl (OpS.int (op := .add) (v' := .int .u64 (U64 (V + 1))) rfl (u64_succ V)) rfl (Ch.g2 rfl rfl rfl rfl (OpS.int (op := .neq) (v' := .bool false) rfl (by exact congrArg Value.bool (bne_self_eq_false _))) rfl ?_))
   refine Ch.p2 rfl rfl (OpS.pickF) rfl (Ch.mv rfl rfl (Ch.g1 rfl rfl rfl (OpS.fieldAddr rfl rfl rfl rfl) rfl (Ch.pu (by exact gdT rfl rfl) (by exact ⟨rfl, trivial⟩) (OpS.loadP rfl rfl rfl) (by exact ⟨rfl, trivial⟩) rfl ?_)))
   refine Ch.g1 rfl rfl rfl (OpS.fieldAddr rfl rfl rfl rfl) rfl (Ch.pu (by exact gdT rfl rfl) (by exact ⟨rfl, trivial⟩) (OpS.loadP rfl rfl rfl) (by exact ⟨rfl, trivial⟩) rfl ?_)
   refine Ch.callP (fl) (gdT rfl rfl) (.cons rfl .nil) (.c (.rfl _) .n) (by rfl) rfl ?_
   refine Ch.g2 rfl rfl rfl rfl (OpS.int (op := .neq) (v' := .bool false) rfl (by exact congrArg Value.bool (bne_self_eq_false _))) rfl ?_
   refine Ch.p2 rfl rfl (OpS.pickF) rfl (Ch.mv rfl rfl (Ch.g1 rfl rfl rfl (OpS.fieldAddr rfl rfl rfl rfl) rfl (Ch.pu (by exact gdT rfl rfl) (by exact ⟨rfl, trivial⟩) (OpS.loadP rfl rfl rfl) (by exact ⟨rfl, trivial⟩) rfl ?_)))
   refine Ch.gm rfl rfl rfl rfl (Ch.g2 rfl rfl rfl rfl (OpS.int (op := .neq) (v' := .bool false) rfl (by exact congrArg Value.bool (bne_self_eq_false _))) rfl ?_)
   refine Ch.p2 rfl rfl (OpS.pickF) rfl (Ch.mv rfl rfl (Ch.g1 rfl rfl rfl (OpS.fieldAddr rfl rfl rfl rfl) rfl (Ch.pu (by exact gdT rfl rfl) (by exact ⟨rfl, trivial⟩) (OpS.loadP rfl rfl rfl) (by exact ⟨rfl, trivial⟩) rfl ?_)))
   refine Ch.callP (ff) (gdT rfl rfl) .nil .n (by rfl) rfl ?_
   refine Ch.g2 rfl rfl rfl rfl (OpS.strNeB (c := false) (by simp [noteT])) rfl ?_
   refine Ch.p2 rfl rfl (OpS.pickF) rfl (Ch.nilD ?_ (by kernel_rfl))
   refine WP.cond_false rfl (WP.skip (WP.rg hG (Ch.mv rfl rfl (Ch.q1 rfl (OpS.loadPA (off := 0) (sz := 9) (cs := ntA (noteT 1 (V + 1))) rfl rfl rfl rfl (by exact Nat.le_refl 9)) rfl rfl ?_))))
   refine Ch.pup gdN (by repeat (first | exact EvP.nil | (apply EvP.cons; exact rfl))) (OpS.buildSlice (n := 1) (sz := 9) (cs := ntA (noteT 1 (V + 1))) rfl rfl rfl rfl (by decide) (by decide) rfl rfl (by rfl) (by unfold maxLen; omega)) rfl ?_
   refine Ch.a2 rfl rfl (OpS.append (sz := 9) (bb := 120) 51 rfl rfl rfl rfl rfl (by decide) (SrcA.sl rfl (by exact rfl)) rfl rfl (by unfold maxLen; omega) rfl (by omega)) rfl rfl rfl ?_
   refine Ch.asg rfl rfl (Ch.nil (WP.rg hG (Ch.mv rfl rfl (Ch.p2 rfl rfl (OpS.int (op := .add) (v' := .int .i64 2) rfl rfl) rfl (Ch.asg rfl rfl (Ch.nil ?_))))))
   refine ⟨k2 - 1, _, by omega, (Ent.of [0, 1, 2, 3, 4, 5, 6, 7, 8, 9, 10, 11, 12, 13, 14, 15, 16, 17, 18, 19, 20, 21, 22, 23, 24, 25, 26, 27, 28, 29, 30, 31, 32, 33, 34, 35, 36, 37, 38, 39, 40, 51] ?_ ?_ ?_ ?_).se, .inr (.inr (.inl (⟨by omega, rfl⟩)))⟩
   · exact na_of hnA rfl
   · (repeat (first | exact trivial | (refine ⟨⟨(by trivial), _, rfl, .rfl _⟩, ?_⟩)))
   · (repeat (first | exact trivial | (refine ⟨⟨rfl, (by first | trivial | (simp; first | done | fail)), (by first | rfl | (simp [renL_tbs, renL_bks, renL_vs, pend_ren, ren_ss, renL_ns]; first | done | fail))⟩, ?_⟩)))
   exact nd_of rfl
  ·
   have hs := hq
   refine WP.rs hG (Ch.mv rfl rfl (Ch.p2 rfl rfl (OpS.int (op := .lss) (v' := .bool true) rfl rfl) rfl (Ch.nil (WP.cond_true rfl (WP.skip (WP.seq (WP.block ?_)))))))
   have fV := viewI_fc (G := G) u2
   have fT := turnI_fc (G := G) u2
   have fW := viewI_fc (G := G) u2.turn
   refine WP.rs hG (Ch.mv rfl rfl (Ch.mv rfl rfl (Ch.p2 rfl rfl (OpS.indexAddr (sz := 1) rfl rfl rfl (by decide) (by decide) rfl (by decide)) rfl ?_)))
   refine Ch.p1 rfl (OpS.loadS rfl rfl) rfl ?_
   refine Ch.cH (fV) [21,22,23,24,25,26,27,28,29,30] 50 gdN (.cons rfl .nil) (.c (.rfl _) .n) rfl (by refine ⟨?_, ?_, ?_, ?_⟩ <;> first | ((conv => lhs; simp only [nrmA, Nat.reduceAdd, renL_tbs, renL_tb1, renL_bks, renL_b1, renL_vs, renL_v1, ren_vt, pend_ren, ren_ss, renL_ns]); all_goals rfl) | rfl) (by exact ⟨rfl, rfl, rfl, rfl, rfl, rfl, rfl, rfl, rfl, rfl, trivial⟩) (by exact trivial) rfl ?_
   refine Ch.asg rfl rfl (Ch.nil (WP.rs hG (Ch.mv rfl rfl (Ch.mv rfl rfl (Ch.p2 rfl rfl (OpS.indexAddr (sz := 1) rfl rfl rfl (by decide) (by decide) rfl (by decide)) rfl ?_)))))
   refine Ch.p1 rfl (OpS.loadS rfl rfl) rfl ?_
   refine Ch.cH (fT) [21,22,23,24,25,26,27,28,29,30] 50 gdN (.cons rfl .nil) (.c (.rfl _) .n) rfl (by refine ⟨?_, ?_, ?_, ?_⟩ <;> first | ((conv => lhs; simp only [nrmA, Nat.reduceAdd, renL_tbs, renL_tb1, renL_bks, renL_b1, renL_vs, renL_v1, ren_vt, pend_ren, ren_ss, renL_ns]); all_goals rfl) | rfl) (by exact ⟨rfl, rfl, rfl, rfl, rfl, rfl, rfl, rfl, rfl, rfl, trivial⟩) (by exact trivial) rfl ?_
   refine Ch.mv rfl rfl (Ch.p1 rfl (OpS.extract rfl) rfl (Ch.p1 rfl (OpS.extract rfl) rfl (Ch.a0 (OpS.alloc 50 rfl rfl rfl) rfl rfl (Ch.ws rfl rfl (OpS.storePA (cs := ntA nt0) (c := .agg (ntA (noteT 2 (V + 1)))) rfl rfl (nt_one _) (by exact Nat.le_refl 9)) rfl ?_))))
   refine Ch.asg rfl rfl (Ch.nil (WP.seq (WP.rsD (by kernel_rfl) hG (Ch.mv rfl rfl (Ch.p1 rfl (OpS.not) rfl (Ch.mv rfl rfl (Ch.g1 rfl rfl rfl (OpS.fieldAddr rfl rfl rfl rfl) rfl (Ch.pu (by exact gdT rfl rfl) (by exact ⟨rfl, trivial⟩) (OpS.loadP rfl rfl rfl) (by exact ⟨rfl, trivial⟩) rfl ?_))))))))
   refine Ch.gm rfl rfl rfl rfl (Ch.g2 rfl rfl rfl rfl (OpS.int (op := .add) (v' := .int .u64 (U64 (V + 1))) rfl (u64_succ V)) rfl (Ch.g2 rfl rfl rfl rfl (OpS.int (op := .neq) (v' := .bool false) rfl (by exact congrArg Value.bool (bne_self_eq_false _))) rfl ?_))
   refine Ch.p2 rfl rfl (OpS.pickF) rfl (Ch.mv rfl rfl (Ch.gm rfl rfl rfl rfl (Ch.gm rfl rfl rfl rfl (Ch.g2 rfl rfl rfl rfl (OpS.indexAddr (sz := 1) rfl rfl rfl (by decide) (by decide) rfl (by decide)) rfl ?_))))
   refine Ch.g1 rfl rfl rfl (OpS.loadS rfl rfl) rfl ?_
   refine Ch.cH (fW) [21,22,23,24,25,26,27,28,29,30] 51 (gdT rfl rfl) (.cons rfl .nil) (.c (.rfl _) .n) rfl (by refine ⟨?_, ?_, ?_, ?_⟩ <;> first | ((conv => lhs; simp only [nrmA, Nat.reduceAdd, renL_tbs, renL_tb1, renL_bks, renL_b1, renL_vs, renL_v1, ren_vt, pend_ren, ren_ss, renL_ns]); all_goals rfl) | rfl) (by exact ⟨rfl, rfl, rfl, rfl, rfl, rfl, rfl, rfl, rfl, rfl, trivial⟩) (by exact trivial) rfl ?_
   refine Ch.gm rfl rfl rfl rfl (Ch.g2 rfl rfl rfl rfl (OpS.int (op := .add) (v' := .int .u64 (U64 (V + 1))) rfl (u64_succ V)) rfl (Ch.g2 rfl rfl rfl rfl (OpS.int (op := .neq) (v' := .bool false) rfl (by exact congrArg Value.bool (bne_self_eq_false _))) rfl ?_))
   refine Ch.p2 rfl rfl (OpS.pickF) rfl (Ch.mv rfl rfl (Ch.g1 rfl rfl rfl (OpS.fieldAddr rfl rfl rfl rfl) rfl (Ch.pu (by exact gdT rfl rfl) (by exact ⟨rfl, trivial⟩) (OpS.loadP rfl rfl rfl) (by exact ⟨rfl, trivial⟩) rfl ?_)))
   refine Ch.g1 rfl rfl rfl (OpS.fieldAddr rfl rfl rfl rfl) rfl (Ch.pu (by exact gdT rfl rfl) (by exact ⟨rfl, trivial⟩) (OpS.loadP rfl rfl rfl) (by exact ⟨rfl, trivial⟩) rfl ?_)
   refine Ch.callP (fl) (gdT rfl rfl) (.cons rfl .nil) (.c (.rfl _) .n) (by rfl) rfl ?_
   refine Ch.g2 rfl rfl rfl rfl (OpS.int (op := .neq) (v' := .bool false) rfl (by exact congrArg Value.bool (bne_self_eq_false _))) rfl ?_
   refine Ch.p2 rfl rfl (OpS.pickF) rfl (Ch.mv rfl rfl (Ch.g1 rfl rfl rfl (OpS.fieldAddr rfl rfl rfl rfl) rfl (Ch.pu (by exact gdT rfl rfl) (by exact ⟨rfl, trivial⟩) (OpS.loadP rfl rfl rfl) (by exact ⟨rfl, trivial⟩) rfl ?_)))
   refine Ch.gm rfl rfl rfl rfl (Ch.g2 rfl rfl rfl rfl (OpS.int (op := .neq) (v' := .bool false) rfl (by exact congrArg Value.bool (bne_self_eq_false _))) rfl ?_)
   refine Ch.p2 rfl rfl (OpS.pickF) rfl (Ch.mv rfl rfl (Ch.g1 rfl rfl rfl (OpS.fieldAddr rfl rfl rfl rfl) rfl (Ch.pu (by exact gdT rfl rfl) (by exact ⟨rfl, trivial⟩) (OpS.loadP rfl rfl rfl) (by exact ⟨rfl, trivial⟩) rfl ?_)))
   refine Ch.callP (ff) (gdT rfl rfl) .nil .n (by rfl) rfl ?_
   refine Ch.g2 rfl rfl rfl rfl (OpS.strNeB (c := false) (by simp [noteT])) rfl ?_
   refine Ch.p2 rfl rfl (OpS.pickF) rfl (Ch.nilD ?_ (by kernel_rfl))
   refine WP.cond_false rfl (WP.skip (WP.rg hG (Ch.mv rfl rfl (Ch.q1 rfl (OpS.loadPA (off := 0) (sz := 9) (cs := ntA (noteT 2 (V + 1))) rfl rfl rfl rfl (by exact Nat.le_refl 9)) rfl rfl ?_))))
   refine Ch.pup gdN (by repeat (first | exact EvP.nil | (apply EvP.cons; exact rfl))) (OpS.buildSlice (n := 1) (sz := 9) (cs := ntA (noteT 2 (V + 1))) rfl rfl rfl rfl (by decide) (by decide) rfl rfl (by rfl) (by unfold maxLen; omega)) rfl ?_
   refine Ch.a2 rfl rfl (OpS.append (sz := 9) (bb := 120) 51 rfl rfl rfl rfl rfl (by decide) (SrcA.sl rfl (by exact rfl)) rfl rfl (by unfold maxLen; omega) rfl (by omega)) rfl rfl rfl ?_
   refine Ch.asg rfl rfl (Ch.nil (WP.rg hG (Ch.mv rfl rfl (Ch.p2 rfl rfl (OpS.int (op := .add) (v' := .int .i64 3) rfl rfl) rfl (Ch.asg rfl rfl (Ch.nil ?_))))))
   refine ⟨k2 - 1, _, by omega, (Ent.of [0, 1, 2, 3, 4, 5, 6, 7, 8, 9, 10, 11, 12, 13, 14, 15, 16, 17, 18, 19, 20, 21, 22, 23, 24, 25, 26, 27, 28, 29, 30, 31, 32, 33, 34, 35, 36, 37, 38, 39, 40, 51] ?_ ?_ ?_ ?_).se, .inr (.inr (.inr (.inl (⟨by omega, rfl⟩))))⟩
   · exact na_of hnA rfl
   · (repeat (first | exact trivial | (refine ⟨⟨(by trivial), _, rfl, .rfl _⟩, ?_⟩)))
   · (repeat (first | exact trivial | (refine ⟨⟨rfl, (by first | trivial | (simp; first | done | fail)), (by first | rfl | (simp [renL_tbs, renL_bks, renL_vs, pend_ren, ren_ss, renL_ns]; first | done | fail))⟩, ?_⟩)))
   exact nd_of rfl
  ·
   have hs := hq
   refine WP.rs hG (Ch.mv rfl rfl (Ch.p2 rfl rfl (OpS.int (op := .lss) (v' := .bool true) rfl rfl) rfl (Ch.nil (WP.cond_true rfl (WP.skip (WP.seq (WP.block ?_)))))))
   have fV := viewI_fc (G := G) u3
   have fT := turnI_fc (G := G) u3
   have fW := viewI_fc (G := G) u3.turn
   refine WP.rs hG (Ch.mv rfl rfl (Ch.mv rfl rfl (Ch.p2 rfl rfl (OpS.indexAddr (sz := 1) rfl rfl rfl (by decide) (by decide) rfl (by decide)) rfl ?_)))
   refine Ch.p1 rfl (OpS.loadS rfl rfl) rfl ?_
   refine Ch.cH (fV) [31,32,33,34,35,36,37,38,39,40] 50 gdN (.cons rfl .nil) (.c (.rfl _) .n) rfl (by refine ⟨?_, ?_, ?_, ?_⟩ <;> first | ((conv => lhs; simp only [nrmA, Nat.reduceAdd, renL_tbs, renL_tb1, renL_bks, renL_b1, renL_vs, renL_v1, ren_vt, pend_ren, ren_ss, renL_ns]); all_goals rfl) | rfl) (by exact ⟨rfl, rfl, rfl, rfl, rfl, rfl, rfl, rfl, rfl, rfl, trivial⟩) (by exact trivial) rfl ?_
   refine Ch.asg rfl rfl (Ch.nil (WP.rs hG (Ch.mv rfl rfl (Ch.mv rfl rfl (Ch.p2 rfl rfl (OpS.indexAddr (sz := 1) rfl rfl rfl (by decide) (by decide) rfl (by decide)) rfl ?_)))))
   refine Ch.p1 rfl (OpS.loadS rfl rfl) rfl ?_
   refine Ch.cH (fT) [31,32,33,34,35,36,37,38,39,40] 50 gdN (.cons rfl .nil) (.c (.rfl _) .n) rfl (by refine ⟨?_, ?_, ?_, ?_⟩ <;> first | ((conv => lhs; simp only [nrmA, Nat.reduceAdd, renL_tbs, renL_tb1, renL_bks, renL_b1, renL_vs, renL_v1, ren_vt, pend_ren, ren_ss, renL_ns]); all_goals rfl) | rfl) (by exact ⟨rfl, rfl, rfl, rfl, rfl, rfl, rfl, rfl, rfl, rfl, trivial⟩) (by exact trivial) rfl ?_
   refine Ch.mv rfl rfl (Ch.p1 rfl (OpS.extract rfl) rfl (Ch.p1 rfl (OpS.extract rfl) rfl (Ch.a0 (OpS.alloc 50 rfl rfl rfl) rfl rfl (Ch.ws rfl rfl (OpS.storePA (cs := ntA nt0) (c := .agg (ntA (noteT 3 (V + 1)))) rfl rfl (nt_one _) (by exact Nat.le_refl 9)) rfl ?_))))
   refine Ch.asg rfl rfl (Ch.nil (WP.seq (WP.rsD (by kernel_rfl) hG (Ch.mv rfl rfl (Ch.p1 rfl (OpS.not) rfl (Ch.mv rfl rfl (Ch.g1 rfl rfl rfl (OpS.fieldAddr rfl rfl rfl rfl) rfl (Ch.pu (by exact gdT rfl rfl) (by exact ⟨rfl, trivial⟩) (OpS.loadP rfl rfl rfl) (by exact ⟨rfl, trivial⟩) rfl ?_))))))))
   refine Ch.gm rfl rfl rfl rfl (Ch.g2 rfl rfl rfl rfl (OpS.int (op := .add) (v' := .int .u64 (U64 (V + 1))) rfl (u64_succ V)) rfl (Ch.g2 rfl rfl rfl rfl (OpS.int (op := .neq) (v' := .bool false) rfl (by exact congrArg Value.bool (bne_self_eq_false _))) rfl ?_))
   refine Ch.p2 rfl rfl (OpS.pickF) rfl (Ch.mv rfl rfl (Ch.gm rfl rfl rfl rfl (Ch.gm rfl rfl rfl rfl (Ch.g2 rfl rfl rfl rfl (OpS.indexAddr (sz := 1) rfl rfl rfl (by decide) (by decide) rfl (by decide)) rfl ?_))))
   refine Ch.g1 rfl rfl rfl (OpS.loadS rfl rfl) rfl ?_
   refine Ch.cH (fW) [31,32,33,34,35,36,37,38,39,40] 51 (gdT rfl rfl) (.cons rfl .nil) (.c (.rfl _) .n) rfl (by refine ⟨?_, ?_, ?_, ?_⟩ <;> first | ((conv => lhs; simp only [nrmA, Nat.reduceAdd, renL_tbs, renL_tb1, renL_bks, renL_b1, renL_vs, renL_v1, ren_vt, pend_ren, ren_ss, renL_ns]); all_goals rfl) | rfl) (by exact ⟨rfl, rfl, rfl, rfl, rfl, rfl, rfl, rfl, rfl, rfl, trivial⟩) (by exact trivial) rfl ?_
   refine Ch.gm rfl rfl rfl rfl (Ch.g2 rfl rfl rfl rfl (OpS.int (op := .add) (v' := .int .u64 (U64 (V + 1))) rfl (u64_succ V)) rfl (Ch.g2 rfl rfl rfl rfl (OpS.int (op := .neq) (v' := .bool false) rfl (by exact congrArg Value.bool (bne_self_eq_false _))) rfl ?_))
   refine Ch.p2 rfl rfl (OpS.pickF) rfl (Ch.mv rfl rfl (Ch.g1 rfl rfl rfl (OpS.fieldAddr rfl rfl rfl rfl) rfl (Ch.pu (by exact gdT rfl rfl) (by exact ⟨rfl, trivial⟩) (OpS.loadP rfl rfl rfl) (by exact ⟨rfl, trivial⟩) rfl ?_)))
   refine Ch.g1 rfl rfl rfl (OpS.fieldAddr rfl rfl rfl rfl) rfl (Ch.pu (by exact gdT rfl rfl) (by exact ⟨rfl, trivial⟩) (OpS.loadP rfl rfl rfl) (by exact ⟨rfl, trivial⟩) rfl ?_)
   refine Ch.callP (fl) (gdT rfl rfl) (.cons rfl .nil) (.c (.rfl _) .n) (by rfl) rfl ?_
   refine Ch.g2 rfl rfl rfl rfl (OpS.int (op := .neq) (v' := .bool false) rfl (by exact congrArg Value.bool (bne_self_eq_false _))) rfl ?_
   refine Ch.p2 rfl rfl (OpS.pickF) rfl (Ch.mv rfl rfl (Ch.g1 rfl rfl rfl (OpS.fieldAddr rfl rfl rfl rfl) rfl (Ch.pu (by exact gdT rfl rfl) (by exact ⟨rfl, trivial⟩) (OpS.loadP rfl rfl rfl) (by exact ⟨rfl, trivial⟩) rfl ?_)))
   refine Ch.gm rfl rfl rfl rfl (Ch.g2 rfl rfl rfl rfl (OpS.int (op := .neq) (v' := .bool false) rfl (by exact congrArg Value.bool (bne_self_eq_false _))) rfl ?_)
   refine Ch.p2 rfl rfl (OpS.pickF) rfl (Ch.mv rfl rfl (Ch.g1 rfl rfl rfl (OpS.fieldAddr rfl rfl rfl rfl) rfl (Ch.pu (by exact gdT rfl rfl) (by exact ⟨rfl, trivial⟩) (OpS.loadP rfl rfl rfl) (by exact ⟨rfl, trivial⟩) rfl ?_)))
   refine Ch.callP (ff) (gdT rfl rfl) .nil .n (by rfl) rfl ?_
   refine Ch.g2 rfl rfl rfl rfl (OpS.strNeB (c := false) (by simp [noteT])) rfl ?_
   refine Ch.p2 rfl rfl (OpS.pickF) rfl (Ch.nilD ?_ (by kernel_rfl))
   refine WP.cond_false rfl (WP.skip (WP.rg hG (Ch.mv rfl rfl (Ch.q1 rfl (OpS.loadPA (off := 0) (sz := 9) (cs := ntA (noteT 3 (V + 1))) rfl rfl rfl rfl (by exact Nat.le_refl 9)) rfl rfl ?_))))
   refine Ch.pup gdN (by repeat (first | exact EvP.nil | (apply EvP.cons; exact rfl))) (OpS.buildSlice (n := 1) (sz := 9) (cs := ntA (noteT 3 (V + 1))) rfl rfl rfl rfl (by decide) (by decide) rfl rfl (by rfl) (by unfold maxLen; omega)) rfl ?_
   refine Ch.a2 rfl rfl (OpS.append (sz := 9) (bb := 120) 51 rfl rfl rfl rfl rfl (by decide) (SrcA.sl rfl (by exact rfl)) rfl rfl (by unfold maxLen; omega) rfl (by omega)) rfl rfl rfl ?_
   refine Ch.asg rfl rfl (Ch.nil (WP.rg hG (Ch.mv rfl rfl (Ch.p2 rfl rfl (OpS.int (op := .add) (v' := .int .i64 4) rfl rfl) rfl (Ch.asg rfl rfl (Ch.nil ?_))))))
   refine ⟨k2 - 1, _, by omega, (Ent.of [0, 1, 2, 3, 4, 5, 6, 7, 8, 9, 10, 11, 12, 13, 14, 15, 16, 17, 18, 19, 20, 21, 22, 23, 24, 25, 26, 27, 28, 29, 30, 31, 32, 33, 34, 35, 36, 37, 38, 39, 40, 51] ?_ ?_ ?_ ?_).se, .inr (.inr (.inr (.inr (⟨by omega, rfl⟩))))⟩
   · exact na_of hnA rfl
   · (repeat (first | exact trivial | (refine ⟨⟨(by trivial), _, rfl, .rfl _⟩, ?_⟩)))
   · (repeat (first | exact trivial | (refine ⟨⟨rfl, (by first | trivial | (simp; first | done | fail)), (by first | rfl | (simp [renL_tbs, renL_bks, renL_vs, pend_ren, ren_ss, renL_ns]; first | done | fail))⟩, ?_⟩)))
   exact nd_of rfl
  have hs := hq
  refine WP.rs hG (Ch.mv rfl rfl (Ch.p2 rfl rfl (OpS.int (op := .lss) (v' := .bool false) rfl rfl) rfl (Ch.nil (WP.cond_false rfl (WP.exit (WP.rg hG (Ch.mv rfl rfl (Ch.p2 rfl rfl (OpS.inc t (by omega) (by omega)) rfl ?_))))))))
  refine Ch.asg rfl rfl (Ch.nil ?_)
  refine ⟨k1 - 1, _, by omega, (Ent.of [0, 1, 2, 3, 4, 5, 6, 7, 8, 9, 10, 11, 12, 13, 14, 15, 16, 17, 18, 19, 20, 21, 22, 23, 24, 25, 26, 27, 28, 29, 30, 31, 32, 33, 34, 35, 36, 37, 38, 39, 40, 41] ?_ ?_ ?_ ?_).se, t + 1, V + 1, _, _, _, _, notesT (V + 1), ⟨by omega, by omega, u0.turn, u1.turn, u2.turn, u3.turn, fun _ => rfl⟩, rfl⟩
  · exact na_of hnA rfl
  · (repeat (first | exact trivial | (refine ⟨⟨(by trivial), _, rfl, .rfl _⟩, ?_⟩)))
  · (repeat (first | exact trivial | (refine ⟨⟨rfl, (by first | trivial | (simp; first | done | fail)), (by first | rfl | (simp [renL_tbs, renL_bks, renL_vs, pend_ren, ren_ss, renL_ns]; first | done | fail))⟩, ?_⟩)))
  exact nd_of rfl
 have hs := hq
 refine WP.rs hG (Ch.mv rfl rfl (Ch.mv rfl rfl (Ch.callP (fpk) gdN (.cons rfl (.cons rfl .nil)) (.c (.rfl _) (.c (.rfl _) .n)) (by rfl) rfl ?_)))
 refine Ch.p2 rfl rfl (OpS.int (op := .add) (v' := .int .i64 ((1 + q : Nat) : Int)) rfl (by rw [wr64 (by omega)]; exact congrArg (Value.int .i64) (by omega))) rfl ?_
 refine Ch.p2 rfl rfl (OpS.lssF (by omega)) rfl ?_
 refine Ch.nil (WP.cond_false rfl (WP.exit ?_))
 refine WP.seqJ (fun σ => ∃ (x : Rp) (L : Nat), (TI x L V ∧ leadT V = L) ∧ σ = ⟨184, ls [(10, sA pt), (11, .sl (some 10) 4 ((notesT V).flatMap ntA)), (17, .ptr 2 0)], lh (Xr9 x [(10, .tip 46 9 4)]), blt 11⟩) ?_ ?_
 ·
  skip
  obtain rfl := hz (by omega)
  have hl4 := leadT_lt V
  rcases (show leadT V = 0 ∨ leadT V = 1 ∨ leadT V = 2 ∨ leadT V = 3 by omega) with hq | hq | hq | hq
  ·
   have hs := hq
   refine WP.rg hG (Ch.mv rfl rfl (Ch.mv rfl rfl (Ch.p2 rfl rfl (OpS.indexAddr (sz := 9) rfl rfl rfl (Int.le_refl 0) (by show (0 : Int) < ((4 : Nat) : Int); omega) (flatA_len ntA 9 ntA_len (notesT V)) (by decide)) rfl ?_)))
   refine Ch.p1 rfl (OpS.fieldAddrS rfl rfl rfl rfl rfl) rfl (Ch.p1 rfl (OpS.loadS rfl rfl) rfl (Ch.p2 rfl rfl (OpS.indexAddrF (sz := 1) (m := (leadT V : Int)) (cs' := [.ptr 3 0]) rfl rfl rfl (by omega) (by omega) rfl (by decide) (by rw [hs]; rfl)) rfl ?_))
   refine Ch.p1 rfl (OpS.loadS rfl rfl) rfl (Ch.asg rfl rfl (Ch.nil ?_))
   refine ⟨_, (Ent.of [1, 2, 3, 4, 5, 6, 7, 8, 9, 10, 41] ?_ ?_ ?_ ?_).se, y0, 0, ⟨u0, hs⟩, rfl⟩
   · exact na_of hnA rfl
   · (repeat (first | exact trivial | (refine ⟨⟨(by trivial), _, rfl, .rfl _⟩, ?_⟩)))
   · (repeat (first | exact trivial | (refine ⟨⟨rfl, (by first | trivial | (simp; first | done | fail)), (by first | rfl | (simp [renL_tbs, renL_bks, renL_vs, pend_ren, ren_ss, renL_ns]; first | done | fail))⟩, ?_⟩)))
   exact nd_of rfl
  ·
   have hs := hq
   refine WP.rg hG (Ch.mv rfl rfl (Ch.mv rfl rfl (Ch.p2 rfl rfl (OpS.indexAddr (sz := 9) rfl rfl rfl (Int.le_refl 0) (by show (0 : Int) < ((4 : Nat) : Int); omega) (flatA_len ntA 9 ntA_len (notesT V)) (by decide)) rfl ?_)))
   refine Ch.p1 rfl (OpS.fieldAddrS rfl rfl rfl rfl rfl) rfl (Ch.p1 rfl (OpS.loadS rfl rfl) rfl (Ch.p2 rfl rfl (OpS.indexAddrF (sz := 1) (m := (leadT V : Int)) (cs' := [.ptr 13 0]) rfl rfl rfl (by omega) (by omega) rfl (by decide) (by rw [hs]; rfl)) rfl ?_))
   refine Ch.p1 rfl (OpS.loadS rfl rfl) rfl (Ch.asg rfl rfl (Ch.nil ?_))
   refine ⟨_, (Ent.of [11, 12, 13, 14, 15, 16, 17, 18, 19, 20, 41] ?_ ?_ ?_ ?_).se, y1, 1, ⟨u1, hs⟩, rfl⟩
   · exact na_of hnA rfl
   · (repeat (first | exact trivial | (refine ⟨⟨(by trivial), _, rfl, .rfl _⟩, ?_⟩)))
   · (repeat (first | exact trivial | (refine ⟨⟨rfl, (by first | trivial | (simp; first | done | fail)), (by first | rfl | (simp [renL_tbs, renL_bks, renL_vs, pend_ren, ren_ss, renL_ns]; first | done | fail))⟩, ?_⟩)))
   exact nd_of rfl
  ·
   have hs := hq
   refine WP.rg hG (Ch.mv rfl rfl (Ch.mv rfl rfl (Ch.p2 rfl rfl (OpS.indexAddr (sz := 9) rfl rfl rfl (Int.le_refl 0) (by show (0 : Int) < ((4 : Nat) : Int); omega) (flatA_len ntA 9 ntA_len (notesT V)) (by decide)) rfl ?_)))
   refine Ch.p1 rfl (OpS.fieldAddrS rfl rfl rfl rfl rfl) rfl (Ch.p1 rfl (OpS.loadS rfl rfl) rfl (Ch.p2 rfl rfl (OpS.indexAddrF (sz := 1) (m := (leadT V : Int)) (cs' := [.ptr 23 0]) rfl rfl rfl (by omega) (by omega) rfl (by decide) (by rw [hs]; rfl)) rfl ?_))
   refine Ch.p1 rfl (OpS.loadS rfl rfl) rfl (Ch.asg rfl rfl (Ch.nil ?_))
   refine ⟨_, (Ent.of [21, 22, 23, 24, 25, 26, 27, 28, 29, 30, 41] ?_ ?_ ?_ ?_).se, y2, 2, ⟨u2, hs⟩, rfl⟩
   · exact na_of hnA rfl
   · (repeat (first | exact trivial | (refine ⟨⟨(by trivial), _, rfl, .rfl _⟩, ?_⟩)))
   · (repeat (first | exact trivial | (refine ⟨⟨rfl, (by first | trivial | (simp; first | done | fail)), (by first | rfl | (simp [renL_tbs, renL_bks, renL_vs, pend_ren, ren_ss, renL_ns]; first | done | fail))⟩, ?_⟩)))
   exact nd_of rfl
  have hs := hq
  refine WP.rg hG (Ch.mv rfl rfl (Ch.mv rfl rfl (Ch.p2 rfl rfl (OpS.indexAddr (sz := 9) rfl rfl rfl (Int.le_refl 0) (by show (0 : Int) < ((4 : Nat) : Int); omega) (flatA_len ntA 9 ntA_len (notesT V)) (by decide)) rfl ?_)))
  refine Ch.p1 rfl (OpS.fieldAddrS rfl rfl rfl rfl rfl) rfl (Ch.p1 rfl (OpS.loadS rfl rfl) rfl (Ch.p2 rfl rfl (OpS.indexAddrF (sz := 1) (m := (leadT V : Int)) (cs' := [.ptr 33 0]) rfl rfl rfl (by omega) (by omega) rfl (by decide) (by rw [hs]; rfl)) rfl ?_))
  refine Ch.p1 rfl (OpS.loadS rfl rfl) rfl (Ch.asg rfl rfl (Ch.nil ?_))
  refine ⟨_, (Ent.of [31, 32, 33, 34, 35, 36, 37, 38, 39, 40, 41] ?_ ?_ ?_ ?_).se, y3, 3, ⟨u3, hs⟩, rfl⟩
  · exact na_of hnA rfl
  · (repeat (first | exact trivial | (refine ⟨⟨(by trivial), _, rfl, .rfl _⟩, ?_⟩)))
  · (repeat (first | exact trivial | (refine ⟨⟨rfl, (by first | trivial | (simp; first | done | fail)), (by first | rfl | (simp [renL_tbs, renL_bks, renL_vs, pend_ren, ren_ss, renL_ns]; first | done | fail))⟩, ?_⟩)))
  exact nd_of rfl
 rintro σ ⟨x, L, ⟨hx, hL⟩, rfl⟩
 have hV2 : 1 < V.toNat := by omega
 have hV3 : V.toNat ≤ 1000 := by omega
 refine WP.seq (WP.rs hG (Ch.asg rfl rfl (Ch.nil (WP.block ?_))))
 refine WP.loop (fun k σ => ∃ i : Nat, (i + k = 4 ∧ i ≤ 3) ∧ σ = ⟨184, ls [(10, sA pt), (11, .sl (some 10) 4 ((notesT V).flatMap ntA)), (17, .ptr 2 0), (18, .v (.int .i64 (i : Int)))], lh (Xr9 ({ x with tm := tmI V i } : Rp) [(10, .tip 46 9 4)]), blt 11⟩) (4) (Ent.of [0, 1, 2, 3, 4, 5, 6, 7, 8, 9, 10] ?_ ?_ ?_ ?_).se ⟨0, ⟨rfl, by decide⟩, rfl⟩ ?_
 · exact na_of hnA rfl
 · (repeat (first | exact trivial | (refine ⟨⟨(by trivial), _, rfl, .rfl _⟩, ?_⟩)))
 · (repeat (first | exact trivial | (refine ⟨⟨rfl, (by first | trivial | (simp; first | done | fail)), (by first | rfl | (simp [renL_tbs, renL_bks, renL_vs, pend_ren, ren_ss, renL_ns, hx.tm, tm_0]; first | done | fail))⟩, ?_⟩)))
 · exact nd_of rfl
 rintro k3 σ ⟨i, ⟨hik, hi3⟩, rfl⟩
 refine WP.seq ?_
 rcases (show i < 3 ∨ i = 3 by omega) with hq | hq
 ·
  have hs := hq
  refine WP.rs hG (Ch.mv rfl rfl (Ch.p2 rfl rfl (OpS.lssT (by omega)) rfl ?_))
  refine Ch.nil (WP.cond_true rfl (WP.skip (WP.seq (WP.block (WP.seq (WP.rs hG (Ch.mv rfl rfl (Ch.p2 rfl rfl (OpS.eqlF (by omega)) rfl ?_))))))))
  refine Ch.nil (WP.cond_false rfl (WP.skip ?_))
  have fN := prop_no (G := G) hx hV2 hL pt hptl i hs
  have f1 := turn_one (G := G) hx hV3 i hs
  have f2 := turn_two (G := G) hx hV3 i hs
  have hel : el (notesT V) i = noteT i V := by
   rcases (show i = 0 ∨ i = 1 ∨ i = 2 by omega) with rfl | rfl | rfl <;> rfl
  rw [← hel] at f1 f2
  refine WP.rs hG (Ch.mv rfl rfl (Ch.mv rfl rfl ?_))
  refine Ch.cH (fN) [0,1,2,3,4,5,6,7,8,9] 11 gdN (.cons rfl (.cons rfl .nil)) (.c (.rfl _) (.c (.rfl _) .n)) rfl (by refine ⟨?_, ?_, ?_, ?_⟩ <;> first | ((conv => lhs; simp only [nrmA, Nat.reduceAdd, renL_tbs, renL_tb1, renL_bks, renL_b1, renL_vs, renL_v1, ren_vt, pend_ren, ren_ss, renL_ns]); all_goals rfl) | rfl) (by exact ⟨rfl, rfl, rfl, rfl, rfl, rfl, rfl, rfl, rfl, rfl, trivial⟩) (by exact trivial) rfl ?_
  refine Ch.mv rfl rfl (Ch.p1 rfl (OpS.extract rfl) rfl (Ch.p1 rfl (OpS.extract rfl) rfl (Ch.a0 (OpS.alloc 11 rfl rfl rfl) rfl rfl (Ch.ws rfl rfl (OpS.storePA (cs := ntA nt0) (c := .agg (ntA nt0)) rfl rfl (nt_one nt0) (by exact Nat.le_refl 9)) rfl ?_))))
  refine Ch.asg rfl rfl (Ch.nil (WP.seq (WP.rs hG (Ch.mv rfl rfl (Ch.nil (WP.cond_false rfl (WP.skip (WP.rs hG (Ch.mv rfl rfl ?_)))))))))
  refine Ch.mv rfl rfl (Ch.mv rfl rfl (Ch.p2 rfl rfl (OpS.indexF (n := 4) (l := notesT V) (f := ntA) rfl rfl rfl ntA_len (by decide) (Int.toNat_natCast _) (by omega) (by omega) rfl) rfl ?_))
  refine Ch.p1 rfl (OpS.loadSA rfl rfl rfl) rfl ?_
  refine Ch.cH (f1) [0,1,2,3,4,5,6,7,8,9] 12 gdN (.cons rfl (.cons rfl .nil)) (.c (.rfl _) (.c (.of_eq (ren_nt _ _).symm) .n)) rfl (by refine ⟨?_, ?_, ?_, ?_⟩ <;> first | ((conv => lhs; simp only [nrmA, Nat.reduceAdd, renL_tbs, renL_tb1, renL_bks, renL_b1, renL_vs, renL_v1, ren_vt, pend_ren, ren_ss, renL_ns]); all_goals rfl) | rfl) (by exact ⟨rfl, rfl, rfl, rfl, rfl, rfl, rfl, rfl, rfl, rfl, trivial⟩) (by exact trivial) rfl ?_
  refine Ch.nil (WP.rg hG (Ch.mv rfl rfl (Ch.mv rfl rfl (Ch.mv rfl rfl (Ch.p2 rfl rfl (OpS.indexF (n := 4) (l := notesT V) (f := ntA) rfl rfl rfl ntA_len (by decide) (Int.toNat_natCast _) (by omega) (by omega) rfl) rfl ?_)))))
  refine Ch.p1 rfl (OpS.loadSA rfl rfl rfl) rfl ?_
  refine Ch.cH (f2) [0,1,2,3,4,5,6,7,8,9] 12 gdN (.cons rfl (.cons rfl .nil)) (.c (.rfl _) (.c (.of_eq (ren_nt _ _).symm) .n)) rfl (by refine ⟨?_, ?_, ?_, ?_⟩ <;> first | ((conv => lhs; simp only [nrmA, Nat.reduceAdd, renL_tbs, renL_tb1, renL_bks, renL_b1, renL_vs, renL_v1, ren_vt, pend_ren, ren_ss, renL_ns]); all_goals rfl) | rfl) (by exact ⟨rfl, rfl, rfl, rfl, rfl, rfl, rfl, rfl, rfl, rfl, trivial⟩) (by exact trivial) rfl ?_
  refine Ch.nil (WP.rg hG (Ch.mv rfl rfl (Ch.p2 rfl rfl (OpS.inc i (by omega) (by omega)) rfl ?_)))
  refine Ch.asg rfl rfl (Ch.nil ?_)
  refine ⟨k3 - 1, _, by omega, (Ent.of [0, 1, 2, 3, 4, 5, 6, 7, 8, 9, 10] ?_ ?_ ?_ ?_).se, i + 1, ⟨by omega, by omega⟩, rfl⟩
  · exact na_of hnA rfl
  · (repeat (first | exact trivial | (refine ⟨⟨(by trivial), _, rfl, .rfl _⟩, ?_⟩)))
  · (repeat (first | exact trivial | (refine ⟨⟨rfl, (by first | trivial | (simp; first | done | fail)), (by first | rfl | (simp [renL_tbs, renL_bks, renL_vs, pend_ren, ren_ss, renL_ns]; first | done | fail))⟩, ?_⟩)))
  exact nd_of rfl
 have hs := hq
 obtain rfl : i = 3 := hs
 refine WP.rs hG (Ch.mv rfl rfl (Ch.p2 rfl rfl (OpS.lssT (by omega)) rfl ?_))
 refine Ch.nil (WP.cond_true rfl (WP.skip (WP.seq (WP.block (WP.seq (WP.rs hG (Ch.mv rfl rfl (Ch.p2 rfl rfl (OpS.int (op := .eql) (v' := .bool true) rfl rfl) rfl (Ch.nil ?_)))))))))
 refine WP.cond_true rfl ?_
 obtain ⟨y, b, hbv, hbp, hbi, fY⟩ := prop_yes hm hx hV2 hL pt hptl
 have fI := rID_fc hm b.view b.pa pt (by rw [hbp, firstT_32]; omega)
 have hi' : decide (b.id = idT b.view b.pa pt) = true := by rw [hbi, hbv, hbp]; exact decide_eq_true rfl
 have hp' : decide (b.pa = firstT) = true := decide_eq_true hbp
 have hv' : Value.bool (U64 b.view == U64 (noteT 0 V).view) = .bool true := by rw [hbv]; exact congrArg Value.bool (beq_self_eq_true _)
 refine WP.rs hG (Ch.mv rfl rfl (Ch.mv rfl rfl ?_))
 refine Ch.cH (fY) [0,1,2,3,4,5,6,7,8,9] 11 gdN (.cons rfl (.cons rfl .nil)) (.c (.rfl _) (.c (.rfl _) .n)) rfl (by refine ⟨?_, ?_, ?_, ?_⟩ <;> first | ((conv => lhs; simp only [nrmA, Nat.reduceAdd, renL_tbs, renL_tb1, renL_bks, renL_b1, renL_vs, renL_v1, ren_vt, pend_ren, ren_ss, renL_ns]); all_goals rfl) | rfl) (by exact ⟨rfl, rfl, rfl, rfl, rfl, rfl, rfl, rfl, rfl, rfl, trivial⟩) (by exact trivial) rfl ?_
 refine Ch.mv rfl rfl (Ch.p1 rfl (OpS.extract rfl) rfl (Ch.p1 rfl (OpS.extract rfl) rfl (Ch.a0 (OpS.alloc 30 rfl rfl rfl) rfl rfl (Ch.ws rfl rfl (OpS.storePA (cs := ntA nt0) (c := .agg (ntA b)) rfl rfl (nt_one b) (by exact Nat.le_refl 9)) rfl ?_))))
 refine Ch.asg rfl rfl (Ch.nil (WP.rsD (by kernel_rfl) hG (Ch.mv rfl rfl (Ch.mv rfl rfl (Ch.g1 rfl rfl rfl (OpS.fieldAddr rfl rfl rfl rfl) rfl (Ch.pu (by exact gdT rfl rfl) (by exact ⟨rfl, trivial⟩) (OpS.loadP rfl rfl rfl) (by exact ⟨rfl, trivial⟩) rfl ?_))))))
 refine Ch.gm rfl rfl rfl rfl (Ch.g2 rfl rfl rfl rfl (OpS.indexAddr (sz := 9) rfl rfl rfl (Int.le_refl 0) (by show (0 : Int) < ((4 : Nat) : Int); omega) (flatA_len ntA 9 ntA_len (notesT V)) (by decide)) rfl ?_)
 refine Ch.g1 rfl rfl rfl (OpS.fieldAddrS rfl rfl rfl rfl rfl) rfl (Ch.g1 rfl rfl rfl (OpS.loadS rfl rfl) rfl (Ch.g2 rfl rfl rfl rfl (OpS.int (op := .eql) (v' := .bool true) rfl hv') rfl (Ch.p2 rfl rfl (OpS.pickT) rfl (Ch.mv rfl rfl (Ch.g1 rfl rfl rfl (OpS.fieldAddr rfl rfl rfl rfl) rfl (Ch.pu (by exact gdT rfl rfl) (by exact ⟨rfl, trivial⟩) (OpS.loadP rfl rfl rfl) (by exact ⟨rfl, trivial⟩) rfl ?_))))))
 refine Ch.callP (ff) (gdT rfl rfl) .nil .n (by rfl) rfl ?_
 refine Ch.g2 rfl rfl rfl rfl (OpS.strEqB (c := true) hp') rfl (Ch.p2 rfl rfl (OpS.pickT) rfl (Ch.mv rfl rfl (Ch.g1 rfl rfl rfl (OpS.fieldAddr rfl rfl rfl rfl) rfl (Ch.pu (by exact gdT rfl rfl) (by exact ⟨rfl, trivial⟩) (OpS.loadP rfl rfl rfl) (by exact ⟨rfl, trivial⟩) rfl ?_))))
 refine Ch.g1 rfl rfl rfl (OpS.fieldAddr rfl rfl rfl rfl) rfl (Ch.pu (by exact gdT rfl rfl) (by exact ⟨rfl, trivial⟩) (OpS.loadP rfl rfl rfl) (by exact ⟨rfl, trivial⟩) rfl ?_)
 refine Ch.g1 rfl rfl rfl (OpS.fieldAddr rfl rfl rfl rfl) rfl (Ch.pu (by exact gdT rfl rfl) (by exact ⟨rfl, trivial⟩) (OpS.loadP rfl rfl rfl) (by exact ⟨rfl, trivial⟩) rfl ?_)
 refine Ch.gm rfl rfl rfl rfl (Ch.callP (fI) (gdT rfl rfl) (.cons rfl (.cons rfl (.cons rfl .nil))) (.c (.rfl _) (.c (.rfl _) (.c (.rfl _) .n))) (by rfl) rfl ?_)
 refine Ch.g2 rfl rfl rfl rfl (OpS.strEqB (c := true) hi') rfl (Ch.p2 rfl rfl (OpS.pickT) rfl (Ch.asg rfl rfl (Ch.nilD ?_ (by kernel_rfl))))
 exact WP.ret (Ret.one rfl (.of_eq rfl) trivial hnA)
end
end Go.Proofs.YtpnbpcopdckgpaaGreatDoor.E
namespace Go.Proofs.YtpnbpcopdckgpaaGreatDoor.V
open Go Go.RowKit
theorem laid_var {P : Program} {W : World} {name : String} {k : IntKind} {zs : List Int} {g : Nat} {t e : TypeId} {n : Nat}
  (hg : P.globalNamed name = some g) (hty : (P.globals[g]?).map (·.type) = some t) (ht : P.underlying t = some (.array n e)) (he : P.underlying e = some (.int k)) (hce : P.cellsOf e = 1) (hct : P.cellsOf t = n) :
  ∀ (laid : List (String × DataW Unit)) (ps : List MemPlace), DataW.LaidVars P W laid ps → (name, Lib.tabData k zs) ∈ laid →
   W.var? P name = some (zs.map fun z => Value.int k z).toArray ∧ ∀ i, i < zs.length → MemPlace.cell g i ∈ ps := by
 intro laid
 induction laid with
 | nil => intro ps _ h; cases h
 | cons x r ih =>
  intro ps hl hm
  obtain ⟨g', t', cs, fuel, p, q, hg', ht', hvar, hd, hr, rfl⟩ := hl
  rcases List.mem_cons.1 hm with rfl | hm
  ·
   obtain rfl := Option.some.inj (hg.symm.trans hg')
   obtain rfl := Option.some.inj (hty.symm.trans ht')
   have hcs := Lib.cells_of_tab ht he hce hct hd
   refine ⟨by rw [hvar, ← hcs], fun i hi => ?_⟩
   have hsz : cs.size = zs.length := by rw [← Array.length_toList, hcs, List.length_map]
   refine List.mem_append_left _ (List.mem_append_left _ ?_)
   simpa [MemPlace.row, hsz] using hi
  obtain ⟨h1, h2⟩ := ih q hr hm
  exact ⟨h1, fun i hi => List.mem_append_right _ (h2 i hi)⟩
theorem laid_tab {P : Program} {W : World} {laid : List (String × DataW Unit)} (h : laidMetH P laid W) {name : String} {k : IntKind} {zs : List Int} {g : Nat} {t e : TypeId} {n : Nat}
  (hm : (name, Lib.tabData k zs) ∈ laid) (h0 : 0 < zs.length)
  (hg : P.globalNamed name = some g) (hty : (P.globals[g]?).map (·.type) = some t) (ht : P.underlying t = some (.array n e)) (he : P.underlying e = some (.int k)) (hce : P.cellsOf e = 1) (hct : P.cellsOf t = n) :
  ∃ T, W.heap[g]? = some (.cells (zs.map fun z => Value.int k z).toArray T (0, 0)) := by
 obtain ⟨⟨ps, hv, _, hr⟩, _⟩ := laidMetH_iff.1 h
 obtain ⟨h1, h2⟩ := laid_var hg hty ht he hce hct _ ps hv (List.mem_filter.2 ⟨hm, rfl⟩)
 obtain ⟨⟨c, T, hc⟩, _⟩ := hr g 0 (h2 0 h0)
 refine ⟨T, ?_⟩
 rw [hc]
 have : W.var? P name = some c := by simp [World.var?, hg, hc]
 rw [h1] at this
 injection this with this
 rw [this]
def bulkL (ps : List (List UInt8)) : Nat := (ps.map (·.length + 1)).sum
end Go.Proofs.YtpnbpcopdckgpaaGreatDoor.V
namespace Go.Proofs.YtpnbpcopdckgpaaGreatDoor.V
open Go Go.RowKit Go.WideShapes Go.ChangeShapes Go.ChangeAt
theorem own : ownKnob Tryz.prog.godebug = none := by kernel_rfl
theorem laidOut : laidOutB Tryz.prog = true := by kernel_rfl
theorem k_data : (Rows.laid_voussoir_sha_k : DataW Unit) = Lib.tabData .u32 (kTab.map U32) := by kernel_rfl
theorem first_data : (Rows.laid_voussoir_sha_first : DataW Unit) = Lib.tabData .u32 (first.words.map U32) := by kernel_rfl
theorem k_global : Tryz.prog.globalNamed "voussoir/sha.k" = some 1 := by kernel_rfl
theorem first_global : Tryz.prog.globalNamed "voussoir/sha.first" = some 0 := by kernel_rfl
def kCells : Array Value := (kTab.map wv).toArray
def layK : Obj → Obj
 | .cells _ t frozen => .cells kCells t frozen
 | o => o
def layFirst : Obj → Obj
 | .cells _ t frozen => .cells first.cells t frozen
 | o => o
noncomputable def laidWorld (os : Os) : World :=
 { World.holding Tryz.prog os ⟨#[], #[], []⟩ with heap := ((World.holding Tryz.prog os ⟨#[], #[], []⟩).heap.modify 1 layK).modify 0 layFirst }
section
variable {H : Type} {enc : TypeId × Value → H} {P : Program}
theorem post_of_below {f : Func} {s : ChangeSpec} {apart fresh handsOn again : Bool} {W W' : World} {args : Array Value} {v : Value} {ds gs : List (DataW H)} {before pa pv : List MemPlace}
  (hW : DataW.Whole enc P f.params.toList s.vars apart W args.toList ds gs before)
  (hres : ∀ (b : Nat) (sp : Nat → Bool) (hd : Bool), DataW.TrodAll enc P W' b sp hd f.resultTypes.toList (v.resultList f.resultTypes.size) (s.fn H (ds ++ gs)).results [])
  (hargs : ∀ sp : Nat → Bool, (∀ p ∈ before, sp p.block = true) → DataW.TrodAll enc P W' 0 sp true f.params.toList args.toList (s.fn H (ds ++ gs)).args pa)
  (hvars : ∀ sp : Nat → Bool, (∀ p ∈ before, sp p.block = true) → DataW.TrodVars enc P W' sp s.vars (s.fn H (ds ++ gs)).vars pv)
  (hps : before = pa ++ pv) (hb : Below W.heap.size W W')
  (hok : ∀ (j : Nat) (t : TypeId) (r : Value), f.resultTypes[j]? = some t → (v.resultList f.resultTypes.size)[j]? = some r → Value.okWide P W' .any 0 t r) :
  s.post enc P f apart fresh handsOn again W args v W' := by
 have hlt : ∀ p ∈ before, p.block < W.heap.size := fun p hp => hW.lt p hp
 have hold : ∀ p ∈ before, (fun b => decide (b < W.heap.size)) p.block = true := fun p hp => by simpa using hlt p hp
 refine ⟨ds, gs, before, [], pa, pv, hW, hres _ _ _, hargs _ hold, hvars _ hold, World.keptBut_mono (fun p hp => ⟨hp, ?_⟩) (hb.frame (· ∈ before)), fun _ => ?_⟩
 ·
  rw [hps, List.mem_append] at hp
  exact Or.inr hp
 obtain ⟨_, _, _, _, _, hz, hn⟩ := hW
 refine ⟨hok, _, _, ([] ++ pa) ++ pv, ⟨[] ++ pa, pv, trodAll_append (hargs _ (fun _ _ => rfl)) (hres _ _ _), hvars _ (fun _ _ => rfl), rfl, ?_, ?_⟩, ?_⟩
 ·
  intro b off hp
  have hin : MemPlace.cell b off ∈ before := by rw [hps]; simpa using hp
  rw [hb.frozen (hlt _ hin)]
  exact hz b off hin
 ·
  intro ha
  have := hn ha
  rw [hps] at this
  simpa using this
 intro p hp _
 rw [hps]
 simpa using hp
end
theorem stays {H : Type} {enc : TypeId × Value → H} {W W' : World} {t : TypeId} {v : Value} {d : DataW H} {ps : List MemPlace} (hr : Tryz.prog.readableRec t = true) (hrow : t < Tryz.prog.types.size)
  (h : DataW.Trod enc Tryz.prog W 0 (fun _ => true) true t v d ps) (hb : Below W.heap.size W W') (hlt : ∀ x ∈ ps, x.block < W.heap.size) (sp : Nat → Bool) (hsp : ∀ x ∈ ps, sp x.block = true) :
  DataW.Trod enc Tryz.prog W' 0 sp true t v d ps := WideElems.Trod_stays laidOut hr hrow h (fun x hx => hb.same (hlt x hx)) hsp
end Go.Proofs.YtpnbpcopdckgpaaGreatDoor.V
namespace Go.Proofs.YtpnbpcopdckgpaaGreatDoor.E
open Go Go.RowKit Go.WideShapes Go.ChangeShapes Go.ChangeAt V
def tabB : List (Nat × Array Value) := [(3, kArr), (1, kArr), (0, first.cells)]
def tabR : List (Nat × Array Value) := (2, first.cells) :: tabB
def RB (w : World) : Prop := ∀ x ∈ tabB, ∃ T, w.heap[x.1]? = some (.cells x.2 T (0, 0))
def RT (w : World) : Prop := ∀ x ∈ tabR, ∃ T, w.heap[x.1]? = some (.cells x.2 T (0, 0))
theorem shaInR : ShaIn tabR := ⟨by simp [tabR, tabB], by simp [tabR, tabB]⟩
theorem kInR : (3, kArr) ∈ tabR := by simp [tabR, tabB]
theorem fInR : (2, first.cells) ∈ tabR := by simp [tabR]
theorem rk_data : (Rows.laid_voussoir_voussoirref01_k : DataW Unit) = Lib.tabData .u32 (kTab.map U32) := by kernel_rfl
theorem rfirst_data : (Rows.laid_voussoir_voussoirref01_first : DataW Unit) = Lib.tabData .u32 (first.words.map U32) := by kernel_rfl
theorem rk_global : Tryz.prog.globalNamed "voussoir/voussoirref01.k" = some 3 := by kernel_rfl
theorem rfirst_global : Tryz.prog.globalNamed "voussoir/voussoirref01.first" = some 2 := by kernel_rfl
theorem kmap : ((kTab.map U32).map fun z => Value.int .u32 z).toArray = kArr := by rw [List.map_map]; rfl
theorem tabB_of {W : World} {laid : List (String × DataW Unit)} (h : laidMetH Tryz.prog laid W) (h1 : ("voussoir/sha.k", Rows.laid_voussoir_sha_k) ∈ laid) (h2 : ("voussoir/sha.first", Rows.laid_voussoir_sha_first) ∈ laid)
  (h3 : ("voussoir/voussoirref01.k", Rows.laid_voussoir_voussoirref01_k) ∈ laid) : RB W := by
 rw [k_data] at h1
 rw [first_data] at h2
 rw [rk_data] at h3
 obtain ⟨T1, hk⟩ := laid_tab h h1 (by decide) k_global (t := 169) (by kernel_rfl) Tryz.underlying169 Tryz.underlying120 (by kernel_rfl) (by kernel_rfl)
 obtain ⟨T2, hf⟩ := laid_tab h h2 (by decide) first_global (t := 122) (by kernel_rfl) Tryz.underlying122 Tryz.underlying120 (by kernel_rfl) (by kernel_rfl)
 obtain ⟨T3, hk'⟩ := laid_tab h h3 (by decide) rk_global (t := 169) (by kernel_rfl) Tryz.underlying169 Tryz.underlying120 (by kernel_rfl) (by kernel_rfl)
 rw [kmap] at hk hk'
 intro x hx
 simp only [tabB, List.mem_cons, List.not_mem_nil, or_false] at hx
 rcases hx with rfl | rfl | rfl
 · exact ⟨T3, hk'⟩
 · exact ⟨T1, hk⟩
 exact ⟨T2, hf⟩
theorem tabR_of {W : World} {laid : List (String × DataW Unit)} (h : laidMetH Tryz.prog laid W) (h1 : ("voussoir/sha.k", Rows.laid_voussoir_sha_k) ∈ laid) (h2 : ("voussoir/sha.first", Rows.laid_voussoir_sha_first) ∈ laid)
  (h3 : ("voussoir/voussoirref01.k", Rows.laid_voussoir_voussoirref01_k) ∈ laid) (h4 : ("voussoir/voussoirref01.first", Rows.laid_voussoir_voussoirref01_first) ∈ laid) : RT W := by
 rw [rfirst_data] at h4
 obtain ⟨T4, hf'⟩ := laid_tab h h4 (by decide) rfirst_global (t := 121) (by kernel_rfl) Tryz.underlying121 Tryz.underlying120 (by kernel_rfl) (by kernel_rfl)
 intro x hx
 rcases List.mem_cons.1 hx with rfl | hx
 · exact ⟨T4, hf'⟩
 exact tabB_of h h1 h2 h3 x hx
noncomputable def laidWorldR (os : Os) : World :=
 { laidWorld os with heap := ((laidWorld os).heap.modify 3 layK).modify 2 layFirst }
def tabS : List (Nat × Array Value) := [(1, kArr), (0, first.cells)]
def SB (w : World) : Prop := ∀ x ∈ tabS, ∃ T, w.heap[x.1]? = some (.cells x.2 T (0, 0))
inductive Args (w : World) : List AV → List Value → Prop
 | nil : Args w [] []
 | cons {c : AV} {x : Value} {cs : List AV} {xs : List Value} (h : VRel (allN w) noE w c x) (r : Args w cs xs) : Args w (c :: cs) (x :: xs)
theorem Args.get {w : World} : ∀ {cs : List AV} {xs : List Value}, Args w cs xs → cs.length = xs.length ∧ ∀ (i : Nat) (c : AV) (x : Value), cs[i]? = some c → xs[i]? = some x → VRel (allN w) noE w c x
 | _, _, .nil => ⟨rfl, fun i c x hc => by simp at hc⟩
 | _, _, .cons h r => by
  obtain ⟨k1, k2⟩ := r.get
  refine ⟨by simp [k1], fun i c x hc hx => ?_⟩
  cases i with
  | zero => cases hc; cases hx; exact h
  | succ i => exact k2 i c x hc hx
theorem FC.callsA {P : Program} {G : List (Nat × Array Value)} {f : FuncId} {args : List AV} {r : Value} (F : FC P G f args [] (.v r) []) {w : World} (hT : ∀ x ∈ G, ∃ T, w.heap[x.1]? = some (.cells x.2 T (0, 0))) {xs : List Value} (h : Args w args xs) :
  Calls P f xs.toArray w fun e w' => e = .returned r ∧ Fr [] w w' :=
 F.calls w hT xs.toArray (by simp [h.get.1]) fun i c x hc hx => h.get.2 i c x hc (by simpa using hx)
theorem Strs.len {w : World} {v : Value} {ps : List (List UInt8)} (h : Strs w v ps) : (ps.length : Int) ≤ 9223372036854775807 := by
 obtain ⟨a, cap, _, h1, h2, _⟩ := h
 unfold maxLen at h2
 omega
end Go.Proofs.YtpnbpcopdckgpaaGreatDoor.E
