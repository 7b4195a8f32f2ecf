import Derived.Test.YtpnbpcopdckgpaaGreatDoorZ47c3d55d
import Derived.Test.YtpnbpcopdckgpaaGreatDoorZ0076ad95
namespace Go.Proofs.YtpnbpcopdckgpaaGreatDoor.E
open Go Go.RowKit V
set_option maxRecDepth 4000
attribute [local irreducible] fit
def leavesL (ps : List Txt) (n : Nat) : List Txt := (List.range n).map fun i => fit 32 (tget ps i)
end Go.Proofs.YtpnbpcopdckgpaaGreatDoor.E
namespace Go.Proofs.YtpnbpcopdckgpaaGreatDoor.E
open Go Go.RowKit V
set_option maxRecDepth 4000
def dsum (L : List Txt) (m : Nat) : List Txt := (L.take m).map sum
def Clear (L : List Txt) (m : Nat) : Prop := ∀ i k, i < m → k < i → ¬ (sum (el L i) = sum (el L k) ∧ el L i ≠ el L k)
def Clear2 (L : List Txt) (m j : Nat) : Prop := ∀ k, k < j → ¬ (sum (el L m) = sum (el L k) ∧ el L m ≠ el L k)
theorem Clear2.ne {L : List Txt} {m j : Nat} (h : Clear2 L m j) (he : ¬ sum (el L m) = sum (el L j)) : Clear2 L m (j + 1) := fun k hk => by
 by_cases e : k = j
 · subst e; exact fun h => he h.1
 exact h k (by omega)
theorem Clear.next {L : List Txt} {m : Nat} (h : Clear L m) (h2 : Clear2 L m m) : Clear L (m + 1) := fun i k hi hk => by
 by_cases e : i = m
 · subst e; exact h2 k hk
 exact h i k (by omega) hk
attribute [local irreducible] sum tag input node dsum
def L4 : List Txt := [[97], [98], [99], [100]]
end Go.Proofs.YtpnbpcopdckgpaaGreatDoor.E
namespace Go.Proofs.YtpnbpcopdckgpaaGreatDoor.E
open Go Go.RowKit V
set_option maxRecDepth 4000
set_option maxRecDepth 4000
def Ids32 (x : Rp) : Prop := ∀ id ∈ idsT x.bs, id.length = 32
abbrev rpE (x : Rp) : List (Nat × AO) := [(0, .cells 105 (dkC x.d)), (1, .cells 129 (jC x.s x.c x.lost)), (2, .cells 94 (rpC x 5 9)),
 (3, .cells 140 [.sl (some 4) x.tr.length (x.tr.flatMap tbA)]), (4, .tip 137 2 x.tr.length), (5, .tip 97 3 x.bs.length),
 (6, .cells 142 (kyC x)), (7, .tip 9 1 (leavesT x.seed 5).length), (8, .map x.tm), (9, .tip 9 1 x.sg.length)]
attribute [local irreducible] sum tag input beS rdNum rdText leavesT f64 tb sigT firstT leadT mayT lkT recT idT learnR voteR dieR
section
variable {G : List (Nat × Array Value)}
theorem rKnown_fc (x : Rp) (n : Nt) (hl : x.bs.length ≤ 1000) (b : Int) (hb : (0 ≤ n.fr ∧ n.fr < 4 ∧ findT (idsT x.bs) n.id = b) ∨ (n.fr < 0 ∧ b = -1) ∨ (0 ≤ n.fr ∧ 4 ≤ n.fr ∧ b = -1)) : FP G 99 [.ptr 2 0, .agg (ntA n)] (rpH x) (.v (.int .i64 b)) (rpH x) := by
 have hf := find_fc (G := G) x n.id hl
 refine FC.of_wp [4] Tryz.func99 rfl rfl rfl rfl ⟨rfl, nt_bel _ n, trivial⟩ (rp_bel _ blt10 x) (Nat.le_of_ble_eq_true rfl) ?_
 intro A hG hnA hAB
 unfold start
 refine WP.rs hG (Ch.p1 rfl (OpS.boxS) rfl (Ch.asg rfl rfl (Ch.nil (WP.seq ?_))))
 rcases hb with hq | ⟨hq, rfl⟩ | ⟨hq, hq2, rfl⟩
 ·
  have hs := hq
  refine WP.rs hG (Ch.p1 rfl (OpS.fieldAddrS rfl rfl rfl rfl rfl) rfl (Ch.p1 rfl (OpS.loadS rfl rfl) rfl (Ch.p2 rfl rfl (OpS.lssF (by omega)) rfl ?_)))
  refine Ch.mv rfl rfl (Ch.g1 rfl rfl rfl (OpS.fieldAddrS rfl rfl rfl rfl rfl) rfl (Ch.g1 rfl rfl rfl (OpS.loadS rfl rfl) rfl (Ch.g2 rfl rfl rfl rfl (OpS.geqF (by omega)) rfl ?_)))
  refine Ch.p2 rfl rfl (OpS.pickF) rfl (Ch.nil (WP.cond_false rfl (WP.skip (WP.rsD (by kernel_rfl) hG (Ch.mv rfl rfl (Ch.p1 rfl (OpS.nilCheckP) rfl (Ch.p1 rfl (OpS.fieldAddr rfl rfl rfl rfl) rfl (Ch.p1 rfl (OpS.fieldAddrS rfl rfl rfl rfl rfl) rfl (Ch.p1 rfl (OpS.loadS rfl rfl) rfl ?_)))))))))
  refine Ch.cH (hf) [0,1,2,3,4,5,6,7,8,9] 10 gdN (.cons rfl (.cons rfl .nil)) (.c (.rfl _) (.c (.rfl _) .n)) rfl (by refine ⟨?_, ?_, ?_, ?_⟩ <;> first | ((conv => lhs; simp only [nrmA, Nat.reduceAdd, renL_tbs, renL_tb1, renL_bks, renL_b1, renL_vs, renL_v1, ren_vt, pend_ren, ren_ss]); all_goals rfl) | rfl) (by exact ⟨rfl, rfl, rfl, rfl, rfl, rfl, rfl, rfl, rfl, rfl, trivial⟩) (by exact trivial) rfl ?_
  refine Ch.asg rfl rfl (Ch.nilD ?_ (by kernel_rfl))
  refine WP.ret ?_
  refine (Ret.of (rs := [4]) (vs := [.v (.int .i64 b)]) (H' := rpH x) (res := .v (.int .i64 b)) [0, 1, 2, 3, 4, 5, 6, 7, 8, 9] ?_ ?_ rfl ?_ (by simp only [List.length_cons, List.length_nil]; decide) ?_).1
  · exact na_of hnA rfl
  · (repeat (first | exact trivial | (refine ⟨⟨(by trivial), _, rfl, (by exact .of_eq (by simp [renL_tbs, renL_bks, renL_vs, pend_ren, hs]; first | done | fail))⟩, ?_⟩)))
  · (repeat (first | exact trivial | refine HFromL.skip ?_ | (refine ⟨⟨(by first | trivial | (simp; first | done | fail)), (by first | rfl | (simp [renL_tbs, renL_bks, renL_vs, pend_ren, hs]; first | done | fail))⟩, ?_⟩)))
  rfl
 ·
  have hs := hq
  refine WP.rs hG (Ch.p1 rfl (OpS.fieldAddrS rfl rfl rfl rfl rfl) rfl (Ch.p1 rfl (OpS.loadS rfl rfl) rfl (Ch.p2 rfl rfl (OpS.lssT (by omega)) rfl ?_)))
  refine Ch.mv rfl rfl (Ch.skU (gdF rfl rfl rfl) rfl (Ch.skU (gdF rfl rfl rfl) rfl (Ch.skU (gdF rfl rfl rfl) rfl (Ch.p2 rfl rfl (OpS.pickT) rfl (Ch.nil (WP.cond_true rfl (WP.rs hG (Ch.asg rfl rfl (Ch.nil ?_)))))))))
  refine WP.ret ?_
  refine (Ret.of (rs := [4]) (vs := [.v (.int .i64 (-1))]) (H' := rpH x) (res := .v (.int .i64 (-1))) [0, 1, 2, 3, 4, 5, 6, 7, 8, 9] ?_ ?_ rfl ?_ (by simp only [List.length_cons, List.length_nil]; decide) ?_).1
  · exact na_of hnA rfl
  · (repeat (first | exact trivial | (refine ⟨⟨(by trivial), _, rfl, .rfl _⟩, ?_⟩)))
  · (repeat (first | exact trivial | refine HFromL.skip ?_ | (refine ⟨⟨(by first | trivial | (simp; first | done | fail)), (by first | rfl | (simp [renL_tbs, renL_bks, renL_vs, pend_ren]; first | done | fail))⟩, ?_⟩)))
  rfl
 have hs := hq
 refine WP.rs hG (Ch.p1 rfl (OpS.fieldAddrS rfl rfl rfl rfl rfl) rfl (Ch.p1 rfl (OpS.loadS rfl rfl) rfl (Ch.p2 rfl rfl (OpS.lssF (by omega)) rfl ?_)))
 refine Ch.mv rfl rfl (Ch.g1 rfl rfl rfl (OpS.fieldAddrS rfl rfl rfl rfl rfl) rfl (Ch.g1 rfl rfl rfl (OpS.loadS rfl rfl) rfl (Ch.g2 rfl rfl rfl rfl (OpS.geqT (by omega)) rfl ?_)))
 refine Ch.p2 rfl rfl (OpS.pickF) rfl (Ch.nil (WP.cond_true rfl (WP.rs hG (Ch.asg rfl rfl (Ch.nil (WP.ret ?_))))))
 refine (Ret.of (rs := [4]) (vs := [.v (.int .i64 (-1))]) (H' := rpH x) (res := .v (.int .i64 (-1))) [0, 1, 2, 3, 4, 5, 6, 7, 8, 9] ?_ ?_ rfl ?_ (by simp only [List.length_cons, List.length_nil]; decide) ?_).1
 · exact na_of hnA rfl
 · (repeat (first | exact trivial | (refine ⟨⟨(by trivial), _, rfl, .rfl _⟩, ?_⟩)))
 · (repeat (first | exact trivial | refine HFromL.skip ?_ | (refine ⟨⟨(by first | trivial | (simp; first | done | fail)), (by first | rfl | (simp [renL_tbs, renL_bks, renL_vs, pend_ren]; first | done | fail))⟩, ?_⟩)))
 rfl
end
end Go.Proofs.YtpnbpcopdckgpaaGreatDoor.E
namespace Go.Proofs.YtpnbpcopdckgpaaGreatDoor.E
open Go Go.RowKit V
set_option maxRecDepth 4000
set_option maxRecDepth 4000
attribute [local irreducible] sum tag input beS rdNum rdText leavesT f64 tb sigT firstT leadT mayT lkT recT idT learnR voteR dieR
section
variable {G : List (Nat × Array Value)}
end
end Go.Proofs.YtpnbpcopdckgpaaGreatDoor.E
namespace Go.Proofs.YtpnbpcopdckgpaaGreatDoor.E
open Go Go.RowKit V
set_option maxRecDepth 4000
set_option maxRecDepth 4000
set_option maxHeartbeats 4000000
attribute [local irreducible] sum tag input beS rdNum rdText leavesT f64 tb sigT firstT leadT mayT lkT recT idT learnR voteR dieR keysP keyT ballotT voteN
section
variable {G : List (Nat × Array Value)}
theorem lpick_fc (c : Int) (n : Nat) (h1 : -9223372036854775808 ≤ c) (h2 : c ≤ 9223372036854775807) (h0 : 0 < n) (hn : (n : Int) ≤ 9223372036854775807) :
  FP G 26 [.v (.int .i64 c), .v (.int .i64 (n : Int))] [] (.v (.int .i64 ((pickW c n : Nat) : Int))) [] := by
 have hpk := pickW_eq c n h0
 refine FC.of_wp [4] Tryz.func26 rfl rfl rfl rfl (by trivial) (by trivial) (Nat.le_of_ble_eq_true rfl) ?_
 intro A hG hnA hAB
 unfold start
 refine WP.rs hG (Ch.asg rfl rfl (Ch.nil (WP.seq (WP.rs hG (Ch.mv rfl rfl (Ch.p2 rfl rfl (OpS.int rfl (by exact rfl)) rfl ?_))))))
 refine Ch.nil ?_
 refine WP.cond rfl ?_ ?_
 ·
  intro ht
  have ht' := of_decide_eq_true ht
  refine WP.rg hG (Ch.mv rfl rfl (Ch.p2 rfl rfl (OpS.int rfl (by exact wr64 (by omega))) rfl ?_))
  refine Ch.p1 rfl (OpS.negI rfl (by omega)) rfl ?_
  refine Ch.asg rfl rfl (Ch.nil (WP.rs hG (Ch.mv rfl rfl (Ch.mv rfl rfl (Ch.p2 rfl rfl (OpS.rem (by omega) (by omega)) rfl ?_)))))
  refine Ch.asg rfl rfl (Ch.nil ?_)
  exact WP.ret (Ret.one rfl (.of_eq (by rw [hpk, if_pos ht']; rfl)) trivial hnA)
 intro ht
 have ht' := of_decide_eq_false ht
 refine WP.skip (WP.rs hG (Ch.mv rfl rfl (Ch.mv rfl rfl (Ch.p2 rfl rfl (OpS.rem (by omega) (by omega)) rfl ?_))))
 refine Ch.asg rfl rfl (Ch.nil ?_)
 exact WP.ret (Ret.one rfl (.of_eq (by rw [hpk, if_neg ht']; rfl)) trivial hnA)
end
end Go.Proofs.YtpnbpcopdckgpaaGreatDoor.E
namespace Go.Proofs.YtpnbpcopdckgpaaGreatDoor.E
open Go Go.RowKit V
set_option maxRecDepth 4000
set_option maxRecDepth 4000
theorem OpS.shlU {P : Program} {G : List (Nat × Array Value)} {dst : Option Tmp} {ty : TypeId} {pos : String} {aft : Array Edge} {gd : Option (Nat × Bool)} {t t' : TypeId} {x y : Operand} {k' : IntKind} {j : Nat} {f : Int} {u : UInt64} (hf : f = (j : Int)) (h : j ≤ 40) (hu : ((2 ^ j : Nat) : Int) = U64 u) :
  OpS P G ⟨dst, .binOp .shl t x y t', ty, pos, aft, gd⟩ [(x, .v (.int .u64 1)), (y, .v (.int k' f))] [] ⟨some (.v (.int .u64 (U64 u))), [], []⟩ := by
 rw [← hu, hf]
 exact OpS.shl1u h
def noteT (i : Nat) (V : UInt64) : Nt := ⟨3, (i : Int), (leadT V : Int), V, firstT, [], [], [], none⟩
def mI : Nat → UInt64
 | 0 => 0
 | 1 => 1
 | 2 => 3
 | _ => 7
def tmI (V : UInt64) : Nat → List (Value × Value)
 | 0 => []
 | i + 1 => [(.int .u64 (U64 V), .int .u64 (U64 (mI (i + 1))))]
def fnI (V : UInt64) : Nat → Option (Nat × Value)
 | 0 => none
 | i + 1 => some (0, .int .u64 (U64 (mI (i + 1))))
theorem fnd_self (V : UInt64) (v : Value) : fnd (.int .u64) (.int .u64 (U64 V)) [(.int .u64 (U64 V), v)] 0 = some (some (0, v)) := by
 have h : Instr.sameNow (.int .u64) (.int .u64 (U64 V)) (.int .u64 (U64 V)) = some true := by
  show some (U64 V == U64 V) = some true
  rw [beq_self_eq_true]
 unfold fnd
 rw [h]
theorem fnd_I (V : UInt64) (i : Nat) : fnd (.int .u64) (.int .u64 (U64 V)) (tmI V i) 0 = some (fnI V i) := by
 cases i with
 | zero => rfl
 | succ i => exact fnd_self V _
theorem val_I (V : UInt64) (i : Nat) : (match fnI V i with | some p => p.2 | none => Value.int .u64 0) = .int .u64 (U64 (mI i)) := by cases i <;> rfl
theorem put_I (V : UInt64) (i j : Nat) : mput (tmI V i) (.int .u64 (U64 V)) (.int .u64 (U64 (mI (j + 1)))) (fnI V i) = tmI V (j + 1) := by cases i <;> rfl
structure TI (x : Rp) (i : Nat) (V : UInt64) : Prop where
 b0 : (el x.bs 0).1 = firstT
 bp : 0 < x.bs.length
 bl : x.bs.length ≤ 1000
 tp : 0 < x.tr.length
 tl : x.tr.length ≤ 256
 v0 : vwT x.tr 0 = 0
 me : x.me = i
 view : x.view = V
 prop : x.prop = 0
 tm : x.tm = []
 dead : x.dead = false
theorem TI.turn {x : Rp} {i : Nat} {V : UInt64} (h : TI x i V) : TI { x with view := x.view + 1 } i (V + 1) := ⟨h.b0, h.bp, h.bl, h.tp, h.tl, h.v0, h.me, by show x.view + 1 = V + 1; rw [h.view], h.prop, h.tm, h.dead⟩
theorem TI.find {x : Rp} {i : Nat} {V : UInt64} (h : TI x i V) : findT (idsT x.bs) firstT = 0 := by
 refine findT_at (j := 0) (fun k hk => absurd hk (Nat.not_lt_zero _)) ?_
 rw [ids_get x.bs 0 h.bp, h.b0]
theorem ti_new (i : Nat) (seed : Txt) : TI (rp0 (nd 2) [] 0 0 i (keysP 4) seed 0) i 1 := ⟨rfl, (show 0 < 1 by decide), (show 1 ≤ 1000 by decide), (show 0 < 1 by decide), (show 1 ≤ 256 by decide), wf_one.vw_0, rfl, rfl, rfl, rfl, rfl⟩
theorem turn_is {x : Rp} {i : Nat} {V : UInt64} (h : TI x i V) : turnN x firstT = noteT i (V + 1) := by
 unfold turnN noteT
 rw [h.me, h.view]
attribute [local irreducible] sum tag input beS rdNum rdText leavesT f64 tb sigT firstT leadT mayT lkT recT idT learnR voteR dieR tmI fnI mI
section
variable {G : List (Nat × Array Value)}
theorem rOnTurnY_fc (x : Rp) (n : Nt) (hk : FP G 99 [.ptr 2 0, .agg (ntA n)] (rpH x) (.v (.int .i64 0)) (rpH x)) (h0 : 0 < x.tr.length) (hl : x.tr.length ≤ 256)
  (q q2 : Option (Nat × Value)) (m b : UInt64) (j : Nat) (cn : Int) (tm2 : List (Value × Value)) (hfr : n.fr = (j : Int)) (hj : j ≤ 40) (hb : ((2 ^ j : Nat) : Int) = U64 b)
  (hfq : fnd (.int .u64) (.int .u64 (U64 n.view)) x.tm 0 = some q) (hqv : (match q with | some p => p.2 | none => Value.int .u64 0) = .int .u64 (U64 m))
  (hp : mput x.tm (.int .u64 (U64 n.view)) (.int .u64 (U64 (m ||| b))) q = tm2) (hq2 : fnd (.int .u64) (.int .u64 (U64 n.view)) tm2 0 = some q2) (hqv2 : (match q2 with | some p => p.2 | none => Value.int .u64 0) = .int .u64 (U64 (m ||| b)))
  (hon : FP G 60 [.v (.int .u64 (U64 (m ||| b)))] [] (.v (.int .i64 cn)) []) (hv : n.view.toNat ≤ x.view.toNat) :
  FP G 63 [.ptr 2 0, .agg (ntA n)] (rpH x) (.tup []) (rpH { x with tm := tm2 }) := by
 have fc := rCert0_fc (G := G) x n.sigs
 have fr := rRaise0_fc (G := G) x n.sigs h0 hl
 have fg := rGoes_fc (G := G) { x with tm := tm2 } n.view x.view (by
  have e1 : U64 n.view = (n.view.toNat : Int) := rfl
  have e2 : U64 x.view = (x.view.toNat : Int) := rfl
  show (if U64 n.view > U64 x.view then U64 n.view else U64 x.view) = U64 x.view
  rw [if_neg (by omega)])
 subst hp
 refine FC.of_wp [] Tryz.func63 rfl rfl rfl rfl ⟨rfl, nt_bel _ n, trivial⟩ (rp_bel _ blt10 x) (Nat.le_of_ble_eq_true rfl) ?_
 intro A hG hnA hAB
 unfold start
 refine WP.rs hG (Ch.p1 rfl (OpS.boxS) rfl (Ch.nil (WP.rs hG (Ch.mv rfl rfl (Ch.p1 rfl (OpS.loadSA rfl rfl rfl) rfl ?_)))))
 refine Ch.cH (hk) [0,1,2,3,4,5,6,7,8,9] 10 gdN (.cons rfl (.cons rfl .nil)) (.c (.rfl _) (.c (.of_eq (ren_nt _ _).symm) .n)) rfl (by refine ⟨?_, ?_, ?_, ?_⟩ <;> first | ((conv => lhs; simp only [nrmA, Nat.reduceAdd, renL_tbs, renL_tb1, renL_bks, renL_b1, renL_vs, renL_v1, ren_vt, pend_ren, ren_ss]); all_goals rfl) | rfl) (by exact ⟨rfl, rfl, rfl, rfl, rfl, rfl, rfl, rfl, rfl, rfl, trivial⟩) (by exact trivial) rfl ?_
 refine Ch.asg rfl rfl (Ch.nil (WP.seq (WP.rs hG (Ch.mv rfl rfl (Ch.p2 rfl rfl (OpS.int (op := .lss) (v' := .bool false) rfl rfl) rfl (Ch.mv rfl rfl (Ch.gm rfl rfl rfl rfl (Ch.gm rfl rfl rfl rfl (Ch.g1 rfl rfl rfl (OpS.fieldAddrS rfl rfl rfl rfl rfl) rfl ?_)))))))))
 refine Ch.g1 rfl rfl rfl (OpS.loadS rfl rfl) rfl ?_
 refine Ch.cH (fc) [0,1,2,3,4,5,6,7,8,9] 10 (gdT rfl rfl) (.cons rfl (.cons rfl (.cons rfl .nil))) (.c (.rfl _) (.c (.rfl _) (.c (.of_eq (ren_ss _ _).symm) .n))) rfl (by refine ⟨?_, ?_, ?_, ?_⟩ <;> first | ((conv => lhs; simp only [nrmA, Nat.reduceAdd, renL_tbs, renL_tb1, renL_bks, renL_b1, renL_vs, renL_v1, ren_vt, pend_ren, ren_ss]); all_goals rfl) | rfl) (by exact ⟨rfl, rfl, rfl, rfl, rfl, rfl, rfl, rfl, rfl, rfl, trivial⟩) (by exact trivial) rfl ?_
 refine Ch.g1 rfl rfl rfl (OpS.not) rfl (Ch.p2 rfl rfl (OpS.pickF) rfl (Ch.nil (WP.cond_false rfl (WP.skip (WP.rs hG (Ch.mv rfl rfl (Ch.mv rfl rfl (Ch.p1 rfl (OpS.fieldAddrS rfl rfl rfl rfl rfl) rfl (Ch.p1 rfl (OpS.loadS rfl rfl) rfl ?_)))))))))
 refine Ch.cH (fr) [0,1,2,3,4,5,6,7,8,9] 10 gdN (.cons rfl (.cons rfl (.cons rfl .nil))) (.c (.rfl _) (.c (.rfl _) (.c (.of_eq (ren_ss _ _).symm) .n))) rfl (by refine ⟨?_, ?_, ?_, ?_⟩ <;> first | ((conv => lhs; simp only [nrmA, Nat.reduceAdd, renL_tbs, renL_tb1, renL_bks, renL_b1, renL_vs, renL_v1, ren_vt, pend_ren, ren_ss]); all_goals rfl) | rfl) (by exact ⟨rfl, rfl, rfl, rfl, rfl, rfl, rfl, rfl, rfl, rfl, trivial⟩) (by exact trivial) rfl ?_
 refine Ch.nil (WP.rsD (by kernel_rfl) hG (Ch.mv rfl rfl (Ch.p1 rfl (OpS.nilCheckP) rfl (Ch.p1 rfl (OpS.fieldAddr rfl rfl rfl rfl) rfl (Ch.q1 rfl (OpS.loadP rfl rfl rfl) rfl rfl (Ch.p1 rfl (OpS.fieldAddrS rfl rfl rfl rfl rfl) rfl (Ch.p1 rfl (OpS.loadS rfl rfl) rfl (Ch.q2 rfl rfl (OpS.lookup (k := .int .u64 (U64 n.view)) (r := q) (v := .int .u64 (U64 m)) rfl rfl rfl rfl rfl hfq (by cases q <;> exact hqv)) rfl rfl ?_))))))))
 refine Ch.p1 rfl (OpS.fieldAddrS rfl rfl rfl rfl rfl) rfl (Ch.p1 rfl (OpS.loadS rfl rfl) rfl (Ch.p2 rfl rfl (OpS.shlU (j := j) (u := b) hfr hj hb) rfl (Ch.p2 rfl rfl (OpS.or_u64) rfl (Ch.wr gdN (by exact ⟨rfl, rfl, rfl, trivial⟩) (OpS.mapUpdate (k := .int .u64 (U64 n.view)) (v := .int .u64 (U64 (m ||| b))) (r := q) rfl rfl rfl hfq) (by exact ⟨rfl, trivial⟩) (by exact trivial) ?_))))
 refine Ch.nilD ?_ (by kernel_rfl)
 rcases (show 3 ≤ cn ∨ cn < 3 by omega) with hq | hq
 ·
  have hs := hq
  refine WP.rsD (by kernel_rfl) hG (Ch.mv rfl rfl (Ch.p1 rfl (OpS.nilCheckP) rfl (Ch.p1 rfl (OpS.fieldAddr rfl rfl rfl rfl) rfl (Ch.q1 rfl (OpS.loadP rfl rfl rfl) rfl rfl (Ch.p1 rfl (OpS.fieldAddrS rfl rfl rfl rfl rfl) rfl (Ch.p1 rfl (OpS.loadS rfl rfl) rfl (Ch.q2 rfl rfl (OpS.lookup (k := .int .u64 (U64 n.view)) (r := q2) (v := .int .u64 (U64 (m ||| b))) rfl rfl rfl rfl rfl hq2 (by cases q2 <;> exact hqv2)) rfl rfl ?_)))))))
  refine Ch.callP (hon) gdN (.cons rfl .nil) (.c (.rfl _) .n) (by rfl) rfl ?_
  refine Ch.p2 rfl rfl (OpS.geqT (by omega)) rfl ?_
  refine Ch.nilD ?_ (by kernel_rfl)
  refine WP.cond_true rfl (WP.rg hG (Ch.mv rfl rfl (Ch.p1 rfl (OpS.fieldAddrS rfl rfl rfl rfl rfl) rfl (Ch.p1 rfl (OpS.loadS rfl rfl) rfl ?_))))
  refine Ch.cH (fg) [0,1,2,3,4,5,6,7,8,9] 10 gdN (.cons rfl (.cons rfl .nil)) (.c (.rfl _) (.c (.rfl _) .n)) rfl (by refine ⟨?_, ?_, ?_, ?_⟩ <;> first | ((conv => lhs; simp only [nrmA, Nat.reduceAdd, renL_tbs, renL_tb1, renL_bks, renL_b1, renL_vs, renL_v1, ren_vt, pend_ren, ren_ss]); all_goals rfl) | rfl) (by exact ⟨rfl, rfl, rfl, rfl, rfl, rfl, rfl, rfl, rfl, rfl, trivial⟩) (by exact trivial) rfl ?_
  refine Ch.nil ?_
  refine (Ret.of (rs := []) (vs := []) (H' := rpH { x with tm := mput x.tm (.int .u64 (U64 n.view)) (.int .u64 (U64 (m ||| b))) q }) (res := .tup []) [0, 1, 2, 3, 4, 5, 6, 7, 8, 9] ?_ ?_ rfl ?_ (by simp only [List.length_cons, List.length_nil]; decide) ?_).2
  · exact na_of hnA rfl
  · (repeat (first | exact trivial | (refine ⟨⟨(by first | trivial | (simp; first | done | fail) | exact ⟨trivial, hbel _⟩), _, rfl, (by first | exact .rfl _ | exact .nil | exact .of_eq (by simp [renL_tbs, renL_bks, renL_vs, pend_ren]; first | done | fail) | exact AV.wk.sh (by simp [renL_tbs, renL_bks, renL_vs, pend_ren]; first | done | fail) | exact .untip _ _ _ | exact .of_eq (ren_ss _ _).symm | exact .of_eq (ren_nt _ _).symm | exact .of_eq (ren_spt _ _).symm)⟩, ?_⟩)))
  · (repeat (first | exact trivial | refine HFromL.skip ?_ | (refine ⟨⟨(by first | trivial | (simp; first | done | fail)), (by first | rfl | (simp [renL_tbs, renL_bks, renL_vs, pend_ren]; first | done | fail))⟩, ?_⟩)))
  exact ⟨_, rfl, rfl, by simp [ls, TsOk, List.zip, List.zipWith]⟩
 have hs := hq
 refine WP.rsD (by kernel_rfl) hG (Ch.mv rfl rfl (Ch.p1 rfl (OpS.nilCheckP) rfl (Ch.p1 rfl (OpS.fieldAddr rfl rfl rfl rfl) rfl (Ch.q1 rfl (OpS.loadP rfl rfl rfl) rfl rfl (Ch.p1 rfl (OpS.fieldAddrS rfl rfl rfl rfl rfl) rfl (Ch.p1 rfl (OpS.loadS rfl rfl) rfl (Ch.q2 rfl rfl (OpS.lookup (k := .int .u64 (U64 n.view)) (r := q2) (v := .int .u64 (U64 (m ||| b))) rfl rfl rfl rfl rfl hq2 (by cases q2 <;> exact hqv2)) rfl rfl ?_)))))))
 refine Ch.callP (hon) gdN (.cons rfl .nil) (.c (.rfl _) .n) (by rfl) rfl ?_
 refine Ch.p2 rfl rfl (OpS.geqF (by omega)) rfl ?_
 refine Ch.nilD ?_ (by kernel_rfl)
 refine WP.cond_false rfl (WP.skip ?_)
 refine (Ret.of (rs := []) (vs := []) (H' := rpH { x with tm := mput x.tm (.int .u64 (U64 n.view)) (.int .u64 (U64 (m ||| b))) q }) (res := .tup []) [0, 1, 2, 3, 4, 5, 6, 7, 8, 9] ?_ ?_ rfl ?_ (by simp only [List.length_cons, List.length_nil]; decide) ?_).2
 · exact na_of hnA rfl
 · (repeat (first | exact trivial | (refine ⟨⟨(by first | trivial | (simp; first | done | fail) | exact ⟨trivial, hbel _⟩), _, rfl, (by first | exact .rfl _ | exact .nil | exact .of_eq (by simp [renL_tbs, renL_bks, renL_vs, pend_ren]; first | done | fail) | exact AV.wk.sh (by simp [renL_tbs, renL_bks, renL_vs, pend_ren]; first | done | fail) | exact .untip _ _ _ | exact .of_eq (ren_ss _ _).symm | exact .of_eq (ren_nt _ _).symm | exact .of_eq (ren_spt _ _).symm)⟩, ?_⟩)))
 · (repeat (first | exact trivial | refine HFromL.skip ?_ | (refine ⟨⟨(by first | trivial | (simp; first | done | fail)), (by first | rfl | (simp [renL_tbs, renL_bks, renL_vs, pend_ren]; first | done | fail))⟩, ?_⟩)))
 exact ⟨_, rfl, rfl, by simp [ls, TsOk, List.zip, List.zipWith]⟩
theorem rRecT_fc (x x2 : Rp) (n : Nt) (hk : n.kind = 3) (hd : x.dead = false) (hv : n.view.toNat ≤ 4611686018427387904)
  (hon : FP G 63 [.ptr 2 0, .agg (ntA n)] (rpH x) (.tup []) (rpH x2)) :
  FP G 30 [.ptr 2 0, .agg (ntA n)] (rpH x) (.tup [.agg (ntA nt0), .v (.bool false)]) (rpH x2) := by
 have e1 : U64 n.view = (n.view.toNat : Int) := rfl
 obtain ⟨d, s, c, lost, tr, bs, vo, lk, lid, me, ks, seed, n', view, tm, prop, sg, dead⟩ := x
 replace hd : dead = false := hd
 subst hd
 refine FC.of_wpc [(4, some 46), (5, none)] Tryz.func30 rfl rfl rfl rfl (by exact ⟨_, rfl, ⟨_, _, rfl, rfl, rfl, rfl⟩, trivial, trivial⟩) ⟨rfl, nt_bel _ n, trivial⟩ (rp_bel _ blt10 _) (Nat.le_of_ble_eq_true rfl) ?_
 intro A hG hnA hAB
 unfold start
 refine WP.rs hG (Ch.p1 rfl (OpS.boxS) rfl (Ch.a0 (OpS.alloc 10 rfl rfl rfl) rfl rfl (Ch.asg rfl rfl (Ch.nil (WP.seq (WP.rs hG (Ch.mv rfl rfl (Ch.p1 rfl (OpS.nilCheckP) rfl (Ch.p1 rfl (OpS.fieldAddr rfl rfl rfl rfl) rfl ?_)))))))))
 refine Ch.q1 rfl (OpS.loadP rfl rfl rfl) rfl rfl (Ch.mv rfl rfl (Ch.g1 rfl rfl rfl (OpS.fieldAddrS rfl rfl rfl rfl rfl) rfl (Ch.g1 rfl rfl rfl (OpS.loadS rfl rfl) rfl (Ch.g2 rfl rfl rfl rfl (OpS.gtrF (by omega)) rfl ?_))))
 refine Ch.p2 rfl rfl (OpS.pickF) rfl (Ch.nil (WP.cond_false rfl (WP.skip (WP.seq (WP.rs hG (Ch.p1 rfl (OpS.fieldAddrS rfl rfl rfl rfl rfl) rfl (Ch.p1 rfl (OpS.loadS rfl rfl) rfl (Ch.nil (WP.block ?_)))))))))
 refine WP.rs hG (Ch.p2 rfl rfl (OpS.eqlF (by omega)) rfl ?_)
 refine Ch.asg rfl rfl (Ch.nil (WP.cond_false rfl (WP.rs hG (Ch.p2 rfl rfl (OpS.eqlF (by omega)) rfl ?_))))
 refine Ch.asg rfl rfl (Ch.nil (WP.cond_false rfl (WP.rs hG (Ch.p2 rfl rfl (OpS.eqlT hk) rfl (Ch.asg rfl rfl (Ch.nil (WP.cond_true rfl (WP.rg hG (Ch.mv rfl rfl ?_)))))))))
 refine Ch.p1 rfl (OpS.loadSA rfl rfl rfl) rfl ?_
 refine Ch.cH (hon) [0,1,2,3,4,5,6,7,8,9] 11 gdN (.cons rfl (.cons rfl .nil)) (.c (.rfl _) (.c (.of_eq (ren_nt _ _).symm) .n)) rfl (by refine ⟨?_, ?_, ?_, ?_⟩ <;> first | ((conv => lhs; simp only [nrmA, Nat.reduceAdd, renL_tbs, renL_tb1, renL_bks, renL_b1, renL_vs, renL_v1, ren_vt, pend_ren, ren_ss]); all_goals rfl) | rfl) (by exact ⟨rfl, rfl, rfl, rfl, rfl, rfl, rfl, rfl, rfl, rfl, trivial⟩) (by exact trivial) rfl ?_
 refine Ch.nil (WP.from (SEnt.frz (t := 4) rfl rfl) (WP.ret ?_))
 refine (Ret.of (rs := [4, 5]) (vs := [.sptr (ntA nt0), .v (.bool false)]) (H' := rpH x2) (res := .tup [.sptr (ntA nt0), .v (.bool false)]) [0, 1, 2, 3, 4, 5, 6, 7, 8, 9] ?_ ?_ rfl ?_ (by simp only [List.length_cons, List.length_nil]; decide) ?_).1
 · exact na_of hnA rfl
 · (repeat (first | exact trivial | (refine ⟨⟨(by trivial), _, rfl, .rfl _⟩, ?_⟩)))
 · (repeat (first | exact trivial | refine HFromL.skip ?_ | (refine ⟨⟨(by first | trivial | (simp; first | done | fail)), (by first | rfl | (simp [renL_tbs, renL_bks, renL_vs, pend_ren]; first | done | fail))⟩, ?_⟩)))
 exact ⟨_, rfl, rfl, by simp [ls, TsOk, List.zip, List.zipWith]⟩
theorem ones_I (i : Nat) (h : i < 4) : FP G 60 [.v (.int .u64 (U64 (mI i)))] [] (.v (.int .i64 (i : Int))) [] := by
 rcases (show i = 0 ∨ i = 1 ∨ i = 2 ∨ i = 3 by omega) with rfl | rfl | rfl | rfl
 · with_unfolding_all exact ones_0
 · with_unfolding_all exact ones_1
 · with_unfolding_all exact ones_3
 with_unfolding_all exact ones_7
theorem turn_gen {x : Rp} {L : Nat} {V : UInt64} (h : TI x L V) (hV : V.toNat ≤ 1000) (i j : Nat) (hi : i < 3) (b : UInt64) (hb : ((2 ^ i : Nat) : Int) = U64 b) (hor : mI j ||| b = mI (i + 1)) :
  FP G 30 [.ptr 2 0, .agg (ntA (noteT i V))] (rpH { x with tm := tmI V j }) (.tup [.agg (ntA nt0), .v (.bool false)]) (rpH { x with tm := tmI V (i + 1) }) := by
 have hk := rKnown_fc (G := G) { x with tm := tmI V j } (noteT i V) h.bl 0 (.inl ⟨(by show (0 : Int) ≤ (i : Int); omega), (by show (i : Int) < 4; omega), h.find⟩)
 have hon := ones_I (G := G) (i + 1) (by omega)
 have h1 := fnd_I V j
 have h2 := val_I V j
 have h3 := put_I V j i
 have h4 := fnd_I V (i + 1)
 have h5 := val_I V (i + 1)
 rw [← hor] at h3 h5 hon
 have hot := rOnTurnY_fc (G := G) { x with tm := tmI V j } (noteT i V) hk h.tp h.tl (fnI V j) (fnI V (i + 1)) (mI j) b i _ (tmI V (i + 1)) rfl (by omega) hb h1 h2 h3 h4 h5 hon (by show V.toNat ≤ x.view.toNat; rw [h.view]; exact Nat.le_refl _)
 exact rRecT_fc _ _ (noteT i V) rfl h.dead (by show V.toNat ≤ _; omega) hot
theorem turn_one {x : Rp} {L : Nat} {V : UInt64} (h : TI x L V) (hV : V.toNat ≤ 1000) (i : Nat) (hi : i < 3) :
  FP G 30 [.ptr 2 0, .agg (ntA (noteT i V))] (rpH { x with tm := tmI V i }) (.tup [.agg (ntA nt0), .v (.bool false)]) (rpH { x with tm := tmI V (i + 1) }) := by
 rcases (show i = 0 ∨ i = 1 ∨ i = 2 by omega) with rfl | rfl | rfl
 · exact turn_gen h hV 0 0 (by decide) 1 (by decide) (by with_unfolding_all decide)
 · exact turn_gen h hV 1 1 (by decide) 2 (by decide) (by with_unfolding_all decide)
 exact turn_gen h hV 2 2 (by decide) 4 (by decide) (by with_unfolding_all decide)
theorem turn_two {x : Rp} {L : Nat} {V : UInt64} (h : TI x L V) (hV : V.toNat ≤ 1000) (i : Nat) (hi : i < 3) :
  FP G 30 [.ptr 2 0, .agg (ntA (noteT i V))] (rpH { x with tm := tmI V (i + 1) }) (.tup [.agg (ntA nt0), .v (.bool false)]) (rpH { x with tm := tmI V (i + 1) }) := by
 rcases (show i = 0 ∨ i = 1 ∨ i = 2 by omega) with rfl | rfl | rfl
 · exact turn_gen h hV 0 1 (by decide) 1 (by decide) (by with_unfolding_all decide)
 · exact turn_gen h hV 1 2 (by decide) 2 (by decide) (by with_unfolding_all decide)
 exact turn_gen h hV 2 3 (by decide) 4 (by decide) (by with_unfolding_all decide)
theorem prop_no {x : Rp} {L : Nat} {V : UInt64} (h : TI x L V) (hV : 1 < V.toNat) (hL : leadT V = L) (pl : Txt) (hp : pl.length ≤ 200) (i : Nat) (hi : i < 3) :
  FP G 29 [.ptr 2 0, sA pl] (rpH { x with tm := tmI V i }) (.tup [.agg (ntA nt0), .v (.bool false)]) (rpH { x with tm := tmI V i }) := by
 refine rPropF_fc (G := G) { x with tm := tmI V i } h.dead firstT pl h.bp h.b0 (by rw [firstT_32]; decide) (by show leadT x.view = x.me; rw [h.view, h.me]; exact hL) hp (by show x.prop.toNat < x.view.toNat; rw [h.prop, h.view]; exact Nat.lt_trans (by decide) hV) ⟨h.tp, h.tl⟩ h.v0 (fnI V i) (mI i) (i : Int) ?_ ?_ (val_I V i) (ones_I i (by omega)) (by omega)
 ·
  show x.view ≠ 1
  rw [h.view]
  rintro rfl
  exact absurd hV (by decide)
 show fnd _ (.int .u64 (U64 x.view)) (tmI V i) 0 = _
 rw [h.view]
 exact fnd_I V i
theorem prop_yes (hm : ShaIn G) {x : Rp} {L : Nat} {V : UInt64} (h : TI x L V) (hV : 1 < V.toNat) (hL : leadT V = L) (pl : Txt) (hp : pl.length ≤ 200) :
  ∃ (y : Rp) (b : Nt), b.view = V ∧ b.pa = firstT ∧ b.id = idT V firstT pl ∧ FP G 29 [.ptr 2 0, sA pl] (rpH { x with tm := tmI V 3 }) (.tup [.agg (ntA b), .v (.bool true)]) (rpH y) := by
 refine ⟨_, _, ?_, ?_, ?_, rPropT_fc hm { x with tm := tmI V 3 } h.dead firstT pl h.bp h.b0 (by rw [firstT_32]; decide) (by show leadT x.view = x.me; rw [h.view, h.me]; exact hL) hp (by show x.prop.toNat < x.view.toNat; rw [h.prop, h.view]; exact Nat.lt_trans (by decide) hV) ⟨h.tp, h.tl⟩ h.v0 (fnI V 3) (mI 3) ((3 : Nat) : Int) ?_ ?_ (val_I V 3) (ones_I 3 (by omega)) (by omega)⟩
 · exact h.view
 · rfl
 ·
  show idT x.view firstT pl = _
  rw [h.view]
 ·
  show x.view ≠ 1
  rw [h.view]
  rintro rfl
  exact absurd hV (by decide)
 show fnd _ (.int .u64 (U64 x.view)) (tmI V 3) 0 = _
 rw [h.view]
 exact fnd_I V 3
end
end Go.Proofs.YtpnbpcopdckgpaaGreatDoor.E
