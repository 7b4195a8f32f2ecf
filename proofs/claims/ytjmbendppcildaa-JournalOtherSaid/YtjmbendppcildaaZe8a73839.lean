import Derived.Test.YtjmbendppcildaaZ08c09e23
import Derived.Lib.ConvBytes
section
/- Pointers held against nil. -/
namespace Go.Proofs.Ytjmbendppcildaa.E
open Go Go.RowKit Go.Proofs.Ytjmbendppcildaa.V
section
variable {P : Program} {G : List (Nat × Array Value)} {dst : Option Tmp} {ty : TypeId} {pos : String} {aft : Array Edge} {gd : Option (Nat × Bool)} {t t' e : TypeId} {x y : Operand}
theorem run_eqPtr1 (w : World) (ad : Addr) (hu : P.underlying t = some (.pointer e)) : (binOp .eql t (.pointer (some ad)) (.pointer none)).run P w = .ok (.bool false) w := by
  have key : ∀ d, (Op.equalIn (d + 1) t (.pointer (some ad)) (.pointer none)).run P w = .ok false w := fun d => by simp [Op.equalIn, run_underlying hu, Sem.run_bind, Sem.run_pure, Result.andThen_ok]
  show (do pure (Value.bool (← Op.equalIn (9999 + 1) t (.pointer (some ad)) (.pointer none))) : Sem Value).run P w = _
  rw [Sem.run_bind, key]
  rfl
theorem run_eqPtr0 (w : World) (hu : P.underlying t = some (.pointer e)) : (binOp .eql t (.pointer none) (.pointer none)).run P w = .ok (.bool true) w := by
  have key : ∀ d, (Op.equalIn (d + 1) t (.pointer none) (.pointer none)).run P w = .ok true w := fun d => by simp [Op.equalIn, run_underlying hu, Sem.run_bind, Sem.run_pure, Result.andThen_ok]
  show (do pure (Value.bool (← Op.equalIn (9999 + 1) t (.pointer none) (.pointer none))) : Sem Value).run P w = _
  rw [Sem.run_bind, key]
  rfl
theorem run_nePtr1 (w : World) (ad : Addr) (hu : P.underlying t = some (.pointer e)) : (binOp .neq t (.pointer (some ad)) (.pointer none)).run P w = .ok (.bool true) w := by
  have key : ∀ d, (Op.equalIn (d + 1) t (.pointer (some ad)) (.pointer none)).run P w = .ok false w := fun d => by simp [Op.equalIn, run_underlying hu, Sem.run_bind, Sem.run_pure, Result.andThen_ok]
  show (do pure (Value.bool (!(← Op.equalIn (9999 + 1) t (.pointer (some ad)) (.pointer none)))) : Sem Value).run P w = _
  rw [Sem.run_bind, key]
  rfl
theorem run_nePtr0 (w : World) (hu : P.underlying t = some (.pointer e)) : (binOp .neq t (.pointer none) (.pointer none)).run P w = .ok (.bool false) w := by
  have key : ∀ d, (Op.equalIn (d + 1) t (.pointer none) (.pointer none)).run P w = .ok true w := fun d => by simp [Op.equalIn, run_underlying hu, Sem.run_bind, Sem.run_pure, Result.andThen_ok]
  show (do pure (Value.bool (!(← Op.equalIn (9999 + 1) t (.pointer none) (.pointer none)))) : Sem Value).run P w = _
  rw [Sem.run_bind, key]
  rfl
/-- what points somewhere -/
inductive Pts : AV → Prop
  | p (id off : Nat) : Pts (.ptr id off)
  | s (cs : List AV) : Pts (.sptr cs)
theorem Pts.val {N : Nat → Nat → Prop} {ρ : Env} {w : World} {c : AV} {v : Value} (h : Pts c) (hv : VRel N ρ w c v) : ∃ a, v = .pointer (some a) := by
  cases h with
  | p id off => cases hv; exact ⟨_, rfl⟩
  | s cs => cases hv; exact ⟨_, rfl⟩
theorem OpS.eqNil {c : AV} (hp : Pts c) (hu : P.underlying t = some (.pointer e)) : OpS P G ⟨dst, .binOp .eql t x y t', ty, pos, aft, gd⟩ [(x, c), (y, .v (.pointer none))] [] ⟨some (.v (.bool false)), [], []⟩ :=
  OpS.still fun A ρ σ a w _ h _ hs => by
    obtain ⟨ad, hx⟩ := hp.val (hs.ev h.1)
    refine ⟨_, ?_, .v _⟩
    show (do pure (Next.value (← (do eqGuard .eql t x y (a.eval x) (a.eval y); binOp .eql t (a.eval x) (a.eval y)))) : Sem Next).run P w = _
    refine runv ?_
    rw [hx, (hs.ev h.2.1).raw]
    have := run_eqPtr1 (P := P) w ad hu
    simpa [eqGuard, Sem.run_bind, Sem.run_pure, Result.andThen_ok] using this
theorem OpS.neNil {c : AV} (hp : Pts c) (hu : P.underlying t = some (.pointer e)) : OpS P G ⟨dst, .binOp .neq t x y t', ty, pos, aft, gd⟩ [(x, c), (y, .v (.pointer none))] [] ⟨some (.v (.bool true)), [], []⟩ :=
  OpS.still fun A ρ σ a w _ h _ hs => by
    obtain ⟨ad, hx⟩ := hp.val (hs.ev h.1)
    refine ⟨_, ?_, .v _⟩
    show (do pure (Next.value (← (do eqGuard .neq t x y (a.eval x) (a.eval y); binOp .neq t (a.eval x) (a.eval y)))) : Sem Next).run P w = _
    refine runv ?_
    rw [hx, (hs.ev h.2.1).raw]
    have := run_nePtr1 (P := P) w ad hu
    simpa [eqGuard, Sem.run_bind, Sem.run_pure, Result.andThen_ok] using this
theorem OpS.eqNilN (hu : P.underlying t = some (.pointer e)) : OpS P G ⟨dst, .binOp .eql t x y t', ty, pos, aft, gd⟩ [(x, .v (.pointer none)), (y, .v (.pointer none))] [] ⟨some (.v (.bool true)), [], []⟩ :=
  OpS.still fun A ρ σ a w _ h _ hs => by
    refine ⟨_, ?_, .v _⟩
    show (do pure (Next.value (← (do eqGuard .eql t x y (a.eval x) (a.eval y); binOp .eql t (a.eval x) (a.eval y)))) : Sem Next).run P w = _
    refine runv ?_
    rw [(hs.ev h.1).raw, (hs.ev h.2.1).raw]
    have := run_eqPtr0 (P := P) w hu
    simpa [eqGuard, Sem.run_bind, Sem.run_pure, Result.andThen_ok] using this
theorem OpS.neNilN (hu : P.underlying t = some (.pointer e)) : OpS P G ⟨dst, .binOp .neq t x y t', ty, pos, aft, gd⟩ [(x, .v (.pointer none)), (y, .v (.pointer none))] [] ⟨some (.v (.bool false)), [], []⟩ :=
  OpS.still fun A ρ σ a w _ h _ hs => by
    refine ⟨_, ?_, .v _⟩
    show (do pure (Next.value (← (do eqGuard .neq t x y (a.eval x) (a.eval y); binOp .neq t (a.eval x) (a.eval y)))) : Sem Next).run P w = _
    refine runv ?_
    rw [(hs.ev h.1).raw, (hs.ev h.2.1).raw]
    have := run_nePtr0 (P := P) w hu
    simpa [eqGuard, Sem.run_bind, Sem.run_pure, Result.andThen_ok] using this
end
end Go.Proofs.Ytjmbendppcildaa.E
end
section
/- Layer 12's disk: its small parts. -/
namespace Go.Proofs.Ytjmbendppcildaa.E
open Go Go.RowKit Go.Proofs.Ytjmbendppcildaa.V
attribute [local go_sem] B_size B_append B_extract mk_B B_toList take_drop_len List.length_drop List.length_take sgn32 sgn64 add32 sub32 mul32 add64 sub64 mul64 mul64_8 and32 or32 xor32 and64 or64 xor64 shl32_run shr32_run shl64_run shr64_run not32 not32' xor32_all w_u32_u8 w_u64_u8 w_i64_u8 w_u8_u32 w_u8_u64 w_u32_u64 w_u64_u32 w_u8_u8 w_u32_u32 w_u64_u64
attribute [local go_sem ↓] run_index_B' add32 sub32 mul32 add64 sub64 mul64 mul64_8 and32 or32 xor32 and64 or64 xor64 shl32_run shr32_run shl64_run shr64_run not32 not32' xor32_all w_u32_u8 w_u64_u8 w_i64_u8 w_u8_u32 w_u8_u64 w_u32_u64 w_u64_u32 w_u8_u8 w_u32_u32 w_u64_u64 w_u64_nat w_u32_nat w_u8_nat
set_option maxRecDepth 4000
/-- a disk: what lasts, what is pending, how many acts are left, is it dead -/
structure Dk where
  l0 : List UInt8
  l1 : List UInt8
  p0 : Option (List UInt8)
  p1 : Option (List UInt8)
  left : Int
  dead : Bool
def pend : Option (List UInt8) → AV
  | none => .v (.pointer none)
  | some s => .sptr [sA s]
@[simp] theorem pend_ren (π : Nat → Nat) (p : Option (List UInt8)) : AV.ren π (pend p) = pend p := by cases p <;> rfl
@[simp] theorem pend_bel (u : Nat → Bool) (p : Option (List UInt8)) : (pend p).bel u := by cases p <;> first | trivial | exact ⟨trivial, trivial⟩
abbrev dkC (d : Dk) : List AV := [sA d.l0, pend d.p0, sA d.l1, pend d.p1, .v (.int .i64 d.left), .v (.bool d.dead)]
abbrev dkH (d : Dk) : List (Option AO) := [some (.cells 57 (dkC d))]
def armL (n : Int) : Int := if 0 > n then 0 else n
def actD (d : Dk) : Dk := if 0 < d.left then { d with left := d.left - 1, dead := (d.left - 1 == 0) } else d
def errS (d : Dk) : Int := if d.dead then 120 else 0
theorem dk_bel (u : Nat → Bool) (d : Dk) : AV.belL u (dkC d) := ⟨trivial, pend_bel _ _, trivial, pend_bel _ _, trivial, trivial, trivial⟩
section
variable {G : List (Nat × Array Value)}
theorem dkDead_fc (d : Dk) : FC Try.prog G 16 [.ptr 0 0] (dkH d) (.v (.bool d.dead)) (dkH d) := by
  refine FC.of_wp [2] Try.func16 rfl rfl rfl rfl ⟨rfl, trivial⟩ ⟨dk_bel _ _, trivial⟩ (by exact Nat.le_of_ble_eq_true rfl) ?_
  intro A hG hnA hAB
  unfold start
  refine WP.rs hG ?_
  refine Ch.pu gdN (by exact ⟨rfl, trivial⟩) (OpS.assign) trivial rfl ?_
  refine Ch.nil ?_
  refine WP.rs hG ?_
  refine Ch.pu gdN (by exact ⟨rfl, trivial⟩) (OpS.move) trivial rfl ?_
  refine Ch.pu gdN (by exact ⟨rfl, trivial⟩) (OpS.nilCheckP) (by first | exact trivial | exact ⟨rfl, trivial⟩) rfl ?_
  refine Ch.pu gdN (by exact ⟨rfl, trivial⟩) (OpS.fieldAddr rfl rfl rfl rfl) (by first | exact trivial | exact ⟨rfl, trivial⟩) rfl ?_
  refine Ch.pu gdN (by exact ⟨rfl, trivial⟩) (OpS.loadP rfl rfl rfl) (by first | exact trivial | exact ⟨rfl, trivial⟩) rfl ?_
  refine Ch.pu gdN (by exact ⟨rfl, trivial⟩) (OpS.assign) trivial rfl ?_
  refine Ch.nil ?_
  refine WP.ret ?_
  refine (Ret.of (rs := [2]) (vs := [.v (.bool d.dead)]) (H' := dkH d) (res := .v (.bool d.dead)) [0] ?_ ?_ rfl ?_ (by simp only [List.length_cons, List.length_nil]; decide) ?_).1
  · exact (fun i hi => by rw [hnA] at hi; simp only [List.length_cons, List.length_nil] at hi ⊢; first | exact absurd hi (Nat.not_lt_zero _) | (revert i; decide))
  · (repeat (first | exact trivial | (refine And.intro ⟨(by first | trivial | (simp; first | done | fail) | exact ⟨trivial, hbel _⟩), _, rfl, (by first | exact .rfl _ | exact .nil | exact .of_eq (by simp; first | done | fail) | exact AV.wk.sh (by simp; first | done | fail) | exact .untip _ _ _)⟩ ?_)))
  · (repeat (first | exact trivial | refine HFromL.skip ?_ | (refine And.intro ⟨(by first | trivial | (simp; first | done | fail) | exact ⟨trivial, hbel _⟩), (by first | rfl | (simp; first | done | fail))⟩ ?_)))
  · rfl
theorem dkArm_fc (d : Dk) (n : Int) (hn : -9223372036854775808 ≤ n ∧ n ≤ 9223372036854775807) : FC Try.prog G 12 [.ptr 0 0, .v (.int .i64 n)] (dkH d) (.tup []) (dkH { d with left := armL n }) := by
  refine FC.of_wp [] Try.func12 rfl rfl rfl rfl ⟨rfl, trivial, trivial⟩ ⟨dk_bel _ _, trivial⟩ (by exact Nat.le_of_ble_eq_true rfl) ?_
  intro A hG hnA hAB
  unfold start
  refine WP.rg hG ?_
  refine Ch.pu gdN (by exact ⟨rfl, trivial⟩) (OpS.move) trivial rfl ?_
  refine Ch.pu gdN (by exact ⟨rfl, trivial⟩) (OpS.move) trivial rfl ?_
  refine Ch.pu gdN (by exact ⟨rfl, rfl, trivial⟩) (OpS.maxI rfl) (by first | exact trivial | exact ⟨rfl, trivial⟩) rfl ?_
  refine Ch.pu gdN (by exact ⟨rfl, trivial⟩) (OpS.nilCheckP) (by first | exact trivial | exact ⟨rfl, trivial⟩) rfl ?_
  refine Ch.pu gdN (by exact ⟨rfl, trivial⟩) (OpS.fieldAddr rfl rfl rfl rfl) (by first | exact trivial | exact ⟨rfl, trivial⟩) rfl ?_
  refine Ch.wr gdN (by exact ⟨rfl, rfl, trivial⟩) (OpS.storeP (cs := dkC d) rfl rfl rfl (by simp)) (by first | exact trivial | exact ⟨rfl, trivial⟩) (by first | exact trivial | exact ⟨rfl, trivial⟩ | exact ⟨rfl, rfl, trivial⟩) ?_
  refine Ch.nil ?_
  refine (Ret.of (rs := []) (vs := []) (H' := dkH { d with left := armL n }) (res := .tup []) [0] ?_ ?_ rfl ?_ (by simp only [List.length_cons, List.length_nil]; decide) ?_).2
  · exact (fun i hi => by rw [hnA] at hi; simp only [List.length_cons, List.length_nil] at hi ⊢; first | exact absurd hi (Nat.not_lt_zero _) | (revert i; decide))
  · (repeat (first | exact trivial | (refine And.intro ⟨(by first | trivial | (simp; first | done | fail) | exact ⟨trivial, hbel _⟩), _, rfl, (by first | exact .rfl _ | exact .nil | exact .of_eq (by simp [pend_ren]; first | done | fail) | exact AV.wk.sh (by simp [pend_ren]; first | done | fail) | exact .untip _ _ _)⟩ ?_)))
  · (repeat (first | exact trivial | refine HFromL.skip ?_ | (refine And.intro ⟨(by first | trivial | (simp; first | done | fail) | exact ⟨trivial, hbel _⟩), (by first | rfl | (simp [pend_ren]; first | done | fail) | (conv => rhs; simp only [AO.ren, AV.ren, AV.renL, Option.map_some, pend_ren]) <;> rfl)⟩ ?_)))
  · exact ⟨_, rfl, rfl, by simp [ls, TsOk, List.zip, List.zipWith]⟩
theorem dkState_fc (d : Dk) : FC Try.prog G 30 [.ptr 0 0] (dkH d) (.v (.int .i64 (errS d))) (dkH d) := by
  refine FC.of_wp [2] Try.func30 rfl rfl rfl rfl ⟨rfl, trivial⟩ ⟨dk_bel _ _, trivial⟩ (by exact Nat.le_of_ble_eq_true rfl) ?_
  intro A hG hnA hAB
  unfold start
  refine WP.rs hG ?_
  refine Ch.pu gdN (by exact ⟨rfl, trivial⟩) (OpS.assign) trivial rfl ?_
  refine Ch.nil ?_
  refine WP.seq ?_
  refine WP.rs hG ?_
  refine Ch.pu gdN (by exact ⟨rfl, trivial⟩) (OpS.move) trivial rfl ?_
  refine Ch.pu gdN (by exact ⟨rfl, trivial⟩) (OpS.nilCheckP) (by first | exact trivial | exact ⟨rfl, trivial⟩) rfl ?_
  refine Ch.pu gdN (by exact ⟨rfl, trivial⟩) (OpS.fieldAddr rfl rfl rfl rfl) (by first | exact trivial | exact ⟨rfl, trivial⟩) rfl ?_
  refine Ch.pu gdN (by exact ⟨rfl, trivial⟩) (OpS.loadP rfl rfl rfl) (by first | exact trivial | exact ⟨rfl, trivial⟩) rfl ?_
  refine Ch.nil ?_
  refine WP.cond rfl ?_ ?_
  · intro ht
    have he : errS d = 120 := if_pos ht
    refine WP.rs hG ?_
    refine Ch.pu gdN (by exact ⟨rfl, trivial⟩) (OpS.assign) trivial rfl ?_
    refine Ch.nil ?_
    refine WP.ret ?_
    rw [he]
    refine (Ret.of (rs := [2]) (vs := [.v (.int .i64 120)]) (H' := dkH d) (res := .v (.int .i64 120)) [0] ?_ ?_ rfl ?_ (by simp only [List.length_cons, List.length_nil]; decide) ?_).1
    · exact (fun i hi => by rw [hnA] at hi; simp only [List.length_cons, List.length_nil] at hi ⊢; first | exact absurd hi (Nat.not_lt_zero _) | (revert i; decide))
    · (repeat (first | exact trivial | (refine And.intro ⟨(by first | trivial | (simp; first | done | fail) | exact ⟨trivial, hbel _⟩), _, rfl, (by first | exact .rfl _ | exact .nil | exact .of_eq (by simp; first | done | fail) | exact AV.wk.sh (by simp; first | done | fail) | exact .untip _ _ _)⟩ ?_)))
    · (repeat (first | exact trivial | refine HFromL.skip ?_ | (refine And.intro ⟨(by first | trivial | (simp; first | done | fail) | exact ⟨trivial, hbel _⟩), (by first | rfl | (simp; first | done | fail))⟩ ?_)))
    · rfl
  · intro ht
    have he : errS d = 0 := if_neg (by rw [ht]; decide)
    refine WP.skip ?_
    refine WP.rs hG ?_
    refine Ch.pu gdN (by exact ⟨rfl, trivial⟩) (OpS.assign) trivial rfl ?_
    refine Ch.nil ?_
    refine WP.ret ?_
    rw [he]
    refine (Ret.of (rs := [2]) (vs := [.v (.int .i64 0)]) (H' := dkH d) (res := .v (.int .i64 0)) [0] ?_ ?_ rfl ?_ (by simp only [List.length_cons, List.length_nil]; decide) ?_).1
    · exact (fun i hi => by rw [hnA] at hi; simp only [List.length_cons, List.length_nil] at hi ⊢; first | exact absurd hi (Nat.not_lt_zero _) | (revert i; decide))
    · (repeat (first | exact trivial | (refine And.intro ⟨(by first | trivial | (simp; first | done | fail) | exact ⟨trivial, hbel _⟩), _, rfl, (by first | exact .rfl _ | exact .nil | exact .of_eq (by simp; first | done | fail) | exact AV.wk.sh (by simp; first | done | fail) | exact .untip _ _ _)⟩ ?_)))
    · (repeat (first | exact trivial | refine HFromL.skip ?_ | (refine And.intro ⟨(by first | trivial | (simp; first | done | fail) | exact ⟨trivial, hbel _⟩), (by first | rfl | (simp; first | done | fail))⟩ ?_)))
    · rfl
theorem dkActs_fc (d : Dk) (hl : 0 ≤ d.left ∧ d.left ≤ 9223372036854775807) : FC Try.prog G 29 [.ptr 0 0] (dkH d) (.tup []) (dkH (actD d)) := by
  refine FC.of_wp [] Try.func29 rfl rfl rfl rfl ⟨rfl, trivial⟩ ⟨dk_bel _ _, trivial⟩ (by exact Nat.le_of_ble_eq_true rfl) ?_
  intro A hG hnA hAB
  unfold start
  refine WP.rs hG ?_
  refine Ch.pu gdN (by exact ⟨rfl, trivial⟩) (OpS.move) trivial rfl ?_
  refine Ch.pu gdN (by exact ⟨rfl, trivial⟩) (OpS.nilCheckP) (by first | exact trivial | exact ⟨rfl, trivial⟩) rfl ?_
  refine Ch.pu gdN (by exact ⟨rfl, trivial⟩) (OpS.fieldAddr rfl rfl rfl rfl) (by first | exact trivial | exact ⟨rfl, trivial⟩) rfl ?_
  refine Ch.pu gdN (by exact ⟨rfl, trivial⟩) (OpS.loadP rfl rfl rfl) (by first | exact trivial | exact ⟨rfl, trivial⟩) rfl ?_
  refine Ch.pu gdN (by exact ⟨rfl, rfl, trivial⟩) (OpS.int rfl (by first | exact wr64 (by omega) | exact rfl)) trivial rfl ?_
  refine Ch.nil ?_
  refine WP.cond rfl ?_ ?_
  · intro ht
    have ht' := of_decide_eq_true ht
    have ha : actD d = { d with left := d.left - 1, dead := (d.left - 1 == 0) } := if_pos ht'
    rw [ha]
    refine WP.rs hG ?_
    refine Ch.pu gdN (by exact ⟨rfl, trivial⟩) (OpS.move) trivial rfl ?_
    refine Ch.pu gdN (by exact ⟨rfl, trivial⟩) (OpS.nilCheckP) (by first | exact trivial | exact ⟨rfl, trivial⟩) rfl ?_
    refine Ch.pu gdN (by exact ⟨rfl, trivial⟩) (OpS.fieldAddr rfl rfl rfl rfl) (by first | exact trivial | exact ⟨rfl, trivial⟩) rfl ?_
    refine Ch.pu gdN (by exact ⟨rfl, trivial⟩) (OpS.loadP rfl rfl rfl) (by first | exact trivial | exact ⟨rfl, trivial⟩) rfl ?_
    refine Ch.pu gdN (by exact ⟨rfl, rfl, trivial⟩) (OpS.int rfl (by first | exact wr64 (by omega) | exact rfl)) trivial rfl ?_
    refine Ch.pu gdN (by exact ⟨rfl, trivial⟩) (OpS.nilCheckP) (by first | exact trivial | exact ⟨rfl, trivial⟩) rfl ?_
    refine Ch.pu gdN (by exact ⟨rfl, trivial⟩) (OpS.fieldAddr rfl rfl rfl rfl) (by first | exact trivial | exact ⟨rfl, trivial⟩) rfl ?_
    refine Ch.wr gdN (by exact ⟨rfl, rfl, trivial⟩) (OpS.storeP (cs := dkC d) rfl rfl rfl (by simp)) (by first | exact trivial | exact ⟨rfl, trivial⟩) (by first | exact trivial | exact ⟨rfl, trivial⟩ | exact ⟨rfl, rfl, trivial⟩) ?_
    refine Ch.nil ?_
    refine WP.rg hG ?_
    refine Ch.pu gdN (by exact ⟨rfl, trivial⟩) (OpS.move) trivial rfl ?_
    refine Ch.pu gdN (by exact ⟨rfl, trivial⟩) (OpS.move) trivial rfl ?_
    refine Ch.pu gdN (by exact ⟨rfl, trivial⟩) (OpS.nilCheckP) (by first | exact trivial | exact ⟨rfl, trivial⟩) rfl ?_
    refine Ch.pu gdN (by exact ⟨rfl, trivial⟩) (OpS.fieldAddr rfl rfl rfl rfl) (by first | exact trivial | exact ⟨rfl, trivial⟩) rfl ?_
    refine Ch.pu gdN (by exact ⟨rfl, trivial⟩) (OpS.loadP rfl rfl rfl) (by first | exact trivial | exact ⟨rfl, trivial⟩) rfl ?_
    refine Ch.pu gdN (by exact ⟨rfl, rfl, trivial⟩) (OpS.int rfl (by first | exact wr64 (by omega) | exact rfl)) trivial rfl ?_
    refine Ch.pu gdN (by exact ⟨rfl, trivial⟩) (OpS.nilCheckP) (by first | exact trivial | exact ⟨rfl, trivial⟩) rfl ?_
    refine Ch.pu gdN (by exact ⟨rfl, trivial⟩) (OpS.fieldAddr rfl rfl rfl rfl) (by first | exact trivial | exact ⟨rfl, trivial⟩) rfl ?_
    refine Ch.wr gdN (by exact ⟨rfl, rfl, trivial⟩) (OpS.storeP (cs := dkC { d with left := d.left - 1 }) rfl rfl rfl (by simp)) (by first | exact trivial | exact ⟨rfl, trivial⟩) (by first | exact trivial | exact ⟨rfl, trivial⟩ | exact ⟨rfl, rfl, trivial⟩) ?_
    refine Ch.nil ?_
    refine (Ret.of (rs := []) (vs := []) (H' := _) (res := .tup []) [0] ?_ ?_ rfl ?_ (by simp only [List.length_cons, List.length_nil]; decide) ?_).2
    · exact (fun i hi => by rw [hnA] at hi; simp only [List.length_cons, List.length_nil] at hi ⊢; first | exact absurd hi (Nat.not_lt_zero _) | (revert i; decide))
    · (repeat (first | exact trivial | (refine And.intro ⟨(by first | trivial | (simp; first | done | fail) | exact ⟨trivial, hbel _⟩), _, rfl, (by first | exact .rfl _ | exact .nil | exact .of_eq (by simp [pend_ren]; first | done | fail) | exact AV.wk.sh (by simp [pend_ren]; first | done | fail) | exact .untip _ _ _)⟩ ?_)))
    · (repeat (first | exact trivial | refine HFromL.skip ?_ | (refine And.intro ⟨(by first | trivial | (simp; first | done | fail) | exact ⟨trivial, hbel _⟩), (by first | rfl | (simp [pend_ren]; first | done | fail) | (conv => rhs; simp only [AO.ren, AV.ren, AV.renL, Option.map_some, pend_ren]) <;> rfl)⟩ ?_)))
    · exact ⟨_, rfl, rfl, by simp [ls, TsOk, List.zip, List.zipWith]⟩
  · intro ht
    have ht' := of_decide_eq_false ht
    have ha : actD d = d := if_neg ht'
    rw [ha]
    refine WP.skip ?_
    refine (Ret.of (rs := []) (vs := []) (H' := _) (res := .tup []) [0] ?_ ?_ rfl ?_ (by simp only [List.length_cons, List.length_nil]; decide) ?_).2
    · exact (fun i hi => by rw [hnA] at hi; simp only [List.length_cons, List.length_nil] at hi ⊢; first | exact absurd hi (Nat.not_lt_zero _) | (revert i; decide))
    · (repeat (first | exact trivial | (refine And.intro ⟨(by first | trivial | (simp; first | done | fail) | exact ⟨trivial, hbel _⟩), _, rfl, (by first | exact .rfl _ | exact .nil | exact .of_eq (by simp [pend_ren]; first | done | fail) | exact AV.wk.sh (by simp [pend_ren]; first | done | fail) | exact .untip _ _ _)⟩ ?_)))
    · (repeat (first | exact trivial | refine HFromL.skip ?_ | (refine And.intro ⟨(by first | trivial | (simp; first | done | fail) | exact ⟨trivial, hbel _⟩), (by first | rfl | (simp [pend_ren]; first | done | fail) | (conv => rhs; simp only [AO.ren, AV.ren, AV.renL, Option.map_some, pend_ren]) <;> rfl)⟩ ?_)))
    · exact ⟨_, rfl, rfl, by simp [ls, TsOk, List.zip, List.zipWith]⟩
theorem now0N_fc (l0 l1 : List UInt8) (p1 : Option (List UInt8)) (lf : Int) (dd : Bool) : FC Try.prog G 25 [.ptr 0 0] (dkH ⟨l0, l1, none, p1, lf, dd⟩) (sA l0) (dkH ⟨l0, l1, none, p1, lf, dd⟩) := by
  refine FC.of_wp [2] Try.func25 rfl rfl rfl rfl ⟨rfl, trivial⟩ ⟨dk_bel _ _, trivial⟩ (by exact Nat.le_of_ble_eq_true rfl) ?_
  intro A hG hnA hAB
  unfold start
  refine WP.rs hG ?_
  refine Ch.pu gdN (by exact ⟨rfl, trivial⟩) (OpS.assign) trivial rfl ?_
  refine Ch.nil ?_
  refine WP.seq ?_
  refine WP.rs hG ?_
  refine Ch.pu gdN (by exact ⟨rfl, trivial⟩) (OpS.move) trivial rfl ?_
  refine Ch.pu gdN (by exact ⟨rfl, trivial⟩) (OpS.nilCheckP) (by first | exact trivial | exact ⟨rfl, trivial⟩) rfl ?_
  refine Ch.pu gdN (by exact ⟨rfl, trivial⟩) (OpS.fieldAddr rfl rfl rfl rfl) (by first | exact trivial | exact ⟨rfl, trivial⟩) rfl ?_
  refine Ch.pu gdN (by exact ⟨rfl, trivial⟩) (OpS.loadP rfl rfl rfl) (by first | exact trivial | exact ⟨rfl, trivial⟩) rfl ?_
  refine Ch.pu gdN (by exact ⟨rfl, rfl, trivial⟩) (OpS.neNilN rfl) (by first | exact trivial | exact ⟨rfl, trivial⟩) rfl ?_
  refine Ch.nil ?_
  refine WP.cond_false rfl ?_
  refine WP.skip ?_
  refine WP.rs hG ?_
  refine Ch.pu gdN (by exact ⟨rfl, trivial⟩) (OpS.move) trivial rfl ?_
  refine Ch.pu gdN (by exact ⟨rfl, trivial⟩) (OpS.nilCheckP) (by first | exact trivial | exact ⟨rfl, trivial⟩) rfl ?_
  refine Ch.pu gdN (by exact ⟨rfl, trivial⟩) (OpS.fieldAddr rfl rfl rfl rfl) (by first | exact trivial | exact ⟨rfl, trivial⟩) rfl ?_
  refine Ch.pu gdN (by exact ⟨rfl, trivial⟩) (OpS.loadP rfl rfl rfl) (by first | exact trivial | exact ⟨rfl, trivial⟩) rfl ?_
  refine Ch.pu gdN (by exact ⟨rfl, trivial⟩) (OpS.assign) trivial rfl ?_
  refine Ch.nil ?_
  refine WP.ret ?_
  refine (Ret.of (rs := [2]) (vs := [sA l0]) (H' := dkH ⟨l0, l1, none, p1, lf, dd⟩) (res := sA l0) [0] ?_ ?_ rfl ?_ (by simp only [List.length_cons, List.length_nil]; decide) ?_).1
  · exact (fun i hi => by rw [hnA] at hi; simp only [List.length_cons, List.length_nil] at hi ⊢; first | exact absurd hi (Nat.not_lt_zero _) | (revert i; decide))
  · (repeat (first | exact trivial | (refine And.intro ⟨(by first | trivial | (simp; first | done | fail) | exact ⟨trivial, hbel _⟩), _, rfl, (by first | exact .rfl _ | exact .nil | exact .of_eq (by simp [pend_ren]; first | done | fail) | exact AV.wk.sh (by simp [pend_ren]; first | done | fail) | exact .untip _ _ _)⟩ ?_)))
  · (repeat (first | exact trivial | refine HFromL.skip ?_ | (refine And.intro ⟨(by first | trivial | (simp; first | done | fail) | exact ⟨trivial, hbel _⟩), (by first | rfl | (simp [pend_ren]; first | done | fail) | (conv => rhs; simp only [AO.ren, AV.ren, AV.renL, Option.map_some, pend_ren]) <;> rfl)⟩ ?_)))
  · rfl
theorem now0S_fc (l0 l1 : List UInt8) (p1 : Option (List UInt8)) (lf : Int) (dd : Bool) (s : List UInt8) : FC Try.prog G 25 [.ptr 0 0] (dkH ⟨l0, l1, (some s), p1, lf, dd⟩) (sA s) (dkH ⟨l0, l1, (some s), p1, lf, dd⟩) := by
  refine FC.of_wp [2] Try.func25 rfl rfl rfl rfl ⟨rfl, trivial⟩ ⟨dk_bel _ _, trivial⟩ (by exact Nat.le_of_ble_eq_true rfl) ?_
  intro A hG hnA hAB
  unfold start
  refine WP.rs hG ?_
  refine Ch.pu gdN (by exact ⟨rfl, trivial⟩) (OpS.assign) trivial rfl ?_
  refine Ch.nil ?_
  refine WP.seq ?_
  refine WP.rs hG ?_
  refine Ch.pu gdN (by exact ⟨rfl, trivial⟩) (OpS.move) trivial rfl ?_
  refine Ch.pu gdN (by exact ⟨rfl, trivial⟩) (OpS.nilCheckP) (by first | exact trivial | exact ⟨rfl, trivial⟩) rfl ?_
  refine Ch.pu gdN (by exact ⟨rfl, trivial⟩) (OpS.fieldAddr rfl rfl rfl rfl) (by first | exact trivial | exact ⟨rfl, trivial⟩) rfl ?_
  refine Ch.pu gdN (by exact ⟨rfl, trivial⟩) (OpS.loadP rfl rfl rfl) (by first | exact trivial | exact ⟨rfl, trivial⟩) rfl ?_
  refine Ch.pu gdN (by exact ⟨rfl, rfl, trivial⟩) (OpS.neNil (.s _) rfl) trivial rfl ?_
  refine Ch.nil ?_
  refine WP.cond_true rfl ?_
  refine WP.rs hG ?_
  refine Ch.pu gdN (by exact ⟨rfl, trivial⟩) (OpS.move) trivial rfl ?_
  refine Ch.pu gdN (by exact ⟨rfl, trivial⟩) (OpS.nilCheckP) (by first | exact trivial | exact ⟨rfl, trivial⟩) rfl ?_
  refine Ch.pu gdN (by exact ⟨rfl, trivial⟩) (OpS.fieldAddr rfl rfl rfl rfl) (by first | exact trivial | exact ⟨rfl, trivial⟩) rfl ?_
  refine Ch.pu gdN (by exact ⟨rfl, trivial⟩) (OpS.loadP rfl rfl rfl) (by first | exact trivial | exact ⟨rfl, trivial⟩) rfl ?_
  refine Ch.pu gdN (by exact ⟨rfl, trivial⟩) (OpS.nilCheckS) (by first | exact trivial | exact ⟨rfl, trivial⟩) rfl ?_
  refine Ch.pu gdN (by exact ⟨rfl, trivial⟩) (OpS.loadS rfl rfl) (by first | exact trivial | exact ⟨rfl, trivial⟩) rfl ?_
  refine Ch.pu gdN (by exact ⟨rfl, trivial⟩) (OpS.assign) trivial rfl ?_
  refine Ch.nil ?_
  refine WP.ret ?_
  refine (Ret.of (rs := [2]) (vs := [sA s]) (H' := dkH ⟨l0, l1, (some s), p1, lf, dd⟩) (res := sA s) [0] ?_ ?_ rfl ?_ (by simp only [List.length_cons, List.length_nil]; decide) ?_).1
  · exact (fun i hi => by rw [hnA] at hi; simp only [List.length_cons, List.length_nil] at hi ⊢; first | exact absurd hi (Nat.not_lt_zero _) | (revert i; decide))
  · (repeat (first | exact trivial | (refine And.intro ⟨(by first | trivial | (simp; first | done | fail) | exact ⟨trivial, hbel _⟩), _, rfl, (by first | exact .rfl _ | exact .nil | exact .of_eq (by simp [pend_ren]; first | done | fail) | exact AV.wk.sh (by simp [pend_ren]; first | done | fail) | exact .untip _ _ _)⟩ ?_)))
  · (repeat (first | exact trivial | refine HFromL.skip ?_ | (refine And.intro ⟨(by first | trivial | (simp; first | done | fail) | exact ⟨trivial, hbel _⟩), (by first | rfl | (simp [pend_ren]; first | done | fail) | (conv => rhs; simp only [AO.ren, AV.ren, AV.renL, Option.map_some, pend_ren]) <;> rfl)⟩ ?_)))
  · rfl
theorem now1N_fc (l0 l1 : List UInt8) (p0 : Option (List UInt8)) (lf : Int) (dd : Bool) : FC Try.prog G 25 [.ptr 0 2] (dkH ⟨l0, l1, p0, none, lf, dd⟩) (sA l1) (dkH ⟨l0, l1, p0, none, lf, dd⟩) := by
  refine FC.of_wp [2] Try.func25 rfl rfl rfl rfl ⟨rfl, trivial⟩ ⟨dk_bel _ _, trivial⟩ (by exact Nat.le_of_ble_eq_true rfl) ?_
  intro A hG hnA hAB
  unfold start
  refine WP.rs hG ?_
  refine Ch.pu gdN (by exact ⟨rfl, trivial⟩) (OpS.assign) trivial rfl ?_
  refine Ch.nil ?_
  refine WP.seq ?_
  refine WP.rs hG ?_
  refine Ch.pu gdN (by exact ⟨rfl, trivial⟩) (OpS.move) trivial rfl ?_
  refine Ch.pu gdN (by exact ⟨rfl, trivial⟩) (OpS.nilCheckP) (by first | exact trivial | exact ⟨rfl, trivial⟩) rfl ?_
  refine Ch.pu gdN (by exact ⟨rfl, trivial⟩) (OpS.fieldAddr rfl rfl rfl rfl) (by first | exact trivial | exact ⟨rfl, trivial⟩) rfl ?_
  refine Ch.pu gdN (by exact ⟨rfl, trivial⟩) (OpS.loadP rfl rfl rfl) (by first | exact trivial | exact ⟨rfl, trivial⟩) rfl ?_
  refine Ch.pu gdN (by exact ⟨rfl, rfl, trivial⟩) (OpS.neNilN rfl) (by first | exact trivial | exact ⟨rfl, trivial⟩) rfl ?_
  refine Ch.nil ?_
  refine WP.cond_false rfl ?_
  refine WP.skip ?_
  refine WP.rs hG ?_
  refine Ch.pu gdN (by exact ⟨rfl, trivial⟩) (OpS.move) trivial rfl ?_
  refine Ch.pu gdN (by exact ⟨rfl, trivial⟩) (OpS.nilCheckP) (by first | exact trivial | exact ⟨rfl, trivial⟩) rfl ?_
  refine Ch.pu gdN (by exact ⟨rfl, trivial⟩) (OpS.fieldAddr rfl rfl rfl rfl) (by first | exact trivial | exact ⟨rfl, trivial⟩) rfl ?_
  refine Ch.pu gdN (by exact ⟨rfl, trivial⟩) (OpS.loadP rfl rfl rfl) (by first | exact trivial | exact ⟨rfl, trivial⟩) rfl ?_
  refine Ch.pu gdN (by exact ⟨rfl, trivial⟩) (OpS.assign) trivial rfl ?_
  refine Ch.nil ?_
  refine WP.ret ?_
  refine (Ret.of (rs := [2]) (vs := [sA l1]) (H' := dkH ⟨l0, l1, p0, none, lf, dd⟩) (res := sA l1) [0] ?_ ?_ rfl ?_ (by simp only [List.length_cons, List.length_nil]; decide) ?_).1
  · exact (fun i hi => by rw [hnA] at hi; simp only [List.length_cons, List.length_nil] at hi ⊢; first | exact absurd hi (Nat.not_lt_zero _) | (revert i; decide))
  · (repeat (first | exact trivial | (refine And.intro ⟨(by first | trivial | (simp; first | done | fail) | exact ⟨trivial, hbel _⟩), _, rfl, (by first | exact .rfl _ | exact .nil | exact .of_eq (by simp [pend_ren]; first | done | fail) | exact AV.wk.sh (by simp [pend_ren]; first | done | fail) | exact .untip _ _ _)⟩ ?_)))
  · (repeat (first | exact trivial | refine HFromL.skip ?_ | (refine And.intro ⟨(by first | trivial | (simp; first | done | fail) | exact ⟨trivial, hbel _⟩), (by first | rfl | (simp [pend_ren]; first | done | fail) | (conv => rhs; simp only [AO.ren, AV.ren, AV.renL, Option.map_some, pend_ren]) <;> rfl)⟩ ?_)))
  · rfl
theorem now1S_fc (l0 l1 : List UInt8) (p0 : Option (List UInt8)) (lf : Int) (dd : Bool) (s : List UInt8) : FC Try.prog G 25 [.ptr 0 2] (dkH ⟨l0, l1, p0, (some s), lf, dd⟩) (sA s) (dkH ⟨l0, l1, p0, (some s), lf, dd⟩) := by
  refine FC.of_wp [2] Try.func25 rfl rfl rfl rfl ⟨rfl, trivial⟩ ⟨dk_bel _ _, trivial⟩ (by exact Nat.le_of_ble_eq_true rfl) ?_
  intro A hG hnA hAB
  unfold start
  refine WP.rs hG ?_
  refine Ch.pu gdN (by exact ⟨rfl, trivial⟩) (OpS.assign) trivial rfl ?_
  refine Ch.nil ?_
  refine WP.seq ?_
  refine WP.rs hG ?_
  refine Ch.pu gdN (by exact ⟨rfl, trivial⟩) (OpS.move) trivial rfl ?_
  refine Ch.pu gdN (by exact ⟨rfl, trivial⟩) (OpS.nilCheckP) (by first | exact trivial | exact ⟨rfl, trivial⟩) rfl ?_
  refine Ch.pu gdN (by exact ⟨rfl, trivial⟩) (OpS.fieldAddr rfl rfl rfl rfl) (by first | exact trivial | exact ⟨rfl, trivial⟩) rfl ?_
  refine Ch.pu gdN (by exact ⟨rfl, trivial⟩) (OpS.loadP rfl rfl rfl) (by first | exact trivial | exact ⟨rfl, trivial⟩) rfl ?_
  refine Ch.pu gdN (by exact ⟨rfl, rfl, trivial⟩) (OpS.neNil (.s _) rfl) trivial rfl ?_
  refine Ch.nil ?_
  refine WP.cond_true rfl ?_
  refine WP.rs hG ?_
  refine Ch.pu gdN (by exact ⟨rfl, trivial⟩) (OpS.move) trivial rfl ?_
  refine Ch.pu gdN (by exact ⟨rfl, trivial⟩) (OpS.nilCheckP) (by first | exact trivial | exact ⟨rfl, trivial⟩) rfl ?_
  refine Ch.pu gdN (by exact ⟨rfl, trivial⟩) (OpS.fieldAddr rfl rfl rfl rfl) (by first | exact trivial | exact ⟨rfl, trivial⟩) rfl ?_
  refine Ch.pu gdN (by exact ⟨rfl, trivial⟩) (OpS.loadP rfl rfl rfl) (by first | exact trivial | exact ⟨rfl, trivial⟩) rfl ?_
  refine Ch.pu gdN (by exact ⟨rfl, trivial⟩) (OpS.nilCheckS) (by first | exact trivial | exact ⟨rfl, trivial⟩) rfl ?_
  refine Ch.pu gdN (by exact ⟨rfl, trivial⟩) (OpS.loadS rfl rfl) (by first | exact trivial | exact ⟨rfl, trivial⟩) rfl ?_
  refine Ch.pu gdN (by exact ⟨rfl, trivial⟩) (OpS.assign) trivial rfl ?_
  refine Ch.nil ?_
  refine WP.ret ?_
  refine (Ret.of (rs := [2]) (vs := [sA s]) (H' := dkH ⟨l0, l1, p0, (some s), lf, dd⟩) (res := sA s) [0] ?_ ?_ rfl ?_ (by simp only [List.length_cons, List.length_nil]; decide) ?_).1
  · exact (fun i hi => by rw [hnA] at hi; simp only [List.length_cons, List.length_nil] at hi ⊢; first | exact absurd hi (Nat.not_lt_zero _) | (revert i; decide))
  · (repeat (first | exact trivial | (refine And.intro ⟨(by first | trivial | (simp; first | done | fail) | exact ⟨trivial, hbel _⟩), _, rfl, (by first | exact .rfl _ | exact .nil | exact .of_eq (by simp [pend_ren]; first | done | fail) | exact AV.wk.sh (by simp [pend_ren]; first | done | fail) | exact .untip _ _ _)⟩ ?_)))
  · (repeat (first | exact trivial | refine HFromL.skip ?_ | (refine And.intro ⟨(by first | trivial | (simp; first | done | fail) | exact ⟨trivial, hbel _⟩), (by first | rfl | (simp [pend_ren]; first | done | fail) | (conv => rhs; simp only [AO.ren, AV.ren, AV.renL, Option.map_some, pend_ren]) <;> rfl)⟩ ?_)))
  · rfl
theorem stays0N_fc (l0 l1 : List UInt8) (p1 : Option (List UInt8)) (lf : Int) (dd : Bool) (n : Int) : FC Try.prog G 27 [.ptr 0 0, .v (.int .i64 n)] (dkH ⟨l0, l1, none, p1, lf, dd⟩) (.tup []) (dkH ⟨l0, l1, none, p1, lf, dd⟩) := by
  refine FC.of_wp [] Try.func27 rfl rfl rfl rfl ⟨rfl, trivial, trivial⟩ ⟨dk_bel _ _, trivial⟩ (by exact Nat.le_of_ble_eq_true rfl) ?_
  intro A hG hnA hAB
  unfold start
  refine WP.rs hG ?_
  refine Ch.pu gdN (by exact ⟨rfl, trivial⟩) (OpS.move) trivial rfl ?_
  refine Ch.pu gdN (by exact ⟨rfl, trivial⟩) (OpS.nilCheckP) (by first | exact trivial | exact ⟨rfl, trivial⟩) rfl ?_
  refine Ch.pu gdN (by exact ⟨rfl, trivial⟩) (OpS.fieldAddr rfl rfl rfl rfl) (by first | exact trivial | exact ⟨rfl, trivial⟩) rfl ?_
  refine Ch.pu gdN (by exact ⟨rfl, trivial⟩) (OpS.loadP rfl rfl rfl) (by first | exact trivial | exact ⟨rfl, trivial⟩) rfl ?_
  refine Ch.pu gdN (by exact ⟨rfl, rfl, trivial⟩) (OpS.neNilN rfl) (by first | exact trivial | exact ⟨rfl, trivial⟩) rfl ?_
  refine Ch.nil ?_
  refine WP.cond_false rfl ?_
  refine WP.skip ?_
  refine (Ret.of (rs := []) (vs := []) (H' := dkH ⟨l0, l1, none, p1, lf, dd⟩) (res := .tup []) [0] ?_ ?_ rfl ?_ (by simp only [List.length_cons, List.length_nil]; decide) ?_).2
  · exact (fun i hi => by rw [hnA] at hi; simp only [List.length_cons, List.length_nil] at hi ⊢; first | exact absurd hi (Nat.not_lt_zero _) | (revert i; decide))
  · (repeat (first | exact trivial | (refine And.intro ⟨(by first | trivial | (simp; first | done | fail) | exact ⟨trivial, hbel _⟩), _, rfl, (by first | exact .rfl _ | exact .nil | exact .of_eq (by simp [pend_ren]; first | done | fail) | exact AV.wk.sh (by simp [pend_ren]; first | done | fail) | exact .untip _ _ _)⟩ ?_)))
  · (repeat (first | exact trivial | refine HFromL.skip ?_ | (refine And.intro ⟨(by first | trivial | (simp; first | done | fail) | exact ⟨trivial, hbel _⟩), (by first | rfl | (simp [pend_ren]; first | done | fail) | (conv => rhs; simp only [AO.ren, AV.ren, AV.renL, Option.map_some, pend_ren]) <;> rfl)⟩ ?_)))
  · exact ⟨_, rfl, rfl, by simp [ls, TsOk, List.zip, List.zipWith]⟩
theorem stays0S_fc (l0 l1 : List UInt8) (p1 : Option (List UInt8)) (lf : Int) (dd : Bool) (s : List UInt8) (n : Nat) (h1 : n ≤ s.length) (h2 : n ≤ l0.length) (h3 : l0.length ≤ 1000000) (h4 : s.length ≤ 1000000) : FC Try.prog G 27 [.ptr 0 0, .v (.int .i64 (n : Int))] (dkH ⟨l0, l1, some s, p1, lf, dd⟩) (.tup []) (dkH ⟨s.take n ++ l0.drop n, l1, none, p1, lf, dd⟩) := by
  have e1 : (s.take n).length = n := by rw [List.length_take]; omega
  have e2 : (l0.drop n).length ≤ 1000000 := by rw [List.length_drop]; omega
  refine FC.of_wp [] Try.func27 rfl rfl rfl rfl ⟨rfl, trivial, trivial⟩ ⟨dk_bel _ _, trivial⟩ (by exact Nat.le_of_ble_eq_true rfl) ?_
  intro A hG hnA hAB
  unfold start
  refine WP.rs hG ?_
  refine Ch.pu gdN (by exact ⟨rfl, trivial⟩) (OpS.move) trivial rfl ?_
  refine Ch.pu gdN (by exact ⟨rfl, trivial⟩) (OpS.nilCheckP) (by first | exact trivial | exact ⟨rfl, trivial⟩) rfl ?_
  refine Ch.pu gdN (by exact ⟨rfl, trivial⟩) (OpS.fieldAddr rfl rfl rfl rfl) (by first | exact trivial | exact ⟨rfl, trivial⟩) rfl ?_
  refine Ch.pu gdN (by exact ⟨rfl, trivial⟩) (OpS.loadP rfl rfl rfl) (by first | exact trivial | exact ⟨rfl, trivial⟩) rfl ?_
  refine Ch.pu gdN (by exact ⟨rfl, rfl, trivial⟩) (OpS.neNil (.s _) rfl) trivial rfl ?_
  refine Ch.nil ?_
  refine WP.cond_true rfl ?_
  refine WP.rsD (by kernel_rfl) hG ?_
  refine Ch.pu gdN (by exact ⟨rfl, trivial⟩) (OpS.move) trivial rfl ?_
  refine Ch.pu gdN (by exact ⟨rfl, trivial⟩) (OpS.move) trivial rfl ?_
  refine Ch.pu gdN (by exact ⟨rfl, trivial⟩) (OpS.nilCheckP) (by first | exact trivial | exact ⟨rfl, trivial⟩) rfl ?_
  refine Ch.pu gdN (by exact ⟨rfl, trivial⟩) (OpS.fieldAddr rfl rfl rfl rfl) (by first | exact trivial | exact ⟨rfl, trivial⟩) rfl ?_
  refine Ch.pu gdN (by exact ⟨rfl, trivial⟩) (OpS.loadP rfl rfl rfl) (by first | exact trivial | exact ⟨rfl, trivial⟩) rfl ?_
  refine Ch.pu gdN (by exact ⟨rfl, trivial⟩) (OpS.nilCheckS) (by first | exact trivial | exact ⟨rfl, trivial⟩) rfl ?_
  refine Ch.pu gdN (by exact ⟨rfl, trivial⟩) (OpS.loadS rfl rfl) (by first | exact trivial | exact ⟨rfl, trivial⟩) rfl ?_
  refine Ch.pu gdN (by exact ⟨rfl, trivial⟩) (OpS.move) trivial rfl ?_
  refine Ch.pu gdN (by exact ⟨rfl, rfl, trivial⟩) (OpS.sliceSh rfl (by first | with_reducible exact Int.toNat_natCast _ | with_reducible exact tnLit _ _ | with_reducible exact tnLitA _ _ | with_reducible exact tnL _ | with_reducible exact tnA _ _ | with_reducible exact tnM _ _ | with_reducible exact tnMA _ _ _ | exact rfl) (by omega) (by omega)) trivial rfl ?_
  refine Ch.pu gdN (by exact ⟨rfl, trivial⟩) (OpS.move) trivial rfl ?_
  refine Ch.pu gdN (by exact ⟨rfl, trivial⟩) (OpS.nilCheckP) (by first | exact trivial | exact ⟨rfl, trivial⟩) rfl ?_
  refine Ch.pu gdN (by exact ⟨rfl, trivial⟩) (OpS.fieldAddr rfl rfl rfl rfl) (by first | exact trivial | exact ⟨rfl, trivial⟩) rfl ?_
  refine Ch.pu gdN (by exact ⟨rfl, trivial⟩) (OpS.loadP rfl rfl rfl) (by first | exact trivial | exact ⟨rfl, trivial⟩) rfl ?_
  refine Ch.pu gdN (by exact ⟨rfl, trivial⟩) (OpS.move) trivial rfl ?_
  refine Ch.pu gdN (by exact ⟨rfl, rfl, trivial⟩) (OpS.sliceSl (l := l0) rfl (by with_reducible exact Int.toNat_natCast _) (by omega) (by omega)) trivial rfl ?_
  refine Ch.pu gdN (by exact ⟨rfl, rfl, trivial⟩) (OpS.strAdd (a := s.take n) (b := l0.drop n) (by omega)) trivial rfl ?_
  refine Ch.pu gdN (by exact ⟨rfl, trivial⟩) (OpS.nilCheckP) (by first | exact trivial | exact ⟨rfl, trivial⟩) rfl ?_
  refine Ch.pu gdN (by exact ⟨rfl, trivial⟩) (OpS.fieldAddr rfl rfl rfl rfl) (by first | exact trivial | exact ⟨rfl, trivial⟩) rfl ?_
  refine Ch.wr gdN (by exact ⟨rfl, rfl, trivial⟩) (OpS.storeP (cs := dkC ⟨l0, l1, some s, p1, lf, dd⟩) rfl rfl rfl (by simp)) (by first | exact trivial | exact ⟨rfl, trivial⟩) (by first | exact trivial | exact ⟨rfl, trivial⟩ | exact ⟨rfl, rfl, trivial⟩) ?_
  refine Ch.nilD ?_ (by kernel_rfl)
  refine WP.rg hG ?_
  refine Ch.pu gdN (by exact ⟨rfl, trivial⟩) (OpS.move) trivial rfl ?_
  refine Ch.pu gdN (by exact ⟨rfl, trivial⟩) (OpS.nilCheckP) (by first | exact trivial | exact ⟨rfl, trivial⟩) rfl ?_
  refine Ch.pu gdN (by exact ⟨rfl, trivial⟩) (OpS.fieldAddr rfl rfl rfl rfl) (by first | exact trivial | exact ⟨rfl, trivial⟩) rfl ?_
  refine Ch.wr gdN (by exact ⟨rfl, rfl, trivial⟩) (OpS.storeP (cs := dkC ⟨s.take n ++ l0.drop n, l1, some s, p1, lf, dd⟩) rfl rfl rfl (by simp)) (by first | exact trivial | exact ⟨rfl, trivial⟩) (by first | exact trivial | exact ⟨rfl, trivial⟩ | exact ⟨rfl, rfl, trivial⟩) ?_
  refine Ch.nil ?_
  refine (Ret.of (rs := []) (vs := []) (H' := dkH ⟨s.take n ++ l0.drop n, l1, none, p1, lf, dd⟩) (res := .tup []) [0] ?_ ?_ rfl ?_ (by simp only [List.length_cons, List.length_nil]; decide) ?_).2
  · exact (fun i hi => by rw [hnA] at hi; simp only [List.length_cons, List.length_nil] at hi ⊢; first | exact absurd hi (Nat.not_lt_zero _) | (revert i; decide))
  · (repeat (first | exact trivial | (refine And.intro ⟨(by first | trivial | (simp; first | done | fail) | exact ⟨trivial, hbel _⟩), _, rfl, (by first | exact .rfl _ | exact .nil | exact .of_eq (by simp [pend_ren]; first | done | fail) | exact AV.wk.sh (by simp [pend_ren]; first | done | fail) | exact .untip _ _ _)⟩ ?_)))
  · (repeat (first | exact trivial | refine HFromL.skip ?_ | (refine And.intro ⟨(by first | trivial | (simp; first | done | fail) | exact ⟨trivial, hbel _⟩), (by first | rfl | (simp [pend_ren]; first | done | fail) | (conv => rhs; simp only [AO.ren, AV.ren, AV.renL, Option.map_some, pend_ren]) <;> rfl)⟩ ?_)))
  · exact ⟨_, rfl, rfl, by simp [ls, TsOk, List.zip, List.zipWith]⟩
theorem stays1N_fc (l0 l1 : List UInt8) (p0 : Option (List UInt8)) (lf : Int) (dd : Bool) (n : Int) : FC Try.prog G 27 [.ptr 0 2, .v (.int .i64 n)] (dkH ⟨l0, l1, p0, none, lf, dd⟩) (.tup []) (dkH ⟨l0, l1, p0, none, lf, dd⟩) := by
  refine FC.of_wp [] Try.func27 rfl rfl rfl rfl ⟨rfl, trivial, trivial⟩ ⟨dk_bel _ _, trivial⟩ (by exact Nat.le_of_ble_eq_true rfl) ?_
  intro A hG hnA hAB
  unfold start
  refine WP.rs hG ?_
  refine Ch.pu gdN (by exact ⟨rfl, trivial⟩) (OpS.move) trivial rfl ?_
  refine Ch.pu gdN (by exact ⟨rfl, trivial⟩) (OpS.nilCheckP) (by first | exact trivial | exact ⟨rfl, trivial⟩) rfl ?_
  refine Ch.pu gdN (by exact ⟨rfl, trivial⟩) (OpS.fieldAddr rfl rfl rfl rfl) (by first | exact trivial | exact ⟨rfl, trivial⟩) rfl ?_
  refine Ch.pu gdN (by exact ⟨rfl, trivial⟩) (OpS.loadP rfl rfl rfl) (by first | exact trivial | exact ⟨rfl, trivial⟩) rfl ?_
  refine Ch.pu gdN (by exact ⟨rfl, rfl, trivial⟩) (OpS.neNilN rfl) (by first | exact trivial | exact ⟨rfl, trivial⟩) rfl ?_
  refine Ch.nil ?_
  refine WP.cond_false rfl ?_
  refine WP.skip ?_
  refine (Ret.of (rs := []) (vs := []) (H' := dkH ⟨l0, l1, p0, none, lf, dd⟩) (res := .tup []) [0] ?_ ?_ rfl ?_ (by simp only [List.length_cons, List.length_nil]; decide) ?_).2
  · exact (fun i hi => by rw [hnA] at hi; simp only [List.length_cons, List.length_nil] at hi ⊢; first | exact absurd hi (Nat.not_lt_zero _) | (revert i; decide))
  · (repeat (first | exact trivial | (refine And.intro ⟨(by first | trivial | (simp; first | done | fail) | exact ⟨trivial, hbel _⟩), _, rfl, (by first | exact .rfl _ | exact .nil | exact .of_eq (by simp [pend_ren]; first | done | fail) | exact AV.wk.sh (by simp [pend_ren]; first | done | fail) | exact .untip _ _ _)⟩ ?_)))
  · (repeat (first | exact trivial | refine HFromL.skip ?_ | (refine And.intro ⟨(by first | trivial | (simp; first | done | fail) | exact ⟨trivial, hbel _⟩), (by first | rfl | (simp [pend_ren]; first | done | fail) | (conv => rhs; simp only [AO.ren, AV.ren, AV.renL, Option.map_some, pend_ren]) <;> rfl)⟩ ?_)))
  · exact ⟨_, rfl, rfl, by simp [ls, TsOk, List.zip, List.zipWith]⟩
theorem stays1S_fc (l0 l1 : List UInt8) (p0 : Option (List UInt8)) (lf : Int) (dd : Bool) (s : List UInt8) (n : Nat) (h1 : n ≤ s.length) (h2 : n ≤ l1.length) (h3 : l1.length ≤ 1000000) (h4 : s.length ≤ 1000000) : FC Try.prog G 27 [.ptr 0 2, .v (.int .i64 (n : Int))] (dkH ⟨l0, l1, p0, some s, lf, dd⟩) (.tup []) (dkH ⟨l0, s.take n ++ l1.drop n, p0, none, lf, dd⟩) := by
  have e1 : (s.take n).length = n := by rw [List.length_take]; omega
  have e2 : (l1.drop n).length ≤ 1000000 := by rw [List.length_drop]; omega
  refine FC.of_wp [] Try.func27 rfl rfl rfl rfl ⟨rfl, trivial, trivial⟩ ⟨dk_bel _ _, trivial⟩ (by exact Nat.le_of_ble_eq_true rfl) ?_
  intro A hG hnA hAB
  unfold start
  refine WP.rs hG ?_
  refine Ch.pu gdN (by exact ⟨rfl, trivial⟩) (OpS.move) trivial rfl ?_
  refine Ch.pu gdN (by exact ⟨rfl, trivial⟩) (OpS.nilCheckP) (by first | exact trivial | exact ⟨rfl, trivial⟩) rfl ?_
  refine Ch.pu gdN (by exact ⟨rfl, trivial⟩) (OpS.fieldAddr rfl rfl rfl rfl) (by first | exact trivial | exact ⟨rfl, trivial⟩) rfl ?_
  refine Ch.pu gdN (by exact ⟨rfl, trivial⟩) (OpS.loadP rfl rfl rfl) (by first | exact trivial | exact ⟨rfl, trivial⟩) rfl ?_
  refine Ch.pu gdN (by exact ⟨rfl, rfl, trivial⟩) (OpS.neNil (.s _) rfl) trivial rfl ?_
  refine Ch.nil ?_
  refine WP.cond_true rfl ?_
  refine WP.rsD (by kernel_rfl) hG ?_
  refine Ch.pu gdN (by exact ⟨rfl, trivial⟩) (OpS.move) trivial rfl ?_
  refine Ch.pu gdN (by exact ⟨rfl, trivial⟩) (OpS.move) trivial rfl ?_
  refine Ch.pu gdN (by exact ⟨rfl, trivial⟩) (OpS.nilCheckP) (by first | exact trivial | exact ⟨rfl, trivial⟩) rfl ?_
  refine Ch.pu gdN (by exact ⟨rfl, trivial⟩) (OpS.fieldAddr rfl rfl rfl rfl) (by first | exact trivial | exact ⟨rfl, trivial⟩) rfl ?_
  refine Ch.pu gdN (by exact ⟨rfl, trivial⟩) (OpS.loadP rfl rfl rfl) (by first | exact trivial | exact ⟨rfl, trivial⟩) rfl ?_
  refine Ch.pu gdN (by exact ⟨rfl, trivial⟩) (OpS.nilCheckS) (by first | exact trivial | exact ⟨rfl, trivial⟩) rfl ?_
  refine Ch.pu gdN (by exact ⟨rfl, trivial⟩) (OpS.loadS rfl rfl) (by first | exact trivial | exact ⟨rfl, trivial⟩) rfl ?_
  refine Ch.pu gdN (by exact ⟨rfl, trivial⟩) (OpS.move) trivial rfl ?_
  refine Ch.pu gdN (by exact ⟨rfl, rfl, trivial⟩) (OpS.sliceSh rfl (by first | with_reducible exact Int.toNat_natCast _ | with_reducible exact tnLit _ _ | with_reducible exact tnLitA _ _ | with_reducible exact tnL _ | with_reducible exact tnA _ _ | with_reducible exact tnM _ _ | with_reducible exact tnMA _ _ _ | exact rfl) (by omega) (by omega)) trivial rfl ?_
  refine Ch.pu gdN (by exact ⟨rfl, trivial⟩) (OpS.move) trivial rfl ?_
  refine Ch.pu gdN (by exact ⟨rfl, trivial⟩) (OpS.nilCheckP) (by first | exact trivial | exact ⟨rfl, trivial⟩) rfl ?_
  refine Ch.pu gdN (by exact ⟨rfl, trivial⟩) (OpS.fieldAddr rfl rfl rfl rfl) (by first | exact trivial | exact ⟨rfl, trivial⟩) rfl ?_
  refine Ch.pu gdN (by exact ⟨rfl, trivial⟩) (OpS.loadP rfl rfl rfl) (by first | exact trivial | exact ⟨rfl, trivial⟩) rfl ?_
  refine Ch.pu gdN (by exact ⟨rfl, trivial⟩) (OpS.move) trivial rfl ?_
  refine Ch.pu gdN (by exact ⟨rfl, rfl, trivial⟩) (OpS.sliceSl (l := l1) rfl (by with_reducible exact Int.toNat_natCast _) (by omega) (by omega)) trivial rfl ?_
  refine Ch.pu gdN (by exact ⟨rfl, rfl, trivial⟩) (OpS.strAdd (a := s.take n) (b := l1.drop n) (by omega)) trivial rfl ?_
  refine Ch.pu gdN (by exact ⟨rfl, trivial⟩) (OpS.nilCheckP) (by first | exact trivial | exact ⟨rfl, trivial⟩) rfl ?_
  refine Ch.pu gdN (by exact ⟨rfl, trivial⟩) (OpS.fieldAddr rfl rfl rfl rfl) (by first | exact trivial | exact ⟨rfl, trivial⟩) rfl ?_
  refine Ch.wr gdN (by exact ⟨rfl, rfl, trivial⟩) (OpS.storeP (cs := dkC ⟨l0, l1, p0, some s, lf, dd⟩) rfl rfl rfl (by simp)) (by first | exact trivial | exact ⟨rfl, trivial⟩) (by first | exact trivial | exact ⟨rfl, trivial⟩ | exact ⟨rfl, rfl, trivial⟩) ?_
  refine Ch.nilD ?_ (by kernel_rfl)
  refine WP.rg hG ?_
  refine Ch.pu gdN (by exact ⟨rfl, trivial⟩) (OpS.move) trivial rfl ?_
  refine Ch.pu gdN (by exact ⟨rfl, trivial⟩) (OpS.nilCheckP) (by first | exact trivial | exact ⟨rfl, trivial⟩) rfl ?_
  refine Ch.pu gdN (by exact ⟨rfl, trivial⟩) (OpS.fieldAddr rfl rfl rfl rfl) (by first | exact trivial | exact ⟨rfl, trivial⟩) rfl ?_
  refine Ch.wr gdN (by exact ⟨rfl, rfl, trivial⟩) (OpS.storeP (cs := dkC ⟨l0, s.take n ++ l1.drop n, p0, some s, lf, dd⟩) rfl rfl rfl (by simp)) (by first | exact trivial | exact ⟨rfl, trivial⟩) (by first | exact trivial | exact ⟨rfl, trivial⟩ | exact ⟨rfl, rfl, trivial⟩) ?_
  refine Ch.nil ?_
  refine (Ret.of (rs := []) (vs := []) (H' := dkH ⟨l0, s.take n ++ l1.drop n, p0, none, lf, dd⟩) (res := .tup []) [0] ?_ ?_ rfl ?_ (by simp only [List.length_cons, List.length_nil]; decide) ?_).2
  · exact (fun i hi => by rw [hnA] at hi; simp only [List.length_cons, List.length_nil] at hi ⊢; first | exact absurd hi (Nat.not_lt_zero _) | (revert i; decide))
  · (repeat (first | exact trivial | (refine And.intro ⟨(by first | trivial | (simp; first | done | fail) | exact ⟨trivial, hbel _⟩), _, rfl, (by first | exact .rfl _ | exact .nil | exact .of_eq (by simp [pend_ren]; first | done | fail) | exact AV.wk.sh (by simp [pend_ren]; first | done | fail) | exact .untip _ _ _)⟩ ?_)))
  · (repeat (first | exact trivial | refine HFromL.skip ?_ | (refine And.intro ⟨(by first | trivial | (simp; first | done | fail) | exact ⟨trivial, hbel _⟩), (by first | rfl | (simp [pend_ren]; first | done | fail) | (conv => rhs; simp only [AO.ren, AV.ren, AV.renL, Option.map_some, pend_ren]) <;> rfl)⟩ ?_)))
  · exact ⟨_, rfl, rfl, by simp [ls, TsOk, List.zip, List.zipWith]⟩
end
end Go.Proofs.Ytjmbendppcildaa.E
end
section
/- Layer 12's disk: its methods. -/
namespace Go.Proofs.Ytjmbendppcildaa.E
open Go Go.RowKit Go.Proofs.Ytjmbendppcildaa.V
attribute [local go_sem] B_size B_append B_extract mk_B B_toList take_drop_len List.length_drop List.length_take sgn32 sgn64 add32 sub32 mul32 add64 sub64 mul64 mul64_8 and32 or32 xor32 and64 or64 xor64 shl32_run shr32_run shl64_run shr64_run not32 not32' xor32_all w_u32_u8 w_u64_u8 w_i64_u8 w_u8_u32 w_u8_u64 w_u32_u64 w_u64_u32 w_u8_u8 w_u32_u32 w_u64_u64
attribute [local go_sem ↓] run_index_B' add32 sub32 mul32 add64 sub64 mul64 mul64_8 and32 or32 xor32 and64 or64 xor64 shl32_run shr32_run shl64_run shr64_run not32 not32' xor32_all w_u32_u8 w_u64_u8 w_i64_u8 w_u8_u32 w_u8_u64 w_u32_u64 w_u64_u32 w_u8_u8 w_u32_u32 w_u64_u64 w_u64_nat w_u32_nat w_u8_nat
set_option maxRecDepth 4000
--NRM pend_ren
section
variable {G : List (Nat × Array Value)}
theorem at0_fc (d : Dk) : FC Try.prog G 28 [.ptr 0 0, .v (.int .i64 0)] (dkH d) (.ptr 0 0) (dkH d) := by
  refine FC.of_wp [4] Try.func28 rfl rfl rfl rfl ⟨rfl, trivial, trivial⟩ ⟨dk_bel _ _, trivial⟩ (by exact Nat.le_of_ble_eq_true rfl) ?_
  intro A hG hnA hAB
  unfold start
  refine WP.rs hG ?_
  refine Ch.pu gdN (by exact ⟨rfl, trivial⟩) (OpS.assign) trivial rfl ?_
  refine Ch.nil ?_
  refine WP.seq ?_
  refine WP.rs hG ?_
  refine Ch.pu gdN (by exact ⟨rfl, trivial⟩) (OpS.move) trivial rfl ?_
  refine Ch.pu gdN (by exact ⟨rfl, rfl, trivial⟩) (OpS.int (op := .lss) (v' := .bool false) rfl rfl) trivial rfl ?_
  refine Ch.pu gdN (by exact ⟨rfl, trivial⟩) (OpS.move) trivial rfl ?_
  refine Ch.pu (by exact gdT rfl rfl) (by exact ⟨rfl, trivial⟩) (OpS.move) trivial rfl ?_
  refine Ch.pu (by exact gdT rfl rfl) (by exact ⟨rfl, rfl, trivial⟩) (OpS.int (op := .geq) (v' := .bool false) rfl rfl) trivial rfl ?_
  refine Ch.pu gdN (by first | exact ⟨rfl, rfl, trivial⟩ | exact ⟨rfl, rfl, rfl, trivial⟩) (OpS.pickF) trivial rfl ?_
  refine Ch.nil ?_
  refine WP.cond_false rfl ?_
  refine WP.skip ?_
  refine WP.rs hG ?_
  refine Ch.pu gdN (by exact ⟨rfl, trivial⟩) (OpS.move) trivial rfl ?_
  refine Ch.pu gdN (by exact ⟨rfl, trivial⟩) (OpS.move) trivial rfl ?_
  refine Ch.pu gdN (by exact ⟨rfl, trivial⟩) (OpS.nilCheckP) (by first | exact trivial | exact ⟨rfl, trivial⟩) rfl ?_
  refine Ch.pu gdN (by exact ⟨rfl, trivial⟩) (OpS.fieldAddr rfl rfl rfl rfl) (by first | exact trivial | exact ⟨rfl, trivial⟩) rfl ?_
  refine Ch.pu gdN (by exact ⟨rfl, rfl, trivial⟩) (OpS.indexAddrP rfl rfl rfl (by omega) (by omega)) (by first | exact trivial | exact ⟨rfl, trivial⟩) rfl ?_
  refine Ch.pu gdN (by exact ⟨rfl, trivial⟩) (OpS.assign) trivial rfl ?_
  refine Ch.nil ?_
  refine WP.ret ?_
  refine (Ret.of (rs := [4]) (vs := [.ptr 0 0]) (H' := dkH d) (res := .ptr 0 0) [0] ?_ ?_ rfl ?_ (by simp only [List.length_cons, List.length_nil]; decide) ?_).1
  · exact (fun i hi => by rw [hnA] at hi; simp only [List.length_cons, List.length_nil] at hi ⊢; first | exact absurd hi (Nat.not_lt_zero _) | (revert i; decide))
  · (repeat (first | exact trivial | (refine And.intro ⟨(by first | trivial | (simp; first | done | fail) | exact ⟨trivial, hbel _⟩), _, rfl, (by first | exact .rfl _ | exact .nil | exact .of_eq (by simp [pend_ren]; first | done | fail) | exact AV.wk.sh (by simp [pend_ren]; first | done | fail) | exact .untip _ _ _)⟩ ?_)))
  · (repeat (first | exact trivial | refine HFromL.skip ?_ | (refine And.intro ⟨(by first | trivial | (simp; first | done | fail) | exact ⟨trivial, hbel _⟩), (by first | rfl | (simp [pend_ren]; first | done | fail) | (conv => rhs; simp only [AO.ren, AV.ren, AV.renL, Option.map_some, pend_ren]) <;> rfl)⟩ ?_)))
  · rfl
theorem at1_fc (d : Dk) : FC Try.prog G 28 [.ptr 0 0, .v (.int .i64 1)] (dkH d) (.ptr 0 2) (dkH d) := by
  refine FC.of_wp [4] Try.func28 rfl rfl rfl rfl ⟨rfl, trivial, trivial⟩ ⟨dk_bel _ _, trivial⟩ (by exact Nat.le_of_ble_eq_true rfl) ?_
  intro A hG hnA hAB
  unfold start
  refine WP.rs hG ?_
  refine Ch.pu gdN (by exact ⟨rfl, trivial⟩) (OpS.assign) trivial rfl ?_
  refine Ch.nil ?_
  refine WP.seq ?_
  refine WP.rs hG ?_
  refine Ch.pu gdN (by exact ⟨rfl, trivial⟩) (OpS.move) trivial rfl ?_
  refine Ch.pu gdN (by exact ⟨rfl, rfl, trivial⟩) (OpS.int (op := .lss) (v' := .bool false) rfl rfl) trivial rfl ?_
  refine Ch.pu gdN (by exact ⟨rfl, trivial⟩) (OpS.move) trivial rfl ?_
  refine Ch.pu (by exact gdT rfl rfl) (by exact ⟨rfl, trivial⟩) (OpS.move) trivial rfl ?_
  refine Ch.pu (by exact gdT rfl rfl) (by exact ⟨rfl, rfl, trivial⟩) (OpS.int (op := .geq) (v' := .bool false) rfl rfl) trivial rfl ?_
  refine Ch.pu gdN (by first | exact ⟨rfl, rfl, trivial⟩ | exact ⟨rfl, rfl, rfl, trivial⟩) (OpS.pickF) trivial rfl ?_
  refine Ch.nil ?_
  refine WP.cond_false rfl ?_
  refine WP.skip ?_
  refine WP.rs hG ?_
  refine Ch.pu gdN (by exact ⟨rfl, trivial⟩) (OpS.move) trivial rfl ?_
  refine Ch.pu gdN (by exact ⟨rfl, trivial⟩) (OpS.move) trivial rfl ?_
  refine Ch.pu gdN (by exact ⟨rfl, trivial⟩) (OpS.nilCheckP) (by first | exact trivial | exact ⟨rfl, trivial⟩) rfl ?_
  refine Ch.pu gdN (by exact ⟨rfl, trivial⟩) (OpS.fieldAddr rfl rfl rfl rfl) (by first | exact trivial | exact ⟨rfl, trivial⟩) rfl ?_
  refine Ch.pu gdN (by exact ⟨rfl, rfl, trivial⟩) (OpS.indexAddrP rfl rfl rfl (by omega) (by omega)) (by first | exact trivial | exact ⟨rfl, trivial⟩) rfl ?_
  refine Ch.pu gdN (by exact ⟨rfl, trivial⟩) (OpS.assign) trivial rfl ?_
  refine Ch.nil ?_
  refine WP.ret ?_
  refine (Ret.of (rs := [4]) (vs := [.ptr 0 2]) (H' := dkH d) (res := .ptr 0 2) [0] ?_ ?_ rfl ?_ (by simp only [List.length_cons, List.length_nil]; decide) ?_).1
  · exact (fun i hi => by rw [hnA] at hi; simp only [List.length_cons, List.length_nil] at hi ⊢; first | exact absurd hi (Nat.not_lt_zero _) | (revert i; decide))
  · (repeat (first | exact trivial | (refine And.intro ⟨(by first | trivial | (simp; first | done | fail) | exact ⟨trivial, hbel _⟩), _, rfl, (by first | exact .rfl _ | exact .nil | exact .of_eq (by simp [pend_ren]; first | done | fail) | exact AV.wk.sh (by simp [pend_ren]; first | done | fail) | exact .untip _ _ _)⟩ ?_)))
  · (repeat (first | exact trivial | refine HFromL.skip ?_ | (refine And.intro ⟨(by first | trivial | (simp; first | done | fail) | exact ⟨trivial, hbel _⟩), (by first | rfl | (simp [pend_ren]; first | done | fail) | (conv => rhs; simp only [AO.ren, AV.ren, AV.renL, Option.map_some, pend_ren]) <;> rfl)⟩ ?_)))
  · rfl
theorem atN_fc (d : Dk) (n : Int) (hn : n < 0 ∨ 2 ≤ n) (hb : -9223372036854775808 ≤ n ∧ n ≤ 9223372036854775807) : FC Try.prog G 28 [.ptr 0 0, .v (.int .i64 n)] (dkH d) (.v (.pointer none)) (dkH d) := by
  refine FC.of_wp [4] Try.func28 rfl rfl rfl rfl ⟨rfl, trivial, trivial⟩ ⟨dk_bel _ _, trivial⟩ (by exact Nat.le_of_ble_eq_true rfl) ?_
  intro A hG hnA hAB
  unfold start
  refine WP.rs hG ?_
  refine Ch.pu gdN (by exact ⟨rfl, trivial⟩) (OpS.assign) trivial rfl ?_
  refine Ch.nil ?_
  refine WP.seq ?_
  rcases hn with hq | hq
  · have hs := hq
    refine WP.rs hG ?_
    refine Ch.pu gdN (by exact ⟨rfl, trivial⟩) (OpS.move) trivial rfl ?_
    refine Ch.pu gdN (by exact ⟨rfl, rfl, trivial⟩) (OpS.int (op := .lss) (v' := .bool true) rfl (by exact congrArg Value.bool (decide_eq_true (by omega)))) trivial rfl ?_
    refine Ch.pu gdN (by exact ⟨rfl, trivial⟩) (OpS.move) trivial rfl ?_
    refine Ch.skU (gdF rfl rfl rfl) rfl ?_
    refine Ch.skU (gdF rfl rfl rfl) rfl ?_
    refine Ch.pu gdN (by first | exact ⟨rfl, rfl, trivial⟩ | exact ⟨rfl, rfl, rfl, trivial⟩) (OpS.pickT) trivial rfl ?_
    refine Ch.nil ?_
    refine WP.cond_true rfl ?_
    refine WP.rs hG ?_
    refine Ch.pu gdN (by exact ⟨rfl, trivial⟩) (OpS.assign) trivial rfl ?_
    refine Ch.nil ?_
    refine WP.ret ?_
    refine (Ret.of (rs := [4]) (vs := [.v (.pointer none)]) (H' := dkH d) (res := .v (.pointer none)) [0] ?_ ?_ rfl ?_ (by simp only [List.length_cons, List.length_nil]; decide) ?_).1
    · exact (fun i hi => by rw [hnA] at hi; simp only [List.length_cons, List.length_nil] at hi ⊢; first | exact absurd hi (Nat.not_lt_zero _) | (revert i; decide))
    · (repeat (first | exact trivial | (refine And.intro ⟨(by first | trivial | (simp; first | done | fail) | exact ⟨trivial, hbel _⟩), _, rfl, (by first | exact .rfl _ | exact .nil | exact .of_eq (by simp [pend_ren]; first | done | fail) | exact AV.wk.sh (by simp [pend_ren]; first | done | fail) | exact .untip _ _ _)⟩ ?_)))
    · (repeat (first | exact trivial | refine HFromL.skip ?_ | (refine And.intro ⟨(by first | trivial | (simp; first | done | fail) | exact ⟨trivial, hbel _⟩), (by first | rfl | (simp [pend_ren]; first | done | fail) | (conv => rhs; simp only [AO.ren, AV.ren, AV.renL, Option.map_some, pend_ren]) <;> rfl)⟩ ?_)))
    · rfl
  · have hs := hq
    refine WP.rs hG ?_
    refine Ch.pu gdN (by exact ⟨rfl, trivial⟩) (OpS.move) trivial rfl ?_
    refine Ch.pu gdN (by exact ⟨rfl, rfl, trivial⟩) (OpS.int (op := .lss) (v' := .bool false) rfl (by exact congrArg Value.bool (decide_eq_false (by omega)))) trivial rfl ?_
    refine Ch.pu gdN (by exact ⟨rfl, trivial⟩) (OpS.move) trivial rfl ?_
    refine Ch.pu (by exact gdT rfl rfl) (by exact ⟨rfl, trivial⟩) (OpS.move) trivial rfl ?_
    refine Ch.pu (by exact gdT rfl rfl) (by exact ⟨rfl, rfl, trivial⟩) (OpS.int (op := .geq) (v' := .bool true) rfl (by exact congrArg Value.bool (decide_eq_true (by omega)))) trivial rfl ?_
    refine Ch.pu gdN (by first | exact ⟨rfl, rfl, trivial⟩ | exact ⟨rfl, rfl, rfl, trivial⟩) (OpS.pickF) trivial rfl ?_
    refine Ch.nil ?_
    refine WP.cond_true rfl ?_
    refine WP.rs hG ?_
    refine Ch.pu gdN (by exact ⟨rfl, trivial⟩) (OpS.assign) trivial rfl ?_
    refine Ch.nil ?_
    refine WP.ret ?_
    refine (Ret.of (rs := [4]) (vs := [.v (.pointer none)]) (H' := dkH d) (res := .v (.pointer none)) [0] ?_ ?_ rfl ?_ (by simp only [List.length_cons, List.length_nil]; decide) ?_).1
    · exact (fun i hi => by rw [hnA] at hi; simp only [List.length_cons, List.length_nil] at hi ⊢; first | exact absurd hi (Nat.not_lt_zero _) | (revert i; decide))
    · (repeat (first | exact trivial | (refine And.intro ⟨(by first | trivial | (simp; first | done | fail) | exact ⟨trivial, hbel _⟩), _, rfl, (by first | exact .rfl _ | exact .nil | exact .of_eq (by simp [pend_ren]; first | done | fail) | exact AV.wk.sh (by simp [pend_ren]; first | done | fail) | exact .untip _ _ _)⟩ ?_)))
    · (repeat (first | exact trivial | refine HFromL.skip ?_ | (refine And.intro ⟨(by first | trivial | (simp; first | done | fail) | exact ⟨trivial, hbel _⟩), (by first | rfl | (simp [pend_ren]; first | done | fail) | (conv => rhs; simp only [AO.ren, AV.ren, AV.renL, Option.map_some, pend_ren]) <;> rfl)⟩ ?_)))
    · rfl
/-- what a sector reads as -/
def nw0 (d : Dk) : List UInt8 := match d.p0 with | none => d.l0 | some s => s
def nw1 (d : Dk) : List UInt8 := match d.p1 with | none => d.l1 | some s => s
theorem now0_fc (d : Dk) : FC Try.prog G 25 [.ptr 0 0] (dkH d) (sA (nw0 d)) (dkH d) := by
  obtain ⟨l0, l1, p0, p1, lf, dd⟩ := d
  cases p0 with
  | none => exact now0N_fc l0 l1 p1 lf dd
  | some s => exact now0S_fc l0 l1 p1 lf dd s
theorem now1_fc (d : Dk) : FC Try.prog G 25 [.ptr 0 2] (dkH d) (sA (nw1 d)) (dkH d) := by
  obtain ⟨l0, l1, p0, p1, lf, dd⟩ := d
  cases p1 with
  | none => exact now1N_fc l0 l1 p0 lf dd
  | some s => exact now1S_fc l0 l1 p0 lf dd s
theorem read0_fc (d : Dk) : FC Try.prog G 22 [.ptr 0 0, .v (.int .i64 0)] (dkH d) (.tup [sA (if d.dead then [] else nw0 d), .v (.int .i64 (errS d))]) (dkH d) := by
  refine FC.of_wp [4, 5] Try.func22 rfl rfl rfl rfl ⟨rfl, trivial, trivial⟩ ⟨dk_bel _ _, trivial⟩ (by exact Nat.le_of_ble_eq_true rfl) ?_
  intro A hG hnA hAB
  unfold start
  refine WP.rs hG ?_
  refine Ch.pu gdN (by exact ⟨rfl, trivial⟩) (OpS.assign) trivial rfl ?_
  refine Ch.pu gdN (by exact ⟨rfl, trivial⟩) (OpS.assign) trivial rfl ?_
  refine Ch.nil ?_
  refine WP.rs hG ?_
  refine Ch.pu gdN (by exact ⟨rfl, trivial⟩) (OpS.move) trivial rfl ?_
  refine Ch.pu gdN (by exact ⟨rfl, trivial⟩) (OpS.move) trivial rfl ?_
  refine Ch.callH (FC.split (at0_fc d)) [0] 1 gdN (by repeat (first | exact EvL.nil | (apply EvL.cons; exact rfl))) (by exact (And.intro (by first | exact .rfl _ | exact .untip _ _ _ | exact .nil | exact .func _ | exact AV.wk.sh (renL_s _ _) | exact AV.wk.tip rfl (by first | exact renL_b _ _ | exact renL_s _ _ | exact renL_i _ _ | exact renL_w _ _) | exact AV.wk.sh (by simp; first | done | fail)) (And.intro (by first | exact .rfl _ | exact .untip _ _ _ | exact .nil | exact .func _ | exact AV.wk.sh (renL_s _ _) | exact AV.wk.tip rfl (by first | exact renL_b _ _ | exact renL_s _ _ | exact renL_i _ _ | exact renL_w _ _) | exact AV.wk.sh (by simp; first | done | fail)) trivial))) rfl rfl (by decide) (by decide) (by first | ((conv => lhs; simp only [AV.ren, AV.renL, AO.ren, renL_b, renL_s, renL_w, renL_i, renL_append, ren_b, ren_s, ren_w, ren_i, pi_n, pi_0, pi_s, pi_1, pi_2, pi_3, pi_4, chOld, chNew, nuNew, hpl, Option.map_some, Option.map_none, List.length_cons, List.length_nil, List.take_succ_cons, List.take_zero, List.take_nil, List.drop_succ_cons, List.drop_zero, List.drop_nil, List.cons_append, List.nil_append, Nat.zero_add, Nat.add_zero, Nat.reduceAdd, pend_ren]); all_goals rfl) | rfl) (by first | ((conv => lhs; simp only [AV.ren, AV.renL, AO.ren, renL_b, renL_s, renL_w, renL_i, renL_append, ren_b, ren_s, ren_w, ren_i, pi_n, pi_0, pi_s, pi_1, pi_2, pi_3, pi_4, chOld, chNew, nuNew, hpl, Option.map_some, Option.map_none, List.length_cons, List.length_nil, List.take_succ_cons, List.take_zero, List.take_nil, List.drop_succ_cons, List.drop_zero, List.drop_nil, List.cons_append, List.nil_append, Nat.zero_add, Nat.add_zero, Nat.reduceAdd, pend_ren]); all_goals rfl) | rfl) (by first | ((conv => lhs; simp only [AV.ren, AV.renL, AO.ren, renL_b, renL_s, renL_w, renL_i, renL_append, ren_b, ren_s, ren_w, ren_i, pi_n, pi_0, pi_s, pi_1, pi_2, pi_3, pi_4, chOld, chNew, nuNew, hpl, Option.map_some, Option.map_none, List.length_cons, List.length_nil, List.take_succ_cons, List.take_zero, List.take_nil, List.drop_succ_cons, List.drop_zero, List.drop_nil, List.cons_append, List.nil_append, Nat.zero_add, Nat.add_zero, Nat.reduceAdd, pend_ren]); all_goals rfl) | rfl) (by first | ((conv => lhs; simp only [AV.ren, AV.renL, AO.ren, renL_b, renL_s, renL_w, renL_i, renL_append, ren_b, ren_s, ren_w, ren_i, pi_n, pi_0, pi_s, pi_1, pi_2, pi_3, pi_4, chOld, chNew, nuNew, hpl, Option.map_some, Option.map_none, List.length_cons, List.length_nil, List.take_succ_cons, List.take_zero, List.take_nil, List.drop_succ_cons, List.drop_zero, List.drop_nil, List.cons_append, List.nil_append, Nat.zero_add, Nat.add_zero, Nat.reduceAdd, pend_ren]); all_goals rfl) | rfl) (by first | exact trivial | exact ⟨rfl, trivial⟩ | exact ⟨rfl, rfl, trivial⟩ | exact ⟨rfl, rfl, rfl, trivial⟩ | exact ⟨rfl, rfl, rfl, rfl, trivial⟩) (by first | exact trivial | exact ⟨rfl, trivial⟩ | exact ⟨rfl, rfl, trivial⟩ | exact ⟨rfl, rfl, rfl, trivial⟩ | exact ⟨rfl, rfl, rfl, rfl, trivial⟩) rfl ?_
  refine Ch.pu gdN (by exact ⟨rfl, trivial⟩) (OpS.assign) trivial rfl ?_
  refine Ch.nil ?_
  refine WP.seq ?_
  refine WP.block ?_
  refine WP.rs hG ?_
  refine Ch.pu gdN (by exact ⟨rfl, trivial⟩) (OpS.move) trivial rfl ?_
  refine Ch.pu gdN (by exact ⟨rfl, rfl, trivial⟩) (OpS.eqNil (.p _ _) rfl) trivial rfl ?_
  refine Ch.pu gdN (by exact ⟨rfl, trivial⟩) (OpS.assign) trivial rfl ?_
  refine Ch.nil ?_
  refine WP.cond_false rfl ?_
  refine WP.rs hG ?_
  refine Ch.pu gdN (by exact ⟨rfl, trivial⟩) (OpS.move) trivial rfl ?_
  refine Ch.pu gdN (by exact ⟨rfl, trivial⟩) (OpS.nilCheckP) (by first | exact trivial | exact ⟨rfl, trivial⟩) rfl ?_
  refine Ch.pu gdN (by exact ⟨rfl, trivial⟩) (OpS.fieldAddr rfl rfl rfl rfl) (by first | exact trivial | exact ⟨rfl, trivial⟩) rfl ?_
  refine Ch.pu gdN (by exact ⟨rfl, trivial⟩) (OpS.loadP rfl rfl rfl) (by first | exact trivial | exact ⟨rfl, trivial⟩) rfl ?_
  refine Ch.pu gdN (by exact ⟨rfl, trivial⟩) (OpS.assign) trivial rfl ?_
  refine Ch.nil ?_
  refine WP.cond rfl ?_ ?_
  · intro ht
    have he : errS d = 120 := if_pos ht
    rw [he, if_pos ht]
    refine WP.rs hG ?_
    refine Ch.pu gdN (by exact ⟨rfl, trivial⟩) (OpS.assign) trivial rfl ?_
    refine Ch.pu gdN (by exact ⟨rfl, trivial⟩) (OpS.assign) trivial rfl ?_
    refine Ch.nil ?_
    refine WP.ret ?_
    refine (Ret.of (rs := [4, 5]) (vs := [sA [], .v (.int .i64 120)]) (H' := dkH d) (res := .tup [sA [], .v (.int .i64 120)]) [0] ?_ ?_ rfl ?_ (by simp only [List.length_cons, List.length_nil]; decide) ?_).1
    · exact (fun i hi => by rw [hnA] at hi; simp only [List.length_cons, List.length_nil] at hi ⊢; first | exact absurd hi (Nat.not_lt_zero _) | (revert i; decide))
    · (repeat (first | exact trivial | (refine And.intro ⟨(by first | trivial | (simp; first | done | fail) | exact ⟨trivial, hbel _⟩), _, rfl, (by first | exact .rfl _ | exact .nil | exact .of_eq (by simp [pend_ren]; first | done | fail) | exact AV.wk.sh (by simp [pend_ren]; first | done | fail) | exact .untip _ _ _)⟩ ?_)))
    · (repeat (first | exact trivial | refine HFromL.skip ?_ | (refine And.intro ⟨(by first | trivial | (simp; first | done | fail) | exact ⟨trivial, hbel _⟩), (by first | rfl | (simp [pend_ren]; first | done | fail) | (conv => rhs; simp only [AO.ren, AV.ren, AV.renL, Option.map_some, pend_ren]) <;> rfl)⟩ ?_)))
    · exact ⟨_, rfl, rfl, by simp [ls, TsOk, List.zip, List.zipWith]⟩
  · intro ht
    have he : errS d = 0 := if_neg (by rw [ht]; decide)
    rw [he, if_neg (by rw [ht]; decide)]
    refine WP.skip ?_
    refine WP.rs hG ?_
    refine Ch.pu gdN (by exact ⟨rfl, trivial⟩) (OpS.move) trivial rfl ?_
    refine Ch.callH (FC.split (now0_fc d)) [0] 1 gdN (by repeat (first | exact EvL.nil | (apply EvL.cons; exact rfl))) (by exact (And.intro (by first | exact .rfl _ | exact .untip _ _ _ | exact .nil | exact .func _ | exact AV.wk.sh (renL_s _ _) | exact AV.wk.tip rfl (by first | exact renL_b _ _ | exact renL_s _ _ | exact renL_i _ _ | exact renL_w _ _) | exact AV.wk.sh (by simp; first | done | fail)) trivial)) rfl rfl (by decide) (by decide) (by first | ((conv => lhs; simp only [AV.ren, AV.renL, AO.ren, renL_b, renL_s, renL_w, renL_i, renL_append, ren_b, ren_s, ren_w, ren_i, pi_n, pi_0, pi_s, pi_1, pi_2, pi_3, pi_4, chOld, chNew, nuNew, hpl, Option.map_some, Option.map_none, List.length_cons, List.length_nil, List.take_succ_cons, List.take_zero, List.take_nil, List.drop_succ_cons, List.drop_zero, List.drop_nil, List.cons_append, List.nil_append, Nat.zero_add, Nat.add_zero, Nat.reduceAdd, pend_ren]); all_goals rfl) | rfl) (by first | ((conv => lhs; simp only [AV.ren, AV.renL, AO.ren, renL_b, renL_s, renL_w, renL_i, renL_append, ren_b, ren_s, ren_w, ren_i, pi_n, pi_0, pi_s, pi_1, pi_2, pi_3, pi_4, chOld, chNew, nuNew, hpl, Option.map_some, Option.map_none, List.length_cons, List.length_nil, List.take_succ_cons, List.take_zero, List.take_nil, List.drop_succ_cons, List.drop_zero, List.drop_nil, List.cons_append, List.nil_append, Nat.zero_add, Nat.add_zero, Nat.reduceAdd, pend_ren]); all_goals rfl) | rfl) (by first | ((conv => lhs; simp only [AV.ren, AV.renL, AO.ren, renL_b, renL_s, renL_w, renL_i, renL_append, ren_b, ren_s, ren_w, ren_i, pi_n, pi_0, pi_s, pi_1, pi_2, pi_3, pi_4, chOld, chNew, nuNew, hpl, Option.map_some, Option.map_none, List.length_cons, List.length_nil, List.take_succ_cons, List.take_zero, List.take_nil, List.drop_succ_cons, List.drop_zero, List.drop_nil, List.cons_append, List.nil_append, Nat.zero_add, Nat.add_zero, Nat.reduceAdd, pend_ren]); all_goals rfl) | rfl) (by first | ((conv => lhs; simp only [AV.ren, AV.renL, AO.ren, renL_b, renL_s, renL_w, renL_i, renL_append, ren_b, ren_s, ren_w, ren_i, pi_n, pi_0, pi_s, pi_1, pi_2, pi_3, pi_4, chOld, chNew, nuNew, hpl, Option.map_some, Option.map_none, List.length_cons, List.length_nil, List.take_succ_cons, List.take_zero, List.take_nil, List.drop_succ_cons, List.drop_zero, List.drop_nil, List.cons_append, List.nil_append, Nat.zero_add, Nat.add_zero, Nat.reduceAdd, pend_ren]); all_goals rfl) | rfl) (by first | exact trivial | exact ⟨rfl, trivial⟩ | exact ⟨rfl, rfl, trivial⟩ | exact ⟨rfl, rfl, rfl, trivial⟩ | exact ⟨rfl, rfl, rfl, rfl, trivial⟩) (by first | exact trivial | exact ⟨rfl, trivial⟩ | exact ⟨rfl, rfl, trivial⟩ | exact ⟨rfl, rfl, rfl, trivial⟩ | exact ⟨rfl, rfl, rfl, rfl, trivial⟩) rfl ?_
    refine Ch.pu gdN (by exact ⟨rfl, trivial⟩) (OpS.assign) trivial rfl ?_
    refine Ch.pu gdN (by exact ⟨rfl, trivial⟩) (OpS.assign) trivial rfl ?_
    refine Ch.nil ?_
    refine WP.ret ?_
    refine (Ret.of (rs := [4, 5]) (vs := [sA (nw0 d), .v (.int .i64 0)]) (H' := dkH d) (res := .tup [sA (nw0 d), .v (.int .i64 0)]) [0] ?_ ?_ rfl ?_ (by simp only [List.length_cons, List.length_nil]; decide) ?_).1
    · exact (fun i hi => by rw [hnA] at hi; simp only [List.length_cons, List.length_nil] at hi ⊢; first | exact absurd hi (Nat.not_lt_zero _) | (revert i; decide))
    · (repeat (first | exact trivial | (refine And.intro ⟨(by first | trivial | (simp; first | done | fail) | exact ⟨trivial, hbel _⟩), _, rfl, (by first | exact .rfl _ | exact .nil | exact .of_eq (by simp [pend_ren]; first | done | fail) | exact AV.wk.sh (by simp [pend_ren]; first | done | fail) | exact .untip _ _ _)⟩ ?_)))
    · (repeat (first | exact trivial | refine HFromL.skip ?_ | (refine And.intro ⟨(by first | trivial | (simp; first | done | fail) | exact ⟨trivial, hbel _⟩), (by first | rfl | (simp [pend_ren]; first | done | fail) | (conv => rhs; simp only [AO.ren, AV.ren, AV.renL, Option.map_some, pend_ren]) <;> rfl)⟩ ?_)))
    · exact ⟨_, rfl, rfl, by simp [ls, TsOk, List.zip, List.zipWith]⟩
theorem read1_fc (d : Dk) : FC Try.prog G 22 [.ptr 0 0, .v (.int .i64 1)] (dkH d) (.tup [sA (if d.dead then [] else nw1 d), .v (.int .i64 (errS d))]) (dkH d) := by
  refine FC.of_wp [4, 5] Try.func22 rfl rfl rfl rfl ⟨rfl, trivial, trivial⟩ ⟨dk_bel _ _, trivial⟩ (by exact Nat.le_of_ble_eq_true rfl) ?_
  intro A hG hnA hAB
  unfold start
  refine WP.rs hG ?_
  refine Ch.pu gdN (by exact ⟨rfl, trivial⟩) (OpS.assign) trivial rfl ?_
  refine Ch.pu gdN (by exact ⟨rfl, trivial⟩) (OpS.assign) trivial rfl ?_
  refine Ch.nil ?_
  refine WP.rs hG ?_
  refine Ch.pu gdN (by exact ⟨rfl, trivial⟩) (OpS.move) trivial rfl ?_
  refine Ch.pu gdN (by exact ⟨rfl, trivial⟩) (OpS.move) trivial rfl ?_
  refine Ch.callH (FC.split (at1_fc d)) [0] 1 gdN (by repeat (first | exact EvL.nil | (apply EvL.cons; exact rfl))) (by exact (And.intro (by first | exact .rfl _ | exact .untip _ _ _ | exact .nil | exact .func _ | exact AV.wk.sh (renL_s _ _) | exact AV.wk.tip rfl (by first | exact renL_b _ _ | exact renL_s _ _ | exact renL_i _ _ | exact renL_w _ _) | exact AV.wk.sh (by simp; first | done | fail)) (And.intro (by first | exact .rfl _ | exact .untip _ _ _ | exact .nil | exact .func _ | exact AV.wk.sh (renL_s _ _) | exact AV.wk.tip rfl (by first | exact renL_b _ _ | exact renL_s _ _ | exact renL_i _ _ | exact renL_w _ _) | exact AV.wk.sh (by simp; first | done | fail)) trivial))) rfl rfl (by decide) (by decide) (by first | ((conv => lhs; simp only [AV.ren, AV.renL, AO.ren, renL_b, renL_s, renL_w, renL_i, renL_append, ren_b, ren_s, ren_w, ren_i, pi_n, pi_0, pi_s, pi_1, pi_2, pi_3, pi_4, chOld, chNew, nuNew, hpl, Option.map_some, Option.map_none, List.length_cons, List.length_nil, List.take_succ_cons, List.take_zero, List.take_nil, List.drop_succ_cons, List.drop_zero, List.drop_nil, List.cons_append, List.nil_append, Nat.zero_add, Nat.add_zero, Nat.reduceAdd, pend_ren]); all_goals rfl) | rfl) (by first | ((conv => lhs; simp only [AV.ren, AV.renL, AO.ren, renL_b, renL_s, renL_w, renL_i, renL_append, ren_b, ren_s, ren_w, ren_i, pi_n, pi_0, pi_s, pi_1, pi_2, pi_3, pi_4, chOld, chNew, nuNew, hpl, Option.map_some, Option.map_none, List.length_cons, List.length_nil, List.take_succ_cons, List.take_zero, List.take_nil, List.drop_succ_cons, List.drop_zero, List.drop_nil, List.cons_append, List.nil_append, Nat.zero_add, Nat.add_zero, Nat.reduceAdd, pend_ren]); all_goals rfl) | rfl) (by first | ((conv => lhs; simp only [AV.ren, AV.renL, AO.ren, renL_b, renL_s, renL_w, renL_i, renL_append, ren_b, ren_s, ren_w, ren_i, pi_n, pi_0, pi_s, pi_1, pi_2, pi_3, pi_4, chOld, chNew, nuNew, hpl, Option.map_some, Option.map_none, List.length_cons, List.length_nil, List.take_succ_cons, List.take_zero, List.take_nil, List.drop_succ_cons, List.drop_zero, List.drop_nil, List.cons_append, List.nil_append, Nat.zero_add, Nat.add_zero, Nat.reduceAdd, pend_ren]); all_goals rfl) | rfl) (by first | ((conv => lhs; simp only [AV.ren, AV.renL, AO.ren, renL_b, renL_s, renL_w, renL_i, renL_append, ren_b, ren_s, ren_w, ren_i, pi_n, pi_0, pi_s, pi_1, pi_2, pi_3, pi_4, chOld, chNew, nuNew, hpl, Option.map_some, Option.map_none, List.length_cons, List.length_nil, List.take_succ_cons, List.take_zero, List.take_nil, List.drop_succ_cons, List.drop_zero, List.drop_nil, List.cons_append, List.nil_append, Nat.zero_add, Nat.add_zero, Nat.reduceAdd, pend_ren]); all_goals rfl) | rfl) (by first | exact trivial | exact ⟨rfl, trivial⟩ | exact ⟨rfl, rfl, trivial⟩ | exact ⟨rfl, rfl, rfl, trivial⟩ | exact ⟨rfl, rfl, rfl, rfl, trivial⟩) (by first | exact trivial | exact ⟨rfl, trivial⟩ | exact ⟨rfl, rfl, trivial⟩ | exact ⟨rfl, rfl, rfl, trivial⟩ | exact ⟨rfl, rfl, rfl, rfl, trivial⟩) rfl ?_
  refine Ch.pu gdN (by exact ⟨rfl, trivial⟩) (OpS.assign) trivial rfl ?_
  refine Ch.nil ?_
  refine WP.seq ?_
  refine WP.block ?_
  refine WP.rs hG ?_
  refine Ch.pu gdN (by exact ⟨rfl, trivial⟩) (OpS.move) trivial rfl ?_
  refine Ch.pu gdN (by exact ⟨rfl, rfl, trivial⟩) (OpS.eqNil (.p _ _) rfl) trivial rfl ?_
  refine Ch.pu gdN (by exact ⟨rfl, trivial⟩) (OpS.assign) trivial rfl ?_
  refine Ch.nil ?_
  refine WP.cond_false rfl ?_
  refine WP.rs hG ?_
  refine Ch.pu gdN (by exact ⟨rfl, trivial⟩) (OpS.move) trivial rfl ?_
  refine Ch.pu gdN (by exact ⟨rfl, trivial⟩) (OpS.nilCheckP) (by first | exact trivial | exact ⟨rfl, trivial⟩) rfl ?_
  refine Ch.pu gdN (by exact ⟨rfl, trivial⟩) (OpS.fieldAddr rfl rfl rfl rfl) (by first | exact trivial | exact ⟨rfl, trivial⟩) rfl ?_
  refine Ch.pu gdN (by exact ⟨rfl, trivial⟩) (OpS.loadP rfl rfl rfl) (by first | exact trivial | exact ⟨rfl, trivial⟩) rfl ?_
  refine Ch.pu gdN (by exact ⟨rfl, trivial⟩) (OpS.assign) trivial rfl ?_
  refine Ch.nil ?_
  refine WP.cond rfl ?_ ?_
  · intro ht
    have he : errS d = 120 := if_pos ht
    rw [he, if_pos ht]
    refine WP.rs hG ?_
    refine Ch.pu gdN (by exact ⟨rfl, trivial⟩) (OpS.assign) trivial rfl ?_
    refine Ch.pu gdN (by exact ⟨rfl, trivial⟩) (OpS.assign) trivial rfl ?_
    refine Ch.nil ?_
    refine WP.ret ?_
    refine (Ret.of (rs := [4, 5]) (vs := [sA [], .v (.int .i64 120)]) (H' := dkH d) (res := .tup [sA [], .v (.int .i64 120)]) [0] ?_ ?_ rfl ?_ (by simp only [List.length_cons, List.length_nil]; decide) ?_).1
    · exact (fun i hi => by rw [hnA] at hi; simp only [List.length_cons, List.length_nil] at hi ⊢; first | exact absurd hi (Nat.not_lt_zero _) | (revert i; decide))
    · (repeat (first | exact trivial | (refine And.intro ⟨(by first | trivial | (simp; first | done | fail) | exact ⟨trivial, hbel _⟩), _, rfl, (by first | exact .rfl _ | exact .nil | exact .of_eq (by simp [pend_ren]; first | done | fail) | exact AV.wk.sh (by simp [pend_ren]; first | done | fail) | exact .untip _ _ _)⟩ ?_)))
    · (repeat (first | exact trivial | refine HFromL.skip ?_ | (refine And.intro ⟨(by first | trivial | (simp; first | done | fail) | exact ⟨trivial, hbel _⟩), (by first | rfl | (simp [pend_ren]; first | done | fail) | (conv => rhs; simp only [AO.ren, AV.ren, AV.renL, Option.map_some, pend_ren]) <;> rfl)⟩ ?_)))
    · exact ⟨_, rfl, rfl, by simp [ls, TsOk, List.zip, List.zipWith]⟩
  · intro ht
    have he : errS d = 0 := if_neg (by rw [ht]; decide)
    rw [he, if_neg (by rw [ht]; decide)]
    refine WP.skip ?_
    refine WP.rs hG ?_
    refine Ch.pu gdN (by exact ⟨rfl, trivial⟩) (OpS.move) trivial rfl ?_
    refine Ch.callH (FC.split (now1_fc d)) [0] 1 gdN (by repeat (first | exact EvL.nil | (apply EvL.cons; exact rfl))) (by exact (And.intro (by first | exact .rfl _ | exact .untip _ _ _ | exact .nil | exact .func _ | exact AV.wk.sh (renL_s _ _) | exact AV.wk.tip rfl (by first | exact renL_b _ _ | exact renL_s _ _ | exact renL_i _ _ | exact renL_w _ _) | exact AV.wk.sh (by simp; first | done | fail)) trivial)) rfl rfl (by decide) (by decide) (by first | ((conv => lhs; simp only [AV.ren, AV.renL, AO.ren, renL_b, renL_s, renL_w, renL_i, renL_append, ren_b, ren_s, ren_w, ren_i, pi_n, pi_0, pi_s, pi_1, pi_2, pi_3, pi_4, chOld, chNew, nuNew, hpl, Option.map_some, Option.map_none, List.length_cons, List.length_nil, List.take_succ_cons, List.take_zero, List.take_nil, List.drop_succ_cons, List.drop_zero, List.drop_nil, List.cons_append, List.nil_append, Nat.zero_add, Nat.add_zero, Nat.reduceAdd, pend_ren]); all_goals rfl) | rfl) (by first | ((conv => lhs; simp only [AV.ren, AV.renL, AO.ren, renL_b, renL_s, renL_w, renL_i, renL_append, ren_b, ren_s, ren_w, ren_i, pi_n, pi_0, pi_s, pi_1, pi_2, pi_3, pi_4, chOld, chNew, nuNew, hpl, Option.map_some, Option.map_none, List.length_cons, List.length_nil, List.take_succ_cons, List.take_zero, List.take_nil, List.drop_succ_cons, List.drop_zero, List.drop_nil, List.cons_append, List.nil_append, Nat.zero_add, Nat.add_zero, Nat.reduceAdd, pend_ren]); all_goals rfl) | rfl) (by first | ((conv => lhs; simp only [AV.ren, AV.renL, AO.ren, renL_b, renL_s, renL_w, renL_i, renL_append, ren_b, ren_s, ren_w, ren_i, pi_n, pi_0, pi_s, pi_1, pi_2, pi_3, pi_4, chOld, chNew, nuNew, hpl, Option.map_some, Option.map_none, List.length_cons, List.length_nil, List.take_succ_cons, List.take_zero, List.take_nil, List.drop_succ_cons, List.drop_zero, List.drop_nil, List.cons_append, List.nil_append, Nat.zero_add, Nat.add_zero, Nat.reduceAdd, pend_ren]); all_goals rfl) | rfl) (by first | ((conv => lhs; simp only [AV.ren, AV.renL, AO.ren, renL_b, renL_s, renL_w, renL_i, renL_append, ren_b, ren_s, ren_w, ren_i, pi_n, pi_0, pi_s, pi_1, pi_2, pi_3, pi_4, chOld, chNew, nuNew, hpl, Option.map_some, Option.map_none, List.length_cons, List.length_nil, List.take_succ_cons, List.take_zero, List.take_nil, List.drop_succ_cons, List.drop_zero, List.drop_nil, List.cons_append, List.nil_append, Nat.zero_add, Nat.add_zero, Nat.reduceAdd, pend_ren]); all_goals rfl) | rfl) (by first | exact trivial | exact ⟨rfl, trivial⟩ | exact ⟨rfl, rfl, trivial⟩ | exact ⟨rfl, rfl, rfl, trivial⟩ | exact ⟨rfl, rfl, rfl, rfl, trivial⟩) (by first | exact trivial | exact ⟨rfl, trivial⟩ | exact ⟨rfl, rfl, trivial⟩ | exact ⟨rfl, rfl, rfl, trivial⟩ | exact ⟨rfl, rfl, rfl, rfl, trivial⟩) rfl ?_
    refine Ch.pu gdN (by exact ⟨rfl, trivial⟩) (OpS.assign) trivial rfl ?_
    refine Ch.pu gdN (by exact ⟨rfl, trivial⟩) (OpS.assign) trivial rfl ?_
    refine Ch.nil ?_
    refine WP.ret ?_
    refine (Ret.of (rs := [4, 5]) (vs := [sA (nw1 d), .v (.int .i64 0)]) (H' := dkH d) (res := .tup [sA (nw1 d), .v (.int .i64 0)]) [0] ?_ ?_ rfl ?_ (by simp only [List.length_cons, List.length_nil]; decide) ?_).1
    · exact (fun i hi => by rw [hnA] at hi; simp only [List.length_cons, List.length_nil] at hi ⊢; first | exact absurd hi (Nat.not_lt_zero _) | (revert i; decide))
    · (repeat (first | exact trivial | (refine And.intro ⟨(by first | trivial | (simp; first | done | fail) | exact ⟨trivial, hbel _⟩), _, rfl, (by first | exact .rfl _ | exact .nil | exact .of_eq (by simp [pend_ren]; first | done | fail) | exact AV.wk.sh (by simp [pend_ren]; first | done | fail) | exact .untip _ _ _)⟩ ?_)))
    · (repeat (first | exact trivial | refine HFromL.skip ?_ | (refine And.intro ⟨(by first | trivial | (simp; first | done | fail) | exact ⟨trivial, hbel _⟩), (by first | rfl | (simp [pend_ren]; first | done | fail) | (conv => rhs; simp only [AO.ren, AV.ren, AV.renL, Option.map_some, pend_ren]) <;> rfl)⟩ ?_)))
    · exact ⟨_, rfl, rfl, by simp [ls, TsOk, List.zip, List.zipWith]⟩
end
end Go.Proofs.Ytjmbendppcildaa.E
end
section
/- Layer 12's disk: Write. -/
namespace Go.Proofs.Ytjmbendppcildaa.E
open Go Go.RowKit Go.Proofs.Ytjmbendppcildaa.V
attribute [local go_sem] B_size B_append B_extract mk_B B_toList take_drop_len List.length_drop List.length_take sgn32 sgn64 add32 sub32 mul32 add64 sub64 mul64 mul64_8 and32 or32 xor32 and64 or64 xor64 shl32_run shr32_run shl64_run shr64_run not32 not32' xor32_all w_u32_u8 w_u64_u8 w_i64_u8 w_u8_u32 w_u8_u64 w_u32_u64 w_u64_u32 w_u8_u8 w_u32_u32 w_u64_u64
attribute [local go_sem ↓] run_index_B' add32 sub32 mul32 add64 sub64 mul64 mul64_8 and32 or32 xor32 and64 or64 xor64 shl32_run shr32_run shl64_run shr64_run not32 not32' xor32_all w_u32_u8 w_u64_u8 w_i64_u8 w_u8_u32 w_u8_u64 w_u32_u64 w_u64_u32 w_u8_u8 w_u32_u32 w_u64_u64 w_u64_nat w_u32_nat w_u8_nat
set_option maxRecDepth 4000
--NRM pend_ren
section
variable {G : List (Nat × Array Value)}
theorem write0_fc (d : Dk) (s : List UInt8) (hs' : s.length = 256) (hl : 0 ≤ d.left ∧ d.left ≤ 9223372036854775807) : FC Try.prog G 20 [.ptr 0 0, .v (.int .i64 0), sA s] (dkH d)
    (.v (.int .i64 (if d.dead then 120 else errS (actD { d with p0 := some s })))) (dkH (if d.dead then d else actD { d with p0 := some s })) := by
  have ha := dkActs_fc (G := G) { d with p0 := some s } hl
  have hst := dkState_fc (G := G) (actD { d with p0 := some s })
  refine FC.of_wp [6] Try.func20 rfl rfl rfl rfl ⟨rfl, trivial, trivial, trivial⟩ ⟨dk_bel _ _, trivial⟩ (by exact Nat.le_of_ble_eq_true rfl) ?_
  intro A hG hnA hAB
  unfold start
  refine WP.rs hG ?_
  refine Ch.pu gdN (by exact ⟨rfl, trivial⟩) (OpS.boxS) (by first | exact trivial | exact ⟨rfl, trivial⟩) rfl ?_
  refine Ch.pu gdN (by exact ⟨rfl, trivial⟩) (OpS.assign) trivial rfl ?_
  refine Ch.nil ?_
  refine WP.rs hG ?_
  refine Ch.pu gdN (by exact ⟨rfl, trivial⟩) (OpS.move) trivial rfl ?_
  refine Ch.pu gdN (by exact ⟨rfl, trivial⟩) (OpS.move) trivial rfl ?_
  refine Ch.callH (FC.split (at0_fc d)) [0] 1 gdN (by repeat (first | exact EvL.nil | (apply EvL.cons; exact rfl))) (by exact (And.intro (by first | exact .rfl _ | exact .untip _ _ _ | exact .nil | exact .func _ | exact AV.wk.sh (renL_s _ _) | exact AV.wk.tip rfl (by first | exact renL_b _ _ | exact renL_s _ _ | exact renL_i _ _ | exact renL_w _ _) | exact AV.wk.sh (by simp; first | done | fail)) (And.intro (by first | exact .rfl _ | exact .untip _ _ _ | exact .nil | exact .func _ | exact AV.wk.sh (renL_s _ _) | exact AV.wk.tip rfl (by first | exact renL_b _ _ | exact renL_s _ _ | exact renL_i _ _ | exact renL_w _ _) | exact AV.wk.sh (by simp; first | done | fail)) trivial))) rfl rfl (by decide) (by decide) (by first | ((conv => lhs; simp only [AV.ren, AV.renL, AO.ren, renL_b, renL_s, renL_w, renL_i, renL_append, ren_b, ren_s, ren_w, ren_i, pi_n, pi_0, pi_s, pi_1, pi_2, pi_3, pi_4, chOld, chNew, nuNew, hpl, Option.map_some, Option.map_none, List.length_cons, List.length_nil, List.take_succ_cons, List.take_zero, List.take_nil, List.drop_succ_cons, List.drop_zero, List.drop_nil, List.cons_append, List.nil_append, Nat.zero_add, Nat.add_zero, Nat.reduceAdd, pend_ren]); all_goals rfl) | rfl) (by first | ((conv => lhs; simp only [AV.ren, AV.renL, AO.ren, renL_b, renL_s, renL_w, renL_i, renL_append, ren_b, ren_s, ren_w, ren_i, pi_n, pi_0, pi_s, pi_1, pi_2, pi_3, pi_4, chOld, chNew, nuNew, hpl, Option.map_some, Option.map_none, List.length_cons, List.length_nil, List.take_succ_cons, List.take_zero, List.take_nil, List.drop_succ_cons, List.drop_zero, List.drop_nil, List.cons_append, List.nil_append, Nat.zero_add, Nat.add_zero, Nat.reduceAdd, pend_ren]); all_goals rfl) | rfl) (by first | ((conv => lhs; simp only [AV.ren, AV.renL, AO.ren, renL_b, renL_s, renL_w, renL_i, renL_append, ren_b, ren_s, ren_w, ren_i, pi_n, pi_0, pi_s, pi_1, pi_2, pi_3, pi_4, chOld, chNew, nuNew, hpl, Option.map_some, Option.map_none, List.length_cons, List.length_nil, List.take_succ_cons, List.take_zero, List.take_nil, List.drop_succ_cons, List.drop_zero, List.drop_nil, List.cons_append, List.nil_append, Nat.zero_add, Nat.add_zero, Nat.reduceAdd, pend_ren]); all_goals rfl) | rfl) (by first | ((conv => lhs; simp only [AV.ren, AV.renL, AO.ren, renL_b, renL_s, renL_w, renL_i, renL_append, ren_b, ren_s, ren_w, ren_i, pi_n, pi_0, pi_s, pi_1, pi_2, pi_3, pi_4, chOld, chNew, nuNew, hpl, Option.map_some, Option.map_none, List.length_cons, List.length_nil, List.take_succ_cons, List.take_zero, List.take_nil, List.drop_succ_cons, List.drop_zero, List.drop_nil, List.cons_append, List.nil_append, Nat.zero_add, Nat.add_zero, Nat.reduceAdd, pend_ren]); all_goals rfl) | rfl) (by first | exact trivial | exact ⟨rfl, trivial⟩ | exact ⟨rfl, rfl, trivial⟩ | exact ⟨rfl, rfl, rfl, trivial⟩ | exact ⟨rfl, rfl, rfl, rfl, trivial⟩) (by first | exact trivial | exact ⟨rfl, trivial⟩ | exact ⟨rfl, rfl, trivial⟩ | exact ⟨rfl, rfl, rfl, trivial⟩ | exact ⟨rfl, rfl, rfl, rfl, trivial⟩) rfl ?_
  refine Ch.pu gdN (by exact ⟨rfl, trivial⟩) (OpS.assign) trivial rfl ?_
  refine Ch.nil ?_
  refine WP.seq ?_
  refine WP.block ?_
  refine WP.rs hG ?_
  refine Ch.pu gdN (by exact ⟨rfl, trivial⟩) (OpS.move) trivial rfl ?_
  refine Ch.pu gdN (by exact ⟨rfl, rfl, trivial⟩) (OpS.eqNil (.p _ _) rfl) trivial rfl ?_
  refine Ch.pu gdN (by exact ⟨rfl, trivial⟩) (OpS.move) trivial rfl ?_
  refine Ch.pu (by exact gdT rfl rfl) (by exact ⟨rfl, trivial⟩) (OpS.loadS rfl rfl) (by first | exact trivial | exact ⟨rfl, trivial⟩) rfl ?_
  refine Ch.pu (by exact gdT rfl rfl) (by exact ⟨rfl, trivial⟩) (OpS.lenS rfl) (by first | exact trivial | exact ⟨rfl, trivial⟩) rfl ?_
  refine Ch.pu (by exact gdT rfl rfl) (by exact ⟨rfl, rfl, trivial⟩) (OpS.int (v' := .bool false) rfl (by rw [hs']; rfl)) trivial rfl ?_
  refine Ch.pu gdN (by first | exact ⟨rfl, rfl, trivial⟩ | exact ⟨rfl, rfl, rfl, trivial⟩) (OpS.pickF) trivial rfl ?_
  refine Ch.pu gdN (by exact ⟨rfl, trivial⟩) (OpS.assign) trivial rfl ?_
  refine Ch.nil ?_
  refine WP.cond_false rfl ?_
  refine WP.rs hG ?_
  refine Ch.pu gdN (by exact ⟨rfl, trivial⟩) (OpS.move) trivial rfl ?_
  refine Ch.pu gdN (by exact ⟨rfl, trivial⟩) (OpS.nilCheckP) (by first | exact trivial | exact ⟨rfl, trivial⟩) rfl ?_
  refine Ch.pu gdN (by exact ⟨rfl, trivial⟩) (OpS.fieldAddr rfl rfl rfl rfl) (by first | exact trivial | exact ⟨rfl, trivial⟩) rfl ?_
  refine Ch.pu gdN (by exact ⟨rfl, trivial⟩) (OpS.loadP rfl rfl rfl) (by first | exact trivial | exact ⟨rfl, trivial⟩) rfl ?_
  refine Ch.pu gdN (by exact ⟨rfl, trivial⟩) (OpS.assign) trivial rfl ?_
  refine Ch.nil ?_
  refine WP.cond rfl ?_ ?_
  · intro ht
    rw [if_pos ht, if_pos ht]
    refine WP.rs hG ?_
    refine Ch.pu gdN (by exact ⟨rfl, trivial⟩) (OpS.assign) trivial rfl ?_
    refine Ch.nil ?_
    refine WP.ret ?_
    refine (Ret.of (rs := [6]) (vs := [.v (.int .i64 120)]) (H' := dkH d) (res := .v (.int .i64 120)) [0] ?_ ?_ rfl ?_ (by simp only [List.length_cons, List.length_nil]; decide) ?_).1
    · exact (fun i hi => by rw [hnA] at hi; simp only [List.length_cons, List.length_nil] at hi ⊢; first | exact absurd hi (Nat.not_lt_zero _) | (revert i; decide))
    · (repeat (first | exact trivial | (refine And.intro ⟨(by first | trivial | (simp; first | done | fail) | exact ⟨trivial, hbel _⟩), _, rfl, (by first | exact .rfl _ | exact .nil | exact .of_eq (by simp [pend_ren]; first | done | fail) | exact AV.wk.sh (by simp [pend_ren]; first | done | fail) | exact .untip _ _ _)⟩ ?_)))
    · (repeat (first | exact trivial | refine HFromL.skip ?_ | (refine And.intro ⟨(by first | trivial | (simp; first | done | fail) | exact ⟨trivial, hbel _⟩), (by first | rfl | (simp [pend_ren]; first | done | fail) | (conv => rhs; simp only [AO.ren, AV.ren, AV.renL, Option.map_some, pend_ren]) <;> rfl)⟩ ?_)))
    · rfl
  · intro ht
    rw [if_neg (by rw [ht]; decide), if_neg (by rw [ht]; decide)]
    refine WP.skip ?_
    refine WP.rs hG ?_
    refine Ch.pu gdN (by exact ⟨rfl, trivial⟩) (OpS.move) trivial rfl ?_
    refine Ch.pu gdN (by exact ⟨rfl, trivial⟩) (OpS.nilCheckP) (by first | exact trivial | exact ⟨rfl, trivial⟩) rfl ?_
    refine Ch.pu gdN (by exact ⟨rfl, trivial⟩) (OpS.fieldAddr rfl rfl rfl rfl) (by first | exact trivial | exact ⟨rfl, trivial⟩) rfl ?_
    refine Ch.wr gdN (by exact ⟨rfl, rfl, trivial⟩) (OpS.storeP (cs := dkC d) rfl rfl rfl (by simp)) (by first | exact trivial | exact ⟨rfl, trivial⟩) (by first | exact trivial | exact ⟨rfl, trivial⟩ | exact ⟨rfl, rfl, trivial⟩) ?_
    refine Ch.nil ?_
    refine WP.rs hG ?_
    refine Ch.pu gdN (by exact ⟨rfl, trivial⟩) (OpS.move) trivial rfl ?_
    refine Ch.callH (FC.split (ha)) [0] 1 gdN (by repeat (first | exact EvL.nil | (apply EvL.cons; exact rfl))) (by exact (And.intro (by first | exact .rfl _ | exact .untip _ _ _ | exact .nil | exact .func _ | exact AV.wk.sh (renL_s _ _) | exact AV.wk.tip rfl (by first | exact renL_b _ _ | exact renL_s _ _ | exact renL_i _ _ | exact renL_w _ _) | exact AV.wk.sh (by simp; first | done | fail)) trivial)) rfl rfl (by decide) (by decide) (by first | ((conv => lhs; simp only [AV.ren, AV.renL, AO.ren, renL_b, renL_s, renL_w, renL_i, renL_append, ren_b, ren_s, ren_w, ren_i, pi_n, pi_0, pi_s, pi_1, pi_2, pi_3, pi_4, chOld, chNew, nuNew, hpl, Option.map_some, Option.map_none, List.length_cons, List.length_nil, List.take_succ_cons, List.take_zero, List.take_nil, List.drop_succ_cons, List.drop_zero, List.drop_nil, List.cons_append, List.nil_append, Nat.zero_add, Nat.add_zero, Nat.reduceAdd, pend_ren]); all_goals rfl) | rfl) (by first | ((conv => lhs; simp only [AV.ren, AV.renL, AO.ren, renL_b, renL_s, renL_w, renL_i, renL_append, ren_b, ren_s, ren_w, ren_i, pi_n, pi_0, pi_s, pi_1, pi_2, pi_3, pi_4, chOld, chNew, nuNew, hpl, Option.map_some, Option.map_none, List.length_cons, List.length_nil, List.take_succ_cons, List.take_zero, List.take_nil, List.drop_succ_cons, List.drop_zero, List.drop_nil, List.cons_append, List.nil_append, Nat.zero_add, Nat.add_zero, Nat.reduceAdd, pend_ren]); all_goals rfl) | rfl) (by first | ((conv => lhs; simp only [AV.ren, AV.renL, AO.ren, renL_b, renL_s, renL_w, renL_i, renL_append, ren_b, ren_s, ren_w, ren_i, pi_n, pi_0, pi_s, pi_1, pi_2, pi_3, pi_4, chOld, chNew, nuNew, hpl, Option.map_some, Option.map_none, List.length_cons, List.length_nil, List.take_succ_cons, List.take_zero, List.take_nil, List.drop_succ_cons, List.drop_zero, List.drop_nil, List.cons_append, List.nil_append, Nat.zero_add, Nat.add_zero, Nat.reduceAdd, pend_ren]); all_goals rfl) | rfl) (by first | ((conv => lhs; simp only [AV.ren, AV.renL, AO.ren, renL_b, renL_s, renL_w, renL_i, renL_append, ren_b, ren_s, ren_w, ren_i, pi_n, pi_0, pi_s, pi_1, pi_2, pi_3, pi_4, chOld, chNew, nuNew, hpl, Option.map_some, Option.map_none, List.length_cons, List.length_nil, List.take_succ_cons, List.take_zero, List.take_nil, List.drop_succ_cons, List.drop_zero, List.drop_nil, List.cons_append, List.nil_append, Nat.zero_add, Nat.add_zero, Nat.reduceAdd, pend_ren]); all_goals rfl) | rfl) (by first | exact trivial | exact ⟨rfl, trivial⟩ | exact ⟨rfl, rfl, trivial⟩ | exact ⟨rfl, rfl, rfl, trivial⟩ | exact ⟨rfl, rfl, rfl, rfl, trivial⟩) (by first | exact trivial | exact ⟨rfl, trivial⟩ | exact ⟨rfl, rfl, trivial⟩ | exact ⟨rfl, rfl, rfl, trivial⟩ | exact ⟨rfl, rfl, rfl, rfl, trivial⟩) rfl ?_
    refine Ch.nil ?_
    refine WP.rs hG ?_
    refine Ch.pu gdN (by exact ⟨rfl, trivial⟩) (OpS.move) trivial rfl ?_
    refine Ch.callH (FC.split (hst)) [0] 1 gdN (by repeat (first | exact EvL.nil | (apply EvL.cons; exact rfl))) (by exact (And.intro (by first | exact .rfl _ | exact .untip _ _ _ | exact .nil | exact .func _ | exact AV.wk.sh (renL_s _ _) | exact AV.wk.tip rfl (by first | exact renL_b _ _ | exact renL_s _ _ | exact renL_i _ _ | exact renL_w _ _) | exact AV.wk.sh (by simp; first | done | fail)) trivial)) rfl rfl (by decide) (by decide) (by first | ((conv => lhs; simp only [AV.ren, AV.renL, AO.ren, renL_b, renL_s, renL_w, renL_i, renL_append, ren_b, ren_s, ren_w, ren_i, pi_n, pi_0, pi_s, pi_1, pi_2, pi_3, pi_4, chOld, chNew, nuNew, hpl, Option.map_some, Option.map_none, List.length_cons, List.length_nil, List.take_succ_cons, List.take_zero, List.take_nil, List.drop_succ_cons, List.drop_zero, List.drop_nil, List.cons_append, List.nil_append, Nat.zero_add, Nat.add_zero, Nat.reduceAdd, pend_ren]); all_goals rfl) | rfl) (by first | ((conv => lhs; simp only [AV.ren, AV.renL, AO.ren, renL_b, renL_s, renL_w, renL_i, renL_append, ren_b, ren_s, ren_w, ren_i, pi_n, pi_0, pi_s, pi_1, pi_2, pi_3, pi_4, chOld, chNew, nuNew, hpl, Option.map_some, Option.map_none, List.length_cons, List.length_nil, List.take_succ_cons, List.take_zero, List.take_nil, List.drop_succ_cons, List.drop_zero, List.drop_nil, List.cons_append, List.nil_append, Nat.zero_add, Nat.add_zero, Nat.reduceAdd, pend_ren]); all_goals rfl) | rfl) (by first | ((conv => lhs; simp only [AV.ren, AV.renL, AO.ren, renL_b, renL_s, renL_w, renL_i, renL_append, ren_b, ren_s, ren_w, ren_i, pi_n, pi_0, pi_s, pi_1, pi_2, pi_3, pi_4, chOld, chNew, nuNew, hpl, Option.map_some, Option.map_none, List.length_cons, List.length_nil, List.take_succ_cons, List.take_zero, List.take_nil, List.drop_succ_cons, List.drop_zero, List.drop_nil, List.cons_append, List.nil_append, Nat.zero_add, Nat.add_zero, Nat.reduceAdd, pend_ren]); all_goals rfl) | rfl) (by first | ((conv => lhs; simp only [AV.ren, AV.renL, AO.ren, renL_b, renL_s, renL_w, renL_i, renL_append, ren_b, ren_s, ren_w, ren_i, pi_n, pi_0, pi_s, pi_1, pi_2, pi_3, pi_4, chOld, chNew, nuNew, hpl, Option.map_some, Option.map_none, List.length_cons, List.length_nil, List.take_succ_cons, List.take_zero, List.take_nil, List.drop_succ_cons, List.drop_zero, List.drop_nil, List.cons_append, List.nil_append, Nat.zero_add, Nat.add_zero, Nat.reduceAdd, pend_ren]); all_goals rfl) | rfl) (by first | exact trivial | exact ⟨rfl, trivial⟩ | exact ⟨rfl, rfl, trivial⟩ | exact ⟨rfl, rfl, rfl, trivial⟩ | exact ⟨rfl, rfl, rfl, rfl, trivial⟩) (by first | exact trivial | exact ⟨rfl, trivial⟩ | exact ⟨rfl, rfl, trivial⟩ | exact ⟨rfl, rfl, rfl, trivial⟩ | exact ⟨rfl, rfl, rfl, rfl, trivial⟩) rfl ?_
    refine Ch.pu gdN (by exact ⟨rfl, trivial⟩) (OpS.assign) trivial rfl ?_
    refine Ch.nil ?_
    refine WP.ret ?_
    refine (Ret.of (rs := [6]) (vs := [.v (.int .i64 (errS (actD { d with p0 := some s })))]) (H' := dkH (actD { d with p0 := some s })) (res := .v (.int .i64 (errS (actD { d with p0 := some s })))) [0] ?_ ?_ rfl ?_ (by simp only [List.length_cons, List.length_nil]; decide) ?_).1
    · exact (fun i hi => by rw [hnA] at hi; simp only [List.length_cons, List.length_nil] at hi ⊢; first | exact absurd hi (Nat.not_lt_zero _) | (revert i; decide))
    · (repeat (first | exact trivial | (refine And.intro ⟨(by first | trivial | (simp; first | done | fail) | exact ⟨trivial, hbel _⟩), _, rfl, (by first | exact .rfl _ | exact .nil | exact .of_eq (by simp [pend_ren]; first | done | fail) | exact AV.wk.sh (by simp [pend_ren]; first | done | fail) | exact .untip _ _ _)⟩ ?_)))
    · (repeat (first | exact trivial | refine HFromL.skip ?_ | (refine And.intro ⟨(by first | trivial | (simp; first | done | fail) | exact ⟨trivial, hbel _⟩), (by first | rfl | (simp [pend_ren]; first | done | fail) | (conv => rhs; simp only [AO.ren, AV.ren, AV.renL, Option.map_some, pend_ren]) <;> rfl)⟩ ?_)))
    · rfl
end
end Go.Proofs.Ytjmbendppcildaa.E
end
section
/- Bytes as a number; what a reader of layer 2 takes up. No program in sight. -/
namespace Go.Proofs.Ytjmbendppcildaa.V
/-- bytes as a number, the highest first -/
def valU (l : List UInt8) : UInt64 := l.foldl (fun n c => shl64 n 8 ||| c.toUInt64) 0
theorem valU_succ (l : List UInt8) (i : Nat) (h : i < l.length) : valU (l.take (i + 1)) = shl64 (valU (l.take i)) 8 ||| (l[i]'h).toUInt64 := by
  unfold valU
  rw [List.take_add_one, List.getElem?_eq_getElem h, List.foldl_append]
  rfl
theorem or_byte (a b : Nat) (h : b < 256) : a * 256 ||| b = a * 256 + b := by
  have := Nat.two_pow_add_eq_or_of_lt (i := 8) (b := b) (by omega) a
  rw [Nat.mul_comm] at this
  exact this.symm
theorem step_toNat (n : UInt64) (c : UInt8) (h : n.toNat < 2 ^ 56) : (shl64 n 8 ||| c.toUInt64).toNat = n.toNat * 256 + c.toNat := by
  have hc := c.toNat_lt
  rw [UInt64.toNat_or]
  unfold shl64
  rw [UInt64.toNat_ofNat', UInt8.toNat_toUInt64, Nat.mod_eq_of_lt (by omega)]
  exact or_byte _ _ (by omega)
theorem valU_lt : ∀ (k : Nat) (l : List UInt8), l.length = k → k ≤ 8 → (valU l).toNat < 256 ^ k
  | 0, l, h, _ => by
    obtain rfl := List.eq_nil_of_length_eq_zero h
    decide
  | k + 1, l, h, hk => by
    have e := valU_succ l k (by omega)
    rw [List.take_of_length_le (by omega)] at e
    have ih := valU_lt k (l.take k) (by rw [List.length_take]; omega) (by omega)
    have hle : 256 ^ k ≤ 2 ^ 56 := by
      have : (256 : Nat) ^ k ≤ 256 ^ 7 := Nat.pow_le_pow_right (by decide) (by omega)
      exact Nat.le_trans this (by decide)
    have hc := (l[k]'(by omega)).toNat_lt
    rw [e, step_toNat _ _ (by omega), Nat.pow_succ]
    omega
theorem valU_beP (x : UInt64) (size : Nat) (h8 : size ≤ 8) : ∀ m, m ≤ size → (valU (beP x size m)).toNat = x.toNat / 256 ^ (size - m) % 256 ^ m
  | 0, _ => by rw [beP_0, Nat.pow_zero, Nat.mod_one]; rfl
  | m + 1, h => by
    have ih := valU_beP x size h8 m (by omega)
    have hl := valU_lt m (beP x size m) (beP_length _ _ _) (by omega)
    have hle : 256 ^ m ≤ 2 ^ 56 := by
      have : (256 : Nat) ^ m ≤ 256 ^ 7 := Nat.pow_le_pow_right (by decide) (by omega)
      exact Nat.le_trans this (by decide)
    have e : valU (beP x size (m + 1)) = shl64 (valU (beP x size m)) 8 ||| (UInt8.ofNat (x.toNat / 256 ^ (size - 1 - m))).toUInt64 := by
      rw [beP_succ]; unfold valU; rw [List.foldl_append]; rfl
    rw [e, step_toNat _ _ (by omega), ih, UInt8.toNat_ofNat', show size - (m + 1) = size - 1 - m by omega]
    have e2 : size - m = size - 1 - m + 1 := by omega
    rw [e2, Nat.pow_succ 256 (size - 1 - m), ← Nat.div_div_eq_div_mul]
    generalize x.toNat / 256 ^ (size - 1 - m) = y
    rw [show (256 : Nat) ^ (m + 1) = 256 * 256 ^ m by rw [Nat.pow_succ, Nat.mul_comm], Nat.mod_mul]
    omega
theorem valU_beS (x : UInt64) (m : Nat) (h : m ≤ 8) : (valU (beS x m)).toNat = x.toNat % 256 ^ m := by
  unfold beS
  rw [valU_beP x m h m (Nat.le_refl _), Nat.sub_self, Nat.pow_zero, Nat.div_one]
theorem valU_be8 (x : UInt64) : valU (beS x 8) = x := by
  apply UInt64.toNat_inj.1
  rw [valU_beS x 8 (by decide)]
  have := x.toNat_lt
  exact Nat.mod_eq_of_lt (by omega)
/-- a reader: what is left, is it bad; so many bytes -/
def rdCut (n : Nat) (r : List UInt8 × Bool) : List UInt8 × List UInt8 × Bool := if r.2 = true ∨ r.1.length < n then ([], r.1, true) else (r.1.take n, r.1.drop n, false)
def rdNum (r : List UInt8 × Bool) : UInt64 × List UInt8 × Bool := (if (rdCut 8 r).2.2 = true then 0 else valU (rdCut 8 r).1, (rdCut 8 r).2)
def rdText (most : Nat) (r : List UInt8 × Bool) : List UInt8 × List UInt8 × Bool :=
  if (rdCut 4 r).2.2 = true then ([], (rdCut 4 r).2) else if most < (valU (rdCut 4 r).1).toNat then ([], (rdCut 4 r).2.1, true) else rdCut (valU (rdCut 4 r).1).toNat (rdCut 4 r).2
theorem rdCut_bad (n : Nat) (l : List UInt8) : rdCut n (l, true) = ([], l, true) := if_pos (.inl rfl)
theorem rdCut_short {n : Nat} {l : List UInt8} {b : Bool} (h : l.length < n) : rdCut n (l, b) = ([], l, true) := if_pos (.inr h)
theorem rdCut_fit {n : Nat} {l : List UInt8} (h : n ≤ l.length) : rdCut n (l, false) = (l.take n, l.drop n, false) := if_neg (fun k => k.elim (fun e => by cases e) (fun e => by have : l.length < n := e; omega))
theorem rdCut_len (n : Nat) (r : List UInt8 × Bool) : (rdCut n r).1.length ≤ n ∧ (rdCut n r).2.1.length ≤ r.1.length := by
  unfold rdCut
  split
  · exact ⟨Nat.zero_le _, Nat.le_refl _⟩
  · exact ⟨List.length_take_le _ _, by show (r.1.drop n).length ≤ _; rw [List.length_drop]; omega⟩
/-- where it is not bad, so many bytes were taken -/
theorem rdCut_ok {n : Nat} {r : List UInt8 × Bool} (h : (rdCut n r).2.2 = false) : r.2 = false ∧ n ≤ r.1.length ∧ rdCut n r = (r.1.take n, r.1.drop n, false) := by
  unfold rdCut at h ⊢
  split at h
  · cases h
  · rename_i hn
    refine ⟨by rw [← Bool.not_eq_true]; exact fun e => hn (.inl e), by omega, if_neg hn⟩
end Go.Proofs.Ytjmbendppcildaa.V
end
section
/- Layer 12's records as sectors: laid, taken up, opened. No program in sight. -/
namespace Go.Proofs.Ytjmbendppcildaa.V
/-- a record as a sector -/
def layJ (c : UInt64) (s : List UInt8) : List UInt8 := beS c 8 ++ beS (UInt64.ofNat s.length) 4 ++ s ++ List.replicate (236 - s.length) 0 ++ beS c 8
def takeJ (n : Nat) (b : List UInt8) : UInt64 × List UInt8 × Bool :=
  if 200 < (valU ((b.drop 8).take 4)).toNat then (valU (b.take 8), [], false)
  else (valU (b.take 8), (b.drop 12).take (valU ((b.drop 8).take 4)).toNat, decide (1 ≤ (valU (b.take 8)).toNat ∧ (valU (b.take 8)).toNat % 2 = n ∧ layJ (valU (b.take 8)) ((b.drop 12).take (valU ((b.drop 8).take 4)).toNat) = b))
theorem layJ_length (c : UInt64) (s : List UInt8) (h : s.length ≤ 236) : (layJ c s).length = 256 := by
  unfold layJ
  simp only [List.length_append, beS_length, List.length_replicate]
  omega
theorem layJ_end (c : UInt64) (s : List UInt8) (h : s.length ≤ 236) : (layJ c s).drop 248 = beS c 8 := by
  unfold layJ
  exact List.drop_left' (by simp only [List.length_append, beS_length, List.length_replicate]; omega)
theorem layJ_num (c : UInt64) (s : List UInt8) : (layJ c s).take 8 = beS c 8 := by
  unfold layJ
  rw [List.append_assoc, List.append_assoc, List.append_assoc]
  exact List.take_left' (beS_length _ _)
theorem layJ_len (c : UInt64) (s : List UInt8) : ((layJ c s).drop 8).take 4 = beS (UInt64.ofNat s.length) 4 := by
  unfold layJ
  rw [List.append_assoc, List.append_assoc, List.append_assoc, List.drop_left' (beS_length _ _)]
  exact List.take_left' (beS_length _ _)
theorem layJ_text (c : UInt64) (s : List UInt8) : ((layJ c s).drop 12).take s.length = s := by
  unfold layJ
  rw [List.append_assoc, List.append_assoc, List.drop_left' (by simp [beS_length])]
  exact List.take_left' rfl
theorem takeJ_lay (n : Nat) (c : UInt64) (s : List UInt8) (h : s.length ≤ 200) : takeJ n (layJ c s) = (c, s, decide (1 ≤ c.toNat ∧ c.toNat % 2 = n)) := by
  have e : (valU (((layJ c s).drop 8).take 4)).toNat = s.length := by
    rw [layJ_len, valU_beS _ _ (by decide), UInt64.toNat_ofNat', Nat.mod_eq_of_lt (by omega), Nat.mod_eq_of_lt (by omega)]
  unfold takeJ
  rw [e, if_neg (by omega), layJ_num, valU_be8, layJ_text]
  simp
theorem takeJ_ok {n : Nat} {b : List UInt8} (h : (takeJ n b).2.2 = true) : b = layJ (takeJ n b).1 (takeJ n b).2.1 ∧ 1 ≤ (takeJ n b).1.toNat ∧ (takeJ n b).1.toNat % 2 = n ∧ (takeJ n b).2.1.length ≤ 200 := by
  unfold takeJ at h ⊢
  split at h
  · cases h
  · rename_i hm
    rw [if_neg hm]
    have h' := of_decide_eq_true h
    exact ⟨h'.2.2.symm, h'.1, h'.2.1, by show (List.take _ _).length ≤ 200; rw [List.length_take]; omega⟩
/-- of two sectors: one that counts, and its count is greater -/
def betterJ (n : Nat) (b : List UInt8) (o : UInt64 × List UInt8) : UInt64 × List UInt8 :=
  if (takeJ n b).2.2 = true ∧ o.1.toNat < (takeJ n b).1.toNat then ((takeJ n b).1, (takeJ n b).2.1) else o
def openJ (b0 b1 : List UInt8) : UInt64 × List UInt8 := betterJ 1 b1 (betterJ 0 b0 (0, []))
/-- what stands in the sectors while the record is s, the count c; b: the sector of c, a: the other one -/
def CurJ (b a : List UInt8) (c : Nat) (s : List UInt8) : Prop :=
  c < 250 ∧ s.length ≤ 200 ∧ b.length = 256 ∧ a.length = 256 ∧ (c = 0 → s = [] ∧ b.drop 248 = beS 0 8) ∧ (1 ≤ c → b = layJ (UInt64.ofNat c) s) ∧ ∃ q : Nat, q ≤ c ∧ a.drop 248 = beS (UInt64.ofNat q) 8
theorem CurJ.last {b a : List UInt8} {c : Nat} {s : List UInt8} (h : CurJ b a c s) : b.drop 248 = beS (UInt64.ofNat c) 8 := by
  obtain ⟨hc, hs, h1, h2, h3, h4, -⟩ := h
  rcases Nat.eq_zero_or_pos c with rfl | hp
  · exact (h3 rfl).2
  · rw [h4 hp, layJ_end _ _ (by omega)]
theorem ofNat_toNat {c : Nat} (h : c < 250) : (UInt64.ofNat c).toNat = c := by
  rw [UInt64.toNat_ofNat']
  omega
theorem other_le {a : List UInt8} {n q : Nat} (hq : q < 250) (ha : a.drop 248 = beS (UInt64.ofNat q) 8) (h : (takeJ n a).2.2 = true) : (takeJ n a).1.toNat = q := by
  obtain ⟨h1, h2, h3, h4⟩ := takeJ_ok h
  rw [h1, layJ_end _ _ (by omega)] at ha
  have := congrArg valU ha
  rw [valU_be8, valU_be8] at this
  rw [this, ofNat_toNat hq]
theorem best {b a : List UInt8} {c n : Nat} {s : List UInt8} (h : CurJ b a c s) (o : UInt64 × List UInt8) (ho : o.1.toNat < c ∨ o = (UInt64.ofNat c, s)) (hn : c % 2 = n) : betterJ n b o = (UInt64.ofNat c, s) := by
  obtain ⟨hc, hs, h1, h2, h3, h4, -⟩ := h
  rcases Nat.eq_zero_or_pos c with rfl | hp
  · unfold betterJ
    rcases ho with ho | rfl
    · omega
    · refine if_neg fun ⟨k1, k2⟩ => ?_
      have := other_le (q := 0) (by decide) (h3 rfl).2 k1
      rw [this] at k2
      exact absurd k2 (Nat.not_lt_zero _)
  · have e := takeJ_lay n (UInt64.ofNat c) s hs
    rw [← h4 hp, ofNat_toNat hc, decide_eq_true (show 1 ≤ c ∧ c % 2 = n from ⟨hp, hn⟩)] at e
    unfold betterJ
    rw [e]
    rcases ho with ho | rfl
    · exact if_pos ⟨rfl, by show o.1.toNat < (UInt64.ofNat c).toNat; rw [ofNat_toNat hc]; exact ho⟩
    · exact if_neg fun ⟨_, k⟩ => absurd k (Nat.lt_irrefl _)
theorem other {b a : List UInt8} {c n : Nat} {s : List UInt8} (h : CurJ b a c s) (o : UInt64 × List UInt8) (ho : o.1.toNat ≤ c) (hn : c % 2 ≠ n) : (betterJ n a o = o ∨ (betterJ n a o).1.toNat < c) ∧ (o = (UInt64.ofNat c, s) → betterJ n a o = o) := by
  obtain ⟨hc, hs, h1, h2, h3, h4, q, hq, ha⟩ := h
  unfold betterJ
  by_cases hk : (takeJ n a).2.2 = true
  · have hv := other_le (by omega) ha hk
    have hp := (takeJ_ok hk).2.2.1
    rw [hv] at hp ⊢
    by_cases ho' : o.1.toNat < q
    · rw [if_pos ⟨hk, ho'⟩]
      refine ⟨.inr ?_, fun he => ?_⟩
      · show (takeJ n a).1.toNat < c
        rw [hv]
        have : q ≠ c := fun h => hn (h ▸ hp)
        omega
      · subst he
        have : (UInt64.ofNat c).toNat < q := ho'
        rw [ofNat_toNat hc] at this
        omega
    · rw [if_neg (fun h => ho' h.2)]
      exact ⟨.inl rfl, fun _ => rfl⟩
  · rw [if_neg (fun h => hk h.1)]
    exact ⟨.inl rfl, fun _ => rfl⟩
/-- OPENED, the record is the one that the sectors hold -/
theorem openJ_even {b a : List UInt8} {c : Nat} {s : List UInt8} (h : CurJ b a c s) (hn : c % 2 = 0) : openJ b a = (UInt64.ofNat c, s) := by
  unfold openJ
  have h0 : betterJ 0 b (0, []) = (UInt64.ofNat c, s) := by
    refine best h _ ?_ hn
    rcases Nat.eq_zero_or_pos c with rfl | hp
    · exact .inr (by rw [(h.2.2.2.2.1 rfl).1]; rfl)
    · exact .inl hp
  rw [h0]
  exact (other h _ (by show (UInt64.ofNat c).toNat ≤ c; rw [ofNat_toNat h.1]; exact Nat.le_refl _) (by omega)).2 rfl
theorem openJ_odd {b a : List UInt8} {c : Nat} {s : List UInt8} (h : CurJ b a c s) (hn : c % 2 = 1) : openJ a b = (UInt64.ofNat c, s) := by
  unfold openJ
  refine best h _ ?_ hn
  rcases (other (n := 0) h (0, []) (Nat.zero_le _) (by omega)).1 with h1 | h1
  · rw [h1]
    exact .inl (by show 0 < c; omega)
  · exact .inl h1
/-- saved, and it lasts -/
theorem CurJ.save {b a : List UInt8} {c : Nat} {s : List UInt8} (h : CurJ b a c s) (t : List UInt8) (ht : t.length ≤ 200) (hc : c + 1 < 250) : CurJ (layJ (UInt64.ofNat (c + 1)) t) b (c + 1) t :=
  ⟨hc, ht, layJ_length _ _ (by omega), h.2.2.1, fun h => absurd h (by omega), fun _ => rfl, c, by omega, h.last⟩
theorem be8_low {x : Nat} (h : x < 250) : beS (UInt64.ofNat x) 8 = [0, 0, 0, 0, 0, 0, 0, UInt8.ofNat x] := by
  have e := ofNat_toNat h
  simp only [beS_cons, e]
  have h1 : ∀ k, 1 ≤ k → x / 256 ^ k = 0 := fun k hk => Nat.div_eq_of_lt (Nat.lt_of_lt_of_le (show x < 256 by omega) (by
    have : (256 : Nat) ^ 1 ≤ 256 ^ k := Nat.pow_le_pow_right (by decide) hk
    simpa using this))
  rw [h1 7 (by decide), h1 6 (by decide), h1 5 (by decide), h1 4 (by decide), h1 3 (by decide), h1 2 (by decide), h1 1 (by decide), Nat.pow_zero, Nat.div_one]
  rfl
theorem torn8 {x y : Nat} (hx : x < 250) (hy : y < 250) : ∀ k, k < 8 → (beS (UInt64.ofNat x) 8).take k ++ (beS (UInt64.ofNat y) 8).drop k = beS (UInt64.ofNat y) 8 := by
  intro k hk
  rw [be8_low hx, be8_low hy]
  match k, hk with
  | 0, _ | 1, _ | 2, _ | 3, _ | 4, _ | 5, _ | 6, _ | 7, _ => rfl
/-- saved, and it is torn: what lasted is as it was -/
theorem CurJ.torn {b a : List UInt8} {c : Nat} {s : List UInt8} (h : CurJ b a c s) (t : List UInt8) (ht : t.length ≤ 200) (hc : c + 1 < 250) (n : Nat) (hn : n < 256) : CurJ b ((layJ (UInt64.ofNat (c + 1)) t).take n ++ a.drop n) c s := by
  obtain ⟨h0, hs, h1, h2, h3, h4, q, hq, ha⟩ := h
  have hl := layJ_length (UInt64.ofNat (c + 1)) t (by omega)
  have he := layJ_end (UInt64.ofNat (c + 1)) t (by omega)
  refine ⟨h0, hs, h1, by rw [List.length_append, List.length_take, List.length_drop]; omega, h3, h4, q, hq, ?_⟩
  rcases Nat.lt_or_ge n 248 with hlt | hge
  · rw [List.drop_append, List.drop_of_length_le (by rw [List.length_take]; omega), List.nil_append, List.length_take, List.drop_drop, Nat.min_eq_left (by omega), show n + (248 - n) = 248 by omega]
    exact ha
  · rw [List.drop_append_of_le_length (by rw [List.length_take]; omega), List.drop_take, he, show a.drop n = (a.drop 248).drop (n - 248) by rw [List.drop_drop, show 248 + (n - 248) = n by omega], ha]
    exact torn8 (by omega) (by omega) _ (by omega)
theorem CurJ.whole {b a : List UInt8} {c : Nat} {s : List UInt8} (h : CurJ b a c s) (t : List UInt8) (ht : t.length ≤ 200) (hc : c + 1 < 250) : CurJ ((layJ (UInt64.ofNat (c + 1)) t).take 256 ++ a.drop 256) b (c + 1) t := by
  rw [List.take_of_length_le (by rw [layJ_length _ _ (by omega)]; exact Nat.le_refl _), List.drop_of_length_le (by rw [h.2.2.2.1]; exact Nat.le_refl _), List.append_nil]
  exact h.save t ht hc
/-- what is written by hand over the other sector, and is not right -/
theorem CurJ.junk {b a : List UInt8} {c : Nat} {s : List UInt8} (h : CurJ b a c s) (x : List UInt8) (hx : (takeJ ((c + 1) % 2) x).2.2 = false) : (c % 2 = 0 → openJ b x = (UInt64.ofNat c, s)) ∧ (c % 2 = 1 → openJ x b = (UInt64.ofNat c, s)) := by
  have hno : ∀ o n, n = (c + 1) % 2 → betterJ n x o = o := fun o n hn => by
    unfold betterJ
    rw [if_neg (fun k => by rw [hn, hx] at k; exact absurd k.1 (by decide))]
  refine ⟨fun hc => ?_, fun hc => ?_⟩
  · unfold openJ
    rw [hno _ 1 (by omega)]
    refine best h _ ?_ hc
    rcases Nat.eq_zero_or_pos c with rfl | hp
    · exact .inr (by rw [(h.2.2.2.2.1 rfl).1]; rfl)
    · exact .inl hp
  · unfold openJ
    rw [hno _ 0 (by omega)]
    exact best h _ (.inl (by show 0 < c; omega)) hc
theorem junk_not (n : Nat) (x : List UInt8) (h1 : x[0]? = some 120) (h2 : x[248]? = some 0) : (takeJ n x).2.2 = false := by
  rw [Bool.eq_false_iff]
  intro hk
  obtain ⟨e, -, -, hl⟩ := takeJ_ok hk
  have a1 : (beS (takeJ n x).1 8)[0]? = some 120 := by
    rw [← layJ_num (takeJ n x).1 (takeJ n x).2.1, ← e, List.getElem?_take_of_lt (by decide)]
    exact h1
  have a2 : (beS (takeJ n x).1 8)[0]? = some 0 := by
    rw [← layJ_end (takeJ n x).1 (takeJ n x).2.1 (by omega), ← e, List.getElem?_drop]
    exact h2
  rw [a1] at a2
  cases a2
end Go.Proofs.Ytjmbendppcildaa.V
end
section
/- A text as a slice of bytes. -/
namespace Go.Proofs.Ytjmbendppcildaa.E
open Go Go.RowKit Go.Proofs.Ytjmbendppcildaa.V
section
variable {P : Program} {G : List (Nat × Array Value)} {dst : Option Tmp} {ty : TypeId} {pos : String} {aft : Array Edge} {gd : Option (Nat × Bool)}
theorem OpS.s2b {src d e : TypeId} {x : Operand} {l : List UInt8} (hs : P.underlying src = some .string) (hd : P.underlying d = some (.slice e)) (he : P.underlying e = some (.int .u8)) (hl : l.length ≤ maxLen) :
    OpS P G ⟨dst, .convert src d x, ty, pos, aft, gd⟩ [(x, .v (.string (B l)))] [] ⟨some (.sl none l.length (l.map fun b => .v (bv b))), [], []⟩ := by
  refine OpS.act fun A ρ σ a w _ h hp hu hst => ?_
  have hz : (B l).size = l.length := by simp [B, ByteArray.size]
  have hr := Lib.run_convert_string_bytes (P := P) w src d e (B l) hs hd he
  rw [hz] at hr
  have hge := grownCap_ge w l.length 0 e
  have hsz : (Lib.bytesCells w e (B l)).size = grownCap w l.length 0 e := by
    simp only [Lib.bytesCells, Array.size_append, Array.size_map, Array.size_replicate, hz]
    have : (B l).data.size = l.length := hz
    rw [this]
    omega
  obtain ⟨k1, k2, k3⟩ := new_slice (w' := Lib.bytesWorld w e (B l)) (cs := l.map fun b => AV.v (bv b)) (n := l.length) (cap := grownCap w l.length 0 e) hst.mem rfl rfl rfl (Lib.bytesWorld_size w e (B l)) (fun k hk => Lib.bytesWorld_at_old w e (B l) k hk) (Lib.bytesWorld_at_new w e (B l))
    (by rw [hsz, List.length_map]; exact hge) hge (grownCap_le_maxLen w _ 0 e hl) (fun j c v hc hv => by
      have hjl : j < l.length := by have := (List.getElem?_eq_some_iff.1 hc).1; simpa using this
      have e1 : (Lib.bytesCells w e (B l))[j]? = some (bv l[j]) := by
        unfold Lib.bytesCells
        rw [Array.getElem?_append_left (by rw [Array.size_map]; exact Nat.lt_of_lt_of_eq hjl hz.symm)]
        simp [B, bv, U8, hjl]
      rw [e1] at hv
      cases hv
      rw [List.getElem?_map, List.getElem?_eq_getElem hjl] at hc
      cases hc
      exact ⟨.v _, rfl⟩)
  refine ⟨_, _, ρ, .inl ?_, k1, k2, fun v hv => by cases hv; exact k3⟩
  refine runv (s := convert src d (a.eval x)) ?_
  rw [(hst.ev h.1).raw]
  exact hr
/-- a text as a row of bytes that may be written -/
theorem OpS.s2bA {src d e : TypeId} {x : Operand} {l : List UInt8} (id : Nat) (hs : P.underlying src = some .string) (hd : P.underlying d = some (.slice e)) (he : P.underlying e = some (.int .u8)) (hl : l.length ≤ maxLen) :
    OpS P G ⟨dst, .convert src d x, ty, pos, aft, gd⟩ [(x, .v (.string (B l)))] [] ⟨some (.arr id 0 l.length), [(id, some (.cells e (l.map bA)))], [id]⟩ := by
  refine OpS.act fun A ρ σ a w _ h hp hu hst => ?_
  have hz : (B l).size = l.length := by simp [B, ByteArray.size]
  have hr := Lib.run_convert_string_bytes (P := P) w src d e (B l) hs hd he
  rw [hz] at hr
  have hge := grownCap_ge w l.length 0 e
  have hsz : (Lib.bytesCells w e (B l)).size = grownCap w l.length 0 e := by
    simp only [Lib.bytesCells, Array.size_append, Array.size_map, Array.size_replicate, hz]
    have : (B l).data.size = l.length := hz
    rw [this]
    omega
  obtain ⟨ρ', k1, k2, k3⟩ := new_cellsM (w' := Lib.bytesWorld w e (B l)) (T := e) (cs := l.map bA) hst.mem hu.1 rfl rfl rfl (Lib.bytesWorld_size w e (B l)) (fun k hk => Lib.bytesWorld_at_old w e (B l) k hk) (.inr (Nat.le_refl _)) (Lib.bytesWorld_at_new w e (B l))
    (by rw [hsz, List.length_map]; exact hge) (fun j c v hc hv => by
      have hjl : j < l.length := by have := (List.getElem?_eq_some_iff.1 hc).1; simpa using this
      have e1 : (Lib.bytesCells w e (B l))[j]? = some (bv l[j]) := by
        unfold Lib.bytesCells
        rw [Array.getElem?_append_left (by rw [Array.size_map]; exact Nat.lt_of_lt_of_eq hjl hz.symm)]
        simp [B, bv, U8, hjl]
      rw [e1] at hv
      cases hv
      rw [List.getElem?_map, List.getElem?_eq_getElem hjl] at hc
      cases hc
      exact ⟨.v _, rfl⟩)
  refine ⟨_, _, ρ', .inl ?_, k1, k2, fun v hv => by cases hv; exact .arr id 0 _ _ _ k3 hge (grownCap_le_maxLen w _ 0 e hl)⟩
  refine runv (s := convert src d (a.eval x)) ?_
  rw [(hst.ev h.1).raw]
  exact hr
end
end Go.Proofs.Ytjmbendppcildaa.E
end
section
/- Values of several cells, stored. -/
namespace Go.Proofs.Ytjmbendppcildaa.E
open Go Go.RowKit Go.Proofs.Ytjmbendppcildaa.V
section
variable {P : Program} {G : List (Nat × Array Value)} {dst : Option Tmp} {ty : TypeId} {pos : String} {aft : Array Edge} {gd : Option (Nat × Bool)}
theorem OpS.storePA {t T : TypeId} {inf : TypeInfo} {x y : Operand} {id off : Nat} {cs : List AV} {c : AV} (hi : P.info? t = some inf) (hz : inf.size = (cellsA c).length) (h1 : ((cellsA c).all fun d => d.one) = true) (hl : off + (cellsA c).length ≤ cs.length) :
    OpS P G ⟨dst, .store t x y, ty, pos, aft, gd⟩ [(x, .ptr id off), (y, c)] [(id, .cells T cs)] ⟨none, [(id, some (.cells T (splice cs off (cellsA c))))], []⟩ := by
  refine OpS.act fun A ρ σ a w _ h hp _ hs => ?_
  have hx := hs.ev h.1
  obtain ⟨c1, c2⟩ := cellsA_rel (hs.ev h.2.1)
  obtain ⟨b, arr, k1, ⟨fz, hmk, k2⟩, k3, k4⟩ := hs.mem.heap id _ hp.1
  have hlen : (a.eval y).cells.toList.length = (cellsA c).length := by rw [Array.length_toList]; exact c1
  have h1' : ∀ v ∈ (a.eval y).cells.toList, v.oneCell' = true := by
    intro v hv
    obtain ⟨j, hj⟩ := List.mem_iff_getElem?.1 hv
    have hjl : j < (cellsA c).length := by rw [← hlen]; exact (List.getElem?_eq_some_iff.1 hj).1
    exact (c2 j _ v (List.getElem?_eq_getElem hjl) (by simpa using hj)).oneCell (List.all_eq_true.1 h1 _ (List.getElem_mem hjl))
  have hst := run_storeCells_mk P b off T (a.eval y).cells.toList 0 arr w fz hmk k2 (by rw [hlen]; omega) h1'
  obtain ⟨m1, m2⟩ := hs.mem.write (cs' := splice cs off (cellsA c)) (w' := w.setRow b (arr.toList.take off ++ (a.eval y).cells.toList ++ arr.toList.drop (off + (a.eval y).cells.toList.length)).toArray) hp.1 k1 rfl rfl rfl (by simp) (fun k _ hk => setRow_other w b k _ hk)
    (by unfold Mark; rw [show ((arr.toList.take off ++ (a.eval y).cells.toList ++ arr.toList.drop (off + (a.eval y).cells.toList.length)).toArray).size = arr.size by simp only [List.size_toArray, List.length_append, List.length_take, List.length_drop, hlen, Array.length_toList]; omega]; exact hmk) (setRow_heap w b arr _ T fz k2) (by
      rw [splice_len _ _ _ hl]
      simp only [List.size_toArray, List.length_append, List.length_take, List.length_drop, hlen, Array.length_toList]; omega) (fun j d v hc hv => by
    have hv' : (splice arr.toList off (a.eval y).cells.toList)[j]? = some v := by simpa [splice] using hv
    rw [splice_get _ _ _ _ hl] at hc
    rw [splice_get _ _ _ _ (by rw [hlen]; have := Array.length_toList (xs := arr); omega)] at hv'
    rw [hlen] at hv'
    split at hc
    · rename_i hin
      rw [if_pos hin] at hv'
      have hv2 : (a.eval y).cells[j - off]? = some v := by simpa using hv'
      exact ⟨c2 _ d v hc hv2, h1' v (List.mem_of_getElem? hv')⟩
    · rename_i hin
      rw [if_neg hin] at hv'
      exact k4 j d v hc (by simpa using hv'))
  refine ⟨undef, _, ρ, .inr ⟨?_, rfl⟩, m1, m2, fun v hv => by cases hv⟩
  refine runu (s := Instr.storeAt t (a.eval x) (a.eval y)) ?_
  generalize a.eval x = z at hx
  cases hx with
  | ptr id off b' hb' =>
    rw [k1] at hb'
    cases hb'
    rw [Nat.add_zero] at hst
    simp only [Instr.storeAt, Instr.sureAddr, Sem.run_bind, Sem.run_pure, Result.andThen_ok, storeVar, sizeOf, typeInfo]
    simp [Sem.run_bind, Sem.run_pure, Result.andThen_ok, hi, hz, c1, hst]
/-- an array, put together -/
theorem OpS.buildA {T E : TypeId} {n sz : Nat} {inf infE : TypeInfo} {z : Value} {ps : List (Nat × Operand)} {ys cs : List AV} (hu : P.underlying T = some (.array n E)) (hi : P.info? T = some inf) (hz : inf.zero = some z) (hE : P.info? E = some infE) (hs' : infE.size = sz)
    (hl : ps.length = ys.length) (hf : fillA (fun i => some (i * sz, sz)) (z.cells.toList.map .v) ((ps.map (·.1)).zip ys) = some cs) :
    OpS P G ⟨dst, .build T ps.toArray, ty, pos, aft, gd⟩ ((ps.map (·.2)).zip ys) [] ⟨some (.agg cs), [], []⟩ := by
  subst hs'
  refine OpS.still fun A ρ σ a w _ h _ hs => ?_
  obtain ⟨arr', h1, h2, h3⟩ := fill_rel (N := Nh A σ.h ρ w) (ρ := ρ) (w := w) ((ps.map (·.1)).zip ys) (ps.map fun p => (p.1, a.eval p.2)) _ cs z.cells hf
    (by rw [List.map_fst_zip (by simp [hl])]; simp) (parts_rel hs h hl) (by simp) (fun j c v hc hv => by
      rw [List.getElem?_map, Array.getElem?_toList, hv] at hc
      cases hc
      exact .v _)
  refine ⟨.agg arr', ?_, .agg cs arr' h2 h3⟩
  show (do pure (Next.value (← Instr.build T (ps.toArray.map fun (i, x) => (i, a.eval x)))) : Sem Next).run P w = _
  refine runv ?_
  simp only [Instr.build, Sem.run_bind, zeroValue, typeInfo, hi, hz, run_underlying hu, sizeOf, hE, Sem.run_pure, Result.andThen_ok, run_program]
  simp only [List.map_toArray, h1]
  rfl
end
end Go.Proofs.Ytjmbendppcildaa.E
end
