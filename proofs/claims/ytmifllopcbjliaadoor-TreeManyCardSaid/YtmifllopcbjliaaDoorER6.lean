/- The document's own answer for layer 1, by abstract steps: Sum, Input, Tag, and what is refused. -/
import Derived.Test.YtmifllopcbjliaaDoorER5
namespace Go.Proofs.YtmifllopcbjliaaDoor.E
open Go Go.RowKit Go.Proofs.YtmifllopcbjliaaDoor.V
attribute [local go_sem] B_size B_append B_extract mk_B B_toList take_drop_len List.length_drop List.length_take sgn32 sgn64 add32 sub32 mul32 add64 sub64 mul64 mul64_8 and32 or32 xor32 and64 or64 xor64 shl32_run shr32_run shl64_run shr64_run not32 not32' xor32_all w_u32_u8 w_u64_u8 w_i64_u8 w_u8_u32 w_u8_u64 w_u32_u64 w_u64_u32 w_u8_u8 w_u32_u32 w_u64_u64
attribute [local go_sem ↓] run_index_B' add32 sub32 mul32 add64 sub64 mul64 mul64_8 and32 or32 xor32 and64 or64 xor64 shl32_run shr32_run shl64_run shr64_run not32 not32' xor32_all w_u32_u8 w_u64_u8 w_i64_u8 w_u8_u32 w_u8_u64 w_u32_u64 w_u64_u32 w_u8_u8 w_u32_u32 w_u64_u64 w_u64_nat w_u32_nat w_u8_nat

section
variable {P : Program} {G : List (Nat × Array Value)} {dst : Option Tmp} {ty : TypeId} {pos : String} {aft : Array Edge} {gd : Option (Nat × Bool)}
theorem OpS.strEqT {t t' : TypeId} {x y : Operand} {a : List UInt8} :
    OpS P G ⟨dst, .binOp .eql t x y t', ty, pos, aft, gd⟩ [(x, .v (.string (B a))), (y, .v (.string (B a)))] [] ⟨some (.v (.bool true)), [], []⟩ := by
  have := OpS.strEql (P := P) (G := G) (dst := dst) (ty := ty) (pos := pos) (aft := aft) (gd := gd) (t := t) (t' := t') (x := x) (y := y) (a := a) (b := a)
  simpa using this
theorem OpS.shrN {t t' : TypeId} {x y : Operand} {n j : Nat} {k' : IntKind} {m : Int} (h : m = (j : Int)) (hj : j ≤ 64) :
    OpS P G ⟨dst, .binOp .shr t x y t', ty, pos, aft, gd⟩ [(x, .v (.int .i64 (n : Int))), (y, .v (.int k' m))] [] ⟨some (.v (.int .i64 ((n / 2 ^ j : Nat) : Int))), [], []⟩ := by
  subst h
  refine OpS.binR rfl fun w => ?_
  show (Op.shift .shr .i64 (n : Int) k' (j : Int)).run P w = _
  unfold Op.shift
  rw [if_neg (by omega)]
  show Result.ok (Value.int .i64 ((n : Int).fdiv (2 ^ (min ((j : Int)).toNat 64)))) w = _
  rw [Int.toNat_natCast, Nat.min_eq_left hj, Int.fdiv_eq_ediv_of_nonneg _ (by have := Int.natCast_nonneg (2 ^ j : Nat); push_cast at this; exact this), Int.natCast_ediv, Int.natCast_pow]
  rfl
end

theorem rpadN_fc {G : List (Nat × Array Value)} (n : Int) (hn : n < 0) : FC Tryd.prog G 58 [.v (.int .i64 n)] [] (sA []) [] := by
  refine FC.of_wp [2] Tryd.func58 rfl rfl rfl rfl (by first | trivial | (simp; first | done | fail)) (by first | trivial | (simp; first | done | fail)) (by exact Nat.le_of_ble_eq_true rfl) ?_
  intro A hG hnA hAB
  unfold start
  refine WP.rs hG ?_
  refine Ch.pu gdN (by exact ⟨rfl, trivial⟩) (OpS.assign) (by first | exact trivial | exact ⟨rfl, trivial⟩) rfl ?_
  refine Ch.nil ?_
  refine WP.seq ?_
  refine WP.rs hG ?_
  refine Ch.pu gdN (by exact ⟨rfl, trivial⟩) (OpS.move) (by first | exact trivial | exact ⟨rfl, trivial⟩) rfl ?_
  refine Ch.pu gdN (by exact ⟨rfl, rfl, trivial⟩) (OpS.int (v' := .bool true) rfl (by simp; omega)) (by first | exact trivial | exact ⟨rfl, trivial⟩) rfl ?_
  refine Ch.nil ?_
  refine WP.cond_true rfl ?_
  refine WP.rs hG ?_
  refine Ch.pu gdN (by exact ⟨rfl, trivial⟩) (OpS.assign) (by first | exact trivial | exact ⟨rfl, trivial⟩) rfl ?_
  refine Ch.nil ?_
  refine WP.ret (Ret.one rfl (by first | exact .rfl _ | exact .nil | exact .of_eq (by simp; first | done | fail) | exact AV.wk.sh (by simp; first | done | fail) | exact .untip _ _ _) (by first | trivial | simp [AV.bel]) hnA)
theorem rblockA_fc {G : List (Nat × Array Value)} (s b : List UInt8) (hs : s.length ≠ 32) : FC Tryd.prog G 59 [sA s, sA b] [] (sA []) [] := by
  refine FC.of_wp [4] Tryd.func59 rfl rfl rfl rfl (by first | trivial | (simp; first | done | fail)) (by first | trivial | (simp; first | done | fail)) (by exact Nat.le_of_ble_eq_true rfl) ?_
  intro A hG hnA hAB
  unfold start
  refine WP.rs hG ?_
  refine Ch.pu gdN (by exact ⟨rfl, trivial⟩) (OpS.assign) (by first | exact trivial | exact ⟨rfl, trivial⟩) rfl ?_
  refine Ch.nil ?_
  refine WP.seq ?_
  refine WP.rs hG ?_
  refine Ch.pu gdN (by exact ⟨rfl, trivial⟩) (OpS.move) (by first | exact trivial | exact ⟨rfl, trivial⟩) rfl ?_
  refine Ch.pu gdN (by exact ⟨rfl, trivial⟩) (OpS.lenS rfl) (by first | exact trivial | exact ⟨rfl, trivial⟩) rfl ?_
  refine Ch.pu gdN (by exact ⟨rfl, rfl, trivial⟩) (OpS.int (v' := .bool true) rfl (by simp; omega)) (by first | exact trivial | exact ⟨rfl, trivial⟩) rfl ?_
  refine Ch.pu gdN (by exact ⟨rfl, trivial⟩) (OpS.move) (by first | exact trivial | exact ⟨rfl, trivial⟩) rfl ?_
  refine Ch.skU (gdF rfl rfl rfl) rfl ?_
  refine Ch.skU (gdF rfl rfl rfl) rfl ?_
  refine Ch.skU (gdF rfl rfl rfl) rfl ?_
  refine Ch.pu gdN (by first | exact ⟨rfl, rfl, trivial⟩ | exact ⟨rfl, rfl, rfl, trivial⟩) (OpS.pickT) (by first | exact trivial | exact ⟨rfl, trivial⟩) rfl ?_
  refine Ch.nil ?_
  refine WP.cond_true rfl ?_
  refine WP.rs hG ?_
  refine Ch.pu gdN (by exact ⟨rfl, trivial⟩) (OpS.assign) (by first | exact trivial | exact ⟨rfl, trivial⟩) rfl ?_
  refine Ch.nil ?_
  refine WP.ret (Ret.one rfl (by first | exact .rfl _ | exact .nil | exact .of_eq (by simp; first | done | fail) | exact AV.wk.sh (by simp; first | done | fail) | exact .untip _ _ _) (by first | trivial | simp [AV.bel]) hnA)
theorem rblockB_fc {G : List (Nat × Array Value)} (s b : List UInt8) (hs : s.length = 32) (hb : b.length ≠ 64) : FC Tryd.prog G 59 [sA s, sA b] [] (sA []) [] := by
  refine FC.of_wp [4] Tryd.func59 rfl rfl rfl rfl (by first | trivial | (simp; first | done | fail)) (by first | trivial | (simp; first | done | fail)) (by exact Nat.le_of_ble_eq_true rfl) ?_
  intro A hG hnA hAB
  unfold start
  refine WP.rs hG ?_
  refine Ch.pu gdN (by exact ⟨rfl, trivial⟩) (OpS.assign) (by first | exact trivial | exact ⟨rfl, trivial⟩) rfl ?_
  refine Ch.nil ?_
  refine WP.seq ?_
  refine WP.rs hG ?_
  refine Ch.pu gdN (by exact ⟨rfl, trivial⟩) (OpS.move) (by first | exact trivial | exact ⟨rfl, trivial⟩) rfl ?_
  refine Ch.pu gdN (by exact ⟨rfl, trivial⟩) (OpS.lenS rfl) (by first | exact trivial | exact ⟨rfl, trivial⟩) rfl ?_
  refine Ch.pu gdN (by exact ⟨rfl, rfl, trivial⟩) (OpS.int (v' := .bool false) rfl (by simp [hs]; first | done | fail)) (by first | exact trivial | exact ⟨rfl, trivial⟩) rfl ?_
  refine Ch.pu gdN (by exact ⟨rfl, trivial⟩) (OpS.move) (by first | exact trivial | exact ⟨rfl, trivial⟩) rfl ?_
  refine Ch.pu (by exact gdT rfl rfl) (by exact ⟨rfl, trivial⟩) (OpS.move) (by first | exact trivial | exact ⟨rfl, trivial⟩) rfl ?_
  refine Ch.pu (by exact gdT rfl rfl) (by exact ⟨rfl, trivial⟩) (OpS.lenS rfl) (by first | exact trivial | exact ⟨rfl, trivial⟩) rfl ?_
  refine Ch.pu (by exact gdT rfl rfl) (by exact ⟨rfl, rfl, trivial⟩) (OpS.int (v' := .bool true) rfl (by simp; omega)) (by first | exact trivial | exact ⟨rfl, trivial⟩) rfl ?_
  refine Ch.pu gdN (by first | exact ⟨rfl, rfl, trivial⟩ | exact ⟨rfl, rfl, rfl, trivial⟩) (OpS.pickF) (by first | exact trivial | exact ⟨rfl, trivial⟩) rfl ?_
  refine Ch.nil ?_
  refine WP.cond_true rfl ?_
  refine WP.rs hG ?_
  refine Ch.pu gdN (by exact ⟨rfl, trivial⟩) (OpS.assign) (by first | exact trivial | exact ⟨rfl, trivial⟩) rfl ?_
  refine Ch.nil ?_
  refine WP.ret (Ret.one rfl (by first | exact .rfl _ | exact .nil | exact .of_eq (by simp; first | done | fail) | exact AV.wk.sh (by simp; first | done | fail) | exact .untip _ _ _) (by first | trivial | simp [AV.bel]) hnA)

theorem eat_next (m : Nat) (v : V.St) (l : List UInt8) (h : 64 * m ≤ l.length) : eat (m + 1) v l = mixed (eat m v l) ((l.drop (64 * m)).take 64) := by
  have hx : (l.take (64 * m)).length = 64 * m := by simp; omega
  have h1 := eat_append m 1 v (l.take (64 * m)) (l.drop (64 * m)) hx
  have h0 := eat_append m 0 v (l.take (64 * m)) (l.drop (64 * m)) hx
  rw [List.take_append_drop] at h1 h0
  have h0' : eat m v l = eat m v (l.take (64 * m)) := h0
  rw [h1, h0']
  rfl
theorem sum_eat (l : List UInt8) : ∃ q, (l ++ pad l.length).length = 64 * q ∧ sum l = (eat q first (l ++ pad l.length)).text := by
  have hp := pad_len l.length
  refine ⟨(l ++ pad l.length).length / 64, ?_, rfl⟩
  rw [List.length_append]
  omega
attribute [local irreducible] mixed readSt St.text pad sum
theorem rsum_fc {G : List (Nat × Array Value)} (hk : (3, kArr) ∈ G) (hf : (2, first.cells) ∈ G) (l : List UInt8) (hl : (l.length : Int) ≤ 9223372036854775000) :
    FC Tryd.prog G 54 [sA l] [] (sA (sum l)) [] := by
  refine FC.of_wp [2] Tryd.func54 rfl rfl rfl rfl (by first | trivial | (simp; first | done | fail)) (by first | trivial | (simp; first | done | fail)) (by exact Nat.le_of_ble_eq_true rfl) ?_
  intro A hG hnA hAB
  unfold start
  refine WP.rs hG ?_
  refine Ch.pu gdN (by exact ⟨rfl, trivial⟩) (OpS.assign) (by first | exact trivial | exact ⟨rfl, trivial⟩) rfl ?_
  refine Ch.nil ?_
  refine WP.rs hG ?_
  refine Ch.callP (first_fc hf) gdN (by repeat (first | exact EvL.nil | (apply EvL.cons; exact rfl))) (by exact trivial) (by rfl) rfl ?_
  refine Ch.pu gdN (by exact ⟨rfl, trivial⟩) (OpS.assign) (by first | exact trivial | exact ⟨rfl, trivial⟩) rfl ?_
  refine Ch.nil ?_
  have hp := pad_len l.length
  refine WP.rs hG ?_
  refine Ch.pu gdN (by exact ⟨rfl, trivial⟩) (OpS.move) (by first | exact trivial | exact ⟨rfl, trivial⟩) rfl ?_
  refine Ch.pu gdN (by exact ⟨rfl, trivial⟩) (OpS.move) (by first | exact trivial | exact ⟨rfl, trivial⟩) rfl ?_
  refine Ch.pu gdN (by exact ⟨rfl, trivial⟩) (OpS.lenS rfl) (by first | exact trivial | exact ⟨rfl, trivial⟩) rfl ?_
  refine Ch.callP (rpad_fc l.length (by omega)) gdN (by repeat (first | exact EvL.nil | (apply EvL.cons; exact rfl))) (by exact (And.intro (by first | exact .rfl _ | exact .untip _ _ _ | exact .nil | exact .func _ | exact AV.wk.sh (renL_s _ _) | exact AV.wk.sh (by simp; first | done | fail)) trivial)) (by rfl) rfl ?_
  refine Ch.pu gdN (by exact ⟨rfl, rfl, trivial⟩) (OpS.strAdd (by omega)) (by first | exact trivial | exact ⟨rfl, trivial⟩) rfl ?_
  refine Ch.pu gdN (by exact ⟨rfl, trivial⟩) (OpS.assign) (by first | exact trivial | exact ⟨rfl, trivial⟩) rfl ?_
  refine Ch.nil ?_
  refine WP.seq ?_
  obtain ⟨q, hq, hs⟩ := sum_eat l
  have hpl : (l ++ pad l.length).length ≤ 9223372036854775100 := by rw [List.length_append]; omega
  generalize l ++ pad l.length = X at *
  refine WP.rs hG ?_
  refine Ch.pu gdN (by exact ⟨rfl, trivial⟩) (OpS.assign) (by first | exact trivial | exact ⟨rfl, trivial⟩) rfl ?_
  refine Ch.nil ?_
  refine WP.block ?_
  refine WP.loop (fun k σ => ∃ m ii : Nat, (ii = 64 * m ∧ m + k = q) ∧ σ = ⟨27, ls [(3, sA (eat m first X).text), (4, sA X), (5, .v (.int .i64 (ii : Int)))], lh [], blt 0⟩) (q) (Ent.of [] ?_ ?_ ?_ ?_).se ⟨0, 0, by omega, rfl⟩ ?_
  · exact (fun i hi => by rw [hnA] at hi; simp only [List.length_cons, List.length_nil] at hi ⊢; first | exact absurd hi (Nat.not_lt_zero _) | (revert i; decide))
  · (repeat (first | exact trivial | (refine And.intro ⟨(by first | trivial | (simp; first | done | fail)), _, rfl, (by first | exact .rfl _ | exact .nil | exact .of_eq (by simp; first | done | fail) | exact AV.wk.sh (by simp; first | done | fail) | exact .untip _ _ _)⟩ ?_)))
  · (repeat (first | exact trivial | (refine And.intro ⟨rfl, (by first | trivial | (simp; first | done | fail)), (by first | rfl | (simp; first | done | fail))⟩ ?_)))
  · simp [rn]
  · rintro k σ ⟨m, ii, ⟨hi, hm⟩, rfl⟩
    have hc := eat_next m first X (by omega)
    rw [← hi, ← readSt_text (eat m first X)] at hc
    refine WP.seq ?_
    refine WP.rs hG ?_
    refine Ch.pu gdN (by exact ⟨rfl, trivial⟩) (OpS.move) (by first | exact trivial | exact ⟨rfl, trivial⟩) rfl ?_
    refine Ch.pu gdN (by exact ⟨rfl, rfl, trivial⟩) (OpS.int rfl (by first | exact wr64 (by omega) | exact rfl)) (by first | exact trivial | exact ⟨rfl, trivial⟩) rfl ?_
    refine Ch.pu gdN (by exact ⟨rfl, trivial⟩) (OpS.move) (by first | exact trivial | exact ⟨rfl, trivial⟩) rfl ?_
    refine Ch.pu gdN (by exact ⟨rfl, trivial⟩) (OpS.lenS rfl) (by first | exact trivial | exact ⟨rfl, trivial⟩) rfl ?_
    refine Ch.pu gdN (by exact ⟨rfl, rfl, trivial⟩) (OpS.int rfl (by first | exact wr64 (by omega) | exact rfl)) (by first | exact trivial | exact ⟨rfl, trivial⟩) rfl ?_
    refine Ch.nil ?_
    refine WP.cond rfl ?_ ?_
    · intro ht
      have ht' := of_decide_eq_true ht
      have hsub : ii + 64 - ii = 64 := by omega
      refine WP.skip ?_
      refine WP.seq ?_
      refine WP.block ?_
      refine WP.rg hG ?_
      refine Ch.pu gdN (by exact ⟨rfl, trivial⟩) (OpS.move) (by first | exact trivial | exact ⟨rfl, trivial⟩) rfl ?_
      refine Ch.pu gdN (by exact ⟨rfl, trivial⟩) (OpS.move) (by first | exact trivial | exact ⟨rfl, trivial⟩) rfl ?_
      refine Ch.pu gdN (by exact ⟨rfl, trivial⟩) (OpS.move) (by first | exact trivial | exact ⟨rfl, trivial⟩) rfl ?_
      refine Ch.pu gdN (by exact ⟨rfl, trivial⟩) (OpS.move) (by first | exact trivial | exact ⟨rfl, trivial⟩) rfl ?_
      refine Ch.pu gdN (by exact ⟨rfl, rfl, trivial⟩) (OpS.int rfl (by first | exact wr64 (by omega) | exact rfl)) (by first | exact trivial | exact ⟨rfl, trivial⟩) rfl ?_
      refine Ch.pu gdN (by exact ⟨rfl, rfl, rfl, trivial⟩) (OpS.sliceS rfl (by first | with_reducible exact Int.toNat_natCast _ | with_reducible exact tnLit _ _ | with_reducible exact tnLitA _ _ | with_reducible exact tnL _ | with_reducible exact tnA _ _ | with_reducible exact tnM _ _ | with_reducible exact tnMA _ _ _ | exact rfl) (by first | with_reducible exact Int.toNat_natCast _ | with_reducible exact tnLit _ _ | with_reducible exact tnLitA _ _ | with_reducible exact tnL _ | with_reducible exact tnA _ _ | with_reducible exact tnM _ _ | with_reducible exact tnMA _ _ _ | exact rfl) (by omega) (by omega) (by omega)) (by first | exact trivial | exact ⟨rfl, trivial⟩) rfl ?_
      refine Ch.callP (rblock_fc hk (eat m first X).text ((X.drop ii).take (ii + 64 - ii)) (St.text_length _) (by simp; omega)) gdN (by repeat (first | exact EvL.nil | (apply EvL.cons; exact rfl))) (by exact (And.intro (by first | exact .rfl _ | exact .untip _ _ _ | exact .nil | exact .func _ | exact AV.wk.sh (renL_s _ _) | exact AV.wk.sh (by simp; first | done | fail)) (And.intro (by first | exact .rfl _ | exact .untip _ _ _ | exact .nil | exact .func _ | exact AV.wk.sh (renL_s _ _) | exact AV.wk.sh (by simp; first | done | fail)) trivial))) (by rfl) rfl ?_
      refine Ch.pu gdN (by exact ⟨rfl, trivial⟩) (OpS.assign) (by first | exact trivial | exact ⟨rfl, trivial⟩) rfl ?_
      refine Ch.nil ?_
      refine WP.rg hG ?_
      refine Ch.pu gdN (by exact ⟨rfl, trivial⟩) (OpS.move) (by first | exact trivial | exact ⟨rfl, trivial⟩) rfl ?_
      refine Ch.pu gdN (by exact ⟨rfl, rfl, trivial⟩) (OpS.int rfl (by first | exact wr64 (by omega) | exact rfl)) (by first | exact trivial | exact ⟨rfl, trivial⟩) rfl ?_
      refine Ch.pu gdN (by exact ⟨rfl, trivial⟩) (OpS.assign) (by first | exact trivial | exact ⟨rfl, trivial⟩) rfl ?_
      refine Ch.nil ?_
      refine ⟨k - 1, _, by omega, (Ent.of [] ?_ ?_ ?_ ?_).se, m + 1, ii + 64, by omega, rfl⟩
      · exact (fun i hi => by rw [hnA] at hi; simp only [List.length_cons, List.length_nil] at hi ⊢; first | exact absurd hi (Nat.not_lt_zero _) | (revert i; decide))
      · (repeat (first | exact trivial | (refine And.intro ⟨(by first | trivial | (simp; first | done | fail)), _, rfl, (by first | exact .rfl _ | exact .nil | exact .of_eq (by simp [hc]; first | done | fail) | exact AV.wk.sh (by simp [hc]; first | done | fail) | exact .untip _ _ _)⟩ ?_)))
      · (repeat (first | exact trivial | (refine And.intro ⟨rfl, (by first | trivial | (simp; first | done | fail)), (by first | rfl | (simp [hc]; first | done | fail))⟩ ?_)))
      · simp [rn]
    · intro ht
      have ht' := of_decide_eq_false ht
      obtain rfl : m = q := by omega
      refine WP.exit ?_
      refine WP.rs hG ?_
      refine Ch.pu gdN (by exact ⟨rfl, trivial⟩) (OpS.move) (by first | exact trivial | exact ⟨rfl, trivial⟩) rfl ?_
      refine Ch.pu gdN (by exact ⟨rfl, trivial⟩) (OpS.assign) (by first | exact trivial | exact ⟨rfl, trivial⟩) rfl ?_
      refine Ch.nil ?_
      exact WP.ret (Ret.one rfl (.of_eq (by simp [hs])) trivial hnA)

theorem be4_nat (n : Nat) : [UInt8.ofNat (n / 2 ^ 24), UInt8.ofNat (n / 2 ^ 16), UInt8.ofNat (n / 2 ^ 8), UInt8.ofNat n] = be4 (UInt32.ofNat n) := by
  simp only [be4, List.cons.injEq, and_true]
  refine ⟨?_, ?_, ?_, ?_⟩ <;> (apply UInt8.toNat_inj.1; simp [shr32] <;> omega)
theorem rinput_fc {G : List (Nat × Array Value)} (d : UInt8) (ps : List (List UInt8)) (hL : (input d ps).length ≤ 140737488355328) :
    FC Tryd.prog G 36 [.v (.int .u8 (U8 d)), .sl none ps.length (ps.map sA)] [] (sA (input d ps)) [] := by
  refine FC.of_wp [4] Tryd.func36 rfl rfl rfl rfl (by first | trivial | (simp; first | done | fail)) (by first | trivial | (simp; first | done | fail)) (by exact Nat.le_of_ble_eq_true rfl) ?_
  intro A hG hnA hAB
  unfold start
  refine WP.rs hG ?_
  refine Ch.pu gdN (by exact ⟨rfl, trivial⟩) (OpS.assign) (by first | exact trivial | exact ⟨rfl, trivial⟩) rfl ?_
  refine Ch.nil ?_
  refine WP.rs hG ?_
  refine Ch.pu gdN (by exact ⟨rfl, trivial⟩) (OpS.move) (by first | exact trivial | exact ⟨rfl, trivial⟩) rfl ?_
  refine Ch.pup gdN (by repeat (first | exact EvP.nil | (apply EvP.cons; exact rfl))) (OpS.slice1 rfl rfl rfl rfl rfl rfl (by rfl) rfl (by rfl)) rfl ?_
  refine Ch.pu gdN (by exact ⟨rfl, trivial⟩) (OpS.b2s (l := [d]) rfl rfl rfl rfl) (by first | exact trivial | exact ⟨rfl, trivial⟩) rfl ?_
  refine Ch.pu gdN (by exact ⟨rfl, trivial⟩) (OpS.assign) (by first | exact trivial | exact ⟨rfl, trivial⟩) rfl ?_
  refine Ch.nil ?_
  refine WP.seq ?_
  have hmany := input_many d ps
  refine WP.rs hG ?_
  refine Ch.pu gdN (by exact ⟨rfl, trivial⟩) (OpS.assign) (by first | exact trivial | exact ⟨rfl, trivial⟩) rfl ?_
  refine Ch.nil ?_
  refine WP.block ?_
  refine WP.loop (fun k σ => ∃ m : Nat, m + k = ps.length ∧ σ = ⟨43, ls [(1, .sl none ps.length (ps.map sA)), (5, sA (input d (ps.take m))), (6, .v (.int .i64 (m : Int)))], lh [], blt 0⟩) (ps.length) (Ent.of [] ?_ ?_ ?_ ?_).se ⟨0, by omega, rfl⟩ ?_
  · exact (fun i hi => by rw [hnA] at hi; simp only [List.length_cons, List.length_nil] at hi ⊢; first | exact absurd hi (Nat.not_lt_zero _) | (revert i; decide))
  · (repeat (first | exact trivial | (refine And.intro ⟨(by first | trivial | (simp; first | done | fail)), _, rfl, (by first | exact .rfl _ | exact .nil | exact .of_eq (by simp; first | done | fail) | exact AV.wk.sh (by simp; first | done | fail) | exact .untip _ _ _)⟩ ?_)))
  · (repeat (first | exact trivial | (refine And.intro ⟨rfl, (by first | trivial | (simp; first | done | fail)), (by first | rfl | (simp; first | done | fail))⟩ ?_)))
  · simp [rn]
  · rintro k σ ⟨m, hm, rfl⟩
    refine WP.seq ?_
    refine WP.rs hG ?_
    refine Ch.pu gdN (by exact ⟨rfl, trivial⟩) (OpS.move) (by first | exact trivial | exact ⟨rfl, trivial⟩) rfl ?_
    refine Ch.pu gdN (by exact ⟨rfl, trivial⟩) (OpS.move) (by first | exact trivial | exact ⟨rfl, trivial⟩) rfl ?_
    refine Ch.pu gdN (by exact ⟨rfl, trivial⟩) (OpS.len rfl) (by first | exact trivial | exact ⟨rfl, trivial⟩) rfl ?_
    refine Ch.pu gdN (by exact ⟨rfl, rfl, trivial⟩) (OpS.int rfl (by first | exact wr64 (by omega) | exact rfl)) (by first | exact trivial | exact ⟨rfl, trivial⟩) rfl ?_
    refine Ch.nil ?_
    refine WP.cond rfl ?_ ?_
    · intro ht
      have ht' := of_decide_eq_true ht
      have hc : input d (ps.take (m + 1)) = input d (ps.take m) ++ be4 (UInt32.ofNat (el ps m).length) ++ el ps m := input_take d ps m (by omega)
      rw [← be4_nat] at hc
      have hle := input_le d ps (m + 1)
      have hlen : (input d (ps.take m)).length + 4 + (el ps m).length ≤ 140737488355328 := by
        rw [hc] at hle
        simp only [List.length_append, List.length_cons, List.length_nil] at hle
        omega
      refine WP.skip ?_
      refine WP.seq ?_
      refine WP.block ?_
      refine WP.rs hG ?_
      refine Ch.pu gdN (by exact ⟨rfl, trivial⟩) (OpS.move) (by first | exact trivial | exact ⟨rfl, trivial⟩) rfl ?_
      refine Ch.pu gdN (by exact ⟨rfl, trivial⟩) (OpS.move) (by first | exact trivial | exact ⟨rfl, trivial⟩) rfl ?_
      refine Ch.pu gdN (by exact ⟨rfl, rfl, trivial⟩) (OpS.indexM rfl rfl rfl (by first | with_reducible exact Int.toNat_natCast _ | with_reducible exact tnLit _ _ | with_reducible exact tnLitA _ _ | with_reducible exact tnL _ | with_reducible exact tnA _ _ | with_reducible exact tnM _ _ | with_reducible exact tnMA _ _ _ | exact rfl) (by omega) (by omega) (by first | rfl | (simp; done) | omega)) (by first | exact trivial | exact ⟨rfl, trivial⟩) rfl ?_
      refine Ch.pu gdN (by exact ⟨rfl, trivial⟩) (OpS.loadS rfl rfl) (by first | exact trivial | exact ⟨rfl, trivial⟩) rfl ?_
      refine Ch.pu gdN (by exact ⟨rfl, trivial⟩) (OpS.lenS rfl) (by first | exact trivial | exact ⟨rfl, trivial⟩) rfl ?_
      refine Ch.pu gdN (by exact ⟨rfl, trivial⟩) (OpS.assign) (by first | exact trivial | exact ⟨rfl, trivial⟩) rfl ?_
      refine Ch.nil ?_
      refine WP.rgD (by kernel_rfl) hG ?_
      refine Ch.pu gdN (by exact ⟨rfl, trivial⟩) (OpS.move) (by first | exact trivial | exact ⟨rfl, trivial⟩) rfl ?_
      refine Ch.pu gdN (by exact ⟨rfl, trivial⟩) (OpS.move) (by first | exact trivial | exact ⟨rfl, trivial⟩) rfl ?_
      refine Ch.pu gdN (by exact ⟨rfl, rfl, trivial⟩) (OpS.shrN (j := 24) rfl (by decide)) (by first | exact trivial | exact ⟨rfl, trivial⟩) rfl ?_
      refine Ch.pu gdN (by exact ⟨rfl, trivial⟩) (OpS.conv rfl rfl (by first | exact cv_u32_u8 _ | exact cv_u64_u8 _ | exact cv_i64_u8 _ | exact cv_u8_u32 _ | exact cv_u8_u64 _ | exact cv_u32_u64 _ | exact cv_u64_u32 _ | exact cv_u8_u8 _ | exact cv_u32_u32 _ | exact cv_u64_u64 _ | exact wr64 (by omega) | exact cv_u64_nat _ | exact cv_u32_nat _ | exact cv_u8_nat _ | exact rfl)) (by first | exact trivial | exact ⟨rfl, trivial⟩) rfl ?_
      refine Ch.pu gdN (by exact ⟨rfl, trivial⟩) (OpS.move) (by first | exact trivial | exact ⟨rfl, trivial⟩) rfl ?_
      refine Ch.pu gdN (by exact ⟨rfl, rfl, trivial⟩) (OpS.shrN (j := 16) rfl (by decide)) (by first | exact trivial | exact ⟨rfl, trivial⟩) rfl ?_
      refine Ch.pu gdN (by exact ⟨rfl, trivial⟩) (OpS.conv rfl rfl (by first | exact cv_u32_u8 _ | exact cv_u64_u8 _ | exact cv_i64_u8 _ | exact cv_u8_u32 _ | exact cv_u8_u64 _ | exact cv_u32_u64 _ | exact cv_u64_u32 _ | exact cv_u8_u8 _ | exact cv_u32_u32 _ | exact cv_u64_u64 _ | exact wr64 (by omega) | exact cv_u64_nat _ | exact cv_u32_nat _ | exact cv_u8_nat _ | exact rfl)) (by first | exact trivial | exact ⟨rfl, trivial⟩) rfl ?_
      refine Ch.pu gdN (by exact ⟨rfl, trivial⟩) (OpS.move) (by first | exact trivial | exact ⟨rfl, trivial⟩) rfl ?_
      refine Ch.pu gdN (by exact ⟨rfl, rfl, trivial⟩) (OpS.shrN (j := 8) rfl (by decide)) (by first | exact trivial | exact ⟨rfl, trivial⟩) rfl ?_
      refine Ch.pu gdN (by exact ⟨rfl, trivial⟩) (OpS.conv rfl rfl (by first | exact cv_u32_u8 _ | exact cv_u64_u8 _ | exact cv_i64_u8 _ | exact cv_u8_u32 _ | exact cv_u8_u64 _ | exact cv_u32_u64 _ | exact cv_u64_u32 _ | exact cv_u8_u8 _ | exact cv_u32_u32 _ | exact cv_u64_u64 _ | exact wr64 (by omega) | exact cv_u64_nat _ | exact cv_u32_nat _ | exact cv_u8_nat _ | exact rfl)) (by first | exact trivial | exact ⟨rfl, trivial⟩) rfl ?_
      refine Ch.pu gdN (by exact ⟨rfl, trivial⟩) (OpS.move) (by first | exact trivial | exact ⟨rfl, trivial⟩) rfl ?_
      refine Ch.pu gdN (by exact ⟨rfl, trivial⟩) (OpS.conv rfl rfl (by first | exact cv_u32_u8 _ | exact cv_u64_u8 _ | exact cv_i64_u8 _ | exact cv_u8_u32 _ | exact cv_u8_u64 _ | exact cv_u32_u64 _ | exact cv_u64_u32 _ | exact cv_u8_u8 _ | exact cv_u32_u32 _ | exact cv_u64_u64 _ | exact wr64 (by omega) | exact cv_u64_nat _ | exact cv_u32_nat _ | exact cv_u8_nat _ | exact rfl)) (by first | exact trivial | exact ⟨rfl, trivial⟩) rfl ?_
      refine Ch.pup gdN (by repeat (first | exact EvP.nil | (apply EvP.cons; exact rfl))) (OpS.slice1 rfl rfl rfl rfl rfl rfl (by rfl) rfl (by rfl)) rfl ?_
      refine Ch.pu gdN (by exact ⟨rfl, trivial⟩) (OpS.b2s (l := [UInt8.ofNat ((el ps m).length / 2 ^ 24), UInt8.ofNat ((el ps m).length / 2 ^ 16), UInt8.ofNat ((el ps m).length / 2 ^ 8), UInt8.ofNat (el ps m).length]) rfl rfl rfl rfl) (by first | exact trivial | exact ⟨rfl, trivial⟩) rfl ?_
      refine Ch.pu gdN (by exact ⟨rfl, rfl, trivial⟩) (OpS.strAdd (by simp; omega)) (by first | exact trivial | exact ⟨rfl, trivial⟩) rfl ?_
      refine Ch.pu gdN (by exact ⟨rfl, trivial⟩) (OpS.move) (by first | exact trivial | exact ⟨rfl, trivial⟩) rfl ?_
      refine Ch.pu gdN (by exact ⟨rfl, trivial⟩) (OpS.move) (by first | exact trivial | exact ⟨rfl, trivial⟩) rfl ?_
      refine Ch.pu gdN (by exact ⟨rfl, rfl, trivial⟩) (OpS.indexM rfl rfl rfl (by first | with_reducible exact Int.toNat_natCast _ | with_reducible exact tnLit _ _ | with_reducible exact tnLitA _ _ | with_reducible exact tnL _ | with_reducible exact tnA _ _ | with_reducible exact tnM _ _ | with_reducible exact tnMA _ _ _ | exact rfl) (by omega) (by omega) (by first | rfl | (simp; done) | omega)) (by first | exact trivial | exact ⟨rfl, trivial⟩) rfl ?_
      refine Ch.pu gdN (by exact ⟨rfl, trivial⟩) (OpS.loadS rfl rfl) (by first | exact trivial | exact ⟨rfl, trivial⟩) rfl ?_
      refine Ch.pu gdN (by exact ⟨rfl, rfl, trivial⟩) (OpS.strAdd (by simp; omega)) (by first | exact trivial | exact ⟨rfl, trivial⟩) rfl ?_
      refine Ch.pu gdN (by exact ⟨rfl, trivial⟩) (OpS.assign) (by first | exact trivial | exact ⟨rfl, trivial⟩) rfl ?_
      refine Ch.nilD ?_ (by kernel_rfl)
      refine WP.rg hG ?_
      refine Ch.pu gdN (by exact ⟨rfl, trivial⟩) (OpS.move) (by first | exact trivial | exact ⟨rfl, trivial⟩) rfl ?_
      refine Ch.pu gdN (by exact ⟨rfl, rfl, trivial⟩) (OpS.int rfl (by first | exact wr64 (by omega) | exact rfl)) (by first | exact trivial | exact ⟨rfl, trivial⟩) rfl ?_
      refine Ch.pu gdN (by exact ⟨rfl, trivial⟩) (OpS.assign) (by first | exact trivial | exact ⟨rfl, trivial⟩) rfl ?_
      refine Ch.nil ?_
      refine ⟨k - 1, _, by omega, (Ent.of [] ?_ ?_ ?_ ?_).se, m + 1, by omega, rfl⟩
      · exact (fun i hi => by rw [hnA] at hi; simp only [List.length_cons, List.length_nil] at hi ⊢; first | exact absurd hi (Nat.not_lt_zero _) | (revert i; decide))
      · (repeat (first | exact trivial | (refine And.intro ⟨(by first | trivial | (simp; first | done | fail)), _, rfl, (by first | exact .rfl _ | exact .nil | exact .of_eq (by simp [hc]; first | done | fail) | exact AV.wk.sh (by simp [hc]; first | done | fail) | exact .untip _ _ _)⟩ ?_)))
      · (repeat (first | exact trivial | (refine And.intro ⟨rfl, (by first | trivial | (simp; first | done | fail)), (by first | rfl | (simp [hc]; first | done | fail))⟩ ?_)))
      · simp [rn]
    · intro ht
      have ht' := of_decide_eq_false ht
      obtain rfl : m = ps.length := by omega
      refine WP.exit ?_
      refine WP.rs hG ?_
      refine Ch.pu gdN (by exact ⟨rfl, trivial⟩) (OpS.move) (by first | exact trivial | exact ⟨rfl, trivial⟩) rfl ?_
      refine Ch.pu gdN (by exact ⟨rfl, trivial⟩) (OpS.assign) (by first | exact trivial | exact ⟨rfl, trivial⟩) rfl ?_
      refine Ch.nil ?_
      exact WP.ret (Ret.one rfl (.of_eq (by simp)) trivial hnA)
theorem rtag_fc {G : List (Nat × Array Value)} (hk : (3, kArr) ∈ G) (hf : (2, first.cells) ∈ G) (d : UInt8) (ps : List (List UInt8)) (hL : (input d ps).length ≤ 140737488355328) :
    FC Tryd.prog G 43 [.v (.int .u8 (U8 d)), .sl none ps.length (ps.map sA)] [] (sA (tag d ps)) [] := by
  refine FC.of_wp [4] Tryd.func43 rfl rfl rfl rfl (by first | trivial | (simp; first | done | fail)) (by first | trivial | (simp; first | done | fail)) (by exact Nat.le_of_ble_eq_true rfl) ?_
  intro A hG hnA hAB
  unfold start
  refine WP.rs hG ?_
  refine Ch.pu gdN (by exact ⟨rfl, trivial⟩) (OpS.assign) (by first | exact trivial | exact ⟨rfl, trivial⟩) rfl ?_
  refine Ch.nil ?_
  refine WP.rs hG ?_
  refine Ch.pu gdN (by exact ⟨rfl, trivial⟩) (OpS.move) (by first | exact trivial | exact ⟨rfl, trivial⟩) rfl ?_
  refine Ch.pu gdN (by exact ⟨rfl, trivial⟩) (OpS.move) (by first | exact trivial | exact ⟨rfl, trivial⟩) rfl ?_
  refine Ch.callP (rinput_fc d ps hL) gdN (by repeat (first | exact EvL.nil | (apply EvL.cons; exact rfl))) (by exact (And.intro (by first | exact .rfl _ | exact .untip _ _ _ | exact .nil | exact .func _ | exact AV.wk.sh (renL_s _ _) | exact AV.wk.sh (by simp; first | done | fail)) (And.intro (by first | exact .rfl _ | exact .untip _ _ _ | exact .nil | exact .func _ | exact AV.wk.sh (renL_s _ _) | exact AV.wk.sh (by simp; first | done | fail)) trivial))) (by rfl) rfl ?_
  refine Ch.callP (rsum_fc hk hf (input d ps) (by omega)) gdN (by repeat (first | exact EvL.nil | (apply EvL.cons; exact rfl))) (by exact (And.intro (by first | exact .rfl _ | exact .untip _ _ _ | exact .nil | exact .func _ | exact AV.wk.sh (renL_s _ _) | exact AV.wk.sh (by simp; first | done | fail)) trivial)) (by rfl) rfl ?_
  refine Ch.pu gdN (by exact ⟨rfl, trivial⟩) (OpS.assign) (by first | exact trivial | exact ⟨rfl, trivial⟩) rfl ?_
  refine Ch.nil ?_
  refine WP.ret (Ret.one rfl (by first | exact .rfl _ | exact .nil | exact .of_eq (by simp; first | done | fail) | exact AV.wk.sh (by simp; first | done | fail) | exact .untip _ _ _) (by first | trivial | simp [AV.bel]) hnA)
end Go.Proofs.YtmifllopcbjliaaDoor.E
