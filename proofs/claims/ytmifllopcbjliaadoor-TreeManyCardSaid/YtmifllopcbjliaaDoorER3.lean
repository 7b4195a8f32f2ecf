/- The document's own answer for layer 1, by abstract steps: Pad. -/
import Derived.Test.YtmifllopcbjliaaDoorER2
namespace Go.Proofs.YtmifllopcbjliaaDoor.E
open Go Go.RowKit Go.Proofs.YtmifllopcbjliaaDoor.V
attribute [local go_sem] B_size B_append B_extract mk_B B_toList take_drop_len List.length_drop List.length_take sgn32 sgn64 add32 sub32 mul32 add64 sub64 mul64 mul64_8 and32 or32 xor32 and64 or64 xor64 shl32_run shr32_run shl64_run shr64_run not32 not32' xor32_all w_u32_u8 w_u64_u8 w_i64_u8 w_u8_u32 w_u8_u64 w_u32_u64 w_u64_u32 w_u8_u8 w_u32_u32 w_u64_u64
attribute [local go_sem ↓] run_index_B' add32 sub32 mul32 add64 sub64 mul64 mul64_8 and32 or32 xor32 and64 or64 xor64 shl32_run shr32_run shl64_run shr64_run not32 not32' xor32_all w_u32_u8 w_u64_u8 w_i64_u8 w_u8_u32 w_u8_u64 w_u32_u64 w_u64_u32 w_u8_u8 w_u32_u32 w_u64_u64 w_u64_nat w_u32_nat w_u8_nat

def padZ (j : Nat) : List UInt8 := 128 :: List.replicate j 0
theorem padZ_0 : padZ 0 = [128] := rfl
theorem padZ_succ (j : Nat) : padZ (j + 1) = padZ j ++ [0] := by
  unfold padZ
  rw [List.replicate_succ', List.cons_append]
theorem padZ_length (j : Nat) : (padZ j).length = j + 1 := by simp [padZ]
def padB (n i : Nat) : List UInt8 := padZ (noughts n) ++ be8 (8 * UInt64.ofNat n) i
theorem padB_0 (n : Nat) : padB n 0 = padZ (noughts n) := by simp [padB, be8]
theorem padB_succ (n i : Nat) : padB n (i + 1) = padB n i ++ [(shr64 (8 * UInt64.ofNat n) (8 * (7 - i))).toUInt8] := by unfold padB; rw [be8_succ, List.append_assoc]
theorem padB_length (n i : Nat) : (padB n i).length = noughts n + 1 + i := by simp [padB, padZ_length, be8]
theorem padB_8 (n : Nat) : padB n 8 = pad n := by unfold padB; rw [be8_all]; rfl
theorem u8_0 : U8 0 = 0 := rfl
theorem u8_128 : U8 128 = 128 := rfl
theorem noughts_end (n j : Nat) (hj : j ≤ noughts n) : ((n % 64 + (j + 1) + 8) % 64 ≠ 0 ↔ j < noughts n) := by
  unfold noughts at *
  omega
theorem rpad_fc {G : List (Nat × Array Value)} (n : Nat) (hn : (n : Int) ≤ 9223372036854775807) :
    FC Tryd.prog G 58 [.v (.int .i64 (n : Int))] [] (sA (pad n)) [] := by
  refine FC.of_wp [2] Tryd.func58 rfl rfl rfl rfl (by first | trivial | (simp; first | done | fail)) (by first | trivial | (simp; first | done | fail)) (by exact Nat.le_of_ble_eq_true rfl) ?_
  intro A hG hnA hAB
  unfold start
  refine WP.rs hG ?_
  refine Ch.pu gdN (by exact ⟨rfl, trivial⟩) (OpS.assign) (by first | exact trivial | exact ⟨rfl, trivial⟩) rfl ?_
  refine Ch.nil ?_
  refine WP.seq ?_
  refine WP.rs hG ?_
  refine Ch.pu gdN (by exact ⟨rfl, trivial⟩) (OpS.move) (by first | exact trivial | exact ⟨rfl, trivial⟩) rfl ?_
  refine Ch.pu gdN (by exact ⟨rfl, rfl, trivial⟩) (OpS.int rfl (by first | exact wr64 (by omega) | exact rfl)) (by first | exact trivial | exact ⟨rfl, trivial⟩) rfl ?_
  refine Ch.nil ?_
  refine WP.cond_false rfl ?_
  refine WP.skip ?_
  refine WP.rs hG ?_
  refine Ch.alp gdN (by repeat (first | exact EvP.nil | (apply EvP.cons; exact rfl))) (OpS.slice1T 0 rfl rfl rfl rfl rfl rfl (by rfl) rfl (by rfl)) (by first | exact trivial | exact ⟨rfl, trivial⟩ | exact ⟨rfl, rfl, trivial⟩) rfl ?_
  refine Ch.pu gdN (by exact ⟨rfl, trivial⟩) (OpS.assign) (by first | exact trivial | exact ⟨rfl, trivial⟩) rfl ?_
  refine Ch.nil ?_
  refine WP.seq ?_
  refine WP.block ?_
  refine WP.loop (fun k σ => ∃ j : Nat, j + k = noughts n ∧ σ = ⟨37, ls [(0, .v (.int .i64 (n : Int))), (3, .sl (some 0) (j + 1) ((padZ j).map bA))], lh [(0, .tip 5 1 (j + 1))], blt 1⟩) (noughts n) (Ent.of [] ?_ ?_ ?_ ?_).se ⟨0, by omega, rfl⟩ ?_
  · exact (fun i hi => by rw [hnA] at hi; simp only [List.length_cons, List.length_nil] at hi ⊢; first | exact absurd hi (Nat.not_lt_zero _) | (revert i; decide))
  · (repeat (first | exact trivial | (refine And.intro ⟨(by first | trivial | (simp; first | done | fail)), _, rfl, (by first | exact .rfl _ | exact .nil | exact .of_eq (by simp [padZ_0, u8_128]; first | done | fail) | exact AV.wk.sh (by simp [padZ_0, u8_128]; first | done | fail) | exact .untip _ _ _)⟩ ?_)))
  · (repeat (first | exact trivial | (refine And.intro ⟨rfl, (by first | trivial | (simp; first | done | fail)), (by first | rfl | (simp [padZ_0, u8_128]; first | done | fail))⟩ ?_)))
  · simp [rn]
  · rintro k σ ⟨j, hj, rfl⟩
    have hr := padZ_succ j
    have hl := padZ_length j
    have he := noughts_end n j (by omega)
    have h64 : noughts n < 64 := Nat.mod_lt _ (by decide)
    refine WP.seq ?_
    refine WP.rs hG ?_
    refine Ch.pu gdN (by exact ⟨rfl, trivial⟩) (OpS.move) (by first | exact trivial | exact ⟨rfl, trivial⟩) rfl ?_
    refine Ch.pu gdN (by exact ⟨rfl, rfl, trivial⟩) (OpS.rem (by omega) (by omega)) (by first | exact trivial | exact ⟨rfl, trivial⟩) rfl ?_
    refine Ch.pu gdN (by exact ⟨rfl, trivial⟩) (OpS.move) (by first | exact trivial | exact ⟨rfl, trivial⟩) rfl ?_
    refine Ch.pu gdN (by exact ⟨rfl, trivial⟩) (OpS.len rfl) (by first | exact trivial | exact ⟨rfl, trivial⟩) rfl ?_
    refine Ch.pu gdN (by exact ⟨rfl, rfl, trivial⟩) (OpS.int rfl (by first | exact wr64 (by omega) | exact rfl)) (by first | exact trivial | exact ⟨rfl, trivial⟩) rfl ?_
    refine Ch.pu gdN (by exact ⟨rfl, rfl, trivial⟩) (OpS.int rfl (by first | exact wr64 (by omega) | exact rfl)) (by first | exact trivial | exact ⟨rfl, trivial⟩) rfl ?_
    refine Ch.pu gdN (by exact ⟨rfl, rfl, trivial⟩) (OpS.rem (by omega) (by omega)) (by first | exact trivial | exact ⟨rfl, trivial⟩) rfl ?_
    refine Ch.pu gdN (by exact ⟨rfl, rfl, trivial⟩) (OpS.int rfl (by first | exact wr64 (by omega) | exact rfl)) (by first | exact trivial | exact ⟨rfl, trivial⟩) rfl ?_
    refine Ch.nil ?_
    refine WP.cond rfl ?_ ?_
    · intro ht
      have ht' := bne_iff_ne.mp ht
      refine WP.skip ?_
      refine WP.block ?_
      refine WP.rg hG ?_
      refine Ch.pu gdN (by exact ⟨rfl, trivial⟩) (OpS.move) (by first | exact trivial | exact ⟨rfl, trivial⟩) rfl ?_
      refine Ch.pup gdN (by repeat (first | exact EvP.nil | (apply EvP.cons; exact rfl))) (OpS.slice1 rfl rfl rfl rfl rfl rfl (by rfl) rfl (by rfl)) rfl ?_
      refine Ch.al gdN (by exact ⟨rfl, rfl, trivial⟩) (OpS.append (sz := 1) (bb := 1) 1 rfl rfl rfl rfl rfl (by decide) (SrcA.sl rfl (by simp)) (by first | (simp; done) | (simp; assumption)) (by simp) (by unfold maxLen; omega) rfl (by omega)) (by first | exact trivial | exact ⟨rfl, trivial⟩) (by first | exact trivial | exact ⟨rfl, trivial⟩ | exact ⟨rfl, rfl, trivial⟩) rfl ?_
      refine Ch.pu gdN (by exact ⟨rfl, trivial⟩) (OpS.assign) (by first | exact trivial | exact ⟨rfl, trivial⟩) rfl ?_
      refine Ch.nil ?_
      refine ⟨k - 1, _, by omega, (Ent.of [1] ?_ ?_ ?_ ?_).se, j + 1, by omega, rfl⟩
      · exact (fun i hi => by rw [hnA] at hi; simp only [List.length_cons, List.length_nil] at hi ⊢; first | exact absurd hi (Nat.not_lt_zero _) | (revert i; decide))
      · (repeat (first | exact trivial | (refine And.intro ⟨(by first | trivial | (simp; first | done | fail)), _, rfl, (by first | exact .rfl _ | exact .nil | exact .of_eq (by simp [hr, u8_0]; first | done | fail) | exact AV.wk.sh (by simp [hr, u8_0]; first | done | fail) | exact .untip _ _ _)⟩ ?_)))
      · (repeat (first | exact trivial | (refine And.intro ⟨rfl, (by first | trivial | (simp; first | done | fail)), (by first | rfl | (simp [hr, u8_0]; first | done | fail))⟩ ?_)))
      · simp [rn]
    · intro ht
      have ht' := bne_eq_false_iff_eq.mp ht
      obtain rfl : k = 0 := by omega
      obtain rfl : j = noughts n := by omega
      refine WP.exit ?_
      refine WP.rs hG ?_
      refine Ch.pu gdN (by exact ⟨rfl, trivial⟩) (OpS.move) (by first | exact trivial | exact ⟨rfl, trivial⟩) rfl ?_
      refine Ch.pu gdN (by exact ⟨rfl, trivial⟩) (OpS.conv rfl rfl (by first | exact cv_u32_u8 _ | exact cv_u64_u8 _ | exact cv_i64_u8 _ | exact cv_u8_u32 _ | exact cv_u8_u64 _ | exact cv_u32_u64 _ | exact cv_u64_u32 _ | exact cv_u8_u8 _ | exact cv_u32_u32 _ | exact cv_u64_u64 _ | exact wr64 (by omega) | exact cv_u64_nat _ | exact cv_u32_nat _ | exact cv_u8_nat _ | exact rfl)) (by first | exact trivial | exact ⟨rfl, trivial⟩) rfl ?_
      refine Ch.pu gdN (by exact ⟨rfl, rfl, trivial⟩) (OpS.int rfl (by first | exact wr64 (by omega) | exact rfl)) (by first | exact trivial | exact ⟨rfl, trivial⟩) rfl ?_
      refine Ch.pu gdN (by exact ⟨rfl, trivial⟩) (OpS.assign) (by first | exact trivial | exact ⟨rfl, trivial⟩) rfl ?_
      refine Ch.nil ?_
      refine WP.seq ?_
      refine WP.rs hG ?_
      refine Ch.pu gdN (by exact ⟨rfl, trivial⟩) (OpS.assign) (by first | exact trivial | exact ⟨rfl, trivial⟩) rfl ?_
      refine Ch.nil ?_
      refine WP.block ?_
      refine WP.loop (fun k σ => ∃ i : Nat, i + k = 8 ∧ σ = ⟨37, ls [(4, .v (.int .u64 (U64 (8 * UInt64.ofNat n)))), (3, .sl (some 0) (noughts n + 1 + i) ((padB n i).map bA)), (5, .v (.int .i64 (7 - (i : Int))))], lh [(0, .tip 5 1 (noughts n + 1 + i))], blt 1⟩) (8) (Ent.of [] ?_ ?_ ?_ ?_).se ⟨0, by omega, rfl⟩ ?_
      · exact (fun i hi => by rw [hnA] at hi; simp only [List.length_cons, List.length_nil] at hi ⊢; first | exact absurd hi (Nat.not_lt_zero _) | (revert i; decide))
      · (repeat (first | exact trivial | (refine And.intro ⟨(by first | trivial | (simp; first | done | fail)), _, rfl, (by first | exact .rfl _ | exact .nil | exact .of_eq (by simp [padB_0]; first | done | fail) | exact AV.wk.sh (by simp [padB_0]; first | done | fail) | exact .untip _ _ _)⟩ ?_)))
      · (repeat (first | exact trivial | (refine And.intro ⟨rfl, (by first | trivial | (simp; first | done | fail)), (by first | rfl | (simp [padB_0]; first | done | fail))⟩ ?_)))
      · simp [rn]
      · rintro k1 σ ⟨i, hi, rfl⟩
        have hc := padB_succ n i
        have hl := padB_length n i
        refine WP.seq ?_
        refine WP.rs hG ?_
        refine Ch.pu gdN (by exact ⟨rfl, trivial⟩) (OpS.move) (by first | exact trivial | exact ⟨rfl, trivial⟩) rfl ?_
        refine Ch.pu gdN (by exact ⟨rfl, rfl, trivial⟩) (OpS.int rfl (by first | exact wr64 (by omega) | exact rfl)) (by first | exact trivial | exact ⟨rfl, trivial⟩) rfl ?_
        refine Ch.nil ?_
        refine WP.cond rfl ?_ ?_
        · intro ht
          have ht' := of_decide_eq_true ht
          refine WP.skip ?_
          refine WP.seq ?_
          refine WP.block ?_
          refine WP.rg hG ?_
          refine Ch.pu gdN (by exact ⟨rfl, trivial⟩) (OpS.move) (by first | exact trivial | exact ⟨rfl, trivial⟩) rfl ?_
          refine Ch.pu gdN (by exact ⟨rfl, trivial⟩) (OpS.move) (by first | exact trivial | exact ⟨rfl, trivial⟩) rfl ?_
          refine Ch.pu gdN (by exact ⟨rfl, trivial⟩) (OpS.move) (by first | exact trivial | exact ⟨rfl, trivial⟩) rfl ?_
          refine Ch.pu gdN (by exact ⟨rfl, rfl, trivial⟩) (OpS.int rfl (by first | exact wr64 (by omega) | exact rfl)) (by first | exact trivial | exact ⟨rfl, trivial⟩) rfl ?_
          refine Ch.pu gdN (by exact ⟨rfl, rfl, trivial⟩) (OpS.shr_u64 (j := 8 * (7 - i)) (by omega) (by omega)) (by first | exact trivial | exact ⟨rfl, trivial⟩) rfl ?_
          refine Ch.pu gdN (by exact ⟨rfl, trivial⟩) (OpS.conv rfl rfl (by first | exact cv_u32_u8 _ | exact cv_u64_u8 _ | exact cv_i64_u8 _ | exact cv_u8_u32 _ | exact cv_u8_u64 _ | exact cv_u32_u64 _ | exact cv_u64_u32 _ | exact cv_u8_u8 _ | exact cv_u32_u32 _ | exact cv_u64_u64 _ | exact wr64 (by omega) | exact cv_u64_nat _ | exact cv_u32_nat _ | exact cv_u8_nat _ | exact rfl)) (by first | exact trivial | exact ⟨rfl, trivial⟩) rfl ?_
          refine Ch.pup gdN (by repeat (first | exact EvP.nil | (apply EvP.cons; exact rfl))) (OpS.slice1 rfl rfl rfl rfl rfl rfl (by rfl) rfl (by rfl)) rfl ?_
          refine Ch.al gdN (by exact ⟨rfl, rfl, trivial⟩) (OpS.append (sz := 1) (bb := 1) 1 rfl rfl rfl rfl rfl (by decide) (SrcA.sl rfl (by simp)) (by first | (simp; done) | (simp; assumption)) (by simp) (by unfold maxLen; omega) rfl (by omega)) (by first | exact trivial | exact ⟨rfl, trivial⟩) (by first | exact trivial | exact ⟨rfl, trivial⟩ | exact ⟨rfl, rfl, trivial⟩) rfl ?_
          refine Ch.pu gdN (by exact ⟨rfl, trivial⟩) (OpS.assign) (by first | exact trivial | exact ⟨rfl, trivial⟩) rfl ?_
          refine Ch.nil ?_
          refine WP.rg hG ?_
          refine Ch.pu gdN (by exact ⟨rfl, trivial⟩) (OpS.move) (by first | exact trivial | exact ⟨rfl, trivial⟩) rfl ?_
          refine Ch.pu gdN (by exact ⟨rfl, rfl, trivial⟩) (OpS.int rfl (by first | exact wr64 (by omega) | exact rfl)) (by first | exact trivial | exact ⟨rfl, trivial⟩) rfl ?_
          refine Ch.pu gdN (by exact ⟨rfl, trivial⟩) (OpS.assign) (by first | exact trivial | exact ⟨rfl, trivial⟩) rfl ?_
          refine Ch.nil ?_
          refine ⟨k1 - 1, _, by omega, (Ent.of [1] ?_ ?_ ?_ ?_).se, i + 1, by omega, by (have : (7 : Int) - (i : Int) - 1 = 7 - ((i + 1 : Nat) : Int) := by omega); rw [← this]⟩
          · exact (fun i hi => by rw [hnA] at hi; simp only [List.length_cons, List.length_nil] at hi ⊢; first | exact absurd hi (Nat.not_lt_zero _) | (revert i; decide))
          · (repeat (first | exact trivial | (refine And.intro ⟨(by first | trivial | (simp; first | done | fail)), _, rfl, (by first | exact .rfl _ | exact .nil | exact .of_eq (by simp [hc, Nat.add_assoc]; first | done | fail) | exact AV.wk.sh (by simp [hc, Nat.add_assoc]; first | done | fail) | exact .untip _ _ _)⟩ ?_)))
          · (repeat (first | exact trivial | (refine And.intro ⟨rfl, (by first | trivial | (simp; first | done | fail)), (by first | rfl | (simp [hc, Nat.add_assoc]; first | done | fail))⟩ ?_)))
          · simp [rn]
        · intro ht
          have ht' := of_decide_eq_false ht
          obtain rfl : i = 8 := by omega
          refine WP.exit ?_
          refine WP.rs hG ?_
          refine Ch.pu gdN (by exact ⟨rfl, trivial⟩) (OpS.move) (by first | exact trivial | exact ⟨rfl, trivial⟩) rfl ?_
          refine Ch.pu gdN (by exact ⟨rfl, trivial⟩) (OpS.b2s rfl rfl rfl (by first | rfl | (simp; done) | omega)) (by first | exact trivial | exact ⟨rfl, trivial⟩) rfl ?_
          refine Ch.pu gdN (by exact ⟨rfl, trivial⟩) (OpS.assign) (by first | exact trivial | exact ⟨rfl, trivial⟩) rfl ?_
          refine Ch.nil ?_
          rw [padB_8] at *
          exact WP.ret (Ret.one rfl (by first | exact .rfl _ | exact .nil | exact .of_eq (by simp; first | done | fail) | exact AV.wk.sh (by simp; first | done | fail) | exact .untip _ _ _) (by first | trivial | simp [AV.bel]) hnA)
end Go.Proofs.YtmifllopcbjliaaDoor.E
