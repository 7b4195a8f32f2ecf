/- The walks of layer 6's statements: TreeHalves, TreeSound, TreeInputs, TreeMany. -/
import Derived.Test.YtmifllopcbjliaaDoorTree7
namespace Go.Proofs.YtmifllopcbjliaaDoor.E
open Go Go.RowKit Go.Proofs.YtmifllopcbjliaaDoor.V
attribute [local go_sem] B_size B_append B_extract mk_B B_toList take_drop_len List.length_drop List.length_take sgn32 sgn64 add32 sub32 mul32 add64 sub64 mul64 mul64_8 and32 or32 xor32 and64 or64 xor64 shl32_run shr32_run shl64_run shr64_run not32 not32' xor32_all w_u32_u8 w_u64_u8 w_i64_u8 w_u8_u32 w_u8_u64 w_u32_u64 w_u64_u32 w_u8_u8 w_u32_u32 w_u64_u64
attribute [local go_sem ↓] run_index_B' add32 sub32 mul32 add64 sub64 mul64 mul64_8 and32 or32 xor32 and64 or64 xor64 shl32_run shr32_run shl64_run shr64_run not32 not32' xor32_all w_u32_u8 w_u64_u8 w_i64_u8 w_u8_u32 w_u8_u64 w_u32_u64 w_u64_u32 w_u8_u8 w_u32_u32 w_u64_u64 w_u64_nat w_u32_nat w_u8_nat
theorem climbT_nil (x : Txt) (i : Int) : climbT x i [] = x := rfl
theorem climbedT_nil (x : Txt) (i : Int) : climbedT x i [] = [] := rfl
theorem many_root {n : Nat} (h : mayN n = false) : rootT (List.replicate n []) = [] := by rw [rootT, List.length_replicate, h]; rfl
theorem many_path {n : Nat} (i : Int) (h : mayN n = false) : pathT (List.replicate n []) i = [] := by rw [pathT, List.length_replicate, h]; rfl
theorem many_inputs {n : Nat} (h : mayN n = false) : inputsT (List.replicate n []) = [] := by rw [inputsT, List.length_replicate, h]; rfl
theorem many_root1 : rootT (List.replicate 1 []) = [] := by rw [rootT_eq (h := 0) (by decide) rfl]; rfl
theorem rootN_len : ∀ (k : Nat) (l : List Txt), l.length = 2 ^ (k + 1) → (rootN (k + 1) l).length = 32
  | 0, l, hl => by
    match l, hl with
    | [a, b], _ => exact node_length a b
  | k + 1, l, hl => rootN_len k (pairsL node l) (half_len hl)
theorem many_root2 {n : Nat} (h : mayN n = true) (h1 : n ≠ 1) : (rootT (List.replicate n [])).length = 32 := by
  obtain ⟨k, hk, rfl⟩ := mayN_iff.1 h
  cases k with
  | zero => exact absurd rfl h1
  | succ k =>
    rw [rootT_eq hk (by simp)]
    exact rootN_len k _ (by simp)
theorem many_path1 {n : Nat} {i : Int} (h : ¬ (1 < n ∧ 0 ≤ i ∧ i < n)) (hm : mayN n = true) : (pathT (List.replicate n []) i).length = 0 := by
  by_cases h2 : 0 ≤ i ∧ i < n
  · have hn : n = 1 := by omega
    subst hn
    obtain rfl : i = 0 := by omega
    rw [show (0 : Int) = ((0 : Nat) : Int) from rfl, pathT_eq (h := 0) (by decide) rfl (by decide)]
    rfl
  · rw [pathT, if_neg (by rw [List.length_replicate]; omega)]
    rfl
theorem many_path2 {n : Nat} {i : Int} (h : 1 < n ∧ 0 ≤ i ∧ i < n) (hm : mayN n = true) : 0 < (pathT (List.replicate n []) i).length := by
  obtain ⟨k, hk, hn⟩ := mayN_iff.1 hm
  obtain ⟨j, rfl⟩ : ∃ j : Nat, i = (j : Int) := ⟨i.toNat, by omega⟩
  rw [pathT_eq (h := k) hk (by simp [hn]) (by omega), pathN_length]
  cases k with
  | zero => simp at hn; omega
  | succ k => omega
theorem many_inputs2 {n : Nat} (h : mayN n = true) : (inputsT (List.replicate n [])).length + 1 = n := by
  obtain ⟨k, hk, rfl⟩ := mayN_iff.1 h
  rw [inputsT_eq hk (by simp)]
  exact inputsN_length k _ (by simp)
theorem mid_many (n : Nat) : Mid (List.replicate n []) := fun x hx => by
  rw [List.eq_of_mem_replicate hx]
  simp
theorem nine (n : Nat) : n = 1 ∨ n = 2 ∨ n = 4 ∨ n = 8 ∨ n = 16 ∨ n = 32 ∨ n = 64 ∨ n = 128 ∨ (n ≠ 1 ∧ n ≠ 2 ∧ n ≠ 4 ∧ n ≠ 8 ∧ n ≠ 16 ∧ n ≠ 32 ∧ n ≠ 64 ∧ n ≠ 128) := by omega
theorem mayN_not {n : Nat} (h : n ≠ 1 ∧ n ≠ 2 ∧ n ≠ 4 ∧ n ≠ 8 ∧ n ≠ 16 ∧ n ≠ 32 ∧ n ≠ 64 ∧ n ≠ 128) : mayN n = false := by
  obtain ⟨h1, h2, h3, h4, h5, h6, h7, h8⟩ := h
  simp [mayN, h1, h2, h3, h4, h5, h6, h7, h8]
theorem four (n : Nat) (i : Int) : n = 1 ∨ (n ≠ 1 ∧ i < 0) ∨ (n ≠ 1 ∧ 0 ≤ i ∧ (n : Int) ≤ i) ∨ (n ≠ 1 ∧ 0 ≤ i ∧ i < (n : Int)) := by omega
theorem ne_nil_of32 {l : Txt} (h : l.length = 32) : l ≠ [] := fun e => by subst e; simp at h
attribute [local irreducible] sum tag input node rootN pathN inputsN climbL climbedL inp2 pickN rootT pathT inputsT climbT climbedT mayN
set_option maxHeartbeats 1000000 in
theorem treeMany_fc {G : List (Nat × Array Value)} (hm : ShaIn G) (c i : Int) (leaf : Txt) (h1 : -9223372036854775808 ≤ c ∧ c ≤ 9223372036854775807) (h2 : -9223372036854775808 ≤ i ∧ i ≤ 9223372036854775807) :
    FC Tryd.prog G 11 [.v (.int .i64 c), .v (.int .i64 i), sA leaf] [] (.v (.bool true)) [] := by
  obtain ⟨n, hn, hN⟩ := pick_ex (G := G) c 301 h1.1 h1.2 (by decide) (by decide)
  obtain ⟨L, hLe⟩ : ∃ L : List Txt, L = List.replicate n [] := ⟨_, rfl⟩
  have hLl : L.length = n := by rw [hLe, List.length_replicate]
  have hLm : Mid L := by rw [hLe]; exact mid_many n
  have hroot := root_fc hm L hLm
  have hpath := path_fc hm L i hLm
  have hinp := inputs_fc hm L hLm
  rw [hLl] at hroot hpath hinp
  have hclimb := climb_fc hm leaf i [] (by omega) (fun s hs => by cases hs) (by simp)
  have hclimbed := climbed_fc hm leaf i [] (by omega) (fun s hs => by cases hs) (by simp)
  rw [climbT_nil] at hclimb
  rw [climbedT_nil] at hclimbed
  have hz : List.replicate n (.v (.string .empty) : AV) = L.map sA := by rw [hLe, List.map_replicate]; rfl
  refine FC.of_wp [6] Tryd.func11 rfl rfl rfl rfl ⟨trivial, trivial, trivial, trivial⟩ trivial (by exact Nat.le_of_ble_eq_true rfl) ?_
  intro A hG hnA hAB
  unfold start
  refine WP.rs hG ?_
  refine Ch.pu gdN (by exact ⟨rfl, trivial⟩) (OpS.assign) (by first | exact trivial | exact ⟨rfl, trivial⟩) rfl ?_
  refine Ch.nil ?_
  refine WP.rs hG ?_
  refine Ch.callP (awake_fc hm) gdN (by repeat (first | exact EvL.nil | (apply EvL.cons; exact rfl))) (by exact trivial) (by rfl) rfl ?_
  refine Ch.pu gdN (by exact ⟨rfl, trivial⟩) (OpS.assign) (by first | exact trivial | exact ⟨rfl, trivial⟩) rfl ?_
  refine Ch.nil ?_
  refine WP.rs hG ?_
  refine Ch.pu gdN (by exact ⟨rfl, trivial⟩) (OpS.move) (by first | exact trivial | exact ⟨rfl, trivial⟩) rfl ?_
  refine Ch.callP (hN) gdN (by repeat (first | exact EvL.nil | (apply EvL.cons; exact rfl))) (by exact (And.intro (by first | exact .rfl _ | exact .untip _ _ _ | exact .nil | exact .func _ | exact AV.wk.sh (renL_s _ _) | exact AV.wk.sh (by simp; first | done | fail)) (And.intro (by first | exact .rfl _ | exact .untip _ _ _ | exact .nil | exact .func _ | exact AV.wk.sh (renL_s _ _) | exact AV.wk.sh (by simp; first | done | fail)) trivial))) (by rfl) rfl ?_
  refine Ch.pu gdN (by exact ⟨rfl, trivial⟩) (OpS.assign) (by first | exact trivial | exact ⟨rfl, trivial⟩) rfl ?_
  refine Ch.nil ?_
  refine WP.rs hG ?_
  refine Ch.pu gdN (by exact ⟨rfl, trivial⟩) (OpS.move) (by first | exact trivial | exact ⟨rfl, trivial⟩) rfl ?_
  refine Ch.pu gdN (by exact ⟨rfl, rfl, trivial⟩) (OpS.makeS (n := n) (bb := 16) rfl rfl rfl rfl rfl rfl rfl hz rfl (by omega) (by unfold maxLen; omega)) (by first | exact trivial | exact ⟨rfl, trivial⟩) rfl ?_
  refine Ch.pu gdN (by exact ⟨rfl, trivial⟩) (OpS.assign) (by first | exact trivial | exact ⟨rfl, trivial⟩) rfl ?_
  refine Ch.nil ?_
  refine WP.seqJ (fun σ => ∃ _ : Unit, σ = ⟨114, ls [(0, .v (.int .i64 (n : Int))), (1, .v (.int .i64 i)), (2, sA leaf), (7, .v (.bool true)), (8, .sl none n (L.map sA)), (9, .v (.bool (mayN n)))], lh [], blt 0⟩) ?_ ?_
  · skip
    rcases nine n with hq | hq | hq | hq | hq | hq | hq | hq | hq
    · have hs := hq
      refine WP.rg hG ?_
      refine Ch.pu gdN (by exact ⟨rfl, trivial⟩) (OpS.move) (by first | exact trivial | exact ⟨rfl, trivial⟩) rfl ?_
      refine Ch.pu gdN (by exact ⟨rfl, rfl, trivial⟩) (OpS.int (v' := .bool true) rfl (by first | (simp [hs]; done) | (have hs2 := hs; simp; omega) | fail)) (by first | exact trivial | exact ⟨rfl, trivial⟩) rfl ?_
      refine Ch.pu gdN (by exact ⟨rfl, trivial⟩) (OpS.move) (by first | exact trivial | exact ⟨rfl, trivial⟩) rfl ?_
      refine Ch.skU (gdF rfl rfl rfl) rfl ?_
      refine Ch.skU (gdF rfl rfl rfl) rfl ?_
      refine Ch.pu gdN (by first | exact ⟨rfl, rfl, trivial⟩ | exact ⟨rfl, rfl, rfl, trivial⟩) (OpS.pickT) (by first | exact trivial | exact ⟨rfl, trivial⟩) rfl ?_
      refine Ch.pu gdN (by exact ⟨rfl, trivial⟩) (OpS.move) (by first | exact trivial | exact ⟨rfl, trivial⟩) rfl ?_
      refine Ch.skU (gdF rfl rfl rfl) rfl ?_
      refine Ch.skU (gdF rfl rfl rfl) rfl ?_
      refine Ch.pu gdN (by first | exact ⟨rfl, rfl, trivial⟩ | exact ⟨rfl, rfl, rfl, trivial⟩) (OpS.pickT) (by first | exact trivial | exact ⟨rfl, trivial⟩) rfl ?_
      refine Ch.pu gdN (by exact ⟨rfl, trivial⟩) (OpS.move) (by first | exact trivial | exact ⟨rfl, trivial⟩) rfl ?_
      refine Ch.skU (gdF rfl rfl rfl) rfl ?_
      refine Ch.skU (gdF rfl rfl rfl) rfl ?_
      refine Ch.pu gdN (by first | exact ⟨rfl, rfl, trivial⟩ | exact ⟨rfl, rfl, rfl, trivial⟩) (OpS.pickT) (by first | exact trivial | exact ⟨rfl, trivial⟩) rfl ?_
      refine Ch.pu gdN (by exact ⟨rfl, trivial⟩) (OpS.move) (by first | exact trivial | exact ⟨rfl, trivial⟩) rfl ?_
      refine Ch.skU (gdF rfl rfl rfl) rfl ?_
      refine Ch.skU (gdF rfl rfl rfl) rfl ?_
      refine Ch.pu gdN (by first | exact ⟨rfl, rfl, trivial⟩ | exact ⟨rfl, rfl, rfl, trivial⟩) (OpS.pickT) (by first | exact trivial | exact ⟨rfl, trivial⟩) rfl ?_
      refine Ch.pu gdN (by exact ⟨rfl, trivial⟩) (OpS.move) (by first | exact trivial | exact ⟨rfl, trivial⟩) rfl ?_
      refine Ch.skU (gdF rfl rfl rfl) rfl ?_
      refine Ch.skU (gdF rfl rfl rfl) rfl ?_
      refine Ch.pu gdN (by first | exact ⟨rfl, rfl, trivial⟩ | exact ⟨rfl, rfl, rfl, trivial⟩) (OpS.pickT) (by first | exact trivial | exact ⟨rfl, trivial⟩) rfl ?_
      refine Ch.pu gdN (by exact ⟨rfl, trivial⟩) (OpS.move) (by first | exact trivial | exact ⟨rfl, trivial⟩) rfl ?_
      refine Ch.skU (gdF rfl rfl rfl) rfl ?_
      refine Ch.skU (gdF rfl rfl rfl) rfl ?_
      refine Ch.pu gdN (by first | exact ⟨rfl, rfl, trivial⟩ | exact ⟨rfl, rfl, rfl, trivial⟩) (OpS.pickT) (by first | exact trivial | exact ⟨rfl, trivial⟩) rfl ?_
      refine Ch.pu gdN (by exact ⟨rfl, trivial⟩) (OpS.move) (by first | exact trivial | exact ⟨rfl, trivial⟩) rfl ?_
      refine Ch.skU (gdF rfl rfl rfl) rfl ?_
      refine Ch.skU (gdF rfl rfl rfl) rfl ?_
      refine Ch.pu gdN (by first | exact ⟨rfl, rfl, trivial⟩ | exact ⟨rfl, rfl, rfl, trivial⟩) (OpS.pickT) (by first | exact trivial | exact ⟨rfl, trivial⟩) rfl ?_
      refine Ch.pu gdN (by exact ⟨rfl, trivial⟩) (OpS.assign) (by first | exact trivial | exact ⟨rfl, trivial⟩) rfl ?_
      refine Ch.nil ?_
      refine ⟨_, (Ent.of [] ?_ ?_ ?_ ?_).se, (), rfl⟩
      · exact (fun i hi => by rw [hnA] at hi; simp only [List.length_cons, List.length_nil] at hi ⊢; first | exact absurd hi (Nat.not_lt_zero _) | (revert i; decide))
      · (repeat (first | exact trivial | (refine And.intro ⟨(by first | trivial | (simp; first | done | fail)), _, rfl, (by first | exact .rfl _ | exact .nil | exact .of_eq (by simp [show mayN n = true by rw [hs]; decide +kernel]; first | done | fail) | exact AV.wk.sh (by simp [show mayN n = true by rw [hs]; decide +kernel]; first | done | fail) | exact .untip _ _ _)⟩ ?_)))
      · (repeat (first | exact trivial | (refine And.intro ⟨rfl, (by first | trivial | (simp; first | done | fail)), (by first | rfl | (simp [show mayN n = true by rw [hs]; decide +kernel]; first | done | fail))⟩ ?_)))
      · simp [rn]
    · have hs := hq
      refine WP.rg hG ?_
      refine Ch.pu gdN (by exact ⟨rfl, trivial⟩) (OpS.move) (by first | exact trivial | exact ⟨rfl, trivial⟩) rfl ?_
      refine Ch.pu gdN (by exact ⟨rfl, rfl, trivial⟩) (OpS.int (v' := .bool false) rfl (by first | (simp [hs]; done) | (have hs2 := hs; simp; omega) | fail)) (by first | exact trivial | exact ⟨rfl, trivial⟩) rfl ?_
      refine Ch.pu gdN (by exact ⟨rfl, trivial⟩) (OpS.move) (by first | exact trivial | exact ⟨rfl, trivial⟩) rfl ?_
      refine Ch.pu (by exact gdT rfl rfl) (by exact ⟨rfl, trivial⟩) (OpS.move) (by first | exact trivial | exact ⟨rfl, trivial⟩) rfl ?_
      refine Ch.pu (by exact gdT rfl rfl) (by exact ⟨rfl, rfl, trivial⟩) (OpS.int (v' := .bool true) rfl (by first | (simp [hs]; done) | (have hs2 := hs; simp; omega) | fail)) (by first | exact trivial | exact ⟨rfl, trivial⟩) rfl ?_
      refine Ch.pu gdN (by first | exact ⟨rfl, rfl, trivial⟩ | exact ⟨rfl, rfl, rfl, trivial⟩) (OpS.pickF) (by first | exact trivial | exact ⟨rfl, trivial⟩) rfl ?_
      refine Ch.pu gdN (by exact ⟨rfl, trivial⟩) (OpS.move) (by first | exact trivial | exact ⟨rfl, trivial⟩) rfl ?_
      refine Ch.skU (gdF rfl rfl rfl) rfl ?_
      refine Ch.skU (gdF rfl rfl rfl) rfl ?_
      refine Ch.pu gdN (by first | exact ⟨rfl, rfl, trivial⟩ | exact ⟨rfl, rfl, rfl, trivial⟩) (OpS.pickT) (by first | exact trivial | exact ⟨rfl, trivial⟩) rfl ?_
      refine Ch.pu gdN (by exact ⟨rfl, trivial⟩) (OpS.move) (by first | exact trivial | exact ⟨rfl, trivial⟩) rfl ?_
      refine Ch.skU (gdF rfl rfl rfl) rfl ?_
      refine Ch.skU (gdF rfl rfl rfl) rfl ?_
      refine Ch.pu gdN (by first | exact ⟨rfl, rfl, trivial⟩ | exact ⟨rfl, rfl, rfl, trivial⟩) (OpS.pickT) (by first | exact trivial | exact ⟨rfl, trivial⟩) rfl ?_
      refine Ch.pu gdN (by exact ⟨rfl, trivial⟩) (OpS.move) (by first | exact trivial | exact ⟨rfl, trivial⟩) rfl ?_
      refine Ch.skU (gdF rfl rfl rfl) rfl ?_
      refine Ch.skU (gdF rfl rfl rfl) rfl ?_
      refine Ch.pu gdN (by first | exact ⟨rfl, rfl, trivial⟩ | exact ⟨rfl, rfl, rfl, trivial⟩) (OpS.pickT) (by first | exact trivial | exact ⟨rfl, trivial⟩) rfl ?_
      refine Ch.pu gdN (by exact ⟨rfl, trivial⟩) (OpS.move) (by first | exact trivial | exact ⟨rfl, trivial⟩) rfl ?_
      refine Ch.skU (gdF rfl rfl rfl) rfl ?_
      refine Ch.skU (gdF rfl rfl rfl) rfl ?_
      refine Ch.pu gdN (by first | exact ⟨rfl, rfl, trivial⟩ | exact ⟨rfl, rfl, rfl, trivial⟩) (OpS.pickT) (by first | exact trivial | exact ⟨rfl, trivial⟩) rfl ?_
      refine Ch.pu gdN (by exact ⟨rfl, trivial⟩) (OpS.move) (by first | exact trivial | exact ⟨rfl, trivial⟩) rfl ?_
      refine Ch.skU (gdF rfl rfl rfl) rfl ?_
      refine Ch.skU (gdF rfl rfl rfl) rfl ?_
      refine Ch.pu gdN (by first | exact ⟨rfl, rfl, trivial⟩ | exact ⟨rfl, rfl, rfl, trivial⟩) (OpS.pickT) (by first | exact trivial | exact ⟨rfl, trivial⟩) rfl ?_
      refine Ch.pu gdN (by exact ⟨rfl, trivial⟩) (OpS.move) (by first | exact trivial | exact ⟨rfl, trivial⟩) rfl ?_
      refine Ch.skU (gdF rfl rfl rfl) rfl ?_
      refine Ch.skU (gdF rfl rfl rfl) rfl ?_
      refine Ch.pu gdN (by first | exact ⟨rfl, rfl, trivial⟩ | exact ⟨rfl, rfl, rfl, trivial⟩) (OpS.pickT) (by first | exact trivial | exact ⟨rfl, trivial⟩) rfl ?_
      refine Ch.pu gdN (by exact ⟨rfl, trivial⟩) (OpS.assign) (by first | exact trivial | exact ⟨rfl, trivial⟩) rfl ?_
      refine Ch.nil ?_
      refine ⟨_, (Ent.of [] ?_ ?_ ?_ ?_).se, (), rfl⟩
      · exact (fun i hi => by rw [hnA] at hi; simp only [List.length_cons, List.length_nil] at hi ⊢; first | exact absurd hi (Nat.not_lt_zero _) | (revert i; decide))
      · (repeat (first | exact trivial | (refine And.intro ⟨(by first | trivial | (simp; first | done | fail)), _, rfl, (by first | exact .rfl _ | exact .nil | exact .of_eq (by simp [show mayN n = true by rw [hs]; decide +kernel]; first | done | fail) | exact AV.wk.sh (by simp [show mayN n = true by rw [hs]; decide +kernel]; first | done | fail) | exact .untip _ _ _)⟩ ?_)))
      · (repeat (first | exact trivial | (refine And.intro ⟨rfl, (by first | trivial | (simp; first | done | fail)), (by first | rfl | (simp [show mayN n = true by rw [hs]; decide +kernel]; first | done | fail))⟩ ?_)))
      · simp [rn]
    · have hs := hq
      refine WP.rg hG ?_
      refine Ch.pu gdN (by exact ⟨rfl, trivial⟩) (OpS.move) (by first | exact trivial | exact ⟨rfl, trivial⟩) rfl ?_
      refine Ch.pu gdN (by exact ⟨rfl, rfl, trivial⟩) (OpS.int (v' := .bool false) rfl (by first | (simp [hs]; done) | (have hs2 := hs; simp; omega) | fail)) (by first | exact trivial | exact ⟨rfl, trivial⟩) rfl ?_
      refine Ch.pu gdN (by exact ⟨rfl, trivial⟩) (OpS.move) (by first | exact trivial | exact ⟨rfl, trivial⟩) rfl ?_
      refine Ch.pu (by exact gdT rfl rfl) (by exact ⟨rfl, trivial⟩) (OpS.move) (by first | exact trivial | exact ⟨rfl, trivial⟩) rfl ?_
      refine Ch.pu (by exact gdT rfl rfl) (by exact ⟨rfl, rfl, trivial⟩) (OpS.int (v' := .bool false) rfl (by first | (simp [hs]; done) | (have hs2 := hs; simp; omega) | fail)) (by first | exact trivial | exact ⟨rfl, trivial⟩) rfl ?_
      refine Ch.pu gdN (by first | exact ⟨rfl, rfl, trivial⟩ | exact ⟨rfl, rfl, rfl, trivial⟩) (OpS.pickF) (by first | exact trivial | exact ⟨rfl, trivial⟩) rfl ?_
      refine Ch.pu gdN (by exact ⟨rfl, trivial⟩) (OpS.move) (by first | exact trivial | exact ⟨rfl, trivial⟩) rfl ?_
      refine Ch.pu (by exact gdT rfl rfl) (by exact ⟨rfl, trivial⟩) (OpS.move) (by first | exact trivial | exact ⟨rfl, trivial⟩) rfl ?_
      refine Ch.pu (by exact gdT rfl rfl) (by exact ⟨rfl, rfl, trivial⟩) (OpS.int (v' := .bool true) rfl (by first | (simp [hs]; done) | (have hs2 := hs; simp; omega) | fail)) (by first | exact trivial | exact ⟨rfl, trivial⟩) rfl ?_
      refine Ch.pu gdN (by first | exact ⟨rfl, rfl, trivial⟩ | exact ⟨rfl, rfl, rfl, trivial⟩) (OpS.pickF) (by first | exact trivial | exact ⟨rfl, trivial⟩) rfl ?_
      refine Ch.pu gdN (by exact ⟨rfl, trivial⟩) (OpS.move) (by first | exact trivial | exact ⟨rfl, trivial⟩) rfl ?_
      refine Ch.skU (gdF rfl rfl rfl) rfl ?_
      refine Ch.skU (gdF rfl rfl rfl) rfl ?_
      refine Ch.pu gdN (by first | exact ⟨rfl, rfl, trivial⟩ | exact ⟨rfl, rfl, rfl, trivial⟩) (OpS.pickT) (by first | exact trivial | exact ⟨rfl, trivial⟩) rfl ?_
      refine Ch.pu gdN (by exact ⟨rfl, trivial⟩) (OpS.move) (by first | exact trivial | exact ⟨rfl, trivial⟩) rfl ?_
      refine Ch.skU (gdF rfl rfl rfl) rfl ?_
      refine Ch.skU (gdF rfl rfl rfl) rfl ?_
      refine Ch.pu gdN (by first | exact ⟨rfl, rfl, trivial⟩ | exact ⟨rfl, rfl, rfl, trivial⟩) (OpS.pickT) (by first | exact trivial | exact ⟨rfl, trivial⟩) rfl ?_
      refine Ch.pu gdN (by exact ⟨rfl, trivial⟩) (OpS.move) (by first | exact trivial | exact ⟨rfl, trivial⟩) rfl ?_
      refine Ch.skU (gdF rfl rfl rfl) rfl ?_
      refine Ch.skU (gdF rfl rfl rfl) rfl ?_
      refine Ch.pu gdN (by first | exact ⟨rfl, rfl, trivial⟩ | exact ⟨rfl, rfl, rfl, trivial⟩) (OpS.pickT) (by first | exact trivial | exact ⟨rfl, trivial⟩) rfl ?_
      refine Ch.pu gdN (by exact ⟨rfl, trivial⟩) (OpS.move) (by first | exact trivial | exact ⟨rfl, trivial⟩) rfl ?_
      refine Ch.skU (gdF rfl rfl rfl) rfl ?_
      refine Ch.skU (gdF rfl rfl rfl) rfl ?_
      refine Ch.pu gdN (by first | exact ⟨rfl, rfl, trivial⟩ | exact ⟨rfl, rfl, rfl, trivial⟩) (OpS.pickT) (by first | exact trivial | exact ⟨rfl, trivial⟩) rfl ?_
      refine Ch.pu gdN (by exact ⟨rfl, trivial⟩) (OpS.move) (by first | exact trivial | exact ⟨rfl, trivial⟩) rfl ?_
      refine Ch.skU (gdF rfl rfl rfl) rfl ?_
      refine Ch.skU (gdF rfl rfl rfl) rfl ?_
      refine Ch.pu gdN (by first | exact ⟨rfl, rfl, trivial⟩ | exact ⟨rfl, rfl, rfl, trivial⟩) (OpS.pickT) (by first | exact trivial | exact ⟨rfl, trivial⟩) rfl ?_
      refine Ch.pu gdN (by exact ⟨rfl, trivial⟩) (OpS.assign) (by first | exact trivial | exact ⟨rfl, trivial⟩) rfl ?_
      refine Ch.nil ?_
      refine ⟨_, (Ent.of [] ?_ ?_ ?_ ?_).se, (), rfl⟩
      · exact (fun i hi => by rw [hnA] at hi; simp only [List.length_cons, List.length_nil] at hi ⊢; first | exact absurd hi (Nat.not_lt_zero _) | (revert i; decide))
      · (repeat (first | exact trivial | (refine And.intro ⟨(by first | trivial | (simp; first | done | fail)), _, rfl, (by first | exact .rfl _ | exact .nil | exact .of_eq (by simp [show mayN n = true by rw [hs]; decide +kernel]; first | done | fail) | exact AV.wk.sh (by simp [show mayN n = true by rw [hs]; decide +kernel]; first | done | fail) | exact .untip _ _ _)⟩ ?_)))
      · (repeat (first | exact trivial | (refine And.intro ⟨rfl, (by first | trivial | (simp; first | done | fail)), (by first | rfl | (simp [show mayN n = true by rw [hs]; decide +kernel]; first | done | fail))⟩ ?_)))
      · simp [rn]
    · have hs := hq
      refine WP.rg hG ?_
      refine Ch.pu gdN (by exact ⟨rfl, trivial⟩) (OpS.move) (by first | exact trivial | exact ⟨rfl, trivial⟩) rfl ?_
      refine Ch.pu gdN (by exact ⟨rfl, rfl, trivial⟩) (OpS.int (v' := .bool false) rfl (by first | (simp [hs]; done) | (have hs2 := hs; simp; omega) | fail)) (by first | exact trivial | exact ⟨rfl, trivial⟩) rfl ?_
      refine Ch.pu gdN (by exact ⟨rfl, trivial⟩) (OpS.move) (by first | exact trivial | exact ⟨rfl, trivial⟩) rfl ?_
      refine Ch.pu (by exact gdT rfl rfl) (by exact ⟨rfl, trivial⟩) (OpS.move) (by first | exact trivial | exact ⟨rfl, trivial⟩) rfl ?_
      refine Ch.pu (by exact gdT rfl rfl) (by exact ⟨rfl, rfl, trivial⟩) (OpS.int (v' := .bool false) rfl (by first | (simp [hs]; done) | (have hs2 := hs; simp; omega) | fail)) (by first | exact trivial | exact ⟨rfl, trivial⟩) rfl ?_
      refine Ch.pu gdN (by first | exact ⟨rfl, rfl, trivial⟩ | exact ⟨rfl, rfl, rfl, trivial⟩) (OpS.pickF) (by first | exact trivial | exact ⟨rfl, trivial⟩) rfl ?_
      refine Ch.pu gdN (by exact ⟨rfl, trivial⟩) (OpS.move) (by first | exact trivial | exact ⟨rfl, trivial⟩) rfl ?_
      refine Ch.pu (by exact gdT rfl rfl) (by exact ⟨rfl, trivial⟩) (OpS.move) (by first | exact trivial | exact ⟨rfl, trivial⟩) rfl ?_
      refine Ch.pu (by exact gdT rfl rfl) (by exact ⟨rfl, rfl, trivial⟩) (OpS.int (v' := .bool false) rfl (by first | (simp [hs]; done) | (have hs2 := hs; simp; omega) | fail)) (by first | exact trivial | exact ⟨rfl, trivial⟩) rfl ?_
      refine Ch.pu gdN (by first | exact ⟨rfl, rfl, trivial⟩ | exact ⟨rfl, rfl, rfl, trivial⟩) (OpS.pickF) (by first | exact trivial | exact ⟨rfl, trivial⟩) rfl ?_
      refine Ch.pu gdN (by exact ⟨rfl, trivial⟩) (OpS.move) (by first | exact trivial | exact ⟨rfl, trivial⟩) rfl ?_
      refine Ch.pu (by exact gdT rfl rfl) (by exact ⟨rfl, trivial⟩) (OpS.move) (by first | exact trivial | exact ⟨rfl, trivial⟩) rfl ?_
      refine Ch.pu (by exact gdT rfl rfl) (by exact ⟨rfl, rfl, trivial⟩) (OpS.int (v' := .bool true) rfl (by first | (simp [hs]; done) | (have hs2 := hs; simp; omega) | fail)) (by first | exact trivial | exact ⟨rfl, trivial⟩) rfl ?_
      refine Ch.pu gdN (by first | exact ⟨rfl, rfl, trivial⟩ | exact ⟨rfl, rfl, rfl, trivial⟩) (OpS.pickF) (by first | exact trivial | exact ⟨rfl, trivial⟩) rfl ?_
      refine Ch.pu gdN (by exact ⟨rfl, trivial⟩) (OpS.move) (by first | exact trivial | exact ⟨rfl, trivial⟩) rfl ?_
      refine Ch.skU (gdF rfl rfl rfl) rfl ?_
      refine Ch.skU (gdF rfl rfl rfl) rfl ?_
      refine Ch.pu gdN (by first | exact ⟨rfl, rfl, trivial⟩ | exact ⟨rfl, rfl, rfl, trivial⟩) (OpS.pickT) (by first | exact trivial | exact ⟨rfl, trivial⟩) rfl ?_
      refine Ch.pu gdN (by exact ⟨rfl, trivial⟩) (OpS.move) (by first | exact trivial | exact ⟨rfl, trivial⟩) rfl ?_
      refine Ch.skU (gdF rfl rfl rfl) rfl ?_
      refine Ch.skU (gdF rfl rfl rfl) rfl ?_
      refine Ch.pu gdN (by first | exact ⟨rfl, rfl, trivial⟩ | exact ⟨rfl, rfl, rfl, trivial⟩) (OpS.pickT) (by first | exact trivial | exact ⟨rfl, trivial⟩) rfl ?_
      refine Ch.pu gdN (by exact ⟨rfl, trivial⟩) (OpS.move) (by first | exact trivial | exact ⟨rfl, trivial⟩) rfl ?_
      refine Ch.skU (gdF rfl rfl rfl) rfl ?_
      refine Ch.skU (gdF rfl rfl rfl) rfl ?_
      refine Ch.pu gdN (by first | exact ⟨rfl, rfl, trivial⟩ | exact ⟨rfl, rfl, rfl, trivial⟩) (OpS.pickT) (by first | exact trivial | exact ⟨rfl, trivial⟩) rfl ?_
      refine Ch.pu gdN (by exact ⟨rfl, trivial⟩) (OpS.move) (by first | exact trivial | exact ⟨rfl, trivial⟩) rfl ?_
      refine Ch.skU (gdF rfl rfl rfl) rfl ?_
      refine Ch.skU (gdF rfl rfl rfl) rfl ?_
      refine Ch.pu gdN (by first | exact ⟨rfl, rfl, trivial⟩ | exact ⟨rfl, rfl, rfl, trivial⟩) (OpS.pickT) (by first | exact trivial | exact ⟨rfl, trivial⟩) rfl ?_
      refine Ch.pu gdN (by exact ⟨rfl, trivial⟩) (OpS.assign) (by first | exact trivial | exact ⟨rfl, trivial⟩) rfl ?_
      refine Ch.nil ?_
      refine ⟨_, (Ent.of [] ?_ ?_ ?_ ?_).se, (), rfl⟩
      · exact (fun i hi => by rw [hnA] at hi; simp only [List.length_cons, List.length_nil] at hi ⊢; first | exact absurd hi (Nat.not_lt_zero _) | (revert i; decide))
      · (repeat (first | exact trivial | (refine And.intro ⟨(by first | trivial | (simp; first | done | fail)), _, rfl, (by first | exact .rfl _ | exact .nil | exact .of_eq (by simp [show mayN n = true by rw [hs]; decide +kernel]; first | done | fail) | exact AV.wk.sh (by simp [show mayN n = true by rw [hs]; decide +kernel]; first | done | fail) | exact .untip _ _ _)⟩ ?_)))
      · (repeat (first | exact trivial | (refine And.intro ⟨rfl, (by first | trivial | (simp; first | done | fail)), (by first | rfl | (simp [show mayN n = true by rw [hs]; decide +kernel]; first | done | fail))⟩ ?_)))
      · simp [rn]
    · have hs := hq
      refine WP.rg hG ?_
      refine Ch.pu gdN (by exact ⟨rfl, trivial⟩) (OpS.move) (by first | exact trivial | exact ⟨rfl, trivial⟩) rfl ?_
      refine Ch.pu gdN (by exact ⟨rfl, rfl, trivial⟩) (OpS.int (v' := .bool false) rfl (by first | (simp [hs]; done) | (have hs2 := hs; simp; omega) | fail)) (by first | exact trivial | exact ⟨rfl, trivial⟩) rfl ?_
      refine Ch.pu gdN (by exact ⟨rfl, trivial⟩) (OpS.move) (by first | exact trivial | exact ⟨rfl, trivial⟩) rfl ?_
      refine Ch.pu (by exact gdT rfl rfl) (by exact ⟨rfl, trivial⟩) (OpS.move) (by first | exact trivial | exact ⟨rfl, trivial⟩) rfl ?_
      refine Ch.pu (by exact gdT rfl rfl) (by exact ⟨rfl, rfl, trivial⟩) (OpS.int (v' := .bool false) rfl (by first | (simp [hs]; done) | (have hs2 := hs; simp; omega) | fail)) (by first | exact trivial | exact ⟨rfl, trivial⟩) rfl ?_
      refine Ch.pu gdN (by first | exact ⟨rfl, rfl, trivial⟩ | exact ⟨rfl, rfl, rfl, trivial⟩) (OpS.pickF) (by first | exact trivial | exact ⟨rfl, trivial⟩) rfl ?_
      refine Ch.pu gdN (by exact ⟨rfl, trivial⟩) (OpS.move) (by first | exact trivial | exact ⟨rfl, trivial⟩) rfl ?_
      refine Ch.pu (by exact gdT rfl rfl) (by exact ⟨rfl, trivial⟩) (OpS.move) (by first | exact trivial | exact ⟨rfl, trivial⟩) rfl ?_
      refine Ch.pu (by exact gdT rfl rfl) (by exact ⟨rfl, rfl, trivial⟩) (OpS.int (v' := .bool false) rfl (by first | (simp [hs]; done) | (have hs2 := hs; simp; omega) | fail)) (by first | exact trivial | exact ⟨rfl, trivial⟩) rfl ?_
      refine Ch.pu gdN (by first | exact ⟨rfl, rfl, trivial⟩ | exact ⟨rfl, rfl, rfl, trivial⟩) (OpS.pickF) (by first | exact trivial | exact ⟨rfl, trivial⟩) rfl ?_
      refine Ch.pu gdN (by exact ⟨rfl, trivial⟩) (OpS.move) (by first | exact trivial | exact ⟨rfl, trivial⟩) rfl ?_
      refine Ch.pu (by exact gdT rfl rfl) (by exact ⟨rfl, trivial⟩) (OpS.move) (by first | exact trivial | exact ⟨rfl, trivial⟩) rfl ?_
      refine Ch.pu (by exact gdT rfl rfl) (by exact ⟨rfl, rfl, trivial⟩) (OpS.int (v' := .bool false) rfl (by first | (simp [hs]; done) | (have hs2 := hs; simp; omega) | fail)) (by first | exact trivial | exact ⟨rfl, trivial⟩) rfl ?_
      refine Ch.pu gdN (by first | exact ⟨rfl, rfl, trivial⟩ | exact ⟨rfl, rfl, rfl, trivial⟩) (OpS.pickF) (by first | exact trivial | exact ⟨rfl, trivial⟩) rfl ?_
      refine Ch.pu gdN (by exact ⟨rfl, trivial⟩) (OpS.move) (by first | exact trivial | exact ⟨rfl, trivial⟩) rfl ?_
      refine Ch.pu (by exact gdT rfl rfl) (by exact ⟨rfl, trivial⟩) (OpS.move) (by first | exact trivial | exact ⟨rfl, trivial⟩) rfl ?_
      refine Ch.pu (by exact gdT rfl rfl) (by exact ⟨rfl, rfl, trivial⟩) (OpS.int (v' := .bool true) rfl (by first | (simp [hs]; done) | (have hs2 := hs; simp; omega) | fail)) (by first | exact trivial | exact ⟨rfl, trivial⟩) rfl ?_
      refine Ch.pu gdN (by first | exact ⟨rfl, rfl, trivial⟩ | exact ⟨rfl, rfl, rfl, trivial⟩) (OpS.pickF) (by first | exact trivial | exact ⟨rfl, trivial⟩) rfl ?_
      refine Ch.pu gdN (by exact ⟨rfl, trivial⟩) (OpS.move) (by first | exact trivial | exact ⟨rfl, trivial⟩) rfl ?_
      refine Ch.skU (gdF rfl rfl rfl) rfl ?_
      refine Ch.skU (gdF rfl rfl rfl) rfl ?_
      refine Ch.pu gdN (by first | exact ⟨rfl, rfl, trivial⟩ | exact ⟨rfl, rfl, rfl, trivial⟩) (OpS.pickT) (by first | exact trivial | exact ⟨rfl, trivial⟩) rfl ?_
      refine Ch.pu gdN (by exact ⟨rfl, trivial⟩) (OpS.move) (by first | exact trivial | exact ⟨rfl, trivial⟩) rfl ?_
      refine Ch.skU (gdF rfl rfl rfl) rfl ?_
      refine Ch.skU (gdF rfl rfl rfl) rfl ?_
      refine Ch.pu gdN (by first | exact ⟨rfl, rfl, trivial⟩ | exact ⟨rfl, rfl, rfl, trivial⟩) (OpS.pickT) (by first | exact trivial | exact ⟨rfl, trivial⟩) rfl ?_
      refine Ch.pu gdN (by exact ⟨rfl, trivial⟩) (OpS.move) (by first | exact trivial | exact ⟨rfl, trivial⟩) rfl ?_
      refine Ch.skU (gdF rfl rfl rfl) rfl ?_
      refine Ch.skU (gdF rfl rfl rfl) rfl ?_
      refine Ch.pu gdN (by first | exact ⟨rfl, rfl, trivial⟩ | exact ⟨rfl, rfl, rfl, trivial⟩) (OpS.pickT) (by first | exact trivial | exact ⟨rfl, trivial⟩) rfl ?_
      refine Ch.pu gdN (by exact ⟨rfl, trivial⟩) (OpS.assign) (by first | exact trivial | exact ⟨rfl, trivial⟩) rfl ?_
      refine Ch.nil ?_
      refine ⟨_, (Ent.of [] ?_ ?_ ?_ ?_).se, (), rfl⟩
      · exact (fun i hi => by rw [hnA] at hi; simp only [List.length_cons, List.length_nil] at hi ⊢; first | exact absurd hi (Nat.not_lt_zero _) | (revert i; decide))
      · (repeat (first | exact trivial | (refine And.intro ⟨(by first | trivial | (simp; first | done | fail)), _, rfl, (by first | exact .rfl _ | exact .nil | exact .of_eq (by simp [show mayN n = true by rw [hs]; decide +kernel]; first | done | fail) | exact AV.wk.sh (by simp [show mayN n = true by rw [hs]; decide +kernel]; first | done | fail) | exact .untip _ _ _)⟩ ?_)))
      · (repeat (first | exact trivial | (refine And.intro ⟨rfl, (by first | trivial | (simp; first | done | fail)), (by first | rfl | (simp [show mayN n = true by rw [hs]; decide +kernel]; first | done | fail))⟩ ?_)))
      · simp [rn]
    · have hs := hq
      refine WP.rg hG ?_
      refine Ch.pu gdN (by exact ⟨rfl, trivial⟩) (OpS.move) (by first | exact trivial | exact ⟨rfl, trivial⟩) rfl ?_
      refine Ch.pu gdN (by exact ⟨rfl, rfl, trivial⟩) (OpS.int (v' := .bool false) rfl (by first | (simp [hs]; done) | (have hs2 := hs; simp; omega) | fail)) (by first | exact trivial | exact ⟨rfl, trivial⟩) rfl ?_
      refine Ch.pu gdN (by exact ⟨rfl, trivial⟩) (OpS.move) (by first | exact trivial | exact ⟨rfl, trivial⟩) rfl ?_
      refine Ch.pu (by exact gdT rfl rfl) (by exact ⟨rfl, trivial⟩) (OpS.move) (by first | exact trivial | exact ⟨rfl, trivial⟩) rfl ?_
      refine Ch.pu (by exact gdT rfl rfl) (by exact ⟨rfl, rfl, trivial⟩) (OpS.int (v' := .bool false) rfl (by first | (simp [hs]; done) | (have hs2 := hs; simp; omega) | fail)) (by first | exact trivial | exact ⟨rfl, trivial⟩) rfl ?_
      refine Ch.pu gdN (by first | exact ⟨rfl, rfl, trivial⟩ | exact ⟨rfl, rfl, rfl, trivial⟩) (OpS.pickF) (by first | exact trivial | exact ⟨rfl, trivial⟩) rfl ?_
      refine Ch.pu gdN (by exact ⟨rfl, trivial⟩) (OpS.move) (by first | exact trivial | exact ⟨rfl, trivial⟩) rfl ?_
      refine Ch.pu (by exact gdT rfl rfl) (by exact ⟨rfl, trivial⟩) (OpS.move) (by first | exact trivial | exact ⟨rfl, trivial⟩) rfl ?_
      refine Ch.pu (by exact gdT rfl rfl) (by exact ⟨rfl, rfl, trivial⟩) (OpS.int (v' := .bool false) rfl (by first | (simp [hs]; done) | (have hs2 := hs; simp; omega) | fail)) (by first | exact trivial | exact ⟨rfl, trivial⟩) rfl ?_
      refine Ch.pu gdN (by first | exact ⟨rfl, rfl, trivial⟩ | exact ⟨rfl, rfl, rfl, trivial⟩) (OpS.pickF) (by first | exact trivial | exact ⟨rfl, trivial⟩) rfl ?_
      refine Ch.pu gdN (by exact ⟨rfl, trivial⟩) (OpS.move) (by first | exact trivial | exact ⟨rfl, trivial⟩) rfl ?_
      refine Ch.pu (by exact gdT rfl rfl) (by exact ⟨rfl, trivial⟩) (OpS.move) (by first | exact trivial | exact ⟨rfl, trivial⟩) rfl ?_
      refine Ch.pu (by exact gdT rfl rfl) (by exact ⟨rfl, rfl, trivial⟩) (OpS.int (v' := .bool false) rfl (by first | (simp [hs]; done) | (have hs2 := hs; simp; omega) | fail)) (by first | exact trivial | exact ⟨rfl, trivial⟩) rfl ?_
      refine Ch.pu gdN (by first | exact ⟨rfl, rfl, trivial⟩ | exact ⟨rfl, rfl, rfl, trivial⟩) (OpS.pickF) (by first | exact trivial | exact ⟨rfl, trivial⟩) rfl ?_
      refine Ch.pu gdN (by exact ⟨rfl, trivial⟩) (OpS.move) (by first | exact trivial | exact ⟨rfl, trivial⟩) rfl ?_
      refine Ch.pu (by exact gdT rfl rfl) (by exact ⟨rfl, trivial⟩) (OpS.move) (by first | exact trivial | exact ⟨rfl, trivial⟩) rfl ?_
      refine Ch.pu (by exact gdT rfl rfl) (by exact ⟨rfl, rfl, trivial⟩) (OpS.int (v' := .bool false) rfl (by first | (simp [hs]; done) | (have hs2 := hs; simp; omega) | fail)) (by first | exact trivial | exact ⟨rfl, trivial⟩) rfl ?_
      refine Ch.pu gdN (by first | exact ⟨rfl, rfl, trivial⟩ | exact ⟨rfl, rfl, rfl, trivial⟩) (OpS.pickF) (by first | exact trivial | exact ⟨rfl, trivial⟩) rfl ?_
      refine Ch.pu gdN (by exact ⟨rfl, trivial⟩) (OpS.move) (by first | exact trivial | exact ⟨rfl, trivial⟩) rfl ?_
      refine Ch.pu (by exact gdT rfl rfl) (by exact ⟨rfl, trivial⟩) (OpS.move) (by first | exact trivial | exact ⟨rfl, trivial⟩) rfl ?_
      refine Ch.pu (by exact gdT rfl rfl) (by exact ⟨rfl, rfl, trivial⟩) (OpS.int (v' := .bool true) rfl (by first | (simp [hs]; done) | (have hs2 := hs; simp; omega) | fail)) (by first | exact trivial | exact ⟨rfl, trivial⟩) rfl ?_
      refine Ch.pu gdN (by first | exact ⟨rfl, rfl, trivial⟩ | exact ⟨rfl, rfl, rfl, trivial⟩) (OpS.pickF) (by first | exact trivial | exact ⟨rfl, trivial⟩) rfl ?_
      refine Ch.pu gdN (by exact ⟨rfl, trivial⟩) (OpS.move) (by first | exact trivial | exact ⟨rfl, trivial⟩) rfl ?_
      refine Ch.skU (gdF rfl rfl rfl) rfl ?_
      refine Ch.skU (gdF rfl rfl rfl) rfl ?_
      refine Ch.pu gdN (by first | exact ⟨rfl, rfl, trivial⟩ | exact ⟨rfl, rfl, rfl, trivial⟩) (OpS.pickT) (by first | exact trivial | exact ⟨rfl, trivial⟩) rfl ?_
      refine Ch.pu gdN (by exact ⟨rfl, trivial⟩) (OpS.move) (by first | exact trivial | exact ⟨rfl, trivial⟩) rfl ?_
      refine Ch.skU (gdF rfl rfl rfl) rfl ?_
      refine Ch.skU (gdF rfl rfl rfl) rfl ?_
      refine Ch.pu gdN (by first | exact ⟨rfl, rfl, trivial⟩ | exact ⟨rfl, rfl, rfl, trivial⟩) (OpS.pickT) (by first | exact trivial | exact ⟨rfl, trivial⟩) rfl ?_
      refine Ch.pu gdN (by exact ⟨rfl, trivial⟩) (OpS.assign) (by first | exact trivial | exact ⟨rfl, trivial⟩) rfl ?_
      refine Ch.nil ?_
      refine ⟨_, (Ent.of [] ?_ ?_ ?_ ?_).se, (), rfl⟩
      · exact (fun i hi => by rw [hnA] at hi; simp only [List.length_cons, List.length_nil] at hi ⊢; first | exact absurd hi (Nat.not_lt_zero _) | (revert i; decide))
      · (repeat (first | exact trivial | (refine And.intro ⟨(by first | trivial | (simp; first | done | fail)), _, rfl, (by first | exact .rfl _ | exact .nil | exact .of_eq (by simp [show mayN n = true by rw [hs]; decide +kernel]; first | done | fail) | exact AV.wk.sh (by simp [show mayN n = true by rw [hs]; decide +kernel]; first | done | fail) | exact .untip _ _ _)⟩ ?_)))
      · (repeat (first | exact trivial | (refine And.intro ⟨rfl, (by first | trivial | (simp; first | done | fail)), (by first | rfl | (simp [show mayN n = true by rw [hs]; decide +kernel]; first | done | fail))⟩ ?_)))
      · simp [rn]
    · have hs := hq
      refine WP.rg hG ?_
      refine Ch.pu gdN (by exact ⟨rfl, trivial⟩) (OpS.move) (by first | exact trivial | exact ⟨rfl, trivial⟩) rfl ?_
      refine Ch.pu gdN (by exact ⟨rfl, rfl, trivial⟩) (OpS.int (v' := .bool false) rfl (by first | (simp [hs]; done) | (have hs2 := hs; simp; omega) | fail)) (by first | exact trivial | exact ⟨rfl, trivial⟩) rfl ?_
      refine Ch.pu gdN (by exact ⟨rfl, trivial⟩) (OpS.move) (by first | exact trivial | exact ⟨rfl, trivial⟩) rfl ?_
      refine Ch.pu (by exact gdT rfl rfl) (by exact ⟨rfl, trivial⟩) (OpS.move) (by first | exact trivial | exact ⟨rfl, trivial⟩) rfl ?_
      refine Ch.pu (by exact gdT rfl rfl) (by exact ⟨rfl, rfl, trivial⟩) (OpS.int (v' := .bool false) rfl (by first | (simp [hs]; done) | (have hs2 := hs; simp; omega) | fail)) (by first | exact trivial | exact ⟨rfl, trivial⟩) rfl ?_
      refine Ch.pu gdN (by first | exact ⟨rfl, rfl, trivial⟩ | exact ⟨rfl, rfl, rfl, trivial⟩) (OpS.pickF) (by first | exact trivial | exact ⟨rfl, trivial⟩) rfl ?_
      refine Ch.pu gdN (by exact ⟨rfl, trivial⟩) (OpS.move) (by first | exact trivial | exact ⟨rfl, trivial⟩) rfl ?_
      refine Ch.pu (by exact gdT rfl rfl) (by exact ⟨rfl, trivial⟩) (OpS.move) (by first | exact trivial | exact ⟨rfl, trivial⟩) rfl ?_
      refine Ch.pu (by exact gdT rfl rfl) (by exact ⟨rfl, rfl, trivial⟩) (OpS.int (v' := .bool false) rfl (by first | (simp [hs]; done) | (have hs2 := hs; simp; omega) | fail)) (by first | exact trivial | exact ⟨rfl, trivial⟩) rfl ?_
      refine Ch.pu gdN (by first | exact ⟨rfl, rfl, trivial⟩ | exact ⟨rfl, rfl, rfl, trivial⟩) (OpS.pickF) (by first | exact trivial | exact ⟨rfl, trivial⟩) rfl ?_
      refine Ch.pu gdN (by exact ⟨rfl, trivial⟩) (OpS.move) (by first | exact trivial | exact ⟨rfl, trivial⟩) rfl ?_
      refine Ch.pu (by exact gdT rfl rfl) (by exact ⟨rfl, trivial⟩) (OpS.move) (by first | exact trivial | exact ⟨rfl, trivial⟩) rfl ?_
      refine Ch.pu (by exact gdT rfl rfl) (by exact ⟨rfl, rfl, trivial⟩) (OpS.int (v' := .bool false) rfl (by first | (simp [hs]; done) | (have hs2 := hs; simp; omega) | fail)) (by first | exact trivial | exact ⟨rfl, trivial⟩) rfl ?_
      refine Ch.pu gdN (by first | exact ⟨rfl, rfl, trivial⟩ | exact ⟨rfl, rfl, rfl, trivial⟩) (OpS.pickF) (by first | exact trivial | exact ⟨rfl, trivial⟩) rfl ?_
      refine Ch.pu gdN (by exact ⟨rfl, trivial⟩) (OpS.move) (by first | exact trivial | exact ⟨rfl, trivial⟩) rfl ?_
      refine Ch.pu (by exact gdT rfl rfl) (by exact ⟨rfl, trivial⟩) (OpS.move) (by first | exact trivial | exact ⟨rfl, trivial⟩) rfl ?_
      refine Ch.pu (by exact gdT rfl rfl) (by exact ⟨rfl, rfl, trivial⟩) (OpS.int (v' := .bool false) rfl (by first | (simp [hs]; done) | (have hs2 := hs; simp; omega) | fail)) (by first | exact trivial | exact ⟨rfl, trivial⟩) rfl ?_
      refine Ch.pu gdN (by first | exact ⟨rfl, rfl, trivial⟩ | exact ⟨rfl, rfl, rfl, trivial⟩) (OpS.pickF) (by first | exact trivial | exact ⟨rfl, trivial⟩) rfl ?_
      refine Ch.pu gdN (by exact ⟨rfl, trivial⟩) (OpS.move) (by first | exact trivial | exact ⟨rfl, trivial⟩) rfl ?_
      refine Ch.pu (by exact gdT rfl rfl) (by exact ⟨rfl, trivial⟩) (OpS.move) (by first | exact trivial | exact ⟨rfl, trivial⟩) rfl ?_
      refine Ch.pu (by exact gdT rfl rfl) (by exact ⟨rfl, rfl, trivial⟩) (OpS.int (v' := .bool false) rfl (by first | (simp [hs]; done) | (have hs2 := hs; simp; omega) | fail)) (by first | exact trivial | exact ⟨rfl, trivial⟩) rfl ?_
      refine Ch.pu gdN (by first | exact ⟨rfl, rfl, trivial⟩ | exact ⟨rfl, rfl, rfl, trivial⟩) (OpS.pickF) (by first | exact trivial | exact ⟨rfl, trivial⟩) rfl ?_
      refine Ch.pu gdN (by exact ⟨rfl, trivial⟩) (OpS.move) (by first | exact trivial | exact ⟨rfl, trivial⟩) rfl ?_
      refine Ch.pu (by exact gdT rfl rfl) (by exact ⟨rfl, trivial⟩) (OpS.move) (by first | exact trivial | exact ⟨rfl, trivial⟩) rfl ?_
      refine Ch.pu (by exact gdT rfl rfl) (by exact ⟨rfl, rfl, trivial⟩) (OpS.int (v' := .bool true) rfl (by first | (simp [hs]; done) | (have hs2 := hs; simp; omega) | fail)) (by first | exact trivial | exact ⟨rfl, trivial⟩) rfl ?_
      refine Ch.pu gdN (by first | exact ⟨rfl, rfl, trivial⟩ | exact ⟨rfl, rfl, rfl, trivial⟩) (OpS.pickF) (by first | exact trivial | exact ⟨rfl, trivial⟩) rfl ?_
      refine Ch.pu gdN (by exact ⟨rfl, trivial⟩) (OpS.move) (by first | exact trivial | exact ⟨rfl, trivial⟩) rfl ?_
      refine Ch.skU (gdF rfl rfl rfl) rfl ?_
      refine Ch.skU (gdF rfl rfl rfl) rfl ?_
      refine Ch.pu gdN (by first | exact ⟨rfl, rfl, trivial⟩ | exact ⟨rfl, rfl, rfl, trivial⟩) (OpS.pickT) (by first | exact trivial | exact ⟨rfl, trivial⟩) rfl ?_
      refine Ch.pu gdN (by exact ⟨rfl, trivial⟩) (OpS.assign) (by first | exact trivial | exact ⟨rfl, trivial⟩) rfl ?_
      refine Ch.nil ?_
      refine ⟨_, (Ent.of [] ?_ ?_ ?_ ?_).se, (), rfl⟩
      · exact (fun i hi => by rw [hnA] at hi; simp only [List.length_cons, List.length_nil] at hi ⊢; first | exact absurd hi (Nat.not_lt_zero _) | (revert i; decide))
      · (repeat (first | exact trivial | (refine And.intro ⟨(by first | trivial | (simp; first | done | fail)), _, rfl, (by first | exact .rfl _ | exact .nil | exact .of_eq (by simp [show mayN n = true by rw [hs]; decide +kernel]; first | done | fail) | exact AV.wk.sh (by simp [show mayN n = true by rw [hs]; decide +kernel]; first | done | fail) | exact .untip _ _ _)⟩ ?_)))
      · (repeat (first | exact trivial | (refine And.intro ⟨rfl, (by first | trivial | (simp; first | done | fail)), (by first | rfl | (simp [show mayN n = true by rw [hs]; decide +kernel]; first | done | fail))⟩ ?_)))
      · simp [rn]
    · have hs := hq
      refine WP.rg hG ?_
      refine Ch.pu gdN (by exact ⟨rfl, trivial⟩) (OpS.move) (by first | exact trivial | exact ⟨rfl, trivial⟩) rfl ?_
      refine Ch.pu gdN (by exact ⟨rfl, rfl, trivial⟩) (OpS.int (v' := .bool false) rfl (by first | (simp [hs]; done) | (have hs2 := hs; simp; omega) | fail)) (by first | exact trivial | exact ⟨rfl, trivial⟩) rfl ?_
      refine Ch.pu gdN (by exact ⟨rfl, trivial⟩) (OpS.move) (by first | exact trivial | exact ⟨rfl, trivial⟩) rfl ?_
      refine Ch.pu (by exact gdT rfl rfl) (by exact ⟨rfl, trivial⟩) (OpS.move) (by first | exact trivial | exact ⟨rfl, trivial⟩) rfl ?_
      refine Ch.pu (by exact gdT rfl rfl) (by exact ⟨rfl, rfl, trivial⟩) (OpS.int (v' := .bool false) rfl (by first | (simp [hs]; done) | (have hs2 := hs; simp; omega) | fail)) (by first | exact trivial | exact ⟨rfl, trivial⟩) rfl ?_
      refine Ch.pu gdN (by first | exact ⟨rfl, rfl, trivial⟩ | exact ⟨rfl, rfl, rfl, trivial⟩) (OpS.pickF) (by first | exact trivial | exact ⟨rfl, trivial⟩) rfl ?_
      refine Ch.pu gdN (by exact ⟨rfl, trivial⟩) (OpS.move) (by first | exact trivial | exact ⟨rfl, trivial⟩) rfl ?_
      refine Ch.pu (by exact gdT rfl rfl) (by exact ⟨rfl, trivial⟩) (OpS.move) (by first | exact trivial | exact ⟨rfl, trivial⟩) rfl ?_
      refine Ch.pu (by exact gdT rfl rfl) (by exact ⟨rfl, rfl, trivial⟩) (OpS.int (v' := .bool false) rfl (by first | (simp [hs]; done) | (have hs2 := hs; simp; omega) | fail)) (by first | exact trivial | exact ⟨rfl, trivial⟩) rfl ?_
      refine Ch.pu gdN (by first | exact ⟨rfl, rfl, trivial⟩ | exact ⟨rfl, rfl, rfl, trivial⟩) (OpS.pickF) (by first | exact trivial | exact ⟨rfl, trivial⟩) rfl ?_
      refine Ch.pu gdN (by exact ⟨rfl, trivial⟩) (OpS.move) (by first | exact trivial | exact ⟨rfl, trivial⟩) rfl ?_
      refine Ch.pu (by exact gdT rfl rfl) (by exact ⟨rfl, trivial⟩) (OpS.move) (by first | exact trivial | exact ⟨rfl, trivial⟩) rfl ?_
      refine Ch.pu (by exact gdT rfl rfl) (by exact ⟨rfl, rfl, trivial⟩) (OpS.int (v' := .bool false) rfl (by first | (simp [hs]; done) | (have hs2 := hs; simp; omega) | fail)) (by first | exact trivial | exact ⟨rfl, trivial⟩) rfl ?_
      refine Ch.pu gdN (by first | exact ⟨rfl, rfl, trivial⟩ | exact ⟨rfl, rfl, rfl, trivial⟩) (OpS.pickF) (by first | exact trivial | exact ⟨rfl, trivial⟩) rfl ?_
      refine Ch.pu gdN (by exact ⟨rfl, trivial⟩) (OpS.move) (by first | exact trivial | exact ⟨rfl, trivial⟩) rfl ?_
      refine Ch.pu (by exact gdT rfl rfl) (by exact ⟨rfl, trivial⟩) (OpS.move) (by first | exact trivial | exact ⟨rfl, trivial⟩) rfl ?_
      refine Ch.pu (by exact gdT rfl rfl) (by exact ⟨rfl, rfl, trivial⟩) (OpS.int (v' := .bool false) rfl (by first | (simp [hs]; done) | (have hs2 := hs; simp; omega) | fail)) (by first | exact trivial | exact ⟨rfl, trivial⟩) rfl ?_
      refine Ch.pu gdN (by first | exact ⟨rfl, rfl, trivial⟩ | exact ⟨rfl, rfl, rfl, trivial⟩) (OpS.pickF) (by first | exact trivial | exact ⟨rfl, trivial⟩) rfl ?_
      refine Ch.pu gdN (by exact ⟨rfl, trivial⟩) (OpS.move) (by first | exact trivial | exact ⟨rfl, trivial⟩) rfl ?_
      refine Ch.pu (by exact gdT rfl rfl) (by exact ⟨rfl, trivial⟩) (OpS.move) (by first | exact trivial | exact ⟨rfl, trivial⟩) rfl ?_
      refine Ch.pu (by exact gdT rfl rfl) (by exact ⟨rfl, rfl, trivial⟩) (OpS.int (v' := .bool false) rfl (by first | (simp [hs]; done) | (have hs2 := hs; simp; omega) | fail)) (by first | exact trivial | exact ⟨rfl, trivial⟩) rfl ?_
      refine Ch.pu gdN (by first | exact ⟨rfl, rfl, trivial⟩ | exact ⟨rfl, rfl, rfl, trivial⟩) (OpS.pickF) (by first | exact trivial | exact ⟨rfl, trivial⟩) rfl ?_
      refine Ch.pu gdN (by exact ⟨rfl, trivial⟩) (OpS.move) (by first | exact trivial | exact ⟨rfl, trivial⟩) rfl ?_
      refine Ch.pu (by exact gdT rfl rfl) (by exact ⟨rfl, trivial⟩) (OpS.move) (by first | exact trivial | exact ⟨rfl, trivial⟩) rfl ?_
      refine Ch.pu (by exact gdT rfl rfl) (by exact ⟨rfl, rfl, trivial⟩) (OpS.int (v' := .bool false) rfl (by first | (simp [hs]; done) | (have hs2 := hs; simp; omega) | fail)) (by first | exact trivial | exact ⟨rfl, trivial⟩) rfl ?_
      refine Ch.pu gdN (by first | exact ⟨rfl, rfl, trivial⟩ | exact ⟨rfl, rfl, rfl, trivial⟩) (OpS.pickF) (by first | exact trivial | exact ⟨rfl, trivial⟩) rfl ?_
      refine Ch.pu gdN (by exact ⟨rfl, trivial⟩) (OpS.move) (by first | exact trivial | exact ⟨rfl, trivial⟩) rfl ?_
      refine Ch.pu (by exact gdT rfl rfl) (by exact ⟨rfl, trivial⟩) (OpS.move) (by first | exact trivial | exact ⟨rfl, trivial⟩) rfl ?_
      refine Ch.pu (by exact gdT rfl rfl) (by exact ⟨rfl, rfl, trivial⟩) (OpS.int (v' := .bool true) rfl (by first | (simp [hs]; done) | (have hs2 := hs; simp; omega) | fail)) (by first | exact trivial | exact ⟨rfl, trivial⟩) rfl ?_
      refine Ch.pu gdN (by first | exact ⟨rfl, rfl, trivial⟩ | exact ⟨rfl, rfl, rfl, trivial⟩) (OpS.pickF) (by first | exact trivial | exact ⟨rfl, trivial⟩) rfl ?_
      refine Ch.pu gdN (by exact ⟨rfl, trivial⟩) (OpS.assign) (by first | exact trivial | exact ⟨rfl, trivial⟩) rfl ?_
      refine Ch.nil ?_
      refine ⟨_, (Ent.of [] ?_ ?_ ?_ ?_).se, (), rfl⟩
      · exact (fun i hi => by rw [hnA] at hi; simp only [List.length_cons, List.length_nil] at hi ⊢; first | exact absurd hi (Nat.not_lt_zero _) | (revert i; decide))
      · (repeat (first | exact trivial | (refine And.intro ⟨(by first | trivial | (simp; first | done | fail)), _, rfl, (by first | exact .rfl _ | exact .nil | exact .of_eq (by simp [show mayN n = true by rw [hs]; decide +kernel]; first | done | fail) | exact AV.wk.sh (by simp [show mayN n = true by rw [hs]; decide +kernel]; first | done | fail) | exact .untip _ _ _)⟩ ?_)))
      · (repeat (first | exact trivial | (refine And.intro ⟨rfl, (by first | trivial | (simp; first | done | fail)), (by first | rfl | (simp [show mayN n = true by rw [hs]; decide +kernel]; first | done | fail))⟩ ?_)))
      · simp [rn]
    · have hs := hq
      refine WP.rg hG ?_
      refine Ch.pu gdN (by exact ⟨rfl, trivial⟩) (OpS.move) (by first | exact trivial | exact ⟨rfl, trivial⟩) rfl ?_
      refine Ch.pu gdN (by exact ⟨rfl, rfl, trivial⟩) (OpS.int (v' := .bool false) rfl (by first | (simp [hs]; done) | (have hs2 := hs; simp; omega) | fail)) (by first | exact trivial | exact ⟨rfl, trivial⟩) rfl ?_
      refine Ch.pu gdN (by exact ⟨rfl, trivial⟩) (OpS.move) (by first | exact trivial | exact ⟨rfl, trivial⟩) rfl ?_
      refine Ch.pu (by exact gdT rfl rfl) (by exact ⟨rfl, trivial⟩) (OpS.move) (by first | exact trivial | exact ⟨rfl, trivial⟩) rfl ?_
      refine Ch.pu (by exact gdT rfl rfl) (by exact ⟨rfl, rfl, trivial⟩) (OpS.int (v' := .bool false) rfl (by first | (simp [hs]; done) | (have hs2 := hs; simp; omega) | fail)) (by first | exact trivial | exact ⟨rfl, trivial⟩) rfl ?_
      refine Ch.pu gdN (by first | exact ⟨rfl, rfl, trivial⟩ | exact ⟨rfl, rfl, rfl, trivial⟩) (OpS.pickF) (by first | exact trivial | exact ⟨rfl, trivial⟩) rfl ?_
      refine Ch.pu gdN (by exact ⟨rfl, trivial⟩) (OpS.move) (by first | exact trivial | exact ⟨rfl, trivial⟩) rfl ?_
      refine Ch.pu (by exact gdT rfl rfl) (by exact ⟨rfl, trivial⟩) (OpS.move) (by first | exact trivial | exact ⟨rfl, trivial⟩) rfl ?_
      refine Ch.pu (by exact gdT rfl rfl) (by exact ⟨rfl, rfl, trivial⟩) (OpS.int (v' := .bool false) rfl (by first | (simp [hs]; done) | (have hs2 := hs; simp; omega) | fail)) (by first | exact trivial | exact ⟨rfl, trivial⟩) rfl ?_
      refine Ch.pu gdN (by first | exact ⟨rfl, rfl, trivial⟩ | exact ⟨rfl, rfl, rfl, trivial⟩) (OpS.pickF) (by first | exact trivial | exact ⟨rfl, trivial⟩) rfl ?_
      refine Ch.pu gdN (by exact ⟨rfl, trivial⟩) (OpS.move) (by first | exact trivial | exact ⟨rfl, trivial⟩) rfl ?_
      refine Ch.pu (by exact gdT rfl rfl) (by exact ⟨rfl, trivial⟩) (OpS.move) (by first | exact trivial | exact ⟨rfl, trivial⟩) rfl ?_
      refine Ch.pu (by exact gdT rfl rfl) (by exact ⟨rfl, rfl, trivial⟩) (OpS.int (v' := .bool false) rfl (by first | (simp [hs]; done) | (have hs2 := hs; simp; omega) | fail)) (by first | exact trivial | exact ⟨rfl, trivial⟩) rfl ?_
      refine Ch.pu gdN (by first | exact ⟨rfl, rfl, trivial⟩ | exact ⟨rfl, rfl, rfl, trivial⟩) (OpS.pickF) (by first | exact trivial | exact ⟨rfl, trivial⟩) rfl ?_
      refine Ch.pu gdN (by exact ⟨rfl, trivial⟩) (OpS.move) (by first | exact trivial | exact ⟨rfl, trivial⟩) rfl ?_
      refine Ch.pu (by exact gdT rfl rfl) (by exact ⟨rfl, trivial⟩) (OpS.move) (by first | exact trivial | exact ⟨rfl, trivial⟩) rfl ?_
      refine Ch.pu (by exact gdT rfl rfl) (by exact ⟨rfl, rfl, trivial⟩) (OpS.int (v' := .bool false) rfl (by first | (simp [hs]; done) | (have hs2 := hs; simp; omega) | fail)) (by first | exact trivial | exact ⟨rfl, trivial⟩) rfl ?_
      refine Ch.pu gdN (by first | exact ⟨rfl, rfl, trivial⟩ | exact ⟨rfl, rfl, rfl, trivial⟩) (OpS.pickF) (by first | exact trivial | exact ⟨rfl, trivial⟩) rfl ?_
      refine Ch.pu gdN (by exact ⟨rfl, trivial⟩) (OpS.move) (by first | exact trivial | exact ⟨rfl, trivial⟩) rfl ?_
      refine Ch.pu (by exact gdT rfl rfl) (by exact ⟨rfl, trivial⟩) (OpS.move) (by first | exact trivial | exact ⟨rfl, trivial⟩) rfl ?_
      refine Ch.pu (by exact gdT rfl rfl) (by exact ⟨rfl, rfl, trivial⟩) (OpS.int (v' := .bool false) rfl (by first | (simp [hs]; done) | (have hs2 := hs; simp; omega) | fail)) (by first | exact trivial | exact ⟨rfl, trivial⟩) rfl ?_
      refine Ch.pu gdN (by first | exact ⟨rfl, rfl, trivial⟩ | exact ⟨rfl, rfl, rfl, trivial⟩) (OpS.pickF) (by first | exact trivial | exact ⟨rfl, trivial⟩) rfl ?_
      refine Ch.pu gdN (by exact ⟨rfl, trivial⟩) (OpS.move) (by first | exact trivial | exact ⟨rfl, trivial⟩) rfl ?_
      refine Ch.pu (by exact gdT rfl rfl) (by exact ⟨rfl, trivial⟩) (OpS.move) (by first | exact trivial | exact ⟨rfl, trivial⟩) rfl ?_
      refine Ch.pu (by exact gdT rfl rfl) (by exact ⟨rfl, rfl, trivial⟩) (OpS.int (v' := .bool false) rfl (by first | (simp [hs]; done) | (have hs2 := hs; simp; omega) | fail)) (by first | exact trivial | exact ⟨rfl, trivial⟩) rfl ?_
      refine Ch.pu gdN (by first | exact ⟨rfl, rfl, trivial⟩ | exact ⟨rfl, rfl, rfl, trivial⟩) (OpS.pickF) (by first | exact trivial | exact ⟨rfl, trivial⟩) rfl ?_
      refine Ch.pu gdN (by exact ⟨rfl, trivial⟩) (OpS.move) (by first | exact trivial | exact ⟨rfl, trivial⟩) rfl ?_
      refine Ch.pu (by exact gdT rfl rfl) (by exact ⟨rfl, trivial⟩) (OpS.move) (by first | exact trivial | exact ⟨rfl, trivial⟩) rfl ?_
      refine Ch.pu (by exact gdT rfl rfl) (by exact ⟨rfl, rfl, trivial⟩) (OpS.int (v' := .bool false) rfl (by first | (simp [hs]; done) | (have hs2 := hs; simp; omega) | fail)) (by first | exact trivial | exact ⟨rfl, trivial⟩) rfl ?_
      refine Ch.pu gdN (by first | exact ⟨rfl, rfl, trivial⟩ | exact ⟨rfl, rfl, rfl, trivial⟩) (OpS.pickF) (by first | exact trivial | exact ⟨rfl, trivial⟩) rfl ?_
      refine Ch.pu gdN (by exact ⟨rfl, trivial⟩) (OpS.assign) (by first | exact trivial | exact ⟨rfl, trivial⟩) rfl ?_
      refine Ch.nil ?_
      refine ⟨_, (Ent.of [] ?_ ?_ ?_ ?_).se, (), rfl⟩
      · exact (fun i hi => by rw [hnA] at hi; simp only [List.length_cons, List.length_nil] at hi ⊢; first | exact absurd hi (Nat.not_lt_zero _) | (revert i; decide))
      · (repeat (first | exact trivial | (refine And.intro ⟨(by first | trivial | (simp; first | done | fail)), _, rfl, (by first | exact .rfl _ | exact .nil | exact .of_eq (by simp [mayN_not hs]; first | done | fail) | exact AV.wk.sh (by simp [mayN_not hs]; first | done | fail) | exact .untip _ _ _)⟩ ?_)))
      · (repeat (first | exact trivial | (refine And.intro ⟨rfl, (by first | trivial | (simp; first | done | fail)), (by first | rfl | (simp [mayN_not hs]; first | done | fail))⟩ ?_)))
      · simp [rn]
  · rintro σ ⟨_, rfl⟩
    refine WP.rs hG ?_
    refine Ch.pu gdN (by exact ⟨rfl, trivial⟩) (OpS.move) (by first | exact trivial | exact ⟨rfl, trivial⟩) rfl ?_
    refine Ch.callP (hroot) gdN (by repeat (first | exact EvL.nil | (apply EvL.cons; exact rfl))) (by exact (And.intro (by first | exact .rfl _ | exact .untip _ _ _ | exact .nil | exact .func _ | exact AV.wk.sh (renL_s _ _) | exact AV.wk.sh (by simp; first | done | fail)) trivial)) (by rfl) rfl ?_
    refine Ch.pu gdN (by exact ⟨rfl, trivial⟩) (OpS.assign) (by first | exact trivial | exact ⟨rfl, trivial⟩) rfl ?_
    refine Ch.nil ?_
    refine WP.rs hG ?_
    refine Ch.pu gdN (by exact ⟨rfl, trivial⟩) (OpS.move) (by first | exact trivial | exact ⟨rfl, trivial⟩) rfl ?_
    refine Ch.pu gdN (by exact ⟨rfl, trivial⟩) (OpS.move) (by first | exact trivial | exact ⟨rfl, trivial⟩) rfl ?_
    refine Ch.callS (hpath) gdN (by repeat (first | exact EvL.nil | (apply EvL.cons; exact rfl))) (by exact (And.intro (by first | exact .rfl _ | exact .untip _ _ _ | exact .nil | exact .func _ | exact AV.wk.sh (renL_s _ _) | exact AV.wk.sh (by simp; first | done | fail)) (And.intro (by first | exact .rfl _ | exact .untip _ _ _ | exact .nil | exact .func _ | exact AV.wk.sh (renL_s _ _) | exact AV.wk.sh (by simp; first | done | fail)) trivial))) (by first | rfl | simp) rfl ?_
    refine Ch.pu gdN (by exact ⟨rfl, trivial⟩) (OpS.assign) (by first | exact trivial | exact ⟨rfl, trivial⟩) rfl ?_
    refine Ch.nil ?_
    refine WP.rs hG ?_
    refine Ch.pu gdN (by exact ⟨rfl, trivial⟩) (OpS.move) (by first | exact trivial | exact ⟨rfl, trivial⟩) rfl ?_
    refine Ch.callS (hinp) gdN (by repeat (first | exact EvL.nil | (apply EvL.cons; exact rfl))) (by exact (And.intro (by first | exact .rfl _ | exact .untip _ _ _ | exact .nil | exact .func _ | exact AV.wk.sh (renL_s _ _) | exact AV.wk.sh (by simp; first | done | fail)) trivial)) (by first | rfl | simp) rfl ?_
    refine Ch.pu gdN (by exact ⟨rfl, trivial⟩) (OpS.assign) (by first | exact trivial | exact ⟨rfl, trivial⟩) rfl ?_
    refine Ch.nil ?_
    refine WP.seq ?_
    refine WP.rs hG ?_
    refine Ch.pu gdN (by exact ⟨rfl, trivial⟩) (OpS.move) (by first | exact trivial | exact ⟨rfl, trivial⟩) rfl ?_
    refine Ch.pu gdN (by exact ⟨rfl, trivial⟩) (OpS.not) (by first | exact trivial | exact ⟨rfl, trivial⟩) rfl ?_
    refine Ch.pu gdN (by exact ⟨rfl, trivial⟩) (OpS.move) (by first | exact trivial | exact ⟨rfl, trivial⟩) rfl ?_
    refine Ch.pu (by exact gdT rfl rfl) (by exact ⟨rfl, trivial⟩) (OpS.move) (by first | exact trivial | exact ⟨rfl, trivial⟩) rfl ?_
    refine Ch.pu (by exact gdT rfl rfl) (by exact ⟨rfl, trivial⟩) (OpS.move) (by first | exact trivial | exact ⟨rfl, trivial⟩) rfl ?_
    refine Ch.callP (hclimb) (by exact gdT rfl rfl) (by repeat (first | exact EvL.nil | (apply EvL.cons; exact rfl))) (by exact (And.intro (by first | exact .rfl _ | exact .untip _ _ _ | exact .nil | exact .func _ | exact AV.wk.sh (renL_s _ _) | exact AV.wk.sh (by simp; first | done | fail)) (And.intro (by first | exact .rfl _ | exact .untip _ _ _ | exact .nil | exact .func _ | exact AV.wk.sh (renL_s _ _) | exact AV.wk.sh (by simp; first | done | fail)) (And.intro (by first | exact .rfl _ | exact .untip _ _ _ | exact .nil | exact .func _ | exact AV.wk.sh (renL_s _ _) | exact AV.wk.sh (by simp; first | done | fail)) trivial)))) (by rfl) rfl ?_
    refine Ch.pu (by exact gdT rfl rfl) (by exact ⟨rfl, trivial⟩) (OpS.move) (by first | exact trivial | exact ⟨rfl, trivial⟩) rfl ?_
    refine Ch.pu (by exact gdT rfl rfl) (by exact ⟨rfl, rfl, trivial⟩) (OpS.strNeB (c := false) (by simp)) (by first | exact trivial | exact ⟨rfl, trivial⟩) rfl ?_
    refine Ch.pu gdN (by first | exact ⟨rfl, rfl, trivial⟩ | exact ⟨rfl, rfl, rfl, trivial⟩) (OpS.pickF) (by first | exact trivial | exact ⟨rfl, trivial⟩) rfl ?_
    refine Ch.pu gdN (by exact ⟨rfl, trivial⟩) (OpS.move) (by first | exact trivial | exact ⟨rfl, trivial⟩) rfl ?_
    refine Ch.pu (by exact gdT rfl rfl) (by exact ⟨rfl, trivial⟩) (OpS.move) (by first | exact trivial | exact ⟨rfl, trivial⟩) rfl ?_
    refine Ch.pu (by exact gdT rfl rfl) (by exact ⟨rfl, trivial⟩) (OpS.move) (by first | exact trivial | exact ⟨rfl, trivial⟩) rfl ?_
    refine Ch.callS (hclimbed) (by exact gdT rfl rfl) (by repeat (first | exact EvL.nil | (apply EvL.cons; exact rfl))) (by exact (And.intro (by first | exact .rfl _ | exact .untip _ _ _ | exact .nil | exact .func _ | exact AV.wk.sh (renL_s _ _) | exact AV.wk.sh (by simp; first | done | fail)) (And.intro (by first | exact .rfl _ | exact .untip _ _ _ | exact .nil | exact .func _ | exact AV.wk.sh (renL_s _ _) | exact AV.wk.sh (by simp; first | done | fail)) (And.intro (by first | exact .rfl _ | exact .untip _ _ _ | exact .nil | exact .func _ | exact AV.wk.sh (renL_s _ _) | exact AV.wk.sh (by simp; first | done | fail)) trivial)))) (by first | rfl | simp) rfl ?_
    refine Ch.pu (by exact gdT rfl rfl) (by exact ⟨rfl, trivial⟩) (OpS.len rfl) (by first | exact trivial | exact ⟨rfl, trivial⟩) rfl ?_
    refine Ch.pu (by exact gdT rfl rfl) (by exact ⟨rfl, rfl, trivial⟩) (OpS.int (v' := .bool false) rfl (by simp)) (by first | exact trivial | exact ⟨rfl, trivial⟩) rfl ?_
    refine Ch.pu gdN (by first | exact ⟨rfl, rfl, trivial⟩ | exact ⟨rfl, rfl, rfl, trivial⟩) (OpS.pickF) (by first | exact trivial | exact ⟨rfl, trivial⟩) rfl ?_
    refine Ch.nil ?_
    refine WP.cond_false rfl ?_
    refine WP.skip ?_
    refine WP.seq ?_
    refine WP.rs hG ?_
    refine Ch.pu gdN (by exact ⟨rfl, trivial⟩) (OpS.move) (by first | exact trivial | exact ⟨rfl, trivial⟩) rfl ?_
    refine Ch.pu gdN (by exact ⟨rfl, trivial⟩) (OpS.not) (by first | exact trivial | exact ⟨rfl, trivial⟩) rfl ?_
    refine Ch.nil ?_
    refine WP.cond rfl ?_ ?_
    · intro ht
      have hmay : mayN n = false := by simpa using ht
      have e1 := many_root hmay
      have e2 := many_path i hmay
      have e3 := many_inputs hmay
      rw [← hLe] at e1 e2 e3
      refine WP.rs hG ?_
      refine Ch.pu gdN (by exact ⟨rfl, trivial⟩) (OpS.move) (by first | exact trivial | exact ⟨rfl, trivial⟩) rfl ?_
      refine Ch.pu gdN (by exact ⟨rfl, rfl, trivial⟩) (OpS.strEqB (c := true) (by rw [e1]; simp)) (by first | exact trivial | exact ⟨rfl, trivial⟩) rfl ?_
      refine Ch.pu gdN (by exact ⟨rfl, trivial⟩) (OpS.move) (by first | exact trivial | exact ⟨rfl, trivial⟩) rfl ?_
      refine Ch.pu (by exact gdT rfl rfl) (by exact ⟨rfl, trivial⟩) (OpS.move) (by first | exact trivial | exact ⟨rfl, trivial⟩) rfl ?_
      refine Ch.pu (by exact gdT rfl rfl) (by exact ⟨rfl, trivial⟩) (OpS.len rfl) (by first | exact trivial | exact ⟨rfl, trivial⟩) rfl ?_
      refine Ch.pu (by exact gdT rfl rfl) (by exact ⟨rfl, rfl, trivial⟩) (OpS.int (v' := .bool true) rfl (by rw [e2]; simp)) (by first | exact trivial | exact ⟨rfl, trivial⟩) rfl ?_
      refine Ch.pu gdN (by first | exact ⟨rfl, rfl, trivial⟩ | exact ⟨rfl, rfl, rfl, trivial⟩) (OpS.pickT) (by first | exact trivial | exact ⟨rfl, trivial⟩) rfl ?_
      refine Ch.pu gdN (by exact ⟨rfl, trivial⟩) (OpS.move) (by first | exact trivial | exact ⟨rfl, trivial⟩) rfl ?_
      refine Ch.pu (by exact gdT rfl rfl) (by exact ⟨rfl, trivial⟩) (OpS.move) (by first | exact trivial | exact ⟨rfl, trivial⟩) rfl ?_
      refine Ch.pu (by exact gdT rfl rfl) (by exact ⟨rfl, trivial⟩) (OpS.len rfl) (by first | exact trivial | exact ⟨rfl, trivial⟩) rfl ?_
      refine Ch.pu (by exact gdT rfl rfl) (by exact ⟨rfl, rfl, trivial⟩) (OpS.int (v' := .bool true) rfl (by rw [e3]; simp)) (by first | exact trivial | exact ⟨rfl, trivial⟩) rfl ?_
      refine Ch.pu gdN (by first | exact ⟨rfl, rfl, trivial⟩ | exact ⟨rfl, rfl, rfl, trivial⟩) (OpS.pickT) (by first | exact trivial | exact ⟨rfl, trivial⟩) rfl ?_
      refine Ch.pu gdN (by exact ⟨rfl, trivial⟩) (OpS.assign) (by first | exact trivial | exact ⟨rfl, trivial⟩) rfl ?_
      refine Ch.nil ?_
      refine WP.ret (Ret.one rfl (by first | exact .rfl _ | exact .nil | exact .of_eq (by simp; first | done | fail) | exact AV.wk.sh (by simp; first | done | fail) | exact .untip _ _ _) (by first | trivial | simp [AV.bel]) hnA)
    · intro ht
      have hmay : mayN n = true := by simpa using ht
      have e3 := many_inputs2 hmay
      rw [← hLe] at e3
      have ei : ((((inputsT L).length : Nat) : Int) == (n : Int) - 1) = true := by simp; omega
      refine WP.skip ?_
      rcases four n i with hq | hq | hq | hq
      · have hs := hq
        have e1 : decide (rootT L = []) = true := by rw [hLe, hs, many_root1]; simp
        have e2 := many_path1 (n := n) (i := i) (by omega) hmay
        rw [← hLe] at e2
        refine WP.rs hG ?_
        refine Ch.pu gdN (by exact ⟨rfl, trivial⟩) (OpS.move) (by first | exact trivial | exact ⟨rfl, trivial⟩) rfl ?_
        refine Ch.pu gdN (by exact ⟨rfl, trivial⟩) (OpS.len rfl) (by first | exact trivial | exact ⟨rfl, trivial⟩) rfl ?_
        refine Ch.pu gdN (by exact ⟨rfl, trivial⟩) (OpS.move) (by first | exact trivial | exact ⟨rfl, trivial⟩) rfl ?_
        refine Ch.pu gdN (by exact ⟨rfl, rfl, trivial⟩) (OpS.int rfl (by first | exact wr64 (by omega) | exact rfl)) (by first | exact trivial | exact ⟨rfl, trivial⟩) rfl ?_
        refine Ch.pu gdN (by exact ⟨rfl, rfl, trivial⟩) (OpS.int (v' := .bool true) rfl (by rw [ei])) (by first | exact trivial | exact ⟨rfl, trivial⟩) rfl ?_
        refine Ch.pu gdN (by exact ⟨rfl, trivial⟩) (OpS.move) (by first | exact trivial | exact ⟨rfl, trivial⟩) rfl ?_
        refine Ch.pu (by exact gdT rfl rfl) (by exact ⟨rfl, trivial⟩) (OpS.move) (by first | exact trivial | exact ⟨rfl, trivial⟩) rfl ?_
        refine Ch.pu (by exact gdT rfl rfl) (by exact ⟨rfl, rfl, trivial⟩) (OpS.strEqB e1) (by first | exact trivial | exact ⟨rfl, trivial⟩) rfl ?_
        refine Ch.pu (by exact gdT rfl rfl) (by exact ⟨rfl, trivial⟩) (OpS.move) (by first | exact trivial | exact ⟨rfl, trivial⟩) rfl ?_
        refine Ch.pu (by exact gdT rfl rfl) (by exact ⟨rfl, rfl, trivial⟩) (OpS.int (v' := .bool true) rfl (by first | (simp [hs]; done) | (have hs2 := hs; simp; omega) | fail)) (by first | exact trivial | exact ⟨rfl, trivial⟩) rfl ?_
        refine Ch.pu (by exact gdT rfl rfl) (by exact ⟨rfl, rfl, trivial⟩) (OpS.boolEql rfl) (by first | exact trivial | exact ⟨rfl, trivial⟩) rfl ?_
        refine Ch.pu gdN (by first | exact ⟨rfl, rfl, trivial⟩ | exact ⟨rfl, rfl, rfl, trivial⟩) (OpS.pickT) (by first | exact trivial | exact ⟨rfl, trivial⟩) rfl ?_
        refine Ch.pu gdN (by exact ⟨rfl, trivial⟩) (OpS.move) (by first | exact trivial | exact ⟨rfl, trivial⟩) rfl ?_
        refine Ch.pu (by exact gdT rfl rfl) (by exact ⟨rfl, trivial⟩) (OpS.move) (by first | exact trivial | exact ⟨rfl, trivial⟩) rfl ?_
        refine Ch.pu (by exact gdT rfl rfl) (by exact ⟨rfl, trivial⟩) (OpS.len rfl) (by first | exact trivial | exact ⟨rfl, trivial⟩) rfl ?_
        refine Ch.pu (by exact gdT rfl rfl) (by exact ⟨rfl, rfl, trivial⟩) (OpS.int (op := .gtr) (v' := .bool false) rfl (by first | (rw [e2]; rfl) | fail)) (by first | exact trivial | exact ⟨rfl, trivial⟩) rfl ?_
        refine Ch.pu (by exact gdT rfl rfl) (by exact ⟨rfl, trivial⟩) (OpS.move) (by first | exact trivial | exact ⟨rfl, trivial⟩) rfl ?_
        refine Ch.pu (by exact gdT rfl rfl) (by exact ⟨rfl, rfl, trivial⟩) (OpS.int (op := .gtr) (v' := .bool false) rfl (by first | (simp; omega) | fail)) (by first | exact trivial | exact ⟨rfl, trivial⟩) rfl ?_
        refine Ch.pu (by exact gdT rfl rfl) (by exact ⟨rfl, trivial⟩) (OpS.move) (by first | exact trivial | exact ⟨rfl, trivial⟩) rfl ?_
        refine Ch.skU (gdF rfl rfl rfl) rfl ?_
        refine Ch.skU (gdF rfl rfl rfl) rfl ?_
        refine Ch.pu (by exact gdT rfl rfl) (by first | exact ⟨rfl, rfl, trivial⟩ | exact ⟨rfl, rfl, rfl, trivial⟩) (OpS.pickF) (by first | exact trivial | exact ⟨rfl, trivial⟩) rfl ?_
        refine Ch.pu (by exact gdT rfl rfl) (by exact ⟨rfl, trivial⟩) (OpS.move) (by first | exact trivial | exact ⟨rfl, trivial⟩) rfl ?_
        refine Ch.skU (gdF rfl rfl rfl) rfl ?_
        refine Ch.skU (gdF rfl rfl rfl) rfl ?_
        refine Ch.skU (gdF rfl rfl rfl) rfl ?_
        refine Ch.pu (by exact gdT rfl rfl) (by first | exact ⟨rfl, rfl, trivial⟩ | exact ⟨rfl, rfl, rfl, trivial⟩) (OpS.pickF) (by first | exact trivial | exact ⟨rfl, trivial⟩) rfl ?_
        refine Ch.pu (by exact gdT rfl rfl) (by exact ⟨rfl, rfl, trivial⟩) (OpS.boolEql rfl) (by first | exact trivial | exact ⟨rfl, trivial⟩) rfl ?_
        refine Ch.pu gdN (by first | exact ⟨rfl, rfl, trivial⟩ | exact ⟨rfl, rfl, rfl, trivial⟩) (OpS.pickT) (by first | exact trivial | exact ⟨rfl, trivial⟩) rfl ?_
        refine Ch.pu gdN (by exact ⟨rfl, trivial⟩) (OpS.assign) (by first | exact trivial | exact ⟨rfl, trivial⟩) rfl ?_
        refine Ch.nil ?_
        refine WP.ret (Ret.one rfl (by first | exact .rfl _ | exact .nil | exact .of_eq (by simp; first | done | fail) | exact AV.wk.sh (by simp; first | done | fail) | exact .untip _ _ _) (by first | trivial | simp [AV.bel]) hnA)
      · have hs := hq
        have e1 : decide (rootT L = []) = false := by rw [hLe]; simpa using ne_nil_of32 (many_root2 hmay hs.1)
        have e2 := many_path1 (n := n) (i := i) (by omega) hmay
        rw [← hLe] at e2
        refine WP.rs hG ?_
        refine Ch.pu gdN (by exact ⟨rfl, trivial⟩) (OpS.move) (by first | exact trivial | exact ⟨rfl, trivial⟩) rfl ?_
        refine Ch.pu gdN (by exact ⟨rfl, trivial⟩) (OpS.len rfl) (by first | exact trivial | exact ⟨rfl, trivial⟩) rfl ?_
        refine Ch.pu gdN (by exact ⟨rfl, trivial⟩) (OpS.move) (by first | exact trivial | exact ⟨rfl, trivial⟩) rfl ?_
        refine Ch.pu gdN (by exact ⟨rfl, rfl, trivial⟩) (OpS.int rfl (by first | exact wr64 (by omega) | exact rfl)) (by first | exact trivial | exact ⟨rfl, trivial⟩) rfl ?_
        refine Ch.pu gdN (by exact ⟨rfl, rfl, trivial⟩) (OpS.int (v' := .bool true) rfl (by rw [ei])) (by first | exact trivial | exact ⟨rfl, trivial⟩) rfl ?_
        refine Ch.pu gdN (by exact ⟨rfl, trivial⟩) (OpS.move) (by first | exact trivial | exact ⟨rfl, trivial⟩) rfl ?_
        refine Ch.pu (by exact gdT rfl rfl) (by exact ⟨rfl, trivial⟩) (OpS.move) (by first | exact trivial | exact ⟨rfl, trivial⟩) rfl ?_
        refine Ch.pu (by exact gdT rfl rfl) (by exact ⟨rfl, rfl, trivial⟩) (OpS.strEqB e1) (by first | exact trivial | exact ⟨rfl, trivial⟩) rfl ?_
        refine Ch.pu (by exact gdT rfl rfl) (by exact ⟨rfl, trivial⟩) (OpS.move) (by first | exact trivial | exact ⟨rfl, trivial⟩) rfl ?_
        refine Ch.pu (by exact gdT rfl rfl) (by exact ⟨rfl, rfl, trivial⟩) (OpS.int (v' := .bool false) rfl (by first | (simp [hs]; done) | (have hs2 := hs; simp; omega) | fail)) (by first | exact trivial | exact ⟨rfl, trivial⟩) rfl ?_
        refine Ch.pu (by exact gdT rfl rfl) (by exact ⟨rfl, rfl, trivial⟩) (OpS.boolEql rfl) (by first | exact trivial | exact ⟨rfl, trivial⟩) rfl ?_
        refine Ch.pu gdN (by first | exact ⟨rfl, rfl, trivial⟩ | exact ⟨rfl, rfl, rfl, trivial⟩) (OpS.pickT) (by first | exact trivial | exact ⟨rfl, trivial⟩) rfl ?_
        refine Ch.pu gdN (by exact ⟨rfl, trivial⟩) (OpS.move) (by first | exact trivial | exact ⟨rfl, trivial⟩) rfl ?_
        refine Ch.pu (by exact gdT rfl rfl) (by exact ⟨rfl, trivial⟩) (OpS.move) (by first | exact trivial | exact ⟨rfl, trivial⟩) rfl ?_
        refine Ch.pu (by exact gdT rfl rfl) (by exact ⟨rfl, trivial⟩) (OpS.len rfl) (by first | exact trivial | exact ⟨rfl, trivial⟩) rfl ?_
        refine Ch.pu (by exact gdT rfl rfl) (by exact ⟨rfl, rfl, trivial⟩) (OpS.int (op := .gtr) (v' := .bool false) rfl (by first | (rw [e2]; rfl) | fail)) (by first | exact trivial | exact ⟨rfl, trivial⟩) rfl ?_
        refine Ch.pu (by exact gdT rfl rfl) (by exact ⟨rfl, trivial⟩) (OpS.move) (by first | exact trivial | exact ⟨rfl, trivial⟩) rfl ?_
        refine Ch.pu (by exact gdT rfl rfl) (by exact ⟨rfl, rfl, trivial⟩) (OpS.int (op := .gtr) (v' := .bool true) rfl (by first | (simp; omega) | fail)) (by first | exact trivial | exact ⟨rfl, trivial⟩) rfl ?_
        refine Ch.pu (by exact gdT rfl rfl) (by exact ⟨rfl, trivial⟩) (OpS.move) (by first | exact trivial | exact ⟨rfl, trivial⟩) rfl ?_
        refine Ch.pu (by exact gdT rfl rfl) (by exact ⟨rfl, trivial⟩) (OpS.move) (by first | exact trivial | exact ⟨rfl, trivial⟩) rfl ?_
        refine Ch.pu (by exact gdT rfl rfl) (by exact ⟨rfl, rfl, trivial⟩) (OpS.int (v' := .bool false) rfl (by first | (simp [hs]; done) | (have hs2 := hs; simp; omega) | fail)) (by first | exact trivial | exact ⟨rfl, trivial⟩) rfl ?_
        refine Ch.pu (by exact gdT rfl rfl) (by first | exact ⟨rfl, rfl, trivial⟩ | exact ⟨rfl, rfl, rfl, trivial⟩) (OpS.pickT) (by first | exact trivial | exact ⟨rfl, trivial⟩) rfl ?_
        refine Ch.pu (by exact gdT rfl rfl) (by exact ⟨rfl, trivial⟩) (OpS.move) (by first | exact trivial | exact ⟨rfl, trivial⟩) rfl ?_
        refine Ch.skU (gdF rfl rfl rfl) rfl ?_
        refine Ch.skU (gdF rfl rfl rfl) rfl ?_
        refine Ch.skU (gdF rfl rfl rfl) rfl ?_
        refine Ch.pu (by exact gdT rfl rfl) (by first | exact ⟨rfl, rfl, trivial⟩ | exact ⟨rfl, rfl, rfl, trivial⟩) (OpS.pickF) (by first | exact trivial | exact ⟨rfl, trivial⟩) rfl ?_
        refine Ch.pu (by exact gdT rfl rfl) (by exact ⟨rfl, rfl, trivial⟩) (OpS.boolEql rfl) (by first | exact trivial | exact ⟨rfl, trivial⟩) rfl ?_
        refine Ch.pu gdN (by first | exact ⟨rfl, rfl, trivial⟩ | exact ⟨rfl, rfl, rfl, trivial⟩) (OpS.pickT) (by first | exact trivial | exact ⟨rfl, trivial⟩) rfl ?_
        refine Ch.pu gdN (by exact ⟨rfl, trivial⟩) (OpS.assign) (by first | exact trivial | exact ⟨rfl, trivial⟩) rfl ?_
        refine Ch.nil ?_
        refine WP.ret (Ret.one rfl (by first | exact .rfl _ | exact .nil | exact .of_eq (by simp; first | done | fail) | exact AV.wk.sh (by simp; first | done | fail) | exact .untip _ _ _) (by first | trivial | simp [AV.bel]) hnA)
      · have hs := hq
        have e1 : decide (rootT L = []) = false := by rw [hLe]; simpa using ne_nil_of32 (many_root2 hmay hs.1)
        have e2 := many_path1 (n := n) (i := i) (by omega) hmay
        rw [← hLe] at e2
        refine WP.rs hG ?_
        refine Ch.pu gdN (by exact ⟨rfl, trivial⟩) (OpS.move) (by first | exact trivial | exact ⟨rfl, trivial⟩) rfl ?_
        refine Ch.pu gdN (by exact ⟨rfl, trivial⟩) (OpS.len rfl) (by first | exact trivial | exact ⟨rfl, trivial⟩) rfl ?_
        refine Ch.pu gdN (by exact ⟨rfl, trivial⟩) (OpS.move) (by first | exact trivial | exact ⟨rfl, trivial⟩) rfl ?_
        refine Ch.pu gdN (by exact ⟨rfl, rfl, trivial⟩) (OpS.int rfl (by first | exact wr64 (by omega) | exact rfl)) (by first | exact trivial | exact ⟨rfl, trivial⟩) rfl ?_
        refine Ch.pu gdN (by exact ⟨rfl, rfl, trivial⟩) (OpS.int (v' := .bool true) rfl (by rw [ei])) (by first | exact trivial | exact ⟨rfl, trivial⟩) rfl ?_
        refine Ch.pu gdN (by exact ⟨rfl, trivial⟩) (OpS.move) (by first | exact trivial | exact ⟨rfl, trivial⟩) rfl ?_
        refine Ch.pu (by exact gdT rfl rfl) (by exact ⟨rfl, trivial⟩) (OpS.move) (by first | exact trivial | exact ⟨rfl, trivial⟩) rfl ?_
        refine Ch.pu (by exact gdT rfl rfl) (by exact ⟨rfl, rfl, trivial⟩) (OpS.strEqB e1) (by first | exact trivial | exact ⟨rfl, trivial⟩) rfl ?_
        refine Ch.pu (by exact gdT rfl rfl) (by exact ⟨rfl, trivial⟩) (OpS.move) (by first | exact trivial | exact ⟨rfl, trivial⟩) rfl ?_
        refine Ch.pu (by exact gdT rfl rfl) (by exact ⟨rfl, rfl, trivial⟩) (OpS.int (v' := .bool false) rfl (by first | (simp [hs]; done) | (have hs2 := hs; simp; omega) | fail)) (by first | exact trivial | exact ⟨rfl, trivial⟩) rfl ?_
        refine Ch.pu (by exact gdT rfl rfl) (by exact ⟨rfl, rfl, trivial⟩) (OpS.boolEql rfl) (by first | exact trivial | exact ⟨rfl, trivial⟩) rfl ?_
        refine Ch.pu gdN (by first | exact ⟨rfl, rfl, trivial⟩ | exact ⟨rfl, rfl, rfl, trivial⟩) (OpS.pickT) (by first | exact trivial | exact ⟨rfl, trivial⟩) rfl ?_
        refine Ch.pu gdN (by exact ⟨rfl, trivial⟩) (OpS.move) (by first | exact trivial | exact ⟨rfl, trivial⟩) rfl ?_
        refine Ch.pu (by exact gdT rfl rfl) (by exact ⟨rfl, trivial⟩) (OpS.move) (by first | exact trivial | exact ⟨rfl, trivial⟩) rfl ?_
        refine Ch.pu (by exact gdT rfl rfl) (by exact ⟨rfl, trivial⟩) (OpS.len rfl) (by first | exact trivial | exact ⟨rfl, trivial⟩) rfl ?_
        refine Ch.pu (by exact gdT rfl rfl) (by exact ⟨rfl, rfl, trivial⟩) (OpS.int (op := .gtr) (v' := .bool false) rfl (by first | (rw [e2]; rfl) | fail)) (by first | exact trivial | exact ⟨rfl, trivial⟩) rfl ?_
        refine Ch.pu (by exact gdT rfl rfl) (by exact ⟨rfl, trivial⟩) (OpS.move) (by first | exact trivial | exact ⟨rfl, trivial⟩) rfl ?_
        refine Ch.pu (by exact gdT rfl rfl) (by exact ⟨rfl, rfl, trivial⟩) (OpS.int (op := .gtr) (v' := .bool true) rfl (by first | (simp; omega) | fail)) (by first | exact trivial | exact ⟨rfl, trivial⟩) rfl ?_
        refine Ch.pu (by exact gdT rfl rfl) (by exact ⟨rfl, trivial⟩) (OpS.move) (by first | exact trivial | exact ⟨rfl, trivial⟩) rfl ?_
        refine Ch.pu (by exact gdT rfl rfl) (by exact ⟨rfl, trivial⟩) (OpS.move) (by first | exact trivial | exact ⟨rfl, trivial⟩) rfl ?_
        refine Ch.pu (by exact gdT rfl rfl) (by exact ⟨rfl, rfl, trivial⟩) (OpS.int (v' := .bool true) rfl (by first | (simp [hs]; done) | (have hs2 := hs; simp; omega) | fail)) (by first | exact trivial | exact ⟨rfl, trivial⟩) rfl ?_
        refine Ch.pu (by exact gdT rfl rfl) (by first | exact ⟨rfl, rfl, trivial⟩ | exact ⟨rfl, rfl, rfl, trivial⟩) (OpS.pickT) (by first | exact trivial | exact ⟨rfl, trivial⟩) rfl ?_
        refine Ch.pu (by exact gdT rfl rfl) (by exact ⟨rfl, trivial⟩) (OpS.move) (by first | exact trivial | exact ⟨rfl, trivial⟩) rfl ?_
        refine Ch.pu (by exact gdT rfl rfl) (by exact ⟨rfl, trivial⟩) (OpS.move) (by first | exact trivial | exact ⟨rfl, trivial⟩) rfl ?_
        refine Ch.pu (by exact gdT rfl rfl) (by exact ⟨rfl, trivial⟩) (OpS.move) (by first | exact trivial | exact ⟨rfl, trivial⟩) rfl ?_
        refine Ch.pu (by exact gdT rfl rfl) (by exact ⟨rfl, rfl, trivial⟩) (OpS.int (v' := .bool false) rfl (by first | (simp [hs]; done) | (have hs2 := hs; simp; omega) | fail)) (by first | exact trivial | exact ⟨rfl, trivial⟩) rfl ?_
        refine Ch.pu (by exact gdT rfl rfl) (by first | exact ⟨rfl, rfl, trivial⟩ | exact ⟨rfl, rfl, rfl, trivial⟩) (OpS.pickT) (by first | exact trivial | exact ⟨rfl, trivial⟩) rfl ?_
        refine Ch.pu (by exact gdT rfl rfl) (by exact ⟨rfl, rfl, trivial⟩) (OpS.boolEql rfl) (by first | exact trivial | exact ⟨rfl, trivial⟩) rfl ?_
        refine Ch.pu gdN (by first | exact ⟨rfl, rfl, trivial⟩ | exact ⟨rfl, rfl, rfl, trivial⟩) (OpS.pickT) (by first | exact trivial | exact ⟨rfl, trivial⟩) rfl ?_
        refine Ch.pu gdN (by exact ⟨rfl, trivial⟩) (OpS.assign) (by first | exact trivial | exact ⟨rfl, trivial⟩) rfl ?_
        refine Ch.nil ?_
        refine WP.ret (Ret.one rfl (by first | exact .rfl _ | exact .nil | exact .of_eq (by simp; first | done | fail) | exact AV.wk.sh (by simp; first | done | fail) | exact .untip _ _ _) (by first | trivial | simp [AV.bel]) hnA)
      · have hs := hq
        have e1 : decide (rootT L = []) = false := by rw [hLe]; simpa using ne_nil_of32 (many_root2 hmay hs.1)
        have e2 := many_path2 (n := n) (i := i) (by omega) hmay
        rw [← hLe] at e2
        refine WP.rs hG ?_
        refine Ch.pu gdN (by exact ⟨rfl, trivial⟩) (OpS.move) (by first | exact trivial | exact ⟨rfl, trivial⟩) rfl ?_
        refine Ch.pu gdN (by exact ⟨rfl, trivial⟩) (OpS.len rfl) (by first | exact trivial | exact ⟨rfl, trivial⟩) rfl ?_
        refine Ch.pu gdN (by exact ⟨rfl, trivial⟩) (OpS.move) (by first | exact trivial | exact ⟨rfl, trivial⟩) rfl ?_
        refine Ch.pu gdN (by exact ⟨rfl, rfl, trivial⟩) (OpS.int rfl (by first | exact wr64 (by omega) | exact rfl)) (by first | exact trivial | exact ⟨rfl, trivial⟩) rfl ?_
        refine Ch.pu gdN (by exact ⟨rfl, rfl, trivial⟩) (OpS.int (v' := .bool true) rfl (by rw [ei])) (by first | exact trivial | exact ⟨rfl, trivial⟩) rfl ?_
        refine Ch.pu gdN (by exact ⟨rfl, trivial⟩) (OpS.move) (by first | exact trivial | exact ⟨rfl, trivial⟩) rfl ?_
        refine Ch.pu (by exact gdT rfl rfl) (by exact ⟨rfl, trivial⟩) (OpS.move) (by first | exact trivial | exact ⟨rfl, trivial⟩) rfl ?_
        refine Ch.pu (by exact gdT rfl rfl) (by exact ⟨rfl, rfl, trivial⟩) (OpS.strEqB e1) (by first | exact trivial | exact ⟨rfl, trivial⟩) rfl ?_
        refine Ch.pu (by exact gdT rfl rfl) (by exact ⟨rfl, trivial⟩) (OpS.move) (by first | exact trivial | exact ⟨rfl, trivial⟩) rfl ?_
        refine Ch.pu (by exact gdT rfl rfl) (by exact ⟨rfl, rfl, trivial⟩) (OpS.int (v' := .bool false) rfl (by first | (simp [hs]; done) | (have hs2 := hs; simp; omega) | fail)) (by first | exact trivial | exact ⟨rfl, trivial⟩) rfl ?_
        refine Ch.pu (by exact gdT rfl rfl) (by exact ⟨rfl, rfl, trivial⟩) (OpS.boolEql rfl) (by first | exact trivial | exact ⟨rfl, trivial⟩) rfl ?_
        refine Ch.pu gdN (by first | exact ⟨rfl, rfl, trivial⟩ | exact ⟨rfl, rfl, rfl, trivial⟩) (OpS.pickT) (by first | exact trivial | exact ⟨rfl, trivial⟩) rfl ?_
        refine Ch.pu gdN (by exact ⟨rfl, trivial⟩) (OpS.move) (by first | exact trivial | exact ⟨rfl, trivial⟩) rfl ?_
        refine Ch.pu (by exact gdT rfl rfl) (by exact ⟨rfl, trivial⟩) (OpS.move) (by first | exact trivial | exact ⟨rfl, trivial⟩) rfl ?_
        refine Ch.pu (by exact gdT rfl rfl) (by exact ⟨rfl, trivial⟩) (OpS.len rfl) (by first | exact trivial | exact ⟨rfl, trivial⟩) rfl ?_
        refine Ch.pu (by exact gdT rfl rfl) (by exact ⟨rfl, rfl, trivial⟩) (OpS.int (op := .gtr) (v' := .bool true) rfl (by first | (simp; omega) | fail)) (by first | exact trivial | exact ⟨rfl, trivial⟩) rfl ?_
        refine Ch.pu (by exact gdT rfl rfl) (by exact ⟨rfl, trivial⟩) (OpS.move) (by first | exact trivial | exact ⟨rfl, trivial⟩) rfl ?_
        refine Ch.pu (by exact gdT rfl rfl) (by exact ⟨rfl, rfl, trivial⟩) (OpS.int (op := .gtr) (v' := .bool true) rfl (by first | (simp; omega) | fail)) (by first | exact trivial | exact ⟨rfl, trivial⟩) rfl ?_
        refine Ch.pu (by exact gdT rfl rfl) (by exact ⟨rfl, trivial⟩) (OpS.move) (by first | exact trivial | exact ⟨rfl, trivial⟩) rfl ?_
        refine Ch.pu (by exact gdT rfl rfl) (by exact ⟨rfl, trivial⟩) (OpS.move) (by first | exact trivial | exact ⟨rfl, trivial⟩) rfl ?_
        refine Ch.pu (by exact gdT rfl rfl) (by exact ⟨rfl, rfl, trivial⟩) (OpS.int (v' := .bool true) rfl (by first | (simp [hs]; done) | (have hs2 := hs; simp; omega) | fail)) (by first | exact trivial | exact ⟨rfl, trivial⟩) rfl ?_
        refine Ch.pu (by exact gdT rfl rfl) (by first | exact ⟨rfl, rfl, trivial⟩ | exact ⟨rfl, rfl, rfl, trivial⟩) (OpS.pickT) (by first | exact trivial | exact ⟨rfl, trivial⟩) rfl ?_
        refine Ch.pu (by exact gdT rfl rfl) (by exact ⟨rfl, trivial⟩) (OpS.move) (by first | exact trivial | exact ⟨rfl, trivial⟩) rfl ?_
        refine Ch.pu (by exact gdT rfl rfl) (by exact ⟨rfl, trivial⟩) (OpS.move) (by first | exact trivial | exact ⟨rfl, trivial⟩) rfl ?_
        refine Ch.pu (by exact gdT rfl rfl) (by exact ⟨rfl, trivial⟩) (OpS.move) (by first | exact trivial | exact ⟨rfl, trivial⟩) rfl ?_
        refine Ch.pu (by exact gdT rfl rfl) (by exact ⟨rfl, rfl, trivial⟩) (OpS.int (v' := .bool true) rfl (by first | (simp [hs]; done) | (have hs2 := hs; simp; omega) | fail)) (by first | exact trivial | exact ⟨rfl, trivial⟩) rfl ?_
        refine Ch.pu (by exact gdT rfl rfl) (by first | exact ⟨rfl, rfl, trivial⟩ | exact ⟨rfl, rfl, rfl, trivial⟩) (OpS.pickT) (by first | exact trivial | exact ⟨rfl, trivial⟩) rfl ?_
        refine Ch.pu (by exact gdT rfl rfl) (by exact ⟨rfl, rfl, trivial⟩) (OpS.boolEql rfl) (by first | exact trivial | exact ⟨rfl, trivial⟩) rfl ?_
        refine Ch.pu gdN (by first | exact ⟨rfl, rfl, trivial⟩ | exact ⟨rfl, rfl, rfl, trivial⟩) (OpS.pickT) (by first | exact trivial | exact ⟨rfl, trivial⟩) rfl ?_
        refine Ch.pu gdN (by exact ⟨rfl, trivial⟩) (OpS.assign) (by first | exact trivial | exact ⟨rfl, trivial⟩) rfl ?_
        refine Ch.nil ?_
        refine WP.ret (Ret.one rfl (by first | exact .rfl _ | exact .nil | exact .of_eq (by simp; first | done | fail) | exact AV.wk.sh (by simp; first | done | fail) | exact .untip _ _ _) (by first | trivial | simp [AV.bel]) hnA)

theorem treeHalves_fc {G : List (Nat × Array Value)} (hm : ShaIn G) (ps : List Txt) (hh i : Int) (h1 : -9223372036854775808 ≤ hh ∧ hh ≤ 9223372036854775807) (h2 : -9223372036854775808 ≤ i ∧ i ≤ 9223372036854775807) (hps : (ps.length : Int) ≤ 9223372036854775807) :
    FC Tryd.prog G 4 [.sl none ps.length (ps.map sA), .v (.int .i64 hh), .v (.int .i64 i)] [] (.v (.bool true)) [] := by
  obtain ⟨q, hq, hQ⟩ := pick_ex (G := G) hh 4 h1.1 h1.2 (by decide) (by decide)
  obtain ⟨L, hl, he, h32, hL⟩ := leaves_ex (G := G) ps (1 + (q : Int)) (by omega) (by omega) hps
  have hpk : pickN (1 + (q : Int)) 5 = q + 1 := by
    have := pickN_eq (1 + (q : Int)) 5 (by decide)
    rw [if_neg (by omega)] at this
    omega
  rw [hpk] at hl he
  have hp4 := pow4 he
  have hp0 := pow0 q
  have hps2 : 2 ^ (q + 1) = 2 * 2 ^ q := by rw [Nat.pow_succ]; omega
  obtain ⟨j, hj, hJ⟩ := pick_ex (G := G) i L.length h2.1 h2.2 (by omega) (by omega)
  have hsj := sib_lt (i := j) (n := 2 ^ q) (by omega)
  have hhalf : (L.length : Int) / 2 = ((2 ^ q : Nat) : Int) := by omega
  have h32a : ∀ x ∈ L.take (2 ^ q), x.length = 32 := fun x hx => h32 x (List.mem_of_mem_take hx)
  have h32b : ∀ x ∈ L.drop (2 ^ q), x.length = 32 := fun x hx => h32 x (List.mem_of_mem_drop hx)
  have hla : (L.take (2 ^ q)).length = 2 ^ q := by rw [List.length_take]; omega
  have hlb : (L.drop (2 ^ q)).length = 2 ^ q := by rw [List.length_drop]; omega
  have hlb' : (L.drop (2 ^ q)).length = L.length - 2 ^ q := by rw [List.length_drop]
  have hA := rootL_fc hm (show q ≤ 7 by omega) hla h32a
  have hB := rootL_fc hm (show q ≤ 7 by omega) hlb h32b
  rw [hla] at hA
  rw [hlb'] at hB
  have hroot := rootL_fc hm (show q + 1 ≤ 7 by omega) hl h32
  rw [halves q L hl] at hroot
  have hlen : ∀ (e : Nat) (X : List Txt), X.length = 2 ^ e → (∀ x ∈ X, x.length = 32) → (rootN e X).length = 32 := fun e X hX hX32 => by
    cases e with
    | zero => rw [rootN_0]; exact hX32 _ (tget_mem (by rw [hX]; decide))
    | succ e => exact rootN_len e X hX
  have hnode := node_fc hm (rootN q (L.take (2 ^ q))) (rootN q (L.drop (2 ^ q))) (by rw [hlen q _ hla h32a, hlen q _ hlb h32b]; decide)
  have hpath := pathL_fc hm (show q + 1 ≤ 7 by omega) hl hj h32
  have hpl := pathN_length (q + 1) L j
  have hlast := path_last q L j hl (by omega)
  have hf1 : el (pathN (q + 1) L j) 0 = el L (sib j) := path_first q L j
  have hk : ((j : Int) - (j : Int) % 2 + 1 - (j : Int) % 2) = ((sib j : Nat) : Int) := by unfold sib; split <;> omega
  have hle1 : ((pathN (q + 1) L j).length : Int) - 1 = (q : Int) := by omega
  refine FC.of_wp [6] Tryd.func4 rfl rfl rfl rfl ⟨⟨by simp, belL_s _ _⟩, trivial, trivial, trivial⟩ trivial (by exact Nat.le_of_ble_eq_true rfl) ?_
  intro A hG hnA hAB
  unfold start
  refine WP.rs hG ?_
  refine Ch.pu gdN (by exact ⟨rfl, trivial⟩) (OpS.assign) (by first | exact trivial | exact ⟨rfl, trivial⟩) rfl ?_
  refine Ch.nil ?_
  refine WP.rs hG ?_
  refine Ch.callP (awake_fc hm) gdN (by repeat (first | exact EvL.nil | (apply EvL.cons; exact rfl))) (by exact trivial) (by rfl) rfl ?_
  refine Ch.pu gdN (by exact ⟨rfl, trivial⟩) (OpS.assign) (by first | exact trivial | exact ⟨rfl, trivial⟩) rfl ?_
  refine Ch.nil ?_
  refine WP.rs hG ?_
  refine Ch.pu gdN (by exact ⟨rfl, trivial⟩) (OpS.move) (by first | exact trivial | exact ⟨rfl, trivial⟩) rfl ?_
  refine Ch.pu gdN (by exact ⟨rfl, trivial⟩) (OpS.move) (by first | exact trivial | exact ⟨rfl, trivial⟩) rfl ?_
  refine Ch.callP (hQ) gdN (by repeat (first | exact EvL.nil | (apply EvL.cons; exact rfl))) (by exact (And.intro (by first | exact .rfl _ | exact .untip _ _ _ | exact .nil | exact .func _ | exact AV.wk.sh (renL_s _ _) | exact AV.wk.sh (by simp; first | done | fail)) (And.intro (by first | exact .rfl _ | exact .untip _ _ _ | exact .nil | exact .func _ | exact AV.wk.sh (renL_s _ _) | exact AV.wk.sh (by simp; first | done | fail)) trivial))) (by rfl) rfl ?_
  refine Ch.pu gdN (by exact ⟨rfl, rfl, trivial⟩) (OpS.int rfl (by first | exact wr64 (by omega) | exact rfl)) (by first | exact trivial | exact ⟨rfl, trivial⟩) rfl ?_
  refine Ch.callS (hL) gdN (by repeat (first | exact EvL.nil | (apply EvL.cons; exact rfl))) (by exact (And.intro (by first | exact .rfl _ | exact .untip _ _ _ | exact .nil | exact .func _ | exact AV.wk.sh (renL_s _ _) | exact AV.wk.sh (by simp; first | done | fail)) (And.intro (by first | exact .rfl _ | exact .untip _ _ _ | exact .nil | exact .func _ | exact AV.wk.sh (renL_s _ _) | exact AV.wk.sh (by simp; first | done | fail)) trivial))) (by first | rfl | simp) rfl ?_
  refine Ch.pu gdN (by exact ⟨rfl, trivial⟩) (OpS.assign) (by first | exact trivial | exact ⟨rfl, trivial⟩) rfl ?_
  refine Ch.nil ?_
  refine WP.rs hG ?_
  refine Ch.pu gdN (by exact ⟨rfl, trivial⟩) (OpS.move) (by first | exact trivial | exact ⟨rfl, trivial⟩) rfl ?_
  refine Ch.pu gdN (by exact ⟨rfl, trivial⟩) (OpS.len rfl) (by first | exact trivial | exact ⟨rfl, trivial⟩) rfl ?_
  refine Ch.pu gdN (by exact ⟨rfl, rfl, trivial⟩) (OpS.quo (by omega) (by omega) (by omega)) (by first | exact trivial | exact ⟨rfl, trivial⟩) rfl ?_
  refine Ch.pu gdN (by exact ⟨rfl, trivial⟩) (OpS.assign) (by first | exact trivial | exact ⟨rfl, trivial⟩) rfl ?_
  refine Ch.nil ?_
  rw [hhalf]
  refine WP.rs hG ?_
  refine Ch.pu gdN (by exact ⟨rfl, trivial⟩) (OpS.move) (by first | exact trivial | exact ⟨rfl, trivial⟩) rfl ?_
  refine Ch.pu gdN (by exact ⟨rfl, trivial⟩) (OpS.move) (by first | exact trivial | exact ⟨rfl, trivial⟩) rfl ?_
  refine Ch.pu gdN (by exact ⟨rfl, rfl, trivial⟩) (OpS.slH1 rfl rfl rfl (by first | with_reducible exact Int.toNat_natCast _ | with_reducible exact tnLit _ _ | with_reducible exact tnLitA _ _ | with_reducible exact tnL _ | with_reducible exact tnA _ _ | with_reducible exact tnM _ _ | with_reducible exact tnMA _ _ _ | exact rfl) (by omega) (by omega)) (by first | exact trivial | exact ⟨rfl, trivial⟩) rfl ?_
  refine Ch.callP (hA) gdN (by repeat (first | exact EvL.nil | (apply EvL.cons; exact rfl))) (by exact (And.intro (by first | exact .rfl _ | exact .untip _ _ _ | exact .nil | exact .func _ | exact AV.wk.sh (renL_s _ _) | exact AV.wk.sh (by simp; first | done | fail)) trivial)) (by rfl) rfl ?_
  refine Ch.pu gdN (by exact ⟨rfl, trivial⟩) (OpS.assign) (by first | exact trivial | exact ⟨rfl, trivial⟩) rfl ?_
  refine Ch.nil ?_
  refine WP.rs hG ?_
  refine Ch.pu gdN (by exact ⟨rfl, trivial⟩) (OpS.move) (by first | exact trivial | exact ⟨rfl, trivial⟩) rfl ?_
  refine Ch.pu gdN (by exact ⟨rfl, trivial⟩) (OpS.move) (by first | exact trivial | exact ⟨rfl, trivial⟩) rfl ?_
  refine Ch.pu gdN (by exact ⟨rfl, rfl, trivial⟩) (OpS.slL1 rfl rfl rfl (by first | with_reducible exact Int.toNat_natCast _ | with_reducible exact tnLit _ _ | with_reducible exact tnLitA _ _ | with_reducible exact tnL _ | with_reducible exact tnA _ _ | with_reducible exact tnM _ _ | with_reducible exact tnMA _ _ _ | exact rfl) (by omega) (by omega) (by simp; first | done | omega)) (by first | exact trivial | exact ⟨rfl, trivial⟩) rfl ?_
  refine Ch.callP (hB) gdN (by repeat (first | exact EvL.nil | (apply EvL.cons; exact rfl))) (by exact (And.intro (by first | exact .rfl _ | exact .untip _ _ _ | exact .nil | exact .func _ | exact AV.wk.sh (renL_s _ _) | exact AV.wk.sh (by simp; first | done | fail)) trivial)) (by rfl) rfl ?_
  refine Ch.pu gdN (by exact ⟨rfl, trivial⟩) (OpS.assign) (by first | exact trivial | exact ⟨rfl, trivial⟩) rfl ?_
  refine Ch.nil ?_
  refine WP.rs hG ?_
  refine Ch.pu gdN (by exact ⟨rfl, trivial⟩) (OpS.move) (by first | exact trivial | exact ⟨rfl, trivial⟩) rfl ?_
  refine Ch.pu gdN (by exact ⟨rfl, trivial⟩) (OpS.move) (by first | exact trivial | exact ⟨rfl, trivial⟩) rfl ?_
  refine Ch.pu gdN (by exact ⟨rfl, trivial⟩) (OpS.len rfl) (by first | exact trivial | exact ⟨rfl, trivial⟩) rfl ?_
  refine Ch.callP (hJ) gdN (by repeat (first | exact EvL.nil | (apply EvL.cons; exact rfl))) (by exact (And.intro (by first | exact .rfl _ | exact .untip _ _ _ | exact .nil | exact .func _ | exact AV.wk.sh (renL_s _ _) | exact AV.wk.sh (by simp; first | done | fail)) (And.intro (by first | exact .rfl _ | exact .untip _ _ _ | exact .nil | exact .func _ | exact AV.wk.sh (renL_s _ _) | exact AV.wk.sh (by simp; first | done | fail)) trivial))) (by rfl) rfl ?_
  refine Ch.pu gdN (by exact ⟨rfl, trivial⟩) (OpS.assign) (by first | exact trivial | exact ⟨rfl, trivial⟩) rfl ?_
  refine Ch.nil ?_
  refine WP.rs hG ?_
  refine Ch.pu gdN (by exact ⟨rfl, trivial⟩) (OpS.move) (by first | exact trivial | exact ⟨rfl, trivial⟩) rfl ?_
  refine Ch.pu gdN (by exact ⟨rfl, trivial⟩) (OpS.move) (by first | exact trivial | exact ⟨rfl, trivial⟩) rfl ?_
  refine Ch.callS (hpath) gdN (by repeat (first | exact EvL.nil | (apply EvL.cons; exact rfl))) (by exact (And.intro (by first | exact .rfl _ | exact .untip _ _ _ | exact .nil | exact .func _ | exact AV.wk.sh (renL_s _ _) | exact AV.wk.sh (by simp; first | done | fail)) (And.intro (by first | exact .rfl _ | exact .untip _ _ _ | exact .nil | exact .func _ | exact AV.wk.sh (renL_s _ _) | exact AV.wk.sh (by simp; first | done | fail)) trivial))) (by first | rfl | simp) rfl ?_
  refine Ch.pu gdN (by exact ⟨rfl, trivial⟩) (OpS.assign) (by first | exact trivial | exact ⟨rfl, trivial⟩) rfl ?_
  refine Ch.nil ?_
  refine WP.rs hG ?_
  refine Ch.pu gdN (by exact ⟨rfl, trivial⟩) (OpS.move) (by first | exact trivial | exact ⟨rfl, trivial⟩) rfl ?_
  refine Ch.pu gdN (by exact ⟨rfl, trivial⟩) (OpS.assign) (by first | exact trivial | exact ⟨rfl, trivial⟩) rfl ?_
  refine Ch.nil ?_
  refine WP.seqJ (fun σ => ∃ other : Txt, other = (if 2 ^ q ≤ j then rootN q (L.take (2 ^ q)) else rootN q (L.drop (2 ^ q))) ∧ σ = ⟨95, ls [(2, .v (.int .i64 (j : Int))), (7, .v (.bool true)), (8, .sl none L.length (L.map sA)), (9, .v (.int .i64 ((2 ^ q : Nat) : Int))), (10, sA (rootN q (L.take (2 ^ q)))), (11, sA (rootN q (L.drop (2 ^ q)))), (12, .sl none (pathN (q + 1) L j).length ((pathN (q + 1) L j).map sA)), (13, sA other)], lh [], blt 0⟩) ?_ ?_
  · skip
    refine WP.rs hG ?_
    refine Ch.pu gdN (by exact ⟨rfl, trivial⟩) (OpS.move) (by first | exact trivial | exact ⟨rfl, trivial⟩) rfl ?_
    refine Ch.pu gdN (by exact ⟨rfl, trivial⟩) (OpS.move) (by first | exact trivial | exact ⟨rfl, trivial⟩) rfl ?_
    refine Ch.pu gdN (by exact ⟨rfl, rfl, trivial⟩) (OpS.int rfl (by first | exact wr64 (by omega) | exact rfl)) (by first | exact trivial | exact ⟨rfl, trivial⟩) rfl ?_
    refine Ch.nil ?_
    refine WP.cond rfl ?_ ?_
    · intro ht
      have ht' := of_decide_eq_true ht
      have hge : 2 ^ q ≤ j := by omega
      refine WP.rg hG ?_
      refine Ch.pu gdN (by exact ⟨rfl, trivial⟩) (OpS.move) (by first | exact trivial | exact ⟨rfl, trivial⟩) rfl ?_
      refine Ch.pu gdN (by exact ⟨rfl, trivial⟩) (OpS.assign) (by first | exact trivial | exact ⟨rfl, trivial⟩) rfl ?_
      refine Ch.nil ?_
      refine ⟨_, (Ent.of [] ?_ ?_ ?_ ?_).se, _, (by first | rw [if_pos hge] | rw [if_neg hge]), rfl⟩
      · exact (fun i hi => by rw [hnA] at hi; simp only [List.length_cons, List.length_nil] at hi ⊢; first | exact absurd hi (Nat.not_lt_zero _) | (revert i; decide))
      · (repeat (first | exact trivial | (refine And.intro ⟨(by first | trivial | (simp; first | done | fail)), _, rfl, (by first | exact .rfl _ | exact .nil | exact .of_eq (by simp; first | done | fail) | exact AV.wk.sh (by simp; first | done | fail) | exact .untip _ _ _)⟩ ?_)))
      · (repeat (first | exact trivial | (refine And.intro ⟨rfl, (by first | trivial | (simp; first | done | fail)), (by first | rfl | (simp; first | done | fail))⟩ ?_)))
      · simp [rn]
    · intro ht
      have ht' := of_decide_eq_false ht
      have hge : ¬ 2 ^ q ≤ j := by omega
      refine WP.skip ?_
      refine ⟨_, (Ent.of [] ?_ ?_ ?_ ?_).se, _, (by first | rw [if_pos hge] | rw [if_neg hge]), rfl⟩
      · exact (fun i hi => by rw [hnA] at hi; simp only [List.length_cons, List.length_nil] at hi ⊢; first | exact absurd hi (Nat.not_lt_zero _) | (revert i; decide))
      · (repeat (first | exact trivial | (refine And.intro ⟨(by first | trivial | (simp; first | done | fail)), _, rfl, (by first | exact .rfl _ | exact .nil | exact .of_eq (by simp; first | done | fail) | exact AV.wk.sh (by simp; first | done | fail) | exact .untip _ _ _)⟩ ?_)))
      · (repeat (first | exact trivial | (refine And.intro ⟨rfl, (by first | trivial | (simp; first | done | fail)), (by first | rfl | (simp; first | done | fail))⟩ ?_)))
      · simp [rn]
  · rintro σ ⟨other, hother, rfl⟩
    rw [← hother] at hlast
    refine WP.rs hG ?_
    refine Ch.pu gdN (by exact ⟨rfl, trivial⟩) (OpS.assign) (by first | exact trivial | exact ⟨rfl, trivial⟩) rfl ?_
    refine Ch.nil ?_
    refine WP.seq ?_
    refine WP.rs hG ?_
    refine Ch.pu gdN (by exact ⟨rfl, trivial⟩) (OpS.move) (by first | exact trivial | exact ⟨rfl, trivial⟩) rfl ?_
    refine Ch.pu gdN (by exact ⟨rfl, trivial⟩) (OpS.len rfl) (by first | exact trivial | exact ⟨rfl, trivial⟩) rfl ?_
    refine Ch.pu gdN (by exact ⟨rfl, trivial⟩) (OpS.assign) (by first | exact trivial | exact ⟨rfl, trivial⟩) rfl ?_
    refine Ch.nil ?_
    refine WP.block ?_
    refine WP.loop (fun k σ => ∃ m kk : Nat, (m + k = q + 1 ∧ kk = 2 ^ k) ∧ σ = ⟨95, ls [(2, .v (.int .i64 (j : Int))), (7, .v (.bool true)), (8, .sl none L.length (L.map sA)), (9, .v (.int .i64 ((2 ^ q : Nat) : Int))), (10, sA (rootN q (L.take (2 ^ q)))), (11, sA (rootN q (L.drop (2 ^ q)))), (12, .sl none (pathN (q + 1) L j).length ((pathN (q + 1) L j).map sA)), (13, sA other), (14, .v (.int .i64 (m : Int))), (15, .v (.int .i64 (kk : Int)))], lh [], blt 0⟩) (q + 1) (Ent.of [] ?_ ?_ ?_ ?_).se ⟨0, L.length, ⟨by omega, hl⟩, rfl⟩ ?_
    · exact (fun i hi => by rw [hnA] at hi; simp only [List.length_cons, List.length_nil] at hi ⊢; first | exact absurd hi (Nat.not_lt_zero _) | (revert i; decide))
    · (repeat (first | exact trivial | (refine And.intro ⟨(by first | trivial | (simp; first | done | fail)), _, rfl, (by first | exact .rfl _ | exact .nil | exact .of_eq (by simp; first | done | fail) | exact AV.wk.sh (by simp; first | done | fail) | exact .untip _ _ _)⟩ ?_)))
    · (repeat (first | exact trivial | (refine And.intro ⟨rfl, (by first | trivial | (simp; first | done | fail)), (by first | rfl | (simp; first | done | fail))⟩ ?_)))
    · simp [rn]
    · rintro k σ ⟨m, kk, ⟨hm', hkk⟩, rfl⟩
      have hk4 : 2 ^ k ≤ 16 := pow4 (e := k) (by omega)
      refine WP.seq ?_
      refine WP.rs hG ?_
      refine Ch.pu gdN (by exact ⟨rfl, trivial⟩) (OpS.move) (by first | exact trivial | exact ⟨rfl, trivial⟩) rfl ?_
      refine Ch.pu gdN (by exact ⟨rfl, rfl, trivial⟩) (OpS.int rfl (by first | exact wr64 (by omega) | exact rfl)) (by first | exact trivial | exact ⟨rfl, trivial⟩) rfl ?_
      refine Ch.nil ?_
      refine WP.cond rfl ?_ ?_
      · intro ht
        have ht' := of_decide_eq_true ht
        obtain ⟨k', rfl⟩ := pow_gt (k := k) (by omega)
        have hkh : kk / 2 = 2 ^ k' := by rw [hkk, Nat.pow_succ]; omega
        refine WP.skip ?_
        refine WP.seq ?_
        refine WP.block ?_
        refine WP.rg hG ?_
        refine Ch.pu gdN (by exact ⟨rfl, trivial⟩) (OpS.move) (by first | exact trivial | exact ⟨rfl, trivial⟩) rfl ?_
        refine Ch.pu gdN (by exact ⟨rfl, rfl, trivial⟩) (OpS.int rfl (by first | exact wr64 (by omega) | exact rfl)) (by first | exact trivial | exact ⟨rfl, trivial⟩) rfl ?_
        refine Ch.pu gdN (by exact ⟨rfl, trivial⟩) (OpS.assign) (by first | exact trivial | exact ⟨rfl, trivial⟩) rfl ?_
        refine Ch.nil ?_
        refine WP.rg hG ?_
        refine Ch.pu gdN (by exact ⟨rfl, trivial⟩) (OpS.move) (by first | exact trivial | exact ⟨rfl, trivial⟩) rfl ?_
        refine Ch.pu gdN (by exact ⟨rfl, rfl, trivial⟩) (OpS.quo (by omega) (by omega) (by omega)) (by first | exact trivial | exact ⟨rfl, trivial⟩) rfl ?_
        refine Ch.pu gdN (by exact ⟨rfl, trivial⟩) (OpS.assign) (by first | exact trivial | exact ⟨rfl, trivial⟩) rfl ?_
        refine Ch.nil ?_
        refine ⟨k', _, by omega, (Ent.of [] ?_ ?_ ?_ ?_).se, m + 1, kk / 2, ⟨by omega, hkh⟩, rfl⟩
        · exact (fun i hi => by rw [hnA] at hi; simp only [List.length_cons, List.length_nil] at hi ⊢; first | exact absurd hi (Nat.not_lt_zero _) | (revert i; decide))
        · (repeat (first | exact trivial | (refine And.intro ⟨(by first | trivial | (simp; first | done | fail)), _, rfl, (by first | exact .rfl _ | exact .nil | exact .of_eq (by simp; first | done | fail) | exact AV.wk.sh (by simp; first | done | fail) | exact .untip _ _ _)⟩ ?_)))
        · (repeat (first | exact trivial | (refine And.intro ⟨rfl, (by first | trivial | (simp; first | done | fail)), (by first | rfl | (simp; first | done | fail))⟩ ?_)))
        · simp [rn]
      · intro ht
        have ht' := of_decide_eq_false ht
        obtain rfl := pow_le (k := k) (by omega)
        have hm1 : m = q + 1 := by omega
        refine WP.exit ?_
        refine WP.rsD (by kernel_rfl) hG ?_
        refine Ch.pu gdN (by exact ⟨rfl, trivial⟩) (OpS.move) (by first | exact trivial | exact ⟨rfl, trivial⟩) rfl ?_
        refine Ch.pu gdN (by exact ⟨rfl, trivial⟩) (OpS.move) (by first | exact trivial | exact ⟨rfl, trivial⟩) rfl ?_
        refine Ch.pu (by exact gdT rfl rfl) (by exact ⟨rfl, trivial⟩) (OpS.move) (by first | exact trivial | exact ⟨rfl, trivial⟩) rfl ?_
        refine Ch.callP (hroot) (by exact gdT rfl rfl) (by repeat (first | exact EvL.nil | (apply EvL.cons; exact rfl))) (by exact (And.intro (by first | exact .rfl _ | exact .untip _ _ _ | exact .nil | exact .func _ | exact AV.wk.sh (renL_s _ _) | exact AV.wk.sh (by simp; first | done | fail)) trivial)) (by rfl) rfl ?_
        refine Ch.pu (by exact gdT rfl rfl) (by exact ⟨rfl, trivial⟩) (OpS.move) (by first | exact trivial | exact ⟨rfl, trivial⟩) rfl ?_
        refine Ch.pu (by exact gdT rfl rfl) (by exact ⟨rfl, trivial⟩) (OpS.move) (by first | exact trivial | exact ⟨rfl, trivial⟩) rfl ?_
        refine Ch.callP (hnode) (by exact gdT rfl rfl) (by repeat (first | exact EvL.nil | (apply EvL.cons; exact rfl))) (by exact (And.intro (by first | exact .rfl _ | exact .untip _ _ _ | exact .nil | exact .func _ | exact AV.wk.sh (renL_s _ _) | exact AV.wk.sh (by simp; first | done | fail)) (And.intro (by first | exact .rfl _ | exact .untip _ _ _ | exact .nil | exact .func _ | exact AV.wk.sh (renL_s _ _) | exact AV.wk.sh (by simp; first | done | fail)) trivial))) (by rfl) rfl ?_
        refine Ch.pu (by exact gdT rfl rfl) (by exact ⟨rfl, rfl, trivial⟩) (OpS.strEqT) (by first | exact trivial | exact ⟨rfl, trivial⟩) rfl ?_
        refine Ch.pu gdN (by first | exact ⟨rfl, rfl, trivial⟩ | exact ⟨rfl, rfl, rfl, trivial⟩) (OpS.pickT) (by first | exact trivial | exact ⟨rfl, trivial⟩) rfl ?_
        refine Ch.pu gdN (by exact ⟨rfl, trivial⟩) (OpS.move) (by first | exact trivial | exact ⟨rfl, trivial⟩) rfl ?_
        refine Ch.pu (by exact gdT rfl rfl) (by exact ⟨rfl, trivial⟩) (OpS.move) (by first | exact trivial | exact ⟨rfl, trivial⟩) rfl ?_
        refine Ch.pu (by exact gdT rfl rfl) (by exact ⟨rfl, trivial⟩) (OpS.len rfl) (by first | exact trivial | exact ⟨rfl, trivial⟩) rfl ?_
        refine Ch.pu (by exact gdT rfl rfl) (by exact ⟨rfl, trivial⟩) (OpS.move) (by first | exact trivial | exact ⟨rfl, trivial⟩) rfl ?_
        refine Ch.pu (by exact gdT rfl rfl) (by exact ⟨rfl, rfl, trivial⟩) (OpS.int (v' := .bool true) rfl (by rw [hpl, hm1]; simp)) (by first | exact trivial | exact ⟨rfl, trivial⟩) rfl ?_
        refine Ch.pu gdN (by first | exact ⟨rfl, rfl, trivial⟩ | exact ⟨rfl, rfl, rfl, trivial⟩) (OpS.pickT) (by first | exact trivial | exact ⟨rfl, trivial⟩) rfl ?_
        refine Ch.pu gdN (by exact ⟨rfl, trivial⟩) (OpS.move) (by first | exact trivial | exact ⟨rfl, trivial⟩) rfl ?_
        refine Ch.pu (by exact gdT rfl rfl) (by exact ⟨rfl, trivial⟩) (OpS.move) (by first | exact trivial | exact ⟨rfl, trivial⟩) rfl ?_
        refine Ch.pu (by exact gdT rfl rfl) (by exact ⟨rfl, trivial⟩) (OpS.move) (by first | exact trivial | exact ⟨rfl, trivial⟩) rfl ?_
        refine Ch.pu (by exact gdT rfl rfl) (by exact ⟨rfl, trivial⟩) (OpS.len rfl) (by first | exact trivial | exact ⟨rfl, trivial⟩) rfl ?_
        refine Ch.pu (by exact gdT rfl rfl) (by exact ⟨rfl, rfl, trivial⟩) (OpS.int rfl (by first | exact wr64 (by omega) | exact rfl)) (by first | exact trivial | exact ⟨rfl, trivial⟩) rfl ?_
        refine Ch.pu (by exact gdT rfl rfl) (by exact ⟨rfl, rfl, trivial⟩) (OpS.indexM (j := q) rfl rfl rfl (by omega) (by omega) (by omega) rfl) (by first | exact trivial | exact ⟨rfl, trivial⟩) rfl ?_
        refine Ch.pu (by exact gdT rfl rfl) (by exact ⟨rfl, trivial⟩) (OpS.loadS rfl rfl) (by first | exact trivial | exact ⟨rfl, trivial⟩) rfl ?_
        refine Ch.pu (by exact gdT rfl rfl) (by exact ⟨rfl, trivial⟩) (OpS.move) (by first | exact trivial | exact ⟨rfl, trivial⟩) rfl ?_
        refine Ch.pu (by exact gdT rfl rfl) (by exact ⟨rfl, rfl, trivial⟩) (OpS.strEqB (c := true) (by first | (rw [hf1]; simp; done) | (have e : el (pathN (q + 1) L j) q = other := hlast; rw [e]; simp) | fail)) (by first | exact trivial | exact ⟨rfl, trivial⟩) rfl ?_
        refine Ch.pu gdN (by first | exact ⟨rfl, rfl, trivial⟩ | exact ⟨rfl, rfl, rfl, trivial⟩) (OpS.pickT) (by first | exact trivial | exact ⟨rfl, trivial⟩) rfl ?_
        refine Ch.pu gdN (by exact ⟨rfl, trivial⟩) (OpS.move) (by first | exact trivial | exact ⟨rfl, trivial⟩) rfl ?_
        refine Ch.pu (by exact gdT rfl rfl) (by exact ⟨rfl, trivial⟩) (OpS.move) (by first | exact trivial | exact ⟨rfl, trivial⟩) rfl ?_
        refine Ch.pu (by exact gdT rfl rfl) (by exact ⟨rfl, rfl, trivial⟩) (OpS.indexM rfl rfl rfl (by first | with_reducible exact Int.toNat_natCast _ | with_reducible exact tnLit _ _ | with_reducible exact tnLitA _ _ | with_reducible exact tnL _ | with_reducible exact tnA _ _ | with_reducible exact tnM _ _ | with_reducible exact tnMA _ _ _ | exact rfl) (by omega) (by omega) (by first | rfl | (simp; done) | omega)) (by first | exact trivial | exact ⟨rfl, trivial⟩) rfl ?_
        refine Ch.pu (by exact gdT rfl rfl) (by exact ⟨rfl, trivial⟩) (OpS.loadS rfl rfl) (by first | exact trivial | exact ⟨rfl, trivial⟩) rfl ?_
        refine Ch.pu (by exact gdT rfl rfl) (by exact ⟨rfl, trivial⟩) (OpS.move) (by first | exact trivial | exact ⟨rfl, trivial⟩) rfl ?_
        refine Ch.pu (by exact gdT rfl rfl) (by exact ⟨rfl, trivial⟩) (OpS.move) (by first | exact trivial | exact ⟨rfl, trivial⟩) rfl ?_
        refine Ch.pu (by exact gdT rfl rfl) (by exact ⟨rfl, trivial⟩) (OpS.move) (by first | exact trivial | exact ⟨rfl, trivial⟩) rfl ?_
        refine Ch.pu (by exact gdT rfl rfl) (by exact ⟨rfl, rfl, trivial⟩) (OpS.rem (by omega) (by omega)) (by first | exact trivial | exact ⟨rfl, trivial⟩) rfl ?_
        refine Ch.pu (by exact gdT rfl rfl) (by exact ⟨rfl, rfl, trivial⟩) (OpS.int rfl (by first | exact wr64 (by omega) | exact rfl)) (by first | exact trivial | exact ⟨rfl, trivial⟩) rfl ?_
        refine Ch.pu (by exact gdT rfl rfl) (by exact ⟨rfl, rfl, trivial⟩) (OpS.int rfl (by first | exact wr64 (by omega) | exact rfl)) (by first | exact trivial | exact ⟨rfl, trivial⟩) rfl ?_
        refine Ch.pu (by exact gdT rfl rfl) (by exact ⟨rfl, trivial⟩) (OpS.move) (by first | exact trivial | exact ⟨rfl, trivial⟩) rfl ?_
        refine Ch.pu (by exact gdT rfl rfl) (by exact ⟨rfl, rfl, trivial⟩) (OpS.rem (by omega) (by omega)) (by first | exact trivial | exact ⟨rfl, trivial⟩) rfl ?_
        refine Ch.pu (by exact gdT rfl rfl) (by exact ⟨rfl, rfl, trivial⟩) (OpS.int rfl (by first | exact wr64 (by omega) | exact rfl)) (by first | exact trivial | exact ⟨rfl, trivial⟩) rfl ?_
        refine Ch.pu (by exact gdT rfl rfl) (by exact ⟨rfl, rfl, trivial⟩) (OpS.indexM (j := sib j) rfl rfl rfl (by omega) (by omega) (by omega) rfl) (by first | exact trivial | exact ⟨rfl, trivial⟩) rfl ?_
        refine Ch.pu (by exact gdT rfl rfl) (by exact ⟨rfl, trivial⟩) (OpS.loadS rfl rfl) (by first | exact trivial | exact ⟨rfl, trivial⟩) rfl ?_
        refine Ch.pu (by exact gdT rfl rfl) (by exact ⟨rfl, rfl, trivial⟩) (OpS.strEqB (c := true) (by first | (rw [hf1]; simp; done) | (have e : el (pathN (q + 1) L j) q = other := hlast; rw [e]; simp) | fail)) (by first | exact trivial | exact ⟨rfl, trivial⟩) rfl ?_
        refine Ch.pu gdN (by first | exact ⟨rfl, rfl, trivial⟩ | exact ⟨rfl, rfl, rfl, trivial⟩) (OpS.pickT) (by first | exact trivial | exact ⟨rfl, trivial⟩) rfl ?_
        refine Ch.pu gdN (by exact ⟨rfl, trivial⟩) (OpS.assign) (by first | exact trivial | exact ⟨rfl, trivial⟩) rfl ?_
        refine Ch.nilD ?_ (by kernel_rfl)
        refine WP.ret (Ret.one rfl (by first | exact .rfl _ | exact .nil | exact .of_eq (by simp; first | done | fail) | exact AV.wk.sh (by simp; first | done | fail) | exact .untip _ _ _) (by first | trivial | simp [AV.bel]) hnA)
end Go.Proofs.YtmifllopcbjliaaDoor.E
