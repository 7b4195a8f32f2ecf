import Derived.Test.YtcojfnjpcpochaaDoorZ4f50a267
import Derived.Test.YtcojfnjpcpochaaDoorZ1427d808
import Derived.Test.YtcojfnjpcpochaaDoorZf7befc0e
section
namespace Go.Proofs.YtcojfnjpcpochaaDoor.E
open Go Go.RowKit Go.Proofs.YtcojfnjpcpochaaDoor.V
attribute [local go_sem] B_size B_append B_extract mk_B B_toList take_drop_len List.length_drop List.length_take sgn32 sgn64 add32 sub32 mul32 add64 sub64 mul64 mul64_8 and32 or32 xor32 and64 or64 xor64 shl32_run shr32_run shl64_run shr64_run not32 not32' xor32_all w_u32_u8 w_u64_u8 w_i64_u8 w_u8_u32 w_u8_u64 w_u32_u64 w_u64_u32 w_u8_u8 w_u32_u32 w_u64_u64
attribute [local go_sem ↓] run_index_B' add32 sub32 mul32 add64 sub64 mul64 mul64_8 and32 or32 xor32 and64 or64 xor64 shl32_run shr32_run shl64_run shr64_run not32 not32' xor32_all w_u32_u8 w_u64_u8 w_i64_u8 w_u8_u32 w_u8_u64 w_u32_u64 w_u64_u32 w_u8_u8 w_u32_u32 w_u64_u64 w_u64_nat w_u32_nat w_u8_nat
set_option maxRecDepth 4000

def oc1 (x : UInt64) : UInt64 := (shr64 x 1 &&& 6148914691236517205) + (x &&& 6148914691236517205)
def oc2 (x : UInt64) : UInt64 := (shr64 x 2 &&& 3689348814741910323) + (x &&& 3689348814741910323)
def oc3 (x : UInt64) : UInt64 := (shr64 x 4 + x) &&& 1085102592571150095
def oc4 (x : UInt64) : UInt64 := x + shr64 x 8
def oc5 (x : UInt64) : UInt64 := x + shr64 x 16
def oc6 (x : UInt64) : UInt64 := x + shr64 x 32
def oc (n : Nat) : UInt64 := oc6 (oc5 (oc4 (oc3 (oc2 (oc1 (UInt64.ofNat n))))))
theorem oc_small : ∀ n : Nat, n ≤ 128 → (oc n).toNat < 2 ^ 63 ∧ (decide ((oc n).toNat &&& 127 = 1) = (mayN n)) := by
  intro n h
  have : ∀ n : Fin 129, (oc n.1).toNat < 2 ^ 63 ∧ (decide ((oc n.1).toNat &&& 127 = 1) = (mayN n.1)) := by decide +kernel
  exact this ⟨n, by omega⟩
attribute [local irreducible] oc1 oc2 oc3 oc4 oc5 oc6
theorem oc1_eq (x : UInt64) : (shr64 x 1 &&& 6148914691236517205) + (x &&& 6148914691236517205) = oc1 x := by unfold oc1; rfl
theorem oc2_eq (x : UInt64) : (shr64 x 2 &&& 3689348814741910323) + (x &&& 3689348814741910323) = oc2 x := by unfold oc2; rfl
theorem oc3_eq (x : UInt64) : (shr64 x 4 + x) &&& 1085102592571150095 = oc3 x := by unfold oc3; rfl
theorem oc4_eq (x : UInt64) : x + shr64 x 8 = oc4 x := by unfold oc4; rfl
theorem oc5_eq (x : UInt64) : x + shr64 x 16 = oc5 x := by unfold oc5; rfl
theorem oc6_eq (x : UInt64) : x + shr64 x 32 = oc6 x := by unfold oc6; rfl
theorem ones64_fc {G : List (Nat × Array Value)} (n : Nat) (hn : n ≤ 128) : FC Tryd.prog G 87 [.v (.int .u64 (U64 (UInt64.ofNat n)))] [] (.v (.int .i64 (((oc n).toNat &&& 127 : Nat) : Int))) [] := by
  have h63 := (oc_small n hn).1
  refine FC.of_wp [2] Tryd.func87 rfl rfl rfl rfl (by first | trivial | (simp; first | done | fail) | exact ⟨trivial, hbel _⟩) (by first | trivial | (simp; first | done | fail) | exact ⟨trivial, hbel _⟩) (by exact Nat.le_of_ble_eq_true rfl) ?_
  intro A hG hnA hAB
  unfold start
  refine WP.rs hG ?_
  refine Ch.asg rfl rfl ?_
  refine Ch.nil ?_
  refine WP.rs hG ?_
  refine Ch.mv rfl rfl ?_
  refine Ch.pu gdN (by exact ⟨rfl, rfl, trivial⟩) (OpS.shr_u64 (j := 1) (by decide) rfl) trivial rfl ?_
  refine Ch.pu gdN (by exact ⟨rfl, rfl, trivial⟩) (OpS.and_u64 (b := 6148914691236517205)) trivial rfl ?_
  refine Ch.mv rfl rfl ?_
  refine Ch.pu gdN (by exact ⟨rfl, rfl, trivial⟩) (OpS.and_u64 (b := 6148914691236517205)) trivial rfl ?_
  refine Ch.pu gdN (by exact ⟨rfl, rfl, trivial⟩) (OpS.add_u64) trivial rfl ?_
  refine Ch.asg rfl rfl ?_
  refine Ch.nil ?_
  rw [oc1_eq]
  refine WP.rs hG ?_
  refine Ch.mv rfl rfl ?_
  refine Ch.pu gdN (by exact ⟨rfl, rfl, trivial⟩) (OpS.shr_u64 (j := 2) (by decide) rfl) trivial rfl ?_
  refine Ch.pu gdN (by exact ⟨rfl, rfl, trivial⟩) (OpS.and_u64 (b := 3689348814741910323)) trivial rfl ?_
  refine Ch.mv rfl rfl ?_
  refine Ch.pu gdN (by exact ⟨rfl, rfl, trivial⟩) (OpS.and_u64 (b := 3689348814741910323)) trivial rfl ?_
  refine Ch.pu gdN (by exact ⟨rfl, rfl, trivial⟩) (OpS.add_u64) trivial rfl ?_
  refine Ch.asg rfl rfl ?_
  refine Ch.nil ?_
  rw [oc2_eq]
  refine WP.rs hG ?_
  refine Ch.mv rfl rfl ?_
  refine Ch.pu gdN (by exact ⟨rfl, rfl, trivial⟩) (OpS.shr_u64 (j := 4) (by decide) rfl) trivial rfl ?_
  refine Ch.mv rfl rfl ?_
  refine Ch.pu gdN (by exact ⟨rfl, rfl, trivial⟩) (OpS.add_u64) trivial rfl ?_
  refine Ch.pu gdN (by exact ⟨rfl, rfl, trivial⟩) (OpS.and_u64 (b := 1085102592571150095)) trivial rfl ?_
  refine Ch.asg rfl rfl ?_
  refine Ch.nil ?_
  rw [oc3_eq]
  refine WP.rs hG ?_
  refine Ch.mv rfl rfl ?_
  refine Ch.mv rfl rfl ?_
  refine Ch.pu gdN (by exact ⟨rfl, rfl, trivial⟩) (OpS.shr_u64 (j := 8) (by decide) rfl) trivial rfl ?_
  refine Ch.pu gdN (by exact ⟨rfl, rfl, trivial⟩) (OpS.add_u64) trivial rfl ?_
  refine Ch.asg rfl rfl ?_
  refine Ch.nil ?_
  rw [oc4_eq]
  refine WP.rs hG ?_
  refine Ch.mv rfl rfl ?_
  refine Ch.mv rfl rfl ?_
  refine Ch.pu gdN (by exact ⟨rfl, rfl, trivial⟩) (OpS.shr_u64 (j := 16) (by decide) rfl) trivial rfl ?_
  refine Ch.pu gdN (by exact ⟨rfl, rfl, trivial⟩) (OpS.add_u64) trivial rfl ?_
  refine Ch.asg rfl rfl ?_
  refine Ch.nil ?_
  rw [oc5_eq]
  refine WP.rs hG ?_
  refine Ch.mv rfl rfl ?_
  refine Ch.mv rfl rfl ?_
  refine Ch.pu gdN (by exact ⟨rfl, rfl, trivial⟩) (OpS.shr_u64 (j := 32) (by decide) rfl) trivial rfl ?_
  refine Ch.pu gdN (by exact ⟨rfl, rfl, trivial⟩) (OpS.add_u64) trivial rfl ?_
  refine Ch.asg rfl rfl ?_
  refine Ch.nil ?_
  rw [oc6_eq]
  have hoc : oc6 (oc5 (oc4 (oc3 (oc2 (oc1 (UInt64.ofNat n)))))) = oc n := rfl
  rw [hoc]
  refine WP.rs hG ?_
  refine Ch.mv rfl rfl ?_
  refine Ch.pu gdN (by exact ⟨rfl, trivial⟩) (OpS.conv (k := .i64) rfl rfl (cv_i64_64 (oc n) h63)) trivial rfl ?_
  refine Ch.pu gdN (by exact ⟨rfl, rfl, trivial⟩) (OpS.andN (a := (oc n).toNat) (b := 127) h63 (by decide)) (by first | exact trivial | exact ⟨rfl, trivial⟩) rfl ?_
  refine Ch.asg rfl rfl ?_
  refine Ch.nil ?_
  refine WP.ret (Ret.one rfl (by first | exact .rfl _ | exact .nil | exact .of_eq (by simp; first | done | fail) | exact AV.wk.sh (by simp; first | done | fail) | exact .untip _ _ _) (by first | trivial | simp [AV.bel]) hnA)
theorem ones_fc {G : List (Nat × Array Value)} (n : Nat) (hn : n ≤ 128) : FC Tryd.prog G 75 [.v (.int .u64 (U64 (UInt64.ofNat n)))] [] (.v (.int .i64 (((oc n).toNat &&& 127 : Nat) : Int))) [] := by
  refine FC.of_wp [2] Tryd.func75 rfl rfl rfl rfl (by first | trivial | (simp; first | done | fail) | exact ⟨trivial, hbel _⟩) (by first | trivial | (simp; first | done | fail) | exact ⟨trivial, hbel _⟩) (by exact Nat.le_of_ble_eq_true rfl) ?_
  intro A hG hnA hAB
  unfold start
  refine WP.rs hG ?_
  refine Ch.asg rfl rfl ?_
  refine Ch.nil ?_
  refine WP.seq ?_
  refine WP.cond_false rfl ?_
  refine WP.skip ?_
  refine WP.rs hG ?_
  refine Ch.mv rfl rfl ?_
  refine Ch.callP (ones64_fc n hn) gdN (by repeat (first | exact EvL.nil | (apply EvL.cons; exact rfl))) (by exact (And.intro (by first | exact .rfl _ | exact .untip _ _ _ | exact .nil | exact .func _ | exact AV.wk.sh (renL_s _ _) | exact AV.wk.sh (by simp; first | done | fail)) trivial)) (by rfl) rfl ?_
  refine Ch.asg rfl rfl ?_
  refine Ch.nil ?_
  refine WP.ret (Ret.one rfl (by first | exact .rfl _ | exact .nil | exact .of_eq (by simp; first | done | fail) | exact AV.wk.sh (by simp; first | done | fail) | exact .untip _ _ _) (by first | trivial | simp [AV.bel]) hnA)
theorem mayA_fc {G : List (Nat × Array Value)} : FC Tryd.prog G 52 [.v (.int .i64 ((0 : Nat) : Int))] [] (.v (.bool false)) [] := by
  refine FC.of_wp [2] Tryd.func52 rfl rfl rfl rfl (by first | trivial | (simp; first | done | fail) | exact ⟨trivial, hbel _⟩) (by first | trivial | (simp; first | done | fail) | exact ⟨trivial, hbel _⟩) (by exact Nat.le_of_ble_eq_true rfl) ?_
  intro A hG hnA hAB
  unfold start
  refine WP.rs hG ?_
  refine Ch.asg rfl rfl ?_
  refine Ch.nil ?_
  refine WP.rs hG ?_
  refine Ch.mv rfl rfl ?_
  refine Ch.pu gdN (by exact ⟨rfl, rfl, trivial⟩) (OpS.int (v' := .bool false) rfl (by simp; first | done | fail)) trivial rfl ?_
  refine Ch.mv rfl rfl ?_
  refine Ch.skU (gdF rfl rfl rfl) rfl ?_
  refine Ch.skU (gdF rfl rfl rfl) rfl ?_
  refine Ch.pu gdN (by first | exact ⟨rfl, rfl, trivial⟩ | exact ⟨rfl, rfl, rfl, trivial⟩) (OpS.pickF) trivial rfl ?_
  refine Ch.mv rfl rfl ?_
  refine Ch.skU (gdF rfl rfl rfl) rfl ?_
  refine Ch.skU (gdF rfl rfl rfl) rfl ?_
  refine Ch.skU (gdF rfl rfl rfl) rfl ?_
  refine Ch.skU (gdF rfl rfl rfl) rfl ?_
  refine Ch.pu gdN (by first | exact ⟨rfl, rfl, trivial⟩ | exact ⟨rfl, rfl, rfl, trivial⟩) (OpS.pickF) trivial rfl ?_
  refine Ch.asg rfl rfl ?_
  refine Ch.nil ?_
  refine WP.ret (Ret.one rfl (by first | exact .rfl _ | exact .nil | exact .of_eq (by simp; first | done | fail) | exact AV.wk.sh (by simp; first | done | fail) | exact .untip _ _ _) (by first | trivial | simp [AV.bel]) hnA)
theorem mayB_fc {G : List (Nat × Array Value)} (n : Nat) (hn : 128 < n) : FC Tryd.prog G 52 [.v (.int .i64 (n : Int))] [] (.v (.bool false)) [] := by
  refine FC.of_wp [2] Tryd.func52 rfl rfl rfl rfl (by first | trivial | (simp; first | done | fail) | exact ⟨trivial, hbel _⟩) (by first | trivial | (simp; first | done | fail) | exact ⟨trivial, hbel _⟩) (by exact Nat.le_of_ble_eq_true rfl) ?_
  intro A hG hnA hAB
  unfold start
  refine WP.rs hG ?_
  refine Ch.asg rfl rfl ?_
  refine Ch.nil ?_
  refine WP.rs hG ?_
  refine Ch.mv rfl rfl ?_
  refine Ch.pu gdN (by exact ⟨rfl, rfl, trivial⟩) (OpS.int (op := .geq) (v' := .bool true) rfl (by simp; omega)) trivial rfl ?_
  refine Ch.mv rfl rfl ?_
  refine Ch.pu (by exact gdT rfl rfl) (by exact ⟨rfl, trivial⟩) (OpS.move) trivial rfl ?_
  refine Ch.pu (by exact gdT rfl rfl) (by exact ⟨rfl, rfl, trivial⟩) (OpS.int (op := .leq) (v' := .bool false) rfl (by simp; omega)) trivial rfl ?_
  refine Ch.pu gdN (by first | exact ⟨rfl, rfl, trivial⟩ | exact ⟨rfl, rfl, rfl, trivial⟩) (OpS.pickT) trivial rfl ?_
  refine Ch.mv rfl rfl ?_
  refine Ch.skU (gdF rfl rfl rfl) rfl ?_
  refine Ch.skU (gdF rfl rfl rfl) rfl ?_
  refine Ch.skU (gdF rfl rfl rfl) rfl ?_
  refine Ch.skU (gdF rfl rfl rfl) rfl ?_
  refine Ch.pu gdN (by first | exact ⟨rfl, rfl, trivial⟩ | exact ⟨rfl, rfl, rfl, trivial⟩) (OpS.pickF) trivial rfl ?_
  refine Ch.asg rfl rfl ?_
  refine Ch.nil ?_
  refine WP.ret (Ret.one rfl (by first | exact .rfl _ | exact .nil | exact .of_eq (by simp; first | done | fail) | exact AV.wk.sh (by simp; first | done | fail) | exact .untip _ _ _) (by first | trivial | simp [AV.bel]) hnA)
theorem mayC_fc {G : List (Nat × Array Value)} (n : Nat) (h0 : 1 ≤ n) (hn : n ≤ 128) : FC Tryd.prog G 52 [.v (.int .i64 (n : Int))] [] (.v (.bool (mayN n))) [] := by
  have hoc := (oc_small n hn).2
  refine FC.of_wp [2] Tryd.func52 rfl rfl rfl rfl (by first | trivial | (simp; first | done | fail) | exact ⟨trivial, hbel _⟩) (by first | trivial | (simp; first | done | fail) | exact ⟨trivial, hbel _⟩) (by exact Nat.le_of_ble_eq_true rfl) ?_
  intro A hG hnA hAB
  unfold start
  refine WP.rs hG ?_
  refine Ch.asg rfl rfl ?_
  refine Ch.nil ?_
  refine WP.rs hG ?_
  refine Ch.mv rfl rfl ?_
  refine Ch.pu gdN (by exact ⟨rfl, rfl, trivial⟩) (OpS.int (op := .geq) (v' := .bool true) rfl (by simp; omega)) trivial rfl ?_
  refine Ch.mv rfl rfl ?_
  refine Ch.pu (by exact gdT rfl rfl) (by exact ⟨rfl, trivial⟩) (OpS.move) trivial rfl ?_
  refine Ch.pu (by exact gdT rfl rfl) (by exact ⟨rfl, rfl, trivial⟩) (OpS.int (op := .leq) (v' := .bool true) rfl (by simp; omega)) trivial rfl ?_
  refine Ch.pu gdN (by first | exact ⟨rfl, rfl, trivial⟩ | exact ⟨rfl, rfl, rfl, trivial⟩) (OpS.pickT) trivial rfl ?_
  refine Ch.mv rfl rfl ?_
  refine Ch.pu (by exact gdT rfl rfl) (by exact ⟨rfl, trivial⟩) (OpS.move) trivial rfl ?_
  refine Ch.pu (by exact gdT rfl rfl) (by exact ⟨rfl, trivial⟩) (OpS.conv rfl rfl (by first | exact cv_u32_u8 _ | exact cv_u64_u8 _ | exact cv_i64_u8 _ | exact cv_u8_u32 _ | exact cv_u8_u64 _ | exact cv_u32_u64 _ | exact cv_u64_u32 _ | exact cv_u8_u8 _ | exact cv_u32_u32 _ | exact cv_u64_u64 _ | exact wr64 (by omega) | exact cv_u64_nat _ | exact cv_u32_nat _ | exact cv_u8_nat _ | exact rfl)) trivial rfl ?_
  refine Ch.callP (ones_fc n hn) (by exact gdT rfl rfl) (by repeat (first | exact EvL.nil | (apply EvL.cons; exact rfl))) (by exact (And.intro (by first | exact .rfl _ | exact .untip _ _ _ | exact .nil | exact .func _ | exact AV.wk.sh (renL_s _ _) | exact AV.wk.sh (by simp; first | done | fail)) trivial)) (by rfl) rfl ?_
  refine Ch.pu (by exact gdT rfl rfl) (by exact ⟨rfl, rfl, trivial⟩) (OpS.int (op := .eql) (v' := .bool (mayN n)) rfl (by rw [← hoc]; exact natb_eq _ 1)) trivial rfl ?_
  refine Ch.pu gdN (by first | exact ⟨rfl, rfl, trivial⟩ | exact ⟨rfl, rfl, rfl, trivial⟩) (OpS.pickT) trivial rfl ?_
  refine Ch.asg rfl rfl ?_
  refine Ch.nil ?_
  refine WP.ret (Ret.one rfl (by first | exact .rfl _ | exact .nil | exact .of_eq (by simp; first | done | fail) | exact AV.wk.sh (by simp; first | done | fail) | exact .untip _ _ _) (by first | trivial | simp [AV.bel]) hnA)
theorem may_fc {G : List (Nat × Array Value)} (n : Nat) : FC Tryd.prog G 52 [.v (.int .i64 (n : Int))] [] (.v (.bool (mayN n))) [] := by
  by_cases h0 : n = 0
  · subst h0; exact mayA_fc
  · by_cases h1 : n ≤ 128
    · exact mayC_fc n (by omega) h1
    · have : mayN n = false := by
        cases h : mayN n with
        | false => rfl
        | true =>
          obtain ⟨k, hk, rfl⟩ := mayN_iff.1 h
          have := Nat.pow_le_pow_right (n := 2) (by decide) hk
          omega
      rw [this]
      exact mayB_fc n (by omega)
theorem mayT_fc {G : List (Nat × Array Value)} (n : Nat) (h : mayN n = true) : FC Tryd.prog G 52 [.v (.int .i64 (n : Int))] [] (.v (.bool true)) [] := by
  have := may_fc (G := G) n
  rwa [h] at this
theorem mayF_fc {G : List (Nat × Array Value)} (n : Nat) (h : mayN n = false) : FC Tryd.prog G 52 [.v (.int .i64 (n : Int))] [] (.v (.bool false)) [] := by
  have := may_fc (G := G) n
  rwa [h] at this
theorem inp2_le {a b : Txt} (h : a.length + b.length ≤ 140737488355300) : (input 5 [a, b]).length ≤ 140737488355328 := by
  have := inp2_length a b
  unfold inp2 at this
  omega
attribute [local irreducible] sum tag input
theorem tinput_fc {G : List (Nat × Array Value)} (a b : Txt) (h : a.length + b.length ≤ 140737488355300) : FC Tryd.prog G 77 [sA a, sA b] [] (sA (inp2 a b)) [] := by
  refine FC.of_wp [4] Tryd.func77 rfl rfl rfl rfl (by first | trivial | (simp; first | done | fail) | exact ⟨trivial, hbel _⟩) (by first | trivial | (simp; first | done | fail) | exact ⟨trivial, hbel _⟩) (by exact Nat.le_of_ble_eq_true rfl) ?_
  intro A hG hnA hAB
  unfold start
  refine WP.rs hG ?_
  refine Ch.asg rfl rfl ?_
  refine Ch.nil ?_
  refine WP.rs hG ?_
  refine Ch.mv rfl rfl ?_
  refine Ch.mv rfl rfl ?_
  refine Ch.pup gdN (by repeat (first | exact EvP.nil | (apply EvP.cons; exact rfl))) (OpS.slice1 rfl rfl rfl rfl rfl rfl (by rfl) rfl (by rfl)) rfl ?_
  refine Ch.callP (input_fc 5 [a, b] (inp2_le h)) gdN (by repeat (first | exact EvL.nil | (apply EvL.cons; exact rfl))) (by exact (And.intro (by first | exact .rfl _ | exact .untip _ _ _ | exact .nil | exact .func _ | exact AV.wk.sh (renL_s _ _) | exact AV.wk.sh (by simp; first | done | fail)) (And.intro (by first | exact .rfl _ | exact .untip _ _ _ | exact .nil | exact .func _ | exact AV.wk.sh (renL_s _ _) | exact AV.wk.sh (by simp; first | done | fail)) trivial))) (by rfl) rfl ?_
  refine Ch.asg rfl rfl ?_
  refine Ch.nil ?_
  refine WP.ret (Ret.one rfl (by first | exact .rfl _ | exact .nil | exact .of_eq (by simp; first | done | fail) | exact AV.wk.sh (by simp; first | done | fail) | exact .untip _ _ _) (by first | trivial | simp [AV.bel]) hnA)
theorem node_fc {G : List (Nat × Array Value)} (hm : ShaIn G) (a b : Txt) (h : a.length + b.length ≤ 140737488355300) : FC Tryd.prog G 54 [sA a, sA b] [] (sA (node a b)) [] := by
  have hl := inp2_le h
  refine FC.of_wp [4] Tryd.func54 rfl rfl rfl rfl (by first | trivial | (simp; first | done | fail) | exact ⟨trivial, hbel _⟩) (by first | trivial | (simp; first | done | fail) | exact ⟨trivial, hbel _⟩) (by exact Nat.le_of_ble_eq_true rfl) ?_
  intro A hG hnA hAB
  unfold start
  refine WP.rs hG ?_
  refine Ch.asg rfl rfl ?_
  refine Ch.nil ?_
  refine WP.rs hG ?_
  refine Ch.mv rfl rfl ?_
  refine Ch.mv rfl rfl ?_
  refine Ch.callP (tinput_fc a b h) gdN (by repeat (first | exact EvL.nil | (apply EvL.cons; exact rfl))) (by exact (And.intro (by first | exact .rfl _ | exact .untip _ _ _ | exact .nil | exact .func _ | exact AV.wk.sh (renL_s _ _) | exact AV.wk.sh (by simp; first | done | fail)) (And.intro (by first | exact .rfl _ | exact .untip _ _ _ | exact .nil | exact .func _ | exact AV.wk.sh (renL_s _ _) | exact AV.wk.sh (by simp; first | done | fail)) trivial))) (by rfl) rfl ?_
  refine Ch.callP (sum_fc hm (inp2 a b) (by unfold inp2; omega)) gdN (by repeat (first | exact EvL.nil | (apply EvL.cons; exact rfl))) (by exact (And.intro (by first | exact .rfl _ | exact .untip _ _ _ | exact .nil | exact .func _ | exact AV.wk.sh (renL_s _ _) | exact AV.wk.sh (by simp; first | done | fail)) trivial)) (by rfl) rfl ?_
  refine Ch.asg rfl rfl ?_
  refine Ch.nil ?_
  exact WP.ret (Ret.one rfl (.of_eq (by simp [node_eq])) trivial hnA)
theorem pairs_fc0 {G : List (Nat × Array Value)} (f : Txt → Txt → Txt) (g : FuncId) (l : List Txt) (hl : l.length ≤ 1000000) (hf : ∀ j, 2 * j + 1 < l.length → FC Tryd.prog G g [sA (tget l (2 * j)), sA (tget l (2 * j + 1))] [] (sA (f (tget l (2 * j)) (tget l (2 * j + 1)))) []) :
    FC Tryd.prog G 53 [.sl none l.length (l.map sA), .v (.func (.func g) #[] #[])] [] (.sl (some 0) (pairsL f l).length ((pairsL f l).map sA)) [some (.tip 9 1 (pairsL f l).length)] := by
  refine FC.of_wp [4] Tryd.func53 rfl rfl rfl rfl ⟨⟨by simp, belL_s _ _⟩, trivial, trivial⟩ trivial (by exact Nat.le_of_ble_eq_true rfl) ?_
  intro A hG hnA hAB
  unfold start
  refine WP.rs hG ?_
  refine Ch.asg rfl rfl ?_
  refine Ch.nil ?_
  refine WP.rs hG ?_
  refine Ch.mv rfl rfl ?_
  refine Ch.pu gdN (by exact ⟨rfl, trivial⟩) (OpS.len rfl) trivial rfl ?_
  refine Ch.pu gdN (by exact ⟨rfl, rfl, trivial⟩) (OpS.quo (by omega) (by omega) (by omega)) trivial rfl ?_
  refine Ch.al gdN (by exact ⟨rfl, rfl, trivial⟩) (OpS.makeTip (n := l.length / 2) (bb := 16) 0 rfl rfl rfl rfl rfl (by simp) rfl (by omega) (by unfold maxLen; omega)) (by first | exact trivial | exact ⟨rfl, trivial⟩) (by first | exact trivial | exact ⟨rfl, trivial⟩ | exact ⟨rfl, rfl, trivial⟩) rfl ?_
  refine Ch.asg rfl rfl ?_
  refine Ch.nil ?_
  refine WP.seq ?_
  refine WP.rs hG ?_
  refine Ch.asg rfl rfl ?_
  refine Ch.nil ?_
  refine WP.block ?_
  refine WP.loop (fun k σ => ∃ m ii : Nat, (ii = 2 * m + 1 ∧ m + k = l.length / 2) ∧ σ = ⟨32, ls [(0, .sl none l.length (l.map sA)), (1, .v (.func (.func g) #[] #[])), (5, .sl (some 0) m ((pairsL f (l.take (2 * m))).map sA)), (6, .v (.int .i64 (ii : Int)))], lh [(0, .tip 9 1 m)], blt 1⟩) (l.length / 2) (Ent.of [] ?_ ?_ ?_ ?_).se ⟨0, 1, by omega, rfl⟩ ?_
  · exact (fun i hi => by rw [hnA] at hi; simp only [List.length_cons, List.length_nil] at hi ⊢; first | exact absurd hi (Nat.not_lt_zero _) | (revert i; decide))
  · (repeat (first | exact trivial | (refine And.intro ⟨(by first | trivial | (simp; first | done | fail) | exact ⟨trivial, hbel _⟩), _, rfl, (by first | exact .rfl _ | exact .nil | exact .of_eq (by simp [pairsL]; first | done | fail) | exact AV.wk.sh (by simp [pairsL]; first | done | fail) | exact .untip _ _ _)⟩ ?_)))
  · (repeat (first | exact trivial | (refine And.intro ⟨rfl, (by first | trivial | (simp; first | done | fail) | exact ⟨trivial, hbel _⟩), (by first | rfl | (simp [pairsL]; first | done | fail))⟩ ?_)))
  · simp [rn]
  · rintro k σ ⟨m, ii, ⟨hi, hm⟩, rfl⟩
    refine WP.seq ?_
    refine WP.rs hG ?_
    refine Ch.mv rfl rfl ?_
    refine Ch.mv rfl rfl ?_
    refine Ch.pu gdN (by exact ⟨rfl, trivial⟩) (OpS.len rfl) trivial rfl ?_
    refine Ch.pu gdN (by exact ⟨rfl, rfl, trivial⟩) (OpS.int rfl (by first | exact wr64 (by omega) | exact rfl)) trivial rfl ?_
    refine Ch.nil ?_
    refine WP.cond rfl ?_ ?_
    · intro ht
      have ht' := of_decide_eq_true ht
      have hc := pairsL_step f l m (by omega)
      have hfm := hf m (by omega)
      have hpl : (pairsL f (l.take (2 * m))).length = m := by rw [pairsL_length, List.length_take]; omega
      have e1 : tget l (2 * m) = el l (ii - 1) := by rw [show ii - 1 = 2 * m by omega]; rfl
      have e2 : tget l (2 * m + 1) = el l ii := by rw [hi]; rfl
      rw [e1, e2] at hc hfm
      refine WP.skip ?_
      refine WP.seq ?_
      refine WP.block ?_
      refine WP.rgD (by kernel_rfl) hG ?_
      refine Ch.mv rfl rfl ?_
      refine Ch.mv rfl rfl ?_
      refine Ch.mv rfl rfl ?_
      refine Ch.mv rfl rfl ?_
      refine Ch.pu gdN (by exact ⟨rfl, rfl, trivial⟩) (OpS.int rfl (by first | exact wr64 (by omega) | exact rfl)) trivial rfl ?_
      refine Ch.pu gdN (by exact ⟨rfl, rfl, trivial⟩) (OpS.indexM rfl rfl rfl (by first | with_reducible exact Int.toNat_natCast _ | with_reducible exact tnLit _ _ | with_reducible exact tnLitA _ _ | with_reducible exact tnL _ | with_reducible exact tnA _ _ | with_reducible exact tnM _ _ | with_reducible exact tnMA _ _ _ | exact rfl) (by omega) (by omega) (by first | rfl | (simp; done) | omega)) trivial rfl ?_
      refine Ch.pu gdN (by exact ⟨rfl, trivial⟩) (OpS.loadS rfl rfl) trivial rfl ?_
      refine Ch.mv rfl rfl ?_
      refine Ch.mv rfl rfl ?_
      refine Ch.pu gdN (by exact ⟨rfl, rfl, trivial⟩) (OpS.indexM rfl rfl rfl (by first | with_reducible exact Int.toNat_natCast _ | with_reducible exact tnLit _ _ | with_reducible exact tnLitA _ _ | with_reducible exact tnL _ | with_reducible exact tnA _ _ | with_reducible exact tnM _ _ | with_reducible exact tnMA _ _ _ | exact rfl) (by omega) (by omega) (by first | rfl | (simp; done) | omega)) trivial rfl ?_
      refine Ch.pu gdN (by exact ⟨rfl, trivial⟩) (OpS.loadS rfl rfl) trivial rfl ?_
      refine Ch.callD (hfm) gdN (by repeat (first | exact EvL.nil | (apply EvL.cons; exact rfl))) (by exact (And.intro (by first | exact .rfl _ | exact .untip _ _ _ | exact .nil | exact .func _ | exact AV.wk.sh (renL_s _ _) | exact AV.wk.sh (by simp; first | done | fail)) (And.intro (by first | exact .rfl _ | exact .untip _ _ _ | exact .nil | exact .func _ | exact AV.wk.sh (renL_s _ _) | exact AV.wk.sh (by simp; first | done | fail)) trivial))) (by rfl) rfl ?_
      refine Ch.pup gdN (by repeat (first | exact EvP.nil | (apply EvP.cons; exact rfl))) (OpS.slice1 rfl rfl rfl rfl rfl rfl (by rfl) rfl (by rfl)) rfl ?_
      refine Ch.al gdN (by exact ⟨rfl, rfl, trivial⟩) (OpS.append (sz := 1) (bb := 16) 1 rfl rfl rfl rfl rfl (by decide) (SrcA.sl rfl (by simp)) (by first | (simp; done) | (simp; assumption)) (by simp) (by unfold maxLen; omega) rfl (by omega)) (by first | exact trivial | exact ⟨rfl, trivial⟩) (by first | exact trivial | exact ⟨rfl, trivial⟩ | exact ⟨rfl, rfl, trivial⟩) rfl ?_
      refine Ch.asg rfl rfl ?_
      refine Ch.nilD ?_ (by kernel_rfl)
      refine WP.rg hG ?_
      refine Ch.mv rfl rfl ?_
      refine Ch.pu gdN (by exact ⟨rfl, rfl, trivial⟩) (OpS.int rfl (by first | exact wr64 (by omega) | exact rfl)) trivial rfl ?_
      refine Ch.asg rfl rfl ?_
      refine Ch.nil ?_
      refine ⟨k - 1, _, by omega, (Ent.of [1] ?_ ?_ ?_ ?_).se, m + 1, ii + 2, by omega, rfl⟩
      · exact (fun i hi => by rw [hnA] at hi; simp only [List.length_cons, List.length_nil] at hi ⊢; first | exact absurd hi (Nat.not_lt_zero _) | (revert i; decide))
      · (repeat (first | exact trivial | (refine And.intro ⟨(by first | trivial | (simp; first | done | fail) | exact ⟨trivial, hbel _⟩), _, rfl, (by first | exact .rfl _ | exact .nil | exact .of_eq (by simp [hc]; first | done | fail) | exact AV.wk.sh (by simp [hc]; first | done | fail) | exact .untip _ _ _)⟩ ?_)))
      · (repeat (first | exact trivial | (refine And.intro ⟨rfl, (by first | trivial | (simp; first | done | fail) | exact ⟨trivial, hbel _⟩), (by first | rfl | (simp [hc]; first | done | fail))⟩ ?_)))
      · simp [rn]
    · intro ht
      have ht' := of_decide_eq_false ht
      have hc := pairsL_last f l m (by omega) (by omega)
      have hpl : (pairsL f l).length = m := by rw [pairsL_length]; omega
      refine WP.exit ?_
      refine WP.rs hG ?_
      refine Ch.mv rfl rfl ?_
      refine Ch.asg rfl rfl ?_
      refine Ch.nil ?_
      rw [hpl]
      exact WP.ret (Ret.row 0 rfl (.of_eq (by simp [hc])) (by first | trivial | (simp; first | done | fail) | exact ⟨trivial, hbel _⟩) rfl trivial hnA)
theorem pairs_fc {G : List (Nat × Array Value)} (f : Txt → Txt → Txt) (g : FuncId) (l : List Txt) (hl : l.length ≤ 1000000) (hf : ∀ j, 2 * j + 1 < l.length → FC Tryd.prog G g [sA (tget l (2 * j)), sA (tget l (2 * j + 1))] [] (sA (f (tget l (2 * j)) (tget l (2 * j + 1)))) []) :
    FC Tryd.prog G 53 [.sl none l.length (l.map sA), .v (.func (.func g) #[] #[])] [] (.sl none (pairsL f l).length ((pairsL f l).map sA)) [] :=
  (pairs_fc0 f g l hl hf).shut (belL_s _ _) (renL_s _ _)
def Mid (l : List Txt) : Prop := ∀ x ∈ l, x.length ≤ 70368744177600
theorem Mid.two {l : List Txt} (h : Mid l) {i j : Nat} (hi : i < l.length) (hj : j < l.length) : (tget l i).length + (tget l j).length ≤ 140737488355300 := by
  have := h _ (tget_mem hi)
  have := h _ (tget_mem hj)
  omega
theorem Mid.pairs {l : List Txt} : Mid (pairsL node l) := fun x hx => by rw [pairs_mem_length x hx]; omega
theorem Mid.of32 {l : List Txt} (h : ∀ x ∈ l, x.length = 32) : Mid l := fun x hx => by rw [h x hx]; omega
theorem pairsNode_fc {G : List (Nat × Array Value)} (hm : ShaIn G) (l : List Txt) (hl : l.length ≤ 1000000) (h : Mid l) :
    FC Tryd.prog G 53 [.sl none l.length (l.map sA), .v (.func (.func 54) #[] #[])] [] (.sl none (pairsL node l).length ((pairsL node l).map sA)) [] :=
  pairs_fc node 54 l hl fun j hj => node_fc hm _ _ (h.two (by omega) hj)
end Go.Proofs.YtcojfnjpcpochaaDoor.E
end
section
namespace Go.Proofs.YtcojfnjpcpochaaDoor.E
open Go Go.RowKit Go.Proofs.YtcojfnjpcpochaaDoor.V
attribute [local go_sem] B_size B_append B_extract mk_B B_toList take_drop_len List.length_drop List.length_take sgn32 sgn64 add32 sub32 mul32 add64 sub64 mul64 mul64_8 and32 or32 xor32 and64 or64 xor64 shl32_run shr32_run shl64_run shr64_run not32 not32' xor32_all w_u32_u8 w_u64_u8 w_i64_u8 w_u8_u32 w_u8_u64 w_u32_u64 w_u64_u32 w_u8_u8 w_u32_u32 w_u64_u64
attribute [local go_sem ↓] run_index_B' add32 sub32 mul32 add64 sub64 mul64 mul64_8 and32 or32 xor32 and64 or64 xor64 shl32_run shr32_run shl64_run shr64_run not32 not32' xor32_all w_u32_u8 w_u64_u8 w_i64_u8 w_u8_u32 w_u8_u64 w_u32_u64 w_u64_u32 w_u8_u8 w_u32_u32 w_u64_u64 w_u64_nat w_u32_nat w_u8_nat
set_option maxRecDepth 4000

theorem pow_gt {k : Nat} (h : ¬ (2 ^ k : Nat) ≤ 1) : ∃ j, k = j + 1 := by
  cases k with
  | zero => exact absurd (Nat.le_refl 1) h
  | succ j => exact ⟨j, rfl⟩
theorem pow_le {k : Nat} (h : (2 ^ k : Nat) ≤ 1) : k = 0 := by
  cases k with
  | zero => rfl
  | succ j =>
    have := Nat.pow_pos (n := j) (show 0 < 2 by decide)
    rw [Nat.pow_succ] at h
    omega
theorem pow7 {k : Nat} (h : k ≤ 7) : (2 ^ k : Nat) ≤ 128 := Nat.pow_le_pow_right (n := 2) (by decide) h
theorem mayL {l : List Txt} {h : Nat} (hh : h ≤ 7) (hl : l.length = 2 ^ h) : mayN l.length = true := by rw [hl]; exact mayN_pow hh
attribute [local irreducible] sum tag input node rootN pathN inputsN climbL climbedL
theorem rootN_0 (l : List Txt) : rootN 0 l = tget l 0 := by unfold rootN; rfl
theorem rootN_s (n : Nat) (l : List Txt) : rootN (n + 1) l = rootN n (pairsL node l) := by rw [rootN]
theorem pathN_0 (l : List Txt) (i : Nat) : pathN 0 l i = [] := by unfold pathN; rfl
theorem pathN_s (n : Nat) (l : List Txt) (i : Nat) : pathN (n + 1) l i = tget l (sib i) :: pathN n (pairsL node l) (i / 2) := by rw [pathN]
theorem climbL_0 (x : Txt) (i : Nat) : climbL x i [] = x := by unfold climbL; rfl
theorem climbL_s (x : Txt) (i : Nat) (s : Txt) (p : List Txt) : climbL x i (s :: p) = climbL (par x i s) (i / 2) p := by rw [climbL]
theorem xor_sib (i : Nat) : i ^^^ 1 = sib i := by
  have h2 : (i ^^^ 1) / 2 = i / 2 := by rw [Nat.xor_div_two]; simp
  have h1 : (i ^^^ 1) % 2 = (i % 2 + 1) % 2 := by
    have h3 : (i ^^^ 1) % 2 = i % 2 ^^^ 1 % 2 := Nat.xor_mod_two_pow (n := 1)
    have h4 : i % 2 = 0 ∨ i % 2 = 1 := by omega
    rcases h4 with h4 | h4 <;> rw [h3, h4] <;> rfl
  unfold sib
  split <;> omega
theorem drop_el {l : List Txt} {m : Nat} (h : m < l.length) : l.drop m = el l m :: l.drop (m + 1) := by
  rw [List.drop_eq_getElem_cons h]
  simp [el, h]

theorem rootY_fc {G : List (Nat × Array Value)} (hm : ShaIn G) (l : List Txt) (h : Nat) (hh : h ≤ 7) (hl : l.length = 2 ^ h) (hok : Mid l) : FC Tryd.prog G 27 [.sl none l.length (l.map sA)] [] (sA (rootN h l)) [] := by
  have hmay := mayL hh hl
  refine FC.of_wp [2] Tryd.func27 rfl rfl rfl rfl ⟨⟨by simp, belL_s _ _⟩, trivial⟩ trivial (by exact Nat.le_of_ble_eq_true rfl) ?_
  intro A hG hnA hAB
  unfold start
  refine WP.rs hG ?_
  refine Ch.asg rfl rfl ?_
  refine Ch.nil ?_
  refine WP.seq ?_
  refine WP.rs hG ?_
  refine Ch.mv rfl rfl ?_
  refine Ch.pu gdN (by exact ⟨rfl, trivial⟩) (OpS.len rfl) trivial rfl ?_
  refine Ch.callP (mayT_fc l.length hmay) gdN (by repeat (first | exact EvL.nil | (apply EvL.cons; exact rfl))) (by exact (And.intro (by first | exact .rfl _ | exact .untip _ _ _ | exact .nil | exact .func _ | exact AV.wk.sh (renL_s _ _) | exact AV.wk.sh (by simp; first | done | fail)) trivial)) (by rfl) rfl ?_
  refine Ch.pu gdN (by exact ⟨rfl, trivial⟩) (OpS.not) trivial rfl ?_
  refine Ch.nil ?_
  refine WP.cond_false rfl ?_
  refine WP.skip ?_
  refine WP.seq ?_
  refine WP.block ?_
  refine WP.loop (fun k σ => ∃ cur : List Txt, (cur.length = 2 ^ k ∧ k ≤ 7 ∧ rootN k cur = rootN h l ∧ Mid cur) ∧ σ = ⟨15, ls [(0, .sl none cur.length (cur.map sA))], lh [], blt 0⟩) (h) (Ent.of [] ?_ ?_ ?_ ?_).se ⟨l, ⟨hl, hh, rfl, hok⟩, rfl⟩ ?_
  · exact (fun i hi => by rw [hnA] at hi; simp only [List.length_cons, List.length_nil] at hi ⊢; first | exact absurd hi (Nat.not_lt_zero _) | (revert i; decide))
  · (repeat (first | exact trivial | (refine And.intro ⟨(by first | trivial | (simp; first | done | fail) | exact ⟨trivial, hbel _⟩), _, rfl, (by first | exact .rfl _ | exact .nil | exact .of_eq (by simp; first | done | fail) | exact AV.wk.sh (by simp; first | done | fail) | exact .untip _ _ _)⟩ ?_)))
  · (repeat (first | exact trivial | (refine And.intro ⟨rfl, (by first | trivial | (simp; first | done | fail) | exact ⟨trivial, hbel _⟩), (by first | rfl | (simp; first | done | fail))⟩ ?_)))
  · simp [rn]
  · rintro k σ ⟨cur, ⟨hlen, hk7, hroot, hmid⟩, rfl⟩
    have hp7 := pow7 hk7
    refine WP.seq ?_
    refine WP.rs hG ?_
    refine Ch.mv rfl rfl ?_
    refine Ch.pu gdN (by exact ⟨rfl, trivial⟩) (OpS.len rfl) trivial rfl ?_
    refine Ch.pu gdN (by exact ⟨rfl, rfl, trivial⟩) (OpS.int rfl (by first | exact wr64 (by omega) | exact rfl)) trivial rfl ?_
    refine Ch.nil ?_
    refine WP.cond rfl ?_ ?_
    · intro ht
      have ht' := of_decide_eq_true ht
      obtain ⟨j, rfl⟩ := pow_gt (k := k) (by omega)
      rw [rootN_s] at hroot
      refine WP.skip ?_
      refine WP.block ?_
      refine WP.rg hG ?_
      refine Ch.mv rfl rfl ?_
      refine Ch.callS (pairsNode_fc hm cur (by omega) hmid) gdN (by repeat (first | exact EvL.nil | (apply EvL.cons; exact rfl))) (by exact (And.intro (by first | exact .rfl _ | exact .untip _ _ _ | exact .nil | exact .func _ | exact AV.wk.sh (renL_s _ _) | exact AV.wk.sh (by simp; first | done | fail)) (And.intro (by first | exact .rfl _ | exact .untip _ _ _ | exact .nil | exact .func _ | exact AV.wk.sh (renL_s _ _) | exact AV.wk.sh (by simp; first | done | fail)) trivial))) (by first | rfl | simp) rfl ?_
      refine Ch.asg rfl rfl ?_
      refine Ch.nil ?_
      refine ⟨j, _, by omega, (Ent.of [] ?_ ?_ ?_ ?_).se, pairsL node cur, ⟨half_len hlen, by omega, hroot, Mid.pairs⟩, rfl⟩
      · exact (fun i hi => by rw [hnA] at hi; simp only [List.length_cons, List.length_nil] at hi ⊢; first | exact absurd hi (Nat.not_lt_zero _) | (revert i; decide))
      · (repeat (first | exact trivial | (refine And.intro ⟨(by first | trivial | (simp; first | done | fail) | exact ⟨trivial, hbel _⟩), _, rfl, (by first | exact .rfl _ | exact .nil | exact .of_eq (by simp; first | done | fail) | exact AV.wk.sh (by simp; first | done | fail) | exact .untip _ _ _)⟩ ?_)))
      · (repeat (first | exact trivial | (refine And.intro ⟨rfl, (by first | trivial | (simp; first | done | fail) | exact ⟨trivial, hbel _⟩), (by first | rfl | (simp; first | done | fail))⟩ ?_)))
      · simp [rn]
    · intro ht
      have ht' := of_decide_eq_false ht
      obtain rfl := pow_le (k := k) (by omega)
      rw [rootN_0] at hroot
      refine WP.exit ?_
      refine WP.rs hG ?_
      refine Ch.mv rfl rfl ?_
      refine Ch.pu gdN (by exact ⟨rfl, rfl, trivial⟩) (OpS.indexM rfl rfl rfl (by first | with_reducible exact Int.toNat_natCast _ | with_reducible exact tnLit _ _ | with_reducible exact tnLitA _ _ | with_reducible exact tnL _ | with_reducible exact tnA _ _ | with_reducible exact tnM _ _ | with_reducible exact tnMA _ _ _ | exact rfl) (by omega) (by omega) (by first | rfl | (simp; done) | omega)) trivial rfl ?_
      refine Ch.pu gdN (by exact ⟨rfl, trivial⟩) (OpS.loadS rfl rfl) trivial rfl ?_
      refine Ch.asg rfl rfl ?_
      refine Ch.nil ?_
      exact WP.ret (Ret.one rfl (by rw [← hroot]; exact .rfl _) trivial hnA)
theorem pathF_fc {G : List (Nat × Array Value)} (l : List Txt) (i : Int) (h : mayN l.length = false) : FC Tryd.prog G 25 [.sl none l.length (l.map sA), .v (.int .i64 i)] [] (.sl none ([] : List Txt).length (([] : List Txt).map sA)) [] := by
  refine FC.of_wp [4] Tryd.func25 rfl rfl rfl rfl ⟨⟨by simp, belL_s _ _⟩, trivial, trivial⟩ trivial (by exact Nat.le_of_ble_eq_true rfl) ?_
  intro A hG hnA hAB
  unfold start
  refine WP.rs hG ?_
  refine Ch.asg rfl rfl ?_
  refine Ch.nil ?_
  refine WP.seq ?_
  refine WP.rs hG ?_
  refine Ch.mv rfl rfl ?_
  refine Ch.pu gdN (by exact ⟨rfl, trivial⟩) (OpS.len rfl) trivial rfl ?_
  refine Ch.callP (mayF_fc l.length h) gdN (by repeat (first | exact EvL.nil | (apply EvL.cons; exact rfl))) (by exact (And.intro (by first | exact .rfl _ | exact .untip _ _ _ | exact .nil | exact .func _ | exact AV.wk.sh (renL_s _ _) | exact AV.wk.sh (by simp; first | done | fail)) trivial)) (by rfl) rfl ?_
  refine Ch.pu gdN (by exact ⟨rfl, trivial⟩) (OpS.not) trivial rfl ?_
  refine Ch.mv rfl rfl ?_
  refine Ch.skU (gdF rfl rfl rfl) rfl ?_
  refine Ch.skU (gdF rfl rfl rfl) rfl ?_
  refine Ch.pu gdN (by first | exact ⟨rfl, rfl, trivial⟩ | exact ⟨rfl, rfl, rfl, trivial⟩) (OpS.pickT) trivial rfl ?_
  refine Ch.mv rfl rfl ?_
  refine Ch.skU (gdF rfl rfl rfl) rfl ?_
  refine Ch.skU (gdF rfl rfl rfl) rfl ?_
  refine Ch.skU (gdF rfl rfl rfl) rfl ?_
  refine Ch.skU (gdF rfl rfl rfl) rfl ?_
  refine Ch.pu gdN (by first | exact ⟨rfl, rfl, trivial⟩ | exact ⟨rfl, rfl, rfl, trivial⟩) (OpS.pickT) trivial rfl ?_
  refine Ch.nil ?_
  refine WP.cond_true rfl ?_
  refine WP.rs hG ?_
  refine Ch.asg rfl rfl ?_
  refine Ch.nil ?_
  exact WP.ret (Ret.one rfl .nil (by simp) hnA)
theorem pathG_fc {G : List (Nat × Array Value)} (l : List Txt) (i : Int) (h : mayN l.length = true) (hi : i < 0) : FC Tryd.prog G 25 [.sl none l.length (l.map sA), .v (.int .i64 i)] [] (.sl none ([] : List Txt).length (([] : List Txt).map sA)) [] := by
  refine FC.of_wp [4] Tryd.func25 rfl rfl rfl rfl ⟨⟨by simp, belL_s _ _⟩, trivial, trivial⟩ trivial (by exact Nat.le_of_ble_eq_true rfl) ?_
  intro A hG hnA hAB
  unfold start
  refine WP.rs hG ?_
  refine Ch.asg rfl rfl ?_
  refine Ch.nil ?_
  refine WP.seq ?_
  refine WP.rs hG ?_
  refine Ch.mv rfl rfl ?_
  refine Ch.pu gdN (by exact ⟨rfl, trivial⟩) (OpS.len rfl) trivial rfl ?_
  refine Ch.callP (mayT_fc l.length h) gdN (by repeat (first | exact EvL.nil | (apply EvL.cons; exact rfl))) (by exact (And.intro (by first | exact .rfl _ | exact .untip _ _ _ | exact .nil | exact .func _ | exact AV.wk.sh (renL_s _ _) | exact AV.wk.sh (by simp; first | done | fail)) trivial)) (by rfl) rfl ?_
  refine Ch.pu gdN (by exact ⟨rfl, trivial⟩) (OpS.not) trivial rfl ?_
  refine Ch.mv rfl rfl ?_
  refine Ch.pu (by exact gdT rfl rfl) (by exact ⟨rfl, trivial⟩) (OpS.move) trivial rfl ?_
  refine Ch.pu (by exact gdT rfl rfl) (by exact ⟨rfl, rfl, trivial⟩) (OpS.int (op := .lss) (v' := .bool true) rfl (by simp; omega)) trivial rfl ?_
  refine Ch.pu gdN (by first | exact ⟨rfl, rfl, trivial⟩ | exact ⟨rfl, rfl, rfl, trivial⟩) (OpS.pickF) trivial rfl ?_
  refine Ch.mv rfl rfl ?_
  refine Ch.skU (gdF rfl rfl rfl) rfl ?_
  refine Ch.skU (gdF rfl rfl rfl) rfl ?_
  refine Ch.skU (gdF rfl rfl rfl) rfl ?_
  refine Ch.skU (gdF rfl rfl rfl) rfl ?_
  refine Ch.pu gdN (by first | exact ⟨rfl, rfl, trivial⟩ | exact ⟨rfl, rfl, rfl, trivial⟩) (OpS.pickT) trivial rfl ?_
  refine Ch.nil ?_
  refine WP.cond_true rfl ?_
  refine WP.rs hG ?_
  refine Ch.asg rfl rfl ?_
  refine Ch.nil ?_
  exact WP.ret (Ret.one rfl .nil (by simp) hnA)
theorem pathH_fc {G : List (Nat × Array Value)} (l : List Txt) (i : Int) (h : mayN l.length = true) (hi0 : 0 ≤ i) (hi : (l.length : Int) ≤ i) : FC Tryd.prog G 25 [.sl none l.length (l.map sA), .v (.int .i64 i)] [] (.sl none ([] : List Txt).length (([] : List Txt).map sA)) [] := by
  refine FC.of_wp [4] Tryd.func25 rfl rfl rfl rfl ⟨⟨by simp, belL_s _ _⟩, trivial, trivial⟩ trivial (by exact Nat.le_of_ble_eq_true rfl) ?_
  intro A hG hnA hAB
  unfold start
  refine WP.rs hG ?_
  refine Ch.asg rfl rfl ?_
  refine Ch.nil ?_
  refine WP.seq ?_
  refine WP.rs hG ?_
  refine Ch.mv rfl rfl ?_
  refine Ch.pu gdN (by exact ⟨rfl, trivial⟩) (OpS.len rfl) trivial rfl ?_
  refine Ch.callP (mayT_fc l.length h) gdN (by repeat (first | exact EvL.nil | (apply EvL.cons; exact rfl))) (by exact (And.intro (by first | exact .rfl _ | exact .untip _ _ _ | exact .nil | exact .func _ | exact AV.wk.sh (renL_s _ _) | exact AV.wk.sh (by simp; first | done | fail)) trivial)) (by rfl) rfl ?_
  refine Ch.pu gdN (by exact ⟨rfl, trivial⟩) (OpS.not) trivial rfl ?_
  refine Ch.mv rfl rfl ?_
  refine Ch.pu (by exact gdT rfl rfl) (by exact ⟨rfl, trivial⟩) (OpS.move) trivial rfl ?_
  refine Ch.pu (by exact gdT rfl rfl) (by exact ⟨rfl, rfl, trivial⟩) (OpS.int (op := .lss) (v' := .bool false) rfl (by simp; omega)) trivial rfl ?_
  refine Ch.pu gdN (by first | exact ⟨rfl, rfl, trivial⟩ | exact ⟨rfl, rfl, rfl, trivial⟩) (OpS.pickF) trivial rfl ?_
  refine Ch.mv rfl rfl ?_
  refine Ch.pu (by exact gdT rfl rfl) (by exact ⟨rfl, trivial⟩) (OpS.move) trivial rfl ?_
  refine Ch.pu (by exact gdT rfl rfl) (by exact ⟨rfl, trivial⟩) (OpS.move) trivial rfl ?_
  refine Ch.pu (by exact gdT rfl rfl) (by exact ⟨rfl, trivial⟩) (OpS.len rfl) trivial rfl ?_
  refine Ch.pu (by exact gdT rfl rfl) (by exact ⟨rfl, rfl, trivial⟩) (OpS.int (op := .geq) (v' := .bool true) rfl (by simp; omega)) trivial rfl ?_
  refine Ch.pu gdN (by first | exact ⟨rfl, rfl, trivial⟩ | exact ⟨rfl, rfl, rfl, trivial⟩) (OpS.pickF) trivial rfl ?_
  refine Ch.nil ?_
  refine WP.cond_true rfl ?_
  refine WP.rs hG ?_
  refine Ch.asg rfl rfl ?_
  refine Ch.nil ?_
  exact WP.ret (Ret.one rfl .nil (by simp) hnA)
theorem pathY_fc {G : List (Nat × Array Value)} (hm : ShaIn G) (l : List Txt) (h i : Nat) (hh : h ≤ 7) (hl : l.length = 2 ^ h) (hi : i < 2 ^ h) (hok : Mid l) : FC Tryd.prog G 25 [.sl none l.length (l.map sA), .v (.int .i64 (i : Int))] [] (.sl (some 0) (pathN h l i).length ((pathN h l i).map sA)) [some (.tip 9 1 (pathN h l i).length)] := by
  have hmay := mayL hh hl
  refine FC.of_wp [4] Tryd.func25 rfl rfl rfl rfl ⟨⟨by simp, belL_s _ _⟩, trivial, trivial⟩ trivial (by exact Nat.le_of_ble_eq_true rfl) ?_
  intro A hG hnA hAB
  unfold start
  refine WP.rs hG ?_
  refine Ch.al gdN (by exact ⟨rfl, trivial⟩) (OpS.assignTip 0 9 1) (by first | exact trivial | exact ⟨rfl, trivial⟩) (by first | exact trivial | exact ⟨rfl, trivial⟩ | exact ⟨rfl, rfl, trivial⟩) rfl ?_
  refine Ch.nil ?_
  refine WP.seq ?_
  refine WP.rs hG ?_
  refine Ch.mv rfl rfl ?_
  refine Ch.pu gdN (by exact ⟨rfl, trivial⟩) (OpS.len rfl) trivial rfl ?_
  refine Ch.callP (mayT_fc l.length hmay) gdN (by repeat (first | exact EvL.nil | (apply EvL.cons; exact rfl))) (by exact (And.intro (by first | exact .rfl _ | exact .untip _ _ _ | exact .nil | exact .func _ | exact AV.wk.sh (renL_s _ _) | exact AV.wk.sh (by simp; first | done | fail)) trivial)) (by rfl) rfl ?_
  refine Ch.pu gdN (by exact ⟨rfl, trivial⟩) (OpS.not) trivial rfl ?_
  refine Ch.mv rfl rfl ?_
  refine Ch.pu (by exact gdT rfl rfl) (by exact ⟨rfl, trivial⟩) (OpS.move) trivial rfl ?_
  refine Ch.pu (by exact gdT rfl rfl) (by exact ⟨rfl, rfl, trivial⟩) (OpS.int rfl (by first | exact wr64 (by omega) | exact rfl)) trivial rfl ?_
  refine Ch.pu gdN (by first | exact ⟨rfl, rfl, trivial⟩ | exact ⟨rfl, rfl, rfl, trivial⟩) (OpS.pickF) trivial rfl ?_
  refine Ch.mv rfl rfl ?_
  refine Ch.pu (by exact gdT rfl rfl) (by exact ⟨rfl, trivial⟩) (OpS.move) trivial rfl ?_
  refine Ch.pu (by exact gdT rfl rfl) (by exact ⟨rfl, trivial⟩) (OpS.move) trivial rfl ?_
  refine Ch.pu (by exact gdT rfl rfl) (by exact ⟨rfl, trivial⟩) (OpS.len rfl) trivial rfl ?_
  refine Ch.pu (by exact gdT rfl rfl) (by exact ⟨rfl, rfl, trivial⟩) (OpS.int (op := .geq) (v' := .bool false) rfl (by simp; omega)) trivial rfl ?_
  refine Ch.pu gdN (by first | exact ⟨rfl, rfl, trivial⟩ | exact ⟨rfl, rfl, rfl, trivial⟩) (OpS.pickF) trivial rfl ?_
  refine Ch.nil ?_
  refine WP.cond_false rfl ?_
  refine WP.skip ?_
  refine WP.seq ?_
  refine WP.block ?_
  refine WP.loop (fun k σ => ∃ (cur out : List Txt) (ic : Nat), (cur.length = 2 ^ k ∧ k ≤ 7 ∧ out ++ pathN k cur ic = pathN h l i ∧ Mid cur ∧ out.length + k = h ∧ ic < 2 ^ k) ∧ σ = ⟨34, ls [(0, .sl none cur.length (cur.map sA)), (1, .v (.int .i64 (ic : Int))), (4, .sl (some 0) out.length (out.map sA))], lh [(0, .tip 9 1 out.length)], blt 1⟩) (h) (Ent.of [] ?_ ?_ ?_ ?_).se ⟨l, [], i, ⟨hl, hh, rfl, hok, by simp, hi⟩, rfl⟩ ?_
  · exact (fun i hi => by rw [hnA] at hi; simp only [List.length_cons, List.length_nil] at hi ⊢; first | exact absurd hi (Nat.not_lt_zero _) | (revert i; decide))
  · (repeat (first | exact trivial | (refine And.intro ⟨(by first | trivial | (simp; first | done | fail) | exact ⟨trivial, hbel _⟩), _, rfl, (by first | exact .rfl _ | exact .nil | exact .of_eq (by simp; first | done | fail) | exact AV.wk.sh (by simp; first | done | fail) | exact .untip _ _ _)⟩ ?_)))
  · (repeat (first | exact trivial | (refine And.intro ⟨rfl, (by first | trivial | (simp; first | done | fail) | exact ⟨trivial, hbel _⟩), (by first | rfl | (simp; first | done | fail))⟩ ?_)))
  · simp [rn]
  · rintro k σ ⟨cur, out, ic, ⟨hlen, hk7, hpath, hmid, hle, hic⟩, rfl⟩
    have hp7 := pow7 hk7
    refine WP.seq ?_
    refine WP.rs hG ?_
    refine Ch.mv rfl rfl ?_
    refine Ch.pu gdN (by exact ⟨rfl, trivial⟩) (OpS.len rfl) trivial rfl ?_
    refine Ch.pu gdN (by exact ⟨rfl, rfl, trivial⟩) (OpS.int rfl (by first | exact wr64 (by omega) | exact rfl)) trivial rfl ?_
    refine Ch.nil ?_
    refine WP.cond rfl ?_ ?_
    · intro ht
      have ht' := of_decide_eq_true ht
      obtain ⟨j, rfl⟩ := pow_gt (k := k) (by omega)
      have hps : 2 ^ (j + 1) = 2 * 2 ^ j := by rw [Nat.pow_succ]; omega
      have hsib := sib_lt (i := ic) (n := 2 ^ j) (by omega)
      have hx := xor_sib ic
      rw [pathN_s, List.append_cons] at hpath
      have he : tget cur (sib ic) = el cur (sib ic) := rfl
      rw [he, ← hx] at hpath
      rw [← hx] at hsib
      refine WP.skip ?_
      refine WP.seq ?_
      refine WP.block ?_
      refine WP.rs hG ?_
      refine Ch.mv rfl rfl ?_
      refine Ch.mv rfl rfl ?_
      refine Ch.mv rfl rfl ?_
      refine Ch.pu gdN (by exact ⟨rfl, rfl, trivial⟩) (OpS.xorN (b := 1) (by omega) (by decide)) (by first | exact trivial | exact ⟨rfl, trivial⟩) rfl ?_
      refine Ch.pu gdN (by exact ⟨rfl, rfl, trivial⟩) (OpS.indexM rfl rfl rfl (by first | with_reducible exact Int.toNat_natCast _ | with_reducible exact tnLit _ _ | with_reducible exact tnLitA _ _ | with_reducible exact tnL _ | with_reducible exact tnA _ _ | with_reducible exact tnM _ _ | with_reducible exact tnMA _ _ _ | exact rfl) (by omega) (by omega) (by first | rfl | (simp; done) | omega)) trivial rfl ?_
      refine Ch.pu gdN (by exact ⟨rfl, trivial⟩) (OpS.loadS rfl rfl) trivial rfl ?_
      refine Ch.pup gdN (by repeat (first | exact EvP.nil | (apply EvP.cons; exact rfl))) (OpS.slice1 rfl rfl rfl rfl rfl rfl (by rfl) rfl (by rfl)) rfl ?_
      refine Ch.al gdN (by exact ⟨rfl, rfl, trivial⟩) (OpS.append (sz := 1) (bb := 16) 1 rfl rfl rfl rfl rfl (by decide) (SrcA.sl rfl (by simp)) (by first | (simp; done) | (simp; assumption)) (by simp) (by unfold maxLen; omega) rfl (by omega)) (by first | exact trivial | exact ⟨rfl, trivial⟩) (by first | exact trivial | exact ⟨rfl, trivial⟩ | exact ⟨rfl, rfl, trivial⟩) rfl ?_
      refine Ch.asg rfl rfl ?_
      refine Ch.nil ?_
      refine WP.rg hG ?_
      refine Ch.mv rfl rfl ?_
      refine Ch.callS (pairsNode_fc hm cur (by omega) hmid) gdN (by repeat (first | exact EvL.nil | (apply EvL.cons; exact rfl))) (by exact (And.intro (by first | exact .rfl _ | exact .untip _ _ _ | exact .nil | exact .func _ | exact AV.wk.sh (renL_s _ _) | exact AV.wk.sh (by simp; first | done | fail)) (And.intro (by first | exact .rfl _ | exact .untip _ _ _ | exact .nil | exact .func _ | exact AV.wk.sh (renL_s _ _) | exact AV.wk.sh (by simp; first | done | fail)) trivial))) (by first | rfl | simp) rfl ?_
      refine Ch.asg rfl rfl ?_
      refine Ch.nil ?_
      refine WP.rg hG ?_
      refine Ch.mv rfl rfl ?_
      refine Ch.pu gdN (by exact ⟨rfl, rfl, trivial⟩) (OpS.quo (by omega) (by omega) (by omega)) trivial rfl ?_
      refine Ch.asg rfl rfl ?_
      refine Ch.nil ?_
      refine ⟨j, _, by omega, (Ent.of [1] ?_ ?_ ?_ ?_).se, pairsL node cur, out ++ [el cur (ic ^^^ 1)], ic / 2, ⟨half_len hlen, by omega, hpath, Mid.pairs, by simp; omega, by omega⟩, rfl⟩
      · exact (fun i hi => by rw [hnA] at hi; simp only [List.length_cons, List.length_nil] at hi ⊢; first | exact absurd hi (Nat.not_lt_zero _) | (revert i; decide))
      · (repeat (first | exact trivial | (refine And.intro ⟨(by first | trivial | (simp; first | done | fail) | exact ⟨trivial, hbel _⟩), _, rfl, (by first | exact .rfl _ | exact .nil | exact .of_eq (by simp; first | done | fail) | exact AV.wk.sh (by simp; first | done | fail) | exact .untip _ _ _)⟩ ?_)))
      · (repeat (first | exact trivial | (refine And.intro ⟨rfl, (by first | trivial | (simp; first | done | fail) | exact ⟨trivial, hbel _⟩), (by first | rfl | (simp; first | done | fail))⟩ ?_)))
      · simp [rn]
    · intro ht
      have ht' := of_decide_eq_false ht
      obtain rfl := pow_le (k := k) (by omega)
      rw [pathN_0, List.append_nil] at hpath
      refine WP.exit ?_
      rw [← hpath]
      exact WP.ret (Ret.row 0 rfl (by first | exact .rfl _ | exact .nil | exact .of_eq (by simp; first | done | fail) | exact AV.wk.sh (by simp; first | done | fail) | exact .untip _ _ _) (by first | trivial | (simp; first | done | fail) | exact ⟨trivial, hbel _⟩) rfl trivial hnA)
theorem path_fc {G : List (Nat × Array Value)} (hm : ShaIn G) (l : List Txt) (i : Int) (hok : Mid l) : FC Tryd.prog G 25 [.sl none l.length (l.map sA), .v (.int .i64 i)] [] (.sl none (pathT l i).length ((pathT l i).map sA)) [] := by
  cases h : mayN l.length with
  | false =>
    have : pathT l i = [] := by simp [pathT, h]
    rw [this]
    exact pathF_fc l i h
  | true =>
    by_cases h0 : i < 0
    · have : pathT l i = [] := by rw [pathT, if_neg (by omega)]
      rw [this]
      exact pathG_fc l i h h0
    · by_cases h1 : i < l.length
      · obtain ⟨k, hk, hl⟩ := mayN_iff.1 h
        obtain ⟨j, rfl⟩ : ∃ j : Nat, i = (j : Int) := ⟨i.toNat, by omega⟩
        rw [pathT_eq hk hl (by omega)]
        exact (pathY_fc hm l k j hk hl (by omega) hok).shut (belL_s _ _) (renL_s _ _)
      · have : pathT l i = [] := by rw [pathT, if_neg (by omega)]
        rw [this]
        exact pathH_fc l i h (by omega) (by omega)

def ordL (x : Txt) (i : Nat) (s : Txt) : Txt := if i % 2 = 0 then x else s
def ordR (x : Txt) (i : Nat) (s : Txt) : Txt := if i % 2 = 0 then s else x
theorem ord_eq (x : Txt) (i : Nat) (s : Txt) : parI x i s = inp2 (ordL x i s) (ordR x i s) ∧ par x i s = node (ordL x i s) (ordR x i s) := by
  unfold parI par ordL ordR
  split <;> exact ⟨rfl, rfl⟩
theorem ord_len (x : Txt) (i : Nat) (s : Txt) : (ordL x i s).length + (ordR x i s).length = x.length + s.length := by
  unfold ordL ordR
  split <;> omega
theorem order_fc {G : List (Nat × Array Value)} (x : Txt) (i : Nat) (s : Txt) (hi : i < 2 ^ 63) : FC Tryd.prog G 64 [sA x, .v (.int .i64 (i : Int)), sA s] [] (.tup [sA (ordL x i s), sA (ordR x i s)]) [] := by
  refine FC.of_wp [6, 7] Tryd.func64 rfl rfl rfl rfl (by first | trivial | (simp; first | done | fail) | exact ⟨trivial, hbel _⟩) (by first | trivial | (simp; first | done | fail) | exact ⟨trivial, hbel _⟩) (by exact Nat.le_of_ble_eq_true rfl) ?_
  intro A hG hnA hAB
  unfold start
  refine WP.rs hG ?_
  refine Ch.asg rfl rfl ?_
  refine Ch.asg rfl rfl ?_
  refine Ch.nil ?_
  refine WP.seq ?_
  refine WP.rs hG ?_
  refine Ch.mv rfl rfl ?_
  refine Ch.pu gdN (by exact ⟨rfl, rfl, trivial⟩) (OpS.andN (b := 1) hi (by decide)) (by first | exact trivial | exact ⟨rfl, trivial⟩) rfl ?_
  refine Ch.pu gdN (by exact ⟨rfl, rfl, trivial⟩) (OpS.int (op := .eql) (v' := .bool (decide (i % 2 ≠ 0))) rfl (by rw [Nat.and_one_is_mod]; congr 1; rw [Bool.eq_iff_iff]; simp; omega)) trivial rfl ?_
  refine Ch.nil ?_
  refine WP.cond rfl ?_ ?_
  · intro ht
    have ht' := of_decide_eq_true ht
    refine WP.rs hG ?_
    refine Ch.mv rfl rfl ?_
    refine Ch.mv rfl rfl ?_
    refine Ch.asg rfl rfl ?_
    refine Ch.asg rfl rfl ?_
    refine Ch.nil ?_
    exact WP.ret (Ret.two rfl rfl (.of_eq (by simp [ordL, ht'])) (.of_eq (by simp [ordR, ht'])) trivial trivial rfl hnA)
  · intro ht
    have ht' := of_decide_eq_false ht
    refine WP.skip ?_
    refine WP.rs hG ?_
    refine Ch.mv rfl rfl ?_
    refine Ch.mv rfl rfl ?_
    refine Ch.asg rfl rfl ?_
    refine Ch.asg rfl rfl ?_
    refine Ch.nil ?_
    exact WP.ret (Ret.two rfl rfl (.of_eq (by simp at ht'; simp [ordL, ht'])) (.of_eq (by simp at ht'; simp [ordR, ht'])) trivial trivial rfl hnA)
def MidC (x : Txt) (p : List Txt) : Prop := ∀ s ∈ p, x.length + s.length ≤ 140737488355300 ∧ s.length + 32 ≤ 140737488355300
theorem MidC.next {x : Txt} {p : List Txt} (h : MidC x p) (i : Nat) (s : Txt) : MidC (par x i s) p := fun y hy => by
  have := h y hy
  rw [par_length]
  omega
theorem MidC.of32 {x : Txt} {p : List Txt} (hx : x.length ≤ 140737488355264) (h : ∀ y ∈ p, y.length = 32) : MidC x p := fun y hy => by
  have := h y hy
  omega
theorem climb_fc {G : List (Nat × Array Value)} (hm : ShaIn G) (x : Txt) (i : Int) (p : List Txt) (hi : i < 2 ^ 63) (hok : MidC x p) (hpl : p.length ≤ 1000000) : FC Tryd.prog G 41 [sA x, .v (.int .i64 i), .sl none p.length (p.map sA)] [] (sA (climbT x i p)) [] := by
  refine FC.of_wp [6] Tryd.func41 rfl rfl rfl rfl ⟨trivial, trivial, ⟨by simp, belL_s _ _⟩, trivial⟩ trivial (by exact Nat.le_of_ble_eq_true rfl) ?_
  intro A hG hnA hAB
  unfold start
  refine WP.rs hG ?_
  refine Ch.asg rfl rfl ?_
  refine Ch.nil ?_
  refine WP.rs hG ?_
  refine Ch.mv rfl rfl ?_
  refine Ch.pu gdN (by exact ⟨rfl, rfl, trivial⟩) (OpS.maxI (c := ((i.toNat : Nat) : Int)) (by split <;> omega)) (by first | exact trivial | exact ⟨rfl, trivial⟩) rfl ?_
  refine Ch.asg rfl rfl ?_
  refine Ch.nil ?_
  refine WP.seq ?_
  refine WP.rs hG ?_
  refine Ch.mv rfl rfl ?_
  refine Ch.pu gdN (by exact ⟨rfl, trivial⟩) (OpS.len rfl) trivial rfl ?_
  refine Ch.mv rfl rfl ?_
  refine Ch.nil ?_
  refine WP.block ?_
  refine WP.loop (fun k σ => ∃ (c : Txt) (ic m : Nat), (m + k = p.length ∧ ic < 2 ^ 63 ∧ MidC c p ∧ climbL c ic (p.drop m) = climbT x i p) ∧ σ = ⟨28, ls [(0, sA c), (1, .v (.int .i64 (ic : Int))), (11, .sl none p.length (p.map sA)), (12, .v (.int .i64 (p.length : Int))), (13, .v (.int .i64 (m : Int)))], lh [], blt 0⟩) (p.length) (Ent.of [] ?_ ?_ ?_ ?_).se ⟨x, i.toNat, 0, ⟨by omega, by omega, hok, rfl⟩, rfl⟩ ?_
  · exact (fun i hi => by rw [hnA] at hi; simp only [List.length_cons, List.length_nil] at hi ⊢; first | exact absurd hi (Nat.not_lt_zero _) | (revert i; decide))
  · (repeat (first | exact trivial | (refine And.intro ⟨(by first | trivial | (simp; first | done | fail) | exact ⟨trivial, hbel _⟩), _, rfl, (by first | exact .rfl _ | exact .nil | exact .of_eq (by simp; first | done | fail) | exact AV.wk.sh (by simp; first | done | fail) | exact .untip _ _ _)⟩ ?_)))
  · (repeat (first | exact trivial | (refine And.intro ⟨rfl, (by first | trivial | (simp; first | done | fail) | exact ⟨trivial, hbel _⟩), (by first | rfl | (simp; first | done | fail))⟩ ?_)))
  · simp [rn]
  · rintro k σ ⟨c, ic, m, ⟨hm', hic, hmid, hcl⟩, rfl⟩
    refine WP.rs hG ?_
    refine Ch.pu gdN (by exact ⟨rfl, rfl, trivial⟩) (OpS.int rfl (by first | exact wr64 (by omega) | exact rfl)) trivial rfl ?_
    refine Ch.nil ?_
    refine WP.seq ?_
    refine WP.cond rfl ?_ ?_
    · intro ht
      have ht' := of_decide_eq_true ht
      have hml : m < p.length := by omega
      rw [drop_el hml, climbL_s] at hcl
      have hle := (hmid (el p m) (tget_mem hml)).1
      obtain ⟨ho1, ho2⟩ := ord_eq c ic (el p m)
      have hol := ord_len c ic (el p m)
      have hnx := hmid.next ic (el p m)
      rw [ho2] at hcl hnx
      refine WP.skip ?_
      refine WP.seq ?_
      refine WP.block ?_
      refine WP.rs hG ?_
      refine Ch.pu gdN (by exact ⟨rfl, rfl, trivial⟩) (OpS.indexM rfl rfl rfl (by first | with_reducible exact Int.toNat_natCast _ | with_reducible exact tnLit _ _ | with_reducible exact tnLitA _ _ | with_reducible exact tnL _ | with_reducible exact tnA _ _ | with_reducible exact tnM _ _ | with_reducible exact tnMA _ _ _ | exact rfl) (by omega) (by omega) (by first | rfl | (simp; done) | omega)) trivial rfl ?_
      refine Ch.pu gdN (by exact ⟨rfl, trivial⟩) (OpS.loadS rfl rfl) trivial rfl ?_
      refine Ch.asg rfl rfl ?_
      refine Ch.nil ?_
      refine WP.rs hG ?_
      refine Ch.mv rfl rfl ?_
      refine Ch.mv rfl rfl ?_
      refine Ch.mv rfl rfl ?_
      refine Ch.callP (order_fc c ic (el p m) hic) gdN (by repeat (first | exact EvL.nil | (apply EvL.cons; exact rfl))) (by exact (And.intro (by first | exact .rfl _ | exact .untip _ _ _ | exact .nil | exact .func _ | exact AV.wk.sh (renL_s _ _) | exact AV.wk.sh (by simp; first | done | fail)) (And.intro (by first | exact .rfl _ | exact .untip _ _ _ | exact .nil | exact .func _ | exact AV.wk.sh (renL_s _ _) | exact AV.wk.sh (by simp; first | done | fail)) (And.intro (by first | exact .rfl _ | exact .untip _ _ _ | exact .nil | exact .func _ | exact AV.wk.sh (renL_s _ _) | exact AV.wk.sh (by simp; first | done | fail)) trivial)))) (by rfl) rfl ?_
      refine Ch.pu gdN (by exact ⟨rfl, trivial⟩) (OpS.extract rfl) trivial rfl ?_
      refine Ch.pu gdN (by exact ⟨rfl, trivial⟩) (OpS.extract rfl) trivial rfl ?_
      refine Ch.callP (node_fc hm (ordL c ic (el p m)) (ordR c ic (el p m)) (by omega)) gdN (by repeat (first | exact EvL.nil | (apply EvL.cons; exact rfl))) (by exact (And.intro (by first | exact .rfl _ | exact .untip _ _ _ | exact .nil | exact .func _ | exact AV.wk.sh (renL_s _ _) | exact AV.wk.sh (by simp; first | done | fail)) (And.intro (by first | exact .rfl _ | exact .untip _ _ _ | exact .nil | exact .func _ | exact AV.wk.sh (renL_s _ _) | exact AV.wk.sh (by simp; first | done | fail)) trivial))) (by rfl) rfl ?_
      refine Ch.asg rfl rfl ?_
      refine Ch.nil ?_
      refine WP.rg hG ?_
      refine Ch.mv rfl rfl ?_
      refine Ch.pu gdN (by exact ⟨rfl, rfl, trivial⟩) (OpS.quo (by omega) (by omega) (by omega)) trivial rfl ?_
      refine Ch.asg rfl rfl ?_
      refine Ch.nil ?_
      refine WP.rg hG ?_
      refine Ch.pu gdN (by exact ⟨rfl, rfl, trivial⟩) (OpS.int rfl (by first | exact wr64 (by omega) | exact rfl)) trivial rfl ?_
      refine Ch.mv rfl rfl ?_
      refine Ch.nil ?_
      refine ⟨k - 1, _, by omega, (Ent.of [] ?_ ?_ ?_ ?_).se, node (ordL c ic (el p m)) (ordR c ic (el p m)), ic / 2, m + 1, ⟨by omega, by omega, hnx, hcl⟩, rfl⟩
      · exact (fun i hi => by rw [hnA] at hi; simp only [List.length_cons, List.length_nil] at hi ⊢; first | exact absurd hi (Nat.not_lt_zero _) | (revert i; decide))
      · (repeat (first | exact trivial | (refine And.intro ⟨(by first | trivial | (simp; first | done | fail) | exact ⟨trivial, hbel _⟩), _, rfl, (by first | exact .rfl _ | exact .nil | exact .of_eq (by simp; first | done | fail) | exact AV.wk.sh (by simp; first | done | fail) | exact .untip _ _ _)⟩ ?_)))
      · (repeat (first | exact trivial | (refine And.intro ⟨rfl, (by first | trivial | (simp; first | done | fail) | exact ⟨trivial, hbel _⟩), (by first | rfl | (simp; first | done | fail))⟩ ?_)))
      · simp [rn]
    · intro ht
      have ht' := of_decide_eq_false ht
      have hml : m = p.length := by omega
      rw [hml, List.drop_length, climbL_0] at hcl
      refine WP.exit ?_
      refine WP.rs hG ?_
      refine Ch.mv rfl rfl ?_
      refine Ch.asg rfl rfl ?_
      refine Ch.nil ?_
      exact WP.ret (Ret.one rfl (by rw [← hcl]; exact .rfl _) trivial hnA)
end Go.Proofs.YtcojfnjpcpochaaDoor.E
end
section
namespace Go.Proofs.YtcojfnjpcpochaaDoor.E
open Go Go.RowKit Go.Proofs.YtcojfnjpcpochaaDoor.V
section
variable {P : Program} {G : List (Nat × Array Value)} {dst : Option Tmp} {ty : TypeId} {pos : String} {aft : Array Edge} {gd : Option (Nat × Bool)}
theorem OpS.boxS {T : TypeId} {x : Operand} {y : AV} : OpS P G ⟨dst, .box T x, ty, pos, aft, gd⟩ [(x, y)] [] ⟨some (.sptr (cellsA y)), [], []⟩ := by
  refine OpS.act fun A ρ σ a w _ h hp hu hs => ?_
  obtain ⟨c1, c2⟩ := cellsA_rel (hs.ev h.1)
  obtain ⟨k1, k2, k3⟩ := hs.mem.grow (w' := w.alloc (.cells (a.eval x).cells T)) rfl rfl rfl (by simp) (fun k hk => Below.heap_alloc w _ k hk)
  refine ⟨.pointer (some ⟨w.heap.size, 0, none⟩), w.alloc (.cells (a.eval x).cells T), ρ, .inl ?_, k1, k2, fun v hv => by
    cases hv
    have hgd : ∀ i, i < (cellsA y).length → (a.eval x).cells[i]? = some ((a.eval x).cells.getD i undef) := fun i hi => by
      have : i < (a.eval x).cells.size := by omega
      simp [Array.getD_eq_getD_getElem?, this]
    refine .sptr (cellsA y) w.heap.size 0 (fun i => (a.eval x).cells.getD i undef) (fun i hi => ⟨?_, k3 _ _ (Nat.le_refl _) (by simp)⟩) (fun i c hc => ?_)
    · rw [cell_of_row _ w.heap.size (0 + i) (a.eval x).cells T (0, 0) (heap_alloc_new w _), Nat.zero_add]
      exact hgd i hi
    · exact k2 _ _ (c2 i c _ hc (hgd i (List.getElem?_eq_some_iff.1 hc).1))⟩
  refine runv (s := Instr.box T (a.eval x)) ?_
  simp [Instr.box, newVar, newRow, Sem.run_bind, Sem.run_pure, Result.andThen_ok]
theorem OpS.makeFunc {fn : Fn} {xs : List Operand} {ys : List AV} (hl : xs.length = ys.length) : OpS P G ⟨dst, .makeFunc fn #[] xs.toArray, ty, pos, aft, gd⟩ (xs.zip ys) [] ⟨some (.fn fn [] ys), [], []⟩ :=
  OpS.still fun A ρ σ a w _ h _ hs => ⟨.func fn #[] (xs.map a.eval).toArray, by
    have e : execOp a.eval ⟨dst, .makeFunc fn #[] xs.toArray, ty, pos, aft, gd⟩ = (do pure (Next.value (← Instr.makeFunc fn (#[].map a.eval) (xs.toArray.map a.eval)))) := rfl
    rw [e]
    refine runv ?_
    simp [Instr.makeFunc], .fn fn [] ys _ _ rfl (fun i c x hc => by simp at hc) (by simp [hl]) (fun i c x hc hx => by
      rw [List.getElem?_toArray, List.getElem?_map] at hx
      cases hxi : xs[i]? with
      | none => rw [hxi] at hx; cases hx
      | some o => rw [hxi] at hx; cases hx; exact ev_ops hs h i o c hxi hc)⟩
theorem OpS.callF {f : FuncId} {args : List AV} {H H' : List (Option AO)} {res : AV} (F : FC P G f args H res H') (old : List Nat) (base : Nat) (hol : old.length = H.length) (hnd : old.Nodup) (hlt : ∀ x ∈ old, x < base)
    {c : Operand} {xs : List Operand} {ys caps : List AV} (ho : xs.length = ys.length) (hwk : WkL (ys ++ caps) (args.map (AV.ren (pi old base)))) {ats : Array TypeId} :
    OpS P G ⟨dst, .call ⟨.value c, xs.toArray, ats⟩, ty, pos, aft, gd⟩ ((c :: xs).zip (.fn (.func f) [] caps :: ys)) (hpl (pi old base) old H) (callEff old base res H.length H') := by
  constructor
  intro A ρ σ a w K Q hG h1 h2 h3 hd hs hK
  obtain ⟨fn, cd, hf, hname, hb⟩ := F.enter
  have hcv := hs.ev h1.1
  obtain ⟨us, hus, hcap, hev⟩ : ∃ us : Array Value, us.size = caps.length ∧ (∀ (i : Nat) (c : AV) (x : Value), caps[i]? = some c → us[i]? = some x → VRel (Nh A σ.h ρ w) ρ w c x) ∧ a.eval c = .func (.func f) #[] us := by
    generalize a.eval c = v at hcv
    cases hcv with
    | fn f' fs cs vs us hs1 k1 hs2 k2 =>
      refine ⟨us, hs2, k2, ?_⟩
      obtain rfl := Array.eq_empty_of_size_eq_zero (by simpa using hs1)
      rfl
  have hrun : (execOp a.eval ⟨dst, .call ⟨.value c, xs.toArray, ats⟩, ty, pos, aft, gd⟩).run P w = .ok (.enter f ((xs.map a.eval).toArray ++ us)) w := by
    have := run_enter hf hname hb ((xs.map a.eval).toArray ++ us) w
    show (do let d ← Deferred.ofValue (a.eval c) (xs.toArray.map a.eval); invoke d.target d.args : Sem Next).run P w = _
    rw [hev]
    show (callFunc f (#[] ++ xs.toArray.map a.eval ++ us)).run P w = _
    simpa using this
  unfold Oper.wp
  rw [hrun, Oper.upon_enter]
  refine (call_sat F hol hnd hlt hG hs h2 h3 hd (vs := (xs.map a.eval).toArray ++ us) (ys := ys ++ caps) (by simp [ho, hus]) ?_ hwk).mono ?_
  · intro i y x hy hx
    by_cases hi : i < ys.length
    · rw [List.getElem?_append_left hi] at hy
      rw [Array.getElem?_append_left (by simp [ho]; exact hi), List.getElem?_toArray, List.getElem?_map] at hx
      cases hxi : xs[i]? with
      | none => rw [hxi] at hx; cases hx
      | some o => rw [hxi] at hx; cases hx; exact ev_ops hs h1.2 i o y hxi hy
    · rw [List.getElem?_append_right (by omega)] at hy
      rw [Array.getElem?_append_right (by simp [ho]; omega)] at hx
      simp only [List.size_toArray, List.length_map, ho] at hx
      exact hcap _ y x hy hx
  · rintro e w' ⟨v, ρ', rfl, hs'⟩
    exact hK _ _ ρ' hs'
end
section
variable {P : Program} {G : List (Nat × Array Value)} {l r : List Oper} {K : AS → Prop} {n : Nat} {s : Nat → Option AV} {h : Nat → Option AO} {u : Nat → Bool} {d : Tmp} {ty : TypeId} {pos : String} {aft : Array Edge} {gd : Option (Nat × Bool)} {D : Bool} {acc : List St}
theorem Ch.mf {fn : Fn} {xs : List Operand} {ys : List AV} (hg : GdOk l.toArray ⟨some d, .makeFunc fn #[] xs.toArray, ty, pos, aft, gd⟩ ⟨n, s, h, u⟩ true) (hev : EvL ⟨n, s, h, u⟩ xs ys) (hd : Nat.blt d n = true)
    (hr : Ch P G l D K (⟨true, xs.zip ys, [], ⟨some (.fn fn [] ys), [], []⟩⟩ :: acc) r ⟨n, upd s d (some (.fn fn [] ys)), h, u⟩) :
    Ch P G l D K acc (⟨some d, .makeFunc fn #[] xs.toArray, ty, pos, aft, gd⟩ :: r) ⟨n, s, h, u⟩ :=
  Ch.pul hg hev (OpS.makeFunc hev.ok.2) hd hr
theorem Ch.callF {f : FuncId} {args : List AV} {res : AV} (F : FC P G f args [] res []) {c : Operand} {xs : List Operand} {ys caps : List AV} {ats : Array TypeId}
    (hg : GdOk l.toArray ⟨some d, .call ⟨.value c, xs.toArray, ats⟩, ty, pos, aft, gd⟩ ⟨n, s, h, u⟩ true) (hev : EvL ⟨n, s, h, u⟩ (c :: xs) (.fn (.func f) [] caps :: ys)) (hwk : WkL (ys ++ caps) (args.map (AV.ren (pi [] 0)))) {res' : AV} (hres : res.ren (pi [] 0) = res') (hd : Nat.blt d n = true)
    (hr : Ch P G l D K (⟨true, (c :: xs).zip (.fn (.func f) [] caps :: ys), [], ⟨some res', [], []⟩⟩ :: acc) r ⟨n, upd s d (some res'), h, u⟩) :
    Ch P G l D K acc (⟨some d, .call ⟨.value c, xs.toArray, ats⟩, ty, pos, aft, gd⟩ :: r) ⟨n, s, h, u⟩ := by
  subst hres
  have hlen : xs.length = ys.length := by have := hev.ok.2; simpa using this
  exact Ch.cons (st := ⟨true, (c :: xs).zip (.fn (.func f) [] caps :: ys), [], ⟨some (res.ren (pi [] 0)), [], []⟩⟩) ⟨hg, fun _ => ⟨OpS.callF F [] 0 rfl (by simp) (by simp) hlen hwk, hev.ok.1, trivial, trivial, fun t ht => by cases ht; exact Nat.blt_eq.mp hd⟩, fun h => nomatch h⟩ hr
end
theorem HSat.drop {A : Amb} {ρ : Env} {h : Nat → Option AO} {u : Nat → Bool} {w : World} (H : HSat A ρ h u w) (id : Nat) : HSat A ρ (upd h id none) u w ∧ ∀ av x, VRel (Nh A h ρ w) ρ w av x → VRel (Nh A (upd h id none) ρ w) ρ w av x := by
  have hold : ∀ i ob, upd h id none i = some ob → h i = some ob := fun i ob hi => by
    rcases upd_eq_some hi with ⟨_, he⟩ | ⟨_, he⟩
    · cases he
    · exact he
  exact H.next (w' := w) (ρ' := ρ) (u' := u) rfl rfl rfl (Nat.le_refl _) (fun i hi => ⟨hi, rfl, rfl⟩) H.usedB H.usedT (fun _ _ _ => rfl) (fun _ _ _ => rfl)
    (fun i ob b o hi hw => .inl ⟨i, ob, hold i ob hi, hw⟩) (fun i ob b hi hw => .inl ⟨i, ob, hold i ob hi, hw⟩) (fun i j oi oj b hi hj => H.sep i j oi oj b (hold i oi hi) (hold j oj hj))
    (fun hV i ob hi => (H.heap i ob (hold i ob hi)).keep (Env.le_refl _) hV (fun _ _ => rfl))
theorem HSat.recell {A : Amb} {ρ : Env} {h : Nat → Option AO} {u : Nat → Bool} {w : World} (H : HSat A ρ h u w) {id : Nat} {T : TypeId} {cs cs' : List AV} (hid : h id = some (.cells T cs)) (hl : cs'.length ≤ cs.length)
    (hc : ∀ (j : Nat) (c c' : AV) (x : Value), cs[j]? = some c → cs'[j]? = some c' → VRel (Nh A h ρ w) ρ w c x → VRel (Nh A h ρ w) ρ w c' x) :
    HSat A ρ (upd h id (some (.cells T cs'))) u w ∧ ∀ av x, VRel (Nh A h ρ w) ρ w av x → VRel (Nh A (upd h id (some (.cells T cs'))) ρ w) ρ w av x := by
  have hold : ∀ i ob, upd h id (some (.cells T cs')) i = some ob → (i = id ∧ ob = .cells T cs') ∨ (i ≠ id ∧ h i = some ob) := fun i ob hi => by
    rcases upd_eq_some hi with ⟨h1, he⟩ | ⟨h1, he⟩
    · cases he; exact .inl ⟨h1, rfl⟩
    · exact .inr ⟨h1, he⟩
  have old2 : ∀ i ob, upd h id (some (.cells T cs')) i = some ob → ∃ ob', h i = some ob' ∧ (∀ b, ob.at_ ρ i b → ob'.at_ ρ i b) ∧ ∀ b o, ob.wr ρ i b o → ob'.wr ρ i b o := fun i ob hi => by
    rcases hold i ob hi with ⟨rfl, rfl⟩ | ⟨_, he⟩
    · exact ⟨_, hid, fun _ h => h, fun _ _ h => h⟩
    · exact ⟨_, he, fun _ h => h, fun _ _ h => h⟩
  refine H.next (w' := w) (ρ' := ρ) (u' := u) rfl rfl rfl (Nat.le_refl _) (fun i hi => ⟨hi, rfl, rfl⟩) H.usedB H.usedT (fun _ _ _ => rfl) (fun _ _ _ => rfl)
    (fun i ob b o hi hw => by obtain ⟨ob', h1, _, h3⟩ := old2 i ob hi; exact .inl ⟨i, ob', h1, h3 b o hw⟩) (fun i ob b hi hw => by obtain ⟨ob', h1, h2, _⟩ := old2 i ob hi; exact .inl ⟨i, ob', h1, h2 b hw⟩)
    (fun i j oi oj b hi hj h1 h2 => by
      obtain ⟨oi', k1, k2, _⟩ := old2 i oi hi
      obtain ⟨oj', m1, m2, _⟩ := old2 j oj hj
      exact H.sep i j oi' oj' b k1 m1 (k2 b h1) (m2 b h2))
    (fun hV i ob hi => ?_)
  rcases hold i ob hi with ⟨rfl, rfl⟩ | ⟨_, he⟩
  · obtain ⟨b, arr, k1, k2, k3, k4⟩ := H.heap i _ hid
    refine ⟨b, arr, k1, k2, by omega, fun j c' x hc' hx => ?_⟩
    have hj := (List.getElem?_eq_some_iff.1 hc').1
    obtain ⟨c, hcj⟩ : ∃ c, cs[j]? = some c := ⟨_, List.getElem?_eq_getElem (by omega)⟩
    exact ⟨hV _ _ (hc j c c' x hcj hc' (k4 j c x hcj hx).1), (k4 j c x hcj hx).2⟩
  · exact (H.heap i ob he).keep (Env.le_refl _) hV (fun _ _ => rfl)
section
variable {A : Amb} {n : Nat} {s : Nat → Option AV} {h : Nat → Option AO} {u : Nat → Bool}
theorem SEnt.frz {t id : Nat} {T : TypeId} {cs : List AV} (hs : s t = some (.ptr id 0)) (hh : h id = some (.cells T cs)) : SEnt A ⟨n, s, h, u⟩ ⟨n, upd s t (some (.sptr cs)), upd h id none, u⟩ := by
  intro ρ a w hst
  obtain ⟨x, hx, hv⟩ := hst.slots t _ hs
  obtain ⟨b', arr, h1, ⟨fz, hmk, h2⟩, h3, h4⟩ := hst.mem.heap id _ hh
  obtain ⟨m1, m2⟩ := hst.mem.drop id
  refine ⟨ρ, m1, fun t' v' ht' => ?_, hst.nt, hst.defers⟩
  rcases upd_eq_some (f := s) ht' with ⟨rfl, he⟩ | ⟨_, he⟩
  · cases he
    cases hv with
    | ptr _ _ b hb =>
      obtain rfl : b = b' := by rw [hb] at h1; exact Option.some.inj h1
      refine ⟨_, hx, .sptr cs b 0 (fun i => arr.getD i undef) (fun i hi => ⟨?_, ?_⟩) (fun i c hc => ?_)⟩
      · have hlt : i < arr.size := by omega
        rw [cell_of_row w b (0 + i) arr T fz h2, Nat.zero_add]
        simp [Array.getD_eq_getD_getElem?, hlt]
      · refine ⟨(Array.getElem?_eq_some_iff.1 h2).1, .inr (hst.mem.own id _ b (0 + i) hh hb), fun i' ob hi' hw => ?_⟩
        rcases upd_eq_some (f := h) hi' with ⟨_, he⟩ | ⟨hne, he⟩
        · cases he
        · exact hne (hst.mem.sep i' id ob _ b he hh (AO.at_of_wr hw) hb)
      · have hi := (List.getElem?_eq_some_iff.1 hc).1
        have hlt : i < arr.size := by omega
        exact m2 _ _ (h4 i c _ hc (by simp [Array.getD_eq_getD_getElem?, hlt])).1
  · obtain ⟨y, hy, hw⟩ := hst.slots t' v' he
    exact ⟨y, hy, m2 _ _ hw⟩
theorem SEnt.nilCell {id off : Nat} {T : TypeId} {cs : List AV} (c : Nat) (E : TypeId) (sz : Nat) (hh : h id = some (.cells T cs)) (hc : cs[off]? = some (.v (.slice none 0 0))) (hu : u c = false) (hne : (Nat.beq c id) = false) :
    SEnt A ⟨n, s, h, u⟩ ⟨n, s, upd (upd h c (some (.tip E sz 0))) id (some (.cells T (cs.set off (.sl (some c) 0 [])))), nuU u [c]⟩ := by
  intro ρ a w hst
  have hne' : id ≠ c := fun e => by subst e; simp at hne
  let ρ' : Env := ⟨ρ.blk, upd ρ.tip c (some (.slice none 0 0))⟩
  have hid : ρ'.tip c = some (.slice none 0 0) := upd_same _ _ _
  obtain ⟨m1, m2⟩ := hst.mem.extend (ρ' := ρ') (ob := .tip E sz 0) (w' := w) hu (fun i hi => ⟨rfl, upd_ne _ _ hi⟩) rfl rfl rfl (Nat.le_refl _) (fun k hk => rfl) (fun b ⟨cap, hb⟩ => by rw [hid] at hb; cases hb) (fun _ => .inl ⟨hid, rfl⟩)
  obtain ⟨k1, k2⟩ := m1.recell (id := id) (T := T) (cs := cs) (cs' := cs.set off (.sl (some c) 0 [])) (by rw [upd_ne _ _ hne']; exact hh) (by simp) (fun j x x' y hx hx' hv => by
    by_cases hj : j = off
    · subst hj
      rw [hc] at hx
      cases hx
      have hlt := (List.getElem?_eq_some_iff.1 hc).1
      rw [List.getElem?_set_self hlt] at hx'
      cases hx'
      rw [hv.raw]
      exact .sl _ _ _ _ _ (fun _ => undef) (fun i hi => by cases hi) (fun i c hc => by simp at hc) (fun k hk => by cases hk; exact hid) (Nat.le_refl _) (fun _ => rfl) (by unfold maxLen; omega)
    · rw [List.getElem?_set_ne (fun e => hj e.symm), hx] at hx'
      cases hx'
      exact hv)
  exact ⟨ρ', k1, fun t' v' ht' => by obtain ⟨y, hy, hw⟩ := hst.slots t' v' ht'; exact ⟨y, hy, k2 _ _ (m2 _ _ hw)⟩, hst.nt, hst.defers⟩
end
end Go.Proofs.YtcojfnjpcpochaaDoor.E
end
section
namespace Go.Proofs.YtcojfnjpcpochaaDoor.E
open Go Go.RowKit Go.Proofs.YtcojfnjpcpochaaDoor.V
@[simp] theorem pi_n (b j : Nat) : pi [] b j = b + j := rfl
@[simp] theorem pi_0 (o : Nat) (os : List Nat) (b : Nat) : pi (o :: os) b 0 = o := rfl
@[simp] theorem pi_s (o : Nat) (os : List Nat) (b j : Nat) : pi (o :: os) b (j + 1) = pi os b j := by
  by_cases h : j < os.length
  · rw [pi_lt (by simp; omega), pi_lt h]; rfl
  · rw [pi_ge (by simp; omega), pi_ge (by omega)]
    simp
@[simp] theorem pi_1 (o : Nat) (os : List Nat) (b : Nat) : pi (o :: os) b 1 = pi os b 0 := pi_s o os b 0
@[simp] theorem pi_2 (o : Nat) (os : List Nat) (b : Nat) : pi (o :: os) b 2 = pi os b 1 := pi_s o os b 1
@[simp] theorem pi_3 (o : Nat) (os : List Nat) (b : Nat) : pi (o :: os) b 3 = pi os b 2 := pi_s o os b 2
@[simp] theorem pi_4 (o : Nat) (os : List Nat) (b : Nat) : pi (o :: os) b 4 = pi os b 3 := pi_s o os b 3
def chOld (π : Nat → Nat) : List Nat → List (Option AO) → List (Nat × Option AO)
  | o :: os, x :: H => (o, x.map (AO.ren π)) :: chOld π os H
  | _, _ => []
def chNew (π : Nat → Nat) : Nat → List (Option AO) → List (Nat × Option AO)
  | b, x :: H => (b, x.map (AO.ren π)) :: chNew π (b + 1) H
  | _, [] => []
def nuNew : Nat → List (Option AO) → List Nat
  | b, _ :: H => b :: nuNew (b + 1) H
  | _, [] => []
theorem chNew_eq (π : Nat → Nat) : ∀ (H : List (Option AO)) (k : Nat) (b : Nat), (∀ j, j < H.length → π (k + j) = b + j) → (List.range H.length).map (fun j => (π (k + j), ((H[j]?).join).map (AO.ren π))) = chNew π b H
  | [], _, _, _ => rfl
  | x :: H, k, b, h => by
    rw [List.length_cons, List.range_succ_eq_map, List.map_cons, List.map_map]
    show _ = (b, _) :: chNew π (b + 1) H
    rw [← chNew_eq π H (k + 1) (b + 1) (fun j hj => by have := h (j + 1) (by simp; omega); rw [show k + 1 + j = k + (j + 1) by omega, this]; omega)]
    have h0 := h 0 (by simp)
    simp only [Nat.add_zero] at h0
    rw [Nat.add_zero, h0]
    congr 1
    refine List.map_congr_left fun j _ => ?_
    show (π (k + (j + 1)), _) = (π (k + 1 + j), _)
    rw [show k + (j + 1) = k + 1 + j by omega]
    rfl
theorem chOld_eq (π : Nat → Nat) : ∀ (old : List Nat) (H : List (Option AO)) (k : Nat), old.length ≤ H.length → (∀ j, j < old.length → π (k + j) = old.getD j 0) → (List.range old.length).map (fun j => (π (k + j), ((H[j]?).join).map (AO.ren π))) = chOld π old H
  | [], H, _, _, _ => by cases H <;> rfl
  | o :: os, [], _, h, _ => by simp at h
  | o :: os, x :: H, k, h, hp => by
    rw [List.length_cons, List.range_succ_eq_map, List.map_cons, List.map_map]
    show _ = (o, _) :: chOld π os H
    rw [← chOld_eq π os H (k + 1) (by simpa using h) (fun j hj => by have := hp (j + 1) (by simp; omega); rw [show k + 1 + j = k + (j + 1) by omega, this]; rfl)]
    have h0 := hp 0 (by simp)
    simp only [Nat.add_zero] at h0
    rw [Nat.add_zero, h0]
    congr 1
    refine List.map_congr_left fun j _ => ?_
    show (π (k + (j + 1)), _) = (π (k + 1 + j), _)
    rw [show k + (j + 1) = k + 1 + j by omega]
    rfl
theorem nuNew_eq : ∀ (H : List (Option AO)) (b : Nat), (List.range H.length).map (b + ·) = nuNew b H
  | [], _ => rfl
  | x :: H, b => by
    rw [List.length_cons, List.range_succ_eq_map, List.map_cons, List.map_map]
    show b :: _ = b :: nuNew (b + 1) H
    rw [← nuNew_eq H (b + 1)]
    congr 1
    exact List.map_congr_left fun j _ => by show b + (j + 1) = b + 1 + j; omega
theorem callEff_eq {old : List Nat} {base : Nat} {res : AV} {m : Nat} {H1 H2 : List (Option AO)} (ho : old.length = m) (h1 : H1.length = m) :
    callEff old base res m (H1 ++ H2) = ⟨some (res.ren (pi old base)), chOld (pi old base) old H1 ++ chNew (pi old base) base H2, nuNew base H2⟩ := by
  unfold callEff
  have e1 : (H1 ++ H2).length = m + H2.length := by simp [h1]
  rw [e1, List.range_add, List.map_append, Nat.add_sub_cancel_left, nuNew_eq H2 base]
  congr 2
  · rw [← chOld_eq (pi old base) old H1 0 (by omega) (fun j hj => by rw [Nat.zero_add]; exact pi_lt hj), ho]
    refine List.map_congr_left fun j hj => ?_
    have hj' : j < m := by simpa using hj
    rw [Nat.zero_add]
    unfold hl
    rw [List.getElem?_append_left (by omega)]
  · rw [List.map_map, ← chNew_eq (pi old base) H2 m base (fun j hj => by rw [pi_ge (by omega)]; omega)]
    refine List.map_congr_left fun j hj => ?_
    show (pi old base (m + j), (hl (H1 ++ H2) (m + j)).map _) = _
    unfold hl
    rw [List.getElem?_append_right (by omega), h1, Nat.add_sub_cancel_left]
section
variable {P : Program} {G : List (Nat × Array Value)} {l r : List Oper} {K : AS → Prop} {n : Nat} {s : Nat → Option AV} {h : Nat → Option AO} {u : Nat → Bool} {d : Tmp} {ty : TypeId} {pos : String} {aft : Array Edge} {gd : Option (Nat × Bool)} {D : Bool} {acc : List St}
theorem Ch.callH {f : FuncId} {args : List AV} {H H1 H2 : List (Option AO)} {res : AV} (F : FC P G f args H res (H1 ++ H2)) (old : List Nat) (base : Nat) {xs : List Operand} {ys : List AV} {ats : Array TypeId} {res' : AV} {hp' : List (Nat × AO)} {ch' : List (Nat × Option AO)} {nu' : List Nat}
    (hg : GdOk l.toArray ⟨some d, .call ⟨.value (.func f), xs.toArray, ats⟩, ty, pos, aft, gd⟩ ⟨n, s, h, u⟩ true) (hev : EvL ⟨n, s, h, u⟩ xs ys) (hwk : WkL ys (args.map (AV.ren (pi old base)))) (hol : Nat.beq old.length H.length = true) (h1l : Nat.beq H1.length H.length = true) (hnd : old.Nodup) (hlt : ∀ x ∈ old, x < base)
    (hres : res.ren (pi old base) = res') (hhp : hpl (pi old base) old H = hp') (hch : chOld (pi old base) old H1 ++ chNew (pi old base) base H2 = ch') (hnu : nuNew base H2 = nu')
    (h2 : HpOk ⟨n, s, h, u⟩ hp') (h3 : NuOk ⟨n, s, h, u⟩ nu') (hd : Nat.blt d n = true)
    (hr : Ch P G l D K (⟨true, xs.zip ys, hp', ⟨some res', ch', nu'⟩⟩ :: acc) r ⟨n, upd s d (some res'), chs h ch', nuU u nu'⟩) :
    Ch P G l D K acc (⟨some d, .call ⟨.value (.func f), xs.toArray, ats⟩, ty, pos, aft, gd⟩ :: r) ⟨n, s, h, u⟩ := by
  subst hres; subst hhp; subst hch; subst hnu
  have hol' := Nat.eq_of_beq_eq_true hol
  have h1l' := Nat.eq_of_beq_eq_true h1l
  have he := callEff_eq (old := old) (base := base) (res := res) (m := H.length) (H1 := H1) (H2 := H2) hol' h1l'
  have := OpS.call F old base hol' hnd hlt hev.ok.2 hwk (dst := some d) (ats := ats) (ty := ty) (pos := pos) (aft := aft) (gd := gd)
  rw [he] at this
  exact Ch.cons (st := ⟨true, xs.zip ys, hpl (pi old base) old H, ⟨some (res.ren (pi old base)), chOld (pi old base) old H1 ++ chNew (pi old base) base H2, nuNew base H2⟩⟩) ⟨hg, fun _ => ⟨this, hev.ok.1, h2, h3, fun t ht => by cases ht; exact Nat.blt_eq.mp hd⟩, fun h => nomatch h⟩ hr
end
theorem FC.split {P : Program} {G : List (Nat × Array Value)} {f : FuncId} {args : List AV} {H H' : List (Option AO)} {res : AV} (F : FC P G f args H res H') : FC P G f args H res (H'.take H.length ++ H'.drop H.length) := by
  rw [List.take_append_drop]; exact F
theorem OpS.quoU {P : Program} {G : List (Nat × Array Value)} {t t' : TypeId} {x y : Operand} {a b : Int} (ha : 0 ≤ a) (ha' : a < 18446744073709551616) (hb : 0 < b) {dst : Option Tmp} {ty : TypeId} {pos : String} {aft : Array Edge} {gd : Option (Nat × Bool)} :
    OpS P G ⟨dst, .binOp .quo t x y t', ty, pos, aft, gd⟩ [(x, .v (.int .u64 a)), (y, .v (.int .u64 b))] [] ⟨some (.v (.int .u64 (a / b))), [], []⟩ := by
  refine OpS.binR rfl fun w => ?_
  simp only [binOp, Op.intDiv]
  rw [if_neg (show ¬ b = 0 by omega), Int.tdiv_eq_ediv_of_nonneg ha, IntKind.wrap_u64]
  have h1 := Int.ediv_nonneg ha (Int.le_of_lt hb)
  have h2 : a / b ≤ a := Int.ediv_le_self b ha
  have : (a / b) % 18446744073709551616 = a / b := by omega
  first | (rw [this]; rfl) | rfl
theorem cv_mod (y : Nat) : Value.int .u8 (IntKind.u8.wrap ((y : Int) % 256)) = .int .u8 (U8 (UInt8.ofNat y)) := by
  rw [IntKind.wrap_u8, u8_ofNat]
  congr 1
  omega
@[simp] theorem nbeq (a b : Nat) : Nat.beq a b = (a == b) := by
  rw [Bool.eq_iff_iff]
  constructor
  · intro h; simpa using Nat.eq_of_beq_eq_true h
  · intro h
    obtain rfl : a = b := by simpa using h
    exact Nat.beq_refl a
theorem AV.wk.tip {π : Nat → Nat} {o o' : Option Nat} {n : Nat} {cs cs' : List AV} (ho : o.map π = o') (hc : AV.renL π cs = cs') : AV.wk (.sl o' n cs') (AV.ren π (.sl o n cs)) := by
  subst ho; subst hc; exact .rfl _
theorem HFromL.skip {π : Nat → Nat} {u : Nat → Bool} {h : Nat → Option AO} {k : Nat} {r : List (Option AO)} (hr : HFromL π u h (k + 1) r) : HFromL π u h k (none :: r) := hr
theorem SEnt.retip {A : Amb} {n : Nat} {s : Nat → Option AV} {h : Nat → Option AO} {u : Nat → Bool} {t c m sz : Nat} {E : TypeId} {cs : List AV} (c' : Nat) (hs : s t = some (.sl (some c) m cs)) (hh : h c = some (.tip E sz m)) (hu : u c' = false) :
    SEnt A ⟨n, s, h, u⟩ ⟨n, upd s t (some (.sl (some c') m cs)), upd (upd h c none) c' (some (.tip E sz m)), nuU u [c']⟩ := by
  intro ρ a w hst
  let ρ' : Env := ⟨ρ.blk, upd ρ.tip c' (ρ.tip c)⟩
  have hne : ∀ i, u i = true → i ≠ c' := fun i hi e => by subst e; rw [hu] at hi; cases hi
  have hnew : ρ'.tip c' = ρ.tip c := upd_same _ _ _
  have hold : ∀ i, i ≠ c' → ρ'.tip i = ρ.tip i := fun i hi => upd_ne _ _ hi
  have hle : ρ.le ρ' := ⟨fun _ _ h => h, fun i v hv => by rw [hold i (hne i (hst.mem.usedT i v hv))]; exact hv⟩
  have hcase : ∀ i ob, upd (upd h c none) c' (some (AO.tip E sz m)) i = some ob → (i = c' ∧ ob = .tip E sz m) ∨ (i ≠ c' ∧ i ≠ c ∧ h i = some ob) := fun i ob hi => by
    rcases upd_eq_some hi with ⟨h1, h2⟩ | ⟨h1, h2⟩
    · cases h2; exact .inl ⟨h1, rfl⟩
    · rcases upd_eq_some h2 with ⟨_, h4⟩ | ⟨h3, h4⟩
      · cases h4
      · exact .inr ⟨h1, h3, h4⟩
  have hat : ∀ i ob b, upd (upd h c none) c' (some (AO.tip E sz m)) i = some ob → ob.at_ ρ' i b → ∃ j oj, h j = some oj ∧ oj.at_ ρ j b ∧ ((i = c' ∧ j = c) ∨ (i ≠ c' ∧ i ≠ c ∧ j = i)) := fun i ob b hi hb => by
    rcases hcase i ob hi with ⟨rfl, rfl⟩ | ⟨h1, h2, h3⟩
    · obtain ⟨cap, hc⟩ := hb
      rw [hnew] at hc
      exact ⟨c, _, hh, ⟨cap, hc⟩, .inl ⟨rfl, rfl⟩⟩
    · exact ⟨i, ob, h3, (hst.mem.heap i ob h3).at_back hle hb, .inr ⟨h1, h2, rfl⟩⟩
  have hwr : ∀ i ob b o, upd (upd h c none) c' (some (AO.tip E sz m)) i = some ob → ob.wr ρ' i b o → ∃ j oj, h j = some oj ∧ oj.wr ρ j b o := fun i ob b o hi hb => by
    rcases hcase i ob hi with ⟨rfl, rfl⟩ | ⟨h1, h2, h3⟩
    · obtain ⟨cap, hc, ho⟩ := hb
      rw [hnew] at hc
      exact ⟨c, _, hh, cap, hc, ho⟩
    · exact ⟨i, ob, h3, (hst.mem.heap i ob h3).wr_back hle hb⟩
  obtain ⟨m1, m2⟩ := hst.mem.next (ρ' := ρ') (h' := upd (upd h c none) c' (some (.tip E sz m))) (u' := nuU u [c']) (w' := w) rfl rfl rfl (Nat.le_refl _)
    (fun i hi => ⟨by rw [nuU_eq, show u i = true from hi]; rfl, rfl, hold i (hne i hi)⟩) (fun i b hb => by rw [nuU_eq, show u i = true from hst.mem.usedB i b hb]; rfl)
    (fun i v hv => by
      by_cases hi : i = c'
      · rw [nuU_eq, hi]; simp
      · have hv' : ρ'.tip i = some v := hv
        rw [hold i hi] at hv'
        rw [nuU_eq, show u i = true from hst.mem.usedT i v hv']; rfl)
    (fun _ _ _ => rfl) (fun _ _ _ => rfl) (fun i ob b o hi hb => .inl (hwr i ob b o hi hb)) (fun i ob b hi hb => by obtain ⟨j, oj, h1, h2, _⟩ := hat i ob b hi hb; exact .inl ⟨j, oj, h1, h2⟩)
    (fun i j oi oj b hi hj h1 h2 => by
      obtain ⟨i', oi', k1, k2, k3⟩ := hat i oi b hi h1
      obtain ⟨j', oj', l1, l2, l3⟩ := hat j oj b hj h2
      have := hst.mem.sep i' j' oi' oj' b k1 l1 k2 l2
      omega)
    (fun hV i ob hi => by
      rcases hcase i ob hi with ⟨rfl, rfl⟩ | ⟨h1, h2, h3⟩
      · rcases hst.mem.heap c _ hh with ⟨k1, k2⟩ | ⟨g, cap, cur, k1, k2, k3, k4, k5⟩
        · exact .inl ⟨by rw [hnew]; exact k1, k2⟩
        · exact .inr ⟨g, cap, cur, by rw [hnew]; exact k1, k2, k3, k4, k5⟩
      · exact (hst.mem.heap i ob h3).keep hle hV (fun _ _ => rfl))
  refine ⟨ρ', m1, fun t' v' ht' => ?_, hst.nt, hst.defers⟩
  rcases upd_eq_some (f := s) ht' with ⟨rfl, he⟩ | ⟨_, he⟩
  · cases he
    obtain ⟨x, hx, hv⟩ := hst.slots t' _ hs
    refine ⟨x, hx, ?_⟩
    have hv' := m2 _ _ hv
    cases hv with
    | sl o n cs ad cap vals hc hcs ho hn hz hm =>
      have ht := ho c rfl
      cases hv' with
      | sl o n cs ad cap vals' hc' hcs' ho' hn' hz' hm' => exact .sl _ _ _ _ _ vals' hc' hcs' (fun k hk => by cases hk; rw [hnew]; exact ht) hn' hz' hm'
  · obtain ⟨y, hy, hw⟩ := hst.slots t' v' he
    exact ⟨y, hy, m2 _ _ hw⟩
theorem OpS.makeB {P : Program} {G : List (Nat × Array Value)} {dst : Option Tmp} {ty : TypeId} {pos : String} {aft : Array Edge} {gd : Option (Nat × Bool)} {t E : TypeId} {inf : TypeInfo} {z : Value} {x y : Operand} {k k' : IntKind} {m : Int} {n bb : Nat} (id : Nat) (hu : P.underlying t = some (.slice E)) (hi : P.info? E = some inf) (hz : inf.zero = some z) (hsz : inf.size = 1) (hzc : z.cells = #[z]) (h1 : z.oneCell' = true) (hm : m = (n : Int))
    (hbb : inf.bytes = bb) (hb : n * bb ≤ 281474976710656) (hn : n ≤ maxLen) :
    OpS P G ⟨dst, .makeSlice t x y, ty, pos, aft, gd⟩ [(x, .v (.int k m)), (y, .v (.int k' m))] [] ⟨some (.arr id 0 n), [(id, some (.cells E (List.replicate n (.v z))))], [id]⟩ := by
  subst hbb
  exact OpS.make id hu hi hz hsz hzc h1 hm hb hn
def nA (x : Nat) : AV := .v (.int .i64 (x : Int))
@[simp] theorem renL_n (π : Nat → Nat) (l : List Nat) : AV.renL π (l.map nA) = l.map nA := renL_raw π _ l
@[simp] theorem belL_n (u : Nat → Bool) (l : List Nat) : AV.belL u (l.map nA) := belL_raw u _ l
@[simp] theorem ren_n (π : Nat → Nat) (x : Nat) : AV.ren π (nA x) = nA x := rfl
@[simp] theorem bel_n (u : Nat → Bool) (x : Nat) : AV.bel u (nA x) := trivial
attribute [simp] nA chOld chNew nuNew hpl
end Go.Proofs.YtcojfnjpcpochaaDoor.E
end
section
namespace Go.Proofs.YtcojfnjpcpochaaDoor.V
def beP (x : UInt64) (size m : Nat) : List UInt8 := (List.range m).map fun j => UInt8.ofNat (x.toNat / 256 ^ (size - 1 - j))
def beS (x : UInt64) (size : Nat) : List UInt8 := beP x size size
theorem beP_length (x : UInt64) (size m : Nat) : (beP x size m).length = m := by simp [beP]
theorem beS_length (x : UInt64) (size : Nat) : (beS x size).length = size := beP_length _ _ _
theorem beP_0 (x : UInt64) (size : Nat) : beP x size 0 = [] := rfl
theorem beP_succ (x : UInt64) (size m : Nat) : beP x size (m + 1) = beP x size m ++ [UInt8.ofNat (x.toNat / 256 ^ (size - 1 - m))] := by simp [beP, List.range_succ]
theorem beS_cons (x : UInt64) (m : Nat) : beS x (m + 1) = UInt8.ofNat (x.toNat / 256 ^ m) :: beS x m := by
  unfold beS beP
  rw [List.range_succ_eq_map, List.map_cons, List.map_map]
  simp only [Nat.add_sub_cancel, Nat.sub_zero]
  congr 1
  refine List.map_congr_left fun j hj => ?_
  have : j < m := by simpa using hj
  show UInt8.ofNat (x.toNat / 256 ^ (m - (j + 1))) = _
  rw [show m - (j + 1) = m - 1 - j by omega]
theorem sh8 (x : UInt64) (q : Nat) : (shr64 x (8 * q)).toUInt8 = UInt8.ofNat (x.toNat / 256 ^ q) := by
  apply UInt8.toNat_inj.1
  have h : (2 : Nat) ^ (8 * q) = 256 ^ q := by rw [Nat.pow_mul]
  have hx := x.toNat_lt
  have hd : x.toNat / 256 ^ q ≤ x.toNat := Nat.div_le_self _ _
  simp only [shr64, h, UInt64.toNat_toUInt8, UInt64.toNat_ofNat', UInt8.toNat_ofNat']
  omega
def rowN (x : UInt64) (many m : Nat) : List UInt8 := List.replicate (many - m) 0 ++ beS x m
theorem rowN_0 (x : UInt64) (many : Nat) : rowN x many 0 = List.replicate many 0 := by simp [rowN, beS, beP]
theorem rowN_all (x : UInt64) (many : Nat) : rowN x many many = beS x many := by simp [rowN]
theorem rowN_length (x : UInt64) (many m : Nat) (h : m ≤ many) : (rowN x many m).length = many := by simp [rowN, beS_length]; omega
theorem rowN_set (x : UInt64) (many m : Nat) (h : m < many) : (rowN x many m).set (many - 1 - m) (UInt8.ofNat (x.toNat / 256 ^ m)) = rowN x many (m + 1) := by
  unfold rowN
  rw [beS_cons]
  obtain ⟨k, hk⟩ : ∃ k, many - m = k + 1 := ⟨many - m - 1, by omega⟩
  rw [hk, show many - (m + 1) = k by omega, show many - 1 - m = k by omega, List.replicate_succ']
  rw [List.append_assoc, List.set_append_right _ _ (by simp)]
  simp
end Go.Proofs.YtcojfnjpcpochaaDoor.V
end
section
namespace Go.Proofs.YtcojfnjpcpochaaDoor.E
open Go Go.RowKit Go.Proofs.YtcojfnjpcpochaaDoor.V
attribute [local go_sem] B_size B_append B_extract mk_B B_toList take_drop_len List.length_drop List.length_take sgn32 sgn64 add32 sub32 mul32 add64 sub64 mul64 mul64_8 and32 or32 xor32 and64 or64 xor64 shl32_run shr32_run shl64_run shr64_run not32 not32' xor32_all w_u32_u8 w_u64_u8 w_i64_u8 w_u8_u32 w_u8_u64 w_u32_u64 w_u64_u32 w_u8_u8 w_u32_u32 w_u64_u64
attribute [local go_sem ↓] run_index_B' add32 sub32 mul32 add64 sub64 mul64 mul64_8 and32 or32 xor32 and64 or64 xor64 shl32_run shr32_run shl64_run shr64_run not32 not32' xor32_all w_u32_u8 w_u64_u8 w_i64_u8 w_u8_u32 w_u8_u64 w_u32_u64 w_u64_u32 w_u8_u8 w_u32_u32 w_u64_u64 w_u64_nat w_u32_nat w_u8_nat
set_option maxRecDepth 4000
theorem lay_fc {G : List (Nat × Array Value)} (l : List UInt8) (x : UInt64) (size : Nat) (hs0 : 0 < size) (hs : size ≤ 8) (hl : l.length ≤ 70368744177664) :
    FC Tryd.prog G 47 [.sl (some 0) l.length (l.map bA), .v (.int .u64 (U64 x)), .v (.int .i64 (size : Int))] [some (.tip 5 1 l.length)] (.sl (some 1) (l.length + size) ((l ++ beS x size).map bA)) [none, some (.tip 5 1 (l.length + size))] := by
  refine FC.of_wp [6] Tryd.func47 rfl rfl rfl rfl ⟨⟨fun k hk => by cases hk; rfl, belL_b _ _⟩, trivial, trivial, trivial⟩ ⟨trivial, trivial⟩ (by exact Nat.le_of_ble_eq_true rfl) ?_
  intro A hG hnA hAB
  unfold start
  refine WP.from (SEnt.retip (t := 0) (c := 0) 1 rfl rfl rfl) ?_
  refine WP.rs hG ?_
  refine Ch.asg rfl rfl ?_
  refine Ch.nil ?_
  refine WP.seq ?_
  refine WP.rs hG ?_
  refine Ch.mv rfl rfl ?_
  refine Ch.pu gdN (by exact ⟨rfl, rfl, trivial⟩) (OpS.int rfl (by first | exact wr64 (by omega) | exact rfl)) trivial rfl ?_
  refine Ch.pu gdN (by exact ⟨rfl, rfl, trivial⟩) (OpS.int rfl (by first | exact wr64 (by omega) | exact rfl)) trivial rfl ?_
  refine Ch.asg rfl rfl ?_
  refine Ch.nil ?_
  refine WP.block ?_
  refine WP.loop (fun k σ => ∃ (m : Nat) (at' : Int), (m + k = size ∧ at' = 8 * ((size : Int) - 1 - (m : Int))) ∧ σ = ⟨23, ls [(0, .sl (some 1) (l.length + m) ((l ++ beP x size m).map bA)), (1, .v (.int .u64 (U64 x))), (7, .v (.int .i64 at'))], lh [(1, .tip 5 1 (l.length + m))], blt 2⟩) (size) (Ent.of [] ?_ ?_ ?_ ?_).se ⟨0, 8 * ((size : Int) - 1), ⟨by omega, by omega⟩, rfl⟩ ?_
  · exact (fun i hi => by rw [hnA] at hi; simp only [List.length_cons, List.length_nil] at hi ⊢; first | exact absurd hi (Nat.not_lt_zero _) | (revert i; decide))
  · (repeat (first | exact trivial | (refine And.intro ⟨(by first | trivial | (simp; first | done | fail) | exact ⟨trivial, hbel _⟩), _, rfl, (by first | exact .rfl _ | exact .nil | exact .of_eq (by simp [beP_0]; first | done | fail) | exact AV.wk.sh (by simp [beP_0]; first | done | fail) | exact .untip _ _ _)⟩ ?_)))
  · (repeat (first | exact trivial | (refine And.intro ⟨rfl, (by first | trivial | (simp; first | done | fail) | exact ⟨trivial, hbel _⟩), (by first | rfl | (simp [beP_0]; first | done | fail))⟩ ?_)))
  · simp [rn]
  · rintro k σ ⟨m, at', ⟨hm, hat⟩, rfl⟩
    have hbs := beP_succ x size m
    have hbl := beP_length x size m
    have hsh := sh8 x (size - 1 - m)
    refine WP.seq ?_
    refine WP.rs hG ?_
    refine Ch.mv rfl rfl ?_
    refine Ch.pu gdN (by exact ⟨rfl, rfl, trivial⟩) (OpS.int rfl (by first | exact wr64 (by omega) | exact rfl)) trivial rfl ?_
    refine Ch.nil ?_
    refine WP.cond rfl ?_ ?_
    · intro ht
      have ht' := of_decide_eq_true ht
      refine WP.skip ?_
      refine WP.seq ?_
      refine WP.block ?_
      refine WP.rg hG ?_
      refine Ch.mv rfl rfl ?_
      refine Ch.mv rfl rfl ?_
      refine Ch.mv rfl rfl ?_
      refine Ch.pu gdN (by exact ⟨rfl, rfl, trivial⟩) (OpS.shr_u64 (j := 8 * (size - 1 - m)) (by omega) (by omega)) trivial rfl ?_
      refine Ch.pu gdN (by exact ⟨rfl, trivial⟩) (OpS.conv rfl rfl (by first | exact cv_u32_u8 _ | exact cv_u64_u8 _ | exact cv_i64_u8 _ | exact cv_u8_u32 _ | exact cv_u8_u64 _ | exact cv_u32_u64 _ | exact cv_u64_u32 _ | exact cv_u8_u8 _ | exact cv_u32_u32 _ | exact cv_u64_u64 _ | exact wr64 (by omega) | exact cv_u64_nat _ | exact cv_u32_nat _ | exact cv_u8_nat _ | exact rfl)) trivial rfl ?_
      refine Ch.pup gdN (by repeat (first | exact EvP.nil | (apply EvP.cons; exact rfl))) (OpS.slice1 rfl rfl rfl rfl rfl rfl (by rfl) rfl (by rfl)) rfl ?_
      refine Ch.al gdN (by exact ⟨rfl, rfl, trivial⟩) (OpS.append (sz := 1) (bb := 1) 2 rfl rfl rfl rfl rfl (by decide) (SrcA.sl rfl (by simp)) (by first | (simp; done) | (simp; assumption)) (by simp) (by unfold maxLen; omega) rfl (by omega)) (by first | exact trivial | exact ⟨rfl, trivial⟩) (by first | exact trivial | exact ⟨rfl, trivial⟩ | exact ⟨rfl, rfl, trivial⟩) rfl ?_
      refine Ch.asg rfl rfl ?_
      refine Ch.nil ?_
      refine WP.rg hG ?_
      refine Ch.mv rfl rfl ?_
      refine Ch.pu gdN (by exact ⟨rfl, rfl, trivial⟩) (OpS.int rfl (by first | exact wr64 (by omega) | exact rfl)) trivial rfl ?_
      refine Ch.asg rfl rfl ?_
      refine Ch.nil ?_
      refine ⟨k - 1, _, by omega, (Ent.of [0, 2] ?_ ?_ ?_ ?_).se, m + 1, at' - 8, ⟨by omega, by omega⟩, rfl⟩
      · exact (fun i hi => by rw [hnA] at hi; simp only [List.length_cons, List.length_nil] at hi ⊢; first | exact absurd hi (Nat.not_lt_zero _) | (revert i; decide))
      · (repeat (first | exact trivial | (refine And.intro ⟨(by first | trivial | (simp; first | done | fail) | exact ⟨trivial, hbel _⟩), _, rfl, (by first | exact .rfl _ | exact .nil | exact .of_eq (by simp [hbs, hsh, Nat.add_assoc]; first | done | fail) | exact AV.wk.sh (by simp [hbs, hsh, Nat.add_assoc]; first | done | fail) | exact .untip _ _ _)⟩ ?_)))
      · (repeat (first | exact trivial | (refine And.intro ⟨rfl, (by first | trivial | (simp; first | done | fail) | exact ⟨trivial, hbel _⟩), (by first | rfl | (simp [hbs, hsh, Nat.add_assoc]; first | done | fail))⟩ ?_)))
      · simp [rn]
    · intro ht
      have ht' := of_decide_eq_false ht
      obtain rfl : m = size := by omega
      refine WP.exit ?_
      refine WP.rs hG ?_
      refine Ch.mv rfl rfl ?_
      refine Ch.asg rfl rfl ?_
      refine Ch.nil ?_
      refine WP.ret ?_
      refine (Ret.of (rs := [6]) (vs := [.sl (some 1) (l.length + m) ((l ++ beS x m).map bA)]) (H' := [none, some (.tip 5 1 (l.length + m))]) (res := .sl (some 1) (l.length + m) ((l ++ beS x m).map bA)) [0, 1] ?_ ?_ rfl ?_ (by simp only [List.length_cons, List.length_nil]; decide) ?_).1
      · exact (fun i hi => by rw [hnA] at hi; simp only [List.length_cons, List.length_nil] at hi ⊢; first | exact absurd hi (Nat.not_lt_zero _) | (revert i; decide))
      · (repeat (first | exact trivial | (refine And.intro ⟨(by first | trivial | (simp; first | done | fail) | exact ⟨trivial, hbel _⟩), _, rfl, (by first | exact .rfl _ | exact .nil | exact .of_eq (by simp [beS]; first | done | fail) | exact AV.wk.sh (by simp [beS]; first | done | fail) | exact .untip _ _ _)⟩ ?_)))
      · (repeat (first | exact trivial | refine HFromL.skip ?_ | (refine And.intro ⟨(by first | trivial | (simp; first | done | fail) | exact ⟨trivial, hbel _⟩), (by first | rfl | (simp [beS]; first | done | fail) | (conv => rhs; simp only [AO.ren, AV.ren, AV.renL, Option.map_some, beS]) <;> rfl)⟩ ?_)))
      · rfl

abbrev wrH (l : List UInt8) : List (Option AO) := [some (.cells 71 [.sl (some 1) l.length (l.map bA)]), some (.tip 5 1 l.length)]
theorem newWriter_fc0 {G : List (Nat × Array Value)} : FC Tryd.prog G 21 [] [] (.ptr 0 0) [some (.cells 71 [.v (.slice none 0 0)])] := by
  refine FC.of_wp [0] Tryd.func21 rfl rfl rfl rfl (by first | trivial | (simp; first | done | fail) | exact ⟨trivial, hbel _⟩) (by first | trivial | (simp; first | done | fail) | exact ⟨trivial, hbel _⟩) (by exact Nat.le_of_ble_eq_true rfl) ?_
  intro A hG hnA hAB
  unfold start
  refine WP.rs hG ?_
  refine Ch.asg rfl rfl ?_
  refine Ch.nil ?_
  refine WP.rs hG ?_
  refine Ch.pup gdN (by repeat (first | exact EvP.nil | (apply EvP.cons; exact rfl))) (OpS.build (cs := [.v (.slice none 0 0)]) rfl rfl rfl rfl rfl (by rfl)) rfl ?_
  refine Ch.al gdN (by exact ⟨rfl, trivial⟩) (OpS.box 0 rfl) (by first | exact trivial | exact ⟨rfl, trivial⟩) (by first | exact trivial | exact ⟨rfl, trivial⟩ | exact ⟨rfl, rfl, trivial⟩) rfl ?_
  refine Ch.asg rfl rfl ?_
  refine Ch.nil ?_
  refine WP.ret ?_
  refine (Ret.of (rs := [0]) (vs := [.ptr 0 0]) (H' := [some (.cells 71 [.v (.slice none 0 0)])]) (res := .ptr 0 0) [0] ?_ ?_ rfl ?_ (by simp only [List.length_cons, List.length_nil]; decide) ?_).1
  · exact (fun i hi => by rw [hnA] at hi; simp only [List.length_cons, List.length_nil] at hi ⊢; first | exact absurd hi (Nat.not_lt_zero _) | (revert i; decide))
  · (repeat (first | exact trivial | (refine And.intro ⟨(by first | trivial | (simp; first | done | fail) | exact ⟨trivial, hbel _⟩), _, rfl, (by first | exact .rfl _ | exact .nil | exact .of_eq (by simp; first | done | fail) | exact AV.wk.sh (by simp; first | done | fail) | exact .untip _ _ _)⟩ ?_)))
  · (repeat (first | exact trivial | refine HFromL.skip ?_ | (refine And.intro ⟨(by first | trivial | (simp; first | done | fail) | exact ⟨trivial, hbel _⟩), (by first | rfl | (simp; first | done | fail))⟩ ?_)))
  · rfl
theorem newWriter_fc {G : List (Nat × Array Value)} : FC Tryd.prog G 21 [] [] (.ptr 0 0) (wrH []) :=
  newWriter_fc0.conv (Nat.zero_le _) fun A hA _ _ => by
    refine (SEnt.nilCell (id := 0) (off := 0) 1 5 1 rfl rfl rfl rfl).trans (Ent.se (π := rn []) ⟨rfl, fun i hi => ?_, fun t v ht => ?_, fun i o hi => ?_, fun i j oi oj _ _ h => h⟩)
    · rw [hA] at hi; exact absurd hi (Nat.not_lt_zero _)
    · have hm := ls_some ht
      simp only [List.mem_singleton, Prod.mk.injEq] at hm
      obtain ⟨rfl, rfl⟩ := hm
      exact ⟨rfl, _, rfl, .rfl _⟩
    · match i, hi with
      | 0, hi => cases hi; exact ⟨rfl, ⟨⟨fun k hk => by cases hk; rfl, trivial⟩, trivial⟩, rfl⟩
      | 1, hi => cases hi; exact ⟨rfl, trivial, rfl⟩
      | _ + 2, hi => cases hi
theorem wNum_fc {G : List (Nat × Array Value)} (l : List UInt8) (x : UInt64) (hl : l.length ≤ 70368744177664) :
    FC Tryd.prog G 22 [.ptr 0 0, .v (.int .u64 (U64 x))] (wrH l) (.tup []) [some (.cells 71 [.sl (some 2) (l ++ beS x 8).length ((l ++ beS x 8).map bA)]), none, some (.tip 5 1 (l ++ beS x 8).length)] := by
  have hbl := beS_length x 8
  refine FC.of_wp [] Tryd.func22 rfl rfl rfl rfl ⟨rfl, trivial, trivial⟩ ⟨⟨⟨fun k hk => by cases hk; rfl, belL_b _ _⟩, trivial⟩, trivial, trivial⟩ (by exact Nat.le_of_ble_eq_true rfl) ?_
  intro A hG hnA hAB
  unfold start
  refine WP.rg hG ?_
  refine Ch.mv rfl rfl ?_
  refine Ch.mv rfl rfl ?_
  refine Ch.pu gdN (by exact ⟨rfl, trivial⟩) (OpS.nilCheckP) trivial rfl ?_
  refine Ch.pu gdN (by exact ⟨rfl, trivial⟩) (OpS.fieldAddr rfl rfl rfl rfl) trivial rfl ?_
  refine Ch.pu gdN (by exact ⟨rfl, trivial⟩) (OpS.loadP rfl rfl rfl) ⟨rfl, trivial⟩ rfl ?_
  refine Ch.mv rfl rfl ?_
  refine Ch.callH (FC.split (lay_fc l x 8 (by decide) (by decide) hl)) [1] 2 gdN (by repeat (first | exact EvL.nil | (apply EvL.cons; exact rfl))) (by exact (And.intro (by first | exact .rfl _ | exact .untip _ _ _ | exact .nil | exact .func _ | exact AV.wk.sh (renL_s _ _) | exact AV.wk.tip rfl (by first | exact renL_b _ _ | exact renL_s _ _ | exact renL_i _ _ | exact renL_w _ _) | exact AV.wk.sh (by simp; first | done | fail)) (And.intro (by first | exact .rfl _ | exact .untip _ _ _ | exact .nil | exact .func _ | exact AV.wk.sh (renL_s _ _) | exact AV.wk.tip rfl (by first | exact renL_b _ _ | exact renL_s _ _ | exact renL_i _ _ | exact renL_w _ _) | exact AV.wk.sh (by simp; first | done | fail)) (And.intro (by first | exact .rfl _ | exact .untip _ _ _ | exact .nil | exact .func _ | exact AV.wk.sh (renL_s _ _) | exact AV.wk.tip rfl (by first | exact renL_b _ _ | exact renL_s _ _ | exact renL_i _ _ | exact renL_w _ _) | exact AV.wk.sh (by simp; first | done | fail)) trivial)))) rfl rfl (by decide) (by decide) (by first | ((conv => lhs; simp only [AV.ren, AV.renL, AO.ren, renL_b, renL_s, renL_w, renL_i, renL_append, ren_b, ren_s, ren_w, ren_i, pi_n, pi_0, pi_s, pi_1, pi_2, pi_3, pi_4, chOld, chNew, nuNew, hpl, Option.map_some, Option.map_none, List.length_cons, List.length_nil, List.take_succ_cons, List.take_zero, List.take_nil, List.drop_succ_cons, List.drop_zero, List.drop_nil, List.cons_append, List.nil_append, Nat.zero_add, Nat.add_zero, Nat.reduceAdd]); all_goals rfl) | rfl) (by first | ((conv => lhs; simp only [AV.ren, AV.renL, AO.ren, renL_b, renL_s, renL_w, renL_i, renL_append, ren_b, ren_s, ren_w, ren_i, pi_n, pi_0, pi_s, pi_1, pi_2, pi_3, pi_4, chOld, chNew, nuNew, hpl, Option.map_some, Option.map_none, List.length_cons, List.length_nil, List.take_succ_cons, List.take_zero, List.take_nil, List.drop_succ_cons, List.drop_zero, List.drop_nil, List.cons_append, List.nil_append, Nat.zero_add, Nat.add_zero, Nat.reduceAdd]); all_goals rfl) | rfl) (by first | ((conv => lhs; simp only [AV.ren, AV.renL, AO.ren, renL_b, renL_s, renL_w, renL_i, renL_append, ren_b, ren_s, ren_w, ren_i, pi_n, pi_0, pi_s, pi_1, pi_2, pi_3, pi_4, chOld, chNew, nuNew, hpl, Option.map_some, Option.map_none, List.length_cons, List.length_nil, List.take_succ_cons, List.take_zero, List.take_nil, List.drop_succ_cons, List.drop_zero, List.drop_nil, List.cons_append, List.nil_append, Nat.zero_add, Nat.add_zero, Nat.reduceAdd]); all_goals rfl) | rfl) (by first | ((conv => lhs; simp only [AV.ren, AV.renL, AO.ren, renL_b, renL_s, renL_w, renL_i, renL_append, ren_b, ren_s, ren_w, ren_i, pi_n, pi_0, pi_s, pi_1, pi_2, pi_3, pi_4, chOld, chNew, nuNew, hpl, Option.map_some, Option.map_none, List.length_cons, List.length_nil, List.take_succ_cons, List.take_zero, List.take_nil, List.drop_succ_cons, List.drop_zero, List.drop_nil, List.cons_append, List.nil_append, Nat.zero_add, Nat.add_zero, Nat.reduceAdd]); all_goals rfl) | rfl) (by first | exact trivial | exact ⟨rfl, trivial⟩ | exact ⟨rfl, rfl, trivial⟩ | exact ⟨rfl, rfl, rfl, trivial⟩ | exact ⟨rfl, rfl, rfl, rfl, trivial⟩) (by first | exact trivial | exact ⟨rfl, trivial⟩ | exact ⟨rfl, rfl, trivial⟩ | exact ⟨rfl, rfl, rfl, trivial⟩ | exact ⟨rfl, rfl, rfl, rfl, trivial⟩) rfl ?_
  refine Ch.pu gdN (by exact ⟨rfl, trivial⟩) (OpS.nilCheckP) trivial rfl ?_
  refine Ch.pu gdN (by exact ⟨rfl, trivial⟩) (OpS.fieldAddr rfl rfl rfl rfl) trivial rfl ?_
  refine Ch.wr gdN (by exact ⟨rfl, rfl, trivial⟩) (OpS.storeP (cs := [.sl (some 1) l.length (l.map bA)]) rfl rfl rfl (by simp)) (by first | exact trivial | exact ⟨rfl, trivial⟩) (by first | exact trivial | exact ⟨rfl, trivial⟩ | exact ⟨rfl, rfl, trivial⟩) ?_
  refine Ch.nil ?_
  refine (Ret.of (rs := []) (vs := []) (H' := [some (.cells 71 [.sl (some 2) (l ++ beS x 8).length ((l ++ beS x 8).map bA)]), none, some (.tip 5 1 (l ++ beS x 8).length)]) (res := .tup []) [0, 1, 2] ?_ ?_ rfl ?_ (by simp only [List.length_cons, List.length_nil]; decide) ?_).2
  · exact (fun i hi => by rw [hnA] at hi; simp only [List.length_cons, List.length_nil] at hi ⊢; first | exact absurd hi (Nat.not_lt_zero _) | (revert i; decide))
  · (repeat (first | exact trivial | (refine And.intro ⟨(by first | trivial | (simp; first | done | fail) | exact ⟨trivial, hbel _⟩), _, rfl, (by first | exact .rfl _ | exact .nil | exact .of_eq (by simp [hbl]; first | done | fail) | exact AV.wk.sh (by simp [hbl]; first | done | fail) | exact .untip _ _ _)⟩ ?_)))
  · (repeat (first | exact trivial | refine HFromL.skip ?_ | (refine And.intro ⟨(by first | trivial | (simp; first | done | fail) | exact ⟨trivial, hbel _⟩), (by first | rfl | (simp [hbl]; first | done | fail) | (conv => rhs; simp only [AO.ren, AV.ren, AV.renL, Option.map_some, hbl]) <;> rfl)⟩ ?_)))
  · exact ⟨_, rfl, rfl, by simp [ls, TsOk, List.zip, List.zipWith]⟩
theorem wBytes_fc {G : List (Nat × Array Value)} (l : List UInt8) : FC Tryd.prog G 26 [.ptr 0 0] (wrH l) (sA l) (wrH l) := by
  refine FC.of_wp [2] Tryd.func26 rfl rfl rfl rfl ⟨rfl, trivial⟩ ⟨⟨⟨fun k hk => by cases hk; rfl, belL_b _ _⟩, trivial⟩, trivial, trivial⟩ (by exact Nat.le_of_ble_eq_true rfl) ?_
  intro A hG hnA hAB
  unfold start
  refine WP.rs hG ?_
  refine Ch.asg rfl rfl ?_
  refine Ch.nil ?_
  refine WP.rs hG ?_
  refine Ch.mv rfl rfl ?_
  refine Ch.pu gdN (by exact ⟨rfl, trivial⟩) (OpS.nilCheckP) trivial rfl ?_
  refine Ch.pu gdN (by exact ⟨rfl, trivial⟩) (OpS.fieldAddr rfl rfl rfl rfl) trivial rfl ?_
  refine Ch.pu gdN (by exact ⟨rfl, trivial⟩) (OpS.loadP rfl rfl rfl) ⟨rfl, trivial⟩ rfl ?_
  refine Ch.pu gdN (by exact ⟨rfl, trivial⟩) (OpS.b2s rfl rfl rfl (by first | rfl | (simp; done) | omega)) trivial rfl ?_
  refine Ch.asg rfl rfl ?_
  refine Ch.nil ?_
  refine WP.ret ?_
  refine (Ret.of (rs := [2]) (vs := [sA l]) (H' := wrH l) (res := sA l) [0, 1] ?_ ?_ rfl ?_ (by simp only [List.length_cons, List.length_nil]; decide) ?_).1
  · exact (fun i hi => by rw [hnA] at hi; simp only [List.length_cons, List.length_nil] at hi ⊢; first | exact absurd hi (Nat.not_lt_zero _) | (revert i; decide))
  · (repeat (first | exact trivial | (refine And.intro ⟨(by first | trivial | (simp; first | done | fail) | exact ⟨trivial, hbel _⟩), _, rfl, (by first | exact .rfl _ | exact .nil | exact .of_eq (by simp; first | done | fail) | exact AV.wk.sh (by simp; first | done | fail) | exact .untip _ _ _)⟩ ?_)))
  · (repeat (first | exact trivial | refine HFromL.skip ?_ | (refine And.intro ⟨(by first | trivial | (simp; first | done | fail) | exact ⟨trivial, hbel _⟩), (by first | rfl | (simp; first | done | fail))⟩ ?_)))
  · rfl
end Go.Proofs.YtcojfnjpcpochaaDoor.E
end
