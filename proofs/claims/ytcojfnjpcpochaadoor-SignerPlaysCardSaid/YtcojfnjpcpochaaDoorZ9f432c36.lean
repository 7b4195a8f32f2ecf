import Derived.Test.YtcojfnjpcpochaaDoorZbb7870ae
import Derived.Test.YtcojfnjpcpochaaDoorZ65817ea1
import Derived.Test.YtcojfnjpcpochaaDoorZ4f50a267
import Derived.Test.YtcojfnjpcpochaaDoorZ096d3a98
section
namespace Go.Proofs.YtcojfnjpcpochaaDoor.V
def valU (l : List UInt8) : UInt64 := l.foldl (fun n c => shl64 n 8 ||| c.toUInt64) 0
theorem valU_succ (l : List UInt8) (i : Nat) (h : i < l.length) : valU (l.take (i + 1)) = shl64 (valU (l.take i)) 8 ||| (l[i]'h).toUInt64 := by
  unfold valU
  rw [List.take_add_one, List.getElem?_eq_getElem h, List.foldl_append]
  rfl
theorem or_byte (a b : Nat) (h : b < 256) : a * 256 ||| b = a * 256 + b := by
  have := Nat.two_pow_add_eq_or_of_lt (i := 8) (b := b) (by omega) a
  rw [Nat.mul_comm] at this
  exact this.symm
theorem step_toNat (n : UInt64) (c : UInt8) (h : n.toNat < 2 ^ 56) : (shl64 n 8 ||| c.toUInt64).toNat = n.toNat * 256 + c.toNat := by
  have hc := c.toNat_lt
  rw [UInt64.toNat_or]
  unfold shl64
  rw [UInt64.toNat_ofNat', UInt8.toNat_toUInt64, Nat.mod_eq_of_lt (by omega)]
  exact or_byte _ _ (by omega)
theorem valU_lt : ∀ (k : Nat) (l : List UInt8), l.length = k → k ≤ 8 → (valU l).toNat < 256 ^ k
  | 0, l, h, _ => by
    obtain rfl := List.eq_nil_of_length_eq_zero h
    decide
  | k + 1, l, h, hk => by
    have e := valU_succ l k (by omega)
    rw [List.take_of_length_le (by omega)] at e
    have ih := valU_lt k (l.take k) (by rw [List.length_take]; omega) (by omega)
    have hle : 256 ^ k ≤ 2 ^ 56 := by
      have : (256 : Nat) ^ k ≤ 256 ^ 7 := Nat.pow_le_pow_right (by decide) (by omega)
      exact Nat.le_trans this (by decide)
    have hc := (l[k]'(by omega)).toNat_lt
    rw [e, step_toNat _ _ (by omega), Nat.pow_succ]
    omega
theorem valU_beP (x : UInt64) (size : Nat) (h8 : size ≤ 8) : ∀ m, m ≤ size → (valU (beP x size m)).toNat = x.toNat / 256 ^ (size - m) % 256 ^ m
  | 0, _ => by rw [beP_0, Nat.pow_zero, Nat.mod_one]; rfl
  | m + 1, h => by
    have ih := valU_beP x size h8 m (by omega)
    have hl := valU_lt m (beP x size m) (beP_length _ _ _) (by omega)
    have hle : 256 ^ m ≤ 2 ^ 56 := by
      have : (256 : Nat) ^ m ≤ 256 ^ 7 := Nat.pow_le_pow_right (by decide) (by omega)
      exact Nat.le_trans this (by decide)
    have e : valU (beP x size (m + 1)) = shl64 (valU (beP x size m)) 8 ||| (UInt8.ofNat (x.toNat / 256 ^ (size - 1 - m))).toUInt64 := by
      rw [beP_succ]; unfold valU; rw [List.foldl_append]; rfl
    rw [e, step_toNat _ _ (by omega), ih, UInt8.toNat_ofNat', show size - (m + 1) = size - 1 - m by omega]
    have e2 : size - m = size - 1 - m + 1 := by omega
    rw [e2, Nat.pow_succ 256 (size - 1 - m), ← Nat.div_div_eq_div_mul]
    generalize x.toNat / 256 ^ (size - 1 - m) = y
    rw [show (256 : Nat) ^ (m + 1) = 256 * 256 ^ m by rw [Nat.pow_succ, Nat.mul_comm], Nat.mod_mul]
    omega
theorem valU_beS (x : UInt64) (m : Nat) (h : m ≤ 8) : (valU (beS x m)).toNat = x.toNat % 256 ^ m := by
  unfold beS
  rw [valU_beP x m h m (Nat.le_refl _), Nat.sub_self, Nat.pow_zero, Nat.div_one]
theorem valU_be8 (x : UInt64) : valU (beS x 8) = x := by
  apply UInt64.toNat_inj.1
  rw [valU_beS x 8 (by decide)]
  have := x.toNat_lt
  exact Nat.mod_eq_of_lt (by omega)
def rdCut (n : Nat) (r : List UInt8 × Bool) : List UInt8 × List UInt8 × Bool := if r.2 = true ∨ r.1.length < n then ([], r.1, true) else (r.1.take n, r.1.drop n, false)
def rdNum (r : List UInt8 × Bool) : UInt64 × List UInt8 × Bool := (if (rdCut 8 r).2.2 = true then 0 else valU (rdCut 8 r).1, (rdCut 8 r).2)
def rdText (most : Nat) (r : List UInt8 × Bool) : List UInt8 × List UInt8 × Bool :=
  if (rdCut 4 r).2.2 = true then ([], (rdCut 4 r).2) else if most < (valU (rdCut 4 r).1).toNat then ([], (rdCut 4 r).2.1, true) else rdCut (valU (rdCut 4 r).1).toNat (rdCut 4 r).2
theorem rdCut_bad (n : Nat) (l : List UInt8) : rdCut n (l, true) = ([], l, true) := if_pos (.inl rfl)
theorem rdCut_short {n : Nat} {l : List UInt8} {b : Bool} (h : l.length < n) : rdCut n (l, b) = ([], l, true) := if_pos (.inr h)
theorem rdCut_fit {n : Nat} {l : List UInt8} (h : n ≤ l.length) : rdCut n (l, false) = (l.take n, l.drop n, false) := if_neg (fun k => k.elim (fun e => by cases e) (fun e => by have : l.length < n := e; omega))
theorem rdCut_len (n : Nat) (r : List UInt8 × Bool) : (rdCut n r).1.length ≤ n ∧ (rdCut n r).2.1.length ≤ r.1.length := by
  unfold rdCut
  split
  · exact ⟨Nat.zero_le _, Nat.le_refl _⟩
  · exact ⟨List.length_take_le _ _, by show (r.1.drop n).length ≤ _; rw [List.length_drop]; omega⟩
theorem rdCut_ok {n : Nat} {r : List UInt8 × Bool} (h : (rdCut n r).2.2 = false) : r.2 = false ∧ n ≤ r.1.length ∧ rdCut n r = (r.1.take n, r.1.drop n, false) := by
  unfold rdCut at h ⊢
  split at h
  · cases h
  · rename_i hn
    refine ⟨by rw [← Bool.not_eq_true]; exact fun e => hn (.inl e), by omega, if_neg hn⟩
end Go.Proofs.YtcojfnjpcpochaaDoor.V
end
section
namespace Go.Proofs.YtcojfnjpcpochaaDoor.E
open Go Go.RowKit Go.Proofs.YtcojfnjpcpochaaDoor.V
attribute [local go_sem] B_size B_append B_extract mk_B B_toList take_drop_len List.length_drop List.length_take sgn32 sgn64 add32 sub32 mul32 add64 sub64 mul64 mul64_8 and32 or32 xor32 and64 or64 xor64 shl32_run shr32_run shl64_run shr64_run not32 not32' xor32_all w_u32_u8 w_u64_u8 w_i64_u8 w_u8_u32 w_u8_u64 w_u32_u64 w_u64_u32 w_u8_u8 w_u32_u32 w_u64_u64
attribute [local go_sem ↓] run_index_B' add32 sub32 mul32 add64 sub64 mul64 mul64_8 and32 or32 xor32 and64 or64 xor64 shl32_run shr32_run shl64_run shr64_run not32 not32' xor32_all w_u32_u8 w_u64_u8 w_i64_u8 w_u8_u32 w_u8_u64 w_u32_u64 w_u64_u32 w_u8_u8 w_u32_u32 w_u64_u64 w_u64_nat w_u32_nat w_u8_nat
set_option maxRecDepth 4000
section
variable {G : List (Nat × Array Value)}
abbrev rdC (l : List UInt8) (bad : Bool) : List AV := [sA l, .v (.bool bad)]
abbrev rdH (l : List UInt8) (bad : Bool) : List (Option AO) := [some (.cells 92 (rdC l bad))]
theorem newReader_fc (l : List UInt8) : FC Tryd.prog G 36 [sA l] [] (.ptr 0 0) (rdH l false) := by
  refine FC.of_wp [2] Tryd.func36 rfl rfl rfl rfl ⟨trivial, trivial⟩ trivial (by exact Nat.le_of_ble_eq_true rfl) ?_
  intro A hG hnA hAB
  unfold start
  refine WP.rs hG ?_
  refine Ch.asg rfl rfl ?_
  refine Ch.nil ?_
  refine WP.rs hG ?_
  refine Ch.mv rfl rfl ?_
  refine Ch.pup gdN (by repeat (first | exact EvP.nil | (apply EvP.cons; exact rfl))) (OpS.build (cs := rdC l false) rfl rfl rfl rfl rfl (by rfl)) rfl ?_
  refine Ch.al gdN (by exact ⟨rfl, trivial⟩) (OpS.box 0 rfl) (by first | exact trivial | exact ⟨rfl, trivial⟩) (by first | exact trivial | exact ⟨rfl, trivial⟩ | exact ⟨rfl, rfl, trivial⟩) rfl ?_
  refine Ch.asg rfl rfl ?_
  refine Ch.nil ?_
  refine WP.ret ?_
  refine (Ret.of (rs := [2]) (vs := [.ptr 0 0]) (H' := rdH l false) (res := .ptr 0 0) [0] ?_ ?_ rfl ?_ (by simp only [List.length_cons, List.length_nil]; decide) ?_).1
  · exact (fun i hi => by rw [hnA] at hi; simp only [List.length_cons, List.length_nil] at hi ⊢; first | exact absurd hi (Nat.not_lt_zero _) | (revert i; decide))
  · (repeat (first | exact trivial | (refine And.intro ⟨(by first | trivial | (simp; first | done | fail) | exact ⟨trivial, hbel _⟩), _, rfl, (by first | exact .rfl _ | exact .nil | exact .of_eq (by simp; first | done | fail) | exact AV.wk.sh (by simp; first | done | fail) | exact .untip _ _ _)⟩ ?_)))
  · (repeat (first | exact trivial | refine HFromL.skip ?_ | (refine And.intro ⟨(by first | trivial | (simp; first | done | fail) | exact ⟨trivial, hbel _⟩), (by first | rfl | (simp; first | done | fail))⟩ ?_)))
  · rfl
theorem cut_fc (l : List UInt8) (n : Nat) (hn : n ≤ l.length) (hl : l.length ≤ 9223372036854775807) : FC Tryd.prog G 62 [.ptr 0 0, .v (.int .i64 (n : Int))] (rdH l false) (sA (l.take n)) (rdH (l.drop n) false) := by
  refine FC.of_wp [4] Tryd.func62 rfl rfl rfl rfl ⟨rfl, trivial, trivial⟩ ⟨⟨trivial, trivial, trivial⟩, trivial⟩ (by exact Nat.le_of_ble_eq_true rfl) ?_
  intro A hG hnA hAB
  unfold start
  refine WP.rs hG ?_
  refine Ch.asg rfl rfl ?_
  refine Ch.nil ?_
  refine WP.seq ?_
  refine WP.rs hG ?_
  refine Ch.mv rfl rfl ?_
  refine Ch.mv rfl rfl ?_
  refine Ch.pu gdN (by exact ⟨rfl, trivial⟩) (OpS.nilCheckP) trivial rfl ?_
  refine Ch.pu gdN (by exact ⟨rfl, trivial⟩) (OpS.fieldAddr rfl rfl rfl rfl) trivial rfl ?_
  refine Ch.pu gdN (by exact ⟨rfl, trivial⟩) (OpS.loadP rfl rfl rfl) ⟨rfl, trivial⟩ rfl ?_
  refine Ch.mv rfl rfl ?_
  refine Ch.pu (by exact gdT rfl rfl) (by exact ⟨rfl, trivial⟩) (OpS.move) trivial rfl ?_
  refine Ch.pu (by exact gdT rfl rfl) (by exact ⟨rfl, trivial⟩) (OpS.move) trivial rfl ?_
  refine Ch.pu (by exact gdT rfl rfl) (by exact ⟨rfl, trivial⟩) (OpS.nilCheckP) trivial rfl ?_
  refine Ch.pu (by exact gdT rfl rfl) (by exact ⟨rfl, trivial⟩) (OpS.fieldAddr rfl rfl rfl rfl) trivial rfl ?_
  refine Ch.pu (by exact gdT rfl rfl) (by exact ⟨rfl, trivial⟩) (OpS.loadP rfl rfl rfl) ⟨rfl, trivial⟩ rfl ?_
  refine Ch.pu (by exact gdT rfl rfl) (by exact ⟨rfl, trivial⟩) (OpS.lenS rfl) trivial rfl ?_
  refine Ch.pu (by exact gdT rfl rfl) (by exact ⟨rfl, rfl, trivial⟩) (OpS.int (v' := .bool false) rfl (by exact congrArg Value.bool (decide_eq_false (by omega)))) trivial rfl ?_
  refine Ch.pu gdN (by first | exact ⟨rfl, rfl, trivial⟩ | exact ⟨rfl, rfl, rfl, trivial⟩) (OpS.pickF) trivial rfl ?_
  refine Ch.pu gdN (by exact ⟨rfl, trivial⟩) (OpS.nilCheckP) trivial rfl ?_
  refine Ch.pu gdN (by exact ⟨rfl, trivial⟩) (OpS.fieldAddr rfl rfl rfl rfl) trivial rfl ?_
  refine Ch.wr gdN (by exact ⟨rfl, rfl, trivial⟩) (OpS.storeP (cs := rdC l false) rfl rfl rfl (by simp)) (by first | exact trivial | exact ⟨rfl, trivial⟩) (by first | exact trivial | exact ⟨rfl, trivial⟩ | exact ⟨rfl, rfl, trivial⟩) ?_
  refine Ch.nil ?_
  refine WP.rs hG ?_
  refine Ch.mv rfl rfl ?_
  refine Ch.pu gdN (by exact ⟨rfl, trivial⟩) (OpS.nilCheckP) trivial rfl ?_
  refine Ch.pu gdN (by exact ⟨rfl, trivial⟩) (OpS.fieldAddr rfl rfl rfl rfl) trivial rfl ?_
  refine Ch.pu gdN (by exact ⟨rfl, trivial⟩) (OpS.loadP rfl rfl rfl) ⟨rfl, trivial⟩ rfl ?_
  refine Ch.nil ?_
  refine WP.cond_false rfl ?_
  refine WP.skip ?_
  refine WP.rs hG ?_
  refine Ch.mv rfl rfl ?_
  refine Ch.pu gdN (by exact ⟨rfl, trivial⟩) (OpS.nilCheckP) trivial rfl ?_
  refine Ch.pu gdN (by exact ⟨rfl, trivial⟩) (OpS.fieldAddr rfl rfl rfl rfl) trivial rfl ?_
  refine Ch.pu gdN (by exact ⟨rfl, trivial⟩) (OpS.loadP rfl rfl rfl) ⟨rfl, trivial⟩ rfl ?_
  refine Ch.mv rfl rfl ?_
  refine Ch.pu gdN (by exact ⟨rfl, rfl, trivial⟩) (OpS.sliceSh (l := l) rfl (by with_reducible exact Int.toNat_natCast _) (by omega) (by omega)) trivial rfl ?_
  refine Ch.asg rfl rfl ?_
  refine Ch.nil ?_
  refine WP.rs hG ?_
  refine Ch.mv rfl rfl ?_
  refine Ch.mv rfl rfl ?_
  refine Ch.pu gdN (by exact ⟨rfl, trivial⟩) (OpS.nilCheckP) trivial rfl ?_
  refine Ch.pu gdN (by exact ⟨rfl, trivial⟩) (OpS.fieldAddr rfl rfl rfl rfl) trivial rfl ?_
  refine Ch.pu gdN (by exact ⟨rfl, trivial⟩) (OpS.loadP rfl rfl rfl) ⟨rfl, trivial⟩ rfl ?_
  refine Ch.mv rfl rfl ?_
  refine Ch.pu gdN (by exact ⟨rfl, rfl, trivial⟩) (OpS.sliceSl (l := l) rfl (by with_reducible exact Int.toNat_natCast _) (by omega) (by omega)) trivial rfl ?_
  refine Ch.pu gdN (by exact ⟨rfl, trivial⟩) (OpS.nilCheckP) trivial rfl ?_
  refine Ch.pu gdN (by exact ⟨rfl, trivial⟩) (OpS.fieldAddr rfl rfl rfl rfl) trivial rfl ?_
  refine Ch.wr gdN (by exact ⟨rfl, rfl, trivial⟩) (OpS.storeP (cs := rdC l false) rfl rfl rfl (by simp)) (by first | exact trivial | exact ⟨rfl, trivial⟩) (by first | exact trivial | exact ⟨rfl, trivial⟩ | exact ⟨rfl, rfl, trivial⟩) ?_
  refine Ch.nil ?_
  refine WP.rs hG ?_
  refine Ch.mv rfl rfl ?_
  refine Ch.asg rfl rfl ?_
  refine Ch.nil ?_
  refine WP.ret ?_
  refine (Ret.of (rs := [4]) (vs := [sA (l.take n)]) (H' := rdH (l.drop n) false) (res := sA (l.take n)) [0] ?_ ?_ rfl ?_ (by simp only [List.length_cons, List.length_nil]; decide) ?_).1
  · exact (fun i hi => by rw [hnA] at hi; simp only [List.length_cons, List.length_nil] at hi ⊢; first | exact absurd hi (Nat.not_lt_zero _) | (revert i; decide))
  · (repeat (first | exact trivial | (refine And.intro ⟨(by first | trivial | (simp; first | done | fail) | exact ⟨trivial, hbel _⟩), _, rfl, (by first | exact .rfl _ | exact .nil | exact .of_eq (by simp; first | done | fail) | exact AV.wk.sh (by simp; first | done | fail) | exact .untip _ _ _)⟩ ?_)))
  · (repeat (first | exact trivial | refine HFromL.skip ?_ | (refine And.intro ⟨(by first | trivial | (simp; first | done | fail) | exact ⟨trivial, hbel _⟩), (by first | rfl | (simp; first | done | fail))⟩ ?_)))
  · rfl
theorem cutB_fc (l : List UInt8) (n : Int) : FC Tryd.prog G 62 [.ptr 0 0, .v (.int .i64 n)] (rdH l true) (sA []) (rdH l true) := by
  refine FC.of_wp [4] Tryd.func62 rfl rfl rfl rfl ⟨rfl, trivial, trivial⟩ ⟨⟨trivial, trivial, trivial⟩, trivial⟩ (by exact Nat.le_of_ble_eq_true rfl) ?_
  intro A hG hnA hAB
  unfold start
  refine WP.rs hG ?_
  refine Ch.asg rfl rfl ?_
  refine Ch.nil ?_
  refine WP.seq ?_
  refine WP.rs hG ?_
  refine Ch.mv rfl rfl ?_
  refine Ch.mv rfl rfl ?_
  refine Ch.pu gdN (by exact ⟨rfl, trivial⟩) (OpS.nilCheckP) trivial rfl ?_
  refine Ch.pu gdN (by exact ⟨rfl, trivial⟩) (OpS.fieldAddr rfl rfl rfl rfl) trivial rfl ?_
  refine Ch.pu gdN (by exact ⟨rfl, trivial⟩) (OpS.loadP rfl rfl rfl) ⟨rfl, trivial⟩ rfl ?_
  refine Ch.mv rfl rfl ?_
  refine Ch.skU (gdF rfl rfl rfl) rfl ?_
  refine Ch.skU (gdF rfl rfl rfl) rfl ?_
  refine Ch.skU (gdF rfl rfl rfl) rfl ?_
  refine Ch.skU (gdF rfl rfl rfl) rfl ?_
  refine Ch.skU (gdF rfl rfl rfl) rfl ?_
  refine Ch.skU (gdF rfl rfl rfl) rfl ?_
  refine Ch.skU (gdF rfl rfl rfl) rfl ?_
  refine Ch.pu gdN (by first | exact ⟨rfl, rfl, trivial⟩ | exact ⟨rfl, rfl, rfl, trivial⟩) (OpS.pickT) trivial rfl ?_
  refine Ch.pu gdN (by exact ⟨rfl, trivial⟩) (OpS.nilCheckP) trivial rfl ?_
  refine Ch.pu gdN (by exact ⟨rfl, trivial⟩) (OpS.fieldAddr rfl rfl rfl rfl) trivial rfl ?_
  refine Ch.wr gdN (by exact ⟨rfl, rfl, trivial⟩) (OpS.storeP (cs := rdC l true) rfl rfl rfl (by simp)) (by first | exact trivial | exact ⟨rfl, trivial⟩) (by first | exact trivial | exact ⟨rfl, trivial⟩ | exact ⟨rfl, rfl, trivial⟩) ?_
  refine Ch.nil ?_
  refine WP.rs hG ?_
  refine Ch.mv rfl rfl ?_
  refine Ch.pu gdN (by exact ⟨rfl, trivial⟩) (OpS.nilCheckP) trivial rfl ?_
  refine Ch.pu gdN (by exact ⟨rfl, trivial⟩) (OpS.fieldAddr rfl rfl rfl rfl) trivial rfl ?_
  refine Ch.pu gdN (by exact ⟨rfl, trivial⟩) (OpS.loadP rfl rfl rfl) ⟨rfl, trivial⟩ rfl ?_
  refine Ch.nil ?_
  refine WP.cond rfl ?_ ?_
  · intro ht
    skip
    refine WP.rs hG ?_
    refine Ch.asg rfl rfl ?_
    refine Ch.nil ?_
    refine WP.ret ?_
    refine (Ret.of (rs := [4]) (vs := [sA []]) (H' := rdH l true) (res := sA []) [0] ?_ ?_ rfl ?_ (by simp only [List.length_cons, List.length_nil]; decide) ?_).1
    · exact (fun i hi => by rw [hnA] at hi; simp only [List.length_cons, List.length_nil] at hi ⊢; first | exact absurd hi (Nat.not_lt_zero _) | (revert i; decide))
    · (repeat (first | exact trivial | (refine And.intro ⟨(by first | trivial | (simp; first | done | fail) | exact ⟨trivial, hbel _⟩), _, rfl, (by first | exact .rfl _ | exact .nil | exact .of_eq (by simp; first | done | fail) | exact AV.wk.sh (by simp; first | done | fail) | exact .untip _ _ _)⟩ ?_)))
    · (repeat (first | exact trivial | refine HFromL.skip ?_ | (refine And.intro ⟨(by first | trivial | (simp; first | done | fail) | exact ⟨trivial, hbel _⟩), (by first | rfl | (simp; first | done | fail))⟩ ?_)))
    · rfl
  · intro ht
    cases ht
    done
theorem cvalue_fc (l : List UInt8) (hl : l.length ≤ 1000) : FC Tryd.prog G 63 [sA l] [] (.v (.int .u64 (U64 (valU l)))) [] := by
  refine FC.of_wp [2] Tryd.func63 rfl rfl rfl rfl ⟨trivial, trivial⟩ trivial (by exact Nat.le_of_ble_eq_true rfl) ?_
  intro A hG hnA hAB
  unfold start
  refine WP.rs hG ?_
  refine Ch.asg rfl rfl ?_
  refine Ch.nil ?_
  refine WP.seq ?_
  refine WP.rs hG ?_
  refine Ch.mv rfl rfl ?_
  refine Ch.pu gdN (by exact ⟨rfl, trivial⟩) (OpS.s2b (l := l) rfl rfl rfl (by unfold maxLen; omega)) (by first | exact trivial | exact ⟨rfl, trivial⟩) rfl ?_
  refine Ch.pu gdN (by exact ⟨rfl, trivial⟩) (OpS.len rfl) trivial rfl ?_
  refine Ch.mv rfl rfl ?_
  refine Ch.nil ?_
  refine WP.block ?_
  refine WP.loop (fun k σ => ∃ m : Nat, m + k = l.length ∧ σ = ⟨18, ls [(2, .v (.int .u64 (U64 (valU (l.take m))))), (6, .sl none l.length (l.map bA)), (7, .v (.int .i64 (l.length : Int))), (8, .v (.int .i64 (m : Int)))], lh [], blt 0⟩) (l.length) (Ent.of [] ?_ ?_ ?_ ?_).se ⟨0, by omega, rfl⟩ ?_
  · exact (fun i hi => by rw [hnA] at hi; simp only [List.length_cons, List.length_nil] at hi ⊢; first | exact absurd hi (Nat.not_lt_zero _) | (revert i; decide))
  · (repeat (first | exact trivial | (refine And.intro ⟨(by first | trivial | (simp; first | done | fail) | exact ⟨trivial, hbel _⟩), _, rfl, (by first | exact .rfl _ | exact .nil | exact .of_eq (by simp; first | done | fail) | exact AV.wk.sh (by simp; first | done | fail) | exact .untip _ _ _)⟩ ?_)))
  · (repeat (first | exact trivial | (refine And.intro ⟨rfl, (by first | trivial | (simp; first | done | fail) | exact ⟨trivial, hbel _⟩), (by first | rfl | (simp; first | done | fail))⟩ ?_)))
  · simp [rn]
  · rintro k σ ⟨m, hm, rfl⟩
    refine WP.rs hG ?_
    refine Ch.pu gdN (by exact ⟨rfl, rfl, trivial⟩) (OpS.int rfl (by first | exact wr64 (by omega) | exact rfl)) trivial rfl ?_
    refine Ch.nil ?_
    refine WP.seq ?_
    refine WP.cond rfl ?_ ?_
    · intro ht
      have ht' := of_decide_eq_true ht
      have hml : m < l.length := by omega
      have hv := valU_succ l m hml
      refine WP.skip ?_
      refine WP.seq ?_
      refine WP.block ?_
      refine WP.rs hG ?_
      refine Ch.pu gdN (by exact ⟨rfl, rfl, trivial⟩) (OpS.indexM rfl rfl rfl (by first | with_reducible exact Int.toNat_natCast _ | with_reducible exact tnLit _ _ | with_reducible exact tnLitA _ _ | with_reducible exact tnL _ | with_reducible exact tnA _ _ | with_reducible exact tnM _ _ | with_reducible exact tnMA _ _ _ | exact rfl) (by omega) (by omega) (by first | rfl | (simp; done) | omega)) trivial rfl ?_
      refine Ch.pu gdN (by exact ⟨rfl, trivial⟩) (OpS.loadS rfl rfl) trivial rfl ?_
      refine Ch.asg rfl rfl ?_
      refine Ch.nil ?_
      refine WP.rg hG ?_
      refine Ch.mv rfl rfl ?_
      refine Ch.pu gdN (by exact ⟨rfl, rfl, trivial⟩) (OpS.shl_u64 (j := 8) (by decide) (by omega)) (by first | exact trivial | exact ⟨rfl, trivial⟩) rfl ?_
      refine Ch.mv rfl rfl ?_
      refine Ch.pu gdN (by exact ⟨rfl, trivial⟩) (OpS.conv rfl rfl (by first | exact cv_u32_u8 _ | exact cv_u64_u8 _ | exact cv_i64_u8 _ | exact cv_u8_u32 _ | exact cv_u8_u64 _ | exact cv_u32_u64 _ | exact cv_u64_u32 _ | exact cv_u8_u8 _ | exact cv_u32_u32 _ | exact cv_u64_u64 _ | exact wr64 (by omega) | exact cv_u64_nat _ | exact cv_u32_nat _ | exact cv_u8_nat _ | exact rfl)) trivial rfl ?_
      refine Ch.pu gdN (by exact ⟨rfl, rfl, trivial⟩) (OpS.or_u64) (by first | exact trivial | exact ⟨rfl, trivial⟩) rfl ?_
      refine Ch.asg rfl rfl ?_
      refine Ch.nil ?_
      refine WP.rg hG ?_
      refine Ch.pu gdN (by exact ⟨rfl, rfl, trivial⟩) (OpS.int rfl (by first | exact wr64 (by omega) | exact rfl)) trivial rfl ?_
      refine Ch.mv rfl rfl ?_
      refine Ch.nil ?_
      refine ⟨k - 1, _, by omega, (Ent.of [] ?_ ?_ ?_ ?_).se, m + 1, by omega, rfl⟩
      · exact (fun i hi => by rw [hnA] at hi; simp only [List.length_cons, List.length_nil] at hi ⊢; first | exact absurd hi (Nat.not_lt_zero _) | (revert i; decide))
      · (repeat (first | exact trivial | (refine And.intro ⟨(by first | trivial | (simp; first | done | fail) | exact ⟨trivial, hbel _⟩), _, rfl, (by first | exact .rfl _ | exact .nil | exact .of_eq (by simp [hv, el, hml]; first | done | fail) | exact AV.wk.sh (by simp [hv, el, hml]; first | done | fail) | exact .untip _ _ _)⟩ ?_)))
      · (repeat (first | exact trivial | (refine And.intro ⟨rfl, (by first | trivial | (simp; first | done | fail) | exact ⟨trivial, hbel _⟩), (by first | rfl | (simp [hv, el, hml]; first | done | fail))⟩ ?_)))
      · simp [rn]
    · intro ht
      have ht' := of_decide_eq_false ht
      obtain rfl : m = l.length := by omega
      rw [List.take_length]
      refine WP.exit ?_
      refine WP.ret (Ret.one rfl (by first | exact .rfl _ | exact .nil | exact .of_eq (by simp; first | done | fail) | exact AV.wk.sh (by simp; first | done | fail) | exact .untip _ _ _) (by first | trivial | simp [AV.bel]) hnA)
theorem rNum_fc (l : List UInt8) (h8 : 8 ≤ l.length) (hl : l.length ≤ 9223372036854775807) : FC Tryd.prog G 37 [.ptr 0 0] (rdH l false) (.v (.int .u64 (U64 (valU (l.take 8))))) (rdH (l.drop 8) false) := by
  have hc := cut_fc (G := G) l 8 h8 hl
  have hv := cvalue_fc (G := G) (l.take 8) (by rw [List.length_take]; omega)
  refine FC.of_wp [2] Tryd.func37 rfl rfl rfl rfl ⟨rfl, trivial⟩ ⟨⟨trivial, trivial, trivial⟩, trivial⟩ (by exact Nat.le_of_ble_eq_true rfl) ?_
  intro A hG hnA hAB
  unfold start
  refine WP.rs hG ?_
  refine Ch.asg rfl rfl ?_
  refine Ch.nil ?_
  refine WP.rs hG ?_
  refine Ch.mv rfl rfl ?_
  refine Ch.callH (FC.split (hc)) [0] 1 gdN (by repeat (first | exact EvL.nil | (apply EvL.cons; exact rfl))) (by exact (And.intro (by first | exact .rfl _ | exact .untip _ _ _ | exact .nil | exact .func _ | exact AV.wk.sh (renL_s _ _) | exact AV.wk.tip rfl (by first | exact renL_b _ _ | exact renL_s _ _ | exact renL_i _ _ | exact renL_w _ _) | exact AV.wk.sh (by simp; first | done | fail)) (And.intro (by first | exact .rfl _ | exact .untip _ _ _ | exact .nil | exact .func _ | exact AV.wk.sh (renL_s _ _) | exact AV.wk.tip rfl (by first | exact renL_b _ _ | exact renL_s _ _ | exact renL_i _ _ | exact renL_w _ _) | exact AV.wk.sh (by simp; first | done | fail)) trivial))) rfl rfl (by decide) (by decide) (by first | ((conv => lhs; simp only [AV.ren, AV.renL, AO.ren, renL_b, renL_s, renL_w, renL_i, renL_append, ren_b, ren_s, ren_w, ren_i, pi_n, pi_0, pi_s, pi_1, pi_2, pi_3, pi_4, chOld, chNew, nuNew, hpl, Option.map_some, Option.map_none, List.length_cons, List.length_nil, List.take_succ_cons, List.take_zero, List.take_nil, List.drop_succ_cons, List.drop_zero, List.drop_nil, List.cons_append, List.nil_append, Nat.zero_add, Nat.add_zero, Nat.reduceAdd]); all_goals rfl) | rfl) (by first | ((conv => lhs; simp only [AV.ren, AV.renL, AO.ren, renL_b, renL_s, renL_w, renL_i, renL_append, ren_b, ren_s, ren_w, ren_i, pi_n, pi_0, pi_s, pi_1, pi_2, pi_3, pi_4, chOld, chNew, nuNew, hpl, Option.map_some, Option.map_none, List.length_cons, List.length_nil, List.take_succ_cons, List.take_zero, List.take_nil, List.drop_succ_cons, List.drop_zero, List.drop_nil, List.cons_append, List.nil_append, Nat.zero_add, Nat.add_zero, Nat.reduceAdd]); all_goals rfl) | rfl) (by first | ((conv => lhs; simp only [AV.ren, AV.renL, AO.ren, renL_b, renL_s, renL_w, renL_i, renL_append, ren_b, ren_s, ren_w, ren_i, pi_n, pi_0, pi_s, pi_1, pi_2, pi_3, pi_4, chOld, chNew, nuNew, hpl, Option.map_some, Option.map_none, List.length_cons, List.length_nil, List.take_succ_cons, List.take_zero, List.take_nil, List.drop_succ_cons, List.drop_zero, List.drop_nil, List.cons_append, List.nil_append, Nat.zero_add, Nat.add_zero, Nat.reduceAdd]); all_goals rfl) | rfl) (by first | ((conv => lhs; simp only [AV.ren, AV.renL, AO.ren, renL_b, renL_s, renL_w, renL_i, renL_append, ren_b, ren_s, ren_w, ren_i, pi_n, pi_0, pi_s, pi_1, pi_2, pi_3, pi_4, chOld, chNew, nuNew, hpl, Option.map_some, Option.map_none, List.length_cons, List.length_nil, List.take_succ_cons, List.take_zero, List.take_nil, List.drop_succ_cons, List.drop_zero, List.drop_nil, List.cons_append, List.nil_append, Nat.zero_add, Nat.add_zero, Nat.reduceAdd]); all_goals rfl) | rfl) (by first | exact trivial | exact ⟨rfl, trivial⟩ | exact ⟨rfl, rfl, trivial⟩ | exact ⟨rfl, rfl, rfl, trivial⟩ | exact ⟨rfl, rfl, rfl, rfl, trivial⟩) (by first | exact trivial | exact ⟨rfl, trivial⟩ | exact ⟨rfl, rfl, trivial⟩ | exact ⟨rfl, rfl, rfl, trivial⟩ | exact ⟨rfl, rfl, rfl, rfl, trivial⟩) rfl ?_
  refine Ch.asg rfl rfl ?_
  refine Ch.nil ?_
  refine WP.seq ?_
  refine WP.rs hG ?_
  refine Ch.mv rfl rfl ?_
  refine Ch.pu gdN (by exact ⟨rfl, trivial⟩) (OpS.nilCheckP) trivial rfl ?_
  refine Ch.pu gdN (by exact ⟨rfl, trivial⟩) (OpS.fieldAddr rfl rfl rfl rfl) trivial rfl ?_
  refine Ch.pu gdN (by exact ⟨rfl, trivial⟩) (OpS.loadP rfl rfl rfl) ⟨rfl, trivial⟩ rfl ?_
  refine Ch.nil ?_
  refine WP.cond_false rfl ?_
  refine WP.skip ?_
  refine WP.rs hG ?_
  refine Ch.mv rfl rfl ?_
  refine Ch.callP (hv) gdN (by repeat (first | exact EvL.nil | (apply EvL.cons; exact rfl))) (by exact (And.intro (by first | exact .rfl _ | exact .untip _ _ _ | exact .nil | exact .func _ | exact AV.wk.sh (renL_s _ _) | exact AV.wk.sh (by simp; first | done | fail)) trivial)) (by rfl) rfl ?_
  refine Ch.asg rfl rfl ?_
  refine Ch.nil ?_
  refine WP.ret ?_
  refine (Ret.of (rs := [2]) (vs := [.v (.int .u64 (U64 (valU (l.take 8))))]) (H' := rdH (l.drop 8) false) (res := .v (.int .u64 (U64 (valU (l.take 8))))) [0] ?_ ?_ rfl ?_ (by simp only [List.length_cons, List.length_nil]; decide) ?_).1
  · exact (fun i hi => by rw [hnA] at hi; simp only [List.length_cons, List.length_nil] at hi ⊢; first | exact absurd hi (Nat.not_lt_zero _) | (revert i; decide))
  · (repeat (first | exact trivial | (refine And.intro ⟨(by first | trivial | (simp; first | done | fail) | exact ⟨trivial, hbel _⟩), _, rfl, (by first | exact .rfl _ | exact .nil | exact .of_eq (by simp; first | done | fail) | exact AV.wk.sh (by simp; first | done | fail) | exact .untip _ _ _)⟩ ?_)))
  · (repeat (first | exact trivial | refine HFromL.skip ?_ | (refine And.intro ⟨(by first | trivial | (simp; first | done | fail) | exact ⟨trivial, hbel _⟩), (by first | rfl | (simp; first | done | fail))⟩ ?_)))
  · rfl
theorem rTextB_fc (l : List UInt8) (m most : Nat) (h4 : 4 ≤ l.length) (hl : l.length ≤ 9223372036854775807) (hm : (valU (l.take 4)).toNat = m) (hmb : m ≤ 4294967296) (hmo : most < m) :
    FC Tryd.prog G 39 [.ptr 0 0, .v (.int .i64 (most : Int))] (rdH l false) (sA []) (rdH (l.drop 4) true) := by
  have hc := cut_fc (G := G) l 4 h4 hl
  have hv := cvalue_fc (G := G) (l.take 4) (by rw [List.length_take]; omega)
  have hU : U64 (valU (l.take 4)) = (m : Int) := by unfold U64; rw [hm]
  rw [hU] at hv
  have hc2 := cutB_fc (G := G) (l.drop 4) (m : Int)
  refine FC.of_wp [4] Tryd.func39 rfl rfl rfl rfl ⟨rfl, trivial, trivial⟩ ⟨⟨trivial, trivial, trivial⟩, trivial⟩ (by exact Nat.le_of_ble_eq_true rfl) ?_
  intro A hG hnA hAB
  unfold start
  refine WP.rs hG ?_
  refine Ch.asg rfl rfl ?_
  refine Ch.nil ?_
  refine WP.rs hG ?_
  refine Ch.mv rfl rfl ?_
  refine Ch.callH (FC.split (hc)) [0] 1 gdN (by repeat (first | exact EvL.nil | (apply EvL.cons; exact rfl))) (by exact (And.intro (by first | exact .rfl _ | exact .untip _ _ _ | exact .nil | exact .func _ | exact AV.wk.sh (renL_s _ _) | exact AV.wk.tip rfl (by first | exact renL_b _ _ | exact renL_s _ _ | exact renL_i _ _ | exact renL_w _ _) | exact AV.wk.sh (by simp; first | done | fail)) (And.intro (by first | exact .rfl _ | exact .untip _ _ _ | exact .nil | exact .func _ | exact AV.wk.sh (renL_s _ _) | exact AV.wk.tip rfl (by first | exact renL_b _ _ | exact renL_s _ _ | exact renL_i _ _ | exact renL_w _ _) | exact AV.wk.sh (by simp; first | done | fail)) trivial))) rfl rfl (by decide) (by decide) (by first | ((conv => lhs; simp only [AV.ren, AV.renL, AO.ren, renL_b, renL_s, renL_w, renL_i, renL_append, ren_b, ren_s, ren_w, ren_i, pi_n, pi_0, pi_s, pi_1, pi_2, pi_3, pi_4, chOld, chNew, nuNew, hpl, Option.map_some, Option.map_none, List.length_cons, List.length_nil, List.take_succ_cons, List.take_zero, List.take_nil, List.drop_succ_cons, List.drop_zero, List.drop_nil, List.cons_append, List.nil_append, Nat.zero_add, Nat.add_zero, Nat.reduceAdd]); all_goals rfl) | rfl) (by first | ((conv => lhs; simp only [AV.ren, AV.renL, AO.ren, renL_b, renL_s, renL_w, renL_i, renL_append, ren_b, ren_s, ren_w, ren_i, pi_n, pi_0, pi_s, pi_1, pi_2, pi_3, pi_4, chOld, chNew, nuNew, hpl, Option.map_some, Option.map_none, List.length_cons, List.length_nil, List.take_succ_cons, List.take_zero, List.take_nil, List.drop_succ_cons, List.drop_zero, List.drop_nil, List.cons_append, List.nil_append, Nat.zero_add, Nat.add_zero, Nat.reduceAdd]); all_goals rfl) | rfl) (by first | ((conv => lhs; simp only [AV.ren, AV.renL, AO.ren, renL_b, renL_s, renL_w, renL_i, renL_append, ren_b, ren_s, ren_w, ren_i, pi_n, pi_0, pi_s, pi_1, pi_2, pi_3, pi_4, chOld, chNew, nuNew, hpl, Option.map_some, Option.map_none, List.length_cons, List.length_nil, List.take_succ_cons, List.take_zero, List.take_nil, List.drop_succ_cons, List.drop_zero, List.drop_nil, List.cons_append, List.nil_append, Nat.zero_add, Nat.add_zero, Nat.reduceAdd]); all_goals rfl) | rfl) (by first | ((conv => lhs; simp only [AV.ren, AV.renL, AO.ren, renL_b, renL_s, renL_w, renL_i, renL_append, ren_b, ren_s, ren_w, ren_i, pi_n, pi_0, pi_s, pi_1, pi_2, pi_3, pi_4, chOld, chNew, nuNew, hpl, Option.map_some, Option.map_none, List.length_cons, List.length_nil, List.take_succ_cons, List.take_zero, List.take_nil, List.drop_succ_cons, List.drop_zero, List.drop_nil, List.cons_append, List.nil_append, Nat.zero_add, Nat.add_zero, Nat.reduceAdd]); all_goals rfl) | rfl) (by first | exact trivial | exact ⟨rfl, trivial⟩ | exact ⟨rfl, rfl, trivial⟩ | exact ⟨rfl, rfl, rfl, trivial⟩ | exact ⟨rfl, rfl, rfl, rfl, trivial⟩) (by first | exact trivial | exact ⟨rfl, trivial⟩ | exact ⟨rfl, rfl, trivial⟩ | exact ⟨rfl, rfl, rfl, trivial⟩ | exact ⟨rfl, rfl, rfl, rfl, trivial⟩) rfl ?_
  refine Ch.asg rfl rfl ?_
  refine Ch.nil ?_
  refine WP.seq ?_
  refine WP.rs hG ?_
  refine Ch.mv rfl rfl ?_
  refine Ch.pu gdN (by exact ⟨rfl, trivial⟩) (OpS.nilCheckP) trivial rfl ?_
  refine Ch.pu gdN (by exact ⟨rfl, trivial⟩) (OpS.fieldAddr rfl rfl rfl rfl) trivial rfl ?_
  refine Ch.pu gdN (by exact ⟨rfl, trivial⟩) (OpS.loadP rfl rfl rfl) ⟨rfl, trivial⟩ rfl ?_
  refine Ch.nil ?_
  refine WP.cond_false rfl ?_
  refine WP.skip ?_
  refine WP.rs hG ?_
  refine Ch.mv rfl rfl ?_
  refine Ch.callP (hv) gdN (by repeat (first | exact EvL.nil | (apply EvL.cons; exact rfl))) (by exact (And.intro (by first | exact .rfl _ | exact .untip _ _ _ | exact .nil | exact .func _ | exact AV.wk.sh (renL_s _ _) | exact AV.wk.sh (by simp; first | done | fail)) trivial)) (by rfl) rfl ?_
  refine Ch.pu gdN (by exact ⟨rfl, trivial⟩) (OpS.conv rfl rfl (by first | exact cv_u32_u8 _ | exact cv_u64_u8 _ | exact cv_i64_u8 _ | exact cv_u8_u32 _ | exact cv_u8_u64 _ | exact cv_u32_u64 _ | exact cv_u64_u32 _ | exact cv_u8_u8 _ | exact cv_u32_u32 _ | exact cv_u64_u64 _ | exact wr64 (by omega) | exact cv_u64_nat _ | exact cv_u32_nat _ | exact cv_u8_nat _ | exact rfl)) trivial rfl ?_
  refine Ch.asg rfl rfl ?_
  refine Ch.nil ?_
  refine WP.seq ?_
  refine WP.rs hG ?_
  refine Ch.mv rfl rfl ?_
  refine Ch.mv rfl rfl ?_
  refine Ch.pu gdN (by exact ⟨rfl, rfl, trivial⟩) (OpS.int (v' := .bool true) rfl (by exact congrArg Value.bool (decide_eq_true (by omega)))) trivial rfl ?_
  refine Ch.nil ?_
  refine WP.cond_true rfl ?_
  refine WP.rg hG ?_
  refine Ch.mv rfl rfl ?_
  refine Ch.pu gdN (by exact ⟨rfl, trivial⟩) (OpS.nilCheckP) trivial rfl ?_
  refine Ch.pu gdN (by exact ⟨rfl, trivial⟩) (OpS.fieldAddr rfl rfl rfl rfl) trivial rfl ?_
  refine Ch.wr gdN (by exact ⟨rfl, rfl, trivial⟩) (OpS.storeP (cs := rdC (l.drop 4) false) rfl rfl rfl (by simp)) (by first | exact trivial | exact ⟨rfl, trivial⟩) (by first | exact trivial | exact ⟨rfl, trivial⟩ | exact ⟨rfl, rfl, trivial⟩) ?_
  refine Ch.nil ?_
  refine WP.rs hG ?_
  refine Ch.mv rfl rfl ?_
  refine Ch.mv rfl rfl ?_
  refine Ch.callH (FC.split (hc2)) [0] 1 gdN (by repeat (first | exact EvL.nil | (apply EvL.cons; exact rfl))) (by exact (And.intro (by first | exact .rfl _ | exact .untip _ _ _ | exact .nil | exact .func _ | exact AV.wk.sh (renL_s _ _) | exact AV.wk.tip rfl (by first | exact renL_b _ _ | exact renL_s _ _ | exact renL_i _ _ | exact renL_w _ _) | exact AV.wk.sh (by simp; first | done | fail)) (And.intro (by first | exact .rfl _ | exact .untip _ _ _ | exact .nil | exact .func _ | exact AV.wk.sh (renL_s _ _) | exact AV.wk.tip rfl (by first | exact renL_b _ _ | exact renL_s _ _ | exact renL_i _ _ | exact renL_w _ _) | exact AV.wk.sh (by simp; first | done | fail)) trivial))) rfl rfl (by decide) (by decide) (by first | ((conv => lhs; simp only [AV.ren, AV.renL, AO.ren, renL_b, renL_s, renL_w, renL_i, renL_append, ren_b, ren_s, ren_w, ren_i, pi_n, pi_0, pi_s, pi_1, pi_2, pi_3, pi_4, chOld, chNew, nuNew, hpl, Option.map_some, Option.map_none, List.length_cons, List.length_nil, List.take_succ_cons, List.take_zero, List.take_nil, List.drop_succ_cons, List.drop_zero, List.drop_nil, List.cons_append, List.nil_append, Nat.zero_add, Nat.add_zero, Nat.reduceAdd]); all_goals rfl) | rfl) (by first | ((conv => lhs; simp only [AV.ren, AV.renL, AO.ren, renL_b, renL_s, renL_w, renL_i, renL_append, ren_b, ren_s, ren_w, ren_i, pi_n, pi_0, pi_s, pi_1, pi_2, pi_3, pi_4, chOld, chNew, nuNew, hpl, Option.map_some, Option.map_none, List.length_cons, List.length_nil, List.take_succ_cons, List.take_zero, List.take_nil, List.drop_succ_cons, List.drop_zero, List.drop_nil, List.cons_append, List.nil_append, Nat.zero_add, Nat.add_zero, Nat.reduceAdd]); all_goals rfl) | rfl) (by first | ((conv => lhs; simp only [AV.ren, AV.renL, AO.ren, renL_b, renL_s, renL_w, renL_i, renL_append, ren_b, ren_s, ren_w, ren_i, pi_n, pi_0, pi_s, pi_1, pi_2, pi_3, pi_4, chOld, chNew, nuNew, hpl, Option.map_some, Option.map_none, List.length_cons, List.length_nil, List.take_succ_cons, List.take_zero, List.take_nil, List.drop_succ_cons, List.drop_zero, List.drop_nil, List.cons_append, List.nil_append, Nat.zero_add, Nat.add_zero, Nat.reduceAdd]); all_goals rfl) | rfl) (by first | ((conv => lhs; simp only [AV.ren, AV.renL, AO.ren, renL_b, renL_s, renL_w, renL_i, renL_append, ren_b, ren_s, ren_w, ren_i, pi_n, pi_0, pi_s, pi_1, pi_2, pi_3, pi_4, chOld, chNew, nuNew, hpl, Option.map_some, Option.map_none, List.length_cons, List.length_nil, List.take_succ_cons, List.take_zero, List.take_nil, List.drop_succ_cons, List.drop_zero, List.drop_nil, List.cons_append, List.nil_append, Nat.zero_add, Nat.add_zero, Nat.reduceAdd]); all_goals rfl) | rfl) (by first | exact trivial | exact ⟨rfl, trivial⟩ | exact ⟨rfl, rfl, trivial⟩ | exact ⟨rfl, rfl, rfl, trivial⟩ | exact ⟨rfl, rfl, rfl, rfl, trivial⟩) (by first | exact trivial | exact ⟨rfl, trivial⟩ | exact ⟨rfl, rfl, trivial⟩ | exact ⟨rfl, rfl, rfl, trivial⟩ | exact ⟨rfl, rfl, rfl, rfl, trivial⟩) rfl ?_
  refine Ch.asg rfl rfl ?_
  refine Ch.nil ?_
  refine WP.ret ?_
  refine (Ret.of (rs := [4]) (vs := [sA []]) (H' := rdH (l.drop 4) true) (res := sA []) [0] ?_ ?_ rfl ?_ (by simp only [List.length_cons, List.length_nil]; decide) ?_).1
  · exact (fun i hi => by rw [hnA] at hi; simp only [List.length_cons, List.length_nil] at hi ⊢; first | exact absurd hi (Nat.not_lt_zero _) | (revert i; decide))
  · (repeat (first | exact trivial | (refine And.intro ⟨(by first | trivial | (simp; first | done | fail) | exact ⟨trivial, hbel _⟩), _, rfl, (by first | exact .rfl _ | exact .nil | exact .of_eq (by simp; first | done | fail) | exact AV.wk.sh (by simp; first | done | fail) | exact .untip _ _ _)⟩ ?_)))
  · (repeat (first | exact trivial | refine HFromL.skip ?_ | (refine And.intro ⟨(by first | trivial | (simp; first | done | fail) | exact ⟨trivial, hbel _⟩), (by first | rfl | (simp; first | done | fail))⟩ ?_)))
  · rfl
theorem wText_fc (l s : List UInt8) (hl : l.length ≤ 70368744177664) (hs' : s.length ≤ 4294967295) :
    FC Tryd.prog G 23 [.ptr 0 0, sA s] (wrH l) (.tup []) [some (.cells 71 [.sl (some 3) (l ++ beS (UInt64.ofNat s.length) 4 ++ s).length ((l ++ beS (UInt64.ofNat s.length) 4 ++ s).map bA)]), none, none, some (.tip 5 1 (l ++ beS (UInt64.ofNat s.length) 4 ++ s).length)] := by
  have hbl := beS_length (UInt64.ofNat s.length) 4
  refine FC.of_wp [] Tryd.func23 rfl rfl rfl rfl ⟨rfl, trivial, trivial⟩ ⟨⟨⟨fun k hk => by cases hk; rfl, belL_b _ _⟩, trivial⟩, trivial, trivial⟩ (by exact Nat.le_of_ble_eq_true rfl) ?_
  intro A hG hnA hAB
  unfold start
  refine WP.rg hG ?_
  refine Ch.mv rfl rfl ?_
  refine Ch.mv rfl rfl ?_
  refine Ch.pu gdN (by exact ⟨rfl, trivial⟩) (OpS.nilCheckP) trivial rfl ?_
  refine Ch.pu gdN (by exact ⟨rfl, trivial⟩) (OpS.fieldAddr rfl rfl rfl rfl) trivial rfl ?_
  refine Ch.pu gdN (by exact ⟨rfl, trivial⟩) (OpS.loadP rfl rfl rfl) ⟨rfl, trivial⟩ rfl ?_
  refine Ch.mv rfl rfl ?_
  refine Ch.pu gdN (by exact ⟨rfl, trivial⟩) (OpS.lenS rfl) trivial rfl ?_
  refine Ch.pu gdN (by exact ⟨rfl, trivial⟩) (OpS.conv rfl rfl (by first | exact cv_u32_u8 _ | exact cv_u64_u8 _ | exact cv_i64_u8 _ | exact cv_u8_u32 _ | exact cv_u8_u64 _ | exact cv_u32_u64 _ | exact cv_u64_u32 _ | exact cv_u8_u8 _ | exact cv_u32_u32 _ | exact cv_u64_u64 _ | exact wr64 (by omega) | exact cv_u64_nat _ | exact cv_u32_nat _ | exact cv_u8_nat _ | exact rfl)) trivial rfl ?_
  refine Ch.callH (FC.split (lay_fc l (UInt64.ofNat s.length) 4 (by decide) (by decide) hl)) [1] 2 gdN (by repeat (first | exact EvL.nil | (apply EvL.cons; exact rfl))) (by exact (And.intro (by first | exact .rfl _ | exact .untip _ _ _ | exact .nil | exact .func _ | exact AV.wk.sh (renL_s _ _) | exact AV.wk.tip rfl (by first | exact renL_b _ _ | exact renL_s _ _ | exact renL_i _ _ | exact renL_w _ _) | exact AV.wk.sh (by simp; first | done | fail)) (And.intro (by first | exact .rfl _ | exact .untip _ _ _ | exact .nil | exact .func _ | exact AV.wk.sh (renL_s _ _) | exact AV.wk.tip rfl (by first | exact renL_b _ _ | exact renL_s _ _ | exact renL_i _ _ | exact renL_w _ _) | exact AV.wk.sh (by simp; first | done | fail)) (And.intro (by first | exact .rfl _ | exact .untip _ _ _ | exact .nil | exact .func _ | exact AV.wk.sh (renL_s _ _) | exact AV.wk.tip rfl (by first | exact renL_b _ _ | exact renL_s _ _ | exact renL_i _ _ | exact renL_w _ _) | exact AV.wk.sh (by simp; first | done | fail)) trivial)))) rfl rfl (by decide) (by decide) (by first | ((conv => lhs; simp only [AV.ren, AV.renL, AO.ren, renL_b, renL_s, renL_w, renL_i, renL_append, ren_b, ren_s, ren_w, ren_i, pi_n, pi_0, pi_s, pi_1, pi_2, pi_3, pi_4, chOld, chNew, nuNew, hpl, Option.map_some, Option.map_none, List.length_cons, List.length_nil, List.take_succ_cons, List.take_zero, List.take_nil, List.drop_succ_cons, List.drop_zero, List.drop_nil, List.cons_append, List.nil_append, Nat.zero_add, Nat.add_zero, Nat.reduceAdd]); all_goals rfl) | rfl) (by first | ((conv => lhs; simp only [AV.ren, AV.renL, AO.ren, renL_b, renL_s, renL_w, renL_i, renL_append, ren_b, ren_s, ren_w, ren_i, pi_n, pi_0, pi_s, pi_1, pi_2, pi_3, pi_4, chOld, chNew, nuNew, hpl, Option.map_some, Option.map_none, List.length_cons, List.length_nil, List.take_succ_cons, List.take_zero, List.take_nil, List.drop_succ_cons, List.drop_zero, List.drop_nil, List.cons_append, List.nil_append, Nat.zero_add, Nat.add_zero, Nat.reduceAdd]); all_goals rfl) | rfl) (by first | ((conv => lhs; simp only [AV.ren, AV.renL, AO.ren, renL_b, renL_s, renL_w, renL_i, renL_append, ren_b, ren_s, ren_w, ren_i, pi_n, pi_0, pi_s, pi_1, pi_2, pi_3, pi_4, chOld, chNew, nuNew, hpl, Option.map_some, Option.map_none, List.length_cons, List.length_nil, List.take_succ_cons, List.take_zero, List.take_nil, List.drop_succ_cons, List.drop_zero, List.drop_nil, List.cons_append, List.nil_append, Nat.zero_add, Nat.add_zero, Nat.reduceAdd]); all_goals rfl) | rfl) (by first | ((conv => lhs; simp only [AV.ren, AV.renL, AO.ren, renL_b, renL_s, renL_w, renL_i, renL_append, ren_b, ren_s, ren_w, ren_i, pi_n, pi_0, pi_s, pi_1, pi_2, pi_3, pi_4, chOld, chNew, nuNew, hpl, Option.map_some, Option.map_none, List.length_cons, List.length_nil, List.take_succ_cons, List.take_zero, List.take_nil, List.drop_succ_cons, List.drop_zero, List.drop_nil, List.cons_append, List.nil_append, Nat.zero_add, Nat.add_zero, Nat.reduceAdd]); all_goals rfl) | rfl) (by first | exact trivial | exact ⟨rfl, trivial⟩ | exact ⟨rfl, rfl, trivial⟩ | exact ⟨rfl, rfl, rfl, trivial⟩ | exact ⟨rfl, rfl, rfl, rfl, trivial⟩) (by first | exact trivial | exact ⟨rfl, trivial⟩ | exact ⟨rfl, rfl, trivial⟩ | exact ⟨rfl, rfl, rfl, trivial⟩ | exact ⟨rfl, rfl, rfl, rfl, trivial⟩) rfl ?_
  refine Ch.mv rfl rfl ?_
  refine Ch.al gdN (by exact ⟨rfl, rfl, trivial⟩) (OpS.append (sz := 1) (bb := 1) 3 rfl rfl rfl rfl rfl (by decide) (SrcA.str rfl _) (by first | (simp; done) | (simp; assumption)) (by simp) (by unfold maxLen; omega) rfl (by omega)) (by first | exact trivial | exact ⟨rfl, trivial⟩) (by first | exact trivial | exact ⟨rfl, trivial⟩ | exact ⟨rfl, rfl, trivial⟩) rfl ?_
  refine Ch.pu gdN (by exact ⟨rfl, trivial⟩) (OpS.nilCheckP) trivial rfl ?_
  refine Ch.pu gdN (by exact ⟨rfl, trivial⟩) (OpS.fieldAddr rfl rfl rfl rfl) trivial rfl ?_
  refine Ch.wr gdN (by exact ⟨rfl, rfl, trivial⟩) (OpS.storeP (cs := [.sl (some 1) l.length (l.map bA)]) rfl rfl rfl (by simp)) (by first | exact trivial | exact ⟨rfl, trivial⟩) (by first | exact trivial | exact ⟨rfl, trivial⟩ | exact ⟨rfl, rfl, trivial⟩) ?_
  refine Ch.nil ?_
  refine (Ret.of (rs := []) (vs := []) (H' := [some (.cells 71 [.sl (some 3) (l ++ beS (UInt64.ofNat s.length) 4 ++ s).length ((l ++ beS (UInt64.ofNat s.length) 4 ++ s).map bA)]), none, none, some (.tip 5 1 (l ++ beS (UInt64.ofNat s.length) 4 ++ s).length)]) (res := .tup []) [0, 1, 2, 3] ?_ ?_ rfl ?_ (by simp only [List.length_cons, List.length_nil]; decide) ?_).2
  · exact (fun i hi => by rw [hnA] at hi; simp only [List.length_cons, List.length_nil] at hi ⊢; first | exact absurd hi (Nat.not_lt_zero _) | (revert i; decide))
  · (repeat (first | exact trivial | (refine And.intro ⟨(by first | trivial | (simp; first | done | fail) | exact ⟨trivial, hbel _⟩), _, rfl, (by first | exact .rfl _ | exact .nil | exact .of_eq (by simp [hbl, Nat.add_assoc]; first | done | fail) | exact AV.wk.sh (by simp [hbl, Nat.add_assoc]; first | done | fail) | exact .untip _ _ _)⟩ ?_)))
  · (repeat (first | exact trivial | refine HFromL.skip ?_ | (refine And.intro ⟨(by first | trivial | (simp; first | done | fail) | exact ⟨trivial, hbel _⟩), (by first | rfl | (simp [hbl, Nat.add_assoc]; first | done | fail) | (conv => rhs; simp only [AO.ren, AV.ren, AV.renL, Option.map_some, hbl, Nat.add_assoc]) <;> rfl)⟩ ?_)))
  · exact ⟨_, rfl, rfl, by simp [ls, TsOk, List.zip, List.zipWith]⟩
theorem rEnd_fc (l : List UInt8) (bad : Bool) : FC Tryd.prog G 40 [.ptr 0 0] (rdH l bad) (.v (.bool (!bad && decide (l = [])))) (rdH l bad) := by
  refine FC.of_wp [2] Tryd.func40 rfl rfl rfl rfl ⟨rfl, trivial⟩ ⟨⟨trivial, trivial, trivial⟩, trivial⟩ (by exact Nat.le_of_ble_eq_true rfl) ?_
  intro A hG hnA hAB
  unfold start
  refine WP.rs hG ?_
  refine Ch.asg rfl rfl ?_
  refine Ch.nil ?_
  have hq : True := trivial
  cases bad
  · have hs := hq
    refine WP.rs hG ?_
    refine Ch.mv rfl rfl ?_
    refine Ch.pu gdN (by exact ⟨rfl, trivial⟩) (OpS.nilCheckP) trivial rfl ?_
    refine Ch.pu gdN (by exact ⟨rfl, trivial⟩) (OpS.fieldAddr rfl rfl rfl rfl) trivial rfl ?_
    refine Ch.pu gdN (by exact ⟨rfl, trivial⟩) (OpS.loadP rfl rfl rfl) ⟨rfl, trivial⟩ rfl ?_
    refine Ch.pu gdN (by exact ⟨rfl, trivial⟩) (OpS.not) trivial rfl ?_
    refine Ch.mv rfl rfl ?_
    refine Ch.pu (by exact gdT rfl rfl) (by exact ⟨rfl, trivial⟩) (OpS.move) trivial rfl ?_
    refine Ch.pu (by exact gdT rfl rfl) (by exact ⟨rfl, trivial⟩) (OpS.nilCheckP) trivial rfl ?_
    refine Ch.pu (by exact gdT rfl rfl) (by exact ⟨rfl, trivial⟩) (OpS.fieldAddr rfl rfl rfl rfl) trivial rfl ?_
    refine Ch.pu (by exact gdT rfl rfl) (by exact ⟨rfl, trivial⟩) (OpS.loadP rfl rfl rfl) ⟨rfl, trivial⟩ rfl ?_
    refine Ch.pu (by exact gdT rfl rfl) (by exact ⟨rfl, rfl, trivial⟩) (OpS.strEqB (c := decide (l = [])) rfl) trivial rfl ?_
    refine Ch.pu gdN (by first | exact ⟨rfl, rfl, trivial⟩ | exact ⟨rfl, rfl, rfl, trivial⟩) (OpS.pickT) trivial rfl ?_
    refine Ch.asg rfl rfl ?_
    refine Ch.nil ?_
    refine WP.ret ?_
    refine (Ret.of (rs := [2]) (vs := [.v (.bool (decide (l = [])))]) (H' := rdH l false) (res := .v (.bool (decide (l = [])))) [0] ?_ ?_ rfl ?_ (by simp only [List.length_cons, List.length_nil]; decide) ?_).1
    · exact (fun i hi => by rw [hnA] at hi; simp only [List.length_cons, List.length_nil] at hi ⊢; first | exact absurd hi (Nat.not_lt_zero _) | (revert i; decide))
    · (repeat (first | exact trivial | (refine And.intro ⟨(by first | trivial | (simp; first | done | fail) | exact ⟨trivial, hbel _⟩), _, rfl, (by first | exact .rfl _ | exact .nil | exact .of_eq (by simp; first | done | fail) | exact AV.wk.sh (by simp; first | done | fail) | exact .untip _ _ _)⟩ ?_)))
    · (repeat (first | exact trivial | refine HFromL.skip ?_ | (refine And.intro ⟨(by first | trivial | (simp; first | done | fail) | exact ⟨trivial, hbel _⟩), (by first | rfl | (simp; first | done | fail))⟩ ?_)))
    · rfl
  · have hs := hq
    refine WP.rs hG ?_
    refine Ch.mv rfl rfl ?_
    refine Ch.pu gdN (by exact ⟨rfl, trivial⟩) (OpS.nilCheckP) trivial rfl ?_
    refine Ch.pu gdN (by exact ⟨rfl, trivial⟩) (OpS.fieldAddr rfl rfl rfl rfl) trivial rfl ?_
    refine Ch.pu gdN (by exact ⟨rfl, trivial⟩) (OpS.loadP rfl rfl rfl) ⟨rfl, trivial⟩ rfl ?_
    refine Ch.pu gdN (by exact ⟨rfl, trivial⟩) (OpS.not) trivial rfl ?_
    refine Ch.mv rfl rfl ?_
    refine Ch.skU (gdF rfl rfl rfl) rfl ?_
    refine Ch.skU (gdF rfl rfl rfl) rfl ?_
    refine Ch.skU (gdF rfl rfl rfl) rfl ?_
    refine Ch.skU (gdF rfl rfl rfl) rfl ?_
    refine Ch.skU (gdF rfl rfl rfl) rfl ?_
    refine Ch.pu gdN (by first | exact ⟨rfl, rfl, trivial⟩ | exact ⟨rfl, rfl, rfl, trivial⟩) (OpS.pickF) trivial rfl ?_
    refine Ch.asg rfl rfl ?_
    refine Ch.nil ?_
    refine WP.ret ?_
    refine (Ret.of (rs := [2]) (vs := [.v (.bool false)]) (H' := rdH l true) (res := .v (.bool false)) [0] ?_ ?_ rfl ?_ (by simp only [List.length_cons, List.length_nil]; decide) ?_).1
    · exact (fun i hi => by rw [hnA] at hi; simp only [List.length_cons, List.length_nil] at hi ⊢; first | exact absurd hi (Nat.not_lt_zero _) | (revert i; decide))
    · (repeat (first | exact trivial | (refine And.intro ⟨(by first | trivial | (simp; first | done | fail) | exact ⟨trivial, hbel _⟩), _, rfl, (by first | exact .rfl _ | exact .nil | exact .of_eq (by simp; first | done | fail) | exact AV.wk.sh (by simp; first | done | fail) | exact .untip _ _ _)⟩ ?_)))
    · (repeat (first | exact trivial | refine HFromL.skip ?_ | (refine And.intro ⟨(by first | trivial | (simp; first | done | fail) | exact ⟨trivial, hbel _⟩), (by first | rfl | (simp; first | done | fail))⟩ ?_)))
    · rfl
theorem cutS_fc (l : List UInt8) (n : Nat) (hn : l.length < n) : FC Tryd.prog G 62 [.ptr 0 0, .v (.int .i64 (n : Int))] (rdH l false) (sA []) (rdH l true) := by
  refine FC.of_wp [4] Tryd.func62 rfl rfl rfl rfl ⟨rfl, trivial, trivial⟩ ⟨⟨trivial, trivial, trivial⟩, trivial⟩ (by exact Nat.le_of_ble_eq_true rfl) ?_
  intro A hG hnA hAB
  unfold start
  refine WP.rs hG ?_
  refine Ch.asg rfl rfl ?_
  refine Ch.nil ?_
  refine WP.seq ?_
  refine WP.rs hG ?_
  refine Ch.mv rfl rfl ?_
  refine Ch.mv rfl rfl ?_
  refine Ch.pu gdN (by exact ⟨rfl, trivial⟩) (OpS.nilCheckP) trivial rfl ?_
  refine Ch.pu gdN (by exact ⟨rfl, trivial⟩) (OpS.fieldAddr rfl rfl rfl rfl) trivial rfl ?_
  refine Ch.pu gdN (by exact ⟨rfl, trivial⟩) (OpS.loadP rfl rfl rfl) ⟨rfl, trivial⟩ rfl ?_
  refine Ch.mv rfl rfl ?_
  refine Ch.pu (by exact gdT rfl rfl) (by exact ⟨rfl, trivial⟩) (OpS.move) trivial rfl ?_
  refine Ch.pu (by exact gdT rfl rfl) (by exact ⟨rfl, trivial⟩) (OpS.move) trivial rfl ?_
  refine Ch.pu (by exact gdT rfl rfl) (by exact ⟨rfl, trivial⟩) (OpS.nilCheckP) trivial rfl ?_
  refine Ch.pu (by exact gdT rfl rfl) (by exact ⟨rfl, trivial⟩) (OpS.fieldAddr rfl rfl rfl rfl) trivial rfl ?_
  refine Ch.pu (by exact gdT rfl rfl) (by exact ⟨rfl, trivial⟩) (OpS.loadP rfl rfl rfl) ⟨rfl, trivial⟩ rfl ?_
  refine Ch.pu (by exact gdT rfl rfl) (by exact ⟨rfl, trivial⟩) (OpS.lenS rfl) trivial rfl ?_
  refine Ch.pu (by exact gdT rfl rfl) (by exact ⟨rfl, rfl, trivial⟩) (OpS.int (op := .gtr) (v' := .bool true) rfl (by exact congrArg Value.bool (decide_eq_true (by omega)))) trivial rfl ?_
  refine Ch.pu gdN (by first | exact ⟨rfl, rfl, trivial⟩ | exact ⟨rfl, rfl, rfl, trivial⟩) (OpS.pickF) trivial rfl ?_
  refine Ch.pu gdN (by exact ⟨rfl, trivial⟩) (OpS.nilCheckP) trivial rfl ?_
  refine Ch.pu gdN (by exact ⟨rfl, trivial⟩) (OpS.fieldAddr rfl rfl rfl rfl) trivial rfl ?_
  refine Ch.wr gdN (by exact ⟨rfl, rfl, trivial⟩) (OpS.storeP (cs := rdC l false) rfl rfl rfl (by simp)) (by first | exact trivial | exact ⟨rfl, trivial⟩) (by first | exact trivial | exact ⟨rfl, trivial⟩ | exact ⟨rfl, rfl, trivial⟩) ?_
  refine Ch.nil ?_
  refine WP.rs hG ?_
  refine Ch.mv rfl rfl ?_
  refine Ch.pu gdN (by exact ⟨rfl, trivial⟩) (OpS.nilCheckP) trivial rfl ?_
  refine Ch.pu gdN (by exact ⟨rfl, trivial⟩) (OpS.fieldAddr rfl rfl rfl rfl) trivial rfl ?_
  refine Ch.pu gdN (by exact ⟨rfl, trivial⟩) (OpS.loadP rfl rfl rfl) ⟨rfl, trivial⟩ rfl ?_
  refine Ch.nil ?_
  refine WP.cond_true rfl ?_
  refine WP.rs hG ?_
  refine Ch.asg rfl rfl ?_
  refine Ch.nil ?_
  refine WP.ret ?_
  refine (Ret.of (rs := [4]) (vs := [sA []]) (H' := rdH l true) (res := sA []) [0] ?_ ?_ rfl ?_ (by simp only [List.length_cons, List.length_nil]; decide) ?_).1
  · exact (fun i hi => by rw [hnA] at hi; simp only [List.length_cons, List.length_nil] at hi ⊢; first | exact absurd hi (Nat.not_lt_zero _) | (revert i; decide))
  · (repeat (first | exact trivial | (refine And.intro ⟨(by first | trivial | (simp; first | done | fail) | exact ⟨trivial, hbel _⟩), _, rfl, (by first | exact .rfl _ | exact .nil | exact .of_eq (by simp; first | done | fail) | exact AV.wk.sh (by simp; first | done | fail) | exact .untip _ _ _)⟩ ?_)))
  · (repeat (first | exact trivial | refine HFromL.skip ?_ | (refine And.intro ⟨(by first | trivial | (simp; first | done | fail) | exact ⟨trivial, hbel _⟩), (by first | rfl | (simp; first | done | fail))⟩ ?_)))
  · rfl
theorem cutX_fc (r : List UInt8 × Bool) (n : Nat) (hl : r.1.length ≤ 9223372036854775807) : FC Tryd.prog G 62 [.ptr 0 0, .v (.int .i64 (n : Int))] (rdH r.1 r.2) (sA (rdCut n r).1) (rdH (rdCut n r).2.1 (rdCut n r).2.2) := by
  obtain ⟨l, b⟩ := r
  cases b with
  | true => rw [rdCut_bad]; exact cutB_fc l n
  | false =>
    rcases Nat.lt_or_ge l.length n with h | h
    · rw [rdCut_short h]; exact cutS_fc l n h
    · rw [rdCut_fit h]; exact cut_fc l n h hl
theorem rNumB_fc (l : List UInt8) (b : Bool) (hl : l.length ≤ 9223372036854775807) (hb : (rdCut 8 (l, b)).2.2 = true) : FC Tryd.prog G 37 [.ptr 0 0] (rdH l b) (.v (.int .u64 (U64 0))) (rdH (rdCut 8 (l, b)).2.1 true) := by
  have hc := cutX_fc (G := G) (l, b) 8 hl
  rw [hb] at hc
  refine FC.of_wp [2] Tryd.func37 rfl rfl rfl rfl ⟨rfl, trivial⟩ ⟨⟨trivial, trivial, trivial⟩, trivial⟩ (by exact Nat.le_of_ble_eq_true rfl) ?_
  intro A hG hnA hAB
  unfold start
  refine WP.rs hG ?_
  refine Ch.asg rfl rfl ?_
  refine Ch.nil ?_
  refine WP.rs hG ?_
  refine Ch.mv rfl rfl ?_
  refine Ch.callH (FC.split (hc)) [0] 1 gdN (by repeat (first | exact EvL.nil | (apply EvL.cons; exact rfl))) (by exact (And.intro (by first | exact .rfl _ | exact .untip _ _ _ | exact .nil | exact .func _ | exact AV.wk.sh (renL_s _ _) | exact AV.wk.tip rfl (by first | exact renL_b _ _ | exact renL_s _ _ | exact renL_i _ _ | exact renL_w _ _) | exact AV.wk.sh (by simp; first | done | fail)) (And.intro (by first | exact .rfl _ | exact .untip _ _ _ | exact .nil | exact .func _ | exact AV.wk.sh (renL_s _ _) | exact AV.wk.tip rfl (by first | exact renL_b _ _ | exact renL_s _ _ | exact renL_i _ _ | exact renL_w _ _) | exact AV.wk.sh (by simp; first | done | fail)) trivial))) rfl rfl (by decide) (by decide) (by first | ((conv => lhs; simp only [AV.ren, AV.renL, AO.ren, renL_b, renL_s, renL_w, renL_i, renL_append, ren_b, ren_s, ren_w, ren_i, pi_n, pi_0, pi_s, pi_1, pi_2, pi_3, pi_4, chOld, chNew, nuNew, hpl, Option.map_some, Option.map_none, List.length_cons, List.length_nil, List.take_succ_cons, List.take_zero, List.take_nil, List.drop_succ_cons, List.drop_zero, List.drop_nil, List.cons_append, List.nil_append, Nat.zero_add, Nat.add_zero, Nat.reduceAdd]); all_goals rfl) | rfl) (by first | ((conv => lhs; simp only [AV.ren, AV.renL, AO.ren, renL_b, renL_s, renL_w, renL_i, renL_append, ren_b, ren_s, ren_w, ren_i, pi_n, pi_0, pi_s, pi_1, pi_2, pi_3, pi_4, chOld, chNew, nuNew, hpl, Option.map_some, Option.map_none, List.length_cons, List.length_nil, List.take_succ_cons, List.take_zero, List.take_nil, List.drop_succ_cons, List.drop_zero, List.drop_nil, List.cons_append, List.nil_append, Nat.zero_add, Nat.add_zero, Nat.reduceAdd]); all_goals rfl) | rfl) (by first | ((conv => lhs; simp only [AV.ren, AV.renL, AO.ren, renL_b, renL_s, renL_w, renL_i, renL_append, ren_b, ren_s, ren_w, ren_i, pi_n, pi_0, pi_s, pi_1, pi_2, pi_3, pi_4, chOld, chNew, nuNew, hpl, Option.map_some, Option.map_none, List.length_cons, List.length_nil, List.take_succ_cons, List.take_zero, List.take_nil, List.drop_succ_cons, List.drop_zero, List.drop_nil, List.cons_append, List.nil_append, Nat.zero_add, Nat.add_zero, Nat.reduceAdd]); all_goals rfl) | rfl) (by first | ((conv => lhs; simp only [AV.ren, AV.renL, AO.ren, renL_b, renL_s, renL_w, renL_i, renL_append, ren_b, ren_s, ren_w, ren_i, pi_n, pi_0, pi_s, pi_1, pi_2, pi_3, pi_4, chOld, chNew, nuNew, hpl, Option.map_some, Option.map_none, List.length_cons, List.length_nil, List.take_succ_cons, List.take_zero, List.take_nil, List.drop_succ_cons, List.drop_zero, List.drop_nil, List.cons_append, List.nil_append, Nat.zero_add, Nat.add_zero, Nat.reduceAdd]); all_goals rfl) | rfl) (by first | exact trivial | exact ⟨rfl, trivial⟩ | exact ⟨rfl, rfl, trivial⟩ | exact ⟨rfl, rfl, rfl, trivial⟩ | exact ⟨rfl, rfl, rfl, rfl, trivial⟩) (by first | exact trivial | exact ⟨rfl, trivial⟩ | exact ⟨rfl, rfl, trivial⟩ | exact ⟨rfl, rfl, rfl, trivial⟩ | exact ⟨rfl, rfl, rfl, rfl, trivial⟩) rfl ?_
  refine Ch.asg rfl rfl ?_
  refine Ch.nil ?_
  refine WP.seq ?_
  refine WP.rs hG ?_
  refine Ch.mv rfl rfl ?_
  refine Ch.pu gdN (by exact ⟨rfl, trivial⟩) (OpS.nilCheckP) trivial rfl ?_
  refine Ch.pu gdN (by exact ⟨rfl, trivial⟩) (OpS.fieldAddr rfl rfl rfl rfl) trivial rfl ?_
  refine Ch.pu gdN (by exact ⟨rfl, trivial⟩) (OpS.loadP rfl rfl rfl) ⟨rfl, trivial⟩ rfl ?_
  refine Ch.nil ?_
  refine WP.cond_true rfl ?_
  refine WP.rs hG ?_
  refine Ch.asg rfl rfl ?_
  refine Ch.nil ?_
  refine WP.ret ?_
  refine (Ret.of (rs := [2]) (vs := [.v (.int .u64 (U64 0))]) (H' := rdH (rdCut 8 (l, b)).2.1 true) (res := .v (.int .u64 (U64 0))) [0] ?_ ?_ rfl ?_ (by simp only [List.length_cons, List.length_nil]; decide) ?_).1
  · exact (fun i hi => by rw [hnA] at hi; simp only [List.length_cons, List.length_nil] at hi ⊢; first | exact absurd hi (Nat.not_lt_zero _) | (revert i; decide))
  · (repeat (first | exact trivial | (refine And.intro ⟨(by first | trivial | (simp; first | done | fail) | exact ⟨trivial, hbel _⟩), _, rfl, (by first | exact .rfl _ | exact .nil | exact .of_eq (by simp; first | done | fail) | exact AV.wk.sh (by simp; first | done | fail) | exact .untip _ _ _)⟩ ?_)))
  · (repeat (first | exact trivial | refine HFromL.skip ?_ | (refine And.intro ⟨(by first | trivial | (simp; first | done | fail) | exact ⟨trivial, hbel _⟩), (by first | rfl | (simp; first | done | fail))⟩ ?_)))
  · rfl
theorem rNumX_fc (r : List UInt8 × Bool) (hl : r.1.length ≤ 9223372036854775807) : FC Tryd.prog G 37 [.ptr 0 0] (rdH r.1 r.2) (.v (.int .u64 (U64 (rdNum r).1))) (rdH (rdNum r).2.1 (rdNum r).2.2) := by
  obtain ⟨l, b⟩ := r
  unfold rdNum
  cases hb : (rdCut 8 (l, b)).2.2 with
  | true => rw [if_pos rfl]; exact rNumB_fc l b hl hb
  | false =>
    obtain ⟨h1, h2, h3⟩ := rdCut_ok hb
    cases h1
    rw [h3, if_neg (by decide)]
    exact rNum_fc l h2 hl
theorem rTextC_fc (l : List UInt8) (b : Bool) (most : Int) (hl : l.length ≤ 9223372036854775807) (hb : (rdCut 4 (l, b)).2.2 = true) : FC Tryd.prog G 39 [.ptr 0 0, .v (.int .i64 most)] (rdH l b) (sA []) (rdH (rdCut 4 (l, b)).2.1 true) := by
  have hc := cutX_fc (G := G) (l, b) 4 hl
  rw [hb] at hc
  refine FC.of_wp [4] Tryd.func39 rfl rfl rfl rfl ⟨rfl, trivial, trivial⟩ ⟨⟨trivial, trivial, trivial⟩, trivial⟩ (by exact Nat.le_of_ble_eq_true rfl) ?_
  intro A hG hnA hAB
  unfold start
  refine WP.rs hG ?_
  refine Ch.asg rfl rfl ?_
  refine Ch.nil ?_
  refine WP.rs hG ?_
  refine Ch.mv rfl rfl ?_
  refine Ch.callH (FC.split (hc)) [0] 1 gdN (by repeat (first | exact EvL.nil | (apply EvL.cons; exact rfl))) (by exact (And.intro (by first | exact .rfl _ | exact .untip _ _ _ | exact .nil | exact .func _ | exact AV.wk.sh (renL_s _ _) | exact AV.wk.tip rfl (by first | exact renL_b _ _ | exact renL_s _ _ | exact renL_i _ _ | exact renL_w _ _) | exact AV.wk.sh (by simp; first | done | fail)) (And.intro (by first | exact .rfl _ | exact .untip _ _ _ | exact .nil | exact .func _ | exact AV.wk.sh (renL_s _ _) | exact AV.wk.tip rfl (by first | exact renL_b _ _ | exact renL_s _ _ | exact renL_i _ _ | exact renL_w _ _) | exact AV.wk.sh (by simp; first | done | fail)) trivial))) rfl rfl (by decide) (by decide) (by first | ((conv => lhs; simp only [AV.ren, AV.renL, AO.ren, renL_b, renL_s, renL_w, renL_i, renL_append, ren_b, ren_s, ren_w, ren_i, pi_n, pi_0, pi_s, pi_1, pi_2, pi_3, pi_4, chOld, chNew, nuNew, hpl, Option.map_some, Option.map_none, List.length_cons, List.length_nil, List.take_succ_cons, List.take_zero, List.take_nil, List.drop_succ_cons, List.drop_zero, List.drop_nil, List.cons_append, List.nil_append, Nat.zero_add, Nat.add_zero, Nat.reduceAdd]); all_goals rfl) | rfl) (by first | ((conv => lhs; simp only [AV.ren, AV.renL, AO.ren, renL_b, renL_s, renL_w, renL_i, renL_append, ren_b, ren_s, ren_w, ren_i, pi_n, pi_0, pi_s, pi_1, pi_2, pi_3, pi_4, chOld, chNew, nuNew, hpl, Option.map_some, Option.map_none, List.length_cons, List.length_nil, List.take_succ_cons, List.take_zero, List.take_nil, List.drop_succ_cons, List.drop_zero, List.drop_nil, List.cons_append, List.nil_append, Nat.zero_add, Nat.add_zero, Nat.reduceAdd]); all_goals rfl) | rfl) (by first | ((conv => lhs; simp only [AV.ren, AV.renL, AO.ren, renL_b, renL_s, renL_w, renL_i, renL_append, ren_b, ren_s, ren_w, ren_i, pi_n, pi_0, pi_s, pi_1, pi_2, pi_3, pi_4, chOld, chNew, nuNew, hpl, Option.map_some, Option.map_none, List.length_cons, List.length_nil, List.take_succ_cons, List.take_zero, List.take_nil, List.drop_succ_cons, List.drop_zero, List.drop_nil, List.cons_append, List.nil_append, Nat.zero_add, Nat.add_zero, Nat.reduceAdd]); all_goals rfl) | rfl) (by first | ((conv => lhs; simp only [AV.ren, AV.renL, AO.ren, renL_b, renL_s, renL_w, renL_i, renL_append, ren_b, ren_s, ren_w, ren_i, pi_n, pi_0, pi_s, pi_1, pi_2, pi_3, pi_4, chOld, chNew, nuNew, hpl, Option.map_some, Option.map_none, List.length_cons, List.length_nil, List.take_succ_cons, List.take_zero, List.take_nil, List.drop_succ_cons, List.drop_zero, List.drop_nil, List.cons_append, List.nil_append, Nat.zero_add, Nat.add_zero, Nat.reduceAdd]); all_goals rfl) | rfl) (by first | exact trivial | exact ⟨rfl, trivial⟩ | exact ⟨rfl, rfl, trivial⟩ | exact ⟨rfl, rfl, rfl, trivial⟩ | exact ⟨rfl, rfl, rfl, rfl, trivial⟩) (by first | exact trivial | exact ⟨rfl, trivial⟩ | exact ⟨rfl, rfl, trivial⟩ | exact ⟨rfl, rfl, rfl, trivial⟩ | exact ⟨rfl, rfl, rfl, rfl, trivial⟩) rfl ?_
  refine Ch.asg rfl rfl ?_
  refine Ch.nil ?_
  refine WP.seq ?_
  refine WP.rs hG ?_
  refine Ch.mv rfl rfl ?_
  refine Ch.pu gdN (by exact ⟨rfl, trivial⟩) (OpS.nilCheckP) trivial rfl ?_
  refine Ch.pu gdN (by exact ⟨rfl, trivial⟩) (OpS.fieldAddr rfl rfl rfl rfl) trivial rfl ?_
  refine Ch.pu gdN (by exact ⟨rfl, trivial⟩) (OpS.loadP rfl rfl rfl) ⟨rfl, trivial⟩ rfl ?_
  refine Ch.nil ?_
  refine WP.cond_true rfl ?_
  refine WP.rs hG ?_
  refine Ch.asg rfl rfl ?_
  refine Ch.nil ?_
  refine WP.ret ?_
  refine (Ret.of (rs := [4]) (vs := [sA []]) (H' := rdH (rdCut 4 (l, b)).2.1 true) (res := sA []) [0] ?_ ?_ rfl ?_ (by simp only [List.length_cons, List.length_nil]; decide) ?_).1
  · exact (fun i hi => by rw [hnA] at hi; simp only [List.length_cons, List.length_nil] at hi ⊢; first | exact absurd hi (Nat.not_lt_zero _) | (revert i; decide))
  · (repeat (first | exact trivial | (refine And.intro ⟨(by first | trivial | (simp; first | done | fail) | exact ⟨trivial, hbel _⟩), _, rfl, (by first | exact .rfl _ | exact .nil | exact .of_eq (by simp; first | done | fail) | exact AV.wk.sh (by simp; first | done | fail) | exact .untip _ _ _)⟩ ?_)))
  · (repeat (first | exact trivial | refine HFromL.skip ?_ | (refine And.intro ⟨(by first | trivial | (simp; first | done | fail) | exact ⟨trivial, hbel _⟩), (by first | rfl | (simp; first | done | fail))⟩ ?_)))
  · rfl
theorem rTextS_fc (l : List UInt8) (m most : Nat) (h4 : 4 ≤ l.length) (hl : l.length ≤ 9223372036854775807) (hm : (valU (l.take 4)).toNat = m) (hmb : m ≤ 4294967296) (hmo : m ≤ most) (hb : most ≤ 4294967296) :
    FC Tryd.prog G 39 [.ptr 0 0, .v (.int .i64 (most : Int))] (rdH l false) (sA (rdCut m (l.drop 4, false)).1) (rdH (rdCut m (l.drop 4, false)).2.1 (rdCut m (l.drop 4, false)).2.2) := by
  have hc := cut_fc (G := G) l 4 h4 hl
  have hv := cvalue_fc (G := G) (l.take 4) (by rw [List.length_take]; omega)
  have hU : U64 (valU (l.take 4)) = (m : Int) := by unfold U64; rw [hm]
  rw [hU] at hv
  have hc2 := cutX_fc (G := G) (l.drop 4, false) m (by show (l.drop 4).length ≤ _; rw [List.length_drop]; omega)
  refine FC.of_wp [4] Tryd.func39 rfl rfl rfl rfl ⟨rfl, trivial, trivial⟩ ⟨⟨trivial, trivial, trivial⟩, trivial⟩ (by exact Nat.le_of_ble_eq_true rfl) ?_
  intro A hG hnA hAB
  unfold start
  refine WP.rs hG ?_
  refine Ch.asg rfl rfl ?_
  refine Ch.nil ?_
  refine WP.rs hG ?_
  refine Ch.mv rfl rfl ?_
  refine Ch.callH (FC.split (hc)) [0] 1 gdN (by repeat (first | exact EvL.nil | (apply EvL.cons; exact rfl))) (by exact (And.intro (by first | exact .rfl _ | exact .untip _ _ _ | exact .nil | exact .func _ | exact AV.wk.sh (renL_s _ _) | exact AV.wk.tip rfl (by first | exact renL_b _ _ | exact renL_s _ _ | exact renL_i _ _ | exact renL_w _ _) | exact AV.wk.sh (by simp; first | done | fail)) (And.intro (by first | exact .rfl _ | exact .untip _ _ _ | exact .nil | exact .func _ | exact AV.wk.sh (renL_s _ _) | exact AV.wk.tip rfl (by first | exact renL_b _ _ | exact renL_s _ _ | exact renL_i _ _ | exact renL_w _ _) | exact AV.wk.sh (by simp; first | done | fail)) trivial))) rfl rfl (by decide) (by decide) (by first | ((conv => lhs; simp only [AV.ren, AV.renL, AO.ren, renL_b, renL_s, renL_w, renL_i, renL_append, ren_b, ren_s, ren_w, ren_i, pi_n, pi_0, pi_s, pi_1, pi_2, pi_3, pi_4, chOld, chNew, nuNew, hpl, Option.map_some, Option.map_none, List.length_cons, List.length_nil, List.take_succ_cons, List.take_zero, List.take_nil, List.drop_succ_cons, List.drop_zero, List.drop_nil, List.cons_append, List.nil_append, Nat.zero_add, Nat.add_zero, Nat.reduceAdd]); all_goals rfl) | rfl) (by first | ((conv => lhs; simp only [AV.ren, AV.renL, AO.ren, renL_b, renL_s, renL_w, renL_i, renL_append, ren_b, ren_s, ren_w, ren_i, pi_n, pi_0, pi_s, pi_1, pi_2, pi_3, pi_4, chOld, chNew, nuNew, hpl, Option.map_some, Option.map_none, List.length_cons, List.length_nil, List.take_succ_cons, List.take_zero, List.take_nil, List.drop_succ_cons, List.drop_zero, List.drop_nil, List.cons_append, List.nil_append, Nat.zero_add, Nat.add_zero, Nat.reduceAdd]); all_goals rfl) | rfl) (by first | ((conv => lhs; simp only [AV.ren, AV.renL, AO.ren, renL_b, renL_s, renL_w, renL_i, renL_append, ren_b, ren_s, ren_w, ren_i, pi_n, pi_0, pi_s, pi_1, pi_2, pi_3, pi_4, chOld, chNew, nuNew, hpl, Option.map_some, Option.map_none, List.length_cons, List.length_nil, List.take_succ_cons, List.take_zero, List.take_nil, List.drop_succ_cons, List.drop_zero, List.drop_nil, List.cons_append, List.nil_append, Nat.zero_add, Nat.add_zero, Nat.reduceAdd]); all_goals rfl) | rfl) (by first | ((conv => lhs; simp only [AV.ren, AV.renL, AO.ren, renL_b, renL_s, renL_w, renL_i, renL_append, ren_b, ren_s, ren_w, ren_i, pi_n, pi_0, pi_s, pi_1, pi_2, pi_3, pi_4, chOld, chNew, nuNew, hpl, Option.map_some, Option.map_none, List.length_cons, List.length_nil, List.take_succ_cons, List.take_zero, List.take_nil, List.drop_succ_cons, List.drop_zero, List.drop_nil, List.cons_append, List.nil_append, Nat.zero_add, Nat.add_zero, Nat.reduceAdd]); all_goals rfl) | rfl) (by first | exact trivial | exact ⟨rfl, trivial⟩ | exact ⟨rfl, rfl, trivial⟩ | exact ⟨rfl, rfl, rfl, trivial⟩ | exact ⟨rfl, rfl, rfl, rfl, trivial⟩) (by first | exact trivial | exact ⟨rfl, trivial⟩ | exact ⟨rfl, rfl, trivial⟩ | exact ⟨rfl, rfl, rfl, trivial⟩ | exact ⟨rfl, rfl, rfl, rfl, trivial⟩) rfl ?_
  refine Ch.asg rfl rfl ?_
  refine Ch.nil ?_
  refine WP.seq ?_
  refine WP.rs hG ?_
  refine Ch.mv rfl rfl ?_
  refine Ch.pu gdN (by exact ⟨rfl, trivial⟩) (OpS.nilCheckP) trivial rfl ?_
  refine Ch.pu gdN (by exact ⟨rfl, trivial⟩) (OpS.fieldAddr rfl rfl rfl rfl) trivial rfl ?_
  refine Ch.pu gdN (by exact ⟨rfl, trivial⟩) (OpS.loadP rfl rfl rfl) ⟨rfl, trivial⟩ rfl ?_
  refine Ch.nil ?_
  refine WP.cond_false rfl ?_
  refine WP.skip ?_
  refine WP.rs hG ?_
  refine Ch.mv rfl rfl ?_
  refine Ch.callP (hv) gdN (by repeat (first | exact EvL.nil | (apply EvL.cons; exact rfl))) (by exact (And.intro (by first | exact .rfl _ | exact .untip _ _ _ | exact .nil | exact .func _ | exact AV.wk.sh (renL_s _ _) | exact AV.wk.sh (by simp; first | done | fail)) trivial)) (by rfl) rfl ?_
  refine Ch.pu gdN (by exact ⟨rfl, trivial⟩) (OpS.conv rfl rfl (by first | exact cv_u32_u8 _ | exact cv_u64_u8 _ | exact cv_i64_u8 _ | exact cv_u8_u32 _ | exact cv_u8_u64 _ | exact cv_u32_u64 _ | exact cv_u64_u32 _ | exact cv_u8_u8 _ | exact cv_u32_u32 _ | exact cv_u64_u64 _ | exact wr64 (by omega) | exact cv_u64_nat _ | exact cv_u32_nat _ | exact cv_u8_nat _ | exact rfl)) trivial rfl ?_
  refine Ch.asg rfl rfl ?_
  refine Ch.nil ?_
  refine WP.seq ?_
  refine WP.rs hG ?_
  refine Ch.mv rfl rfl ?_
  refine Ch.mv rfl rfl ?_
  refine Ch.pu gdN (by exact ⟨rfl, rfl, trivial⟩) (OpS.int (v' := .bool false) rfl (by exact congrArg Value.bool (decide_eq_false (by omega)))) trivial rfl ?_
  refine Ch.nil ?_
  refine WP.cond_false rfl ?_
  refine WP.skip ?_
  refine WP.rs hG ?_
  refine Ch.mv rfl rfl ?_
  refine Ch.mv rfl rfl ?_
  refine Ch.callH (FC.split (hc2)) [0] 1 gdN (by repeat (first | exact EvL.nil | (apply EvL.cons; exact rfl))) (by exact (And.intro (by first | exact .rfl _ | exact .untip _ _ _ | exact .nil | exact .func _ | exact AV.wk.sh (renL_s _ _) | exact AV.wk.tip rfl (by first | exact renL_b _ _ | exact renL_s _ _ | exact renL_i _ _ | exact renL_w _ _) | exact AV.wk.sh (by simp; first | done | fail)) (And.intro (by first | exact .rfl _ | exact .untip _ _ _ | exact .nil | exact .func _ | exact AV.wk.sh (renL_s _ _) | exact AV.wk.tip rfl (by first | exact renL_b _ _ | exact renL_s _ _ | exact renL_i _ _ | exact renL_w _ _) | exact AV.wk.sh (by simp; first | done | fail)) trivial))) rfl rfl (by decide) (by decide) (by first | ((conv => lhs; simp only [AV.ren, AV.renL, AO.ren, renL_b, renL_s, renL_w, renL_i, renL_append, ren_b, ren_s, ren_w, ren_i, pi_n, pi_0, pi_s, pi_1, pi_2, pi_3, pi_4, chOld, chNew, nuNew, hpl, Option.map_some, Option.map_none, List.length_cons, List.length_nil, List.take_succ_cons, List.take_zero, List.take_nil, List.drop_succ_cons, List.drop_zero, List.drop_nil, List.cons_append, List.nil_append, Nat.zero_add, Nat.add_zero, Nat.reduceAdd]); all_goals rfl) | rfl) (by first | ((conv => lhs; simp only [AV.ren, AV.renL, AO.ren, renL_b, renL_s, renL_w, renL_i, renL_append, ren_b, ren_s, ren_w, ren_i, pi_n, pi_0, pi_s, pi_1, pi_2, pi_3, pi_4, chOld, chNew, nuNew, hpl, Option.map_some, Option.map_none, List.length_cons, List.length_nil, List.take_succ_cons, List.take_zero, List.take_nil, List.drop_succ_cons, List.drop_zero, List.drop_nil, List.cons_append, List.nil_append, Nat.zero_add, Nat.add_zero, Nat.reduceAdd]); all_goals rfl) | rfl) (by first | ((conv => lhs; simp only [AV.ren, AV.renL, AO.ren, renL_b, renL_s, renL_w, renL_i, renL_append, ren_b, ren_s, ren_w, ren_i, pi_n, pi_0, pi_s, pi_1, pi_2, pi_3, pi_4, chOld, chNew, nuNew, hpl, Option.map_some, Option.map_none, List.length_cons, List.length_nil, List.take_succ_cons, List.take_zero, List.take_nil, List.drop_succ_cons, List.drop_zero, List.drop_nil, List.cons_append, List.nil_append, Nat.zero_add, Nat.add_zero, Nat.reduceAdd]); all_goals rfl) | rfl) (by first | ((conv => lhs; simp only [AV.ren, AV.renL, AO.ren, renL_b, renL_s, renL_w, renL_i, renL_append, ren_b, ren_s, ren_w, ren_i, pi_n, pi_0, pi_s, pi_1, pi_2, pi_3, pi_4, chOld, chNew, nuNew, hpl, Option.map_some, Option.map_none, List.length_cons, List.length_nil, List.take_succ_cons, List.take_zero, List.take_nil, List.drop_succ_cons, List.drop_zero, List.drop_nil, List.cons_append, List.nil_append, Nat.zero_add, Nat.add_zero, Nat.reduceAdd]); all_goals rfl) | rfl) (by first | exact trivial | exact ⟨rfl, trivial⟩ | exact ⟨rfl, rfl, trivial⟩ | exact ⟨rfl, rfl, rfl, trivial⟩ | exact ⟨rfl, rfl, rfl, rfl, trivial⟩) (by first | exact trivial | exact ⟨rfl, trivial⟩ | exact ⟨rfl, rfl, trivial⟩ | exact ⟨rfl, rfl, rfl, trivial⟩ | exact ⟨rfl, rfl, rfl, rfl, trivial⟩) rfl ?_
  refine Ch.asg rfl rfl ?_
  refine Ch.nil ?_
  refine WP.ret ?_
  refine (Ret.of (rs := [4]) (vs := [sA (rdCut m (l.drop 4, false)).1]) (H' := rdH (rdCut m (l.drop 4, false)).2.1 (rdCut m (l.drop 4, false)).2.2) (res := sA (rdCut m (l.drop 4, false)).1) [0] ?_ ?_ rfl ?_ (by simp only [List.length_cons, List.length_nil]; decide) ?_).1
  · exact (fun i hi => by rw [hnA] at hi; simp only [List.length_cons, List.length_nil] at hi ⊢; first | exact absurd hi (Nat.not_lt_zero _) | (revert i; decide))
  · (repeat (first | exact trivial | (refine And.intro ⟨(by first | trivial | (simp; first | done | fail) | exact ⟨trivial, hbel _⟩), _, rfl, (by first | exact .rfl _ | exact .nil | exact .of_eq (by simp; first | done | fail) | exact AV.wk.sh (by simp; first | done | fail) | exact .untip _ _ _)⟩ ?_)))
  · (repeat (first | exact trivial | refine HFromL.skip ?_ | (refine And.intro ⟨(by first | trivial | (simp; first | done | fail) | exact ⟨trivial, hbel _⟩), (by first | rfl | (simp; first | done | fail))⟩ ?_)))
  · rfl
theorem rTextX_fc (r : List UInt8 × Bool) (most : Nat) (hl : r.1.length ≤ 9223372036854775807) (hb : most ≤ 4294967296) : FC Tryd.prog G 39 [.ptr 0 0, .v (.int .i64 (most : Int))] (rdH r.1 r.2) (sA (rdText most r).1) (rdH (rdText most r).2.1 (rdText most r).2.2) := by
  obtain ⟨l, b⟩ := r
  unfold rdText
  cases hb' : (rdCut 4 (l, b)).2.2 with
  | true =>
    rw [if_pos rfl]
    have := rTextC_fc (G := G) l b (most : Int) hl hb'
    rw [← hb'] at this
    exact this
  | false =>
    obtain ⟨h1, h2, h3⟩ := rdCut_ok hb'
    cases h1
    rw [h3, if_neg (by decide)]
    have hlt := valU_lt 4 (l.take 4) (by rw [List.length_take]; exact Nat.min_eq_left h2) (by decide)
    rcases Nat.lt_or_ge most (valU (l.take 4)).toNat with h | h
    · rw [if_pos h]
      exact rTextB_fc l (valU (l.take 4)).toNat most h2 hl rfl (by omega) h
    · rw [if_neg (by show ¬ most < (valU (l.take 4)).toNat; omega)]
      exact rTextS_fc l (valU (l.take 4)).toNat most h2 hl rfl (by omega) h hb
end
end Go.Proofs.YtcojfnjpcpochaaDoor.E
end
section
namespace Go.Proofs.YtcojfnjpcpochaaDoor.V
def leavesT (seed : Txt) (h : Nat) : List Txt := (List.range (2 ^ h)).map fun i : Nat => pubT seed (i : Int)
theorem leavesT_length (seed : Txt) (h : Nat) : (leavesT seed h).length = 2 ^ h := by simp [leavesT]
theorem leavesT_32 (seed : Txt) (h : Nat) : ∀ x ∈ leavesT seed h, x.length = 32 := by
  intro x hx
  obtain ⟨i, -, rfl⟩ := List.mem_map.1 hx
  exact tag_length _ _
theorem leavesT_get (seed : Txt) (h i : Nat) (hi : i < 2 ^ h) : tget (leavesT seed h) i = pubT seed (i : Int) := by
  unfold tget leavesT
  rw [List.getElem?_map, List.getElem?_range hi]
  rfl
def pieceT (s : Txt) : Txt := beS (UInt64.ofNat s.length) 4 ++ s
def keyT (seed : Txt) (h : Nat) : Txt := beS (UInt64.ofNat h) 8 ++ rootN h (leavesT seed h)
theorem rootN_length : ∀ (n : Nat) (l : List Txt), l.length = 2 ^ n → (∀ x ∈ l, x.length = 32) → (rootN n l).length = 32
  | 0, l, hl, h => h _ (tget_mem (by rw [hl]; decide))
  | n + 1, l, hl, h => rootN_length n (pairsL node l) (half_len hl) (fun x hx => pairs_mem_length x hx)
theorem keyT_length (seed : Txt) (h : Nat) : (keyT seed h).length = 40 := by
  unfold keyT
  rw [List.length_append, beS_length, rootN_length h _ (leavesT_length _ _) (leavesT_32 _ _)]
def sigT (seed : Txt) (h i : Nat) (msg : Txt) : Txt := beS (UInt64.ofNat i) 8 ++ pieceT (signT seed (i : Int) msg) ++ ((pathN h (leavesT seed h) i).map pieceT).flatten
def rdP (f0 : Bool) (r0 : Txt × Bool) : Nat → List Txt × Bool × Txt × Bool
  | 0 => ([], f0, r0)
  | k + 1 => ((rdP f0 r0 k).1 ++ [(rdText 32 (rdP f0 r0 k).2.2).1], (rdP f0 r0 k).2.1 && decide ((rdText 32 (rdP f0 r0 k).2.2).1.length = 32), (rdText 32 (rdP f0 r0 k).2.2).2)
theorem rdP_length (f0 : Bool) (r0 : Txt × Bool) : ∀ k, (rdP f0 r0 k).1.length = k
  | 0 => rfl
  | k + 1 => by show ((rdP f0 r0 k).1 ++ [_]).length = _; rw [List.length_append, rdP_length f0 r0 k]; rfl
def verF (msg : Txt) (h : Nat) (pub : Txt) (n : UInt64) (s : Txt) (p : List Txt × Bool × Txt × Bool) : Bool :=
  if p.2.1 = true ∧ p.2.2.2 = false ∧ p.2.2.1 = [] ∧ n.toNat < 2 ^ h then decide (climbL (fromT s msg) n.toNat p.1 = pub.drop 8) else false
def verG (msg : Txt) (h : Nat) (pub sig : Txt) : Bool :=
  verF msg h pub (rdNum (sig, false)).1 (rdText 160 (rdNum (sig, false)).2).1 (rdP (decide ((rdText 160 (rdNum (sig, false)).2).1.length = 160)) (rdText 160 (rdNum (sig, false)).2).2 h)
def verifyT (pub msg sig : Txt) : Bool :=
  if pub.length ≠ 40 then false else if 7 < (valU (pub.take 8)).toNat then false else verG msg (valU (pub.take 8)).toNat pub sig
theorem rdNum_back (x : UInt64) (rest : Txt) : rdNum (beS x 8 ++ rest, false) = (x, rest, false) := by
  have hl := beS_length x 8
  unfold rdNum
  rw [rdCut_fit (by rw [List.length_append]; omega), if_neg (by simp), List.take_left' hl, List.drop_left' hl, valU_be8]
theorem rdText_back (most : Nat) (s rest : Txt) (h : s.length ≤ most) (hm : most < 4294967296) : rdText most (pieceT s ++ rest, false) = (s, rest, false) := by
  have hl := beS_length (UInt64.ofNat s.length) 4
  unfold rdText pieceT
  rw [List.append_assoc, rdCut_fit (by rw [List.length_append]; omega), if_neg (by simp), List.take_left' hl, List.drop_left' hl]
  have hv : (valU (beS (UInt64.ofNat s.length) 4)).toNat = s.length := by
    rw [valU_beS _ _ (by decide), UInt64.toNat_ofNat', Nat.mod_eq_of_lt (by omega), Nat.mod_eq_of_lt (by omega)]
  rw [hv, if_neg (by omega), rdCut_fit (by rw [List.length_append]; omega), List.take_left' rfl, List.drop_left' rfl]
theorem rdPath_back (p : List Txt) (rest : Txt) (h32 : ∀ x ∈ p, x.length = 32) : ∀ k, k ≤ p.length → rdP true ((p.map pieceT).flatten ++ rest, false) k = (p.take k, true, ((p.drop k).map pieceT).flatten ++ rest, false)
  | 0, _ => by simp [rdP]
  | k + 1, hk => by
    have ih := rdPath_back p rest h32 k (by omega)
    have hd : p.drop k = p[k]'(by omega) :: p.drop (k + 1) := List.drop_eq_getElem_cons (by omega)
    have ht : p.take (k + 1) = p.take k ++ [p[k]'(by omega)] := by rw [List.take_add_one, List.getElem?_eq_getElem (by omega)]; rfl
    have hx := h32 (p[k]'(by omega)) (List.getElem_mem _)
    unfold rdP
    rw [ih, hd, List.map_cons, List.flatten_cons, List.append_assoc, rdText_back 32 _ _ (by omega) (by decide), ht]
    simp only [hx]
    rfl
theorem pw7 {h : Nat} (hh : h ≤ 7) : 2 ^ h ≤ 128 := Nat.pow_le_pow_right (n := 2) (by decide) hh
theorem key_head (seed : Txt) (h : Nat) (hh : h ≤ 7) : (valU ((keyT seed h).take 8)).toNat = h := by
  unfold keyT
  rw [List.take_left' (beS_length _ _), valU_be8, UInt64.toNat_ofNat']
  omega
theorem key_tail (seed : Txt) (h : Nat) : (keyT seed h).drop 8 = rootN h (leavesT seed h) := List.drop_left' (beS_length _ _)
theorem verify_sig (seed : Txt) (h i : Nat) (hh : h ≤ 7) (hi : i < 2 ^ h) (msg msg' : Txt) :
    verifyT (keyT seed h) msg' (sigT seed h i msg) = decide (climbL (fromT (signT seed (i : Int) msg) msg') i (pathN h (leavesT seed h) i) = rootN h (leavesT seed h)) := by
  have h128 := pw7 hh
  unfold verifyT
  rw [if_neg (by rw [keyT_length]; decide), key_head seed h hh, if_neg (by omega)]
  unfold verG sigT
  rw [List.append_assoc, rdNum_back]
  have ht := rdText_back 160 (signT seed (i : Int) msg) (((pathN h (leavesT seed h) i).map pieceT).flatten) (by rw [signT_length]; decide) (by decide)
  rw [ht]
  have hp := rdPath_back (pathN h (leavesT seed h) i) [] (pathN_mem h _ i (leavesT_length _ _) hi (leavesT_32 _ _)) h (by rw [pathN_length]; exact Nat.le_refl _)
  rw [List.append_nil] at hp
  rw [decide_eq_true (show (signT seed (i : Int) msg).length = 160 from signT_length _ _ _), hp]
  have hn : (UInt64.ofNat i).toNat = i := by rw [UInt64.toNat_ofNat']; omega
  have htk : (pathN h (leavesT seed h) i).take h = pathN h (leavesT seed h) i := List.take_of_length_le (by rw [pathN_length]; exact Nat.le_refl _)
  have hdr : (pathN h (leavesT seed h) i).drop h = [] := List.drop_of_length_le (by rw [pathN_length]; exact Nat.le_refl _)
  unfold verF
  rw [htk, hdr, key_tail, hn]
  exact if_pos ⟨rfl, rfl, rfl, hi⟩
theorem verify_back (seed : Txt) (h i : Nat) (hh : h ≤ 7) (hi : i < 2 ^ h) (msg : Txt) : verifyT (keyT seed h) msg (sigT seed h i msg) = true := by
  rw [verify_sig seed h i hh hi, sign_back, ← leavesT_get seed h i hi]
  exact decide_eq_true (climb_path h _ i (leavesT_length _ _) hi)
theorem rdText_len (most : Nat) (r : Txt × Bool) : (rdText most r).2.1.length ≤ r.1.length := by
  have h4 := (rdCut_len 4 r).2
  unfold rdText
  split
  · exact h4
  · split
    · exact h4
    · exact Nat.le_trans (rdCut_len _ _).2 h4
theorem rdText_le (most : Nat) (r : Txt × Bool) : (rdText most r).1.length ≤ most := by
  unfold rdText
  split
  · exact Nat.zero_le _
  · split
    · exact Nat.zero_le _
    · exact Nat.le_trans (rdCut_len _ _).1 (by omega)
theorem rdP_step {f0 : Bool} {r0 : Txt × Bool} {m : Nat} {pa : List Txt} {fa : Bool} {la : Txt} {ba : Bool} {x lx : Txt} {bx : Bool} (h : rdP f0 r0 m = (pa, fa, la, ba)) (hx : rdText 32 (la, ba) = (x, lx, bx)) :
    rdP f0 r0 (m + 1) = (pa ++ [x], fa && decide (x.length = 32), lx, bx) := by
  show ((rdP f0 r0 m).1 ++ [(rdText 32 (rdP f0 r0 m).2.2).1], (rdP f0 r0 m).2.1 && decide ((rdText 32 (rdP f0 r0 m).2.2).1.length = 32), (rdText 32 (rdP f0 r0 m).2.2).2) = _
  rw [h]
  show (pa ++ [(rdText 32 (la, ba)).1], fa && decide ((rdText 32 (la, ba)).1.length = 32), (rdText 32 (la, ba)).2) = _
  rw [hx]
theorem verF_f {msg : Txt} {h : Nat} {pub : Txt} {n : UInt64} {s : Txt} {p : List Txt × Bool × Txt × Bool} (hc : ¬ (p.2.1 = true ∧ p.2.2.2 = false ∧ p.2.2.1 = [] ∧ n.toNat < 2 ^ h)) : verF msg h pub n s p = false := if_neg hc
theorem verF_t {msg : Txt} {h : Nat} {pub : Txt} {n : UInt64} {s : Txt} {p : List Txt} (hn : n.toNat < 2 ^ h) : verF msg h pub n s (p, true, [], false) = decide (climbL (fromT s msg) n.toNat p = pub.drop 8) := if_pos ⟨rfl, rfl, rfl, hn⟩
theorem rdNum_len (r : Txt × Bool) : (rdNum r).2.1.length ≤ r.1.length := (rdCut_len 8 r).2
theorem rdText_ok {most : Nat} {r : Txt × Bool} (h : (rdText most r).2.2 = false) : r.2 = false ∧ r.1.length = 4 + (rdText most r).1.length + (rdText most r).2.1.length := by
  unfold rdText at h ⊢
  cases hb : (rdCut 4 r).2.2 with
  | true => rw [hb] at h; rw [if_pos rfl] at h; rw [h] at hb; cases hb
  | false =>
    rw [hb] at h
    rw [if_neg (by decide)] at h ⊢
    obtain ⟨h1, h2, h3⟩ := rdCut_ok hb
    split at h
    · cases h
    · rename_i hn
      rw [if_neg hn]
      obtain ⟨k1, k2, k3⟩ := rdCut_ok h
      refine ⟨h1, ?_⟩
      have e1 : (rdCut 4 r).2.1.length = r.1.length - 4 := by rw [h3]; exact List.length_drop
      rw [k3]
      show _ = 4 + ((rdCut 4 r).2.1.take _).length + ((rdCut 4 r).2.1.drop _).length
      rw [List.length_take, List.length_drop]
      omega
theorem rdNum_ok {r : Txt × Bool} (h : (rdNum r).2.2 = false) : r.2 = false ∧ r.1.length = 8 + (rdNum r).2.1.length := by
  have hb : (rdCut 8 r).2.2 = false := h
  obtain ⟨h1, h2, h3⟩ := rdCut_ok hb
  refine ⟨h1, ?_⟩
  show _ = 8 + (rdCut 8 r).2.1.length
  rw [h3]
  show _ = 8 + (r.1.drop 8).length
  rw [List.length_drop]
  omega
theorem rdPath_ok {f0 : Bool} {r0 : Txt × Bool} : ∀ k, (rdP f0 r0 k).2.1 = true → (rdP f0 r0 k).2.2.2 = false → f0 = true ∧ r0.2 = false ∧ r0.1.length = 36 * k + (rdP f0 r0 k).2.2.1.length
  | 0, hf, hb => ⟨hf, hb, by show _ = 36 * 0 + r0.1.length; omega⟩
  | k + 1, hf, hb => by
    have hf' : ((rdP f0 r0 k).2.1 && decide ((rdText 32 (rdP f0 r0 k).2.2).1.length = 32)) = true := hf
    rw [Bool.and_eq_true, decide_eq_true_iff] at hf'
    obtain ⟨k1, k2⟩ := rdText_ok (r := (rdP f0 r0 k).2.2) (most := 32) hb
    obtain ⟨j1, j2, j3⟩ := rdPath_ok k hf'.1 k1
    refine ⟨j1, j2, ?_⟩
    show _ = 36 * (k + 1) + (rdText 32 (rdP f0 r0 k).2.2).2.1.length
    omega
theorem verify_len {pub msg sig : Txt} (h : verifyT pub msg sig = true) : pub.length = 40 ∧ (valU (pub.take 8)).toNat ≤ 7 ∧ sig.length = 172 + 36 * (valU (pub.take 8)).toNat := by
  unfold verifyT at h
  split at h
  · cases h
  · rename_i h40
    split at h
    · cases h
    · rename_i h7
      unfold verG verF at h
      split at h
      · rename_i hc
        obtain ⟨c1, c2, c3, c4⟩ := hc
        obtain ⟨j1, j2, j3⟩ := rdPath_ok _ c1 c2
        rw [c3] at j3
        have e160 := of_decide_eq_true j1
        obtain ⟨k1, k2⟩ := rdText_ok (r := (rdNum (sig, false)).2) (most := 160) j2
        obtain ⟨m1, m2⟩ := rdNum_ok (r := (sig, false)) k1
        refine ⟨by omega, by omega, ?_⟩
        have : ([] : Txt).length = 0 := rfl
        have e : ((sig, false) : Txt × Bool).1.length = sig.length := rfl
        omega
      · cases h
theorem sigT_length (seed : Txt) (h i : Nat) (msg : Txt) (hh : h ≤ 7) (hi : i < 2 ^ h) : (sigT seed h i msg).length = 172 + 36 * h := by
  have := verify_len (verify_back seed h i hh hi msg)
  rw [key_head seed h hh] at this
  exact this.2.2
end Go.Proofs.YtcojfnjpcpochaaDoor.V
end
section
namespace Go.Proofs.YtcojfnjpcpochaaDoor.E
open Go Go.RowKit Go.Proofs.YtcojfnjpcpochaaDoor.V
section
variable {P : Program} {G : List (Nat × Array Value)} {l r : List Oper} {K : AS → Prop} {n : Nat} {s : Nat → Option AV} {h : Nat → Option AO} {u : Nat → Bool} {d : Tmp} {ty : TypeId} {pos : String} {aft : Array Edge} {gd : Option (Nat × Bool)} {D : Bool} {acc : List St}
theorem Ch.callFH {f : FuncId} {args : List AV} {H H1 H2 : List (Option AO)} {res : AV} (F : FC P G f args H res (H1 ++ H2)) (old : List Nat) (base : Nat) {c : Operand} {xs : List Operand} {ys caps : List AV} {ats : Array TypeId} {res' : AV} {hp' : List (Nat × AO)} {ch' : List (Nat × Option AO)} {nu' : List Nat}
    (hg : GdOk l.toArray ⟨some d, .call ⟨.value c, xs.toArray, ats⟩, ty, pos, aft, gd⟩ ⟨n, s, h, u⟩ true) (hev : EvL ⟨n, s, h, u⟩ (c :: xs) (.fn (.func f) [] caps :: ys)) (hwk : WkL (ys ++ caps) (args.map (AV.ren (pi old base)))) (hol : Nat.beq old.length H.length = true) (h1l : Nat.beq H1.length H.length = true) (hnd : old.Nodup) (hlt : ∀ x ∈ old, x < base)
    (hres : res.ren (pi old base) = res') (hhp : hpl (pi old base) old H = hp') (hch : chOld (pi old base) old H1 ++ chNew (pi old base) base H2 = ch') (hnu : nuNew base H2 = nu')
    (h2 : HpOk ⟨n, s, h, u⟩ hp') (h3 : NuOk ⟨n, s, h, u⟩ nu') (hd : Nat.blt d n = true)
    (hr : Ch P G l D K (⟨true, (c :: xs).zip (.fn (.func f) [] caps :: ys), hp', ⟨some res', ch', nu'⟩⟩ :: acc) r ⟨n, upd s d (some res'), chs h ch', nuU u nu'⟩) :
    Ch P G l D K acc (⟨some d, .call ⟨.value c, xs.toArray, ats⟩, ty, pos, aft, gd⟩ :: r) ⟨n, s, h, u⟩ := by
  subst hres; subst hhp; subst hch; subst hnu
  have hol' := Nat.eq_of_beq_eq_true hol
  have h1l' := Nat.eq_of_beq_eq_true h1l
  have hlen : xs.length = ys.length := by have := hev.ok.2; simpa using this
  have he := callEff_eq (old := old) (base := base) (res := res) (m := H.length) (H1 := H1) (H2 := H2) hol' h1l'
  have := OpS.callF F old base hol' hnd hlt hlen hwk (c := c) (dst := some d) (ats := ats) (ty := ty) (pos := pos) (aft := aft) (gd := gd)
  rw [he] at this
  exact Ch.cons (st := ⟨true, (c :: xs).zip (.fn (.func f) [] caps :: ys), hpl (pi old base) old H, ⟨some (res.ren (pi old base)), chOld (pi old base) old H1 ++ chNew (pi old base) base H2, nuNew base H2⟩⟩) ⟨hg, fun _ => ⟨this, hev.ok.1, h2, h3, fun t ht => by cases ht; exact Nat.blt_eq.mp hd⟩, fun h => nomatch h⟩ hr
end
section
variable {P : Program} {G : List (Nat × Array Value)} {dst : Option Tmp} {ty : TypeId} {pos : String} {aft : Array Edge} {gd : Option (Nat × Bool)}
theorem pow_small {j : Nat} (h : j ≤ 40) : 2 ^ j ≤ 1099511627776 := Nat.pow_le_pow_right (n := 2) (by decide) h
theorem wr_i64 (q : Nat) (h : q ≤ 1099511627776) : IntKind.i64.wrap (q : Int) = (q : Int) := by rw [IntKind.wrap_i64]; omega
theorem wr_u64 (q : Nat) (h : q ≤ 1099511627776) : IntKind.u64.wrap (q : Int) = (q : Int) := by rw [IntKind.wrap_u64]; omega
theorem shift1 {k k' : IntKind} {j : Nat} (h : j ≤ 40) (hb : k.bits = 64) (hw : k.wrap ((2 ^ j : Nat) : Int) = ((2 ^ j : Nat) : Int)) : Op.shift .shl k 1 k' (j : Int) = pure (.int k ((2 ^ j : Nat) : Int)) := by
  unfold Op.shift
  rw [if_neg (by omega)]
  have e : (1 : Int) * 2 ^ (min (j : Int).toNat k.bits) = ((2 ^ j : Nat) : Int) := by
    rw [Int.one_mul, Int.toNat_natCast, hb, Nat.min_eq_left (by omega), Int.natCast_pow]
    rfl
  simp only [e, hw]
theorem OpS.shl1 {t t' : TypeId} {x y : Operand} {k' : IntKind} {j : Nat} (h : j ≤ 40) :
    OpS P G ⟨dst, .binOp .shl t x y t', ty, pos, aft, gd⟩ [(x, .v (.int .i64 1)), (y, .v (.int k' (j : Int)))] [] ⟨some (.v (.int .i64 ((2 ^ j : Nat) : Int))), [], []⟩ := by
  refine OpS.binR rfl fun w => ?_
  have hp := pow_small h
  show (Op.shift .shl .i64 1 k' (j : Int)).run P w = _
  rw [shift1 h rfl (wr_i64 _ hp)]
  rfl
theorem OpS.shl1u {t t' : TypeId} {x y : Operand} {k' : IntKind} {j : Nat} (h : j ≤ 40) :
    OpS P G ⟨dst, .binOp .shl t x y t', ty, pos, aft, gd⟩ [(x, .v (.int .u64 1)), (y, .v (.int k' (j : Int)))] [] ⟨some (.v (.int .u64 ((2 ^ j : Nat) : Int))), [], []⟩ := by
  refine OpS.binR rfl fun w => ?_
  have hp := pow_small h
  show (Op.shift .shl .u64 1 k' (j : Int)).run P w = _
  rw [shift1 h rfl (wr_u64 _ hp)]
  rfl
end
section
variable {A : Amb} {n : Nat} {s : Nat → Option AV} {h : Nat → Option AO} {u : Nat → Bool}
theorem SEnt.frzA {t id k : Nat} {T : TypeId} {cs : List AV} (hs : s t = some (.arr id 0 k)) (hh : h id = some (.cells T cs)) : SEnt A ⟨n, s, h, u⟩ ⟨n, upd s t (some (.sl none k cs)), upd h id none, u⟩ := by
  intro ρ a w hst
  obtain ⟨x, hx, hv⟩ := hst.slots t _ hs
  obtain ⟨b', arr, h1, ⟨fz, hmk, h2⟩, h3, h4⟩ := hst.mem.heap id _ hh
  obtain ⟨m1, m2⟩ := hst.mem.drop id
  refine ⟨ρ, m1, fun t' v' ht' => ?_, hst.nt, hst.defers⟩
  rcases upd_eq_some (f := s) ht' with ⟨rfl, he⟩ | ⟨_, he⟩
  · cases he
    cases hv with
    | arr _ _ _ cap b hb hn hm =>
      obtain rfl : b = b' := by rw [hb] at h1; exact Option.some.inj h1
      refine ⟨_, hx, .sl none k cs _ cap (fun i => arr.getD i undef) (fun i hi => ?_) (fun i c hc => ?_) (fun k hk => by cases hk) hn (fun h => by cases h) hm⟩
      · have hlt : i < arr.size := by omega
        refine ⟨(h4 i _ _ (List.getElem?_eq_getElem hi) (by simp [Array.getD_eq_getD_getElem?, hlt])).2, b, 0, rfl, ?_, (Array.getElem?_eq_some_iff.1 h2).1, .inr (hst.mem.own id _ b (0 + i) hh hb), fun i' ob hi' hw => ?_⟩
        · rw [cell_of_row w b (0 + i) arr T fz h2, Nat.zero_add]
          simp [Array.getD_eq_getD_getElem?, hlt]
        · rcases upd_eq_some (f := h) hi' with ⟨_, he⟩ | ⟨hne, he⟩
          · cases he
          · exact hne (hst.mem.sep i' id ob _ b he hh (AO.at_of_wr hw) hb)
      · have hi := (List.getElem?_eq_some_iff.1 hc).1
        have hlt : i < arr.size := by omega
        exact m2 _ _ (h4 i c _ hc (by simp [Array.getD_eq_getD_getElem?, hlt])).1
  · obtain ⟨y, hy, hw⟩ := hst.slots t' v' he
    exact ⟨y, hy, m2 _ _ hw⟩
end
end Go.Proofs.YtcojfnjpcpochaaDoor.E
end
section
namespace Go.Proofs.YtcojfnjpcpochaaDoor.E
open Go Go.RowKit Go.Proofs.YtcojfnjpcpochaaDoor.V
attribute [local go_sem] B_size B_append B_extract mk_B B_toList take_drop_len List.length_drop List.length_take sgn32 sgn64 add32 sub32 mul32 add64 sub64 mul64 mul64_8 and32 or32 xor32 and64 or64 xor64 shl32_run shr32_run shl64_run shr64_run not32 not32' xor32_all w_u32_u8 w_u64_u8 w_i64_u8 w_u8_u32 w_u8_u64 w_u32_u64 w_u64_u32 w_u8_u8 w_u32_u32 w_u64_u64
attribute [local go_sem ↓] run_index_B' add32 sub32 mul32 add64 sub64 mul64 mul64_8 and32 or32 xor32 and64 or64 xor64 shl32_run shr32_run shl64_run shr64_run not32 not32' xor32_all w_u32_u8 w_u64_u8 w_i64_u8 w_u8_u32 w_u8_u64 w_u32_u64 w_u64_u32 w_u8_u8 w_u32_u32 w_u64_u64 w_u64_nat w_u32_nat w_u8_nat
set_option maxRecDepth 4000
def leavesP (seed : Txt) (m : Nat) : List Txt := (List.range m).map fun i : Nat => pubT seed (i : Int)
theorem leavesP_succ (seed : Txt) (m : Nat) : leavesP seed (m + 1) = leavesP seed m ++ [pubT seed (m : Int)] := by simp [leavesP, List.range_succ]
theorem leavesP_length (seed : Txt) (m : Nat) : (leavesP seed m).length = m := by simp [leavesP]
theorem leavesP_all (seed : Txt) (h : Nat) : leavesP seed (2 ^ h) = leavesT seed h := rfl
abbrev sgC (seed : Txt) (h n : Nat) (L : List Txt) : List AV := [sA seed, .v (.int .i64 (h : Int)), .sl (some 1) L.length (L.map sA), .v (.int .i64 (n : Int))]
abbrev sgH (seed : Txt) (h n : Nat) (L : List Txt) : List (Option AO) := [some (.cells 51 (sgC seed h n L)), some (.tip 9 1 L.length)]
theorem sg_bel (u : Nat → Bool) (hu : u 1 = true) (seed : Txt) (h n : Nat) (L : List Txt) : belH u (sgH seed h n L) := ⟨⟨trivial, trivial, ⟨fun k hk => by cases hk; exact hu, belL_s _ _⟩, trivial, trivial⟩, trivial, trivial⟩
theorem new_split (h n : Int) (hbad : h < 0 ∨ 7 < h ∨ n < 0 ∨ ((2 ^ h.toNat : Nat) : Int) < n) : h < 0 ∨ (0 ≤ h ∧ 7 < h) ∨ (0 ≤ h ∧ h ≤ 7 ∧ n < 0) ∨ (0 ≤ h ∧ h ≤ 7 ∧ 0 ≤ n ∧ ((2 ^ h.toNat : Nat) : Int) < n) := by omega
attribute [local irreducible] sum tag input laidN wstep walkT secretT digitsT pubT signT fromT rootN pathN leavesT beS
section
variable {G : List (Nat × Array Value)}
theorem sgBad_fc (seed : Txt) (h n : Int) (hbad : h < 0 ∨ 7 < h ∨ n < 0 ∨ ((2 ^ h.toNat : Nat) : Int) < n) : FC Tryd.prog G 10 [sA seed, .v (.int .i64 h), .v (.int .i64 n)] [] (.tup [.v (.pointer none), .v (.int .i64 1)]) [] := by
  refine FC.of_wp [6, 7] Tryd.func10 rfl rfl rfl rfl (by first | trivial | (simp; first | done | fail) | exact ⟨trivial, hbel _⟩) (by first | trivial | (simp; first | done | fail) | exact ⟨trivial, hbel _⟩) (by exact Nat.le_of_ble_eq_true rfl) ?_
  intro A hG hnA hAB
  unfold start
  refine WP.rs hG ?_
  refine Ch.asg rfl rfl ?_
  refine Ch.asg rfl rfl ?_
  refine Ch.nil ?_
  refine WP.seq ?_
  rcases new_split h n hbad with hq | hq | hq | hq
  rotate_left 3
  obtain ⟨j, rfl⟩ : ∃ j : Nat, h = (j : Int) := ⟨h.toNat, by omega⟩
  rw [Int.toNat_natCast] at hq
  rotate_left 1
  · have hs := hq
    refine WP.rs hG ?_
    refine Ch.mv rfl rfl ?_
    refine Ch.pu gdN (by exact ⟨rfl, rfl, trivial⟩) (OpS.int (v' := .bool true) rfl (by exact congrArg Value.bool (decide_eq_true (by omega)))) trivial rfl ?_
    refine Ch.mv rfl rfl ?_
    refine Ch.skU (gdF rfl rfl rfl) rfl ?_
    refine Ch.skU (gdF rfl rfl rfl) rfl ?_
    refine Ch.pu gdN (by first | exact ⟨rfl, rfl, trivial⟩ | exact ⟨rfl, rfl, rfl, trivial⟩) (OpS.pickT) trivial rfl ?_
    refine Ch.mv rfl rfl ?_
    refine Ch.skU (gdF rfl rfl rfl) rfl ?_
    refine Ch.skU (gdF rfl rfl rfl) rfl ?_
    refine Ch.pu gdN (by first | exact ⟨rfl, rfl, trivial⟩ | exact ⟨rfl, rfl, rfl, trivial⟩) (OpS.pickT) trivial rfl ?_
    refine Ch.mv rfl rfl ?_
    refine Ch.skU (gdF rfl rfl rfl) rfl ?_
    refine Ch.skU (gdF rfl rfl rfl) rfl ?_
    refine Ch.skU (gdF rfl rfl rfl) rfl ?_
    refine Ch.skU (gdF rfl rfl rfl) rfl ?_
    refine Ch.pu gdN (by first | exact ⟨rfl, rfl, trivial⟩ | exact ⟨rfl, rfl, rfl, trivial⟩) (OpS.pickT) trivial rfl ?_
    refine Ch.nil ?_
    refine WP.cond_true rfl ?_
    refine WP.rs hG ?_
    refine Ch.asg rfl rfl ?_
    refine Ch.asg rfl rfl ?_
    refine Ch.nil ?_
    refine WP.ret ?_
    refine (Ret.of (rs := [6, 7]) (vs := [.v (.pointer none), .v (.int .i64 1)]) (H' := []) (res := .tup [.v (.pointer none), .v (.int .i64 1)]) [] ?_ ?_ rfl ?_ (by simp only [List.length_cons, List.length_nil]; decide) ?_).1
    · exact (fun i hi => by rw [hnA] at hi; simp only [List.length_cons, List.length_nil] at hi ⊢; first | exact absurd hi (Nat.not_lt_zero _) | (revert i; decide))
    · (repeat (first | exact trivial | (refine And.intro ⟨(by first | trivial | (simp; first | done | fail) | exact ⟨trivial, hbel _⟩), _, rfl, (by first | exact .rfl _ | exact .nil | exact .of_eq (by simp; first | done | fail) | exact AV.wk.sh (by simp; first | done | fail) | exact .untip _ _ _)⟩ ?_)))
    · (repeat (first | exact trivial | refine HFromL.skip ?_ | (refine And.intro ⟨(by first | trivial | (simp; first | done | fail) | exact ⟨trivial, hbel _⟩), (by first | rfl | (simp; first | done | fail))⟩ ?_)))
    · exact ⟨_, rfl, rfl, by simp [ls, TsOk, List.zip, List.zipWith]⟩
  · have hs := hq
    refine WP.rs hG ?_
    refine Ch.mv rfl rfl ?_
    refine Ch.pu gdN (by exact ⟨rfl, rfl, trivial⟩) (OpS.int (v' := .bool false) rfl (by exact congrArg Value.bool (decide_eq_false (by omega)))) trivial rfl ?_
    refine Ch.mv rfl rfl ?_
    refine Ch.pu (by exact gdT rfl rfl) (by exact ⟨rfl, trivial⟩) (OpS.move) trivial rfl ?_
    refine Ch.pu (by exact gdT rfl rfl) (by exact ⟨rfl, rfl, trivial⟩) (OpS.int (v' := .bool true) rfl (by exact congrArg Value.bool (decide_eq_true (by omega)))) trivial rfl ?_
    refine Ch.pu gdN (by first | exact ⟨rfl, rfl, trivial⟩ | exact ⟨rfl, rfl, rfl, trivial⟩) (OpS.pickF) trivial rfl ?_
    refine Ch.mv rfl rfl ?_
    refine Ch.skU (gdF rfl rfl rfl) rfl ?_
    refine Ch.skU (gdF rfl rfl rfl) rfl ?_
    refine Ch.pu gdN (by first | exact ⟨rfl, rfl, trivial⟩ | exact ⟨rfl, rfl, rfl, trivial⟩) (OpS.pickT) trivial rfl ?_
    refine Ch.mv rfl rfl ?_
    refine Ch.skU (gdF rfl rfl rfl) rfl ?_
    refine Ch.skU (gdF rfl rfl rfl) rfl ?_
    refine Ch.skU (gdF rfl rfl rfl) rfl ?_
    refine Ch.skU (gdF rfl rfl rfl) rfl ?_
    refine Ch.pu gdN (by first | exact ⟨rfl, rfl, trivial⟩ | exact ⟨rfl, rfl, rfl, trivial⟩) (OpS.pickT) trivial rfl ?_
    refine Ch.nil ?_
    refine WP.cond_true rfl ?_
    refine WP.rs hG ?_
    refine Ch.asg rfl rfl ?_
    refine Ch.asg rfl rfl ?_
    refine Ch.nil ?_
    refine WP.ret ?_
    refine (Ret.of (rs := [6, 7]) (vs := [.v (.pointer none), .v (.int .i64 1)]) (H' := []) (res := .tup [.v (.pointer none), .v (.int .i64 1)]) [] ?_ ?_ rfl ?_ (by simp only [List.length_cons, List.length_nil]; decide) ?_).1
    · exact (fun i hi => by rw [hnA] at hi; simp only [List.length_cons, List.length_nil] at hi ⊢; first | exact absurd hi (Nat.not_lt_zero _) | (revert i; decide))
    · (repeat (first | exact trivial | (refine And.intro ⟨(by first | trivial | (simp; first | done | fail) | exact ⟨trivial, hbel _⟩), _, rfl, (by first | exact .rfl _ | exact .nil | exact .of_eq (by simp; first | done | fail) | exact AV.wk.sh (by simp; first | done | fail) | exact .untip _ _ _)⟩ ?_)))
    · (repeat (first | exact trivial | refine HFromL.skip ?_ | (refine And.intro ⟨(by first | trivial | (simp; first | done | fail) | exact ⟨trivial, hbel _⟩), (by first | rfl | (simp; first | done | fail))⟩ ?_)))
    · exact ⟨_, rfl, rfl, by simp [ls, TsOk, List.zip, List.zipWith]⟩
  · have hs := hq
    refine WP.rs hG ?_
    refine Ch.mv rfl rfl ?_
    refine Ch.pu gdN (by exact ⟨rfl, rfl, trivial⟩) (OpS.int (v' := .bool false) rfl (by exact congrArg Value.bool (decide_eq_false (by omega)))) trivial rfl ?_
    refine Ch.mv rfl rfl ?_
    refine Ch.pu (by exact gdT rfl rfl) (by exact ⟨rfl, trivial⟩) (OpS.move) trivial rfl ?_
    refine Ch.pu (by exact gdT rfl rfl) (by exact ⟨rfl, rfl, trivial⟩) (OpS.int (v' := .bool false) rfl (by exact congrArg Value.bool (decide_eq_false (by omega)))) trivial rfl ?_
    refine Ch.pu gdN (by first | exact ⟨rfl, rfl, trivial⟩ | exact ⟨rfl, rfl, rfl, trivial⟩) (OpS.pickF) trivial rfl ?_
    refine Ch.mv rfl rfl ?_
    refine Ch.pu (by exact gdT rfl rfl) (by exact ⟨rfl, trivial⟩) (OpS.move) trivial rfl ?_
    refine Ch.pu (by exact gdT rfl rfl) (by exact ⟨rfl, rfl, trivial⟩) (OpS.int (v' := .bool true) rfl (by exact congrArg Value.bool (decide_eq_true (by omega)))) trivial rfl ?_
    refine Ch.pu gdN (by first | exact ⟨rfl, rfl, trivial⟩ | exact ⟨rfl, rfl, rfl, trivial⟩) (OpS.pickF) trivial rfl ?_
    refine Ch.mv rfl rfl ?_
    refine Ch.skU (gdF rfl rfl rfl) rfl ?_
    refine Ch.skU (gdF rfl rfl rfl) rfl ?_
    refine Ch.skU (gdF rfl rfl rfl) rfl ?_
    refine Ch.skU (gdF rfl rfl rfl) rfl ?_
    refine Ch.pu gdN (by first | exact ⟨rfl, rfl, trivial⟩ | exact ⟨rfl, rfl, rfl, trivial⟩) (OpS.pickT) trivial rfl ?_
    refine Ch.nil ?_
    refine WP.cond_true rfl ?_
    refine WP.rs hG ?_
    refine Ch.asg rfl rfl ?_
    refine Ch.asg rfl rfl ?_
    refine Ch.nil ?_
    refine WP.ret ?_
    refine (Ret.of (rs := [6, 7]) (vs := [.v (.pointer none), .v (.int .i64 1)]) (H' := []) (res := .tup [.v (.pointer none), .v (.int .i64 1)]) [] ?_ ?_ rfl ?_ (by simp only [List.length_cons, List.length_nil]; decide) ?_).1
    · exact (fun i hi => by rw [hnA] at hi; simp only [List.length_cons, List.length_nil] at hi ⊢; first | exact absurd hi (Nat.not_lt_zero _) | (revert i; decide))
    · (repeat (first | exact trivial | (refine And.intro ⟨(by first | trivial | (simp; first | done | fail) | exact ⟨trivial, hbel _⟩), _, rfl, (by first | exact .rfl _ | exact .nil | exact .of_eq (by simp; first | done | fail) | exact AV.wk.sh (by simp; first | done | fail) | exact .untip _ _ _)⟩ ?_)))
    · (repeat (first | exact trivial | refine HFromL.skip ?_ | (refine And.intro ⟨(by first | trivial | (simp; first | done | fail) | exact ⟨trivial, hbel _⟩), (by first | rfl | (simp; first | done | fail))⟩ ?_)))
    · exact ⟨_, rfl, rfl, by simp [ls, TsOk, List.zip, List.zipWith]⟩
  · have hs := hq
    refine WP.rs hG ?_
    refine Ch.mv rfl rfl ?_
    refine Ch.pu gdN (by exact ⟨rfl, rfl, trivial⟩) (OpS.int (v' := .bool false) rfl (by exact congrArg Value.bool (decide_eq_false (by omega)))) trivial rfl ?_
    refine Ch.mv rfl rfl ?_
    refine Ch.pu (by exact gdT rfl rfl) (by exact ⟨rfl, trivial⟩) (OpS.move) trivial rfl ?_
    refine Ch.pu (by exact gdT rfl rfl) (by exact ⟨rfl, rfl, trivial⟩) (OpS.int (v' := .bool false) rfl (by exact congrArg Value.bool (decide_eq_false (by omega)))) trivial rfl ?_
    refine Ch.pu gdN (by first | exact ⟨rfl, rfl, trivial⟩ | exact ⟨rfl, rfl, rfl, trivial⟩) (OpS.pickF) trivial rfl ?_
    refine Ch.mv rfl rfl ?_
    refine Ch.pu (by exact gdT rfl rfl) (by exact ⟨rfl, trivial⟩) (OpS.move) trivial rfl ?_
    refine Ch.pu (by exact gdT rfl rfl) (by exact ⟨rfl, rfl, trivial⟩) (OpS.int (v' := .bool false) rfl (by exact congrArg Value.bool (decide_eq_false (by omega)))) trivial rfl ?_
    refine Ch.pu gdN (by first | exact ⟨rfl, rfl, trivial⟩ | exact ⟨rfl, rfl, rfl, trivial⟩) (OpS.pickF) trivial rfl ?_
    refine Ch.mv rfl rfl ?_
    refine Ch.pu (by exact gdT rfl rfl) (by exact ⟨rfl, trivial⟩) (OpS.move) trivial rfl ?_
    refine Ch.pu (by exact gdT rfl rfl) (by exact ⟨rfl, trivial⟩) (OpS.move) trivial rfl ?_
    refine Ch.pu (by exact gdT rfl rfl) (by exact ⟨rfl, rfl, trivial⟩) (OpS.shl1 (by omega)) trivial rfl ?_
    refine Ch.pu (by exact gdT rfl rfl) (by exact ⟨rfl, rfl, trivial⟩) (OpS.int (v' := .bool true) rfl (by exact congrArg Value.bool (decide_eq_true (by omega)))) trivial rfl ?_
    refine Ch.pu gdN (by first | exact ⟨rfl, rfl, trivial⟩ | exact ⟨rfl, rfl, rfl, trivial⟩) (OpS.pickF) trivial rfl ?_
    refine Ch.nil ?_
    refine WP.cond_true rfl ?_
    refine WP.rs hG ?_
    refine Ch.asg rfl rfl ?_
    refine Ch.asg rfl rfl ?_
    refine Ch.nil ?_
    refine WP.ret ?_
    refine (Ret.of (rs := [6, 7]) (vs := [.v (.pointer none), .v (.int .i64 1)]) (H' := []) (res := .tup [.v (.pointer none), .v (.int .i64 1)]) [] ?_ ?_ rfl ?_ (by simp only [List.length_cons, List.length_nil]; decide) ?_).1
    · exact (fun i hi => by rw [hnA] at hi; simp only [List.length_cons, List.length_nil] at hi ⊢; first | exact absurd hi (Nat.not_lt_zero _) | (revert i; decide))
    · (repeat (first | exact trivial | (refine And.intro ⟨(by first | trivial | (simp; first | done | fail) | exact ⟨trivial, hbel _⟩), _, rfl, (by first | exact .rfl _ | exact .nil | exact .of_eq (by simp; first | done | fail) | exact AV.wk.sh (by simp; first | done | fail) | exact .untip _ _ _)⟩ ?_)))
    · (repeat (first | exact trivial | refine HFromL.skip ?_ | (refine And.intro ⟨(by first | trivial | (simp; first | done | fail) | exact ⟨trivial, hbel _⟩), (by first | rfl | (simp; first | done | fail))⟩ ?_)))
    · exact ⟨_, rfl, rfl, by simp [ls, TsOk, List.zip, List.zipWith]⟩
theorem sgNew_fc (hm : ShaIn G) (seed : Txt) (h n : Nat) (hv : seed.length ≤ 140737488355264) (hh : h ≤ 7) (hn : n ≤ 2 ^ h) : FC Tryd.prog G 10 [sA seed, .v (.int .i64 (h : Int)), .v (.int .i64 (n : Int))] [] (.tup [.ptr 0 0, .v (.int .i64 0)]) (sgH seed h n (leavesT seed h)) := by
  have h128 := pw7 hh
  have hll := leavesT_length seed h
  refine FC.of_wp [6, 7] Tryd.func10 rfl rfl rfl rfl (by first | trivial | (simp; first | done | fail) | exact ⟨trivial, hbel _⟩) (by first | trivial | (simp; first | done | fail) | exact ⟨trivial, hbel _⟩) (by exact Nat.le_of_ble_eq_true rfl) ?_
  intro A hG hnA hAB
  unfold start
  refine WP.rs hG ?_
  refine Ch.asg rfl rfl ?_
  refine Ch.asg rfl rfl ?_
  refine Ch.nil ?_
  refine WP.seq ?_
  refine WP.rs hG ?_
  refine Ch.mv rfl rfl ?_
  refine Ch.pu gdN (by exact ⟨rfl, rfl, trivial⟩) (OpS.int (v' := .bool false) rfl (by exact congrArg Value.bool (decide_eq_false (by omega)))) trivial rfl ?_
  refine Ch.mv rfl rfl ?_
  refine Ch.pu (by exact gdT rfl rfl) (by exact ⟨rfl, trivial⟩) (OpS.move) trivial rfl ?_
  refine Ch.pu (by exact gdT rfl rfl) (by exact ⟨rfl, rfl, trivial⟩) (OpS.int (v' := .bool false) rfl (by exact congrArg Value.bool (decide_eq_false (by omega)))) trivial rfl ?_
  refine Ch.pu gdN (by first | exact ⟨rfl, rfl, trivial⟩ | exact ⟨rfl, rfl, rfl, trivial⟩) (OpS.pickF) trivial rfl ?_
  refine Ch.mv rfl rfl ?_
  refine Ch.pu (by exact gdT rfl rfl) (by exact ⟨rfl, trivial⟩) (OpS.move) trivial rfl ?_
  refine Ch.pu (by exact gdT rfl rfl) (by exact ⟨rfl, rfl, trivial⟩) (OpS.int (v' := .bool false) rfl (by exact congrArg Value.bool (decide_eq_false (by omega)))) trivial rfl ?_
  refine Ch.pu gdN (by first | exact ⟨rfl, rfl, trivial⟩ | exact ⟨rfl, rfl, rfl, trivial⟩) (OpS.pickF) trivial rfl ?_
  refine Ch.mv rfl rfl ?_
  refine Ch.pu (by exact gdT rfl rfl) (by exact ⟨rfl, trivial⟩) (OpS.move) trivial rfl ?_
  refine Ch.pu (by exact gdT rfl rfl) (by exact ⟨rfl, trivial⟩) (OpS.move) trivial rfl ?_
  refine Ch.pu (by exact gdT rfl rfl) (by exact ⟨rfl, rfl, trivial⟩) (OpS.shl1 (by omega)) trivial rfl ?_
  refine Ch.pu (by exact gdT rfl rfl) (by exact ⟨rfl, rfl, trivial⟩) (OpS.int (v' := .bool false) rfl (by exact congrArg Value.bool (decide_eq_false (by omega)))) trivial rfl ?_
  refine Ch.pu gdN (by first | exact ⟨rfl, rfl, trivial⟩ | exact ⟨rfl, rfl, rfl, trivial⟩) (OpS.pickF) trivial rfl ?_
  refine Ch.nil ?_
  refine WP.cond_false rfl ?_
  refine WP.skip ?_
  refine WP.rs hG ?_
  refine Ch.mv rfl rfl ?_
  refine Ch.mv rfl rfl ?_
  refine Ch.mv rfl rfl ?_
  refine Ch.pup gdN (by repeat (first | exact EvP.nil | (apply EvP.cons; exact rfl))) (OpS.build (cs := [sA seed, .v (.int .i64 (h : Int)), .v (.slice none 0 0), .v (.int .i64 (n : Int))]) rfl rfl rfl rfl rfl (by rfl)) rfl ?_
  refine Ch.al gdN (by exact ⟨rfl, trivial⟩) (OpS.box 0 rfl) (by first | exact trivial | exact ⟨rfl, trivial⟩) (by first | exact trivial | exact ⟨rfl, trivial⟩ | exact ⟨rfl, rfl, trivial⟩) rfl ?_
  refine Ch.asg rfl rfl ?_
  refine Ch.nil ?_
  refine WP.seq ?_
  refine WP.from (SEnt.nilCell (id := 0) (off := 2) 1 9 1 rfl rfl rfl rfl) ?_
  refine WP.rs hG ?_
  refine Ch.mv rfl rfl ?_
  refine Ch.pu gdN (by exact ⟨rfl, rfl, trivial⟩) (OpS.shl1 (by omega)) trivial rfl ?_
  refine Ch.mv rfl rfl ?_
  refine Ch.nil ?_
  refine WP.block ?_
  refine WP.loop (fun k σ => ∃ m : Nat, m + k = 2 ^ h ∧ σ = ⟨50, ls [(0, sA seed), (8, .ptr 0 0), (32, .v (.int .i64 ((2 ^ h : Nat) : Int))), (33, .v (.int .i64 (m : Int)))], lh [(0, .cells 51 [sA seed, .v (.int .i64 (h : Int)), .sl (some 1) m ((leavesP seed m).map sA), .v (.int .i64 (n : Int))]), (1, .tip 9 1 m)], blt 2⟩) (2 ^ h) (Ent.of [0, 1] ?_ ?_ ?_ ?_).se ⟨0, by omega, rfl⟩ ?_
  · exact (fun i hi => by rw [hnA] at hi; simp only [List.length_cons, List.length_nil] at hi ⊢; first | exact absurd hi (Nat.not_lt_zero _) | (revert i; decide))
  · (repeat (first | exact trivial | (refine And.intro ⟨(by first | trivial | (simp; first | done | fail) | exact ⟨trivial, hbel _⟩), _, rfl, (by first | exact .rfl _ | exact .nil | exact .of_eq (by simp [leavesP]; first | done | fail) | exact AV.wk.sh (by simp [leavesP]; first | done | fail) | exact .untip _ _ _)⟩ ?_)))
  · (repeat (first | exact trivial | (refine And.intro ⟨rfl, (by first | trivial | (simp; first | done | fail) | exact ⟨trivial, hbel _⟩), (by first | rfl | (simp [leavesP]; first | done | fail))⟩ ?_)))
  · simp [rn]
  · rintro k σ ⟨m, hm', rfl⟩
    have hes := leavesP_succ seed m
    have hpl := leavesP_length seed m
    refine WP.rs hG ?_
    refine Ch.pu gdN (by exact ⟨rfl, rfl, trivial⟩) (OpS.int rfl (by first | exact wr64 (by omega) | exact rfl)) trivial rfl ?_
    refine Ch.nil ?_
    refine WP.seq ?_
    refine WP.cond rfl ?_ ?_
    · intro ht
      have ht' := of_decide_eq_true ht
      have hp := pub_fc hm seed (m : Int) hv
      refine WP.skip ?_
      refine WP.seq ?_
      refine WP.block ?_
      refine WP.rs hG ?_
      refine Ch.mv rfl rfl ?_
      refine Ch.asg rfl rfl ?_
      refine Ch.nil ?_
      refine WP.rgD (by kernel_rfl) hG ?_
      refine Ch.mv rfl rfl ?_
      refine Ch.mv rfl rfl ?_
      refine Ch.pu gdN (by exact ⟨rfl, trivial⟩) (OpS.nilCheckP) trivial rfl ?_
      refine Ch.pu gdN (by exact ⟨rfl, trivial⟩) (OpS.fieldAddr rfl rfl rfl rfl) trivial rfl ?_
      refine Ch.pu gdN (by exact ⟨rfl, trivial⟩) (OpS.loadP rfl rfl rfl) ⟨rfl, trivial⟩ rfl ?_
      refine Ch.mv rfl rfl ?_
      refine Ch.mv rfl rfl ?_
      refine Ch.callP (hp) gdN (by repeat (first | exact EvL.nil | (apply EvL.cons; exact rfl))) (by exact (And.intro (by first | exact .rfl _ | exact .untip _ _ _ | exact .nil | exact .func _ | exact AV.wk.sh (renL_s _ _) | exact AV.wk.sh (by simp; first | done | fail)) (And.intro (by first | exact .rfl _ | exact .untip _ _ _ | exact .nil | exact .func _ | exact AV.wk.sh (renL_s _ _) | exact AV.wk.sh (by simp; first | done | fail)) trivial))) (by rfl) rfl ?_
      refine Ch.pup gdN (by repeat (first | exact EvP.nil | (apply EvP.cons; exact rfl))) (OpS.slice1 (ys := ([pubT seed (m : Int)] : List Txt).map sA) rfl rfl rfl rfl rfl rfl (by rfl) rfl (by rfl)) rfl ?_
      refine Ch.al gdN (by exact ⟨rfl, rfl, trivial⟩) (OpS.append (sz := 1) (bb := 16) 2 rfl rfl rfl rfl rfl (by decide) (SrcA.sl rfl (by simp)) (by first | (simp; done) | (simp; assumption)) (by simp) (by unfold maxLen; omega) rfl (by omega)) (by first | exact trivial | exact ⟨rfl, trivial⟩) (by first | exact trivial | exact ⟨rfl, trivial⟩ | exact ⟨rfl, rfl, trivial⟩) rfl ?_
      refine Ch.pu gdN (by exact ⟨rfl, trivial⟩) (OpS.nilCheckP) trivial rfl ?_
      refine Ch.pu gdN (by exact ⟨rfl, trivial⟩) (OpS.fieldAddr rfl rfl rfl rfl) trivial rfl ?_
      refine Ch.wr gdN (by exact ⟨rfl, rfl, trivial⟩) (OpS.storeP (cs := [sA seed, .v (.int .i64 (h : Int)), .sl (some 1) m ((leavesP seed m).map sA), .v (.int .i64 (n : Int))]) rfl rfl rfl (by simp)) (by first | exact trivial | exact ⟨rfl, trivial⟩) (by first | exact trivial | exact ⟨rfl, trivial⟩ | exact ⟨rfl, rfl, trivial⟩) ?_
      refine Ch.nilD ?_ (by kernel_rfl)
      refine WP.rg hG ?_
      refine Ch.pu gdN (by exact ⟨rfl, rfl, trivial⟩) (OpS.int (op := .add) (v' := .int .i64 ((m + 1 : Nat) : Int)) rfl (by rw [wr64 (by omega)]; exact congrArg (Value.int .i64) (by omega))) trivial rfl ?_
      refine Ch.mv rfl rfl ?_
      refine Ch.nil ?_
      refine ⟨k - 1, _, by omega, (Ent.of [0, 2] ?_ ?_ ?_ ?_).se, m + 1, by omega, rfl⟩
      · exact (fun i hi => by rw [hnA] at hi; simp only [List.length_cons, List.length_nil] at hi ⊢; first | exact absurd hi (Nat.not_lt_zero _) | (revert i; decide))
      · (repeat (first | exact trivial | (refine And.intro ⟨(by first | trivial | (simp; first | done | fail) | exact ⟨trivial, hbel _⟩), _, rfl, (by first | exact .rfl _ | exact .nil | exact .of_eq (by simp [hes]; first | done | fail) | exact AV.wk.sh (by simp [hes]; first | done | fail) | exact .untip _ _ _)⟩ ?_)))
      · (repeat (first | exact trivial | (refine And.intro ⟨rfl, (by first | trivial | (simp; first | done | fail) | exact ⟨trivial, hbel _⟩), (by first | rfl | (simp [hes]; first | done | fail))⟩ ?_)))
      · simp [rn]
    · intro ht
      have ht' := of_decide_eq_false ht
      obtain rfl : m = 2 ^ h := by omega
      rw [leavesP_all, ← hll]
      refine WP.exit ?_
      refine WP.rs hG ?_
      refine Ch.mv rfl rfl ?_
      refine Ch.asg rfl rfl ?_
      refine Ch.asg rfl rfl ?_
      refine Ch.nil ?_
      refine WP.ret ?_
      refine (Ret.of (rs := [6, 7]) (vs := [.ptr 0 0, .v (.int .i64 0)]) (H' := sgH seed h n (leavesT seed h)) (res := .tup [.ptr 0 0, .v (.int .i64 0)]) [0, 1] ?_ ?_ rfl ?_ (by simp only [List.length_cons, List.length_nil]; decide) ?_).1
      · exact (fun i hi => by rw [hnA] at hi; simp only [List.length_cons, List.length_nil] at hi ⊢; first | exact absurd hi (Nat.not_lt_zero _) | (revert i; decide))
      · (repeat (first | exact trivial | (refine And.intro ⟨(by first | trivial | (simp; first | done | fail) | exact ⟨trivial, hbel _⟩), _, rfl, (by first | exact .rfl _ | exact .nil | exact .of_eq (by simp; first | done | fail) | exact AV.wk.sh (by simp; first | done | fail) | exact .untip _ _ _)⟩ ?_)))
      · (repeat (first | exact trivial | refine HFromL.skip ?_ | (refine And.intro ⟨(by first | trivial | (simp; first | done | fail) | exact ⟨trivial, hbel _⟩), (by first | rfl | (simp; first | done | fail))⟩ ?_)))
      · exact ⟨_, rfl, rfl, by simp [ls, TsOk, List.zip, List.zipWith]⟩
end
end Go.Proofs.YtcojfnjpcpochaaDoor.E
end
