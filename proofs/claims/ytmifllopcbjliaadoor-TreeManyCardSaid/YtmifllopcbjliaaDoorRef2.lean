/- The walks of the document's own answer for layer 1: First, Pad. -/
import Derived.Test.YtmifllopcbjliaaDoorRef1
import Derived.Test.YtmifllopcbjliaaDoorShaL
namespace Go.Proofs.YtmifllopcbjliaaDoor.V
open Go Go.RowKit
attribute [local go_sem] B_size B_append B_extract mk_B B_toList take_drop_len List.length_drop List.length_take sgn32 sgn64 add32 sub32 mul32 add64 sub64 mul64 mul64_8 and32 or32 xor32 and64 or64 xor64 shl32_run shr32_run shl64_run shr64_run not32 not32' xor32_all w_u32_u8 w_u64_u8 w_i64_u8 w_u8_u32 w_u8_u64 w_u32_u64 w_u64_u32 w_u8_u8 w_u32_u32 w_u64_u64
attribute [local go_sem ↓] run_index_B' add32 sub32 mul32 add64 sub64 mul64 mul64_8 and32 or32 xor32 and64 or64 xor64 shl32_run shr32_run shl64_run shr64_run not32 not32' xor32_all w_u32_u8 w_u64_u8 w_i64_u8 w_u8_u32 w_u8_u64 w_u32_u64 w_u64_u32 w_u8_u8 w_u32_u32 w_u64_u64 w_u64_nat w_u32_nat w_u8_nat

/-- the document's first state, as it lies in memory -/
def RF (w : World) : Prop := ∃ T, w.heap[2]? = some (.cells first.cells T (0, 0))
theorem RF.fr {S : List Nat} {w w' : World} (h : RF w) (hf : Fr S w w') (h2 : 2 ∉ S) : RF w' := by
  obtain ⟨T, h⟩ := h
  exact ⟨T, by rw [hf.block _ (Array.getElem?_eq_some_iff.1 h).1 h2]; exact h⟩

set_option maxHeartbeats 1000000 in
set_option maxRecDepth 100000 in
theorem rfirst_ok (w : World) (h : RF w) :
    Calls Tryd.prog 57 #[] w fun e w' => e = .returned (.string (B first.text)) ∧ Fr [] w w' := by
  obtain ⟨T, hf⟩ := h
  have hR : RWords w 0 (.slice (some ⟨2, 0, none⟩) 8 8) first.words :=
    ⟨_, 8, rfl, fun i hi => ⟨_, 0, rfl, Nat.zero_le _, (Array.getElem?_eq_some_iff.1 hf).1, by rw [Nat.zero_add]; exact cell_at hf (cells_get first i hi)⟩⟩
  have HR := Lib.hid hR
  clear hf hR
  go_enter Tryd.func57, Tryd.ntmps57
  go_wp2_with fail
  refine (text_ok 0 _ first.words _ (by decide) HR.out).mono ?_
  rintro e w1 ⟨rfl, hf1⟩
  have HF1 := Lib.hid hf1
  clear hf1
  go_wp2
  go_ret
  exact ⟨rfl, HF1.out⟩

theorem slice2 {w : World} {base : Nat} {v : Value} {l : List UInt8} (h : obytes w base v l) : ∃ g L cap, v = .slice g L cap ∧ L = l.length := by
  obtain ⟨g, cap, hv⟩ := h.slice
  exact ⟨g, _, cap, hv, rfl⟩
/-- a number's eight bytes, the highest first -/
def be8 (b : UInt64) (n : Nat) : List UInt8 := (List.range n).map fun j => (shr64 b (8 * (7 - j))).toUInt8
theorem be8_succ (b : UInt64) (n : Nat) : be8 b (n + 1) = be8 b n ++ [(shr64 b (8 * (7 - n))).toUInt8] := by simp [be8, List.range_succ]
theorem be8_all (n : Nat) : be8 (8 * UInt64.ofNat n) 8 = be4 (UInt64.toUInt32 (shr64 (8 * UInt64.ofNat n) 32)) ++ be4 (8 * UInt32.ofNat n) := by
  have h : be8 (8 * UInt64.ofNat n) 8 = [(shr64 (8 * UInt64.ofNat n) 56).toUInt8, (shr64 (8 * UInt64.ofNat n) 48).toUInt8, (shr64 (8 * UInt64.ofNat n) 40).toUInt8, (shr64 (8 * UInt64.ofNat n) 32).toUInt8, (shr64 (8 * UInt64.ofNat n) 24).toUInt8, (shr64 (8 * UInt64.ofNat n) 16).toUInt8, (shr64 (8 * UInt64.ofNat n) 8).toUInt8, (shr64 (8 * UInt64.ofNat n) 0).toUInt8] := rfl
  rw [h]
  simp only [be4, List.cons_append, List.nil_append, List.cons.injEq, and_true]
  refine ⟨?_, ?_, ?_, ?_, ?_, ?_, ?_, ?_⟩ <;> (apply UInt8.toNat_inj.1; simp [shr32, shr64] <;> omega)

end Go.Proofs.YtmifllopcbjliaaDoor.V
