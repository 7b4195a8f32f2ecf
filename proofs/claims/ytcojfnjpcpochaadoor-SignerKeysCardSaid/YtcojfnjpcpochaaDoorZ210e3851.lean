import Derived.Test.YtcojfnjpcpochaaDoorZ1b1896c3
import Derived.Test.YtcojfnjpcpochaaDoorZ2f6a436b
import Derived.Test.YtcojfnjpcpochaaDoorZ23959e49
section
namespace Go.Proofs.YtcojfnjpcpochaaDoor.E
open Go Go.RowKit Go.Proofs.YtcojfnjpcpochaaDoor.V
attribute [local go_sem] B_size B_append B_extract mk_B B_toList take_drop_len List.length_drop List.length_take sgn32 sgn64 add32 sub32 mul32 add64 sub64 mul64 mul64_8 and32 or32 xor32 and64 or64 xor64 shl32_run shr32_run shl64_run shr64_run not32 not32' xor32_all w_u32_u8 w_u64_u8 w_i64_u8 w_u8_u32 w_u8_u64 w_u32_u64 w_u64_u32 w_u8_u8 w_u32_u32 w_u64_u64
attribute [local go_sem ↓] run_index_B' add32 sub32 mul32 add64 sub64 mul64 mul64_8 and32 or32 xor32 and64 or64 xor64 shl32_run shr32_run shl64_run shr64_run not32 not32' xor32_all w_u32_u8 w_u64_u8 w_i64_u8 w_u8_u32 w_u8_u64 w_u32_u64 w_u64_u32 w_u8_u8 w_u32_u32 w_u64_u64 w_u64_nat w_u32_nat w_u8_nat
set_option maxRecDepth 4000


end Go.Proofs.YtcojfnjpcpochaaDoor.E
end
section
namespace Go.Proofs.YtcojfnjpcpochaaDoor.V
open Go Go.RowKit
attribute [local go_sem] B_size B_append B_extract mk_B B_toList take_drop_len List.length_drop List.length_take sgn32 sgn64 add32 sub32 mul32 add64 sub64 mul64 mul64_8 and32 or32 xor32 and64 or64 xor64 shl32_run shr32_run shl64_run shr64_run not32 not32' xor32_all w_u32_u8 w_u64_u8 w_i64_u8 w_u8_u32 w_u8_u64 w_u32_u64 w_u64_u32 w_u8_u8 w_u32_u32 w_u64_u64
attribute [local go_sem ↓] run_index_B' add32 sub32 mul32 add64 sub64 mul64 mul64_8 and32 or32 xor32 and64 or64 xor64 shl32_run shr32_run shl64_run shr64_run not32 not32' xor32_all w_u32_u8 w_u64_u8 w_i64_u8 w_u8_u32 w_u8_u64 w_u32_u64 w_u64_u32 w_u8_u8 w_u32_u32 w_u64_u64 w_u64_nat w_u32_nat w_u8_nat
set_option maxRecDepth 4000

def RF (w : World) : Prop := ∃ T, w.heap[2]? = some (.cells first.cells T (0, 0))
theorem RF.fr {S : List Nat} {w w' : World} (h : RF w) (hf : Fr S w w') (h2 : 2 ∉ S) : RF w' := by
  obtain ⟨T, h⟩ := h
  exact ⟨T, by rw [hf.block _ (Array.getElem?_eq_some_iff.1 h).1 h2]; exact h⟩

def be8 (b : UInt64) (n : Nat) : List UInt8 := (List.range n).map fun j => (shr64 b (8 * (7 - j))).toUInt8
end Go.Proofs.YtcojfnjpcpochaaDoor.V
end
section
namespace Go.Proofs.YtcojfnjpcpochaaDoor.E
open Go Go.RowKit Go.Proofs.YtcojfnjpcpochaaDoor.V
attribute [local go_sem] B_size B_append B_extract mk_B B_toList take_drop_len List.length_drop List.length_take sgn32 sgn64 add32 sub32 mul32 add64 sub64 mul64 mul64_8 and32 or32 xor32 and64 or64 xor64 shl32_run shr32_run shl64_run shr64_run not32 not32' xor32_all w_u32_u8 w_u64_u8 w_i64_u8 w_u8_u32 w_u8_u64 w_u32_u64 w_u64_u32 w_u8_u8 w_u32_u32 w_u64_u64
attribute [local go_sem ↓] run_index_B' add32 sub32 mul32 add64 sub64 mul64 mul64_8 and32 or32 xor32 and64 or64 xor64 shl32_run shr32_run shl64_run shr64_run not32 not32' xor32_all w_u32_u8 w_u64_u8 w_i64_u8 w_u8_u32 w_u8_u64 w_u32_u64 w_u64_u32 w_u8_u8 w_u32_u32 w_u64_u64 w_u64_nat w_u32_nat w_u8_nat
set_option maxRecDepth 4000

def kArr : Array Value := (kTab.map fun x => .int .u32 (U32 x)).toArray
end Go.Proofs.YtcojfnjpcpochaaDoor.E
end
section
namespace Go.Proofs.YtcojfnjpcpochaaDoor.E
open Go Go.RowKit Go.Proofs.YtcojfnjpcpochaaDoor.V
attribute [local go_sem] B_size B_append B_extract mk_B B_toList take_drop_len List.length_drop List.length_take sgn32 sgn64 add32 sub32 mul32 add64 sub64 mul64 mul64_8 and32 or32 xor32 and64 or64 xor64 shl32_run shr32_run shl64_run shr64_run not32 not32' xor32_all w_u32_u8 w_u64_u8 w_i64_u8 w_u8_u32 w_u8_u64 w_u32_u64 w_u64_u32 w_u8_u8 w_u32_u32 w_u64_u64
attribute [local go_sem ↓] run_index_B' add32 sub32 mul32 add64 sub64 mul64 mul64_8 and32 or32 xor32 and64 or64 xor64 shl32_run shr32_run shl64_run shr64_run not32 not32' xor32_all w_u32_u8 w_u64_u8 w_i64_u8 w_u8_u32 w_u8_u64 w_u32_u64 w_u64_u32 w_u8_u8 w_u32_u32 w_u64_u64 w_u64_nat w_u32_nat w_u8_nat
set_option maxRecDepth 4000

def padZ (j : Nat) : List UInt8 := 128 :: List.replicate j 0
def padB (n i : Nat) : List UInt8 := padZ (noughts n) ++ be8 (8 * UInt64.ofNat n) i
end Go.Proofs.YtcojfnjpcpochaaDoor.E
end
section
namespace Go.Proofs.YtcojfnjpcpochaaDoor.E
open Go Go.RowKit Go.Proofs.YtcojfnjpcpochaaDoor.V
attribute [local go_sem] B_size B_append B_extract mk_B B_toList take_drop_len List.length_drop List.length_take sgn32 sgn64 add32 sub32 mul32 add64 sub64 mul64 mul64_8 and32 or32 xor32 and64 or64 xor64 shl32_run shr32_run shl64_run shr64_run not32 not32' xor32_all w_u32_u8 w_u64_u8 w_i64_u8 w_u8_u32 w_u8_u64 w_u32_u64 w_u64_u32 w_u8_u8 w_u32_u32 w_u64_u64
attribute [local go_sem ↓] run_index_B' add32 sub32 mul32 add64 sub64 mul64 mul64_8 and32 or32 xor32 and64 or64 xor64 shl32_run shr32_run shl64_run shr64_run not32 not32' xor32_all w_u32_u8 w_u64_u8 w_i64_u8 w_u8_u32 w_u8_u64 w_u32_u64 w_u64_u32 w_u8_u8 w_u32_u32 w_u64_u64 w_u64_nat w_u32_nat w_u8_nat
set_option maxRecDepth 4000

attribute [local irreducible] sched rounds wordsOf partAdd mixed readSt el lget kTab ror shr32 shl32
end Go.Proofs.YtcojfnjpcpochaaDoor.E
end
section
namespace Go.Proofs.YtcojfnjpcpochaaDoor.V
open Go Go.RowKit
attribute [local go_sem] B_size B_append B_extract mk_B B_toList take_drop_len List.length_drop List.length_take sgn32 sgn64 add32 sub32 mul32 add64 sub64 mul64 mul64_8 and32 or32 xor32 and64 or64 xor64 shl32_run shr32_run shl64_run shr64_run not32 not32' xor32_all w_u32_u8 w_u64_u8 w_i64_u8 w_u8_u32 w_u8_u64 w_u32_u64 w_u64_u32 w_u8_u8 w_u32_u32 w_u64_u64
attribute [local go_sem ↓] run_index_B' add32 sub32 mul32 add64 sub64 mul64 mul64_8 and32 or32 xor32 and64 or64 xor64 shl32_run shr32_run shl64_run shr64_run not32 not32' xor32_all w_u32_u8 w_u64_u8 w_i64_u8 w_u8_u32 w_u8_u64 w_u32_u64 w_u64_u32 w_u8_u8 w_u32_u32 w_u64_u64 w_u64_nat w_u32_nat w_u8_nat
set_option maxRecDepth 4000

theorem be4_len (x : UInt32) : (be4 x).length = 4 := rfl
theorem input_take (d : UInt8) (ps : List (List UInt8)) (n : Nat) (h : n < ps.length) :
    input d (ps.take (n + 1)) = input d (ps.take n) ++ be4 (UInt32.ofNat (sget ps n).length) ++ sget ps n := by
  rw [List.take_succ_eq_append_getElem h]
  simp only [input, List.flatMap_append, List.flatMap_cons, List.flatMap_nil, List.append_nil, List.cons_append, List.append_assoc, sget, List.getElem?_eq_getElem h, Option.getD_some]
theorem input_many (d : UInt8) (ps : List (List UInt8)) : ps.length < (input d ps).length := by
  induction ps with
  | nil => simp [input]
  | cons p ps ih =>
    simp only [input, List.flatMap_cons, List.length_cons, List.length_append, be4_len] at ih ⊢
    omega
theorem input_le (d : UInt8) (ps : List (List UInt8)) (n : Nat) : (input d (ps.take n)).length ≤ (input d ps).length := by
  have h : input d ps = input d (ps.take n) ++ (ps.drop n).flatMap fun p => be4 (UInt32.ofNat p.length) ++ p := by
    simp only [input, List.cons_append]
    rw [← List.flatMap_append, List.take_append_drop]
  rw [h, List.length_append]
  omega

set_option maxHeartbeats 1000000 in
set_option maxRecDepth 100000 in
theorem input_ok (d : UInt8) (v : Value) (ps : List (List UInt8)) (w : World) (hS : Strs w v ps) (hL : (input d ps).length ≤ 140737488355328) :
    Calls Tryd.prog 83 #[.int .u8 (U8 d), v] w fun e w' => e = .returned (.string (B (input d ps))) ∧ Fr [] w w' := by
  obtain ⟨a, cap, rfl, hcap, hmx, hc⟩ := hS
  have hpl : (ps.length : Int) ≤ 140737488355328 := by have := input_many d ps; omega
  have hp0 : (0 : Int) ≤ (ps.length : Int) := by omega
  have HC := Lib.hid hc
  have HL := Lib.hid hL
  clear hc hL hcap hmx
  go_enter Tryd.func83, Tryd.ntmps83
  go_wp2_with fail
  refine (writeByte_ok (w.heap.size + 1) w.heap.size (.slice none 0 0) [] d _ (Bld.fresh w _) (by simp) (by simp)).mono ?_
  rintro e w1 ⟨rfl, v1, hb1, hf1, ho1⟩
  have hF1 : Fr [] w w1 := ((Fr.refl [] w).alloc _).trans' hf1 (fun _ h => .inl h) (fun x hx => .inr (by simp [Value.ownBlock] at hx; omega))
  have HB1 := Lib.hid hb1
  have HF1 := Lib.hid hF1
  clear hb1 hf1 ho1 hF1
  go_wp2_with fail
  go_loopg [12] ps.length (fun k i wr => ∃ (n : Nat) (vb : Value), i = .int .i64 (n : Int) ∧ Hid (n + k = ps.length) ∧ Hid (Bld wr (w.heap.size + 1) w.heap.size vb (input d (ps.take n))) ∧ Hid (Fr [] w wr))
  case atStart => exact ⟨0, v1, rfl, (show _ = _ from by omega), HB1, HF1⟩
  case round =>
    obtain ⟨n, vb, rfl, HN, H1, H2⟩ := hrel
    have h0n : (0 : Int) ≤ (n : Int) := by omega
    by_cases hk : gk = 0
    · subst hk
      have e1 : (ps.length : Int) ≤ (n : Int) := by have := HN.out; omega
      have e2 : ps.take n = ps := List.take_of_length_le (by omega)
      have E2 := Lib.hid e2
      clear e2
      go_wp2_with fail
      refine (builderString_ok _ _ vb _ _ H1.out (by simp [input])).mono ?_
      rintro e w2 ⟨rfl, hf2⟩
      have HF2 : Hid (Fr [] w w2) := H2.out.trans' hf2 (fun _ h => .inl h) (fun x hx => .inr (by have := (H1.out.own.lt x (by simpa using hx)).1; omega))
      clear hf2
      go_wp2
      go_ret
      exact ⟨by rw [E2.out]; rfl, HF2.out⟩
    · have e1 : (n : Int) < (ps.length : Int) := by have := HN.out; omega
      obtain ⟨b, off, rfl, hb, hx⟩ := HC.out n (by omega)
      have hx' : wr.cell? ⟨b, off + n, none⟩ = some (.string (B (sget ps n))) := by rw [H2.out.cell hb (by simp)]; exact hx
      have hlen : (input d (ps.take n)).length + 4 + (sget ps n).length ≤ 140737488355328 := by
        have h1 := input_le d ps (n + 1)
        rw [input_take d ps n (by omega)] at h1
        simp only [List.length_append, be4_len] at h1
        have := HL.out
        omega
      have ew : IntKind.i64.wrap ((n : Int) + 1) = (n : Int) + 1 := by rw [IntKind.wrap_i64]; omega
      clear hx hb
      have hpn : ((sget ps n).length : Int) ≤ 140737488355328 := by omega
      have HLEN := Lib.hid hlen
      clear hlen
      go_wp2_with fail
      refine (lay_ok (UInt32.ofNat (sget ps n).length) wr.heap.size (.slice none 0 0) [] _ (obytes_nil _ _) (by simp) ?hbase).mono ?_
      case hbase => simp
      rintro e w2 ⟨v2, rfl, h2, hf2, ho2⟩
      have hF2 : Fr [] wr w2 := hf2.mono (fun x hx => by simp [Value.ownBlock] at hx)
      obtain ⟨g2, cap2, rfl⟩ := h2.slice
      have hge : ∀ k, (Value.slice g2 (([] : List UInt8) ++ be4 (UInt32.ofNat (sget ps n).length)).length cap2).ownBlock = some k → wr.heap.size ≤ k := fun k hk => (h2.lt k hk).1
      have H1' : Hid (Bld w2 (w.heap.size + 1) w.heap.size vb (input d (ps.take n))) := H1.out.kept hF2 (by simp) (by simp)
      have H2' : Hid (Fr [] w w2) := H2.out.trans hF2
      have HB2 := Lib.hid h2
      have HGE := Lib.hid hge
      clear h2 hf2 ho2 hF2 hge
      go_wp2_with fail
      refine (write_ok (w.heap.size + 1) w.heap.size vb _ (be4 (UInt32.ofNat (sget ps n).length)) _ _ wr.heap.size _ H1'.out ?hb ?hbase HB2.out ?hne).mono ?_
      case hb => rw [be4_len]; have := HLEN.out; omega
      case hbase => exact H1'.out.lt
      case hne =>
        intro hk
        have h1 := HGE.out _ hk
        have h2 := H1.out.lt
        omega
      rintro e w3 ⟨rfl, v3, h3, hf3, ho3⟩
      have H3 := Lib.hid h3
      have HF3 : Hid (Fr [] w w3) := H2'.out.trans' hf3 (fun _ h => .inl h) (fun x hx => .inr (by
        rcases List.mem_cons.1 hx with rfl | hx
        · exact Nat.le_refl _
        · have := (H1'.out.own.lt x (by simpa using hx)).1; omega))
      clear h3 hf3 ho3
      go_wp2_with fail
      refine (writeString_ok (w.heap.size + 1) w.heap.size v3 _ (sget ps n) _ H3.out ?hb ?hbase).mono ?_
      case hb => rw [List.length_append, be4_len]; have := HLEN.out; omega
      case hbase => exact H3.out.lt
      rintro e w4 ⟨rfl, v4, h4, hf4, ho4⟩
      have H4 := Lib.hid h4
      have HF4 : Hid (Fr [] w w4) := HF3.out.trans' hf4 (fun _ h => .inl h) (fun x hx => .inr (by
        rcases List.mem_cons.1 hx with rfl | hx
        · exact Nat.le_refl _
        · have := (H3.out.own.lt x (by simpa using hx)).1; omega))
      clear h4 hf4 ho4
      go_wp2
      go_roundg (gk - 1)
      case rel =>
        refine ⟨n + 1, v4, rfl, (show _ = _ from by have := HN.out; omega), (show Bld _ _ _ _ _ from ?_), HF4⟩
        rw [input_take d ps n (by have := HN.out; omega)]
        exact H4.out
      case measure => omega

set_option maxHeartbeats 1000000 in
set_option maxRecDepth 100000 in
theorem tag_ok (d : UInt8) (v : Value) (ps : List (List UInt8)) (w : World) (hT : Tabs w) (hS : Strs w v ps) (hL : (input d ps).length ≤ 140737488355328) :
    Calls Tryd.prog 67 #[.int .u8 (U8 d), v] w fun e w' => e = .returned (.string (B (tag d ps))) ∧ Fr [] w w' := by
  have HT := Lib.hid hT
  have hL' := hL
  have HS := Lib.hid hS
  obtain ⟨a, cap, rfl, _⟩ := hS
  have HL := Lib.hid hL
  clear hL hL' hT
  go_enter Tryd.func67, Tryd.ntmps67
  go_wp2_with fail
  refine (input_ok d _ ps _ HS.out HL.out).mono ?_
  rintro e w1 ⟨rfl, hf1⟩
  have HF1 := Lib.hid hf1
  clear hf1
  go_wp2_with fail
  refine (sum_ok _ _ (HT.out.fr HF1.out (by simp) (by simp)) (by have := HL.out; omega)).mono ?_
  rintro e w2 ⟨rfl, hf2⟩
  have HF2 := Lib.hid hf2
  clear hf2
  go_wp2
  go_ret
  exact ⟨rfl, HF1.out.trans HF2.out⟩
end Go.Proofs.YtcojfnjpcpochaaDoor.V
end
