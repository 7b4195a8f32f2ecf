/- The walks of Pad, Sum, Input and Tag. -/
import Derived.Test.YtmifllopcbjliaaDoorSha4
import Derived.Test.YtmifllopcbjliaaDoorBld
namespace Go.Proofs.YtmifllopcbjliaaDoor.V
open Go Go.RowKit
attribute [local go_sem] B_size B_append B_extract mk_B B_toList take_drop_len List.length_drop List.length_take sgn32 sgn64 add32 sub32 mul32 add64 sub64 mul64 mul64_8 and32 or32 xor32 and64 or64 xor64 shl32_run shr32_run shl64_run shr64_run not32 not32' xor32_all w_u32_u8 w_u64_u8 w_i64_u8 w_u8_u32 w_u8_u64 w_u32_u64 w_u64_u32 w_u8_u8 w_u32_u32 w_u64_u64
attribute [local go_sem ↓] run_index_B' add32 sub32 mul32 add64 sub64 mul64 mul64_8 and32 or32 xor32 and64 or64 xor64 shl32_run shr32_run shl64_run shr64_run not32 not32' xor32_all w_u32_u8 w_u64_u8 w_i64_u8 w_u8_u32 w_u8_u64 w_u32_u64 w_u64_u32 w_u8_u8 w_u32_u32 w_u64_u64 w_u64_nat w_u32_nat w_u8_nat

set_option maxHeartbeats 1000000 in
set_option maxRecDepth 100000 in
theorem pad_ok (n : Nat) (w : World) (hn : (n : Int) ≤ 9223372036854775807) :
    Calls Tryd.prog 38 #[.int .i64 n] w fun e w' => e = .returned (.string (B (pad n))) ∧ Fr [] w w' := by
  have hno : noughts n < 64 := Nat.mod_lt _ (by decide)
  have hno' : ((119 : Int) - (n : Int)) % 64 = ((noughts n : Nat) : Int) := by unfold noughts; omega
  have hno2 : ((119 : Int) - (n : Int) % 64) % 64 = ((noughts n : Nat) : Int) := by unfold noughts; omega
  have h0 : (0 : Int) ≤ (n : Int) := by omega
  have HN1 := Lib.hid hno'
  have HN2 := Lib.hid hno2
  clear hno' hno2
  have hown : obytes (w.alloc (.cells #[.int .u8 128] 5)) w.heap.size (.slice (some ⟨w.heap.size, 0, none⟩) 1 1) [128] :=
    World.ownsRow_lit w #[.int .u8 128] 1 (Nat.le_refl _) (by decide) rfl
  have HO := Lib.hid hown
  clear hown
  go_enter Tryd.func38, Tryd.ntmps38
  go_wp2_with (at_builtin; refine wpList_ap_zeros rfl _ _ rfl w.heap.size _ [128] rfl HO.out (noughts n) ?hx ?hb ?hbase ?_)
  case hx => first | exact congrArg (Value.int .i64) HN1.out | exact congrArg (Value.int .i64) HN2.out
  case hb => simp; omega
  case hbase => simp
  intro v1 w1 h1 hg1 ho1
  have hf1 : Fr [] w w1 := ((Fr.refl [] w).alloc _).grown hg1 (fun k hk => .inr (by simp [Value.ownBlock] at hk; omega))
  have H1 := Lib.hid h1
  have HF1 := Lib.hid hf1
  clear h1 hg1 ho1 hf1
  go_wp2_with fail
  refine (lay_ok _ w.heap.size _ _ _ H1.out ?hb2 ?hbase2).mono ?_
  case hb2 => simp; omega
  case hbase2 => exact HF1.out.size
  rintro e w2 ⟨v2, rfl, h2, hf2, _⟩
  have H2 := Lib.hid h2
  have HF2 : Hid (Fr [] w w2) := HF1.out.trans' hf2 (fun _ h => by cases h) (fun x hx => .inr (H1.out.lt x (by simpa using hx)).1)
  clear h2 hf2
  go_wp2_with fail
  refine (lay_ok _ w.heap.size _ _ _ H2.out ?hb3 ?hbase3).mono ?_
  case hb3 => simp [be4]; omega
  case hbase3 => exact HF2.out.size
  rintro e w3 ⟨v3, rfl, h3, hf3, _⟩
  have hcv := h3.text
  have HF3 : Hid (Fr [] w w3) := HF2.out.trans' hf3 (fun _ h => by cases h) (fun x hx => .inr (H2.out.lt x (by simpa using hx)).1)
  clear h3 hf3
  go_wp2
  go_ret
  exact ⟨rfl, HF3.out⟩

set_option maxHeartbeats 400000 in
theorem pad_neg (n : Int) (w : World) (hn : n < 0) :
    Calls Tryd.prog 38 #[.int .i64 n] w fun e w' => e = .returned (.string (B [])) ∧ w = w' := by
  go_enter Tryd.func38, Tryd.ntmps38
  go_wp2
  go_ret
  exact ⟨rfl, rfl⟩

set_option maxHeartbeats 1000000 in
set_option maxRecDepth 100000 in
theorem sum_ok (l : List UInt8) (w : World) (hT : Tabs w) (hl : (l.length : Int) ≤ 9223372036854775000) :
    Calls Tryd.prog 29 #[.string (B l)] w fun e w' => e = .returned (.string (B (sum l))) ∧ Fr [] w w' := by
  obtain ⟨T, hf⟩ := hT.first
  obtain ⟨c0, c1, c2, c3, c4, c5, c6, c7, fz⟩ := cells8 hf
  have HT := Lib.hid hT
  clear hf hT
  go_enter Tryd.func29, Tryd.ntmps29
  go_wp2_with fail
  refine (pad_ok l.length _ (by omega)).mono ?_
  rintro e w1 ⟨rfl, hf1⟩
  have hpl := pad_len l.length
  have hsum : ¬ (9223372036854775807 < l.length + (pad l.length).length) := by omega
  have HP := Lib.hid hpl
  have hF : Fr [] w w1 := ((Fr.refl [] w).alloc _).trans hf1
  have hg1 : w1.heap[w.heap.size]? = some (.cells first.cells 49 (0, 0)) := by
    rw [hf1.block w.heap.size (by simp) (by simp)]
    exact heap_alloc_new w _
  have HF := Lib.hid hF
  have HG := Lib.hid hg1
  clear hf1 hF hg1 hpl c0 c1 c2 c3 c4 c5 c6 c7 fz
  go_wp2_with fail
  go_loopg [0] ((l ++ pad l.length).length / 64) (fun k x wr => ∃ m v, m.length = 64 * k ∧ x = .string (B m) ∧ Hid (eat k v m = sumSt l) ∧ Hid (wr.heap[w.heap.size]? = some (.cells v.cells 49 (0, 0))) ∧ Hid (Fr [] w wr))
  case atStart =>
    refine ⟨l ++ pad l.length, first, ?_, rfl, (show _ = _ from rfl), (show _ from HG.out), (show _ from HF.out)⟩
    have := HP.out
    rw [List.length_append]
    omega
  case round =>
    obtain ⟨m, v, hm, rfl, H1, H2, H3⟩ := hrel
    by_cases hk : gk = 0
    · subst hk
      obtain rfl : m = [] := List.eq_nil_of_length_eq_zero (by omega)
      clear hm
      obtain ⟨c0, c1, c2, c3, c4, c5, c6, c7, fz⟩ := cells8 H2.out
      go_wp2_with fail
      refine (stateString_ok v _).mono ?_
      rintro e w2 ⟨rfl, hf2⟩
      have HF2 := Lib.hid hf2
      clear hf2
      go_wp2
      go_ret
      refine ⟨?_, H3.out.trans HF2.out⟩
      have := H1.out
      simp only [eat] at this
      rw [sum, ← this]
      rfl
    · have hne : (m == []) = false := by
        cases m with
        | nil => simp at hm; omega
        | cons => rfl
      have hml : (64 : Int) ≤ (m.length : Int) := by omega
      have HM := Lib.hid hm
      clear hm
      go_wp2_with fail
      refine (mix_ok w.heap.size v (m.take 64) 49 _ H2.out ?hT ?hl).mono ?_
      case hT => exact HT.out.fr H3.out (by simp) (by simp)
      case hl => rw [List.length_take]; omega
      rintro e w2 ⟨rfl, hf2, hg2⟩
      have HF2 := Lib.hid hf2
      have HG2 := Lib.hid hg2
      clear hf2 hg2
      go_wp2
      go_roundg (gk - 1)
      case rel =>
        have hm := HM.out
        refine ⟨m.drop 64, mixed v (m.take 64), by rw [List.length_drop]; omega, rfl, (show _ = _ from ?_), (show _ from HG2.out), (show Fr [] w w2 from H3.out.trans' HF2.out (fun _ h => by cases h) (fun x hx => .inr (by simp at hx; subst hx; exact Nat.le_refl _)))⟩
        have := H1.out
        obtain ⟨j, rfl⟩ : ∃ j, gk = j + 1 := ⟨gk - 1, by omega⟩
        exact this
      case measure => omega

end Go.Proofs.YtmifllopcbjliaaDoor.V
