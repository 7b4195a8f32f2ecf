/- The walk of ShaApart. -/
import Derived.Test.YtkhhhdjpkhnmkaaDoorLaw3
namespace Go.Proofs.YtkhhhdjpkhnmkaaDoor.V
open Go Go.RowKit
attribute [local go_sem] B_size B_append B_extract mk_B B_toList take_drop_len List.length_drop List.length_take sgn32 sgn64 add32 sub32 mul32 add64 sub64 mul64 mul64_8 and32 or32 xor32 and64 or64 xor64 shl32_run shr32_run shl64_run shr64_run not32 not32' xor32_all w_u32_u8 w_u64_u8 w_i64_u8 w_u8_u32 w_u8_u64 w_u32_u64 w_u64_u32 w_u8_u8 w_u32_u32 w_u64_u64
attribute [local go_sem ↓] run_index_B' add32 sub32 mul32 add64 sub64 mul64 mul64_8 and32 or32 xor32 and64 or64 xor64 shl32_run shr32_run shl64_run shr64_run not32 not32' xor32_all w_u32_u8 w_u64_u8 w_i64_u8 w_u8_u32 w_u8_u64 w_u32_u64 w_u64_u32 w_u8_u8 w_u32_u32 w_u64_u64 w_u64_nat w_u32_nat w_u8_nat

set_option maxHeartbeats 1000000 in
set_option maxRecDepth 100000 in
theorem shaApart_ok (d : UInt8) (v1 : Value) (ps : List (List UInt8)) (f : UInt8) (v2 : Value) (qs : List (List UInt8)) (w : World) (hT : Tabs w) (h1 : Strs w v1 ps) (h2 : Strs w v2 qs) (b1 : bulkL ps ≤ 1048576) (b2 : bulkL qs ≤ 1048576) :
    Calls Tryd.prog 9 #[.int .u8 (U8 d), v1, .int .u8 (U8 f), v2] w fun e w' => e = .returned (.bool true) ∧ Fr [] w w' := by
  have HT := Lib.hid hT
  have HP := Lib.hid h1
  have HQ := Lib.hid h2
  have hA1 : bulkL (cutL ps) ≤ 1048576 := Nat.le_trans (bulkL_cut ps) b1
  have hB1 : bulkL (cutL qs) ≤ 1048576 := Nat.le_trans (bulkL_cut qs) b2
  have hcA := cutL_small ps
  have hcD := cutL_small qs
  obtain ⟨g1, c1, rfl, -⟩ := h1
  obtain ⟨g2, c2, rfl, -⟩ := h2
  have HB1 := Lib.hid b1
  have HB2 := Lib.hid b2
  clear hT b1 b2
  go_enter Tryd.func9, Tryd.ntmps9
  go_wp2_with fail
  refine (awake_ok _ HT.out).mono ?_
  rintro e w1 ⟨rfl, hf1⟩
  have HF1 := Lib.hid hf1
  clear hf1
  go_wp2_with fail
  refine (cut_ok _ ps _ (HP.out.kept HF1.out) (by have := bulkL_length ps; have := HB1.out; omega) (fun i => by have := bulkL_get ps i; have := HB1.out; omega)).mono ?_
  rintro e w2 ⟨va, rfl, ha, hf2⟩
  have HF2 : Hid (Fr [] w w2) := HF1.out.trans hf2
  have HA : Hid (Strs w2 va (cutL ps)) := ha.strs
  obtain ⟨ga, ca, rfl, -⟩ := ha.strs
  clear hf2 ha
  go_wp2_with fail
  refine (cut_ok _ qs _ (HQ.out.kept HF2.out) (by have := bulkL_length qs; have := HB2.out; omega) (fun i => by have := bulkL_get qs i; have := HB2.out; omega)).mono ?_
  rintro e w3 ⟨vb, rfl, hb, hf3⟩
  have HF3 : Hid (Fr [] w w3) := HF2.out.trans hf3
  have HA3 : Hid (Strs w3 _ (cutL ps)) := HA.out.kept hf3
  have HD3 : Hid (Strs w3 vb (cutL qs)) := hb.strs
  obtain ⟨gb, cb, rfl, -⟩ := hb.strs
  clear hf3 hb HA HP HQ HB1 HB2 HF1 HF2
  generalize cutL ps = A at *
  generalize cutL qs = D at *
  have hAi := input_bulk d A
  have hDi := input_bulk f D
  have hAl := bulkL_length A
  have hDl := bulkL_length D
  have hAL : (A.length : Int) ≤ 1048576 := by omega
  obtain ⟨s0, hs0, HS0⟩ : ∃ s0 : Bool, (if (U8 d == U8 f) = true then ((A.length : Int) == (D.length : Int)) else false) = s0 ∧ Hid (s0 = true ↔ d = f ∧ A.length = D.length ∧ A.take 0 = D.take 0) := by
    refine ⟨_, rfl, ?_⟩
    show (_ ↔ _)
    by_cases e1 : d = f
    · subst e1
      simp
      omega
    · have : U8 d ≠ U8 f := fun h => e1 (u8_inj.1 h)
      simp [this, e1]
  have hIL : (input d A).length ≤ 140737488355328 := by omega
  have hJL : (input f D).length ≤ 140737488355328 := by omega
  have HI := Lib.hid hIL
  have HJ := Lib.hid hJL
  have HIN : Hid ((input d A = input f D) ↔ d = f ∧ A = D) := input_inj hcA hcD
  have HSZ := Lib.hid hAL
  obtain ⟨ga', ca', hv, -, -, hcell⟩ := HA3.out
  obtain ⟨rfl, -, rfl⟩ : ga = ga' ∧ A.length = A.length ∧ ca = ca' := by injection hv with e1 e2 e3; exact ⟨e1, e2, e3⟩
  obtain ⟨gb', cb', hv', -, -, hcell'⟩ := HD3.out
  obtain ⟨rfl, -, rfl⟩ : gb = gb' ∧ D.length = D.length ∧ cb = cb' := by injection hv' with e1 e2 e3; exact ⟨e1, e2, e3⟩
  have HC := Lib.hid hcell
  have HC' := Lib.hid hcell'
  clear hAi hDi hAl hDl hA1 hB1 hcA hcD hIL hJL hv hv' hcell hcell'
  have hpick : ∀ b : Bool, (U8 d == U8 f) = b → ((U8 d == U8 f) = true → ((A.length : Int) == (D.length : Int)) = s0) ∧ ((U8 d == U8 f) = false → s0 = false) := by
    intro b _
    constructor
    · intro h; rw [if_pos h] at hs0; exact hs0
    · intro h; rw [h] at hs0; exact hs0.symm
  have q3 : (tag d A == sum (input d A)) = true := by simp [tag]
  by_cases hdf : (U8 d == U8 f) = true
  · have hlen := (hpick _ rfl).1 hdf
    clear hpick hs0
    go_wp2_with fail
    go_loopg [12, 13] A.length (fun k sv i wr => ∃ (n : Nat) (sb : Bool), i = .int .i64 (n : Int) ∧ sv = .bool sb ∧ Hid (n + k = A.length ∧ (sb = true ↔ d = f ∧ A.length = D.length ∧ A.take n = D.take n)) ∧ Hid (Fr [] w3 wr))
    case atStart => exact ⟨0, _, rfl, rfl, ⟨by omega, HS0.out⟩, (show _ from Fr.refl _ _)⟩
    case round =>
      obtain ⟨n, sb, rfl, rfl, HN, H1⟩ := hrel
      have h0n : (0 : Int) ≤ (n : Int) := by omega
      have hnl : (n : Int) ≤ (A.length : Int) := by have := HN.out.1; omega
      by_cases hk : gk = 0 ∨ sb = false
      · have hfin : sb = true ↔ (d = f ∧ A = D) := by
          rw [HN.out.2]
          constructor
          · rintro ⟨h1, h2, h3⟩
            rcases hk with hk | hk
            · have h4 := HN.out.1
              rw [List.take_of_length_le (by omega), List.take_of_length_le (by omega)] at h3
              exact ⟨h1, h3⟩
            · have h5 := HN.out.2.2 ⟨h1, h2, h3⟩
              rw [hk] at h5
              cases h5
          · rintro ⟨rfl, rfl⟩
            exact ⟨rfl, rfl, rfl⟩
        have q1 : (input d A == input f D) = sb := by
          rw [Bool.eq_iff_iff, beq_iff_eq, HIN.out, hfin]
        have hcond : gk = 0 → (A.length : Int) ≤ (n : Int) := fun h => by have := HN.out.1; omega
        clear hfin
        rcases hk with hk | hk
        · have hcond' := hcond hk
          clear hcond hk
          go_wp2_with fail
          refine (input_ok d _ A _ (HA3.out.kept H1.out) HI.out).mono ?_
          rintro e w4 ⟨rfl, hf4⟩
          have HF4 : Hid (Fr [] w3 w4) := H1.out.trans hf4
          clear hf4
          go_wp2_with fail
          refine (input_ok f _ D _ (HD3.out.kept HF4.out) HJ.out).mono ?_
          rintro e w5 ⟨rfl, hf5⟩
          have HF5 : Hid (Fr [] w3 w5) := HF4.out.trans hf5
          clear hf5
          go_wp2_with fail
          refine (tag_ok d _ A _ (HT.out.fr (HF3.out.trans HF5.out) (by simp) (by simp)) (HA3.out.kept HF5.out) HI.out).mono ?_
          rintro e w6 ⟨rfl, hf6⟩
          have HF6 : Hid (Fr [] w3 w6) := HF5.out.trans hf6
          clear hf6
          go_wp2_with fail
          refine (input_ok d _ A _ (HA3.out.kept HF6.out) HI.out).mono ?_
          rintro e w7 ⟨rfl, hf7⟩
          have HF7 : Hid (Fr [] w3 w7) := HF6.out.trans hf7
          clear hf7
          go_wp2_with fail
          refine (sum_ok _ _ (HT.out.fr (HF3.out.trans HF7.out) (by simp) (by simp)) (by have := HI.out; omega)).mono ?_
          rintro e w8 ⟨rfl, hf8⟩
          have HF8 : Hid (Fr [] w3 w8) := HF7.out.trans hf8
          clear hf8
          go_wp2
          go_ret
          exact ⟨rfl, HF3.out.trans HF8.out⟩
        · subst hk
          clear hcond
          by_cases hlt : (n : Int) < (A.length : Int)
          · go_wp2_with fail
            refine (input_ok d _ A _ (HA3.out.kept H1.out) HI.out).mono ?_
            rintro e w4 ⟨rfl, hf4⟩
            have HF4 : Hid (Fr [] w3 w4) := H1.out.trans hf4
            clear hf4
            go_wp2_with fail
            refine (input_ok f _ D _ (HD3.out.kept HF4.out) HJ.out).mono ?_
            rintro e w5 ⟨rfl, hf5⟩
            have HF5 : Hid (Fr [] w3 w5) := HF4.out.trans hf5
            clear hf5
            go_wp2_with fail
            refine (tag_ok d _ A _ (HT.out.fr (HF3.out.trans HF5.out) (by simp) (by simp)) (HA3.out.kept HF5.out) HI.out).mono ?_
            rintro e w6 ⟨rfl, hf6⟩
            have HF6 : Hid (Fr [] w3 w6) := HF5.out.trans hf6
            clear hf6
            go_wp2_with fail
            refine (input_ok d _ A _ (HA3.out.kept HF6.out) HI.out).mono ?_
            rintro e w7 ⟨rfl, hf7⟩
            have HF7 : Hid (Fr [] w3 w7) := HF6.out.trans hf7
            clear hf7
            go_wp2_with fail
            refine (sum_ok _ _ (HT.out.fr (HF3.out.trans HF7.out) (by simp) (by simp)) (by have := HI.out; omega)).mono ?_
            rintro e w8 ⟨rfl, hf8⟩
            have HF8 : Hid (Fr [] w3 w8) := HF7.out.trans hf8
            clear hf8
            go_wp2
            go_ret
            exact ⟨rfl, HF3.out.trans HF8.out⟩
          · have hge : (A.length : Int) ≤ (n : Int) := by omega
            clear hlt
            go_wp2_with fail
            refine (input_ok d _ A _ (HA3.out.kept H1.out) HI.out).mono ?_
            rintro e w4 ⟨rfl, hf4⟩
            have HF4 : Hid (Fr [] w3 w4) := H1.out.trans hf4
            clear hf4
            go_wp2_with fail
            refine (input_ok f _ D _ (HD3.out.kept HF4.out) HJ.out).mono ?_
            rintro e w5 ⟨rfl, hf5⟩
            have HF5 : Hid (Fr [] w3 w5) := HF4.out.trans hf5
            clear hf5
            go_wp2_with fail
            refine (tag_ok d _ A _ (HT.out.fr (HF3.out.trans HF5.out) (by simp) (by simp)) (HA3.out.kept HF5.out) HI.out).mono ?_
            rintro e w6 ⟨rfl, hf6⟩
            have HF6 : Hid (Fr [] w3 w6) := HF5.out.trans hf6
            clear hf6
            go_wp2_with fail
            refine (input_ok d _ A _ (HA3.out.kept HF6.out) HI.out).mono ?_
            rintro e w7 ⟨rfl, hf7⟩
            have HF7 : Hid (Fr [] w3 w7) := HF6.out.trans hf7
            clear hf7
            go_wp2_with fail
            refine (sum_ok _ _ (HT.out.fr (HF3.out.trans HF7.out) (by simp) (by simp)) (by have := HI.out; omega)).mono ?_
            rintro e w8 ⟨rfl, hf8⟩
            have HF8 : Hid (Fr [] w3 w8) := HF7.out.trans hf8
            clear hf8
            go_wp2
            go_ret
            exact ⟨rfl, HF3.out.trans HF8.out⟩
      · obtain ⟨hk0, rfl⟩ : gk ≠ 0 ∧ sb = true := ⟨fun h => hk (.inl h), by cases sb with | true => rfl | false => exact absurd (.inr rfl) hk⟩
        have hst := HN.out.2.1 rfl
        have e1 : (n : Int) < (A.length : Int) := by have := HN.out.1; omega
        obtain ⟨b, off, rfl, hb, hx⟩ := HC.out n (by omega)
        obtain ⟨b', off', rfl, hb', hx2⟩ := HC'.out n (by omega)
        have hx' : wr.cell? ⟨b, off + n, none⟩ = some (.string (B (sget A n))) := by rw [H1.out.cell hb (by simp)]; exact hx
        have hx2' : wr.cell? ⟨b', off' + n, none⟩ = some (.string (B (sget D n))) := by rw [H1.out.cell hb' (by simp)]; exact hx2
        have ew : IntKind.i64.wrap ((n : Int) + 1) = (n : Int) + 1 := by rw [IntKind.wrap_i64]; omega
        have e2 : (n : Int) < (D.length : Int) := by omega
        have HST := Lib.hid hst
        clear hx hb hx2 hb' hst hk
        go_wp2
        go_quiet (fail)
        go_wp2
        go_roundg (gk - 1)
        case rel =>
          refine ⟨n + 1, _, rfl, rfl, ⟨by have := HN.out.1; omega, ?_⟩, (show Fr _ _ _ from H1.out.drewN _)⟩
          have hst := HST.out
          rw [take_same n (by omega) (by omega), beq_iff_eq]
          exact ⟨fun h => ⟨hst.1, hst.2.1, hst.2.2, h⟩, fun h => h.2.2.2⟩
        case measure => omega
  · have hdf' : (U8 d == U8 f) = false := by simpa using hdf
    obtain rfl := (hpick _ rfl).2 hdf'
    clear hpick hs0 hdf
    go_wp2_with fail
    go_loopg [12, 13] A.length (fun k sv i wr => ∃ (n : Nat) (sb : Bool), i = .int .i64 (n : Int) ∧ sv = .bool sb ∧ Hid (n + k = A.length ∧ (sb = true ↔ d = f ∧ A.length = D.length ∧ A.take n = D.take n)) ∧ Hid (Fr [] w3 wr))
    case atStart => exact ⟨0, _, rfl, rfl, ⟨by omega, HS0.out⟩, (show _ from Fr.refl _ _)⟩
    case round =>
      obtain ⟨n, sb, rfl, rfl, HN, H1⟩ := hrel
      have h0n : (0 : Int) ≤ (n : Int) := by omega
      have hnl : (n : Int) ≤ (A.length : Int) := by have := HN.out.1; omega
      by_cases hk : gk = 0 ∨ sb = false
      · have hfin : sb = true ↔ (d = f ∧ A = D) := by
          rw [HN.out.2]
          constructor
          · rintro ⟨h1, h2, h3⟩
            rcases hk with hk | hk
            · have h4 := HN.out.1
              rw [List.take_of_length_le (by omega), List.take_of_length_le (by omega)] at h3
              exact ⟨h1, h3⟩
            · have h5 := HN.out.2.2 ⟨h1, h2, h3⟩
              rw [hk] at h5
              cases h5
          · rintro ⟨rfl, rfl⟩
            exact ⟨rfl, rfl, rfl⟩
        have q1 : (input d A == input f D) = sb := by
          rw [Bool.eq_iff_iff, beq_iff_eq, HIN.out, hfin]
        have hcond : gk = 0 → (A.length : Int) ≤ (n : Int) := fun h => by have := HN.out.1; omega
        clear hfin
        rcases hk with hk | hk
        · have hcond' := hcond hk
          clear hcond hk
          go_wp2_with fail
          refine (input_ok d _ A _ (HA3.out.kept H1.out) HI.out).mono ?_
          rintro e w4 ⟨rfl, hf4⟩
          have HF4 : Hid (Fr [] w3 w4) := H1.out.trans hf4
          clear hf4
          go_wp2_with fail
          refine (input_ok f _ D _ (HD3.out.kept HF4.out) HJ.out).mono ?_
          rintro e w5 ⟨rfl, hf5⟩
          have HF5 : Hid (Fr [] w3 w5) := HF4.out.trans hf5
          clear hf5
          go_wp2_with fail
          refine (tag_ok d _ A _ (HT.out.fr (HF3.out.trans HF5.out) (by simp) (by simp)) (HA3.out.kept HF5.out) HI.out).mono ?_
          rintro e w6 ⟨rfl, hf6⟩
          have HF6 : Hid (Fr [] w3 w6) := HF5.out.trans hf6
          clear hf6
          go_wp2_with fail
          refine (input_ok d _ A _ (HA3.out.kept HF6.out) HI.out).mono ?_
          rintro e w7 ⟨rfl, hf7⟩
          have HF7 : Hid (Fr [] w3 w7) := HF6.out.trans hf7
          clear hf7
          go_wp2_with fail
          refine (sum_ok _ _ (HT.out.fr (HF3.out.trans HF7.out) (by simp) (by simp)) (by have := HI.out; omega)).mono ?_
          rintro e w8 ⟨rfl, hf8⟩
          have HF8 : Hid (Fr [] w3 w8) := HF7.out.trans hf8
          clear hf8
          go_wp2
          go_ret
          exact ⟨rfl, HF3.out.trans HF8.out⟩
        · subst hk
          clear hcond
          by_cases hlt : (n : Int) < (A.length : Int)
          · go_wp2_with fail
            refine (input_ok d _ A _ (HA3.out.kept H1.out) HI.out).mono ?_
            rintro e w4 ⟨rfl, hf4⟩
            have HF4 : Hid (Fr [] w3 w4) := H1.out.trans hf4
            clear hf4
            go_wp2_with fail
            refine (input_ok f _ D _ (HD3.out.kept HF4.out) HJ.out).mono ?_
            rintro e w5 ⟨rfl, hf5⟩
            have HF5 : Hid (Fr [] w3 w5) := HF4.out.trans hf5
            clear hf5
            go_wp2_with fail
            refine (tag_ok d _ A _ (HT.out.fr (HF3.out.trans HF5.out) (by simp) (by simp)) (HA3.out.kept HF5.out) HI.out).mono ?_
            rintro e w6 ⟨rfl, hf6⟩
            have HF6 : Hid (Fr [] w3 w6) := HF5.out.trans hf6
            clear hf6
            go_wp2_with fail
            refine (input_ok d _ A _ (HA3.out.kept HF6.out) HI.out).mono ?_
            rintro e w7 ⟨rfl, hf7⟩
            have HF7 : Hid (Fr [] w3 w7) := HF6.out.trans hf7
            clear hf7
            go_wp2_with fail
            refine (sum_ok _ _ (HT.out.fr (HF3.out.trans HF7.out) (by simp) (by simp)) (by have := HI.out; omega)).mono ?_
            rintro e w8 ⟨rfl, hf8⟩
            have HF8 : Hid (Fr [] w3 w8) := HF7.out.trans hf8
            clear hf8
            go_wp2
            go_ret
            exact ⟨rfl, HF3.out.trans HF8.out⟩
          · have hge : (A.length : Int) ≤ (n : Int) := by omega
            clear hlt
            go_wp2_with fail
            refine (input_ok d _ A _ (HA3.out.kept H1.out) HI.out).mono ?_
            rintro e w4 ⟨rfl, hf4⟩
            have HF4 : Hid (Fr [] w3 w4) := H1.out.trans hf4
            clear hf4
            go_wp2_with fail
            refine (input_ok f _ D _ (HD3.out.kept HF4.out) HJ.out).mono ?_
            rintro e w5 ⟨rfl, hf5⟩
            have HF5 : Hid (Fr [] w3 w5) := HF4.out.trans hf5
            clear hf5
            go_wp2_with fail
            refine (tag_ok d _ A _ (HT.out.fr (HF3.out.trans HF5.out) (by simp) (by simp)) (HA3.out.kept HF5.out) HI.out).mono ?_
            rintro e w6 ⟨rfl, hf6⟩
            have HF6 : Hid (Fr [] w3 w6) := HF5.out.trans hf6
            clear hf6
            go_wp2_with fail
            refine (input_ok d _ A _ (HA3.out.kept HF6.out) HI.out).mono ?_
            rintro e w7 ⟨rfl, hf7⟩
            have HF7 : Hid (Fr [] w3 w7) := HF6.out.trans hf7
            clear hf7
            go_wp2_with fail
            refine (sum_ok _ _ (HT.out.fr (HF3.out.trans HF7.out) (by simp) (by simp)) (by have := HI.out; omega)).mono ?_
            rintro e w8 ⟨rfl, hf8⟩
            have HF8 : Hid (Fr [] w3 w8) := HF7.out.trans hf8
            clear hf8
            go_wp2
            go_ret
            exact ⟨rfl, HF3.out.trans HF8.out⟩
      · obtain ⟨hk0, rfl⟩ : gk ≠ 0 ∧ sb = true := ⟨fun h => hk (.inl h), by cases sb with | true => rfl | false => exact absurd (.inr rfl) hk⟩
        have hst := HN.out.2.1 rfl
        have e1 : (n : Int) < (A.length : Int) := by have := HN.out.1; omega
        obtain ⟨b, off, rfl, hb, hx⟩ := HC.out n (by omega)
        obtain ⟨b', off', rfl, hb', hx2⟩ := HC'.out n (by omega)
        have hx' : wr.cell? ⟨b, off + n, none⟩ = some (.string (B (sget A n))) := by rw [H1.out.cell hb (by simp)]; exact hx
        have hx2' : wr.cell? ⟨b', off' + n, none⟩ = some (.string (B (sget D n))) := by rw [H1.out.cell hb' (by simp)]; exact hx2
        have ew : IntKind.i64.wrap ((n : Int) + 1) = (n : Int) + 1 := by rw [IntKind.wrap_i64]; omega
        have e2 : (n : Int) < (D.length : Int) := by omega
        have HST := Lib.hid hst
        clear hx hb hx2 hb' hst hk
        go_wp2
        go_quiet (fail)
        go_wp2
        go_roundg (gk - 1)
        case rel =>
          refine ⟨n + 1, _, rfl, rfl, ⟨by have := HN.out.1; omega, ?_⟩, (show Fr _ _ _ from H1.out.drewN _)⟩
          have hst := HST.out
          rw [take_same n (by omega) (by omega), beq_iff_eq]
          exact ⟨fun h => ⟨hst.1, hst.2.1, hst.2.2, h⟩, fun h => h.2.2.2⟩
        case measure => omega
end Go.Proofs.YtkhhhdjpkhnmkaaDoor.V
