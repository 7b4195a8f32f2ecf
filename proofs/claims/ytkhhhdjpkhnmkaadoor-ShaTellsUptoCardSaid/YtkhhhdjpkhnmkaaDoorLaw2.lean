/- The walks of layer 1's statements: pick, ShaPads, ShaGoes, ShaExtends. -/
import Derived.Test.YtkhhhdjpkhnmkaaDoorLaw1
import Derived.Test.YtkhhhdjpkhnmkaaDoorShaL
namespace Go.Proofs.YtkhhhdjpkhnmkaaDoor.V
open Go Go.RowKit
attribute [local go_sem] B_size B_append B_extract mk_B B_toList take_drop_len List.length_drop List.length_take sgn32 sgn64 add32 sub32 mul32 add64 sub64 mul64 mul64_8 and32 or32 xor32 and64 or64 xor64 shl32_run shr32_run shl64_run shr64_run not32 not32' xor32_all w_u32_u8 w_u64_u8 w_i64_u8 w_u8_u32 w_u8_u64 w_u32_u64 w_u64_u32 w_u8_u8 w_u32_u32 w_u64_u64
attribute [local go_sem ↓] run_index_B' add32 sub32 mul32 add64 sub64 mul64 mul64_8 and32 or32 xor32 and64 or64 xor64 shl32_run shr32_run shl64_run shr64_run not32 not32' xor32_all w_u32_u8 w_u64_u8 w_i64_u8 w_u8_u32 w_u8_u64 w_u32_u64 w_u64_u32 w_u8_u8 w_u32_u32 w_u64_u64 w_u64_nat w_u32_nat w_u8_nat

set_option maxHeartbeats 1000000 in
set_option maxRecDepth 100000 in
theorem pick_ok (c : Int) (n : Nat) (w : World) (h1 : -9223372036854775808 ≤ c) (h2 : c ≤ 9223372036854775807) (h0 : 0 < (n : Int)) (hn : (n : Int) ≤ 9223372036854775807) :
    Calls Tryd.prog 12 #[.int .i64 c, .int .i64 n] w fun e w' => e = .returned (.int .i64 (pickN c n)) ∧ w = w' := by
  have hz : (n : Int) ≠ 0 := by omega
  have hv : ((pickN c n : Nat) : Int) = (if c < 0 then -(c + 1) else c) % n := by
    unfold pickN
    rw [Int.toNat_of_nonneg (Int.emod_nonneg _ hz)]
  rw [hv]
  clear hv
  by_cases hc : c < 0
  · have e1 : IntKind.i64.wrap (c + 1) = c + 1 := by rw [IntKind.wrap_i64]; omega
    have e2 : IntKind.i64.wrap (-(c + 1)) = -(c + 1) := by rw [IntKind.wrap_i64]; omega
    have e3 : (-(c + 1)).tmod n = -(c + 1) % n := Int.tmod_eq_emod_of_nonneg (by omega)
    rw [if_pos hc]
    go_enter Tryd.func12, Tryd.ntmps12
    go_wp2
    go_ret
    exact ⟨rfl, rfl⟩
  · have e3 : c.tmod n = c % n := Int.tmod_eq_emod_of_nonneg (by omega)
    have hc' : 0 ≤ c := by omega
    rw [if_neg hc]
    go_enter Tryd.func12, Tryd.ntmps12
    go_wp2
    go_ret
    exact ⟨rfl, rfl⟩

set_option maxHeartbeats 1000000 in
set_option maxRecDepth 100000 in
theorem shaGoes_ok (s : List UInt8) (w : World) (hT : Tabs w) (hs : s.length ≤ 140737488351232) :
    Calls Tryd.prog 7 #[.string (B s)] w fun e w' => e = .returned (.bool true) ∧ Fr [] w w' := by
  have HT := Lib.hid hT
  clear hT
  go_enter Tryd.func7, Tryd.ntmps7
  go_wp2_with fail
  refine (awake_ok _ HT.out).mono ?_
  rintro e w1 ⟨rfl, hf1⟩
  have HF1 := Lib.hid hf1
  clear hf1
  go_wp2_with fail
  refine (first_ok _ (HT.out.fr HF1.out (by simp) (by simp))).mono ?_
  rintro e w2 ⟨rfl, hf2⟩
  have HF2 : Hid (Fr [] w w2) := HF1.out.trans hf2
  clear hf2
  go_wp2_with fail
  refine (pad_ok s.length _ (by omega)).mono ?_
  rintro e w3 ⟨rfl, hf3⟩
  have HF3 : Hid (Fr [] w w3) := HF2.out.trans hf3
  clear hf3
  have hpl := pad_len s.length
  have hfst : first.text.length = 32 := St.text_length _
  have q2 : ((first.text.length : Int) != 32) = false := by rw [hfst]; rfl
  have hA : (s ++ pad s.length).length % 64 = 0 := by rw [List.length_append]; omega
  have hAl : (s ++ pad s.length).length ≤ 140737488351332 := by rw [List.length_append]; omega
  have hsum : ¬ (9223372036854775807 < s.length + (pad s.length).length) := by omega
  have hE : eat ((s ++ pad s.length).length / 64) first (s ++ pad s.length) = sumSt s := rfl
  have hS : sum s = (sumSt s).text := rfl
  generalize hAA : s ++ pad s.length = A at *
  have q1 : (((A.length : Int) % 64) != 0) = false := by rw [bne_eq_false_iff_eq]; omega
  have HA := Lib.hid hA
  have HE := Lib.hid hE
  have HS := Lib.hid hS
  have hl0 : (0 : Int) ≤ (A.length : Int) := by omega
  clear hA hE hS hpl hfst
  go_wp2_with fail
  go_loopg [4, 6] (A.length / 64) (fun k x i wr => ∃ (n : Nat) (v : St), n + k = A.length / 64 ∧ i = .int .i64 ((64 * n : Nat) : Int) ∧ x = .string (B v.text) ∧ Hid (eat k v (A.drop (64 * n)) = sumSt s) ∧ Hid (Fr [] w wr))
  case atStart => exact ⟨0, first, by omega, rfl, rfl, HE, HF3⟩
  case round =>
    obtain ⟨n, v, hn, rfl, rfl, H1, H2⟩ := hrel
    have HN := Lib.hid hn
    clear hn
    have hnn : (0 : Int) ≤ ((64 * n : Nat) : Int) := by omega
    by_cases hk : gk = 0
    · subst hk
      have hlt : (A.length : Int) ≤ ((64 * n : Nat) : Int) := by have := HN.out; have := HA.out; omega
      have hv : v = sumSt s := H1.out
      have q3 : (v.text == sum s) = true := by rw [HS.out, hv]; simp
      have q4 : ((v.text.length : Int) == 32) = true := by rw [St.text_length]; rfl
      clear hv
      go_wp2_with fail
      refine (sum_ok s _ (HT.out.fr H2.out (by simp) (by simp)) (by omega)).mono ?_
      rintro e w4 ⟨rfl, hf4⟩
      have HF4 := Lib.hid hf4
      clear hf4
      go_wp2
      go_ret
      exact ⟨rfl, H2.out.trans HF4.out⟩
    · have hlt : ((64 * n : Nat) : Int) < (A.length : Int) := by have := HN.out; have := HA.out; omega
      have hle : ((64 * n : Nat) : Int) + 64 ≤ (A.length : Int) := by have := HN.out; have := HA.out; omega
      have ew : IntKind.i64.wrap (((64 * n : Nat) : Int) + 64) = ((64 * n : Nat) : Int) + 64 := by rw [IntKind.wrap_i64]; omega
      have et : (((64 * n : Nat) : Int) + 64).toNat = 64 * n + 64 := by omega
      have et2 : 64 * n + 64 - 64 * n = 64 := by omega
      go_wp2_with fail
      refine (block_ok v.text ((A.drop (64 * n)).take 64) _ (HT.out.fr H2.out (by simp) (by simp)) (St.text_length _) ?hb).mono ?_
      case hb => rw [List.length_take, List.length_drop]; omega
      rintro e w4 ⟨rfl, hf4⟩
      have HF4 := Lib.hid hf4
      clear hf4
      rw [readSt_text]
      go_wp2
      go_roundg (gk - 1)
      case rel =>
        refine ⟨n + 1, mixed v ((A.drop (64 * n)).take 64), by have := HN.out; omega, by congr 1, rfl, (show _ = _ from ?_), (show Fr [] w w4 from H2.out.trans HF4.out)⟩
        have := H1.out
        obtain ⟨j, rfl⟩ : ∃ j, gk = j + 1 := ⟨gk - 1, by omega⟩
        rw [eat, List.drop_drop] at this
        exact this
      case measure => omega

set_option maxHeartbeats 1000000 in
set_option maxRecDepth 100000 in
theorem shaExtends_ok (s t : List UInt8) (w : World) (hT : Tabs w) (hs : s.length ≤ 140737488351232) (ht : t.length ≤ 140737488351232) :
    Calls Tryd.prog 5 #[.string (B s), .string (B t)] w fun e w' => e = .returned (.bool true) ∧ Fr [] w w' := by
  have HT := Lib.hid hT
  clear hT
  have hpl := pad_len s.length
  have hsum : ¬ (9223372036854775807 < s.length + (pad s.length).length) := by omega
  have hOn := sum_on s t
  have hAl : (s ++ pad s.length).length ≤ 140737488351332 := by rw [List.length_append]; omega
  go_enter Tryd.func5, Tryd.ntmps5
  go_wp2_with fail
  refine (awake_ok _ HT.out).mono ?_
  rintro e w1 ⟨rfl, hf1⟩
  have HF1 := Lib.hid hf1
  clear hf1
  go_wp2_with fail
  refine (pad_ok s.length _ (by omega)).mono ?_
  rintro e w2 ⟨rfl, hf2⟩
  have HF2 : Hid (Fr [] w w2) := HF1.out.trans hf2
  clear hf2
  go_wp2_with fail
  refine (sum_ok s _ (HT.out.fr HF2.out (by simp) (by simp)) (by omega)).mono ?_
  rintro e w3 ⟨rfl, hf3⟩
  have HF3 : Hid (Fr [] w w3) := HF2.out.trans hf3
  clear hf3
  generalize hAA : s ++ pad s.length = A at *
  have HAA := Lib.hid hAA
  clear hpl
  have ew : IntKind.i64.wrap ((A.length : Int) + (t.length : Int)) = ((A.length + t.length : Nat) : Int) := by rw [IntKind.wrap_i64]; omega
  go_wp2_with fail
  refine (pad_ok (A.length + t.length) _ (by omega)).mono ?_
  rintro e w4 ⟨rfl, hf4⟩
  have HF4 : Hid (Fr [] w w4) := HF3.out.trans hf4
  clear hf4 ew
  have hpl := pad_len (A.length + t.length)
  have hs32 : (sum s).length = 32 := St.text_length _
  have q2 : (((sum s).length : Int) != 32) = false := by rw [hs32]; rfl
  have hsum2 : ¬ (9223372036854775807 < t.length + (pad (A.length + t.length)).length) := by omega
  have hAm : A.length % 64 = 0 := by rw [← HAA.out, List.length_append]; have := pad_len s.length; omega
  have hR : (t ++ pad (A.length + t.length)).length % 64 = 0 := by rw [List.length_append]; omega
  have hRl : (t ++ pad (A.length + t.length)).length ≤ 140737488351332 := by rw [List.length_append]; omega
  generalize hRR : t ++ pad (A.length + t.length) = R at *
  have q1 : (((R.length : Int) % 64) != 0) = false := by rw [bne_eq_false_iff_eq]; omega
  have HR := Lib.hid hR
  have HE := Lib.hid hOn
  have HS : Hid (sum (A ++ t) = (sumSt (A ++ t)).text) := rfl
  have hl0 : (0 : Int) ≤ (R.length : Int) := by omega
  have hsum3 : ¬ (9223372036854775807 < A.length + t.length) := by omega
  clear hR hOn hpl hs32 hAm
  go_wp2_with fail
  go_loopg [7, 9] (R.length / 64) (fun k x i wr => ∃ (n : Nat) (v : St), n + k = R.length / 64 ∧ i = .int .i64 ((64 * n : Nat) : Int) ∧ x = .string (B v.text) ∧ Hid (eat k v (R.drop (64 * n)) = sumSt (A ++ t)) ∧ Hid (Fr [] w wr))
  case atStart => exact ⟨0, sumSt s, by omega, rfl, rfl, HE, HF4⟩
  case round =>
    obtain ⟨n, v, hn, rfl, rfl, H1, H2⟩ := hrel
    have HN := Lib.hid hn
    clear hn
    have hnn : (0 : Int) ≤ ((64 * n : Nat) : Int) := by omega
    by_cases hk : gk = 0
    · subst hk
      have hlt : (R.length : Int) ≤ ((64 * n : Nat) : Int) := by have := HN.out; have := HR.out; omega
      have hv : v = sumSt (A ++ t) := H1.out
      have q3 : (v.text == sum (A ++ t)) = true := by rw [HS.out, hv]; simp
      clear hv
      go_wp2_with fail
      refine (sum_ok (A ++ t) _ (HT.out.fr H2.out (by simp) (by simp)) (by rw [List.length_append]; omega)).mono ?_
      rintro e w5 ⟨rfl, hf5⟩
      have HF5 := Lib.hid hf5
      clear hf5
      go_wp2
      go_ret
      exact ⟨rfl, H2.out.trans HF5.out⟩
    · have hlt : ((64 * n : Nat) : Int) < (R.length : Int) := by have := HN.out; have := HR.out; omega
      have hle : ((64 * n : Nat) : Int) + 64 ≤ (R.length : Int) := by have := HN.out; have := HR.out; omega
      have ew : IntKind.i64.wrap (((64 * n : Nat) : Int) + 64) = ((64 * n : Nat) : Int) + 64 := by rw [IntKind.wrap_i64]; omega
      have et : (((64 * n : Nat) : Int) + 64).toNat = 64 * n + 64 := by omega
      have et2 : 64 * n + 64 - 64 * n = 64 := by omega
      go_wp2_with fail
      refine (block_ok v.text ((R.drop (64 * n)).take 64) _ (HT.out.fr H2.out (by simp) (by simp)) (St.text_length _) ?hb).mono ?_
      case hb => rw [List.length_take, List.length_drop]; omega
      rintro e w5 ⟨rfl, hf5⟩
      have HF5 := Lib.hid hf5
      clear hf5
      rw [readSt_text]
      go_wp2
      go_roundg (gk - 1)
      case rel =>
        refine ⟨n + 1, mixed v ((R.drop (64 * n)).take 64), by have := HN.out; omega, by congr 1, rfl, (show _ = _ from ?_), (show Fr [] w w5 from H2.out.trans HF5.out)⟩
        have := H1.out
        obtain ⟨j, rfl⟩ : ∃ j, gk = j + 1 := ⟨gk - 1, by omega⟩
        rw [eat, List.drop_drop] at this
        exact this
      case measure => omega

set_option maxHeartbeats 1000000 in
set_option maxRecDepth 100000 in
theorem shaPads_ok (c d : Int) (w : World) (hT : Tabs w) (hc : -9223372036854775808 ≤ c ∧ c ≤ 9223372036854775807) (hd : -9223372036854775808 ≤ d ∧ d ≤ 9223372036854775807) :
    Calls Tryd.prog 3 #[.int .i64 c, .int .i64 d] w fun e w' => e = .returned (.bool true) ∧ Fr [] w w' := by
  have HT := Lib.hid hT
  clear hT
  have hn := pickN_lt c 1099511627776 (by decide)
  have hm := pickN_lt d 1099511627776 (by decide)
  go_enter Tryd.func3, Tryd.ntmps3
  go_wp2_with fail
  refine (awake_ok _ HT.out).mono ?_
  rintro e w1 ⟨rfl, hf1⟩
  have HF1 := Lib.hid hf1
  clear hf1
  go_wp2_with fail
  refine (pick_ok c 1099511627776 _ hc.1 hc.2 (by decide) (by decide)).mono ?_
  rintro e w1' ⟨rfl, rfl⟩
  go_wp2_with fail
  refine (pick_ok d 1099511627776 _ hd.1 hd.2 (by decide) (by decide)).mono ?_
  rintro e w1' ⟨rfl, rfl⟩
  generalize pickN c 1099511627776 = n at *
  generalize pickN d 1099511627776 = m at *
  clear hc hd
  go_wp2_with fail
  refine (pad_ok n _ (by omega)).mono ?_
  rintro e w2 ⟨rfl, hf2⟩
  have HF2 : Hid (Fr [] w w2) := HF1.out.trans hf2
  clear hf2
  go_wp2_with fail
  refine (pad_ok m _ (by omega)).mono ?_
  rintro e w3 ⟨rfl, hf3⟩
  have HF3 : Hid (Fr [] w w3) := HF2.out.trans hf3
  clear hf3 HF1 HF2
  obtain ⟨b, hb1, hb2⟩ : ∃ b, (pad n == pad m) = b ∧ ((n : Int) == (m : Int)) = b := by
    by_cases h : n = m
    · exact ⟨true, by simp [h], by simp [h]⟩
    · refine ⟨false, ?_, ?_⟩
      · rw [beq_eq_false_iff_ne]; exact fun e => h (pad_inj (by omega) (by omega) e)
      · rw [beq_eq_false_iff_ne]; omega
  have hpl := pad_len n
  have hz : (pad n).length = noughts n + 9 := pad_length n
  have h128 : U8 (nth (pad n) 0) = 128 := rfl
  have hmid : Hid (∀ i, 1 ≤ i → i < noughts n + 1 → nth (pad n) i = 0) := pad_mid n
  have hlast : Hid (∀ j < 8, (nth (pad n) (noughts n + 1 + j)).toNat = 8 * n / 256 ^ (7 - j) % 256) := fun j hj => pad_last n j (by omega) hj
  generalize pad n = p at *
  generalize pad m = q at *
  generalize noughts n = z at *
  obtain ⟨h9, h72, h64⟩ := hpl
  have ew : IntKind.i64.wrap ((n : Int) + (p.length : Int)) = (n : Int) + (p.length : Int) := by rw [IntKind.wrap_i64]; omega
  have q1 : ((((n : Int) + (p.length : Int)) % 64) != 0) = false := by rw [bne_eq_false_iff_eq]; omega
  have hl9 : (9 : Int) ≤ (p.length : Int) := by omega
  have hl72 : (p.length : Int) ≤ 72 := by omega
  have hnn : (0 : Int) ≤ (n : Int) := by omega
  have hsn : (0 : Int) ≤ (n : Int) + (p.length : Int) := by omega
  have ew2 : IntKind.i64.wrap ((p.length : Int) - 8) = (p.length : Int) - 8 := by rw [IntKind.wrap_i64]; omega
  have ew3 : IntKind.i64.wrap (8 * (n : Int)) = 8 * (n : Int) := by rw [IntKind.wrap_i64]; omega
  have HZ := Lib.hid hz
  have HM := Lib.hid hn
  clear hz h64 h9 h72 hm
  go_wp2_with fail
  go_loopg [8, 9] 8 (fun k x i wr => ∃ j ii ll : Nat, j + k = 8 ∧ i = .int .i64 (ii : Int) ∧ x = .int .i64 (ll : Int) ∧ Hid (ii = z + 1 + j ∧ ll = 8 * n / 256 ^ (8 - j)) ∧ Hid (Fr [] w wr))
  case atStart =>
    refine ⟨0, z + 1, 0, rfl, congrArg (Value.int .i64) ?_, rfl, ⟨rfl, ?_⟩, HF3⟩
    · have := HZ.out; omega
    · exact (Nat.div_eq_of_lt (by have := HM.out; omega)).symm
  case round =>
    obtain ⟨j, ii, ll, hj, rfl, rfl, H1, H2⟩ := hrel
    have HJ := Lib.hid hj
    have h0i : (0 : Int) ≤ (ii : Int) := by omega
    by_cases hk : gk = 0
    · subst hk
      have e1 : ll = 8 * n := by rw [H1.out.2, show 8 - j = 0 by omega]; simp
      have e2 : (p.length : Int) ≤ (ii : Int) := by rw [H1.out.1]; have := HZ.out; omega
      have q3 : ((ll : Int) == 8 * (n : Int)) = true := by rw [beq_iff_eq]; omega
      clear hj e1
      go_wp2_with fail
      go_loopg [10] z (fun k i wr => ∃ jj : Nat, i = .int .i64 (jj : Int) ∧ Hid (jj + k = z + 1 ∧ 1 ≤ jj) ∧ Hid (Fr [] w wr))
      case atStart => exact ⟨1, rfl, ⟨by omega, Nat.le_refl _⟩, H2⟩
      case round =>
        obtain ⟨jj, rfl, H3, H4⟩ := hrel
        have hj0 : (0 : Int) ≤ (jj : Int) := by omega
        by_cases hk : gk = 0
        · subst hk
          have e4 : (p.length : Int) - 8 ≤ (jj : Int) := by have := H3.out; have := HZ.out; omega
          go_wp2
          go_ret
          exact ⟨by simp, H4.out⟩
        · have e4 : (jj : Int) < (p.length : Int) - 8 := by have := H3.out; have := HZ.out; omega
          have e5 : (jj : Int) < (p.length : Int) := by omega
          have e6 : nth p jj = 0 := hmid.out jj H3.out.2 (by have := HZ.out; omega)
          have e7 : U8 0 = 0 := rfl
          have e8 : IntKind.i64.wrap ((jj : Int) + 1) = (jj : Int) + 1 := by rw [IntKind.wrap_i64]; omega
          go_wp2
          go_roundg (gk - 1)
          case rel => exact ⟨jj + 1, rfl, ⟨by have := H3.out; omega, by omega⟩, H4⟩
          case measure => omega
    · have hii := H1.out.1
      have e2 : (ii : Int) < (p.length : Int) := by have := HZ.out; omega
      have hb : ll < 8796093022208 := by rw [H1.out.2]; exact Nat.lt_of_le_of_lt (Nat.div_le_self _ _) (by have := HM.out; omega)
      have hv := hlast.out j (by omega)
      rw [← hii] at hv
      have hst := long_step n j (by omega)
      rw [← hv, ← H1.out.2] at hst
      have hu := u8_bd (nth p ii)
      have e3 : IntKind.i64.wrap (256 * (ll : Int)) = 256 * (ll : Int) := by rw [IntKind.wrap_i64]; omega
      have e4 : IntKind.i64.wrap (256 * (ll : Int) + U8 (nth p ii)) = 256 * (ll : Int) + U8 (nth p ii) := by rw [IntKind.wrap_i64]; omega
      have e8 : IntKind.i64.wrap ((ii : Int) + 1) = (ii : Int) + 1 := by rw [IntKind.wrap_i64]; omega
      have HV := Lib.hid hst
      clear hst hv hii hj hb hu
      go_wp2
      go_roundg (gk - 1)
      case rel => exact ⟨j + 1, ii + 1, 256 * ll + (nth p ii).toNat, by have := HJ.out; omega, rfl, congrArg (Value.int .i64) (by unfold U8; omega), ⟨by have := H1.out; omega, HV.out⟩, H2⟩
      case measure => omega
end Go.Proofs.YtkhhhdjpkhnmkaaDoor.V
