/- The walks of layer 1's statements: awake, pick, ShaRefuses. -/
import Derived.Test.YtkhhhdjpkhnmkaaDoorSha5
import Derived.Test.YtkhhhdjpkhnmkaaDoorShaC
namespace Go.Proofs.YtkhhhdjpkhnmkaaDoor.V
open Go Go.RowKit
attribute [local go_sem] B_size B_append B_extract mk_B B_toList take_drop_len List.length_drop List.length_take sgn32 sgn64 add32 sub32 mul32 add64 sub64 mul64 mul64_8 and32 or32 xor32 and64 or64 xor64 shl32_run shr32_run shl64_run shr64_run not32 not32' xor32_all w_u32_u8 w_u64_u8 w_i64_u8 w_u8_u32 w_u8_u64 w_u32_u64 w_u64_u32 w_u8_u8 w_u32_u32 w_u64_u64
attribute [local go_sem ↓] run_index_B' add32 sub32 mul32 add64 sub64 mul64 mul64_8 and32 or32 xor32 and64 or64 xor64 shl32_run shr32_run shl64_run shr64_run not32 not32' xor32_all w_u32_u8 w_u64_u8 w_i64_u8 w_u8_u32 w_u8_u64 w_u32_u64 w_u64_u32 w_u8_u8 w_u32_u32 w_u64_u64 w_u64_nat w_u32_nat w_u8_nat

set_option maxHeartbeats 1000000 in
set_option maxRecDepth 100000 in
theorem awake_ok (w : World) (hT : Tabs w) :
    Calls Tryd.prog 11 #[] w fun e w' => e = .returned (.bool true) ∧ Fr [] w w' := by
  have HT := Lib.hid hT
  clear hT
  go_enter Tryd.func11, Tryd.ntmps11
  go_wp2_with fail
  refine (sum_ok [97, 98, 99] _ HT.out (by simp)).mono ?_
  rintro e w1 ⟨rfl, hf1⟩
  have HF1 := Lib.hid hf1
  clear hf1
  go_wp2_with fail
  refine (pad_ok 3 _ (by omega)).mono ?_
  rintro e w2 ⟨rfl, hf2⟩
  have HF2 := Lib.hid hf2
  clear hf2
  rw [sum_abc]
  have q1 := pad3_len
  have q2 := pad3_0
  have q3 := pad3_60
  go_wp2
  go_ret
  exact ⟨rfl, HF1.out.trans HF2.out⟩

set_option maxHeartbeats 1000000 in
set_option maxRecDepth 100000 in
theorem shaRefuses_ok (s blk : List UInt8) (n : Int) (w : World) (hT : Tabs w) :
    Calls Tryd.prog 6 #[.string (B s), .string (B blk), .int .i64 n] w fun e w' => e = .returned (.bool true) ∧ Fr [] w w' := by
  have HT := Lib.hid hT
  clear hT
  by_cases hok : s.length = 32 ∧ blk.length = 64
  · have q1 : ((s.length : Int) == 32) = true := by simp [hok.1]
    have q2 : ((blk.length : Int) == 64) = true := by simp [hok.2]
    have q3 : ((((mixed (readSt s) blk).text.length : Nat) : Int) == 32) = true := by rw [St.text_length]; rfl
    have HK := Lib.hid hok
    clear hok
    by_cases hn : n < 0
    all_goals
      go_enter Tryd.func6, Tryd.ntmps6
      go_wp2_with fail
      refine (awake_ok _ HT.out).mono ?_
      rintro e w1 ⟨rfl, hf1⟩
      have HF1 := Lib.hid hf1
      clear hf1
      go_wp2_with fail
      refine (block_ok s blk _ (HT.out.fr HF1.out (by simp) (by simp)) HK.out.1 HK.out.2).mono ?_
      rintro e w2 ⟨rfl, hf2⟩
      have HF2 := Lib.hid hf2
      clear hf2
      go_wp2_with (go_at_call 13; refine (pad_neg n _ hn).mono ?_; rintro e w' ⟨rfl, rfl⟩)
      go_ret
      exact ⟨rfl, HF1.out.trans HF2.out⟩
  · have HK : Hid (s.length ≠ 32 ∨ blk.length ≠ 64) := (by omega : s.length ≠ 32 ∨ blk.length ≠ 64)
    by_cases hs : s.length = 32
    · have q1 : ((s.length : Int) == 32) = true := by simp [hs]
      have q2 : ((blk.length : Int) == 64) = false := by rw [beq_eq_false_iff_ne]; omega
      clear hs hok
      by_cases hn : n < 0
      all_goals
        go_enter Tryd.func6, Tryd.ntmps6
        go_wp2_with fail
        refine (awake_ok _ HT.out).mono ?_
        rintro e w1 ⟨rfl, hf1⟩
        have HF1 := Lib.hid hf1
        clear hf1
        go_wp2_with fail
        refine (block_bad s blk _ HK.out).mono ?_
        rintro e w2 ⟨rfl, rfl⟩
        go_wp2_with (go_at_call 13; refine (pad_neg n _ hn).mono ?_; rintro e w' ⟨rfl, rfl⟩)
        go_ret
        exact ⟨rfl, HF1.out⟩
    · have q1 : ((s.length : Int) == 32) = false := by rw [beq_eq_false_iff_ne]; omega
      clear hs hok
      by_cases hn : n < 0
      all_goals
        go_enter Tryd.func6, Tryd.ntmps6
        go_wp2_with fail
        refine (awake_ok _ HT.out).mono ?_
        rintro e w1 ⟨rfl, hf1⟩
        have HF1 := Lib.hid hf1
        clear hf1
        go_wp2_with fail
        refine (block_bad s blk _ HK.out).mono ?_
        rintro e w2 ⟨rfl, rfl⟩
        go_wp2_with (go_at_call 13; refine (pad_neg n _ hn).mono ?_; rintro e w' ⟨rfl, rfl⟩)
        go_ret
        exact ⟨rfl, HF1.out⟩
end Go.Proofs.YtkhhhdjpkhnmkaaDoor.V
