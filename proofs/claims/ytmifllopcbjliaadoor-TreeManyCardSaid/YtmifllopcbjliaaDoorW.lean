/- Unsigned numbers of the program as Lean's own UInt8, UInt32, UInt64: what each operation comes to. -/
import Derived.Test.YtmifllopcbjliaaDoorB
namespace Go.Proofs.YtmifllopcbjliaaDoor.V
open Go Go.RowKit

def U8 (x : UInt8) : Int := x.toNat
def U32 (x : UInt32) : Int := x.toNat
def U64 (x : UInt64) : Int := x.toNat
theorem u8_bd (x : UInt8) : 0 ≤ U8 x ∧ U8 x < 256 := ⟨Int.natCast_nonneg _, by unfold U8; have := x.toNat_lt; omega⟩
theorem u32_bd (x : UInt32) : 0 ≤ U32 x ∧ U32 x < 4294967296 := ⟨Int.natCast_nonneg _, by unfold U32; have := x.toNat_lt; omega⟩
theorem u64_bd (x : UInt64) : 0 ≤ U64 x ∧ U64 x < 18446744073709551616 := ⟨Int.natCast_nonneg _, by unfold U64; have := x.toNat_lt; omega⟩
theorem u8_inj {x y : UInt8} : U8 x = U8 y ↔ x = y := by unfold U8; rw [← UInt8.toNat_inj]; omega
theorem u32_inj {x y : UInt32} : U32 x = U32 y ↔ x = y := by unfold U32; rw [← UInt32.toNat_inj]; omega
theorem u64_inj {x y : UInt64} : U64 x = U64 y ↔ x = y := by unfold U64; rw [← UInt64.toNat_inj]; omega

/-- shifts by any number of places -/
def shl32 (x : UInt32) (n : Nat) : UInt32 := UInt32.ofNat (x.toNat * 2 ^ n)
def shr32 (x : UInt32) (n : Nat) : UInt32 := UInt32.ofNat (x.toNat / 2 ^ n)
def shl64 (x : UInt64) (n : Nat) : UInt64 := UInt64.ofNat (x.toNat * 2 ^ n)
def shr64 (x : UInt64) (n : Nat) : UInt64 := UInt64.ofNat (x.toNat / 2 ^ n)

theorem u8_ofNat (n : Nat) : U8 (UInt8.ofNat n) = ((n % 256 : Nat) : Int) := by simp [U8]
theorem u32_ofNat (n : Nat) : U32 (UInt32.ofNat n) = ((n % 4294967296 : Nat) : Int) := by simp [U32]
theorem u64_ofNat (n : Nat) : U64 (UInt64.ofNat n) = ((n % 18446744073709551616 : Nat) : Int) := by simp [U64]

/- sums, products, differences -/
theorem add32 (x y : UInt32) : Op.intArith .add .u32 (U32 x) (U32 y) = pure (.int .u32 (U32 (x + y))) := by
  simp only [Op.intArith, IntKind.wrap_u32, U32, UInt32.toNat_add]; congr 2
theorem sub32 (x y : UInt32) : Op.intArith .sub .u32 (U32 x) (U32 y) = pure (.int .u32 (U32 (x - y))) := by
  simp only [Op.intArith, IntKind.wrap_u32, U32, UInt32.toNat_sub]; congr 2; have := y.toNat_lt; omega
theorem mul32 (x y : UInt32) : Op.intArith .mul .u32 (U32 x) (U32 y) = pure (.int .u32 (U32 (x * y))) := by
  simp only [Op.intArith, IntKind.wrap_u32, U32, UInt32.toNat_mul]; congr 2
theorem add64 (x y : UInt64) : Op.intArith .add .u64 (U64 x) (U64 y) = pure (.int .u64 (U64 (x + y))) := by
  simp only [Op.intArith, IntKind.wrap_u64, U64, UInt64.toNat_add]; congr 2
theorem sub64 (x y : UInt64) : Op.intArith .sub .u64 (U64 x) (U64 y) = pure (.int .u64 (U64 (x - y))) := by
  simp only [Op.intArith, IntKind.wrap_u64, U64, UInt64.toNat_sub]; congr 2; have := y.toNat_lt; omega
theorem mul64 (x y : UInt64) : Op.intArith .mul .u64 (U64 x) (U64 y) = pure (.int .u64 (U64 (x * y))) := by
  simp only [Op.intArith, IntKind.wrap_u64, U64, UInt64.toNat_mul]; congr 2
theorem mul64_8 (x : UInt64) : Op.intArith .mul .u64 8 (U64 x) = pure (.int .u64 (U64 (8 * x))) := mul64 8 x
theorem lit64 (n : Nat) (h : n < 18446744073709551616) : U64 (UInt64.ofNat n) = n := by rw [u64_ofNat]; omega
theorem lit32 (n : Nat) (h : n < 4294967296) : U32 (UInt32.ofNat n) = n := by rw [u32_ofNat]; omega
theorem lit8 (n : Nat) (h : n < 256) : U8 (UInt8.ofNat n) = n := by rw [u8_ofNat]; omega

/- bits -/
theorem bits32 (op : BinOp) (f : UInt32 → UInt32 → UInt32) (x y : UInt32)
    (hf : ∀ a b : Nat, a < 4294967296 → b < 4294967296 → bits op .u32 (a : Int) (b : Int) = (((f (UInt32.ofNat a) (UInt32.ofNat b)).toNat : Nat) : Int)) :
    bits op .u32 (U32 x) (U32 y) = U32 (f x y) := by
  have := hf x.toNat y.toNat x.toNat_lt y.toNat_lt
  simp only [UInt32.ofNat_toNat] at this
  exact this
theorem and32 (x y : UInt32) : bits .and .u32 (U32 x) (U32 y) = U32 (x &&& y) :=
  bits32 _ (· &&& ·) x y fun a b ha hb => by rw [u32_and_nat a b ha hb, UInt32.toNat_and]; simp [Nat.mod_eq_of_lt ha, Nat.mod_eq_of_lt hb]
theorem or32 (x y : UInt32) : bits .or .u32 (U32 x) (U32 y) = U32 (x ||| y) :=
  bits32 _ (· ||| ·) x y fun a b ha hb => by rw [u32_or_nat a b ha hb, UInt32.toNat_or]; simp [Nat.mod_eq_of_lt ha, Nat.mod_eq_of_lt hb]
theorem xor32 (x y : UInt32) : bits .xor .u32 (U32 x) (U32 y) = U32 (x ^^^ y) :=
  bits32 _ (· ^^^ ·) x y fun a b ha hb => by rw [u32_xor_nat a b ha hb, UInt32.toNat_xor]; simp [Nat.mod_eq_of_lt ha, Nat.mod_eq_of_lt hb]
theorem bits64 (op : BinOp) (f : UInt64 → UInt64 → UInt64) (x y : UInt64)
    (hf : ∀ a b : Nat, a < 18446744073709551616 → b < 18446744073709551616 → bits op .u64 (a : Int) (b : Int) = (((f (UInt64.ofNat a) (UInt64.ofNat b)).toNat : Nat) : Int)) :
    bits op .u64 (U64 x) (U64 y) = U64 (f x y) := by
  have := hf x.toNat y.toNat x.toNat_lt y.toNat_lt
  simp only [UInt64.ofNat_toNat] at this
  exact this
theorem and64 (x y : UInt64) : bits .and .u64 (U64 x) (U64 y) = U64 (x &&& y) :=
  bits64 _ (· &&& ·) x y fun a b ha hb => by rw [u64_and_nat a b ha hb, UInt64.toNat_and]; simp [Nat.mod_eq_of_lt ha, Nat.mod_eq_of_lt hb]
theorem or64 (x y : UInt64) : bits .or .u64 (U64 x) (U64 y) = U64 (x ||| y) :=
  bits64 _ (· ||| ·) x y fun a b ha hb => by rw [u64_or_nat a b ha hb, UInt64.toNat_or]; simp [Nat.mod_eq_of_lt ha, Nat.mod_eq_of_lt hb]
theorem xor64 (x y : UInt64) : bits .xor .u64 (U64 x) (U64 y) = U64 (x ^^^ y) :=
  bits64 _ (· ^^^ ·) x y fun a b ha hb => by rw [u64_xor_nat a b ha hb, UInt64.toNat_xor]; simp [Nat.mod_eq_of_lt ha, Nat.mod_eq_of_lt hb]
/-- ^x, and x ^ 0xffffffff -/
theorem all32 : (4294967295 : Int) = U32 4294967295 := rfl

theorem not32 (x : UInt32) : Op.unary .xor (.int .u32 (U32 x)) = pure (.int .u32 (U32 (~~~x))) := by
  have h : bits .xor .u32 (U32 4294967295) (U32 x) = U32 (~~~x) := by
    rw [xor32]
    exact congrArg U32 (UInt32.eq_of_toBitVec_eq BitVec.allOnes_xor)
  show Op.intBits .xor .u32 IntKind.u32.max (U32 x) = _
  rw [intBits_xor, ← h]
  rfl
theorem sgn32 : IntKind.u32.signed = false := rfl
theorem sgn64 : IntKind.u64.signed = false := rfl
theorem not32' (x : UInt32) : bits .xor .u32 IntKind.u32.max (U32 x) = U32 (~~~x) := by
  have h := not32 x
  change Op.intBits .xor .u32 IntKind.u32.max (U32 x) = _ at h
  rw [intBits_xor] at h
  injection h with h
  injection h
theorem xor32_all (x : UInt32) : bits .xor .u32 (U32 x) 4294967295 = U32 (~~~x) := by
  rw [all32, xor32]
  exact congrArg U32 (UInt32.eq_of_toBitVec_eq BitVec.xor_allOnes)

/- shifts -/
theorem shl32_run (x : UInt32) (yk : IntKind) (y : Int) (h : 0 ≤ y) : Op.shift .shl .u32 (U32 x) yk y = pure (.int .u32 (U32 (shl32 x y.toNat))) := by
  unfold Op.shift
  rw [if_neg (by omega)]
  simp only [IntKind.wrap_u32, IntKind.bits, shl32, u32_ofNat]
  congr 2
  unfold U32
  by_cases hy : y.toNat ≤ 32
  · rw [Nat.min_eq_left hy]; rw [Int.natCast_emod, Int.natCast_mul, Int.natCast_pow]; rfl
  · rw [Nat.min_eq_right (by omega)]
    have e : ∀ m : Nat, 32 ≤ m → (x.toNat * 2 ^ m) % 4294967296 = 0 := fun m hm => by
      have hd : (2 : Nat) ^ 32 ∣ 2 ^ m := Nat.pow_dvd_pow 2 hm
      have hd' : (4294967296 : Nat) ∣ x.toNat * 2 ^ m := Nat.dvd_mul_left_of_dvd hd _
      exact Nat.mod_eq_zero_of_dvd hd'
    rw [e _ (by omega)]
    have := e 32 (Nat.le_refl _)
    omega
theorem shr32_run (x : UInt32) (yk : IntKind) (y : Int) (h : 0 ≤ y) : Op.shift .shr .u32 (U32 x) yk y = pure (.int .u32 (U32 (shr32 x y.toNat))) := by
  unfold Op.shift
  rw [if_neg (by omega)]
  simp only [IntKind.bits, shr32, u32_ofNat]
  congr 2
  unfold U32
  have hx := x.toNat_lt
  rw [Int.fdiv_eq_ediv_of_nonneg _ (by have := Int.natCast_nonneg (2 ^ min y.toNat 32 : Nat); push_cast at this; exact this)]
  by_cases hy : y.toNat ≤ 32
  · rw [Nat.min_eq_left hy, Nat.mod_eq_of_lt (Nat.lt_of_le_of_lt (Nat.div_le_self _ _) hx)]; norm_cast
  · rw [Nat.min_eq_right (by omega)]
    have e : ∀ m : Nat, 32 ≤ m → x.toNat / 2 ^ m = 0 := fun m hm => by
      apply Nat.div_eq_of_lt
      exact Nat.lt_of_lt_of_le hx (Nat.pow_le_pow_right (by decide) hm)
    rw [e _ (by omega)]
    have := e 32 (Nat.le_refl _)
    norm_cast
theorem shl64_run (x : UInt64) (yk : IntKind) (y : Int) (h : 0 ≤ y) : Op.shift .shl .u64 (U64 x) yk y = pure (.int .u64 (U64 (shl64 x y.toNat))) := by
  unfold Op.shift
  rw [if_neg (by omega)]
  simp only [IntKind.wrap_u64, IntKind.bits, shl64, u64_ofNat]
  congr 2
  unfold U64
  by_cases hy : y.toNat ≤ 64
  · rw [Nat.min_eq_left hy]; rw [Int.natCast_emod, Int.natCast_mul, Int.natCast_pow]; rfl
  · rw [Nat.min_eq_right (by omega)]
    have e : ∀ m : Nat, 64 ≤ m → (x.toNat * 2 ^ m) % 18446744073709551616 = 0 := fun m hm => by
      have hd : (2 : Nat) ^ 64 ∣ 2 ^ m := Nat.pow_dvd_pow 2 hm
      have hd' : (18446744073709551616 : Nat) ∣ x.toNat * 2 ^ m := Nat.dvd_mul_left_of_dvd hd _
      exact Nat.mod_eq_zero_of_dvd hd'
    rw [e _ (by omega)]
    have := e 64 (Nat.le_refl _)
    omega
theorem shr64_run (x : UInt64) (yk : IntKind) (y : Int) (h : 0 ≤ y) : Op.shift .shr .u64 (U64 x) yk y = pure (.int .u64 (U64 (shr64 x y.toNat))) := by
  unfold Op.shift
  rw [if_neg (by omega)]
  simp only [IntKind.bits, shr64, u64_ofNat]
  congr 2
  unfold U64
  have hx := x.toNat_lt
  rw [Int.fdiv_eq_ediv_of_nonneg _ (by have := Int.natCast_nonneg (2 ^ min y.toNat 64 : Nat); push_cast at this; exact this)]
  by_cases hy : y.toNat ≤ 64
  · rw [Nat.min_eq_left hy, Nat.mod_eq_of_lt (Nat.lt_of_le_of_lt (Nat.div_le_self _ _) hx)]; norm_cast
  · rw [Nat.min_eq_right (by omega)]
    have e : ∀ m : Nat, 64 ≤ m → x.toNat / 2 ^ m = 0 := fun m hm => by
      apply Nat.div_eq_of_lt
      exact Nat.lt_of_lt_of_le hx (Nat.pow_le_pow_right (by decide) hm)
    rw [e _ (by omega)]
    have := e 64 (Nat.le_refl _)
    norm_cast

/- from one kind to another -/
theorem w_u32_u8 (x : UInt8) : IntKind.u32.wrap (U8 x) = U32 x.toUInt32 := by
  rw [IntKind.wrap_u32]; simp only [U8, U32, UInt8.toNat_toUInt32]; have := x.toNat_lt; omega
theorem w_u64_u8 (x : UInt8) : IntKind.u64.wrap (U8 x) = U64 x.toUInt64 := by
  rw [IntKind.wrap_u64]; simp only [U8, U64, UInt8.toNat_toUInt64]; have := x.toNat_lt; omega
theorem w_i64_u8 (x : UInt8) : IntKind.i64.wrap (U8 x) = U8 x := by
  rw [IntKind.wrap_i64]; have := u8_bd x; omega
theorem w_u8_u32 (x : UInt32) : IntKind.u8.wrap (U32 x) = U8 x.toUInt8 := by
  rw [IntKind.wrap_u8]; simp only [U8, U32, UInt32.toNat_toUInt8]; omega
theorem w_u8_u64 (x : UInt64) : IntKind.u8.wrap (U64 x) = U8 x.toUInt8 := by
  rw [IntKind.wrap_u8]; simp only [U8, U64, UInt64.toNat_toUInt8]; omega
theorem w_u32_u64 (x : UInt64) : IntKind.u32.wrap (U64 x) = U32 x.toUInt32 := by
  rw [IntKind.wrap_u32]; simp only [U32, U64, UInt64.toNat_toUInt32]; omega
theorem w_u64_u32 (x : UInt32) : IntKind.u64.wrap (U32 x) = U64 x.toUInt64 := by
  rw [IntKind.wrap_u64]; simp only [U32, U64, UInt32.toNat_toUInt64]; have := x.toNat_lt; omega
theorem w_u64_nat (n : Nat) : IntKind.u64.wrap (n : Int) = U64 (UInt64.ofNat n) := by rw [IntKind.wrap_u64, u64_ofNat]; omega
theorem w_u32_nat (n : Nat) : IntKind.u32.wrap (n : Int) = U32 (UInt32.ofNat n) := by rw [IntKind.wrap_u32, u32_ofNat]; omega
theorem w_u8_nat (n : Nat) : IntKind.u8.wrap (n : Int) = U8 (UInt8.ofNat n) := by rw [IntKind.wrap_u8, u8_ofNat]; omega
theorem w_u8_u8 (x : UInt8) : IntKind.u8.wrap (U8 x) = U8 x := by rw [IntKind.wrap_u8]; have := u8_bd x; omega
theorem w_u32_u32 (x : UInt32) : IntKind.u32.wrap (U32 x) = U32 x := by rw [IntKind.wrap_u32]; have := u32_bd x; omega
theorem w_u64_u64 (x : UInt64) : IntKind.u64.wrap (U64 x) = U64 x := by rw [IntKind.wrap_u64]; have := u64_bd x; omega

/-- a text's byte at a place -/
def nth (l : List UInt8) (i : Nat) : UInt8 := l[i]?.getD 0
theorem B_nth (l : List UInt8) (i : Nat) (h : i < (B l).size) : ((B l)[i]'h).toNat = (nth l i).toNat := B_get l i h
theorem run_index_B' {P : Program} (w : World) (t : TypeId) (l : List UInt8) (k : IntKind) (i : Int) (h : P.underlying t = some .string) :
    (Instr.index t (.string (B l)) (.int k i)).run P w =
      if 0 ≤ i ∧ i < (l.length : Int) then .ok (.int .u8 (U8 (nth l i.toNat))) w else (boundsPanic k i l.length .index).run P w := run_index_B w t l k i h
end Go.Proofs.YtmifllopcbjliaaDoor.V
