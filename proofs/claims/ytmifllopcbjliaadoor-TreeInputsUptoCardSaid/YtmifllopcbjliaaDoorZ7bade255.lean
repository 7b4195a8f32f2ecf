import Derived.WalkKit
import Derived.WalkSpells
import Derived.WalkLawsBesides
import Derived.Outline
import Derived.Deep.QuietTactic
import Derived.BigQuiet
import Derived.IntWalk
import Derived.Lib.Hide
import Derived.Deep.AppendSrc
import Derived.Lib.AppendZerosOnto
import Derived.Deep.LoopGhost
import Derived.Deep.RegionLaw
import Derived.Deep.DrawnRows
import Derived.Deep.RegionHeld3
import Derived.StillTailTactics
section
/- Strings as lists of bytes: a normal form for the walk, and what the operations on strings come to in it. -/
namespace Go.Proofs.YtmifllopcbjliaaDoor.V
open Go Go.RowKit

/-- a text, of its bytes -/
def B (l : List UInt8) : ByteArray := ⟨l.toArray⟩
theorem B_size (l : List UInt8) : (B l).size = l.length := by simp [B, ByteArray.size]
theorem B_toList (l : List UInt8) : (B l).toList = l := ByteArray.toList_mk l
theorem B_data (l : List UInt8) : (B l).data.toList = l := by simp [B]
theorem B_append (a b : List UInt8) : B a ++ B b = B (a ++ b) := ByteArray.mk_append_mk a b
theorem B_extract (l : List UInt8) (a b : Nat) : (B l).extract a b = B ((l.drop a).take (b - a)) := ByteArray.extract_mk l a b
theorem take_drop_len (l : List UInt8) (a : Nat) : List.take (l.length - a) (List.drop a l) = List.drop a l := List.take_of_length_le (by simp)
theorem mk_B (a : Array UInt8) : ByteArray.mk a = B a.toList := by simp [B]
theorem empty_B : ByteArray.empty = B [] := rfl
theorem exists_B (s : ByteArray) : ∃ l, s = B l := ⟨s.data.toList, by simp [B]⟩
theorem B_inj {a b : List UInt8} : B a = B b ↔ a = b := ⟨fun h => by rw [← B_toList a, ← B_toList b, h], fun h => by rw [h]⟩

/-- the byte at a place, as a number -/
def byteAt (l : List UInt8) (i : Nat) : Nat := (l[i]?.getD 0).toNat
theorem byteAt_lt (l : List UInt8) (i : Nat) : byteAt l i < 256 := (l[i]?.getD 0).toNat_lt

theorem B_get (l : List UInt8) (i : Nat) (h : i < (B l).size) : ((B l)[i]'h).toNat = byteAt l i := by
  have h' : i < l.length := by rw [← B_size]; exact h
  unfold byteAt
  rw [List.getElem?_eq_getElem h']
  simp only [Option.getD_some]
  congr 1

theorem run_index_B {P : Program} (w : World) (t : TypeId) (l : List UInt8) (k : IntKind) (i : Int) (h : P.underlying t = some .string) :
    (Instr.index t (.string (B l)) (.int k i)).run P w =
      if 0 ≤ i ∧ i < (l.length : Int) then .ok (.int .u8 (byteAt l i.toNat)) w else (boundsPanic k i l.length .index).run P w := by
  rw [run_index_string w t (B l) k i h]
  simp only [B_size]
  split
  · rw [B_get]
  · rfl
end Go.Proofs.YtmifllopcbjliaaDoor.V
end
section
/- Unsigned numbers of the program as Lean's own UInt8, UInt32, UInt64: what each operation comes to. -/
namespace Go.Proofs.YtmifllopcbjliaaDoor.V
open Go Go.RowKit

def U8 (x : UInt8) : Int := x.toNat
def U32 (x : UInt32) : Int := x.toNat
def U64 (x : UInt64) : Int := x.toNat
theorem u8_bd (x : UInt8) : 0 ≤ U8 x ∧ U8 x < 256 := ⟨Int.natCast_nonneg _, by unfold U8; have := x.toNat_lt; omega⟩
theorem u32_bd (x : UInt32) : 0 ≤ U32 x ∧ U32 x < 4294967296 := ⟨Int.natCast_nonneg _, by unfold U32; have := x.toNat_lt; omega⟩
theorem u64_bd (x : UInt64) : 0 ≤ U64 x ∧ U64 x < 18446744073709551616 := ⟨Int.natCast_nonneg _, by unfold U64; have := x.toNat_lt; omega⟩
theorem u8_inj {x y : UInt8} : U8 x = U8 y ↔ x = y := by unfold U8; rw [← UInt8.toNat_inj]; omega
theorem u32_inj {x y : UInt32} : U32 x = U32 y ↔ x = y := by unfold U32; rw [← UInt32.toNat_inj]; omega
theorem u64_inj {x y : UInt64} : U64 x = U64 y ↔ x = y := by unfold U64; rw [← UInt64.toNat_inj]; omega

/-- shifts by any number of places -/
def shl32 (x : UInt32) (n : Nat) : UInt32 := UInt32.ofNat (x.toNat * 2 ^ n)
def shr32 (x : UInt32) (n : Nat) : UInt32 := UInt32.ofNat (x.toNat / 2 ^ n)
def shl64 (x : UInt64) (n : Nat) : UInt64 := UInt64.ofNat (x.toNat * 2 ^ n)
def shr64 (x : UInt64) (n : Nat) : UInt64 := UInt64.ofNat (x.toNat / 2 ^ n)

theorem u8_ofNat (n : Nat) : U8 (UInt8.ofNat n) = ((n % 256 : Nat) : Int) := by simp [U8]
theorem u32_ofNat (n : Nat) : U32 (UInt32.ofNat n) = ((n % 4294967296 : Nat) : Int) := by simp [U32]
theorem u64_ofNat (n : Nat) : U64 (UInt64.ofNat n) = ((n % 18446744073709551616 : Nat) : Int) := by simp [U64]

/- sums, products, differences -/
theorem add32 (x y : UInt32) : Op.intArith .add .u32 (U32 x) (U32 y) = pure (.int .u32 (U32 (x + y))) := by
  simp only [Op.intArith, IntKind.wrap_u32, U32, UInt32.toNat_add]; congr 2
theorem sub32 (x y : UInt32) : Op.intArith .sub .u32 (U32 x) (U32 y) = pure (.int .u32 (U32 (x - y))) := by
  simp only [Op.intArith, IntKind.wrap_u32, U32, UInt32.toNat_sub]; congr 2; have := y.toNat_lt; omega
theorem mul32 (x y : UInt32) : Op.intArith .mul .u32 (U32 x) (U32 y) = pure (.int .u32 (U32 (x * y))) := by
  simp only [Op.intArith, IntKind.wrap_u32, U32, UInt32.toNat_mul]; congr 2
theorem add64 (x y : UInt64) : Op.intArith .add .u64 (U64 x) (U64 y) = pure (.int .u64 (U64 (x + y))) := by
  simp only [Op.intArith, IntKind.wrap_u64, U64, UInt64.toNat_add]; congr 2
theorem sub64 (x y : UInt64) : Op.intArith .sub .u64 (U64 x) (U64 y) = pure (.int .u64 (U64 (x - y))) := by
  simp only [Op.intArith, IntKind.wrap_u64, U64, UInt64.toNat_sub]; congr 2; have := y.toNat_lt; omega
theorem mul64 (x y : UInt64) : Op.intArith .mul .u64 (U64 x) (U64 y) = pure (.int .u64 (U64 (x * y))) := by
  simp only [Op.intArith, IntKind.wrap_u64, U64, UInt64.toNat_mul]; congr 2
theorem mul64_8 (x : UInt64) : Op.intArith .mul .u64 8 (U64 x) = pure (.int .u64 (U64 (8 * x))) := mul64 8 x
theorem lit64 (n : Nat) (h : n < 18446744073709551616) : U64 (UInt64.ofNat n) = n := by rw [u64_ofNat]; omega
theorem lit32 (n : Nat) (h : n < 4294967296) : U32 (UInt32.ofNat n) = n := by rw [u32_ofNat]; omega
theorem lit8 (n : Nat) (h : n < 256) : U8 (UInt8.ofNat n) = n := by rw [u8_ofNat]; omega

/- bits -/
theorem bits32 (op : BinOp) (f : UInt32 → UInt32 → UInt32) (x y : UInt32)
    (hf : ∀ a b : Nat, a < 4294967296 → b < 4294967296 → bits op .u32 (a : Int) (b : Int) = (((f (UInt32.ofNat a) (UInt32.ofNat b)).toNat : Nat) : Int)) :
    bits op .u32 (U32 x) (U32 y) = U32 (f x y) := by
  have := hf x.toNat y.toNat x.toNat_lt y.toNat_lt
  simp only [UInt32.ofNat_toNat] at this
  exact this
theorem and32 (x y : UInt32) : bits .and .u32 (U32 x) (U32 y) = U32 (x &&& y) :=
  bits32 _ (· &&& ·) x y fun a b ha hb => by rw [u32_and_nat a b ha hb, UInt32.toNat_and]; simp [Nat.mod_eq_of_lt ha, Nat.mod_eq_of_lt hb]
theorem or32 (x y : UInt32) : bits .or .u32 (U32 x) (U32 y) = U32 (x ||| y) :=
  bits32 _ (· ||| ·) x y fun a b ha hb => by rw [u32_or_nat a b ha hb, UInt32.toNat_or]; simp [Nat.mod_eq_of_lt ha, Nat.mod_eq_of_lt hb]
theorem xor32 (x y : UInt32) : bits .xor .u32 (U32 x) (U32 y) = U32 (x ^^^ y) :=
  bits32 _ (· ^^^ ·) x y fun a b ha hb => by rw [u32_xor_nat a b ha hb, UInt32.toNat_xor]; simp [Nat.mod_eq_of_lt ha, Nat.mod_eq_of_lt hb]
theorem bits64 (op : BinOp) (f : UInt64 → UInt64 → UInt64) (x y : UInt64)
    (hf : ∀ a b : Nat, a < 18446744073709551616 → b < 18446744073709551616 → bits op .u64 (a : Int) (b : Int) = (((f (UInt64.ofNat a) (UInt64.ofNat b)).toNat : Nat) : Int)) :
    bits op .u64 (U64 x) (U64 y) = U64 (f x y) := by
  have := hf x.toNat y.toNat x.toNat_lt y.toNat_lt
  simp only [UInt64.ofNat_toNat] at this
  exact this
theorem and64 (x y : UInt64) : bits .and .u64 (U64 x) (U64 y) = U64 (x &&& y) :=
  bits64 _ (· &&& ·) x y fun a b ha hb => by rw [u64_and_nat a b ha hb, UInt64.toNat_and]; simp [Nat.mod_eq_of_lt ha, Nat.mod_eq_of_lt hb]
theorem or64 (x y : UInt64) : bits .or .u64 (U64 x) (U64 y) = U64 (x ||| y) :=
  bits64 _ (· ||| ·) x y fun a b ha hb => by rw [u64_or_nat a b ha hb, UInt64.toNat_or]; simp [Nat.mod_eq_of_lt ha, Nat.mod_eq_of_lt hb]
theorem xor64 (x y : UInt64) : bits .xor .u64 (U64 x) (U64 y) = U64 (x ^^^ y) :=
  bits64 _ (· ^^^ ·) x y fun a b ha hb => by rw [u64_xor_nat a b ha hb, UInt64.toNat_xor]; simp [Nat.mod_eq_of_lt ha, Nat.mod_eq_of_lt hb]
/-- ^x, and x ^ 0xffffffff -/
theorem all32 : (4294967295 : Int) = U32 4294967295 := rfl

theorem not32 (x : UInt32) : Op.unary .xor (.int .u32 (U32 x)) = pure (.int .u32 (U32 (~~~x))) := by
  have h : bits .xor .u32 (U32 4294967295) (U32 x) = U32 (~~~x) := by
    rw [xor32]
    exact congrArg U32 (UInt32.eq_of_toBitVec_eq BitVec.allOnes_xor)
  show Op.intBits .xor .u32 IntKind.u32.max (U32 x) = _
  rw [intBits_xor, ← h]
  rfl
theorem sgn32 : IntKind.u32.signed = false := rfl
theorem sgn64 : IntKind.u64.signed = false := rfl
theorem not32' (x : UInt32) : bits .xor .u32 IntKind.u32.max (U32 x) = U32 (~~~x) := by
  have h := not32 x
  change Op.intBits .xor .u32 IntKind.u32.max (U32 x) = _ at h
  rw [intBits_xor] at h
  injection h with h
  injection h
theorem xor32_all (x : UInt32) : bits .xor .u32 (U32 x) 4294967295 = U32 (~~~x) := by
  rw [all32, xor32]
  exact congrArg U32 (UInt32.eq_of_toBitVec_eq BitVec.xor_allOnes)

/- shifts -/
theorem shl32_run (x : UInt32) (yk : IntKind) (y : Int) (h : 0 ≤ y) : Op.shift .shl .u32 (U32 x) yk y = pure (.int .u32 (U32 (shl32 x y.toNat))) := by
  unfold Op.shift
  rw [if_neg (by omega)]
  simp only [IntKind.wrap_u32, IntKind.bits, shl32, u32_ofNat]
  congr 2
  unfold U32
  by_cases hy : y.toNat ≤ 32
  · rw [Nat.min_eq_left hy]; rw [Int.natCast_emod, Int.natCast_mul, Int.natCast_pow]; rfl
  · rw [Nat.min_eq_right (by omega)]
    have e : ∀ m : Nat, 32 ≤ m → (x.toNat * 2 ^ m) % 4294967296 = 0 := fun m hm => by
      have hd : (2 : Nat) ^ 32 ∣ 2 ^ m := Nat.pow_dvd_pow 2 hm
      have hd' : (4294967296 : Nat) ∣ x.toNat * 2 ^ m := Nat.dvd_mul_left_of_dvd hd _
      exact Nat.mod_eq_zero_of_dvd hd'
    rw [e _ (by omega)]
    have := e 32 (Nat.le_refl _)
    omega
theorem shr32_run (x : UInt32) (yk : IntKind) (y : Int) (h : 0 ≤ y) : Op.shift .shr .u32 (U32 x) yk y = pure (.int .u32 (U32 (shr32 x y.toNat))) := by
  unfold Op.shift
  rw [if_neg (by omega)]
  simp only [IntKind.bits, shr32, u32_ofNat]
  congr 2
  unfold U32
  have hx := x.toNat_lt
  rw [Int.fdiv_eq_ediv_of_nonneg _ (by have := Int.natCast_nonneg (2 ^ min y.toNat 32 : Nat); push_cast at this; exact this)]
  by_cases hy : y.toNat ≤ 32
  · rw [Nat.min_eq_left hy, Nat.mod_eq_of_lt (Nat.lt_of_le_of_lt (Nat.div_le_self _ _) hx)]; norm_cast
  · rw [Nat.min_eq_right (by omega)]
    have e : ∀ m : Nat, 32 ≤ m → x.toNat / 2 ^ m = 0 := fun m hm => by
      apply Nat.div_eq_of_lt
      exact Nat.lt_of_lt_of_le hx (Nat.pow_le_pow_right (by decide) hm)
    rw [e _ (by omega)]
    have := e 32 (Nat.le_refl _)
    norm_cast
theorem shl64_run (x : UInt64) (yk : IntKind) (y : Int) (h : 0 ≤ y) : Op.shift .shl .u64 (U64 x) yk y = pure (.int .u64 (U64 (shl64 x y.toNat))) := by
  unfold Op.shift
  rw [if_neg (by omega)]
  simp only [IntKind.wrap_u64, IntKind.bits, shl64, u64_ofNat]
  congr 2
  unfold U64
  by_cases hy : y.toNat ≤ 64
  · rw [Nat.min_eq_left hy]; rw [Int.natCast_emod, Int.natCast_mul, Int.natCast_pow]; rfl
  · rw [Nat.min_eq_right (by omega)]
    have e : ∀ m : Nat, 64 ≤ m → (x.toNat * 2 ^ m) % 18446744073709551616 = 0 := fun m hm => by
      have hd : (2 : Nat) ^ 64 ∣ 2 ^ m := Nat.pow_dvd_pow 2 hm
      have hd' : (18446744073709551616 : Nat) ∣ x.toNat * 2 ^ m := Nat.dvd_mul_left_of_dvd hd _
      exact Nat.mod_eq_zero_of_dvd hd'
    rw [e _ (by omega)]
    have := e 64 (Nat.le_refl _)
    omega
theorem shr64_run (x : UInt64) (yk : IntKind) (y : Int) (h : 0 ≤ y) : Op.shift .shr .u64 (U64 x) yk y = pure (.int .u64 (U64 (shr64 x y.toNat))) := by
  unfold Op.shift
  rw [if_neg (by omega)]
  simp only [IntKind.bits, shr64, u64_ofNat]
  congr 2
  unfold U64
  have hx := x.toNat_lt
  rw [Int.fdiv_eq_ediv_of_nonneg _ (by have := Int.natCast_nonneg (2 ^ min y.toNat 64 : Nat); push_cast at this; exact this)]
  by_cases hy : y.toNat ≤ 64
  · rw [Nat.min_eq_left hy, Nat.mod_eq_of_lt (Nat.lt_of_le_of_lt (Nat.div_le_self _ _) hx)]; norm_cast
  · rw [Nat.min_eq_right (by omega)]
    have e : ∀ m : Nat, 64 ≤ m → x.toNat / 2 ^ m = 0 := fun m hm => by
      apply Nat.div_eq_of_lt
      exact Nat.lt_of_lt_of_le hx (Nat.pow_le_pow_right (by decide) hm)
    rw [e _ (by omega)]
    have := e 64 (Nat.le_refl _)
    norm_cast

/- from one kind to another -/
theorem w_u32_u8 (x : UInt8) : IntKind.u32.wrap (U8 x) = U32 x.toUInt32 := by
  rw [IntKind.wrap_u32]; simp only [U8, U32, UInt8.toNat_toUInt32]; have := x.toNat_lt; omega
theorem w_u64_u8 (x : UInt8) : IntKind.u64.wrap (U8 x) = U64 x.toUInt64 := by
  rw [IntKind.wrap_u64]; simp only [U8, U64, UInt8.toNat_toUInt64]; have := x.toNat_lt; omega
theorem w_i64_u8 (x : UInt8) : IntKind.i64.wrap (U8 x) = U8 x := by
  rw [IntKind.wrap_i64]; have := u8_bd x; omega
theorem w_u8_u32 (x : UInt32) : IntKind.u8.wrap (U32 x) = U8 x.toUInt8 := by
  rw [IntKind.wrap_u8]; simp only [U8, U32, UInt32.toNat_toUInt8]; omega
theorem w_u8_u64 (x : UInt64) : IntKind.u8.wrap (U64 x) = U8 x.toUInt8 := by
  rw [IntKind.wrap_u8]; simp only [U8, U64, UInt64.toNat_toUInt8]; omega
theorem w_u32_u64 (x : UInt64) : IntKind.u32.wrap (U64 x) = U32 x.toUInt32 := by
  rw [IntKind.wrap_u32]; simp only [U32, U64, UInt64.toNat_toUInt32]; omega
theorem w_u64_u32 (x : UInt32) : IntKind.u64.wrap (U32 x) = U64 x.toUInt64 := by
  rw [IntKind.wrap_u64]; simp only [U32, U64, UInt32.toNat_toUInt64]; have := x.toNat_lt; omega
theorem w_u64_nat (n : Nat) : IntKind.u64.wrap (n : Int) = U64 (UInt64.ofNat n) := by rw [IntKind.wrap_u64, u64_ofNat]; omega
theorem w_u32_nat (n : Nat) : IntKind.u32.wrap (n : Int) = U32 (UInt32.ofNat n) := by rw [IntKind.wrap_u32, u32_ofNat]; omega
theorem w_u8_nat (n : Nat) : IntKind.u8.wrap (n : Int) = U8 (UInt8.ofNat n) := by rw [IntKind.wrap_u8, u8_ofNat]; omega
theorem w_u8_u8 (x : UInt8) : IntKind.u8.wrap (U8 x) = U8 x := by rw [IntKind.wrap_u8]; have := u8_bd x; omega
theorem w_u32_u32 (x : UInt32) : IntKind.u32.wrap (U32 x) = U32 x := by rw [IntKind.wrap_u32]; have := u32_bd x; omega
theorem w_u64_u64 (x : UInt64) : IntKind.u64.wrap (U64 x) = U64 x := by rw [IntKind.wrap_u64]; have := u64_bd x; omega

/-- a text's byte at a place -/
def nth (l : List UInt8) (i : Nat) : UInt8 := l[i]?.getD 0
theorem B_nth (l : List UInt8) (i : Nat) (h : i < (B l).size) : ((B l)[i]'h).toNat = (nth l i).toNat := B_get l i h
theorem run_index_B' {P : Program} (w : World) (t : TypeId) (l : List UInt8) (k : IntKind) (i : Int) (h : P.underlying t = some .string) :
    (Instr.index t (.string (B l)) (.int k i)).run P w =
      if 0 ≤ i ∧ i < (l.length : Int) then .ok (.int .u8 (U8 (nth l i.toNat))) w else (boundsPanic k i l.length .index).run P w := run_index_B w t l k i h
end Go.Proofs.YtmifllopcbjliaaDoor.V
end
section
/- Memory: what a call leaves as it was; a row of cells that the play itself made, and what append makes of it, whatever is appended. -/
namespace Go.Proofs.YtmifllopcbjliaaDoor.V
open Go Go.RowKit

/-- All but the blocks of S, of those that there were, is as it was. -/
structure Fr (S : List Nat) (w w' : World) : Prop where
  os : w'.os = w.os
  tape : w'.tape = w.tape
  output : w'.output = w.output
  size : w.heap.size ≤ w'.heap.size
  block : ∀ k, k < w.heap.size → k ∉ S → w'.heap[k]? = w.heap[k]?

theorem Fr.refl (S : List Nat) (w : World) : Fr S w w := ⟨rfl, rfl, rfl, Nat.le_refl _, fun _ _ _ => rfl⟩
/-- what the second step writes is of S, or new since the first one began -/
theorem Fr.trans' {S T U : List Nat} {a b c : World} (h : Fr S a b) (k : Fr T b c) (hS : ∀ x ∈ S, x ∈ U ∨ a.heap.size ≤ x) (hT : ∀ x ∈ T, x ∈ U ∨ a.heap.size ≤ x) : Fr U a c :=
  ⟨k.os.trans h.os, k.tape.trans h.tape, k.output.trans h.output, Nat.le_trans h.size k.size, fun i hi hn =>
    (k.block i (Nat.lt_of_lt_of_le hi h.size) (fun ht => (hT i ht).elim hn (fun e => by omega))).trans (h.block i hi (fun hs => (hS i hs).elim hn (fun e => by omega)))⟩
theorem Fr.trans {S : List Nat} {a b c : World} (h : Fr S a b) (k : Fr S b c) : Fr S a c := h.trans' k (fun _ h => .inl h) (fun _ h => .inl h)
theorem Fr.mono {S T : List Nat} {a b : World} (h : Fr S a b) (hST : ∀ x ∈ S, x ∈ T ∨ a.heap.size ≤ x) : Fr T a b :=
  h.trans' (Fr.refl [] b) hST (fun _ h => by cases h)
theorem Fr.drew {S : List Nat} {a w : World} (h : Fr S a w) : Fr S a w.drew := ⟨h.os, h.tape, h.output, h.size, h.block⟩
theorem Fr.drewN {S : List Nat} {a w : World} (h : Fr S a w) (n : Nat) : Fr S a (w.drewN n) := ⟨h.os, h.tape, h.output, h.size, h.block⟩
theorem Fr.of_drewN (S : List Nat) (w : World) (n : Nat) : Fr S w (w.drewN n) := (Fr.refl S w).drewN n
theorem Fr.alloc {S : List Nat} {a w : World} (h : Fr S a w) (o : Obj) : Fr S a (w.alloc o) :=
  h.trans ⟨rfl, rfl, rfl, by simp, fun k hk _ => Below.heap_alloc w o k hk⟩
theorem Fr.setCell {S : List Nat} {a w : World} (h : Fr S a w) {p : Addr} (hp : p.block ∈ S ∨ a.heap.size ≤ p.block) (u : Value) : Fr S a (w.setCell p u) :=
  h.trans' (T := [p.block]) ⟨rfl, rfl, rfl, by simp, fun k _ hn => Below.heap_setCell _ _ _ _ (fun e => hn (by simp [e]))⟩ (fun _ h => .inl h) (fun x hx => by simp at hx; subst hx; exact hp)
theorem Fr.setRow {S : List Nat} {a w : World} (h : Fr S a w) {g : Nat} (hp : g ∈ S ∨ a.heap.size ≤ g) (cs : Array Value) : Fr S a (w.setRow g cs) :=
  h.trans' (T := [g]) ⟨rfl, rfl, rfl, by simp, fun k _ hn => setRow_other w g k cs (fun e => hn (by simp [e]))⟩ (fun _ h => .inl h) (fun x hx => by simp at hx; subst hx; exact hp)
theorem Fr.grown {S : List Nat} {a w w' : World} {row : Option Nat} (h : Fr S a w) (hg : w.grownBy w' row) (hr : ∀ k, row = some k → k ∈ S ∨ a.heap.size ≤ k) : Fr S a w' :=
  h.trans' (T := row.toList) ⟨hg.os, hg.tape, hg.output, hg.size, fun k hk hn => hg.block k hk (fun e => hn (by simp [← e]))⟩ (fun _ h => .inl h) (fun x hx => hr x (by simpa using hx))
theorem Fr.of_grown {w w' : World} {row : Option Nat} (hg : w.grownBy w' row) : Fr row.toList w w' :=
  (Fr.refl row.toList w).grown hg (fun k hk => .inl (by simp [hk]))
theorem Fr.to_grown {w w' : World} {row : Option Nat} (h : Fr row.toList w w') : w.grownBy w' row :=
  ⟨h.os, h.tape, h.output, h.size, fun k hk hn => h.block k hk (fun hm => hn (by simp at hm; exact hm.symm))⟩
theorem Fr.below {w w' : World} (h : Fr [] w w') : Below w.heap.size w w' := ⟨h.os, h.tape, h.output, h.size, fun k hk => h.block k hk (by simp)⟩
theorem Fr.cell {S : List Nat} {w w' : World} (h : Fr S w w') {b o : Nat} (hb : b < w.heap.size) (hn : b ∉ S) : w'.cell? ⟨b, o, none⟩ = w.cell? ⟨b, o, none⟩ :=
  World.cell?_of_block (w := w) (h.block b hb hn)
theorem Fr.frozen {S : List Nat} {w w' : World} (h : Fr S w w') {b o : Nat} (hb : b < w.heap.size) (hn : b ∉ S) : w'.frozen? ⟨b, o, none⟩ = w.frozen? ⟨b, o, none⟩ :=
  World.frozen?_of_block (w := w) (h.block b hb hn)

/-- an owned row stays owned -/
theorem Fr.own {S : List Nat} {w w' : World} (h : Fr S w w') {base : Nat} {e : TypeId} {size : Nat} {v : Value} {n : Nat} {xs : List Value} (ho : w.ownsRow base e size v n xs)
    (hne : ∀ k, v.ownBlock = some k → k ∉ S) : w'.ownsRow base e size v n xs := by
  refine ⟨ho.1, ?_⟩
  rcases ho.2 with hn | ⟨g, cap, cur, rfl, hb, hgg, rest⟩
  · exact .inl hn
  · refine .inr ⟨g, cap, cur, rfl, hb, ?_, rest⟩
    rw [h.block g (Array.getElem?_eq_some_iff.1 hgg).1 (hne g rfl)]
    exact hgg
theorem own_base {w : World} {base base' : Nat} {e : TypeId} {size : Nat} {v : Value} {n : Nat} {xs : List Value} (ho : w.ownsRow base e size v n xs) (h : base' ≤ base) : w.ownsRow base' e size v n xs := by
  refine ⟨ho.1, ?_⟩
  rcases ho.2 with hn | ⟨g, cap, cur, rfl, hb, r⟩
  · exact .inl hn
  · exact .inr ⟨g, cap, cur, rfl, by omega, r⟩

theorem heap_setCell {w : World} {g i : Nat} {cur : Array Value} {t : TypeId} {fr : Nat × Nat} (hg : w.heap[g]? = some (.cells cur t fr)) (v : Value) : (w.setCell ⟨g, i, none⟩ v).heap[g]? = some (.cells (cur.setIfInBounds i v) t fr) := by
  simp [World.setCell, Array.getElem?_modify, hg]
theorem heap_setCell_ne {w : World} {a : Addr} {k : Nat} (h : k ≠ a.block) (v : Value) : (w.setCell a v).heap[k]? = w.heap[k]? := Below.heap_setCell _ _ _ _ h
theorem heap_drew (w : World) : w.drew.heap = w.heap := rfl
theorem heap_drewN (w : World) (n : Nat) : (w.drewN n).heap = w.heap := rfl
section
variable {P : Program} (w : World)
theorem run_append_room_row (t tx ty e : TypeId) (i : TypeInfo) (ht : P.underlying t = some (.slice e)) (hi : P.info? e = some i) (g sLen sCap : Nat) (cur : Array Value) (hg : w.heap[g]? = some (.cells cur e (0, 0)))
    (x : Value) (n : Nat) (news : List Value) (hs : Src P i.size tx x n news w) (hroom : sLen + n ≤ sCap) (hfit : sLen * i.size + news.length ≤ cur.size) :
    (Builtin.append_ #[t, tx] ty #[.slice (some ⟨g, 0, none⟩) sLen sCap, x]).run P w =
      .ok (.slice (some ⟨g, 0, none⟩) (sLen + n) sCap) (w.setRow g (cur.toList.take (sLen * i.size) ++ news ++ cur.toList.drop (sLen * i.size + news.length)).toArray) := by
  have hst := run_storeCells_at P g (sLen * i.size) e news 0 cur w hg (by simpa using hfit) hs.one
  simp only [Nat.add_zero] at hst
  rcases hs.kind with ⟨e', hk⟩ | hk <;> simp [Builtin.append_, run_underlying ht, run_underlying hk, sizeOf, typeInfo, hi, hs.len, hroom, hs.cells, Addr.add_lit, hst]

/-- append onto a row of the play's own, whatever is appended -/
theorem run_append_any (base : Nat) (t tx ty e : TypeId) (i : TypeInfo) (z : Value) (size bytes : Nat) (ht : P.underlying t = some (.slice e)) (hi : P.info? e = some i) (hz : i.zero = some z)
    (hsize : i.size = size) (hby : i.bytes = bytes) (hzs : z.cells.size = size) (hsz : 0 < size)
    (v : Value) (n : Nat) (xs : List Value) (hown : w.ownsRow base e size v n xs) (x : Value) (m : Nat) (news : List Value) (hs : Src P size tx x m news w)
    (h63 : n + m ≤ maxLen) (hbytes : (n + m) * bytes ≤ 140737488355328) (hbase : base ≤ w.heap.size) :
    ∃ v' w', (Builtin.append_ #[t, tx] ty #[v, x]).run P w = .ok v' w' ∧ w'.ownsRow base e size v' (n + m) (xs ++ news) ∧ w.grownBy w' v.ownBlock ∧
      (v'.ownBlock = v.ownBlock ∨ v'.ownBlock = some w.heap.size) := by
  subst hsize
  subst hby
  have hsmall : ((n + m : Nat) : Int) ≤ 9223372036854775807 := by simp only [maxLen] at h63; omega
  have hl := hs.newsLen
  have hlen : (xs ++ news).length = (n + m) * i.size := by rw [List.length_append, hown.1, hl, Nat.add_mul]
  have grown : ∀ (old : Nat), old < n + m → ∀ (row : Option Nat),
      (w.drew.alloc (.cells ((xs ++ news).toArray ++ Builtin.zeroCells z.cells (grownCap w (n + m) old e - (n + m))) e)).ownsRow base e i.size
        (.slice (some ⟨w.heap.size, 0, none⟩) (n + m) (grownCap w (n + m) old e)) (n + m) (xs ++ news) ∧
      w.grownBy (w.drew.alloc (.cells ((xs ++ news).toArray ++ Builtin.zeroCells z.cells (grownCap w (n + m) old e - (n + m))) e)) row := by
    intro old ho row
    have hge := grownCap_ge w (n + m) old e
    have hcm : grownCap w (n + m) old e ≤ maxLen := grownCap_le_maxLen w (n + m) old e h63
    refine ⟨⟨hlen, .inr ⟨w.heap.size, _, _, rfl, hbase, heap_alloc_new w.drew _, hge, hcm, ?_, ?_⟩⟩, ⟨rfl, rfl, rfl, by simp, fun k hk _ => Below.heap_alloc w.drew _ k hk⟩⟩
    · simp only [Array.size_append, List.size_toArray, size_zeroCells, hzs, hlen, ← Nat.add_mul]
      congr 1
      omega
    · simp only [Array.toList_append]
      rw [← hlen]
      exact List.take_left
  rcases hown.2 with ⟨rfl, rfl⟩ | ⟨g, cap, cur, rfl, hbg, hg, hnc, hcm, hcs, htake⟩
  · have hx : xs = [] := List.eq_nil_of_length_eq_zero (by simpa using hown.1)
    subst hx
    by_cases hm : m = 0
    · subst hm
      have hn : news = [] := List.eq_nil_of_length_eq_zero (by simpa using hl)
      subst hn
      refine ⟨.slice none 0 0, w, ?_, World.ownsRow_nil w base e i.size, ⟨rfl, rfl, rfl, Nat.le_refl _, fun _ _ _ => rfl⟩, .inl rfl⟩
      rcases hs.kind with ⟨e', hk⟩ | hk <;> simp [Builtin.append_, run_underlying ht, run_underlying hk, sizeOf, typeInfo, hi, hs.len, hs.cells]
    · have hold : (Builtin.firstCells i.size 0 (.slice none 0 0)).run P w.drew = .ok ([] : List Value).toArray w.drew := by simp [Builtin.firstCells]
      have hr := run_append_grow_src (P := P) w t tx ty e i z ht hi hz none 0 0 [] hold x m news hs (by omega) (by omega) (growslice_fits (by omega) (by have hb := hbytes; simp only [Nat.zero_add] at hb ⊢; omega))
      have hgr := grown 0 (by omega) (Value.ownBlock (.slice none 0 0))
      simp only [Nat.zero_add, List.nil_append] at hgr hr ⊢
      exact ⟨_, _, hr, hgr.1, hgr.2, .inr rfl⟩
  · by_cases hroom : n + m ≤ cap
    · have hfit : n * i.size + news.length ≤ cur.size := by rw [hl, hcs, ← Nat.add_mul]; exact Nat.mul_le_mul_right _ hroom
      have hr := run_append_room_row (P := P) w t tx ty e i ht hi g n cap cur hg x m news hs hroom hfit
      refine ⟨_, _, hr, ⟨hlen, .inr ⟨g, cap, _, rfl, hbg, setRow_heap w g cur _ e _ hg, hroom, hcm, ?_, ?_⟩⟩, ⟨rfl, rfl, rfl, by simp, fun k _ hk => setRow_other w g k _ (fun e => hk (by simp [Value.ownBlock, e]))⟩, .inl rfl⟩
      · simp only [List.size_toArray, List.length_append, List.length_take, List.length_drop, Array.length_toList]
        omega
      · rw [htake, ← hlen]
        exact List.take_left
    · have holds : ∀ j u, xs[j]? = some u → w.drew.cell? ((⟨g, 0, none⟩ : Addr).add j) = some u := by simpa using hown.cells (g := g) rfl
      have hold : (Builtin.firstCells i.size n (.slice (some ⟨g, 0, none⟩) n cap)).run P w.drew = .ok xs.toArray w.drew := run_firstCells_some w.drew i.size n ⟨g, 0, none⟩ n cap xs hown.1 holds
      have hr := run_append_grow_src (P := P) w t tx ty e i z ht hi hz (some ⟨g, 0, none⟩) n cap xs hold x m news hs (by omega) hsmall (growslice_fits (by omega) hbytes)
      have hgr := grown cap (by omega) (Value.ownBlock (.slice (some ⟨g, 0, none⟩) n cap))
      exact ⟨_, _, hr, hgr.1, hgr.2, .inr rfl⟩

theorem wp_append_any {o : Oper} {a : Act} {K : Act → World → Prop} {Q : Exit → Act → World → Prop} (s x : Operand) (t tx : TypeId)
    (ho : o.op = .call { callee := .builtin .append, args := #[s, x], argTypes := #[t, tx] })
    (base : Nat) (e : TypeId) (i : TypeInfo) (z : Value) (size bytes : Nat) (ht : P.underlying t = some (.slice e)) (hi : P.info? e = some i) (hz : i.zero = some z)
    (hsize : i.size = size) (hby : i.bytes = bytes) (hzs : z.cells.size = size) (hsz : 0 < size)
    (v : Value) (n : Nat) (xs : List Value) (hv : a.eval s = v) (hown : w.ownsRow base e size v n xs)
    (xv : Value) (m : Nat) (news : List Value) (hx : a.eval x = xv) (hs : Src P size tx xv m news w)
    (h63 : n + m ≤ maxLen) (hbytes : (n + m) * bytes ≤ 140737488355328) (hbase : base ≤ w.heap.size)
    (h : ∀ v' w', w'.ownsRow base e size v' (n + m) (xs ++ news) → w.grownBy w' v.ownBlock → (v'.ownBlock = v.ownBlock ∨ v'.ownBlock = some w.heap.size) → K (a.put o.dst v') w') : o.wp P a w K Q := by
  obtain ⟨v', w', hr, h2, h3, h4⟩ := run_append_any (P := P) w base t tx o.type e i z size bytes ht hi hz hsize hby hzs hsz v n xs hown xv m news hs h63 hbytes hbase
  unfold Oper.wp execOp
  simp only [ho, resolve, invoke, builtin, Sem.run_bind, Sem.run_pure, Result.andThen_ok, List.map_toArray, List.map_cons, List.map_nil, hv, hx, hr]
  exact h v' w' h2 h3 h4
end

/-- append(b, make([]byte, m)...): noughts are appended -/
theorem zeroCells_one (z : Value) (m : Nat) : (Builtin.zeroCells #[z] m).toList = List.replicate m z := by
  apply List.ext_getElem?
  intro j
  by_cases hj : j < m
  · simp [Builtin.zeroCells, hj, Nat.mod_one]
  · simp [Builtin.zeroCells, hj]
theorem run_append_zeros {P : Program} (w : World) (base : Nat) (t tI ty e : TypeId) (k : IntKind) (i : TypeInfo) (z : Value) (bytes : Nat) (ht : P.underlying t = some (.slice e)) (hI : P.underlying tI = some (.int k)) (hi : P.info? e = some i) (hz : i.zero = some z)
    (hsize : i.size = 1) (hby : i.bytes = bytes) (hzs : z.cells = #[z]) (h1 : z.oneCell' = true)
    (v : Value) (n : Nat) (xs : List Value) (hown : w.ownsRow base e 1 v n xs) (m : Nat) (h63 : n + m ≤ maxLen) (hbytes : (n + m) * bytes ≤ 140737488355328) (hbase : base ≤ w.heap.size) :
    ∃ v' w', (Builtin.append_ #[t, tI] ty #[v, .int .i64 (m : Int)]).run P w = .ok v' w' ∧ w'.ownsRow base e 1 v' (n + m) (xs ++ List.replicate m z) ∧ w.grownBy w' v.ownBlock ∧
      (v'.ownBlock = v.ownBlock ∨ v'.ownBlock = some w.heap.size) := by
  subst hby
  have hsmall : ((n + m : Nat) : Int) ≤ 9223372036854775807 := by simp only [maxLen] at h63; omega
  have hlen : (xs ++ List.replicate m z).length = (n + m) * 1 := by rw [List.length_append, hown.1]; simp
  have hbm : m * i.bytes ≤ 281474976710656 := by
    have : m * i.bytes ≤ (n + m) * i.bytes := Nat.mul_le_mul_right _ (by omega)
    omega
  have zs : ∀ q, (Builtin.zeroCells z.cells q).toList = List.replicate q z := fun q => by rw [hzs, zeroCells_one]
  rcases hown.2 with ⟨rfl, rfl⟩ | ⟨g, cap, cur, rfl, hbg, hg, hnc, hcm, hcs, htake⟩
  · have hx : xs = [] := List.eq_nil_of_length_eq_zero (by simpa using hown.1)
    subst hx
    by_cases hm : m = 0
    · subst hm
      refine ⟨.slice none 0 0, w, ?_, World.ownsRow_nil w base e 1, ⟨rfl, rfl, rfl, Nat.le_refl _, fun _ _ _ => rfl⟩, .inl rfl⟩
      have hw0 : IntKind.i64.wrap 0 = 0 := rfl
      simp [Builtin.append_, run_underlying ht, run_underlying hI, sizeOf, typeInfo, hi, asInt, asIntOf, hw0]
    · have hr := Lib.run_append_nil_zeros (P := P) w t tI ty e i z .i64 k ht hI hi hz m (by omega) (by omega) (by simp at hsmall; omega) hbm
      refine ⟨_, _, hr, ⟨by simp, .inr ⟨w.heap.size, _, _, by simp, hbase, heap_alloc_new w.drew _, by simpa using grownCap_ge w m 0 e, grownCap_le_maxLen w m 0 e (by omega), ?_, ?_⟩⟩, ⟨rfl, rfl, rfl, by simp, fun k hk _ => Below.heap_alloc w.drew _ k hk⟩, .inr rfl⟩
      · have := grownCap_ge w m 0 e
        simp [size_zeroCells, hzs]; omega
      · simp [zs, List.take_replicate]
  · by_cases hroom : n + m ≤ cap
    · have hst := run_storeCells_at P g (n * 1) e (List.replicate m z) 0 cur w hg (by simp; omega) (fun u hu => by rw [List.eq_of_mem_replicate hu]; exact h1)
      simp only [Nat.add_zero, Nat.mul_one] at hst
      have hw : IntKind.i64.wrap (m : Int) = m := by rw [IntKind.wrap_i64]; omega
      have h0 : ¬ ((m : Int) < 0) := by omega
      have h48i : ¬ (281474976710656 < (m : Int) * (i.bytes : Int)) := by rw [← Int.natCast_mul]; omega
      refine ⟨.slice (some ⟨g, 0, none⟩) (n + m) cap, w.setRow g (cur.toList.take n ++ List.replicate m z ++ cur.toList.drop (n + m)).toArray, ?_, ⟨hlen, .inr ⟨g, cap, _, rfl, hbg, setRow_heap w g cur _ e _ hg, hroom, hcm, ?_, ?_⟩⟩, ⟨rfl, rfl, rfl, by simp, fun k _ hk => setRow_other w g k _ (fun e => hk (by simp [Value.ownBlock, e]))⟩, .inl rfl⟩
      · by_cases hm0 : m = 0
        · subst hm0
          have hw0 : IntKind.i64.wrap 0 = 0 := rfl
          simp only [List.replicate_zero] at hst
          simp [Builtin.append_, run_underlying ht, run_underlying hI, sizeOf, typeInfo, hi, asInt, asIntOf, hw0, hsize, hnc]
          simp [setRow_self w g cur e (0, 0) hg, storeCells]
        · simp only [List.length_replicate] at hst
          simp [Builtin.append_, run_underlying ht, run_underlying hI, sizeOf, typeInfo, hi, hz, zeroValue, asInt, asIntOf, hw, h0, h48i, hsize, hroom, hm0, Addr.add_lit, hzs]
          rw [show (Builtin.zeroCells #[z] m).toList = List.replicate m z from zeroCells_one z m]
          simp [hst]
      · simp only [List.size_toArray, List.length_append, List.length_take, List.length_drop, Array.length_toList, List.length_replicate]
        omega
      · rw [show cur.toList.take n = xs by rw [← htake, Nat.mul_one], ← hlen]
        exact List.take_left
    · have holds : ∀ j u, xs[j]? = some u → w.drew.cell? ((⟨g, 0, none⟩ : Addr).add j) = some u := by simpa using hown.cells (g := g) rfl
      have hold : (Builtin.firstCells i.size n (.slice (some ⟨g, 0, none⟩) n cap)).run P w.drew = .ok xs.toArray w.drew := by
        rw [hsize]
        exact run_firstCells_some w.drew 1 n ⟨g, 0, none⟩ n cap xs hown.1 holds
      have hr := Lib.run_append_grow_zeros (P := P) w t tI ty e i z .i64 k ht hI hi hz (some ⟨g, 0, none⟩) n cap xs hold m (by omega) (by omega) (by omega) hsmall hbm (growslice_fits (by omega) hbytes)
      have hxs : xs.length = n := by simpa using hown.1
      refine ⟨_, _, hr, ⟨hlen, .inr ⟨w.heap.size, _, _, rfl, hbase, heap_alloc_new w.drew _, grownCap_ge w (n + m) cap e, grownCap_le_maxLen w (n + m) cap e h63, ?_, ?_⟩⟩, ⟨rfl, rfl, rfl, by simp, fun k hk _ => Below.heap_alloc w.drew _ k hk⟩, .inr rfl⟩
      · have := grownCap_ge w (n + m) cap e
        simp [size_zeroCells, hzs, hxs]; omega
      · simp only [Array.toList_append, zs]
        rw [← hlen]
        exact List.take_left

theorem wp_append_zeros {P : Program} {w : World} {o : Oper} {a : Act} {K : Act → World → Prop} {Q : Exit → Act → World → Prop} (s x : Operand) (t tI : TypeId)
    (ho : o.op = .call { callee := .builtin .append, args := #[s, x], argTypes := #[t, tI] })
    (base : Nat) (e : TypeId) (k : IntKind) (i : TypeInfo) (z : Value) (bytes : Nat) (ht : P.underlying t = some (.slice e)) (hI : P.underlying tI = some (.int k)) (hi : P.info? e = some i) (hz : i.zero = some z)
    (hsize : i.size = 1) (hby : i.bytes = bytes) (hzs : z.cells = #[z]) (h1 : z.oneCell' = true)
    (v : Value) (n : Nat) (xs : List Value) (hv : a.eval s = v) (hown : w.ownsRow base e 1 v n xs) (m : Nat) (hx : a.eval x = .int .i64 (m : Int)) (h63 : n + m ≤ maxLen) (hbytes : (n + m) * bytes ≤ 140737488355328) (hbase : base ≤ w.heap.size)
    (h : ∀ v' w', w'.ownsRow base e 1 v' (n + m) (xs ++ List.replicate m z) → w.grownBy w' v.ownBlock → (v'.ownBlock = v.ownBlock ∨ v'.ownBlock = some w.heap.size) → K (a.put o.dst v') w') : o.wp P a w K Q := by
  obtain ⟨v', w', hr, h2, h3, h4⟩ := run_append_zeros (P := P) w base t tI o.type e k i z bytes ht hI hi hz hsize hby hzs h1 v n xs hown m h63 hbytes hbase
  exact Lib.wp_append_run w s x t tI ho v _ hv hx v' w' hr (h v' w' h2 h3 h4)

/-- copy within memory that is known: a law for a step of a region that draws its order, and for a plain one -/
theorem wp_copy_row {P : Program} {o : Oper} {a : Act} {w : World} {K : Act → World → Prop} {Q : Exit → Act → World → Prop} (d s : Operand) (dT sT : TypeId)
    (ho : o.op = .call { callee := .builtin .copy, args := #[d, s], argTypes := #[dT, sT] }) (elem : TypeId) (hu : P.underlying dT = some (.slice elem)) (hsz : (P.info? elem).map (·.size) = some 1)
    (g off dLen dCap : Nat) (ad : Addr) (sLen sCap : Nat) (hd : a.eval d = .slice (some ⟨g, off, none⟩) dLen dCap) (hs : a.eval s = .slice (some ad) sLen sCap)
    (cur : Array Value) (t : TypeId) (hg : w.heap[g]? = some (.cells cur t (0, 0))) (cs : List Value) (hn : cs.length = Nat.min sLen dLen)
    (hsrc : ∀ j v, cs[j]? = some v → w.cell? (ad.add j) = some v) (hfit : off + cs.length ≤ cur.size) (h1 : ∀ v ∈ cs, v.oneCell' = true)
    (h : ∀ w', w'.heap[g]? = some (.cells (cur.toList.take off ++ cs ++ cur.toList.drop (off + cs.length)).toArray t (0, 0)) → Fr [g] w w' → K (a.put o.dst (goInt cs.length)) w') : Oper.wp P o a w K Q := by
  have hrun := run_copy_row (P := P) w dT sT o.type elem g off dLen dCap ad sLen sCap cur t cs hu hsz hg hn hsrc hfit h1
  unfold Oper.wp execOp
  simp only [ho, resolve, invoke, builtin, Sem.run_bind, Sem.run_pure, Result.andThen_ok, List.map_toArray, List.map_cons, List.map_nil, hd, hs, hrun]
  exact h _ (setRow_heap w g _ _ t _ hg) ((Fr.refl [g] w).setRow (.inl (by simp)) _)
theorem step_copy_row {P : Program} {ops : Array Oper} {o : Oper} {a : Act} {w : World} {K : Act → World → Prop} {Q : Exit → Act → World → Prop} {E : Prop} (hgd : o.guard = none) (d s : Operand) (dT sT : TypeId)
    (ho : o.op = .call { callee := .builtin .copy, args := #[d, s], argTypes := #[dT, sT] }) (elem : TypeId) (hu : P.underlying dT = some (.slice elem)) (hsz : (P.info? elem).map (·.size) = some 1)
    (g off dLen dCap : Nat) (ad : Addr) (sLen sCap : Nat) (hd : a.eval d = .slice (some ⟨g, off, none⟩) dLen dCap) (hs : a.eval s = .slice (some ad) sLen sCap)
    (cur : Array Value) (t : TypeId) (hg : w.heap[g]? = some (.cells cur t (0, 0))) (cs : List Value) (hn : cs.length = Nat.min sLen dLen)
    (hsrc : ∀ j v, cs[j]? = some v → w.cell? (ad.add j) = some v) (hfit : off + cs.length ≤ cur.size) (h1 : ∀ v ∈ cs, v.oneCell' = true)
    (h : ∀ w', w'.heap[g]? = some (.cells (cur.toList.take off ++ cs ++ cur.toList.drop (off + cs.length)).toArray t (0, 0)) → Fr [g] w w' → K (a.put o.dst (goInt cs.length)) w') :
    if Region.wanted o (yielded ops a.tmps) = true then Oper.wp P o a w K Q else E := by
  have hw : Region.wanted o (yielded ops a.tmps) = true := by simp [Region.wanted, hgd]
  rw [if_pos hw]
  exact wp_copy_row d s dT sT ho elem hu hsz g off dLen dCap ad sLen sCap hd hs cur t hg cs hn hsrc hfit h1 h

/-- the bytes of a text as cells -/
def bv (b : UInt8) : Value := .int .u8 (U8 b)
def bvs (l : List UInt8) : List Value := l.map bv
theorem bvs_length (l : List UInt8) : (bvs l).length = l.length := by simp [bvs]
theorem bvs_append (a b : List UInt8) : bvs (a ++ b) = bvs a ++ bvs b := by simp [bvs]
theorem bvs_one (l : List UInt8) : ∀ u ∈ bvs l, u.oneCell' = true := by
  intro u hu; obtain ⟨_, _, rfl⟩ := List.mem_map.1 hu; rfl
theorem byteCells_B (l : List UInt8) : byteCells (B l) = bvs l := by
  simp only [byteCells, bvs, B_data]
  rfl
theorem Src.text {P : Program} (w : World) {tx : TypeId} (hk : P.underlying tx = some .string) (l : List UInt8) : Src P 1 tx (.string (B l)) l.length (bvs l) w := by
  have := Src.ofString (P := P) w hk (B l)
  rwa [byteCells_B, B_size] at this


/-- string(b), b a row of bytes -/
theorem foldl_push (l : List UInt8) : ∀ acc : List UInt8, (l.map fun x => U8 x).foldl (fun (r : ByteArray) n => r.push (UInt8.ofNat n.toNat)) (B acc) = B (acc ++ l) := by
  induction l with
  | nil => intro acc; simp
  | cons x l ih =>
    intro acc
    have h : (B acc).push (UInt8.ofNat (U8 x).toNat) = B (acc ++ [x]) := by
      have : UInt8.ofNat (U8 x).toNat = x := by simp [U8]
      rw [this]
      simp [B, ByteArray.push]
    simp only [List.map_cons, List.foldl_cons, h]
    rw [ih]
    simp
theorem run_b2s {P : Program} (w : World) (src dst e : TypeId) (hs : P.underlying src = some (.slice e)) (he : P.underlying e = some (.int .u8)) (hd : P.underlying dst = some .string)
    (a : Addr) (c : Nat) (l : List UInt8) (hc : ∀ j v, (bvs l)[j]? = some v → w.cell? (a.add j) = some v) : (convert src dst (.slice (some a) l.length c)).run P w = .ok (.string (B l)) w := by
  rw [run_convert_bytes_string w src dst e _ _ _ hs he hd]
  have h := run_loadCells_list (P := P) w a (bvs l) hc
  rw [bvs_length] at h
  have h2 : (bvs l) = (l.map fun x => U8 x).map (Value.int .u8) := by simp only [bvs, List.map_map]; rfl
  rw [h2] at h
  rw [run_bytesToString w a _ c _ h]
  have := foldl_push l []
  rw [List.nil_append] at this
  rw [← this]
  rfl
theorem run_b2s_nil {P : Program} (w : World) (src dst e : TypeId) (hs : P.underlying src = some (.slice e)) (he : P.underlying e = some (.int .u8)) (hd : P.underlying dst = some .string)
    (l c : Nat) : (convert src dst (.slice none l c)).run P w = .ok (.string (B [])) w := by
  rw [run_convert_bytes_string w src dst e _ l c hs he hd]
  simp [Conv.bytesToString, empty_B]

/-- an array of one-cell elements, at an index -/
theorem run_index_arr {P : Program} (w : World) (t e : TypeId) (len : Nat) (i : TypeInfo) (ht : P.underlying t = some (.array len e)) (hi : P.info? e = some i) (hs : i.size = 1) (ha : ∀ w, (isAgg e).run P w = .ok false w)
    (cs : Array Value) (k : IntKind) (n : Nat) (v : Value) (hn : n < len) (hv : cs[n]? = some v) : (Instr.index t (.agg cs) (.int k (n : Int))).run P w = .ok v w := by
  have h1 : (0 : Int) ≤ n ∧ (n : Int) < (len : Int) := by omega
  simp [Instr.index, asIntOf, run_underlying ht, h1, sizeOf, typeInfo, hi, hs, part, ha, hv]
  intro h
  omega

/- a quiet region: a callee's contract, first and behind another quiet region -/
theorem quiet_add {P : Program} {f : FuncId} {args : Array Value} {w : World} {a n : Nat} {v : Value}
    (h : Calls P f args (w.drewN (a + n)) fun e w' => e = .returned v ∧ ∃ m, w' = (w.drewN (a + n)).drewN m) :
    Calls P f args (w.drewN (a + n)) fun e w'' => e = .returned v ∧ ∃ m, w'' = w.drewN (a + m) :=
  h.mono fun _ _ ⟨he, m, hm⟩ => ⟨he, n + m, by rw [hm, World.drewN_drewN, Nat.add_assoc]⟩
theorem quiet_add_left {P : Program} {f : FuncId} {args : Array Value} {w : World} {a n : Nat} {v : Value}
    (h : Calls P f args (w.drewN (a + n)) fun e w' => e = .returned v ∧ w.drewN (a + n) = w') :
    Calls P f args (w.drewN (a + n)) fun e w'' => e = .returned v ∧ ∃ m, w'' = w.drewN (a + m) :=
  h.mono fun _ _ ⟨he, hm⟩ => ⟨he, n, hm.symm⟩
theorem quiet_left {P : Program} {f : FuncId} {args : Array Value} {w : World} {n : Nat} {v : Value}
    (h : Calls P f args (w.drewN n) fun e w' => e = .returned v ∧ w.drewN n = w') : Calls P f args (w.drewN n) fun e w'' => e = .returned v ∧ ∃ m, w'' = w.drewN m :=
  h.mono fun _ _ ⟨he, hm⟩ => ⟨he, n, hm.symm⟩
theorem region_still {P : Program} {id : Nat} {Q : Exit → Act → World → Prop} {a : Act} {w : World} {l : List Oper} (n : Nat) (hm : P.follows .mixedOrders = true) (hB : Region.lexTailB .any l.toArray n = true)
    (h : wpStill P l.toArray w.drew (fun a' => wpList P l.toArray Q (l.drop n) a' w.drew) (l.take n) a) : (Code.region id l.toArray true).wp P Q a w := wp_region_still_tail n hm hB h
theorem still_left {P : Program} {f : FuncId} {args : Array Value} {w : World} {v : Value} (h : Calls P f args w fun e w' => e = .returned v ∧ w = w') :
    Calls P f args w fun e w' => e = .returned v ∧ w' = w := h.mono fun _ _ ⟨he, hw⟩ => ⟨he, hw.symm⟩
end Go.Proofs.YtmifllopcbjliaaDoor.V
end
section
/- An abstract reading of a play's state: values deep, memory by entries with names; what an operation comes to in it; a region in whatever order it is drawn. -/
namespace Go.Proofs.YtmifllopcbjliaaDoor.E
open Go Go.RowKit Go.Proofs.YtmifllopcbjliaaDoor.V

/-- abstract values -/
inductive AV where
  | v (x : Value)
  | agg (cs : List AV)
  | tup (vs : List AV)
  | sl (o : Option Nat) (n : Nat) (cs : List AV)
  | arr (id off n : Nat)
  | ptr (id off : Nat)
  | sptr (cs : List AV)
  | fn (f : Fn) (first caps : List AV)

/-- what the names stand for -/
structure Env where
  blk : Nat → Option Nat
  tip : Nat → Option Value

def Env.le (ρ ρ' : Env) : Prop := (∀ i b, ρ.blk i = some b → ρ'.blk i = some b) ∧ ∀ i v, ρ.tip i = some v → ρ'.tip i = some v
theorem Env.le_refl (ρ : Env) : ρ.le ρ := ⟨fun _ _ h => h, fun _ _ h => h⟩
theorem Env.le_trans {a b c : Env} (h : a.le b) (k : b.le c) : a.le c := ⟨fun _ _ x => k.1 _ _ (h.1 _ _ x), fun _ _ x => k.2 _ _ (h.2 _ _ x)⟩

/-- the value is what the abstract one says; N: cells that nobody writes any more -/
inductive VRel (N : Nat → Nat → Prop) (ρ : Env) (w : World) : AV → Value → Prop
  | v (x : Value) : VRel N ρ w (.v x) x
  | agg (cs : List AV) (vs : Array Value) (hs : vs.size = cs.length) (h : ∀ (i : Nat) (c : AV) (x : Value), cs[i]? = some c → vs[i]? = some x → VRel N ρ w c x) : VRel N ρ w (.agg cs) (.agg vs)
  | tup (cs : List AV) (vs : Array Value) (hs : vs.size = cs.length) (h : ∀ (i : Nat) (c : AV) (x : Value), cs[i]? = some c → vs[i]? = some x → VRel N ρ w c x) : VRel N ρ w (.tup cs) (.tuple vs)
  | sl (o : Option Nat) (n : Nat) (cs : List AV) (a : Option Addr) (cap : Nat) (vals : Nat → Value)
      (hc : ∀ i : Nat, i < cs.length → (vals i).oneCell' = true ∧ ∃ b off, a = some ⟨b, off, none⟩ ∧ w.cell? ⟨b, off + i, none⟩ = some (vals i) ∧ N b (off + i))
      (h : ∀ (i : Nat) (c : AV), cs[i]? = some c → VRel N ρ w c (vals i)) (ho : ∀ k, o = some k → ρ.tip k = some (.slice a n cap)) (hn : n ≤ cap) (hz : a = none → n = 0) (hm : cap ≤ maxLen) : VRel N ρ w (.sl o n cs) (.slice a n cap)
  | arr (id off n cap b : Nat) (hb : ρ.blk id = some b) (hn : n ≤ cap) (hm : cap ≤ maxLen) : VRel N ρ w (.arr id off n) (.slice (some ⟨b, off, none⟩) n cap)
  | ptr (id off b : Nat) (hb : ρ.blk id = some b) : VRel N ρ w (.ptr id off) (.pointer (some ⟨b, off, none⟩))
  | sptr (cs : List AV) (b off : Nat) (vals : Nat → Value) (hc : ∀ i : Nat, i < cs.length → w.cell? ⟨b, off + i, none⟩ = some (vals i) ∧ N b (off + i))
      (h : ∀ (i : Nat) (c : AV), cs[i]? = some c → VRel N ρ w c (vals i)) : VRel N ρ w (.sptr cs) (.pointer (some ⟨b, off, none⟩))
  | fn (f : Fn) (fs cs : List AV) (vs us : Array Value) (hs : vs.size = fs.length) (h : ∀ (i : Nat) (c : AV) (x : Value), fs[i]? = some c → vs[i]? = some x → VRel N ρ w c x)
      (hs' : us.size = cs.length) (h' : ∀ (i : Nat) (c : AV) (x : Value), cs[i]? = some c → us[i]? = some x → VRel N ρ w c x) : VRel N ρ w (.fn f fs cs) (.func f vs us)

theorem VRel.mono {N N' : Nat → Nat → Prop} {ρ ρ' : Env} {w w' : World} (hN : ∀ b o, N b o → N' b o) (hρ : ρ.le ρ') (hw : ∀ b o, N b o → w'.cell? ⟨b, o, none⟩ = w.cell? ⟨b, o, none⟩)
    {av : AV} {x : Value} (h : VRel N ρ w av x) : VRel N' ρ' w' av x := by
  induction h with
  | v x => exact .v x
  | agg cs vs hs _ ih => exact .agg cs vs hs ih
  | tup cs vs hs _ ih => exact .tup cs vs hs ih
  | sl o n cs a cap vals hc _ ho hn hz hm ih =>
    exact .sl o n cs a cap vals (fun i hi => by obtain ⟨h1, b, off, ha, hx, hnn⟩ := hc i hi; exact ⟨h1, b, off, ha, (hw _ _ hnn).trans hx, hN _ _ hnn⟩) ih (fun k hk => hρ.2 _ _ (ho k hk)) hn hz hm
  | arr id off n cap b hb hn hm => exact .arr id off n cap b (hρ.1 _ _ hb) hn hm
  | ptr id off b hb => exact .ptr id off b (hρ.1 _ _ hb)
  | sptr cs b off vals hc _ ih => exact .sptr cs b off vals (fun i hi => ⟨(hw _ _ (hc i hi).2).trans (hc i hi).1, hN _ _ (hc i hi).2⟩) ih
  | fn f fs cs vs us hs _ hs' _ ih ih' => exact .fn f fs cs vs us hs ih hs' ih'

/-- entries of memory -/
inductive AO where
  | cells (T : TypeId) (cs : List AV)
  | tip (E : TypeId) (sz n : Nat)

/-- the entry may write that cell -/
def AO.wr (ρ : Env) (i : Nat) : AO → Nat → Nat → Prop
  | .cells _ _, b, _ => ρ.blk i = some b
  | .tip _ sz n, b, o => ∃ cap, ρ.tip i = some (.slice (some ⟨b, 0, none⟩) n cap) ∧ n * sz ≤ o
/-- the entry's block -/
def AO.at_ (ρ : Env) (i : Nat) : AO → Nat → Prop
  | .cells _ _, b => ρ.blk i = some b
  | .tip _ _ n, b => ∃ cap, ρ.tip i = some (.slice (some ⟨b, 0, none⟩) n cap)
theorem AO.at_of_wr {ρ : Env} {i b o : Nat} {ob : AO} (h : ob.wr ρ i b o) : ob.at_ ρ i b := by
  cases ob with
  | cells => exact h
  | tip => exact ⟨h.choose, h.choose_spec.1⟩

def ORel (N : Nat → Nat → Prop) (ρ : Env) (w : World) (i : Nat) : AO → Prop
  | .cells T cs => ∃ b arr, ρ.blk i = some b ∧ w.heap[b]? = some (.cells arr T (0, 0)) ∧ cs.length ≤ arr.size ∧ ∀ (j : Nat) (c : AV) (x : Value), cs[j]? = some c → arr[j]? = some x → VRel N ρ w c x ∧ x.oneCell' = true
  | .tip E sz n => (ρ.tip i = some (.slice none 0 0) ∧ n = 0) ∨ ∃ g cap cur, ρ.tip i = some (.slice (some ⟨g, 0, none⟩) n cap) ∧ w.heap[g]? = some (.cells cur E (0, 0)) ∧ n ≤ cap ∧ cap ≤ maxLen ∧ cur.size = cap * sz
theorem ORel.lt {N : Nat → Nat → Prop} {ρ : Env} {w : World} {i b : Nat} {ob : AO} (h : ORel N ρ w i ob) (hb : ob.at_ ρ i b) : b < w.heap.size := by
  cases ob with
  | cells T cs =>
    obtain ⟨b', arr, h1, h2, -⟩ := h
    have hb' : ρ.blk i = some b := hb
    rw [h1] at hb'
    cases hb'
    exact (Array.getElem?_eq_some_iff.1 h2).1
  | tip E sz n =>
    obtain ⟨cap, hb⟩ := hb
    rcases h with ⟨h1, -⟩ | ⟨g, cap', cur, h1, h2, -⟩
    · rw [h1] at hb; cases hb
    · rw [h1] at hb
      cases hb
      exact (Array.getElem?_eq_some_iff.1 h2).1
theorem AO.at_mono {ρ ρ' : Env} (hρ : ρ.le ρ') {i b : Nat} {ob : AO} (h : ob.at_ ρ i b) : ob.at_ ρ' i b := by
  cases ob with
  | cells => exact hρ.1 _ _ h
  | tip => exact ⟨h.choose, hρ.2 _ _ h.choose_spec⟩
theorem ORel.at_back {N : Nat → Nat → Prop} {ρ ρ' : Env} {w : World} {i b : Nat} {ob : AO} (hρ : ρ.le ρ') (h : ORel N ρ w i ob) (hb : ob.at_ ρ' i b) : ob.at_ ρ i b := by
  cases ob with
  | cells T cs =>
    obtain ⟨b', arr, h1, -⟩ := h
    have hb' : ρ'.blk i = some b := hb
    rw [hρ.1 _ _ h1] at hb'
    cases hb'
    exact h1
  | tip E sz n =>
    obtain ⟨cap, hb⟩ := hb
    rcases h with ⟨h1, -⟩ | ⟨g, cap', cur, h1, -⟩ <;> rw [hρ.2 _ _ h1] at hb <;> cases hb
    exact ⟨cap, h1⟩
theorem ORel.wr_back {N : Nat → Nat → Prop} {ρ ρ' : Env} {w : World} {i b o : Nat} {ob : AO} (hρ : ρ.le ρ') (h : ORel N ρ w i ob) (hb : ob.wr ρ' i b o) : ob.wr ρ i b o := by
  cases ob with
  | cells T cs => exact h.at_back (ob := .cells T cs) hρ hb
  | tip E sz n =>
    obtain ⟨cap, hb, ho⟩ := hb
    rcases h with ⟨h1, -⟩ | ⟨g, cap', cur, h1, -⟩ <;> rw [hρ.2 _ _ h1] at hb <;> cases hb
    exact ⟨cap, h1, ho⟩
theorem ORel.keep {N N' : Nat → Nat → Prop} {ρ ρ' : Env} {w w' : World} {i : Nat} {ob : AO} (h : ORel N ρ w i ob) (hρ : ρ.le ρ') (hV : ∀ av x, VRel N ρ w av x → VRel N' ρ' w' av x)
    (hb : ∀ b, ob.at_ ρ i b → w'.heap[b]? = w.heap[b]?) : ORel N' ρ' w' i ob := by
  cases ob with
  | cells T cs =>
    obtain ⟨b, arr, h1, h2, h3, h4⟩ := h
    exact ⟨b, arr, hρ.1 _ _ h1, (hb b h1).trans h2, h3, fun j c x hc hx => ⟨hV _ _ (h4 j c x hc hx).1, (h4 j c x hc hx).2⟩⟩
  | tip E sz n =>
    rcases h with ⟨h1, h2⟩ | ⟨g, cap, cur, h1, h2, h3⟩
    · exact .inl ⟨hρ.2 _ _ h1, h2⟩
    · exact .inr ⟨g, cap, cur, hρ.2 _ _ h1, (hb g ⟨cap, h1⟩).trans h2, h3⟩

/-- what a play stands in: the world in which it began, cells that nobody writes, cells that it may write, tables, names' meanings -/
structure Amb where
  w : World
  N : Nat → Nat → Prop
  W : Nat → Nat → Prop
  B : Nat → Prop
  nA : Nat
  G : List (Nat × Array Value)
  ρ : Env

def Nh (A : Amb) (h : Nat → Option AO) (ρ : Env) (w : World) (b o : Nat) : Prop :=
  b < w.heap.size ∧ (A.N b o ∨ A.W b o ∨ A.w.heap.size ≤ b) ∧ ∀ i ob, h i = some ob → ¬ ob.wr ρ i b o

structure HSat (A : Amb) (ρ : Env) (h : Nat → Option AO) (u : Nat → Bool) (w : World) : Prop where
  os : w.os = A.w.os
  tape : w.tape = A.w.tape
  output : w.output = A.w.output
  size : A.w.heap.size ≤ w.heap.size
  block : ∀ b, b < A.w.heap.size → ¬ A.B b → w.heap[b]? = A.w.heap[b]?
  keep : ∀ b o, A.N b o → w.cell? ⟨b, o, none⟩ = A.w.cell? ⟨b, o, none⟩
  nlt : ∀ b o, A.N b o → b < A.w.heap.size
  nw : ∀ b o, A.N b o → ¬ A.W b o
  wb : ∀ b o, A.W b o → A.B b
  tabs : ∀ x ∈ A.G, (∃ T, A.w.heap[x.1]? = some (.cells x.2 T (0, 0))) ∧ ¬ A.B x.1
  domB : ∀ i b, A.ρ.blk i = some b → i < A.nA
  domT : ∀ i v, A.ρ.tip i = some v → i < A.nA
  fix : ∀ i, i < A.nA → u i = true ∧ ρ.blk i = A.ρ.blk i ∧ ρ.tip i = A.ρ.tip i
  usedB : ∀ i b, ρ.blk i = some b → u i = true
  usedT : ∀ i v, ρ.tip i = some v → u i = true
  heap : ∀ i ob, h i = some ob → ORel (Nh A h ρ w) ρ w i ob
  own : ∀ i ob b o, h i = some ob → ob.wr ρ i b o → A.W b o ∨ A.w.heap.size ≤ b
  ownB : ∀ i ob b, h i = some ob → ob.at_ ρ i b → A.B b ∨ A.w.heap.size ≤ b
  sep : ∀ i j oi oj b, h i = some oi → h j = some oj → oi.at_ ρ i b → oj.at_ ρ j b → i = j

theorem HSat.le {A : Amb} {ρ : Env} {h : Nat → Option AO} {u : Nat → Bool} {w : World} (H : HSat A ρ h u w) : A.ρ.le ρ :=
  ⟨fun i b hb => by rw [(H.fix i (H.domB i b hb)).2.1]; exact hb, fun i b hb => by rw [(H.fix i (H.domT i b hb)).2.2]; exact hb⟩
/-- the next state of memory -/
theorem HSat.next {A : Amb} {ρ ρ' : Env} {h h' : Nat → Option AO} {u u' : Nat → Bool} {w w' : World} (H : HSat A ρ h u w)
    (os : w'.os = w.os) (tape : w'.tape = w.tape) (output : w'.output = w.output) (size : w.heap.size ≤ w'.heap.size) (fresh : ∀ i, u i = true → u' i = true ∧ ρ'.blk i = ρ.blk i ∧ ρ'.tip i = ρ.tip i)
    (usedB : ∀ i b, ρ'.blk i = some b → u' i = true) (usedT : ∀ i v, ρ'.tip i = some v → u' i = true)
    (block : ∀ b, b < w.heap.size → (∀ i ob, h i = some ob → ¬ ob.at_ ρ i b) → w'.heap[b]? = w.heap[b]?)
    (cells : ∀ b o, Nh A h ρ w b o → w'.cell? ⟨b, o, none⟩ = w.cell? ⟨b, o, none⟩)
    (own : ∀ i ob b o, h' i = some ob → ob.wr ρ' i b o → (∃ j oj, h j = some oj ∧ oj.wr ρ j b o) ∨ w.heap.size ≤ b)
    (ownB : ∀ i ob b, h' i = some ob → ob.at_ ρ' i b → (∃ j oj, h j = some oj ∧ oj.at_ ρ j b) ∨ w.heap.size ≤ b)
    (sep : ∀ i j oi oj b, h' i = some oi → h' j = some oj → oi.at_ ρ' i b → oj.at_ ρ' j b → i = j)
    (heap : (∀ av x, VRel (Nh A h ρ w) ρ w av x → VRel (Nh A h' ρ' w') ρ' w' av x) → ∀ i ob, h' i = some ob → ORel (Nh A h' ρ' w') ρ' w' i ob) :
    HSat A ρ' h' u' w' ∧ ∀ av x, VRel (Nh A h ρ w) ρ w av x → VRel (Nh A h' ρ' w') ρ' w' av x := by
  have hN : ∀ b o, Nh A h ρ w b o → Nh A h' ρ' w' b o := fun b o ⟨h1, h2, h3⟩ =>
    ⟨Nat.lt_of_lt_of_le h1 size, h2, fun i ob hi hw => (own i ob b o hi hw).elim (fun ⟨j, oj, hj, hwj⟩ => h3 j oj hj hwj) (fun hle => by omega)⟩
  have le : ρ.le ρ' := ⟨fun i b hb => by rw [(fresh i (H.usedB i b hb)).2.1]; exact hb, fun i b hb => by rw [(fresh i (H.usedT i b hb)).2.2]; exact hb⟩
  have hV : ∀ av x, VRel (Nh A h ρ w) ρ w av x → VRel (Nh A h' ρ' w') ρ' w' av x := fun av x hx => hx.mono hN le cells
  refine ⟨⟨os.trans H.os, tape.trans H.tape, output.trans H.output, Nat.le_trans H.size size, ?_, ?_, H.nlt, H.nw, H.wb, H.tabs, H.domB, H.domT, ?_, usedB, usedT, heap hV, ?_, ?_, sep⟩, hV⟩
  · intro b hb hw
    refine (block b (Nat.lt_of_lt_of_le hb H.size) (fun i ob hi hwr => ?_)).trans (H.block b hb hw)
    exact (H.ownB i ob b hi hwr).elim hw (fun hle => by omega)
  · intro b o hn
    refine (cells b o ⟨Nat.lt_of_lt_of_le (H.nlt b o hn) H.size, .inl hn, fun i ob hi hwr => ?_⟩).trans (H.keep b o hn)
    exact (H.own i ob b o hi hwr).elim (H.nw b o hn) (fun hle => by have := H.nlt b o hn; omega)
  · intro i hi
    obtain ⟨h1, h2, h3⟩ := H.fix i hi
    obtain ⟨k1, k2, k3⟩ := fresh i h1
    exact ⟨k1, k2.trans h2, k3.trans h3⟩
  · intro i ob b o hi hwr
    rcases own i ob b o hi hwr with ⟨j, oj, hj, hwj⟩ | hle
    · exact H.own j oj b o hj hwj
    · exact .inr (Nat.le_trans H.size hle)
  · intro i ob b hi hwr
    rcases ownB i ob b hi hwr with ⟨j, oj, hj, hwj⟩ | hle
    · exact H.ownB j oj b hj hwj
    · exact .inr (Nat.le_trans H.size hle)

/-- nothing of memory has changed -/
theorem HSat.same {A : Amb} {ρ : Env} {h : Nat → Option AO} {u : Nat → Bool} {w w' : World} (H : HSat A ρ h u w) (os : w'.os = w.os) (tape : w'.tape = w.tape) (output : w'.output = w.output) (hh : w'.heap = w.heap) :
    HSat A ρ h u w' ∧ ∀ av x, VRel (Nh A h ρ w) ρ w av x → VRel (Nh A h ρ w') ρ w' av x := by
  have hc : ∀ a, w'.cell? a = w.cell? a := fun a => by simp only [World.cell?, hh]
  refine H.next os tape output (by rw [hh]; exact Nat.le_refl _) (fun i hi => ⟨hi, rfl, rfl⟩) H.usedB H.usedT (fun b _ _ => by rw [hh]) (fun b o _ => hc _) (fun i ob b o hi hw => .inl ⟨i, ob, hi, hw⟩) (fun i ob b hi hw => .inl ⟨i, ob, hi, hw⟩) H.sep ?_
  intro hV i ob hi
  exact (H.heap i ob hi).keep (Env.le_refl ρ) hV (fun b _ => by rw [hh])

/-- names' slots and entries -/
structure AS where
  n : Nat
  s : Nat → Option AV
  h : Nat → Option AO
  u : Nat → Bool

structure Sat (A : Amb) (ρ : Env) (σ : AS) (a : Act) (w : World) : Prop where
  mem : HSat A ρ σ.h σ.u w
  slots : ∀ t v, σ.s t = some v → ∃ x, a.tmps[t]? = some x ∧ VRel (Nh A σ.h ρ w) ρ w v x
  nt : a.tmps.size = σ.n
  defers : a.defers = []

def upd {α : Type} (f : Nat → Option α) (k : Nat) (x : Option α) : Nat → Option α := fun i => bif Nat.beq i k then x else f i
theorem upd_same {α : Type} (f : Nat → Option α) (k : Nat) (x : Option α) : upd f k x k = x := by simp [upd]
theorem upd_ne {α : Type} (f : Nat → Option α) {k i : Nat} (x : Option α) (h : i ≠ k) : upd f k x i = f i := by
  have : Nat.beq i k = false := by rw [← Bool.not_eq_true, Nat.beq_eq]; exact h
  simp [upd, this]
theorem upd_eq_some {α : Type} {f : Nat → Option α} {k i : Nat} {x : Option α} {y : α} (h : upd f k x i = some y) : (i = k ∧ x = some y) ∨ (i ≠ k ∧ f i = some y) := by
  by_cases hi : i = k
  · subst hi; rw [upd_same] at h; exact .inl ⟨rfl, h⟩
  · rw [upd_ne f x hi] at h; exact .inr ⟨hi, h⟩
theorem upd_comm {α : Type} (f : Nat → Option α) {k j : Nat} (x y : Option α) (h : k ≠ j) : upd (upd f k x) j y = upd (upd f j y) k x := by
  funext i
  by_cases h1 : i = k
  · subst h1; rw [upd_ne _ _ h, upd_same, upd_same]
  · by_cases h2 : i = j
    · subst h2; rw [upd_same, upd_ne _ _ h1, upd_same]
    · rw [upd_ne _ _ h2, upd_ne _ _ h1, upd_ne _ _ h1, upd_ne _ _ h2]
end Go.Proofs.YtmifllopcbjliaaDoor.E
end
