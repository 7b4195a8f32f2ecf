import Derived.WalkKit
import Derived.WalkSpells
import Derived.WalkLawsBesides
import Derived.Outline
import Derived.Deep.QuietTactic
import Derived.BigQuiet
import Derived.IntWalk
import Derived.Lib.Hide
import Derived.Deep.AppendSrc
import Derived.Lib.AppendZerosOnto
import Derived.Deep.LoopGhost
import Derived.Deep.RegionLaw
import Derived.Deep.DrawnRows
import Derived.Deep.RegionHeld3
import Derived.StillTailTactics
namespace Go.Proofs.YtpnbpcopdckgpaaGreatDoor.V
open Go Go.RowKit
def B (l : List UInt8) : ByteArray := ⟨l.toArray⟩
theorem B_size (l : List UInt8) : (B l).size = l.length := by simp [B, ByteArray.size]
theorem B_toList (l : List UInt8) : (B l).toList = l := ByteArray.toList_mk l
theorem B_data (l : List UInt8) : (B l).data.toList = l := by simp [B]
theorem B_append (a b : List UInt8) : B a ++ B b = B (a ++ b) := ByteArray.mk_append_mk a b
theorem B_extract (l : List UInt8) (a b : Nat) : (B l).extract a b = B ((l.drop a).take (b - a)) := ByteArray.extract_mk l a b
theorem take_drop_len (l : List UInt8) (a : Nat) : List.take (l.length - a) (List.drop a l) = List.drop a l := List.take_of_length_le (by simp)
theorem mk_B (a : Array UInt8) : ByteArray.mk a = B a.toList := by simp [B]
theorem empty_B : ByteArray.empty = B [] := rfl
theorem exists_B (s : ByteArray) : ∃ l, s = B l := ⟨s.data.toList, by simp [B]⟩
def byteAt (l : List UInt8) (i : Nat) : Nat := (l[i]?.getD 0).toNat
theorem B_get (l : List UInt8) (i : Nat) (h : i < (B l).size) : ((B l)[i]'h).toNat = byteAt l i := by
 have h' : i < l.length := by rw [← B_size]; exact h
 unfold byteAt
 rw [List.getElem?_eq_getElem h']
 simp only [Option.getD_some]
 congr 1
theorem run_index_B {P : Program} (w : World) (t : TypeId) (l : List UInt8) (k : IntKind) (i : Int) (h : P.underlying t = some .string) :
  (Instr.index t (.string (B l)) (.int k i)).run P w =
   if 0 ≤ i ∧ i < (l.length : Int) then .ok (.int .u8 (byteAt l i.toNat)) w else (boundsPanic k i l.length .index).run P w := by
 rw [run_index_string w t (B l) k i h]
 simp only [B_size]
 split
 · rw [B_get]
 rfl
def U8 (x : UInt8) : Int := x.toNat
def U32 (x : UInt32) : Int := x.toNat
def U64 (x : UInt64) : Int := x.toNat
theorem u8_bd (x : UInt8) : 0 ≤ U8 x ∧ U8 x < 256 := ⟨Int.natCast_nonneg _, by unfold U8; have := x.toNat_lt; omega⟩
theorem u32_bd (x : UInt32) : 0 ≤ U32 x ∧ U32 x < 4294967296 := ⟨Int.natCast_nonneg _, by unfold U32; have := x.toNat_lt; omega⟩
theorem u64_bd (x : UInt64) : 0 ≤ U64 x ∧ U64 x < 18446744073709551616 := ⟨Int.natCast_nonneg _, by unfold U64; have := x.toNat_lt; omega⟩
def shl32 (x : UInt32) (n : Nat) : UInt32 := UInt32.ofNat (x.toNat * 2 ^ n)
def shr32 (x : UInt32) (n : Nat) : UInt32 := UInt32.ofNat (x.toNat / 2 ^ n)
def shl64 (x : UInt64) (n : Nat) : UInt64 := UInt64.ofNat (x.toNat * 2 ^ n)
def shr64 (x : UInt64) (n : Nat) : UInt64 := UInt64.ofNat (x.toNat / 2 ^ n)
theorem u8_ofNat (n : Nat) : U8 (UInt8.ofNat n) = ((n % 256 : Nat) : Int) := by simp [U8]
theorem u32_ofNat (n : Nat) : U32 (UInt32.ofNat n) = ((n % 4294967296 : Nat) : Int) := by simp [U32]
theorem u64_ofNat (n : Nat) : U64 (UInt64.ofNat n) = ((n % 18446744073709551616 : Nat) : Int) := by simp [U64]
theorem add32 (x y : UInt32) : Op.intArith .add .u32 (U32 x) (U32 y) = pure (.int .u32 (U32 (x + y))) := by
 simp only [Op.intArith, IntKind.wrap_u32, U32, UInt32.toNat_add]; congr 2
theorem sub32 (x y : UInt32) : Op.intArith .sub .u32 (U32 x) (U32 y) = pure (.int .u32 (U32 (x - y))) := by
 simp only [Op.intArith, IntKind.wrap_u32, U32, UInt32.toNat_sub]; congr 2; have := y.toNat_lt; omega
theorem mul32 (x y : UInt32) : Op.intArith .mul .u32 (U32 x) (U32 y) = pure (.int .u32 (U32 (x * y))) := by
 simp only [Op.intArith, IntKind.wrap_u32, U32, UInt32.toNat_mul]; congr 2
theorem add64 (x y : UInt64) : Op.intArith .add .u64 (U64 x) (U64 y) = pure (.int .u64 (U64 (x + y))) := by
 simp only [Op.intArith, IntKind.wrap_u64, U64, UInt64.toNat_add]; congr 2
theorem sub64 (x y : UInt64) : Op.intArith .sub .u64 (U64 x) (U64 y) = pure (.int .u64 (U64 (x - y))) := by
 simp only [Op.intArith, IntKind.wrap_u64, U64, UInt64.toNat_sub]; congr 2; have := y.toNat_lt; omega
theorem mul64 (x y : UInt64) : Op.intArith .mul .u64 (U64 x) (U64 y) = pure (.int .u64 (U64 (x * y))) := by
 simp only [Op.intArith, IntKind.wrap_u64, U64, UInt64.toNat_mul]; congr 2
theorem mul64_8 (x : UInt64) : Op.intArith .mul .u64 8 (U64 x) = pure (.int .u64 (U64 (8 * x))) := mul64 8 x
theorem lit64 (n : Nat) (h : n < 18446744073709551616) : U64 (UInt64.ofNat n) = n := by rw [u64_ofNat]; omega
theorem bits32 (op : BinOp) (f : UInt32 → UInt32 → UInt32) (x y : UInt32)
  (hf : ∀ a b : Nat, a < 4294967296 → b < 4294967296 → bits op .u32 (a : Int) (b : Int) = (((f (UInt32.ofNat a) (UInt32.ofNat b)).toNat : Nat) : Int)) :
  bits op .u32 (U32 x) (U32 y) = U32 (f x y) := by
 have := hf x.toNat y.toNat x.toNat_lt y.toNat_lt
 simp only [UInt32.ofNat_toNat] at this
 exact this
theorem and32 (x y : UInt32) : bits .and .u32 (U32 x) (U32 y) = U32 (x &&& y) :=
 bits32 _ (· &&& ·) x y fun a b ha hb => by rw [u32_and_nat a b ha hb, UInt32.toNat_and]; simp [Nat.mod_eq_of_lt ha, Nat.mod_eq_of_lt hb]
theorem or32 (x y : UInt32) : bits .or .u32 (U32 x) (U32 y) = U32 (x ||| y) :=
 bits32 _ (· ||| ·) x y fun a b ha hb => by rw [u32_or_nat a b ha hb, UInt32.toNat_or]; simp [Nat.mod_eq_of_lt ha, Nat.mod_eq_of_lt hb]
theorem xor32 (x y : UInt32) : bits .xor .u32 (U32 x) (U32 y) = U32 (x ^^^ y) :=
 bits32 _ (· ^^^ ·) x y fun a b ha hb => by rw [u32_xor_nat a b ha hb, UInt32.toNat_xor]; simp [Nat.mod_eq_of_lt ha, Nat.mod_eq_of_lt hb]
theorem bits64 (op : BinOp) (f : UInt64 → UInt64 → UInt64) (x y : UInt64)
  (hf : ∀ a b : Nat, a < 18446744073709551616 → b < 18446744073709551616 → bits op .u64 (a : Int) (b : Int) = (((f (UInt64.ofNat a) (UInt64.ofNat b)).toNat : Nat) : Int)) :
  bits op .u64 (U64 x) (U64 y) = U64 (f x y) := by
 have := hf x.toNat y.toNat x.toNat_lt y.toNat_lt
 simp only [UInt64.ofNat_toNat] at this
 exact this
theorem and64 (x y : UInt64) : bits .and .u64 (U64 x) (U64 y) = U64 (x &&& y) :=
 bits64 _ (· &&& ·) x y fun a b ha hb => by rw [u64_and_nat a b ha hb, UInt64.toNat_and]; simp [Nat.mod_eq_of_lt ha, Nat.mod_eq_of_lt hb]
theorem or64 (x y : UInt64) : bits .or .u64 (U64 x) (U64 y) = U64 (x ||| y) :=
 bits64 _ (· ||| ·) x y fun a b ha hb => by rw [u64_or_nat a b ha hb, UInt64.toNat_or]; simp [Nat.mod_eq_of_lt ha, Nat.mod_eq_of_lt hb]
theorem xor64 (x y : UInt64) : bits .xor .u64 (U64 x) (U64 y) = U64 (x ^^^ y) :=
 bits64 _ (· ^^^ ·) x y fun a b ha hb => by rw [u64_xor_nat a b ha hb, UInt64.toNat_xor]; simp [Nat.mod_eq_of_lt ha, Nat.mod_eq_of_lt hb]
theorem all32 : (4294967295 : Int) = U32 4294967295 := rfl
theorem not32 (x : UInt32) : Op.unary .xor (.int .u32 (U32 x)) = pure (.int .u32 (U32 (~~~x))) := by
 have h : bits .xor .u32 (U32 4294967295) (U32 x) = U32 (~~~x) := by
  rw [xor32]
  exact congrArg U32 (UInt32.eq_of_toBitVec_eq BitVec.allOnes_xor)
 show Op.intBits .xor .u32 IntKind.u32.max (U32 x) = _
 rw [intBits_xor, ← h]
 rfl
theorem sgn32 : IntKind.u32.signed = false := rfl
theorem sgn64 : IntKind.u64.signed = false := rfl
theorem not32' (x : UInt32) : bits .xor .u32 IntKind.u32.max (U32 x) = U32 (~~~x) := by
 have h := not32 x
 change Op.intBits .xor .u32 IntKind.u32.max (U32 x) = _ at h
 rw [intBits_xor] at h
 injection h with h
 injection h
theorem xor32_all (x : UInt32) : bits .xor .u32 (U32 x) 4294967295 = U32 (~~~x) := by
 rw [all32, xor32]
 exact congrArg U32 (UInt32.eq_of_toBitVec_eq BitVec.xor_allOnes)
theorem shl32_run (x : UInt32) (yk : IntKind) (y : Int) (h : 0 ≤ y) : Op.shift .shl .u32 (U32 x) yk y = pure (.int .u32 (U32 (shl32 x y.toNat))) := by
 unfold Op.shift
 rw [if_neg (by omega)]
 simp only [IntKind.wrap_u32, IntKind.bits, shl32, u32_ofNat]
 congr 2
 unfold U32
 by_cases hy : y.toNat ≤ 32
 · rw [Nat.min_eq_left hy]; rw [Int.natCast_emod, Int.natCast_mul, Int.natCast_pow]; rfl
 rw [Nat.min_eq_right (by omega)]
 have e : ∀ m : Nat, 32 ≤ m → (x.toNat * 2 ^ m) % 4294967296 = 0 := fun m hm => by
  have hd : (2 : Nat) ^ 32 ∣ 2 ^ m := Nat.pow_dvd_pow 2 hm
  have hd' : (4294967296 : Nat) ∣ x.toNat * 2 ^ m := Nat.dvd_mul_left_of_dvd hd _
  exact Nat.mod_eq_zero_of_dvd hd'
 rw [e _ (by omega)]
 have := e 32 (Nat.le_refl _)
 omega
theorem shr32_run (x : UInt32) (yk : IntKind) (y : Int) (h : 0 ≤ y) : Op.shift .shr .u32 (U32 x) yk y = pure (.int .u32 (U32 (shr32 x y.toNat))) := by
 unfold Op.shift
 rw [if_neg (by omega)]
 simp only [IntKind.bits, shr32, u32_ofNat]
 congr 2
 unfold U32
 have hx := x.toNat_lt
 rw [Int.fdiv_eq_ediv_of_nonneg _ (by have := Int.natCast_nonneg (2 ^ min y.toNat 32 : Nat); push_cast at this; exact this)]
 by_cases hy : y.toNat ≤ 32
 · rw [Nat.min_eq_left hy, Nat.mod_eq_of_lt (Nat.lt_of_le_of_lt (Nat.div_le_self _ _) hx)]; norm_cast
 rw [Nat.min_eq_right (by omega)]
 have e : ∀ m : Nat, 32 ≤ m → x.toNat / 2 ^ m = 0 := fun m hm => by
  apply Nat.div_eq_of_lt
  exact Nat.lt_of_lt_of_le hx (Nat.pow_le_pow_right (by decide) hm)
 rw [e _ (by omega)]
 have := e 32 (Nat.le_refl _)
 norm_cast
theorem shl64_run (x : UInt64) (yk : IntKind) (y : Int) (h : 0 ≤ y) : Op.shift .shl .u64 (U64 x) yk y = pure (.int .u64 (U64 (shl64 x y.toNat))) := by
 unfold Op.shift
 rw [if_neg (by omega)]
 simp only [IntKind.wrap_u64, IntKind.bits, shl64, u64_ofNat]
 congr 2
 unfold U64
 by_cases hy : y.toNat ≤ 64
 · rw [Nat.min_eq_left hy]; rw [Int.natCast_emod, Int.natCast_mul, Int.natCast_pow]; rfl
 rw [Nat.min_eq_right (by omega)]
 have e : ∀ m : Nat, 64 ≤ m → (x.toNat * 2 ^ m) % 18446744073709551616 = 0 := fun m hm => by
  have hd : (2 : Nat) ^ 64 ∣ 2 ^ m := Nat.pow_dvd_pow 2 hm
  have hd' : (18446744073709551616 : Nat) ∣ x.toNat * 2 ^ m := Nat.dvd_mul_left_of_dvd hd _
  exact Nat.mod_eq_zero_of_dvd hd'
 rw [e _ (by omega)]
 have := e 64 (Nat.le_refl _)
 omega
theorem shr64_run (x : UInt64) (yk : IntKind) (y : Int) (h : 0 ≤ y) : Op.shift .shr .u64 (U64 x) yk y = pure (.int .u64 (U64 (shr64 x y.toNat))) := by
 unfold Op.shift
 rw [if_neg (by omega)]
 simp only [IntKind.bits, shr64, u64_ofNat]
 congr 2
 unfold U64
 have hx := x.toNat_lt
 rw [Int.fdiv_eq_ediv_of_nonneg _ (by have := Int.natCast_nonneg (2 ^ min y.toNat 64 : Nat); push_cast at this; exact this)]
 by_cases hy : y.toNat ≤ 64
 · rw [Nat.min_eq_left hy, Nat.mod_eq_of_lt (Nat.lt_of_le_of_lt (Nat.div_le_self _ _) hx)]; norm_cast
 rw [Nat.min_eq_right (by omega)]
 have e : ∀ m : Nat, 64 ≤ m → x.toNat / 2 ^ m = 0 := fun m hm => by
  apply Nat.div_eq_of_lt
  exact Nat.lt_of_lt_of_le hx (Nat.pow_le_pow_right (by decide) hm)
 rw [e _ (by omega)]
 have := e 64 (Nat.le_refl _)
 norm_cast
theorem w_u32_u8 (x : UInt8) : IntKind.u32.wrap (U8 x) = U32 x.toUInt32 := by
 rw [IntKind.wrap_u32]; simp only [U8, U32, UInt8.toNat_toUInt32]; have := x.toNat_lt; omega
theorem w_u64_u8 (x : UInt8) : IntKind.u64.wrap (U8 x) = U64 x.toUInt64 := by
 rw [IntKind.wrap_u64]; simp only [U8, U64, UInt8.toNat_toUInt64]; have := x.toNat_lt; omega
theorem w_i64_u8 (x : UInt8) : IntKind.i64.wrap (U8 x) = U8 x := by
 rw [IntKind.wrap_i64]; have := u8_bd x; omega
theorem w_u8_u32 (x : UInt32) : IntKind.u8.wrap (U32 x) = U8 x.toUInt8 := by
 rw [IntKind.wrap_u8]; simp only [U8, U32, UInt32.toNat_toUInt8]; omega
theorem w_u8_u64 (x : UInt64) : IntKind.u8.wrap (U64 x) = U8 x.toUInt8 := by
 rw [IntKind.wrap_u8]; simp only [U8, U64, UInt64.toNat_toUInt8]; omega
theorem w_u32_u64 (x : UInt64) : IntKind.u32.wrap (U64 x) = U32 x.toUInt32 := by
 rw [IntKind.wrap_u32]; simp only [U32, U64, UInt64.toNat_toUInt32]; omega
theorem w_u64_u32 (x : UInt32) : IntKind.u64.wrap (U32 x) = U64 x.toUInt64 := by
 rw [IntKind.wrap_u64]; simp only [U32, U64, UInt32.toNat_toUInt64]; have := x.toNat_lt; omega
theorem w_u64_nat (n : Nat) : IntKind.u64.wrap (n : Int) = U64 (UInt64.ofNat n) := by rw [IntKind.wrap_u64, u64_ofNat]; omega
theorem w_u32_nat (n : Nat) : IntKind.u32.wrap (n : Int) = U32 (UInt32.ofNat n) := by rw [IntKind.wrap_u32, u32_ofNat]; omega
theorem w_u8_nat (n : Nat) : IntKind.u8.wrap (n : Int) = U8 (UInt8.ofNat n) := by rw [IntKind.wrap_u8, u8_ofNat]; omega
theorem w_u8_u8 (x : UInt8) : IntKind.u8.wrap (U8 x) = U8 x := by rw [IntKind.wrap_u8]; have := u8_bd x; omega
theorem w_u32_u32 (x : UInt32) : IntKind.u32.wrap (U32 x) = U32 x := by rw [IntKind.wrap_u32]; have := u32_bd x; omega
theorem w_u64_u64 (x : UInt64) : IntKind.u64.wrap (U64 x) = U64 x := by rw [IntKind.wrap_u64]; have := u64_bd x; omega
def nth (l : List UInt8) (i : Nat) : UInt8 := l[i]?.getD 0
theorem run_index_B' {P : Program} (w : World) (t : TypeId) (l : List UInt8) (k : IntKind) (i : Int) (h : P.underlying t = some .string) :
  (Instr.index t (.string (B l)) (.int k i)).run P w =
   if 0 ≤ i ∧ i < (l.length : Int) then .ok (.int .u8 (U8 (nth l i.toNat))) w else (boundsPanic k i l.length .index).run P w := run_index_B w t l k i h
structure Fr (S : List Nat) (w w' : World) : Prop where
 os : w'.os = w.os
 tape : w'.tape = w.tape
 output : w'.output = w.output
 size : w.heap.size ≤ w'.heap.size
 block : ∀ k, k < w.heap.size → k ∉ S → w'.heap[k]? = w.heap[k]?
theorem Fr.refl (S : List Nat) (w : World) : Fr S w w := ⟨rfl, rfl, rfl, Nat.le_refl _, fun _ _ _ => rfl⟩
theorem Fr.trans' {S T U : List Nat} {a b c : World} (h : Fr S a b) (k : Fr T b c) (hS : ∀ x ∈ S, x ∈ U ∨ a.heap.size ≤ x) (hT : ∀ x ∈ T, x ∈ U ∨ a.heap.size ≤ x) : Fr U a c :=
 ⟨k.os.trans h.os, k.tape.trans h.tape, k.output.trans h.output, Nat.le_trans h.size k.size, fun i hi hn =>
  (k.block i (Nat.lt_of_lt_of_le hi h.size) (fun ht => (hT i ht).elim hn (fun e => by omega))).trans (h.block i hi (fun hs => (hS i hs).elim hn (fun e => by omega)))⟩
theorem Fr.trans {S : List Nat} {a b c : World} (h : Fr S a b) (k : Fr S b c) : Fr S a c := h.trans' k (fun _ h => .inl h) (fun _ h => .inl h)
theorem Fr.mono {S T : List Nat} {a b : World} (h : Fr S a b) (hST : ∀ x ∈ S, x ∈ T ∨ a.heap.size ≤ x) : Fr T a b :=
 h.trans' (Fr.refl [] b) hST (fun _ h => by cases h)
theorem Fr.drew {S : List Nat} {a w : World} (h : Fr S a w) : Fr S a w.drew := ⟨h.os, h.tape, h.output, h.size, h.block⟩
theorem Fr.drewN {S : List Nat} {a w : World} (h : Fr S a w) (n : Nat) : Fr S a (w.drewN n) := ⟨h.os, h.tape, h.output, h.size, h.block⟩
theorem Fr.alloc {S : List Nat} {a w : World} (h : Fr S a w) (o : Obj) : Fr S a (w.alloc o) :=
 h.trans ⟨rfl, rfl, rfl, by simp, fun k hk _ => Below.heap_alloc w o k hk⟩
theorem Fr.setCell {S : List Nat} {a w : World} (h : Fr S a w) {p : Addr} (hp : p.block ∈ S ∨ a.heap.size ≤ p.block) (u : Value) : Fr S a (w.setCell p u) :=
 h.trans' (T := [p.block]) ⟨rfl, rfl, rfl, by simp, fun k _ hn => Below.heap_setCell _ _ _ _ (fun e => hn (by simp [e]))⟩ (fun _ h => .inl h) (fun x hx => by simp at hx; subst hx; exact hp)
theorem Fr.setRow {S : List Nat} {a w : World} (h : Fr S a w) {g : Nat} (hp : g ∈ S ∨ a.heap.size ≤ g) (cs : Array Value) : Fr S a (w.setRow g cs) :=
 h.trans' (T := [g]) ⟨rfl, rfl, rfl, by simp, fun k _ hn => setRow_other w g k cs (fun e => hn (by simp [e]))⟩ (fun _ h => .inl h) (fun x hx => by simp at hx; subst hx; exact hp)
theorem Fr.grown {S : List Nat} {a w w' : World} {row : Option Nat} (h : Fr S a w) (hg : w.grownBy w' row) (hr : ∀ k, row = some k → k ∈ S ∨ a.heap.size ≤ k) : Fr S a w' :=
 h.trans' (T := row.toList) ⟨hg.os, hg.tape, hg.output, hg.size, fun k hk hn => hg.block k hk (fun e => hn (by simp [← e]))⟩ (fun _ h => .inl h) (fun x hx => hr x (by simpa using hx))
theorem Fr.of_grown {w w' : World} {row : Option Nat} (hg : w.grownBy w' row) : Fr row.toList w w' :=
 (Fr.refl row.toList w).grown hg (fun k hk => .inl (by simp [hk]))
theorem Fr.below {w w' : World} (h : Fr [] w w') : Below w.heap.size w w' := ⟨h.os, h.tape, h.output, h.size, fun k hk => h.block k hk (by simp)⟩
theorem Fr.cell {S : List Nat} {w w' : World} (h : Fr S w w') {b o : Nat} (hb : b < w.heap.size) (hn : b ∉ S) : w'.cell? ⟨b, o, none⟩ = w.cell? ⟨b, o, none⟩ :=
 World.cell?_of_block (w := w) (h.block b hb hn)
theorem Fr.frozen {S : List Nat} {w w' : World} (h : Fr S w w') {b o : Nat} (hb : b < w.heap.size) (hn : b ∉ S) : w'.frozen? ⟨b, o, none⟩ = w.frozen? ⟨b, o, none⟩ :=
 World.frozen?_of_block (w := w) (h.block b hb hn)
theorem Fr.own {S : List Nat} {w w' : World} (h : Fr S w w') {base : Nat} {e : TypeId} {size : Nat} {v : Value} {n : Nat} {xs : List Value} (ho : w.ownsRow base e size v n xs)
  (hne : ∀ k, v.ownBlock = some k → k ∉ S) : w'.ownsRow base e size v n xs := by
 refine ⟨ho.1, ?_⟩
 rcases ho.2 with hn | ⟨g, cap, cur, rfl, hb, hgg, rest⟩
 · exact .inl hn
 refine .inr ⟨g, cap, cur, rfl, hb, ?_, rest⟩
 rw [h.block g (Array.getElem?_eq_some_iff.1 hgg).1 (hne g rfl)]
 exact hgg
theorem heap_setCell {w : World} {g i : Nat} {cur : Array Value} {t : TypeId} {fr : Nat × Nat} (hg : w.heap[g]? = some (.cells cur t fr)) (v : Value) : (w.setCell ⟨g, i, none⟩ v).heap[g]? = some (.cells (cur.setIfInBounds i v) t fr) := by
 simp [World.setCell, Array.getElem?_modify, hg]
theorem heap_setCell_ne {w : World} {a : Addr} {k : Nat} (h : k ≠ a.block) (v : Value) : (w.setCell a v).heap[k]? = w.heap[k]? := Below.heap_setCell _ _ _ _ h
theorem heap_drew (w : World) : w.drew.heap = w.heap := rfl
section
variable {P : Program} (w : World)
theorem run_append_room_row (t tx ty e : TypeId) (i : TypeInfo) (ht : P.underlying t = some (.slice e)) (hi : P.info? e = some i) (g sLen sCap : Nat) (cur : Array Value) (hg : w.heap[g]? = some (.cells cur e (0, 0)))
  (x : Value) (n : Nat) (news : List Value) (hs : Src P i.size tx x n news w) (hroom : sLen + n ≤ sCap) (hfit : sLen * i.size + news.length ≤ cur.size) :
  (Builtin.append_ #[t, tx] ty #[.slice (some ⟨g, 0, none⟩) sLen sCap, x]).run P w =
   .ok (.slice (some ⟨g, 0, none⟩) (sLen + n) sCap) (w.setRow g (cur.toList.take (sLen * i.size) ++ news ++ cur.toList.drop (sLen * i.size + news.length)).toArray) := by
 have hst := run_storeCells_at P g (sLen * i.size) e news 0 cur w hg (by simpa using hfit) hs.one
 simp only [Nat.add_zero] at hst
 rcases hs.kind with ⟨e', hk⟩ | hk <;> simp [Builtin.append_, run_underlying ht, run_underlying hk, sizeOf, typeInfo, hi, hs.len, hroom, hs.cells, Addr.add_lit, hst]
theorem run_append_any (base : Nat) (t tx ty e : TypeId) (i : TypeInfo) (z : Value) (size bytes : Nat) (ht : P.underlying t = some (.slice e)) (hi : P.info? e = some i) (hz : i.zero = some z)
  (hsize : i.size = size) (hby : i.bytes = bytes) (hzs : z.cells.size = size) (hsz : 0 < size)
  (v : Value) (n : Nat) (xs : List Value) (hown : w.ownsRow base e size v n xs) (x : Value) (m : Nat) (news : List Value) (hs : Src P size tx x m news w)
  (h63 : n + m ≤ maxLen) (hbytes : (n + m) * bytes ≤ 140737488355328) (hbase : base ≤ w.heap.size) :
  ∃ v' w', (Builtin.append_ #[t, tx] ty #[v, x]).run P w = .ok v' w' ∧ w'.ownsRow base e size v' (n + m) (xs ++ news) ∧ w.grownBy w' v.ownBlock ∧
   (v'.ownBlock = v.ownBlock ∨ v'.ownBlock = some w.heap.size) := by
 subst hsize
 subst hby
 have hsmall : ((n + m : Nat) : Int) ≤ 9223372036854775807 := by simp only [maxLen] at h63; omega
 have hl := hs.newsLen
 have hlen : (xs ++ news).length = (n + m) * i.size := by rw [List.length_append, hown.1, hl, Nat.add_mul]
 have grown : ∀ (old : Nat), old < n + m → ∀ (row : Option Nat),
   (w.drew.alloc (.cells ((xs ++ news).toArray ++ Builtin.zeroCells z.cells (grownCap w (n + m) old e - (n + m))) e)).ownsRow base e i.size
    (.slice (some ⟨w.heap.size, 0, none⟩) (n + m) (grownCap w (n + m) old e)) (n + m) (xs ++ news) ∧
   w.grownBy (w.drew.alloc (.cells ((xs ++ news).toArray ++ Builtin.zeroCells z.cells (grownCap w (n + m) old e - (n + m))) e)) row := by
  intro old ho row
  have hge := grownCap_ge w (n + m) old e
  have hcm : grownCap w (n + m) old e ≤ maxLen := grownCap_le_maxLen w (n + m) old e h63
  refine ⟨⟨hlen, .inr ⟨w.heap.size, _, _, rfl, hbase, heap_alloc_new w.drew _, hge, hcm, ?_, ?_⟩⟩, ⟨rfl, rfl, rfl, by simp, fun k hk _ => Below.heap_alloc w.drew _ k hk⟩⟩
  ·
   simp only [Array.size_append, List.size_toArray, size_zeroCells, hzs, hlen, ← Nat.add_mul]
   congr 1
   omega
  simp only [Array.toList_append]
  rw [← hlen]
  exact List.take_left
 rcases hown.2 with ⟨rfl, rfl⟩ | ⟨g, cap, cur, rfl, hbg, hg, hnc, hcm, hcs, htake⟩
 ·
  have hx : xs = [] := List.eq_nil_of_length_eq_zero (by simpa using hown.1)
  subst hx
  by_cases hm : m = 0
  ·
   subst hm
   have hn : news = [] := List.eq_nil_of_length_eq_zero (by simpa using hl)
   subst hn
   refine ⟨.slice none 0 0, w, ?_, World.ownsRow_nil w base e i.size, ⟨rfl, rfl, rfl, Nat.le_refl _, fun _ _ _ => rfl⟩, .inl rfl⟩
   rcases hs.kind with ⟨e', hk⟩ | hk <;> simp [Builtin.append_, run_underlying ht, run_underlying hk, sizeOf, typeInfo, hi, hs.len, hs.cells]
  have hold : (Builtin.firstCells i.size 0 (.slice none 0 0)).run P w.drew = .ok ([] : List Value).toArray w.drew := by simp [Builtin.firstCells]
  have hr := run_append_grow_src (P := P) w t tx ty e i z ht hi hz none 0 0 [] hold x m news hs (by omega) (by omega) (growslice_fits (by omega) (by have hb := hbytes; simp only [Nat.zero_add] at hb ⊢; omega))
  have hgr := grown 0 (by omega) (Value.ownBlock (.slice none 0 0))
  simp only [Nat.zero_add, List.nil_append] at hgr hr ⊢
  exact ⟨_, _, hr, hgr.1, hgr.2, .inr rfl⟩
 by_cases hroom : n + m ≤ cap
 ·
  have hfit : n * i.size + news.length ≤ cur.size := by rw [hl, hcs, ← Nat.add_mul]; exact Nat.mul_le_mul_right _ hroom
  have hr := run_append_room_row (P := P) w t tx ty e i ht hi g n cap cur hg x m news hs hroom hfit
  refine ⟨_, _, hr, ⟨hlen, .inr ⟨g, cap, _, rfl, hbg, setRow_heap w g cur _ e _ hg, hroom, hcm, ?_, ?_⟩⟩, ⟨rfl, rfl, rfl, by simp, fun k _ hk => setRow_other w g k _ (fun e => hk (by simp [Value.ownBlock, e]))⟩, .inl rfl⟩
  ·
   simp only [List.size_toArray, List.length_append, List.length_take, List.length_drop, Array.length_toList]
   omega
  rw [htake, ← hlen]
  exact List.take_left
 have holds : ∀ j u, xs[j]? = some u → w.drew.cell? ((⟨g, 0, none⟩ : Addr).add j) = some u := by simpa using hown.cells (g := g) rfl
 have hold : (Builtin.firstCells i.size n (.slice (some ⟨g, 0, none⟩) n cap)).run P w.drew = .ok xs.toArray w.drew := run_firstCells_some w.drew i.size n ⟨g, 0, none⟩ n cap xs hown.1 holds
 have hr := run_append_grow_src (P := P) w t tx ty e i z ht hi hz (some ⟨g, 0, none⟩) n cap xs hold x m news hs (by omega) hsmall (growslice_fits (by omega) hbytes)
 have hgr := grown cap (by omega) (Value.ownBlock (.slice (some ⟨g, 0, none⟩) n cap))
 exact ⟨_, _, hr, hgr.1, hgr.2, .inr rfl⟩
theorem wp_append_any {o : Oper} {a : Act} {K : Act → World → Prop} {Q : Exit → Act → World → Prop} (s x : Operand) (t tx : TypeId)
  (ho : o.op = .call { callee := .builtin .append, args := #[s, x], argTypes := #[t, tx] })
  (base : Nat) (e : TypeId) (i : TypeInfo) (z : Value) (size bytes : Nat) (ht : P.underlying t = some (.slice e)) (hi : P.info? e = some i) (hz : i.zero = some z)
  (hsize : i.size = size) (hby : i.bytes = bytes) (hzs : z.cells.size = size) (hsz : 0 < size)
  (v : Value) (n : Nat) (xs : List Value) (hv : a.eval s = v) (hown : w.ownsRow base e size v n xs)
  (xv : Value) (m : Nat) (news : List Value) (hx : a.eval x = xv) (hs : Src P size tx xv m news w)
  (h63 : n + m ≤ maxLen) (hbytes : (n + m) * bytes ≤ 140737488355328) (hbase : base ≤ w.heap.size)
  (h : ∀ v' w', w'.ownsRow base e size v' (n + m) (xs ++ news) → w.grownBy w' v.ownBlock → (v'.ownBlock = v.ownBlock ∨ v'.ownBlock = some w.heap.size) → K (a.put o.dst v') w') : o.wp P a w K Q := by
 obtain ⟨v', w', hr, h2, h3, h4⟩ := run_append_any (P := P) w base t tx o.type e i z size bytes ht hi hz hsize hby hzs hsz v n xs hown xv m news hs h63 hbytes hbase
 unfold Oper.wp execOp
 simp only [ho, resolve, invoke, builtin, Sem.run_bind, Sem.run_pure, Result.andThen_ok, List.map_toArray, List.map_cons, List.map_nil, hv, hx, hr]
 exact h v' w' h2 h3 h4
end
theorem zeroCells_one (z : Value) (m : Nat) : (Builtin.zeroCells #[z] m).toList = List.replicate m z := by
 apply List.ext_getElem?
 intro j
 by_cases hj : j < m
 · simp [Builtin.zeroCells, hj, Nat.mod_one]
 simp [Builtin.zeroCells, hj]
theorem run_append_zeros {P : Program} (w : World) (base : Nat) (t tI ty e : TypeId) (k : IntKind) (i : TypeInfo) (z : Value) (bytes : Nat) (ht : P.underlying t = some (.slice e)) (hI : P.underlying tI = some (.int k)) (hi : P.info? e = some i) (hz : i.zero = some z)
  (hsize : i.size = 1) (hby : i.bytes = bytes) (hzs : z.cells = #[z]) (h1 : z.oneCell' = true)
  (v : Value) (n : Nat) (xs : List Value) (hown : w.ownsRow base e 1 v n xs) (m : Nat) (h63 : n + m ≤ maxLen) (hbytes : (n + m) * bytes ≤ 140737488355328) (hbase : base ≤ w.heap.size) :
  ∃ v' w', (Builtin.append_ #[t, tI] ty #[v, .int .i64 (m : Int)]).run P w = .ok v' w' ∧ w'.ownsRow base e 1 v' (n + m) (xs ++ List.replicate m z) ∧ w.grownBy w' v.ownBlock ∧
   (v'.ownBlock = v.ownBlock ∨ v'.ownBlock = some w.heap.size) := by
 subst hby
 have hsmall : ((n + m : Nat) : Int) ≤ 9223372036854775807 := by simp only [maxLen] at h63; omega
 have hlen : (xs ++ List.replicate m z).length = (n + m) * 1 := by rw [List.length_append, hown.1]; simp
 have hbm : m * i.bytes ≤ 281474976710656 := by
  have : m * i.bytes ≤ (n + m) * i.bytes := Nat.mul_le_mul_right _ (by omega)
  omega
 have zs : ∀ q, (Builtin.zeroCells z.cells q).toList = List.replicate q z := fun q => by rw [hzs, zeroCells_one]
 rcases hown.2 with ⟨rfl, rfl⟩ | ⟨g, cap, cur, rfl, hbg, hg, hnc, hcm, hcs, htake⟩
 ·
  have hx : xs = [] := List.eq_nil_of_length_eq_zero (by simpa using hown.1)
  subst hx
  by_cases hm : m = 0
  ·
   subst hm
   refine ⟨.slice none 0 0, w, ?_, World.ownsRow_nil w base e 1, ⟨rfl, rfl, rfl, Nat.le_refl _, fun _ _ _ => rfl⟩, .inl rfl⟩
   have hw0 : IntKind.i64.wrap 0 = 0 := rfl
   simp [Builtin.append_, run_underlying ht, run_underlying hI, sizeOf, typeInfo, hi, asInt, asIntOf, hw0]
  have hr := Lib.run_append_nil_zeros (P := P) w t tI ty e i z .i64 k ht hI hi hz m (by omega) (by omega) (by simp at hsmall; omega) hbm
  refine ⟨_, _, hr, ⟨by simp, .inr ⟨w.heap.size, _, _, by simp, hbase, heap_alloc_new w.drew _, by simpa using grownCap_ge w m 0 e, grownCap_le_maxLen w m 0 e (by omega), ?_, ?_⟩⟩, ⟨rfl, rfl, rfl, by simp, fun k hk _ => Below.heap_alloc w.drew _ k hk⟩, .inr rfl⟩
  ·
   have := grownCap_ge w m 0 e
   simp [size_zeroCells, hzs]; omega
  simp [zs, List.take_replicate]
 by_cases hroom : n + m ≤ cap
 ·
  have hst := run_storeCells_at P g (n * 1) e (List.replicate m z) 0 cur w hg (by simp; omega) (fun u hu => by rw [List.eq_of_mem_replicate hu]; exact h1)
  simp only [Nat.add_zero, Nat.mul_one] at hst
  have hw : IntKind.i64.wrap (m : Int) = m := by rw [IntKind.wrap_i64]; omega
  have h0 : ¬ ((m : Int) < 0) := by omega
  have h48i : ¬ (281474976710656 < (m : Int) * (i.bytes : Int)) := by rw [← Int.natCast_mul]; omega
  refine ⟨.slice (some ⟨g, 0, none⟩) (n + m) cap, w.setRow g (cur.toList.take n ++ List.replicate m z ++ cur.toList.drop (n + m)).toArray, ?_, ⟨hlen, .inr ⟨g, cap, _, rfl, hbg, setRow_heap w g cur _ e _ hg, hroom, hcm, ?_, ?_⟩⟩, ⟨rfl, rfl, rfl, by simp, fun k _ hk => setRow_other w g k _ (fun e => hk (by simp [Value.ownBlock, e]))⟩, .inl rfl⟩
  ·
   by_cases hm0 : m = 0
   ·
    subst hm0
    have hw0 : IntKind.i64.wrap 0 = 0 := rfl
    simp only [List.replicate_zero] at hst
    simp [Builtin.append_, run_underlying ht, run_underlying hI, sizeOf, typeInfo, hi, asInt, asIntOf, hw0, hsize, hnc]
    simp [setRow_self w g cur e (0, 0) hg, storeCells]
   simp only [List.length_replicate] at hst
   simp [Builtin.append_, run_underlying ht, run_underlying hI, sizeOf, typeInfo, hi, hz, zeroValue, asInt, asIntOf, hw, h0, h48i, hsize, hroom, hm0, Addr.add_lit, hzs]
   rw [show (Builtin.zeroCells #[z] m).toList = List.replicate m z from zeroCells_one z m]
   simp [hst]
  ·
   simp only [List.size_toArray, List.length_append, List.length_take, List.length_drop, Array.length_toList, List.length_replicate]
   omega
  rw [show cur.toList.take n = xs by rw [← htake, Nat.mul_one], ← hlen]
  exact List.take_left
 have holds : ∀ j u, xs[j]? = some u → w.drew.cell? ((⟨g, 0, none⟩ : Addr).add j) = some u := by simpa using hown.cells (g := g) rfl
 have hold : (Builtin.firstCells i.size n (.slice (some ⟨g, 0, none⟩) n cap)).run P w.drew = .ok xs.toArray w.drew := by
  rw [hsize]
  exact run_firstCells_some w.drew 1 n ⟨g, 0, none⟩ n cap xs hown.1 holds
 have hr := Lib.run_append_grow_zeros (P := P) w t tI ty e i z .i64 k ht hI hi hz (some ⟨g, 0, none⟩) n cap xs hold m (by omega) (by omega) (by omega) hsmall hbm (growslice_fits (by omega) hbytes)
 have hxs : xs.length = n := by simpa using hown.1
 refine ⟨_, _, hr, ⟨hlen, .inr ⟨w.heap.size, _, _, rfl, hbase, heap_alloc_new w.drew _, grownCap_ge w (n + m) cap e, grownCap_le_maxLen w (n + m) cap e h63, ?_, ?_⟩⟩, ⟨rfl, rfl, rfl, by simp, fun k hk _ => Below.heap_alloc w.drew _ k hk⟩, .inr rfl⟩
 ·
  have := grownCap_ge w (n + m) cap e
  simp [size_zeroCells, hzs, hxs]; omega
 simp only [Array.toList_append, zs]
 rw [← hlen]
 exact List.take_left
theorem wp_append_zeros {P : Program} {w : World} {o : Oper} {a : Act} {K : Act → World → Prop} {Q : Exit → Act → World → Prop} (s x : Operand) (t tI : TypeId)
  (ho : o.op = .call { callee := .builtin .append, args := #[s, x], argTypes := #[t, tI] })
  (base : Nat) (e : TypeId) (k : IntKind) (i : TypeInfo) (z : Value) (bytes : Nat) (ht : P.underlying t = some (.slice e)) (hI : P.underlying tI = some (.int k)) (hi : P.info? e = some i) (hz : i.zero = some z)
  (hsize : i.size = 1) (hby : i.bytes = bytes) (hzs : z.cells = #[z]) (h1 : z.oneCell' = true)
  (v : Value) (n : Nat) (xs : List Value) (hv : a.eval s = v) (hown : w.ownsRow base e 1 v n xs) (m : Nat) (hx : a.eval x = .int .i64 (m : Int)) (h63 : n + m ≤ maxLen) (hbytes : (n + m) * bytes ≤ 140737488355328) (hbase : base ≤ w.heap.size)
  (h : ∀ v' w', w'.ownsRow base e 1 v' (n + m) (xs ++ List.replicate m z) → w.grownBy w' v.ownBlock → (v'.ownBlock = v.ownBlock ∨ v'.ownBlock = some w.heap.size) → K (a.put o.dst v') w') : o.wp P a w K Q := by
 obtain ⟨v', w', hr, h2, h3, h4⟩ := run_append_zeros (P := P) w base t tI o.type e k i z bytes ht hI hi hz hsize hby hzs h1 v n xs hown m h63 hbytes hbase
 exact Lib.wp_append_run w s x t tI ho v _ hv hx v' w' hr (h v' w' h2 h3 h4)
theorem wp_copy_row {P : Program} {o : Oper} {a : Act} {w : World} {K : Act → World → Prop} {Q : Exit → Act → World → Prop} (d s : Operand) (dT sT : TypeId)
  (ho : o.op = .call { callee := .builtin .copy, args := #[d, s], argTypes := #[dT, sT] }) (elem : TypeId) (hu : P.underlying dT = some (.slice elem)) (hsz : (P.info? elem).map (·.size) = some 1)
  (g off dLen dCap : Nat) (ad : Addr) (sLen sCap : Nat) (hd : a.eval d = .slice (some ⟨g, off, none⟩) dLen dCap) (hs : a.eval s = .slice (some ad) sLen sCap)
  (cur : Array Value) (t : TypeId) (hg : w.heap[g]? = some (.cells cur t (0, 0))) (cs : List Value) (hn : cs.length = Nat.min sLen dLen)
  (hsrc : ∀ j v, cs[j]? = some v → w.cell? (ad.add j) = some v) (hfit : off + cs.length ≤ cur.size) (h1 : ∀ v ∈ cs, v.oneCell' = true)
  (h : ∀ w', w'.heap[g]? = some (.cells (cur.toList.take off ++ cs ++ cur.toList.drop (off + cs.length)).toArray t (0, 0)) → Fr [g] w w' → K (a.put o.dst (goInt cs.length)) w') : Oper.wp P o a w K Q := by
 have hrun := run_copy_row (P := P) w dT sT o.type elem g off dLen dCap ad sLen sCap cur t cs hu hsz hg hn hsrc hfit h1
 unfold Oper.wp execOp
 simp only [ho, resolve, invoke, builtin, Sem.run_bind, Sem.run_pure, Result.andThen_ok, List.map_toArray, List.map_cons, List.map_nil, hd, hs, hrun]
 exact h _ (setRow_heap w g _ _ t _ hg) ((Fr.refl [g] w).setRow (.inl (by simp)) _)
theorem step_copy_row {P : Program} {ops : Array Oper} {o : Oper} {a : Act} {w : World} {K : Act → World → Prop} {Q : Exit → Act → World → Prop} {E : Prop} (hgd : o.guard = none) (d s : Operand) (dT sT : TypeId)
  (ho : o.op = .call { callee := .builtin .copy, args := #[d, s], argTypes := #[dT, sT] }) (elem : TypeId) (hu : P.underlying dT = some (.slice elem)) (hsz : (P.info? elem).map (·.size) = some 1)
  (g off dLen dCap : Nat) (ad : Addr) (sLen sCap : Nat) (hd : a.eval d = .slice (some ⟨g, off, none⟩) dLen dCap) (hs : a.eval s = .slice (some ad) sLen sCap)
  (cur : Array Value) (t : TypeId) (hg : w.heap[g]? = some (.cells cur t (0, 0))) (cs : List Value) (hn : cs.length = Nat.min sLen dLen)
  (hsrc : ∀ j v, cs[j]? = some v → w.cell? (ad.add j) = some v) (hfit : off + cs.length ≤ cur.size) (h1 : ∀ v ∈ cs, v.oneCell' = true)
  (h : ∀ w', w'.heap[g]? = some (.cells (cur.toList.take off ++ cs ++ cur.toList.drop (off + cs.length)).toArray t (0, 0)) → Fr [g] w w' → K (a.put o.dst (goInt cs.length)) w') :
  if Region.wanted o (yielded ops a.tmps) = true then Oper.wp P o a w K Q else E := by
 have hw : Region.wanted o (yielded ops a.tmps) = true := by simp [Region.wanted, hgd]
 rw [if_pos hw]
 exact wp_copy_row d s dT sT ho elem hu hsz g off dLen dCap ad sLen sCap hd hs cur t hg cs hn hsrc hfit h1 h
def bv (b : UInt8) : Value := .int .u8 (U8 b)
def bvs (l : List UInt8) : List Value := l.map bv
theorem bvs_length (l : List UInt8) : (bvs l).length = l.length := by simp [bvs]
theorem bvs_append (a b : List UInt8) : bvs (a ++ b) = bvs a ++ bvs b := by simp [bvs]
theorem bvs_one (l : List UInt8) : ∀ u ∈ bvs l, u.oneCell' = true := by
 intro u hu; obtain ⟨_, _, rfl⟩ := List.mem_map.1 hu; rfl
theorem byteCells_B (l : List UInt8) : byteCells (B l) = bvs l := by
 simp only [byteCells, bvs, B_data]
 rfl
theorem Src.text {P : Program} (w : World) {tx : TypeId} (hk : P.underlying tx = some .string) (l : List UInt8) : Src P 1 tx (.string (B l)) l.length (bvs l) w := by
 have := Src.ofString (P := P) w hk (B l)
 rwa [byteCells_B, B_size] at this
theorem foldl_push (l : List UInt8) : ∀ acc : List UInt8, (l.map fun x => U8 x).foldl (fun (r : ByteArray) n => r.push (UInt8.ofNat n.toNat)) (B acc) = B (acc ++ l) := by
 induction l with
 | nil => intro acc; simp
 | cons x l ih =>
  intro acc
  have h : (B acc).push (UInt8.ofNat (U8 x).toNat) = B (acc ++ [x]) := by
   have : UInt8.ofNat (U8 x).toNat = x := by simp [U8]
   rw [this]
   simp [B, ByteArray.push]
  simp only [List.map_cons, List.foldl_cons, h]
  rw [ih]
  simp
theorem run_b2s {P : Program} (w : World) (src dst e : TypeId) (hs : P.underlying src = some (.slice e)) (he : P.underlying e = some (.int .u8)) (hd : P.underlying dst = some .string)
  (a : Addr) (c : Nat) (l : List UInt8) (hc : ∀ j v, (bvs l)[j]? = some v → w.cell? (a.add j) = some v) : (convert src dst (.slice (some a) l.length c)).run P w = .ok (.string (B l)) w := by
 rw [run_convert_bytes_string w src dst e _ _ _ hs he hd]
 have h := run_loadCells_list (P := P) w a (bvs l) hc
 rw [bvs_length] at h
 have h2 : (bvs l) = (l.map fun x => U8 x).map (Value.int .u8) := by simp only [bvs, List.map_map]; rfl
 rw [h2] at h
 rw [run_bytesToString w a _ c _ h]
 have := foldl_push l []
 rw [List.nil_append] at this
 rw [← this]
 rfl
theorem run_b2s_nil {P : Program} (w : World) (src dst e : TypeId) (hs : P.underlying src = some (.slice e)) (he : P.underlying e = some (.int .u8)) (hd : P.underlying dst = some .string)
  (l c : Nat) : (convert src dst (.slice none l c)).run P w = .ok (.string (B [])) w := by
 rw [run_convert_bytes_string w src dst e _ l c hs he hd]
 simp [Conv.bytesToString, empty_B]
theorem run_index_arr {P : Program} (w : World) (t e : TypeId) (len : Nat) (i : TypeInfo) (ht : P.underlying t = some (.array len e)) (hi : P.info? e = some i) (hs : i.size = 1) (ha : ∀ w, (isAgg e).run P w = .ok false w)
  (cs : Array Value) (k : IntKind) (n : Nat) (v : Value) (hn : n < len) (hv : cs[n]? = some v) : (Instr.index t (.agg cs) (.int k (n : Int))).run P w = .ok v w := by
 have h1 : (0 : Int) ≤ n ∧ (n : Int) < (len : Int) := by omega
 simp [Instr.index, asIntOf, run_underlying ht, h1, sizeOf, typeInfo, hi, hs, part, ha, hv]
 intro h
 omega
theorem quiet_add_left {P : Program} {f : FuncId} {args : Array Value} {w : World} {a n : Nat} {v : Value}
  (h : Calls P f args (w.drewN (a + n)) fun e w' => e = .returned v ∧ w.drewN (a + n) = w') :
  Calls P f args (w.drewN (a + n)) fun e w'' => e = .returned v ∧ ∃ m, w'' = w.drewN (a + m) :=
 h.mono fun _ _ ⟨he, hm⟩ => ⟨he, n, hm.symm⟩
theorem quiet_left {P : Program} {f : FuncId} {args : Array Value} {w : World} {n : Nat} {v : Value}
  (h : Calls P f args (w.drewN n) fun e w' => e = .returned v ∧ w.drewN n = w') : Calls P f args (w.drewN n) fun e w'' => e = .returned v ∧ ∃ m, w'' = w.drewN m :=
 h.mono fun _ _ ⟨he, hm⟩ => ⟨he, n, hm.symm⟩
theorem region_still {P : Program} {id : Nat} {Q : Exit → Act → World → Prop} {a : Act} {w : World} {l : List Oper} (n : Nat) (hm : P.follows .mixedOrders = true) (hB : Region.lexTailB .any l.toArray n = true)
  (h : wpStill P l.toArray w.drew (fun a' => wpList P l.toArray Q (l.drop n) a' w.drew) (l.take n) a) : (Code.region id l.toArray true).wp P Q a w := wp_region_still_tail n hm hB h
theorem still_left {P : Program} {f : FuncId} {args : Array Value} {w : World} {v : Value} (h : Calls P f args w fun e w' => e = .returned v ∧ w = w') :
  Calls P f args w fun e w' => e = .returned v ∧ w' = w := h.mono fun _ _ ⟨he, hw⟩ => ⟨he, hw.symm⟩
end Go.Proofs.YtpnbpcopdckgpaaGreatDoor.V
namespace Go.Proofs.YtpnbpcopdckgpaaGreatDoor.E
open Go Go.RowKit V
inductive AV where
 | v (x : Value)
 | agg (cs : List AV)
 | tup (vs : List AV)
 | sl (o : Option Nat) (n : Nat) (cs : List AV)
 | arr (id off n : Nat)
 | ptr (id off : Nat)
 | sptr (cs : List AV)
 | fn (f : Fn) (first caps : List AV)
 | mp (id : Nat)
structure Env where
 blk : Nat → Option Nat
 tip : Nat → Option Value
def Env.le (ρ ρ' : Env) : Prop := (∀ i b, ρ.blk i = some b → ρ'.blk i = some b) ∧ ∀ i v, ρ.tip i = some v → ρ'.tip i = some v
theorem Env.le_refl (ρ : Env) : ρ.le ρ := ⟨fun _ _ h => h, fun _ _ h => h⟩
theorem Env.le_trans {a b c : Env} (h : a.le b) (k : b.le c) : a.le c := ⟨fun _ _ x => k.1 _ _ (h.1 _ _ x), fun _ _ x => k.2 _ _ (h.2 _ _ x)⟩
inductive VRel (N : Nat → Nat → Prop) (ρ : Env) (w : World) : AV → Value → Prop
 | v (x : Value) : VRel N ρ w (.v x) x
 | agg (cs : List AV) (vs : Array Value) (hs : vs.size = cs.length) (h : ∀ (i : Nat) (c : AV) (x : Value), cs[i]? = some c → vs[i]? = some x → VRel N ρ w c x) : VRel N ρ w (.agg cs) (.agg vs)
 | tup (cs : List AV) (vs : Array Value) (hs : vs.size = cs.length) (h : ∀ (i : Nat) (c : AV) (x : Value), cs[i]? = some c → vs[i]? = some x → VRel N ρ w c x) : VRel N ρ w (.tup cs) (.tuple vs)
 | sl (o : Option Nat) (n : Nat) (cs : List AV) (a : Option Addr) (cap : Nat) (vals : Nat → Value)
   (hc : ∀ i : Nat, i < cs.length → (vals i).oneCell' = true ∧ ∃ b off, a = some ⟨b, off, none⟩ ∧ w.cell? ⟨b, off + i, none⟩ = some (vals i) ∧ N b (off + i))
   (h : ∀ (i : Nat) (c : AV), cs[i]? = some c → VRel N ρ w c (vals i)) (ho : ∀ k, o = some k → ρ.tip k = some (.slice a n cap)) (hn : n ≤ cap) (hz : a = none → n = 0) (hm : cap ≤ maxLen) : VRel N ρ w (.sl o n cs) (.slice a n cap)
 | arr (id off n cap b : Nat) (hb : ρ.blk id = some b) (hn : n ≤ cap) (hm : cap ≤ maxLen) : VRel N ρ w (.arr id off n) (.slice (some ⟨b, off, none⟩) n cap)
 | ptr (id off b : Nat) (hb : ρ.blk id = some b) : VRel N ρ w (.ptr id off) (.pointer (some ⟨b, off, none⟩))
 | sptr (cs : List AV) (b off : Nat) (vals : Nat → Value) (hc : ∀ i : Nat, i < cs.length → w.cell? ⟨b, off + i, none⟩ = some (vals i) ∧ N b (off + i))
   (h : ∀ (i : Nat) (c : AV), cs[i]? = some c → VRel N ρ w c (vals i)) : VRel N ρ w (.sptr cs) (.pointer (some ⟨b, off, none⟩))
 | fn (f : Fn) (fs cs : List AV) (vs us : Array Value) (hs : vs.size = fs.length) (h : ∀ (i : Nat) (c : AV) (x : Value), fs[i]? = some c → vs[i]? = some x → VRel N ρ w c x)
   (hs' : us.size = cs.length) (h' : ∀ (i : Nat) (c : AV) (x : Value), cs[i]? = some c → us[i]? = some x → VRel N ρ w c x) : VRel N ρ w (.fn f fs cs) (.func f vs us)
 | mp (id b : Nat) (hb : ρ.blk id = some b) : VRel N ρ w (.mp id) (.map (some b))
theorem VRel.mono {N N' : Nat → Nat → Prop} {ρ ρ' : Env} {w w' : World} (hN : ∀ b o, N b o → N' b o) (hρ : ρ.le ρ') (hw : ∀ b o, N b o → w'.cell? ⟨b, o, none⟩ = w.cell? ⟨b, o, none⟩)
  {av : AV} {x : Value} (h : VRel N ρ w av x) : VRel N' ρ' w' av x := by
 induction h with
 | v x => exact .v x
 | agg cs vs hs _ ih => exact .agg cs vs hs ih
 | tup cs vs hs _ ih => exact .tup cs vs hs ih
 | sl o n cs a cap vals hc _ ho hn hz hm ih =>
  exact .sl o n cs a cap vals (fun i hi => by obtain ⟨h1, b, off, ha, hx, hnn⟩ := hc i hi; exact ⟨h1, b, off, ha, (hw _ _ hnn).trans hx, hN _ _ hnn⟩) ih (fun k hk => hρ.2 _ _ (ho k hk)) hn hz hm
 | arr id off n cap b hb hn hm => exact .arr id off n cap b (hρ.1 _ _ hb) hn hm
 | ptr id off b hb => exact .ptr id off b (hρ.1 _ _ hb)
 | sptr cs b off vals hc _ ih => exact .sptr cs b off vals (fun i hi => ⟨(hw _ _ (hc i hi).2).trans (hc i hi).1, hN _ _ (hc i hi).2⟩) ih
 | fn f fs cs vs us hs _ hs' _ ih ih' => exact .fn f fs cs vs us hs ih hs' ih'
 | mp id b hb => exact .mp id b (hρ.1 _ _ hb)
inductive AO where
 | cells (T : TypeId) (cs : List AV)
 | tip (E : TypeId) (sz n : Nat)
 | map (es : List (Value × Value))
def AO.wr (ρ : Env) (i : Nat) : AO → Nat → Nat → Prop
 | .cells _ _, b, _ => ρ.blk i = some b
 | .tip _ sz n, b, o => ∃ cap, ρ.tip i = some (.slice (some ⟨b, 0, none⟩) n cap) ∧ n * sz ≤ o
 | .map _, b, _ => ρ.blk i = some b
def AO.at_ (ρ : Env) (i : Nat) : AO → Nat → Prop
 | .cells _ _, b => ρ.blk i = some b
 | .tip _ _ n, b => ∃ cap, ρ.tip i = some (.slice (some ⟨b, 0, none⟩) n cap)
 | .map _, b => ρ.blk i = some b
theorem AO.at_of_wr {ρ : Env} {i b o : Nat} {ob : AO} (h : ob.wr ρ i b o) : ob.at_ ρ i b := by
 cases ob with
 | cells => exact h
 | tip => exact ⟨h.choose, h.choose_spec.1⟩
 | map => exact h
def Mark (arr : Array Value) (fz : Nat × Nat) : Prop := fz = (0, 0) ∨ arr.size ≤ fz.1
theorem Mark.frozen {w : World} {g j : Nat} {arr : Array Value} {T : TypeId} {fz : Nat × Nat} (hm : Mark arr fz) (hg : w.heap[g]? = some (.cells arr T fz)) (hj : j < arr.size) : w.frozen? ⟨g, j, none⟩ = false := by
 obtain ⟨lo, hi⟩ := fz
 rcases hm with h | h
 · cases h; simp [World.frozen?, hg]
 have h' : arr.size ≤ lo := h
 simp only [World.frozen?, hg, Bool.and_eq_false_iff, decide_eq_false_iff_not]
 exact .inl (by omega)
def ORel (N : Nat → Nat → Prop) (ρ : Env) (w : World) (i : Nat) : AO → Prop
 | .cells T cs => ∃ b arr, ρ.blk i = some b ∧ (∃ fz, Mark arr fz ∧ w.heap[b]? = some (.cells arr T fz)) ∧ cs.length ≤ arr.size ∧ ∀ (j : Nat) (c : AV) (x : Value), cs[j]? = some c → arr[j]? = some x → VRel N ρ w c x ∧ x.oneCell' = true
 | .tip E sz n => (ρ.tip i = some (.slice none 0 0) ∧ n = 0) ∨ ∃ g cap cur, ρ.tip i = some (.slice (some ⟨g, 0, none⟩) n cap) ∧ w.heap[g]? = some (.cells cur E (0, 0)) ∧ n ≤ cap ∧ cap ≤ maxLen ∧ cur.size = cap * sz
 | .map es => ∃ b arr clk, ρ.blk i = some b ∧ w.heap[b]? = some (.map arr clk) ∧ arr.toList.map (fun e => (e.key, e.val)) = es
theorem ORel.lt {N : Nat → Nat → Prop} {ρ : Env} {w : World} {i b : Nat} {ob : AO} (h : ORel N ρ w i ob) (hb : ob.at_ ρ i b) : b < w.heap.size := by
 cases ob with
 | cells T cs =>
  obtain ⟨b', arr, h1, ⟨fz, hm, h2⟩, -⟩ := h
  have hb' : ρ.blk i = some b := hb
  rw [h1] at hb'
  cases hb'
  exact (Array.getElem?_eq_some_iff.1 h2).1
 | tip E sz n =>
  obtain ⟨cap, hb⟩ := hb
  rcases h with ⟨h1, -⟩ | ⟨g, cap', cur, h1, h2, -⟩
  · rw [h1] at hb; cases hb
  rw [h1] at hb
  cases hb
  exact (Array.getElem?_eq_some_iff.1 h2).1
 | map es =>
  obtain ⟨b', arr, clk, h1, h2, -⟩ := h
  have hb' : ρ.blk i = some b := hb
  rw [h1] at hb'
  cases hb'
  exact (Array.getElem?_eq_some_iff.1 h2).1
theorem ORel.at_back {N : Nat → Nat → Prop} {ρ ρ' : Env} {w : World} {i b : Nat} {ob : AO} (hρ : ρ.le ρ') (h : ORel N ρ w i ob) (hb : ob.at_ ρ' i b) : ob.at_ ρ i b := by
 cases ob with
 | cells T cs =>
  obtain ⟨b', arr, h1, -⟩ := h
  have hb' : ρ'.blk i = some b := hb
  rw [hρ.1 _ _ h1] at hb'
  cases hb'
  exact h1
 | tip E sz n =>
  obtain ⟨cap, hb⟩ := hb
  rcases h with ⟨h1, -⟩ | ⟨g, cap', cur, h1, -⟩ <;> rw [hρ.2 _ _ h1] at hb <;> cases hb
  exact ⟨cap, h1⟩
 | map es =>
  obtain ⟨b', arr, clk, h1, -⟩ := h
  have hb' : ρ'.blk i = some b := hb
  rw [hρ.1 _ _ h1] at hb'
  cases hb'
  exact h1
theorem ORel.wr_back {N : Nat → Nat → Prop} {ρ ρ' : Env} {w : World} {i b o : Nat} {ob : AO} (hρ : ρ.le ρ') (h : ORel N ρ w i ob) (hb : ob.wr ρ' i b o) : ob.wr ρ i b o := by
 cases ob with
 | cells T cs => exact h.at_back (ob := .cells T cs) hρ hb
 | tip E sz n =>
  obtain ⟨cap, hb, ho⟩ := hb
  rcases h with ⟨h1, -⟩ | ⟨g, cap', cur, h1, -⟩ <;> rw [hρ.2 _ _ h1] at hb <;> cases hb
  exact ⟨cap, h1, ho⟩
 | map es => exact h.at_back (ob := .map es) hρ hb
theorem ORel.keep {N N' : Nat → Nat → Prop} {ρ ρ' : Env} {w w' : World} {i : Nat} {ob : AO} (h : ORel N ρ w i ob) (hρ : ρ.le ρ') (hV : ∀ av x, VRel N ρ w av x → VRel N' ρ' w' av x)
  (hb : ∀ b, ob.at_ ρ i b → w'.heap[b]? = w.heap[b]?) : ORel N' ρ' w' i ob := by
 cases ob with
 | cells T cs =>
  obtain ⟨b, arr, h1, ⟨fz, hm, h2⟩, h3, h4⟩ := h
  exact ⟨b, arr, hρ.1 _ _ h1, ⟨fz, hm, (hb b h1).trans h2⟩, h3, fun j c x hc hx => ⟨hV _ _ (h4 j c x hc hx).1, (h4 j c x hc hx).2⟩⟩
 | tip E sz n =>
  rcases h with ⟨h1, h2⟩ | ⟨g, cap, cur, h1, h2, h3⟩
  · exact .inl ⟨hρ.2 _ _ h1, h2⟩
  exact .inr ⟨g, cap, cur, hρ.2 _ _ h1, (hb g ⟨cap, h1⟩).trans h2, h3⟩
 | map es =>
  obtain ⟨b, arr, clk, h1, h2, h3⟩ := h
  exact ⟨b, arr, clk, hρ.1 _ _ h1, (hb b h1).trans h2, h3⟩
structure Amb where
 w : World
 N : Nat → Nat → Prop
 W : Nat → Nat → Prop
 B : Nat → Prop
 nA : Nat
 G : List (Nat × Array Value)
 ρ : Env
def Nh (A : Amb) (h : Nat → Option AO) (ρ : Env) (w : World) (b o : Nat) : Prop :=
 b < w.heap.size ∧ (A.N b o ∨ A.W b o ∨ A.w.heap.size ≤ b) ∧ ∀ i ob, h i = some ob → ¬ ob.wr ρ i b o
structure HSat (A : Amb) (ρ : Env) (h : Nat → Option AO) (u : Nat → Bool) (w : World) : Prop where
 os : w.os = A.w.os
 tape : w.tape = A.w.tape
 output : w.output = A.w.output
 size : A.w.heap.size ≤ w.heap.size
 block : ∀ b, b < A.w.heap.size → ¬ A.B b → w.heap[b]? = A.w.heap[b]?
 keep : ∀ b o, A.N b o → w.cell? ⟨b, o, none⟩ = A.w.cell? ⟨b, o, none⟩
 nlt : ∀ b o, A.N b o → b < A.w.heap.size
 nw : ∀ b o, A.N b o → ¬ A.W b o
 wb : ∀ b o, A.W b o → A.B b
 tabs : ∀ x ∈ A.G, (∃ T, A.w.heap[x.1]? = some (.cells x.2 T (0, 0))) ∧ ¬ A.B x.1
 domB : ∀ i b, A.ρ.blk i = some b → i < A.nA
 domT : ∀ i v, A.ρ.tip i = some v → i < A.nA
 fix : ∀ i, i < A.nA → u i = true ∧ ρ.blk i = A.ρ.blk i ∧ ρ.tip i = A.ρ.tip i
 usedB : ∀ i b, ρ.blk i = some b → u i = true
 usedT : ∀ i v, ρ.tip i = some v → u i = true
 heap : ∀ i ob, h i = some ob → ORel (Nh A h ρ w) ρ w i ob
 own : ∀ i ob b o, h i = some ob → ob.wr ρ i b o → A.W b o ∨ A.w.heap.size ≤ b
 ownB : ∀ i ob b, h i = some ob → ob.at_ ρ i b → A.B b ∨ A.w.heap.size ≤ b
 sep : ∀ i j oi oj b, h i = some oi → h j = some oj → oi.at_ ρ i b → oj.at_ ρ j b → i = j
theorem HSat.le {A : Amb} {ρ : Env} {h : Nat → Option AO} {u : Nat → Bool} {w : World} (H : HSat A ρ h u w) : A.ρ.le ρ :=
 ⟨fun i b hb => by rw [(H.fix i (H.domB i b hb)).2.1]; exact hb, fun i b hb => by rw [(H.fix i (H.domT i b hb)).2.2]; exact hb⟩
theorem HSat.next {A : Amb} {ρ ρ' : Env} {h h' : Nat → Option AO} {u u' : Nat → Bool} {w w' : World} (H : HSat A ρ h u w)
  (os : w'.os = w.os) (tape : w'.tape = w.tape) (output : w'.output = w.output) (size : w.heap.size ≤ w'.heap.size) (fresh : ∀ i, u i = true → u' i = true ∧ ρ'.blk i = ρ.blk i ∧ ρ'.tip i = ρ.tip i)
  (usedB : ∀ i b, ρ'.blk i = some b → u' i = true) (usedT : ∀ i v, ρ'.tip i = some v → u' i = true)
  (block : ∀ b, b < w.heap.size → (∀ i ob, h i = some ob → ¬ ob.at_ ρ i b) → w'.heap[b]? = w.heap[b]?)
  (cells : ∀ b o, Nh A h ρ w b o → w'.cell? ⟨b, o, none⟩ = w.cell? ⟨b, o, none⟩)
  (own : ∀ i ob b o, h' i = some ob → ob.wr ρ' i b o → (∃ j oj, h j = some oj ∧ oj.wr ρ j b o) ∨ w.heap.size ≤ b)
  (ownB : ∀ i ob b, h' i = some ob → ob.at_ ρ' i b → (∃ j oj, h j = some oj ∧ oj.at_ ρ j b) ∨ w.heap.size ≤ b)
  (sep : ∀ i j oi oj b, h' i = some oi → h' j = some oj → oi.at_ ρ' i b → oj.at_ ρ' j b → i = j)
  (heap : (∀ av x, VRel (Nh A h ρ w) ρ w av x → VRel (Nh A h' ρ' w') ρ' w' av x) → ∀ i ob, h' i = some ob → ORel (Nh A h' ρ' w') ρ' w' i ob) :
  HSat A ρ' h' u' w' ∧ ∀ av x, VRel (Nh A h ρ w) ρ w av x → VRel (Nh A h' ρ' w') ρ' w' av x := by
 have hN : ∀ b o, Nh A h ρ w b o → Nh A h' ρ' w' b o := fun b o ⟨h1, h2, h3⟩ =>
  ⟨Nat.lt_of_lt_of_le h1 size, h2, fun i ob hi hw => (own i ob b o hi hw).elim (fun ⟨j, oj, hj, hwj⟩ => h3 j oj hj hwj) (fun hle => by omega)⟩
 have le : ρ.le ρ' := ⟨fun i b hb => by rw [(fresh i (H.usedB i b hb)).2.1]; exact hb, fun i b hb => by rw [(fresh i (H.usedT i b hb)).2.2]; exact hb⟩
 have hV : ∀ av x, VRel (Nh A h ρ w) ρ w av x → VRel (Nh A h' ρ' w') ρ' w' av x := fun av x hx => hx.mono hN le cells
 refine ⟨⟨os.trans H.os, tape.trans H.tape, output.trans H.output, Nat.le_trans H.size size, ?_, ?_, H.nlt, H.nw, H.wb, H.tabs, H.domB, H.domT, ?_, usedB, usedT, heap hV, ?_, ?_, sep⟩, hV⟩
 ·
  intro b hb hw
  refine (block b (Nat.lt_of_lt_of_le hb H.size) (fun i ob hi hwr => ?_)).trans (H.block b hb hw)
  exact (H.ownB i ob b hi hwr).elim hw (fun hle => by omega)
 ·
  intro b o hn
  refine (cells b o ⟨Nat.lt_of_lt_of_le (H.nlt b o hn) H.size, .inl hn, fun i ob hi hwr => ?_⟩).trans (H.keep b o hn)
  exact (H.own i ob b o hi hwr).elim (H.nw b o hn) (fun hle => by have := H.nlt b o hn; omega)
 ·
  intro i hi
  obtain ⟨h1, h2, h3⟩ := H.fix i hi
  obtain ⟨k1, k2, k3⟩ := fresh i h1
  exact ⟨k1, k2.trans h2, k3.trans h3⟩
 ·
  intro i ob b o hi hwr
  rcases own i ob b o hi hwr with ⟨j, oj, hj, hwj⟩ | hle
  · exact H.own j oj b o hj hwj
  exact .inr (Nat.le_trans H.size hle)
 intro i ob b hi hwr
 rcases ownB i ob b hi hwr with ⟨j, oj, hj, hwj⟩ | hle
 · exact H.ownB j oj b hj hwj
 exact .inr (Nat.le_trans H.size hle)
theorem HSat.same {A : Amb} {ρ : Env} {h : Nat → Option AO} {u : Nat → Bool} {w w' : World} (H : HSat A ρ h u w) (os : w'.os = w.os) (tape : w'.tape = w.tape) (output : w'.output = w.output) (hh : w'.heap = w.heap) :
  HSat A ρ h u w' ∧ ∀ av x, VRel (Nh A h ρ w) ρ w av x → VRel (Nh A h ρ w') ρ w' av x := by
 have hc : ∀ a, w'.cell? a = w.cell? a := fun a => by simp only [World.cell?, hh]
 refine H.next os tape output (by rw [hh]; exact Nat.le_refl _) (fun i hi => ⟨hi, rfl, rfl⟩) H.usedB H.usedT (fun b _ _ => by rw [hh]) (fun b o _ => hc _) (fun i ob b o hi hw => .inl ⟨i, ob, hi, hw⟩) (fun i ob b hi hw => .inl ⟨i, ob, hi, hw⟩) H.sep ?_
 intro hV i ob hi
 exact (H.heap i ob hi).keep (Env.le_refl ρ) hV (fun b _ => by rw [hh])
structure AS where
 n : Nat
 s : Nat → Option AV
 h : Nat → Option AO
 u : Nat → Bool
structure Sat (A : Amb) (ρ : Env) (σ : AS) (a : Act) (w : World) : Prop where
 mem : HSat A ρ σ.h σ.u w
 slots : ∀ t v, σ.s t = some v → ∃ x, a.tmps[t]? = some x ∧ VRel (Nh A σ.h ρ w) ρ w v x
 nt : a.tmps.size = σ.n
 defers : a.defers = []
def upd {α : Type} (f : Nat → Option α) (k : Nat) (x : Option α) : Nat → Option α := fun i => bif Nat.beq i k then x else f i
theorem upd_same {α : Type} (f : Nat → Option α) (k : Nat) (x : Option α) : upd f k x k = x := by simp [upd]
theorem upd_ne {α : Type} (f : Nat → Option α) {k i : Nat} (x : Option α) (h : i ≠ k) : upd f k x i = f i := by
 have : Nat.beq i k = false := by rw [← Bool.not_eq_true, Nat.beq_eq]; exact h
 simp [upd, this]
theorem upd_eq_some {α : Type} {f : Nat → Option α} {k i : Nat} {x : Option α} {y : α} (h : upd f k x i = some y) : (i = k ∧ x = some y) ∨ (i ≠ k ∧ f i = some y) := by
 by_cases hi : i = k
 · subst hi; rw [upd_same] at h; exact .inl ⟨rfl, h⟩
 rw [upd_ne f x hi] at h; exact .inr ⟨hi, h⟩
theorem upd_comm {α : Type} (f : Nat → Option α) {k j : Nat} (x y : Option α) (h : k ≠ j) : upd (upd f k x) j y = upd (upd f j y) k x := by
 funext i
 by_cases h1 : i = k
 · subst h1; rw [upd_ne _ _ h, upd_same, upd_same]
 by_cases h2 : i = j
 · subst h2; rw [upd_same, upd_ne _ _ h1, upd_same]
 rw [upd_ne _ _ h2, upd_ne _ _ h1, upd_ne _ _ h1, upd_ne _ _ h2]
structure Eff where
 val : Option AV
 ch : List (Nat × Option AO)
 nu : List Nat
def chs (h : Nat → Option AO) (ch : List (Nat × Option AO)) : Nat → Option AO := ch.foldl (fun h p => upd h p.1 p.2) h
def AS.put (σ : AS) (d : Option Tmp) (x : Option AV) : Nat → Option AV := match d with | some d => upd σ.s d x | none => σ.s
def nuU (u : Nat → Bool) : List Nat → Nat → Bool
 | [] => u
 | nu => fun i => u i || nu.contains i
theorem nuU_eq (u : Nat → Bool) (nu : List Nat) (i : Nat) : nuU u nu i = (u i || nu.contains i) := by cases nu <;> simp [nuU]
def AS.eff (σ : AS) (d : Option Tmp) (e : Eff) : AS := { n := σ.n, s := σ.put d e.val, h := chs σ.h e.ch, u := nuU σ.u e.nu }
def AS.ev (σ : AS) : Operand → Option AV
 | .tmp t => σ.s t
 | .const v => some (.v v)
 | .global g => some (.v (.pointer (some ⟨g, 0, none⟩)))
 | .func f => some (.v (.func (.func f) #[] #[]))
def opT : Operand → List Nat
 | .tmp t => [t]
 | _ => []
theorem ev_same {σ σ' : AS} {x : Operand} (h : ∀ t ∈ opT x, σ'.s t = σ.s t) : σ'.ev x = σ.ev x := by
 cases x with
 | tmp t => exact h t (by simp [opT])
 | _ => rfl
def SlOk (σ : AS) : List (Operand × AV) → Prop
 | [] => True
 | (t, x) :: r => σ.ev t = some x ∧ SlOk σ r
def HpOk (σ : AS) : List (Nat × AO) → Prop
 | [] => True
 | (t, x) :: r => σ.h t = some x ∧ HpOk σ r
def NuOk (σ : AS) : List Nat → Prop
 | [] => True
 | t :: r => σ.u t = false ∧ NuOk σ r
structure OpS (P : Program) (G : List (Nat × Array Value)) (o : Oper) (sl : List (Operand × AV)) (hp : List (Nat × AO)) (e : Eff) : Prop where
 run : ∀ (A : Amb) (ρ : Env) (σ : AS) (a : Act) (w : World) (K : Act → World → Prop) (Q : Exit → Act → World → Prop), A.G = G → SlOk σ sl → HpOk σ hp → NuOk σ e.nu → (∀ d, o.dst = some d → d < σ.n) → Sat A ρ σ a w →
  (∀ a' w' ρ', Sat A ρ' (σ.eff o.dst e) a' w' → K a' w') → o.wp P a w K Q
def gslot (ops : Array Oper) (o : Oper) : Option Nat := o.guard.bind fun g => (ops[g.1]?).bind (·.dst)
def boolV : Value → Option Bool
 | .bool b => some b
 | _ => none
def GdOk (ops : Array Oper) (o : Oper) (σ : AS) (b : Bool) : Prop :=
 match o.guard with
 | none => b = true
 | some (j, c) => ∃ t x, ((ops[j]?).bind (·.dst)) = some t ∧ σ.s t = some (.v x) ∧ b = (boolV x == some c)
structure St where
 w : Bool
 sl : List (Operand × AV)
 hp : List (Nat × AO)
 e : Eff
def Ok (P : Program) (G : List (Nat × Array Value)) (ops : Array Oper) (o : Oper) (d : St) (σ : AS) : Prop :=
 GdOk ops o σ d.w ∧ (d.w = true → OpS P G o d.sl d.hp d.e ∧ SlOk σ d.sl ∧ HpOk σ d.hp ∧ NuOk σ d.e.nu ∧ ∀ t, o.dst = some t → t < σ.n) ∧ (d.w = false → d.e = ⟨none, [], []⟩ ∨ (d.e = ⟨some (.v undef), [], []⟩ ∧ ∀ t, o.dst = some t → t < σ.n))
def Chain (P : Program) (G : List (Nat × Array Value)) (ops : Array Oper) (K : AS → Prop) : List Oper → List St → AS → Prop
 | [], [], σ => K σ
 | o :: r, d :: ds, σ => Ok P G ops o d σ ∧ Chain P G ops K r ds (σ.eff o.dst d.e)
 | _, _, _ => False
theorem wanted_gd {ops : Array Oper} {o : Oper} {σ : AS} {b : Bool} {A : Amb} {ρ : Env} {a : Act} {w : World} (h : GdOk ops o σ b) (hs : Sat A ρ σ a w) : Region.wanted o (yielded ops a.tmps) = b := by
 unfold GdOk at h
 unfold Region.wanted
 cases hg : o.guard with
 | none => rw [hg] at h; exact h.symm
 | some g =>
  obtain ⟨j, c⟩ := g
  rw [hg] at h
  obtain ⟨t, x, ht, hx, rfl⟩ := h
  obtain ⟨y, hy, hv⟩ := hs.slots t _ hx
  cases hv
  simp only [yielded, ht, Option.bind_some, hy]
  cases x <;> rfl
theorem put_undef2 {A : Amb} {ρ : Env} {σ : AS} {a : Act} {w : World} (hs : Sat A ρ σ a w) (d : Option Tmp) (hd : ∀ t, d = some t → t < σ.n) : Sat A ρ (σ.eff d ⟨some (.v undef), [], []⟩) (a.put d undef) w := by
 refine ⟨?_, ?_, ?_, ?_⟩
 · exact hs.mem
 ·
  intro t v ht
  cases d with
  | none => exact hs.slots t v ht
  | some d =>
   rcases upd_eq_some (f := σ.s) ht with ⟨he, h⟩ | ⟨hne, h⟩
   ·
    cases h
    subst he
    refine ⟨undef, ?_, .v _⟩
    simp only [Act.put]
    rw [Array.getElem?_setIfInBounds_self_of_lt (by rw [hs.nt]; exact hd _ rfl)]
   obtain ⟨x, hx, hv⟩ := hs.slots t v h
   exact ⟨x, by simp only [Act.put]; rw [Array.getElem?_setIfInBounds_ne (Ne.symm hne)]; exact hx, hv⟩
 · cases d <;> simp [Act.put, AS.eff, hs.nt]
 cases d <;> exact hs.defers
theorem put_undef {A : Amb} {ρ : Env} {σ : AS} {a : Act} {w : World} (hs : Sat A ρ σ a w) (d : Option Tmp) : Sat A ρ (σ.eff d ⟨none, [], []⟩) (a.put d undef) w := by
 refine ⟨?_, ?_, ?_, ?_⟩
 · exact hs.mem
 ·
  intro t v ht
  cases d with
  | none => exact hs.slots t v ht
  | some d =>
   rcases upd_eq_some (f := σ.s) ht with ⟨_, h⟩ | ⟨hne, h⟩
   · cases h
   obtain ⟨x, hx, hv⟩ := hs.slots t v h
   exact ⟨x, by simp only [Act.put]; rw [Array.getElem?_setIfInBounds_ne (Ne.symm hne)]; exact hx, hv⟩
 · cases d <;> simp [Act.put, AS.eff, hs.nt]
 cases d <;> exact hs.defers
theorem Ok.wpOp {P : Program} {G : List (Nat × Array Value)} {ops : Array Oper} {o : Oper} {d : St} {σ : AS} (h : Ok P G ops o d σ) {i : Nat} (hi : ops[i]? = some o) {A : Amb} {ρ : Env} {a : Act} {w : World} (hG : A.G = G)
  (hs : Sat A ρ σ a w) {K : Act → World → Prop} {Q : Exit → Act → World → Prop} (hK : ∀ a' w' ρ', Sat A ρ' (σ.eff o.dst d.e) a' w' → K a' w') : wpOp P ops Q i K a w := by
 obtain ⟨h1, h2, h3⟩ := h
 have hw := wanted_gd h1 hs
 unfold Go.wpOp
 simp only [hi]
 cases hd : d.w with
 | true =>
  rw [hw, hd, if_pos rfl]
  obtain ⟨k1, k2, k3, k4, k5⟩ := h2 hd
  exact .inl (k1.run A ρ σ a w K Q hG k2 k3 k4 k5 hs hK)
 | false =>
  rw [hw, hd, if_neg (by decide)]
  refine hK _ _ ρ ?_
  rcases h3 hd with he | ⟨he, hlt⟩
  ·
   rw [he]
   exact put_undef hs _
  rw [he]
  exact put_undef2 hs _ hlt
theorem wpOps_chain {P : Program} {G : List (Nat × Array Value)} {ops : Array Oper} {K : AS → Prop} {Q : Exit → Act → World → Prop} {A : Amb} (hG : A.G = G) (hQ : ∀ ρ σ a w, K σ → Sat A ρ σ a w → Q .normal a w) :
  ∀ (l : List Oper) (ds : List St) (k : Nat) (σ : AS) (ρ : Env) (a : Act) (w : World), (∀ j, l[j]? = ops[k + j]?) → Chain P G ops K l ds σ → Sat A ρ σ a w → wpOps P ops Q ((List.range l.length).map (k + ·)) a w
 | [], [], k, σ, ρ, a, w, _, hc, hs => hQ ρ σ a w hc hs
 | o :: l, d :: ds, k, σ, ρ, a, w, hl, hc, hs => by
  have h0 : ops[k]? = some o := by simpa using (hl 0).symm
  rw [List.length_cons, List.range_succ_eq_map, List.map_cons, List.map_map, wpOps_cons]
  refine hc.1.wpOp (by simpa using h0) hG hs fun a' w' ρ' hs' => ?_
  have := wpOps_chain hG hQ l ds (k + 1) _ ρ' a' w' (fun j => by have := hl (j + 1); simpa [Nat.add_assoc, Nat.add_comm 1 j] using this) hc.2 hs'
  have he : (fun x => k + x) ∘ Nat.succ = fun x => k + 1 + x := by funext x; simp; omega
  rw [he]
  exact this
 | [], _ :: _, _, _, _, _, _, _, hc, _ => hc.elim
 | _ :: _, [], _, _, _, _, _, _, hc, _ => hc.elim
theorem wp_region_chain {P : Program} {G : List (Nat × Array Value)} {l : List Oper} {ds : List St} {K : AS → Prop} {Q : Exit → Act → World → Prop} {A : Amb} (hG : A.G = G) (hQ : ∀ ρ σ a w, K σ → Sat A ρ σ a w → Q .normal a w)
  {id : Nat} {σ : AS} {ρ : Env} {a : Act} {w : World} (hc : Chain P G l.toArray K l ds σ) (hs : Sat A ρ σ a w) : (Code.region id l.toArray false).wp P Q a w := by
 refine wp_region ?_
 have := wpOps_chain hG hQ l ds 0 σ ρ a w (fun j => by simp) hc hs
 have he : (fun x => 0 + x) = (fun x : Nat => x) := by funext x; omega
 rw [he, List.map_id'] at this
 simpa using this
def inn : Option Nat → List Nat → Bool
 | none, _ => false
 | some x, l => l.contains x
def rds (ops : Array Oper) (o : Oper) (d : St) : List Nat := (gslot ops o).toList ++ d.sl.flatMap fun p => opT p.1
def hws (d : St) : List Nat := d.e.ch.map (·.1) ++ d.e.nu
def meets (a b : List Nat) : Bool := a.any fun x => b.contains x
def conf (ops : Array Oper) (o : Oper) (d : St) (o' : Oper) (d' : St) : Bool :=
 inn o.dst (o'.dst.toList ++ rds ops o' d') || inn o'.dst (rds ops o d) || meets (hws d) (hws d') || meets (hws d) (d'.hp.map (·.1)) || meets (hws d') (d.hp.map (·.1))
structure Apart (ops : Array Oper) (o : Oper) (d : St) (o' : Oper) (d' : St) : Prop where
 dd : ∀ x, o.dst = some x → o'.dst ≠ some x
 dr : ∀ x, o.dst = some x → x ∉ rds ops o' d'
 rd : ∀ x, o'.dst = some x → x ∉ rds ops o d
 ww : ∀ x ∈ hws d, x ∉ hws d'
 wr : ∀ x ∈ hws d, x ∉ d'.hp.map (·.1)
 rw' : ∀ x ∈ hws d', x ∉ d.hp.map (·.1)
theorem meets_false {a b : List Nat} (h : meets a b = false) : ∀ x ∈ a, x ∉ b := by
 intro x hx hb
 have : meets a b = true := List.any_eq_true.2 ⟨x, hx, by simpa using hb⟩
 rw [this] at h; cases h
theorem apart_of_conf {ops : Array Oper} {o o' : Oper} {d d' : St} (h : conf ops o d o' d' = false) : Apart ops o d o' d' := by
 simp only [conf, Bool.or_eq_false_iff] at h
 obtain ⟨⟨⟨⟨h1, h2⟩, h3⟩, h4⟩, h5⟩ := h
 refine ⟨?_, ?_, ?_, meets_false h3, meets_false h4, meets_false h5⟩
 ·
  intro x hx hy
  rw [hx, hy] at h1
  simp [inn] at h1
 ·
  intro x hx hy
  rw [hx] at h1
  simp [inn, hy] at h1
 intro x hx hy
 rw [hx] at h2
 simp [inn, hy] at h2
theorem chs_out {ch : List (Nat × Option AO)} : ∀ {h : Nat → Option AO} {i : Nat}, i ∉ ch.map (·.1) → chs h ch i = h i := by
 induction ch with
 | nil => intro h i _; rfl
 | cons p r ih =>
  intro h i hi
  simp only [List.map_cons, List.mem_cons, not_or] at hi
  exact (ih (h := upd h p.1 p.2) hi.2).trans (upd_ne _ _ hi.1)
theorem chs_upd {ch : List (Nat × Option AO)} : ∀ {h : Nat → Option AO} {k : Nat} {x : Option AO}, k ∉ ch.map (·.1) → chs (upd h k x) ch = upd (chs h ch) k x := by
 induction ch with
 | nil => intro h k x _; rfl
 | cons p r ih =>
  intro h k x hk
  simp only [List.map_cons, List.mem_cons, not_or] at hk
  show chs (upd (upd h k x) p.1 p.2) r = upd (chs (upd h p.1 p.2) r) k x
  rw [upd_comm _ _ _ hk.1, ih hk.2]
theorem chs_comm {c1 : List (Nat × Option AO)} : ∀ {c2 : List (Nat × Option AO)} {h : Nat → Option AO}, (∀ x ∈ c1.map (·.1), x ∉ c2.map (·.1)) → chs (chs h c1) c2 = chs (chs h c2) c1 := by
 induction c1 with
 | nil => intro c2 h _; rfl
 | cons p r ih =>
  intro c2 h hd
  show chs (chs (upd h p.1 p.2) r) c2 = chs (upd (chs h c2) p.1 p.2) r
  rw [ih (fun x hx => hd x (by simp [hx])), chs_upd (hd p.1 (by simp))]
theorem eff_comm {ops : Array Oper} {o o' : Oper} {d d' : St} (h : Apart ops o d o' d') (σ : AS) : (σ.eff o.dst d.e).eff o'.dst d'.e = (σ.eff o'.dst d'.e).eff o.dst d.e := by
 have h1 : ((σ.eff o.dst d.e).eff o'.dst d'.e).s = ((σ.eff o'.dst d'.e).eff o.dst d.e).s := by
  have := h.dd
  cases h1 : o.dst with
  | none => cases h2 : o'.dst <;> rfl
  | some x =>
   cases h2 : o'.dst with
   | none => rfl
   | some y => exact upd_comm _ _ _ (fun e => this x h1 (by rw [h2, e]))
 have h2 : ((σ.eff o.dst d.e).eff o'.dst d'.e).h = ((σ.eff o'.dst d'.e).eff o.dst d.e).h :=
  chs_comm fun x hx hy => h.ww x (List.mem_append_left _ hx) (List.mem_append_left _ hy)
 have h3 : ((σ.eff o.dst d.e).eff o'.dst d'.e).u = ((σ.eff o'.dst d'.e).eff o.dst d.e).u := by
  funext i
  show nuU (nuU σ.u _) _ i = nuU (nuU σ.u _) _ i
  simp only [nuU_eq]
  cases σ.u i <;> simp [Bool.or_comm]
 have ext : ∀ x y : AS, x.n = y.n → x.s = y.s → x.h = y.h → x.u = y.u → x = y := by
  rintro ⟨_, _, _, _⟩ ⟨_, _, _, _⟩ h h' h'' h'''
  cases h; cases h'; cases h''; cases h'''
  rfl
 exact ext _ _ rfl h1 h2 h3
theorem SlOk.iff {σ σ' : AS} : ∀ {l : List (Operand × AV)}, (∀ t ∈ l.flatMap (fun p => opT p.1), σ'.s t = σ.s t) → (SlOk σ' l ↔ SlOk σ l)
 | [], _ => Iff.rfl
 | (t, x) :: r, h => by
  have h1 : σ'.ev t = σ.ev t := ev_same fun i hi => h i (by rw [List.flatMap_cons]; exact List.mem_append_left _ hi)
  have h2 := SlOk.iff (l := r) fun t ht => h t (by rw [List.flatMap_cons]; exact List.mem_append_right _ ht)
  simp only [SlOk, h1, h2]
theorem HpOk.iff {σ σ' : AS} : ∀ {l : List (Nat × AO)}, (∀ t ∈ l.map (·.1), σ'.h t = σ.h t) → (HpOk σ' l ↔ HpOk σ l)
 | [], _ => Iff.rfl
 | (t, x) :: r, h => by
  have h1 := h t (by simp)
  have h2 := HpOk.iff (l := r) fun t ht => h t (by simp only [List.map_cons, List.mem_cons]; exact .inr ht)
  simp only [HpOk, h1, h2]
theorem NuOk.iff {σ σ' : AS} : ∀ {l : List Nat}, (∀ t ∈ l, σ'.u t = σ.u t) → (NuOk σ' l ↔ NuOk σ l)
 | [], _ => Iff.rfl
 | t :: r, h => by
  have h1 := h t (by simp)
  have h2 := NuOk.iff (l := r) fun t ht => h t (by simp [ht])
  simp only [NuOk, h1, h2]
theorem Ok.iff {P : Program} {G : List (Nat × Array Value)} {ops : Array Oper} {o o' : Oper} {d d' : St} (h : Apart ops o d o' d') (σ : AS) : Ok P G ops o' d' (σ.eff o.dst d.e) ↔ Ok P G ops o' d' σ := by
 have hs : ∀ t, t ∈ rds ops o' d' → (σ.eff o.dst d.e).s t = σ.s t := by
  intro t ht
  cases hd : o.dst with
  | none => rfl
  | some x => exact upd_ne _ _ (fun e => h.dr x hd (e ▸ ht))
 have hh : ∀ t, t ∉ hws d → (σ.eff o.dst d.e).h t = σ.h t := fun t ht => chs_out fun hm => ht (List.mem_append_left _ hm)
 have hu : ∀ t, t ∉ hws d → (σ.eff o.dst d.e).u t = σ.u t := by
  intro t ht
  have : t ∉ d.e.nu := fun hm => ht (List.mem_append_right _ hm)
  show nuU σ.u d.e.nu t = σ.u t
  simp [nuU_eq, this]
 have hg : GdOk ops o' (σ.eff o.dst d.e) d'.w ↔ GdOk ops o' σ d'.w := by
  unfold GdOk
  cases hgd : o'.guard with
  | none => exact Iff.rfl
  | some g =>
   obtain ⟨j, c⟩ := g
   have : ∀ t, ((ops[j]?).bind (·.dst)) = some t → (σ.eff o.dst d.e).s t = σ.s t := fun t ht => hs t (List.mem_append_left _ (by simp [gslot, hgd, ht]))
   constructor
   · rintro ⟨t, x, h1, h2, h3⟩; exact ⟨t, x, h1, by rw [← this t h1]; exact h2, h3⟩
   rintro ⟨t, x, h1, h2, h3⟩; exact ⟨t, x, h1, by rw [this t h1]; exact h2, h3⟩
 have a1 : SlOk (σ.eff o.dst d.e) d'.sl ↔ SlOk σ d'.sl := SlOk.iff fun t ht => hs t (List.mem_append_right _ ht)
 have a2 : HpOk (σ.eff o.dst d.e) d'.hp ↔ HpOk σ d'.hp := HpOk.iff fun t ht => hh t fun hm => h.wr t hm ht
 have a3 : NuOk (σ.eff o.dst d.e) d'.e.nu ↔ NuOk σ d'.e.nu := NuOk.iff fun t ht => hu t fun hm => h.ww t hm (List.mem_append_right _ ht)
 unfold Ok
 rw [hg, a1, a2, a3]
 rfl
theorem Apart.symm {ops : Array Oper} {o o' : Oper} {d d' : St} (h : Apart ops o d o' d') : Apart ops o' d' o d :=
 ⟨fun x hx hy => h.dd x hy hx, fun x hx => h.rd x hx, fun x hx => h.dr x hx, fun x hx hy => h.ww x hy hx, h.rw', h.wr⟩
def ChainI (P : Program) (G : List (Nat × Array Value)) (ops : Array Oper) (D : Nat → St) (K : AS → Prop) : List Nat → AS → Prop
 | [], σ => K σ
 | i :: r, σ => ∃ o, ops[i]? = some o ∧ Ok P G ops o (D i) σ ∧ ChainI P G ops D K r (σ.eff o.dst (D i).e)
theorem ChainI.front {P : Program} {G : List (Nat × Array Value)} {ops : Array Oper} {D : Nat → St} {K : AS → Prop} {i : Nat} {o : Oper} (hi : ops[i]? = some o) {post : List Nat} :
  ∀ {pre : List Nat} {σ : AS}, (∀ j ∈ pre, ∀ oj, ops[j]? = some oj → Apart ops oj (D j) o (D i)) → ChainI P G ops D K (pre ++ i :: post) σ → Ok P G ops o (D i) σ ∧ ChainI P G ops D K (pre ++ post) (σ.eff o.dst (D i).e)
 | [], σ, _, h => by
  obtain ⟨o', ho', h1, h2⟩ := h
  rw [hi] at ho'
  cases ho'
  exact ⟨h1, h2⟩
 | j :: pre, σ, hp, h => by
  obtain ⟨oj, hj, h1, h2⟩ := h
  have hap := hp j (by simp) oj hj
  obtain ⟨k1, k2⟩ := ChainI.front hi (fun j hj => hp j (by simp [hj])) h2
  refine ⟨(Ok.iff hap σ).1 k1, oj, hj, (Ok.iff hap.symm σ).2 h1, ?_⟩
  rw [← eff_comm hap]
  exact k2
def ancs (l : List Oper) : List Nat := l.foldl (fun acc o => acc ++ [o.after.toList.foldl (fun s e => bif Region.binds .any e then s ||| 2 ^ e.on ||| acc.getD e.on 0 else s) 0]) []
inductive Anc (ops : Array Oper) : Nat → Nat → Prop
 | one {i j : Nat} {o : Oper} {e : Edge} (h : ops[j]? = some o) (he : e ∈ o.after) (hb : Region.binds .any e = true) (hi : e.on = i) : Anc ops i j
 | more {i k j : Nat} {o : Oper} {e : Edge} (h : ops[j]? = some o) (he : e ∈ o.after) (hb : Region.binds .any e = true) (hi : e.on = k) (ha : Anc ops i k) : Anc ops i j
theorem anc_bits {ops : Array Oper} {j : Nat} {o : Oper} (ho : ops[j]? = some o) {acc : List Nat} (hacc : ∀ k i, (acc.getD k 0).testBit i = true → Anc ops i k) :
  ∀ (es : List Edge) (s : Nat), (∀ e ∈ es, e ∈ o.after) → (∀ i, s.testBit i = true → Anc ops i j) →
   ∀ i, (es.foldl (fun s e => bif Region.binds .any e then s ||| 2 ^ e.on ||| acc.getD e.on 0 else s) s).testBit i = true → Anc ops i j
 | [], s, _, hs, i, h => hs i h
 | e :: es, s, he, hs, i, h => by
  refine anc_bits ho hacc es _ (fun x hx => he x (by simp [hx])) ?_ i h
  intro i hi
  dsimp only at hi
  cases hb : Region.binds .any e with
  | false => rw [hb] at hi; exact hs i hi
  | true =>
   rw [hb] at hi
   simp only [cond_true, Nat.testBit_or, Bool.or_eq_true, Nat.testBit_two_pow] at hi
   rcases hi with (hi | hi) | hi
   · exact hs i hi
   · exact .one ho (he e (by simp)) hb (by simpa using hi)
   exact .more ho (he e (by simp)) hb rfl (hacc _ i hi)
theorem ancs_go {ops : Array Oper} : ∀ (l : List Oper) (acc : List Nat), (∀ j, l[j]? = ops[acc.length + j]?) → (∀ k i, (acc.getD k 0).testBit i = true → Anc ops i k) →
  ∀ k i, ((l.foldl (fun acc o => acc ++ [o.after.toList.foldl (fun s e => bif Region.binds .any e then s ||| 2 ^ e.on ||| acc.getD e.on 0 else s) 0]) acc).getD k 0).testBit i = true → Anc ops i k
 | [], acc, _, hacc, k, i, h => hacc k i h
 | o :: l, acc, hl, hacc, k, i, h => by
  refine ancs_go l _ (fun j => by have := hl (j + 1); simpa [Nat.add_assoc, Nat.add_comm 1 j] using this) ?_ k i h
  intro k i hk
  by_cases hlt : k < acc.length
  ·
   rw [List.getD_eq_getElem?_getD, List.getElem?_append_left hlt, ← List.getD_eq_getElem?_getD] at hk
   exact hacc k i hk
  by_cases he : k = acc.length
  ·
   subst he
   rw [List.getD_eq_getElem?_getD, List.getElem?_append_right (Nat.le_refl _)] at hk
   simp only [Nat.sub_self, List.getElem?_cons_zero, Option.getD_some] at hk
   exact anc_bits (by simpa using (hl 0).symm) hacc _ 0 (fun e he => by simpa using he) (fun i hi => by simp at hi) i hk
  rw [List.getD_eq_getElem?_getD, List.getElem?_eq_none (by simp; omega)] at hk
  simp at hk
theorem ancs_spec {l : List Oper} {k i : Nat} (h : ((ancs l).getD k 0).testBit i = true) : Anc l.toArray i k :=
 ancs_go (ops := l.toArray) l [] (fun j => by simp) (fun k i h => by simp at h) k i h
def chkRow (ops : Array Oper) (an : Nat) (o : Oper) (d : St) : Nat → List Oper → List St → Bool
 | k, p :: l, q :: ds => (an.testBit k || !conf ops p q o d) && chkRow ops an o d (k + 1) l ds
 | _, _, _ => true
def chkGo (ops : Array Oper) (l : List Oper) (ds : List St) : List Oper → List St → List Nat → Nat → Bool
 | o :: r, d :: rs, an :: ans, k => chkRow ops an o d 0 (l.take k) (ds.take k) && chkGo ops l ds r rs ans (k + 1)
 | _, _, _, _ => true
def chk (l : List Oper) (ds : List St) : Bool := chkGo l.toArray l ds l ds (ancs l) 0
theorem chkRow_spec {ops : Array Oper} {an : Nat} {o : Oper} {d : St} : ∀ {k : Nat} {l : List Oper} {ds : List St}, chkRow ops an o d k l ds = true → ∀ j p q, l[j]? = some p → ds[j]? = some q → an.testBit (k + j) = true ∨ conf ops p q o d = false
 | k, p :: l, q :: ds, h, 0, p', q', hp, hq => by
  simp only [List.getElem?_cons_zero, Option.some.injEq] at hp hq
  subst hp; subst hq
  simp only [chkRow, Bool.and_eq_true, Bool.or_eq_true, Bool.not_eq_true'] at h
  exact h.1
 | k, p :: l, q :: ds, h, j + 1, p', q', hp, hq => by
  simp only [chkRow, Bool.and_eq_true] at h
  have := chkRow_spec h.2 j p' q' (by simpa using hp) (by simpa using hq)
  rw [show k + (j + 1) = k + 1 + j by omega]
  exact this
 | _, [], _, _, _, _, _, hp, _ => by simp at hp
 | _, _ :: _, [], _, _, _, _, _, hq => by simp at hq
theorem chkGo_spec {ops : Array Oper} {l : List Oper} {ds : List St} : ∀ {r : List Oper} {rs : List St} {ans : List Nat} {k : Nat}, chkGo ops l ds r rs ans k = true → ans.length = r.length → ∀ m o d, r[m]? = some o → rs[m]? = some d →
  ∀ j p q, j < k + m → l[j]? = some p → ds[j]? = some q → (ans.getD m 0).testBit j = true ∨ conf ops p q o d = false
 | o :: r, d :: rs, an :: ans, k, h, hn, 0, o', d', ho, hd, j, p, q, hj, hp, hq => by
  simp only [List.getElem?_cons_zero, Option.some.injEq] at ho hd
  subst ho; subst hd
  simp only [chkGo, Bool.and_eq_true] at h
  have := chkRow_spec h.1 j p q (by rw [List.getElem?_take_of_lt (by omega)]; exact hp) (by rw [List.getElem?_take_of_lt (by omega)]; exact hq)
  simpa using this
 | o :: r, d :: rs, an :: ans, k, h, hn, m + 1, o', d', ho, hd, j, p, q, hj, hp, hq => by
  simp only [chkGo, Bool.and_eq_true] at h
  have := chkGo_spec h.2 (by simpa using hn) m o' d' (by simpa using ho) (by simpa using hd) j p q (by omega) hp hq
  simpa using this
 | [], _, _, _, _, _, _, _, _, ho, _, _, _, _, _, _, _ => by simp at ho
 | _ :: _, [], _, _, _, _, _, _, _, _, hd, _, _, _, _, _, _ => by simp at hd
 | _ :: _, _ :: _, [], _, _, hn, _, _, _, _, _, _, _, _, _, _, _ => by simp at hn
theorem ancs_len (l : List Oper) : (ancs l).length = l.length := by
 have : ∀ (l : List Oper) (acc : List Nat), (l.foldl (fun acc o => acc ++ [o.after.toList.foldl (fun s e => bif Region.binds .any e then s ||| 2 ^ e.on ||| acc.getD e.on 0 else s) 0]) acc).length = acc.length + l.length := by
  intro l
  induction l with
  | nil => intro acc; rfl
  | cons o l ih => intro acc; rw [List.foldl_cons, ih]; simp; omega
 simpa [ancs] using this l []
section
variable {P : Program} {G : List (Nat × Array Value)} {l : List Oper} {D : Nat → St} {K : AS → Prop} {Q : Exit → Act → World → Prop} {A : Amb}
def left (listed : Array Bool) (n : Nat) : List Nat := (List.range n).filter fun j => !listed.getD j false
theorem left_set {listed : Array Bool} {n i : Nat} (hn : listed.size = n) (hi : i ∈ left listed n) : ∃ pre post, left listed n = pre ++ i :: post ∧ left (listed.setIfInBounds i true) n = pre ++ post ∧ ∀ j ∈ pre, j < i := by
 have hin : i < n := by simpa using (List.mem_filter.1 hi).1
 obtain ⟨pre, post, he⟩ := List.append_of_mem hi
 have hsorted : (left listed n).Pairwise (· < ·) := (List.pairwise_lt_range (n := n)).filter _
 rw [he] at hsorted
 have h1 := List.pairwise_append.1 hsorted
 have hpre : ∀ j ∈ pre, j < i := fun j hj => h1.2.2 j hj i (by simp)
 have hpost : ∀ j ∈ post, i < j := fun j hj => (List.pairwise_cons.1 h1.2.1).1 j hj
 refine ⟨pre, post, he, ?_, hpre⟩
 have hf : left (listed.setIfInBounds i true) n = (left listed n).filter (fun j => j != i) := by
  unfold left
  rw [List.filter_filter]
  refine List.filter_congr fun j hj => ?_
  have hjn : j < n := by simpa using hj
  by_cases hji : j = i
  ·
   subst hji
   simp [Array.getD_eq_getD_getElem?, hn, hjn]
  rw [getD_set_ne false (Ne.symm hji)]
  simp [hji]
 rw [hf, he, List.filter_append, List.filter_cons]
 simp only [bne_self_eq_false, Bool.false_eq_true, if_false]
 rw [List.filter_eq_self.2 (fun j hj => by have := hpre j hj; simp; omega), List.filter_eq_self.2 (fun j hj => by have := hpost j hj; simp; omega)]
theorem any_of_left (hG : A.G = G) (hQ : ∀ ρ σ a w, K σ → Sat A ρ σ a w → Q .normal a w)
  (hed : ∀ (i : Nat) (o : Oper), l[i]? = some o → ∀ e ∈ o.after, Region.binds .any e = true → e.on < i)
  (hchk : ∀ (j i : Nat) (oj oi : Oper), j < i → l[j]? = some oj → l[i]? = some oi → Anc l.toArray j i ∨ Apart l.toArray oj (D j) oi (D i)) :
  ∀ (fuel : Nat) (listed : Array Bool) (σ : AS) (ρ : Env) (a : Act) (w : World), listed.size = l.length →
   (∀ (j : Nat) (o : Oper), listed.getD j false = true → l[j]? = some o → ∀ e ∈ o.after, Region.binds .any e = true → listed.getD e.on false = true) →
   ChainI P G l.toArray D K (left listed l.length) σ → (left listed l.length).length ≤ fuel → Sat A ρ σ a w → wpAny P .any l.toArray Q fuel listed a w := by
 intro fuel
 have hdone : ∀ (listed : Array Bool) (σ : AS) (ρ : Env) (a : Act) (w : World), listed.size = l.length →
   (∀ (j : Nat) (o : Oper), listed.getD j false = true → l[j]? = some o → ∀ e ∈ o.after, Region.binds .any e = true → listed.getD e.on false = true) →
   ChainI P G l.toArray D K (left listed l.length) σ → (left listed l.length) = [] → Sat A ρ σ a w → Q .normal a w := by
  intro listed σ ρ a w hn hcl hch hnil hs
  rw [hnil] at hch
  exact hQ ρ σ a w hch hs
 induction fuel with
 | zero =>
  intro listed σ ρ a w hn hcl hch hf hs
  have hnil : left listed l.length = [] := List.eq_nil_of_length_eq_zero (by omega)
  refine ⟨?_, hdone listed σ ρ a w hn hcl hch hnil hs⟩
  rw [List.eq_nil_iff_forall_not_mem]
  intro i hi
  obtain ⟨h1, h2⟩ := List.mem_filter.1 hi
  have : i ∈ left listed l.length := by
   refine List.mem_filter.2 ⟨by simpa using h1, ?_⟩
   simp only [Bool.and_eq_true] at h2
   have h3 := h2.1
   have hlt : i < listed.size := by simpa [hn] using h1
   simp only [Array.getD_eq_getD_getElem?, Array.getElem?_eq_getElem hlt, Option.getD_some] at h3 ⊢
   exact h3
  rw [hnil] at this
  cases this
 | succ fuel ih =>
  intro listed σ ρ a w hn hcl hch hf hs
  have hready : ∀ i, i ∈ Region.ready .any l.toArray listed → i ∈ left listed l.length ∧ ∃ o, l[i]? = some o ∧ ∀ e ∈ o.after, Region.binds .any e = true → listed.getD e.on false = true := by
   intro i hi
   obtain ⟨h1, h2⟩ := List.mem_filter.1 hi
   simp only [Bool.and_eq_true] at h2
   have hil : i < l.length := by simpa using h1
   have hlt : i < listed.size := by rw [hn]; exact hil
   refine ⟨List.mem_filter.2 ⟨by simpa using hil, ?_⟩, l[i], by simp [hil], ?_⟩
   ·
    have h3 := h2.1
    simp only [Array.getD_eq_getD_getElem?, Array.getElem?_eq_getElem hlt, Option.getD_some] at h3 ⊢
    exact h3
   have h3 := h2.2
   simp only [List.getElem?_toArray, List.getElem?_eq_getElem hil, Option.map_some, Option.getD_some, Array.all_eq_true'] at h3
   intro e he hb
   have := h3 e he
   simpa [hb] using this
  refine ⟨fun hr => ?_, fun i hi => ?_⟩
  ·
   refine hdone listed σ ρ a w hn hcl hch ?_ hs
   cases hleft : left listed l.length with
   | nil => rfl
   | cons i rest =>
    exfalso
    rw [hleft] at hch
    obtain ⟨o, ho, -⟩ := hch
    have hil : i ∈ left listed l.length := by rw [hleft]; simp
    have hi' := List.mem_filter.1 hil
    have hlt : i < l.length := by simpa using hi'.1
    by_cases hall : ∀ e ∈ o.after, Region.binds .any e = true → listed.getD e.on false = true
    ·
     have : i ∈ Region.ready .any l.toArray listed := by
      refine List.mem_filter.2 ⟨by simpa using hlt, ?_⟩
      have h3 := hi'.2
      have hlt' : i < listed.size := by rw [hn]; exact hlt
      simp only [Array.getD_eq_getD_getElem?, Array.getElem?_eq_getElem hlt', Option.getD_some] at h3
      simp only [Bool.and_eq_true, Array.getD_eq_getD_getElem?, Array.getElem?_eq_getElem hlt', Option.getD_some]
      refine ⟨h3, ?_⟩
      simp only [ho, Option.map_some, Option.getD_some, Array.all_eq_true']
      intro e he
      cases hb : Region.binds .any e with
      | false => rfl
      | true =>
       have := hall e he hb
       simp only [Array.getD_eq_getD_getElem?] at this
       simpa using this
     rw [hr] at this
     cases this
    refine hall fun e he hb => ?_
    have hlt2 := hed i o (by simpa using ho) e he hb
    cases hc : listed.getD e.on false with
    | true => rfl
    | false =>
     have hm : e.on ∈ left listed l.length := List.mem_filter.2 ⟨by simp; omega, by simp [hc]⟩
     have hsorted : (left listed l.length).Pairwise (· < ·) := (List.pairwise_lt_range (n := l.length)).filter _
     rw [hleft] at hm hsorted
     rcases List.mem_cons.1 hm with h | h
     · omega
     have := (List.pairwise_cons.1 hsorted).1 _ h
     omega
  obtain ⟨hil, o, ho, hpre⟩ := hready i hi
  obtain ⟨pre, post, h1, h2, h3⟩ := left_set hn hil
  have hoi : l.toArray[i]? = some o := by simpa using ho
  have hanc : ∀ j, Anc l.toArray j i → listed.getD j false = true := by
   have key : ∀ j k, Anc l.toArray j k → ∀ ok, l[k]? = some ok → (∀ e ∈ ok.after, Region.binds .any e = true → listed.getD e.on false = true) → listed.getD j false = true := by
    intro j k ha
    induction ha with
    | one h he hb hi' =>
     intro ok hok hall
     rw [List.getElem?_toArray, hok] at h
     cases h
     rw [← hi']
     exact hall _ he hb
    | more h he hb hi' ha ih' =>
     intro ok hok hall
     rw [List.getElem?_toArray, hok] at h
     cases h
     have hk := hall _ he hb
     rw [hi'] at hk
     refine (fun (k' : Nat) (hk : listed.getD k' false = true) (ih' : ∀ ok, l[k']? = some ok → (∀ e ∈ ok.after, Region.binds .any e = true → listed.getD e.on false = true) → listed.getD j false = true) => ?_) _ hk ih'
     cases hk2 : l[k']? with
     | none =>
      have : ¬ k' < l.length := by simpa using hk2
      rw [Array.getD_eq_getD_getElem?, Array.getElem?_eq_none (by omega)] at hk
      cases hk
     | some ok2 => exact ih' ok2 hk2 (fun e2 he2 hb2 => hcl k' ok2 hk hk2 e2 he2 hb2)
   intro j ha
   exact key j i ha o ho hpre
  rw [h1] at hch
  obtain ⟨k1, k2⟩ := ChainI.front hoi (fun j hj oj hoj => by
   have hj' : j ∈ left listed l.length := by rw [h1]; simp [hj]
   rcases hchk j i oj o (h3 j hj) (by simpa using hoj) ho with ha | ha
   ·
    have := hanc j ha
    have hjf := (List.mem_filter.1 hj').2
    rw [this] at hjf
    cases hjf
   exact ha) hch
  refine k1.wpOp hoi hG hs fun a' w' ρ' hs' => ?_
  refine ih (listed.setIfInBounds i true) _ ρ' a' w' (by simpa using hn) ?_ (by rw [h2]; exact k2) ?_ hs'
  ·
   intro j oj hj hoj e he hb
   by_cases hji : j = i
   ·
    subst hji
    rw [ho] at hoj
    cases hoj
    exact getD_set_true (hpre e he hb)
   rw [getD_set_ne false (Ne.symm hji)] at hj
   exact getD_set_true (hcl j oj hj hoj e he hb)
  rw [h2]
  rw [h1] at hf
  simp only [List.length_append, List.length_cons] at hf ⊢
  omega
end
def edgesOk : Nat → List Oper → Bool
 | k, o :: l => o.after.toList.all (fun e => !Region.binds .any e || decide (e.on < k)) && edgesOk (k + 1) l
 | _, [] => true
theorem edgesOk_spec : ∀ {k : Nat} {l : List Oper}, edgesOk k l = true → ∀ (i : Nat) (o : Oper), l[i]? = some o → ∀ e ∈ o.after, Region.binds .any e = true → e.on < k + i
 | k, o :: l, h, 0, o', ho, e, he, hb => by
  simp only [List.getElem?_cons_zero, Option.some.injEq] at ho
  subst ho
  simp only [edgesOk, Bool.and_eq_true, List.all_eq_true] at h
  have := h.1 e (by simpa using he)
  simpa [hb] using this
 | k, o :: l, h, i + 1, o', ho, e, he, hb => by
  simp only [edgesOk, Bool.and_eq_true] at h
  have := edgesOk_spec h.2 i o' (by simpa using ho) e he hb
  omega
 | k, [], _, i, o, ho, _, _, _ => by simp at ho
theorem chainI_of {P : Program} {G : List (Nat × Array Value)} {l : List Oper} {K : AS → Prop} {D : Nat → St} : ∀ (r : List Oper) (ds : List St) (k : Nat) (σ : AS), (∀ j, r[j]? = l[k + j]?) → (∀ j d, ds[j]? = some d → D (k + j) = d) →
  Chain P G l.toArray K r ds σ → ChainI P G l.toArray D K ((List.range r.length).map (k + ·)) σ
 | [], [], k, σ, _, _, h => h
 | o :: r, d :: ds, k, σ, hl, hd, h => by
  have h0 : l[k]? = some o := by simpa using (hl 0).symm
  have hD : D k = d := by simpa using hd 0 d rfl
  rw [List.length_cons, List.range_succ_eq_map, List.map_cons, List.map_map]
  refine ⟨o, by simpa using h0, by simpa [hD] using h.1, ?_⟩
  have := chainI_of r ds (k + 1) _ (fun j => by have := hl (j + 1); simpa [Nat.add_assoc, Nat.add_comm 1 j] using this) (fun j d hj => by have := hd (j + 1) d (by simpa using hj); rw [← this]; congr 1; omega) h.2
  have he : (fun x => k + x) ∘ Nat.succ = fun x => k + 1 + x := by funext x; simp; omega
  rw [he]
  simpa [hD] using this
 | [], _ :: _, _, _, _, _, h => h.elim
 | _ :: _, [], _, _, _, _, h => h.elim
theorem chain_len {P : Program} {G : List (Nat × Array Value)} {ops : Array Oper} {K : AS → Prop} : ∀ {l : List Oper} {ds : List St} {σ : AS}, Chain P G ops K l ds σ → ds.length = l.length
 | [], [], _, _ => rfl
 | _ :: _, _ :: _, _, h => by simp [chain_len h.2]
 | [], _ :: _, _, h => h.elim
 | _ :: _, [], _, h => h.elim
theorem wp_region_drawn {P : Program} {G : List (Nat × Array Value)} {l : List Oper} {ds : List St} {K : AS → Prop} {Q : Exit → Act → World → Prop} {A : Amb} (hm : P.follows .mixedOrders = true) (hG : A.G = G)
  (hQ : ∀ ρ σ a w, K σ → Sat A ρ σ a w → Q .normal a w) {id : Nat} {σ : AS} {ρ : Env} {a : Act} {w : World} (hc : Chain P G l.toArray K l ds σ) (hchk : (edgesOk 0 l && chk l ds) = true) (hs : Sat A ρ σ a w) :
  (Code.region id l.toArray true).wp P Q a w := by
 simp only [Bool.and_eq_true] at hchk
 refine wp_region_any hm ?_
 have hs' : Sat A ρ σ a { w with drawn := w.drawn + 1 } := by
  obtain ⟨h1, h2⟩ := hs.mem.same (w' := { w with drawn := w.drawn + 1 }) rfl rfl rfl rfl
  exact ⟨h1, fun t v ht => by obtain ⟨x, hx, hv⟩ := hs.slots t v ht; exact ⟨x, hx, h2 _ _ hv⟩, hs.nt, hs.defers⟩
 have hlen := chain_len hc
 have hleft : left (Array.replicate l.length false) l.length = List.range l.length := by
  unfold left
  rw [List.filter_eq_self]
  intro j hj
  have : j < l.length := by simpa using hj
  simp [Array.getD_eq_getD_getElem?, this]
 have hch : ChainI P G l.toArray (fun j => ds.getD j ⟨true, [], [], ⟨none, [], []⟩⟩) K (List.range l.length) σ := by
  have := chainI_of (P := P) (G := G) (K := K) (D := fun j => ds.getD j ⟨true, [], [], ⟨none, [], []⟩⟩) l ds 0 σ (fun j => by simp) (fun j d hj => by simp [List.getD_eq_getElem?_getD, hj]) hc
  have he : (fun x => 0 + x) = (fun x : Nat => x) := by funext x; omega
  rw [he, List.map_id'] at this
  exact this
 have hsz : l.toArray.size = l.length := by simp
 rw [hsz]
 refine any_of_left (D := fun j => ds.getD j ⟨true, [], [], ⟨none, [], []⟩⟩) hG hQ (fun i o ho e he hb => by simpa using edgesOk_spec hchk.1 i o ho e he hb) ?_ l.length (Array.replicate l.length false) σ ρ a _ (by simp) ?_ (by rw [hleft]; exact hch)
  (by rw [hleft]; simp) hs'
 ·
  intro j i oj oi hji hj hi
  have hil : i < l.length := (List.getElem?_eq_some_iff.1 hi).1
  have hdj : ds[j]? = some (ds.getD j ⟨true, [], [], ⟨none, [], []⟩⟩) := by
   have : j < ds.length := by omega
   simp [List.getD_eq_getElem?_getD, List.getElem?_eq_getElem this]
  have hdi : ds[i]? = some (ds.getD i ⟨true, [], [], ⟨none, [], []⟩⟩) := by
   have : i < ds.length := by omega
   simp [List.getD_eq_getElem?_getD, List.getElem?_eq_getElem this]
  rcases chkGo_spec hchk.2 (ancs_len l) i oi _ hi hdi j oj _ (by omega) hj hdj with h | h
  · exact .inl (ancs_spec h)
  exact .inr (apart_of_conf h)
 intro j o hj
 by_cases hjl : j < l.length
 · simp [Array.getD_eq_getD_getElem?, hjl] at hj
 simp [Array.getD_eq_getD_getElem?, hjl] at hj
end Go.Proofs.YtpnbpcopdckgpaaGreatDoor.E
section
namespace Go.Proofs.YtpnbpcopdckgpaaGreatDoor.E
open Go Go.RowKit Go.Proofs.YtpnbpcopdckgpaaGreatDoor.V
mutual
def AV.ren (π : Nat → Nat) : AV → AV
 | .v x => .v x
 | .agg cs => .agg (AV.renL π cs)
 | .tup cs => .tup (AV.renL π cs)
 | .sl o n cs => .sl (o.map π) n (AV.renL π cs)
 | .arr id off n => .arr (π id) off n
 | .ptr id off => .ptr (π id) off
 | .sptr cs => .sptr (AV.renL π cs)
 | .fn f fs cs => .fn f (AV.renL π fs) (AV.renL π cs)
 | .mp id => .mp (π id)
def AV.renL (π : Nat → Nat) : List AV → List AV
 | [] => []
 | c :: r => AV.ren π c :: AV.renL π r
end
theorem renL_eq (π : Nat → Nat) : ∀ l, AV.renL π l = l.map (AV.ren π)
 | [] => rfl
 | c :: r => by rw [AV.renL, renL_eq π r]; rfl
theorem renL_len (π : Nat → Nat) (l : List AV) : (AV.renL π l).length = l.length := by rw [renL_eq, List.length_map]
theorem renL_get {π : Nat → Nat} {l : List AV} {i : Nat} {c : AV} (h : (AV.renL π l)[i]? = some c) : ∃ c0, l[i]? = some c0 ∧ c = c0.ren π := by
 rw [renL_eq, List.getElem?_map] at h
 cases h0 : l[i]? with
 | none => rw [h0] at h; cases h
 | some c0 => rw [h0] at h; cases h; exact ⟨c0, rfl, rfl⟩
theorem renL_append (π : Nat → Nat) (a b : List AV) : AV.renL π (a ++ b) = AV.renL π a ++ AV.renL π b := by simp only [renL_eq, List.map_append]
theorem renL_raw (π : Nat → Nat) {α : Type} (f : α → Value) (l : List α) : AV.renL π (l.map fun x => .v (f x)) = l.map fun x => .v (f x) := by
 rw [renL_eq, List.map_map]; rfl
mutual
def AV.bel (u : Nat → Bool) : AV → Prop
 | .v _ => True
 | .agg cs => AV.belL u cs
 | .tup cs => AV.belL u cs
 | .sl o _ cs => (∀ k, o = some k → u k = true) ∧ AV.belL u cs
 | .arr id _ _ => u id = true
 | .ptr id _ => u id = true
 | .sptr cs => AV.belL u cs
 | .fn _ fs cs => AV.belL u fs ∧ AV.belL u cs
 | .mp id => u id = true
def AV.belL (u : Nat → Bool) : List AV → Prop
 | [] => True
 | c :: r => AV.bel u c ∧ AV.belL u r
end
theorem belL_get {u : Nat → Bool} : ∀ {l : List AV} {i : Nat} {c : AV}, AV.belL u l → l[i]? = some c → c.bel u
 | d :: r, 0, c, h, hc => by simp at hc; subst hc; exact h.1
 | d :: r, i + 1, c, h, hc => belL_get (l := r) (i := i) h.2 (by simpa using hc)
 | [], i, c, h, hc => by simp at hc
theorem belL_raw (u : Nat → Bool) {α : Type} (f : α → Value) : ∀ l : List α, AV.belL u (l.map fun x => .v (f x))
 | [] => trivial
 | _ :: r => ⟨trivial, belL_raw u f r⟩
theorem VRel.ren {N : Nat → Nat → Prop} {ρ2 ρ : Env} {w : World} {π : Nat → Nat} (hb : ∀ i b, ρ2.blk i = some b → ρ.blk (π i) = some b) (ht : ∀ i v, ρ2.tip i = some v → ρ.tip (π i) = some v)
  {v : AV} {x : Value} (h : VRel N ρ2 w v x) : VRel N ρ w (v.ren π) x := by
 induction h with
 | v x => exact .v x
 | agg cs vs hs _ ih => exact .agg _ vs (by rw [renL_len]; exact hs) fun i c x hc hx => by obtain ⟨c0, h0, rfl⟩ := renL_get hc; exact ih i c0 x h0 hx
 | tup cs vs hs _ ih => exact .tup _ vs (by rw [renL_len]; exact hs) fun i c x hc hx => by obtain ⟨c0, h0, rfl⟩ := renL_get hc; exact ih i c0 x h0 hx
 | sl o n cs a cap vals hc _ ho hn hz hm ih =>
  refine .sl _ n _ a cap vals (fun i hi => hc i (by rw [renL_len] at hi; exact hi)) (fun i c hc => by obtain ⟨c0, h0, rfl⟩ := renL_get hc; exact ih i c0 h0) ?_ hn hz hm
  intro k hk
  cases o with
  | none => cases hk
  | some j => cases hk; exact ht _ _ (ho j rfl)
 | arr id off n cap b hb' hn hm => exact .arr _ off n cap b (hb _ _ hb') hn hm
 | ptr id off b hb' => exact .ptr _ off b (hb _ _ hb')
 | sptr cs b off vals hc _ ih => exact .sptr _ b off vals (fun i hi => hc i (by rw [renL_len] at hi; exact hi)) (fun i c hc => by obtain ⟨c0, h0, rfl⟩ := renL_get hc; exact ih i c0 h0)
 | mp id b hb' => exact .mp _ b (hb _ _ hb')
 | fn f fs cs vs us hs _ hs' _ ih ih' =>
  exact .fn f _ _ vs us (by rw [renL_len]; exact hs) (fun i c x hc hx => by obtain ⟨c0, h0, rfl⟩ := renL_get hc; exact ih i c0 x h0 hx) (by rw [renL_len]; exact hs') (fun i c x hc hx => by obtain ⟨c0, h0, rfl⟩ := renL_get hc; exact ih' i c0 x h0 hx)
theorem VRel.unren {N : Nat → Nat → Prop} {ρ2 ρ : Env} {w : World} {π : Nat → Nat} {u : Nat → Bool} (hb : ∀ i b, u i = true → ρ.blk (π i) = some b → ρ2.blk i = some b) (ht : ∀ i v, u i = true → ρ.tip (π i) = some v → ρ2.tip i = some v)
  {v : AV} {x : Value} (h : VRel N ρ w v x) : ∀ v', v = v'.ren π → v'.bel u → VRel N ρ2 w v' x := by
 induction h with
 | v x => intro v' hv hbl; cases v' <;> simp only [AV.ren, reduceCtorEq] at hv; cases hv; exact .v x
 | agg cs vs hs _ ih =>
  intro v' hv hbl
  cases v' <;> simp only [AV.ren, reduceCtorEq, AV.agg.injEq] at hv
  subst hv
  exact .agg _ vs (by rw [renL_len] at hs; exact hs) fun i c x hc hx => ih i (c.ren π) x (by rw [renL_eq, List.getElem?_map, hc]; rfl) hx c rfl (belL_get hbl hc)
 | tup cs vs hs _ ih =>
  intro v' hv hbl
  cases v' <;> simp only [AV.ren, reduceCtorEq, AV.tup.injEq] at hv
  subst hv
  exact .tup _ vs (by rw [renL_len] at hs; exact hs) fun i c x hc hx => ih i (c.ren π) x (by rw [renL_eq, List.getElem?_map, hc]; rfl) hx c rfl (belL_get hbl hc)
 | sl o n cs a cap vals hc _ ho hn hz hm ih =>
  intro v' hv hbl
  cases v' <;> simp only [AV.ren, reduceCtorEq, AV.sl.injEq] at hv
  obtain ⟨rfl, rfl, rfl⟩ := hv
  refine .sl _ _ _ a cap vals (fun i hi => hc i (by rw [renL_len]; exact hi)) (fun i c hc => ih i (c.ren π) (by rw [renL_eq, List.getElem?_map, hc]; rfl) c rfl (belL_get hbl.2 hc)) ?_ hn hz hm
  rintro k rfl
  exact ht _ _ (hbl.1 k rfl) (ho _ rfl)
 | arr id off n cap b hb' hn hm =>
  intro v' hv hbl
  cases v' <;> simp only [AV.ren, reduceCtorEq, AV.arr.injEq] at hv
  obtain ⟨rfl, rfl, rfl⟩ := hv
  exact .arr _ _ _ _ b (hb _ _ hbl hb') hn hm
 | ptr id off b hb' =>
  intro v' hv hbl
  cases v' <;> simp only [AV.ren, reduceCtorEq, AV.ptr.injEq] at hv
  obtain ⟨rfl, rfl⟩ := hv
  exact .ptr _ _ b (hb _ _ hbl hb')
 | sptr cs b off vals hc _ ih =>
  intro v' hv hbl
  cases v' <;> simp only [AV.ren, reduceCtorEq, AV.sptr.injEq] at hv
  subst hv
  exact .sptr _ b off vals (fun i hi => hc i (by rw [renL_len]; exact hi)) (fun i c hc => ih i (c.ren π) (by rw [renL_eq, List.getElem?_map, hc]; rfl) c rfl (belL_get hbl hc))
 | mp id b hb' =>
  intro v' hv hbl
  cases v' <;> simp only [AV.ren, reduceCtorEq, AV.mp.injEq] at hv
  subst hv
  exact .mp _ b (hb _ _ hbl hb')
 | fn f fs cs vs us hs _ hs' _ ih ih' =>
  intro v' hv hbl
  cases v' <;> simp only [AV.ren, reduceCtorEq, AV.fn.injEq] at hv
  obtain ⟨rfl, rfl, rfl⟩ := hv
  exact .fn _ _ _ vs us (by rw [renL_len] at hs; exact hs) (fun i c x hc hx => ih i (c.ren π) x (by rw [renL_eq, List.getElem?_map, hc]; rfl) hx c rfl (belL_get hbl.1 hc))
   (by rw [renL_len] at hs'; exact hs') (fun i c x hc hx => ih' i (c.ren π) x (by rw [renL_eq, List.getElem?_map, hc]; rfl) hx c rfl (belL_get hbl.2 hc))
def AO.ren (π : Nat → Nat) : AO → AO
 | .cells T cs => .cells T (AV.renL π cs)
 | .tip E sz n => .tip E sz n
 | .map es => .map es
def AO.bel (u : Nat → Bool) : AO → Prop
 | .cells _ cs => AV.belL u cs
 | .tip _ _ _ => True
 | .map _ => True
inductive AV.wk : AV → AV → Prop
 | rfl (x : AV) : AV.wk x x
 | untip (o : Option Nat) (n : Nat) (cs : List AV) : AV.wk (.sl o n cs) (.sl none n cs)
 | nil : AV.wk (.v (.slice none 0 0)) (.sl none 0 [])
 | func (f : Fn) : AV.wk (.v (.func f #[] #[])) (.fn f [] [])
theorem AV.wk.of_eq {x y : AV} (h : x = y) : AV.wk x y := h ▸ .rfl x
theorem VRel.wk {N : Nat → Nat → Prop} {ρ : Env} {w : World} {v v' : AV} {x : Value} (hk : v.wk v') (h : VRel N ρ w v x) : VRel N ρ w v' x := by
 cases hk with
 | rfl => exact h
 | untip o n cs =>
  cases h with
  | sl o n cs a cap vals hc h ho hn hz hm => exact .sl none n cs a cap vals hc h (fun k hk => by cases hk) hn hz hm
 | nil =>
  cases h
  exact .sl none 0 [] none 0 (fun _ => undef) (fun i hi => by cases hi) (fun i c hc => by simp at hc) (fun k hk => by cases hk) (Nat.le_refl _) (fun _ => rfl) (by unfold maxLen; omega)
 | func f =>
  cases h
  exact .fn f [] [] #[] #[] rfl (fun i c x hc _ => by simp at hc) rfl (fun i c x hc _ => by simp at hc)
structure Ent (π : Nat → Nat) (nA : Nat) (σ σ' : AS) : Prop where
 n : σ'.n = σ.n
 arg : ∀ i, i < nA → π i = i ∧ σ'.u i = true
 s : ∀ t v', σ'.s t = some v' → v'.bel σ'.u ∧ ∃ v, σ.s t = some v ∧ v.wk (v'.ren π)
 h : ∀ i o', σ'.h i = some o' → σ'.u i = true ∧ o'.bel σ'.u ∧ σ.h (π i) = some (o'.ren π)
 inj : ∀ i j oi oj, σ'.h i = some oi → σ'.h j = some oj → π i = π j → i = j
theorem Ent.sat {π : Nat → Nat} {σ σ' : AS} {A : Amb} (hE : Ent π A.nA σ σ') {ρ : Env} {a : Act} {w : World} (hs : Sat A ρ σ a w) : ∃ ρ', Sat A ρ' σ' a w := by
 let ρ' : Env := ⟨fun i => if σ'.u i = true then ρ.blk (π i) else none, fun i => if σ'.u i = true then ρ.tip (π i) else none⟩
 have hb : ∀ i b, σ'.u i = true → ρ.blk (π i) = some b → ρ'.blk i = some b := fun i b hu h => by show (if _ then _ else _) = _; rw [if_pos hu]; exact h
 have ht : ∀ i v, σ'.u i = true → ρ.tip (π i) = some v → ρ'.tip i = some v := fun i b hu h => by show (if _ then _ else _) = _; rw [if_pos hu]; exact h
 have hb' : ∀ i b, ρ'.blk i = some b → σ'.u i = true ∧ ρ.blk (π i) = some b := fun i b h => by
  have h' : (if σ'.u i = true then ρ.blk (π i) else none) = some b := h
  split at h'
  · exact ⟨‹_›, h'⟩
  cases h'
 have ht' : ∀ i b, ρ'.tip i = some b → σ'.u i = true ∧ ρ.tip (π i) = some b := fun i b h => by
  have h' : (if σ'.u i = true then ρ.tip (π i) else none) = some b := h
  split at h'
  · exact ⟨‹_›, h'⟩
  cases h'
 have hat : ∀ (i : Nat) (ob : AO) (b : Nat), ob.at_ ρ' i b → (ob.ren π).at_ ρ (π i) b := fun i ob b h => by
  cases ob with
  | cells => exact (hb' _ _ h).2
  | map => exact (hb' _ _ h).2
  | tip => exact ⟨h.choose, (ht' _ _ h.choose_spec).2⟩
 have hwr : ∀ (i : Nat) (ob : AO) (b o : Nat), ob.wr ρ' i b o → (ob.ren π).wr ρ (π i) b o := fun i ob b o h => by
  cases ob with
  | cells => exact (hb' _ _ h).2
  | map => exact (hb' _ _ h).2
  | tip => exact ⟨h.choose, (ht' _ _ h.choose_spec.1).2, h.choose_spec.2⟩
 have hN : ∀ b o, Nh A σ.h ρ w b o → Nh A σ'.h ρ' w b o := fun b o ⟨h1, h2, h3⟩ => ⟨h1, h2, fun i ob hi hw => h3 _ _ (hE.h i ob hi).2.2 (hwr i ob b o hw)⟩
 have hV : ∀ (v' : AV) (x : Value), v'.bel σ'.u → VRel (Nh A σ.h ρ w) ρ w (v'.ren π) x → VRel (Nh A σ'.h ρ' w) ρ' w v' x := fun v' x hbl h =>
  VRel.mono hN (Env.le_refl ρ') (fun _ _ _ => rfl) (h.unren (u := σ'.u) hb ht v' rfl hbl)
 refine ⟨ρ', ⟨⟨hs.mem.os, hs.mem.tape, hs.mem.output, hs.mem.size, hs.mem.block, hs.mem.keep, hs.mem.nlt, hs.mem.nw, hs.mem.wb, hs.mem.tabs, hs.mem.domB, hs.mem.domT, ?_, fun i b h => (hb' i b h).1, fun i b h => (ht' i b h).1, ?_, ?_, ?_, ?_⟩, ?_, ?_, hs.defers⟩⟩
 ·
  intro i hi
  obtain ⟨h1, h2⟩ := hE.arg i hi
  obtain ⟨-, h3, h4⟩ := hs.mem.fix i hi
  refine ⟨h2, ?_, ?_⟩
  ·
   show (if σ'.u i = true then ρ.blk (π i) else none) = _
   rw [if_pos h2, h1, h3]
  show (if σ'.u i = true then ρ.tip (π i) else none) = _
  rw [if_pos h2, h1, h4]
 ·
  intro i ob hi
  obtain ⟨hu, hbl, hσ⟩ := hE.h i ob hi
  have := hs.mem.heap _ _ hσ
  cases ob with
  | cells T cs =>
   obtain ⟨b, arr, h1, h2, h3, h4⟩ := this
   refine ⟨b, arr, hb i b hu h1, h2, by rw [renL_len] at h3; exact h3, fun j c x hc hx => ?_⟩
   have := h4 j (c.ren π) x (by rw [renL_eq, List.getElem?_map, hc]; rfl) hx
   exact ⟨hV c x (belL_get hbl hc) this.1, this.2⟩
  | tip E sz n =>
   rcases this with ⟨h1, h2⟩ | ⟨g, cap, cur, h1, h2⟩
   · exact .inl ⟨ht i _ hu h1, h2⟩
   exact .inr ⟨g, cap, cur, ht i _ hu h1, h2⟩
  | map es =>
   obtain ⟨b, arr, clk, h1, h2⟩ := this
   exact ⟨b, arr, clk, hb i b hu h1, h2⟩
 · exact fun i ob b o hi hw => hs.mem.own _ _ b o (hE.h i ob hi).2.2 (hwr i ob b o hw)
 · exact fun i ob b hi hw => hs.mem.ownB _ _ b (hE.h i ob hi).2.2 (hat i ob b hw)
 · exact fun i j oi oj b hi hj h1 h2 => hE.inj i j oi oj hi hj (hs.mem.sep _ _ _ _ b (hE.h i oi hi).2.2 (hE.h j oj hj).2.2 (hat i oi b h1) (hat j oj b h2))
 ·
  intro t v' ht
  obtain ⟨hbl, v, hv, hk⟩ := hE.s t v' ht
  obtain ⟨x, hx, hr⟩ := hs.slots t v hv
  exact ⟨x, hx, hV v' x hbl (hr.wk hk)⟩
 rw [hs.nt, hE.n]
def SEnt (A : Amb) (σ σ' : AS) : Prop := ∀ ρ a w, Sat A ρ σ a w → ∃ ρ', Sat A ρ' σ' a w
theorem Ent.se {π : Nat → Nat} {σ σ' : AS} {A : Amb} (hE : Ent π A.nA σ σ') : SEnt A σ σ' := fun _ _ _ hs => hE.sat hs
theorem SEnt.trans {A : Amb} {σ σ' σ'' : AS} (h : SEnt A σ σ') (k : SEnt A σ' σ'') : SEnt A σ σ'' := fun ρ a w hs => by
 obtain ⟨ρ', hs'⟩ := h ρ a w hs
 exact k ρ' a w hs'
structure WP (P : Program) (A : Amb) (c : Code) (Q : Exit → AS → Prop) (σ : AS) : Prop where
 run : ∀ ρ a w, Sat A ρ σ a w → c.wp P (fun e a' w' => ∃ σ' ρ', Q e σ' ∧ Sat A ρ' σ' a' w') a w
section
variable {P : Program} {A : Amb} {Q : Exit → AS → Prop} {σ : AS}
theorem WP.mono {c : Code} {Q' : Exit → AS → Prop} (h : WP P A c Q' σ) (hq : ∀ e σ', Q' e σ' → Q e σ') : WP P A c Q σ :=
 ⟨fun ρ a w hs => wp_mono (h.run ρ a w hs) fun _ _ _ ⟨σ', ρ', q, s⟩ => ⟨σ', ρ', hq _ _ q, s⟩⟩
theorem WP.skip (h : Q .normal σ) : WP P A .skip Q σ := ⟨fun ρ _ _ hs => wp_skip ⟨σ, ρ, h, hs⟩⟩
theorem WP.exit {i : Nat} (h : Q (.exit i) σ) : WP P A (.exit i) Q σ := ⟨fun ρ _ _ hs => wp_exit ⟨σ, ρ, h, hs⟩⟩
theorem WP.goto {i : Nat} (h : Q (.goto i) σ) : WP P A (.goto i) Q σ := ⟨fun ρ _ _ hs => wp_goto ⟨σ, ρ, h, hs⟩⟩
theorem WP.ret (h : Q .ret σ) : WP P A .ret Q σ := ⟨fun ρ _ _ hs => wp_ret ⟨σ, ρ, h, hs⟩⟩
def thn (K : AS → Prop) (Q : Exit → AS → Prop) : Exit → AS → Prop
 | .normal, σ => K σ
 | e, σ => Q e σ
theorem WP.seq {x y : Code} (h : WP P A x (thn (WP P A y Q) Q) σ) : WP P A (.seq x y) Q σ := by
 constructor
 intro ρ a w hs
 refine wp_seq (wp_mono (h.run ρ a w hs) ?_)
 rintro e a' w' ⟨σ', ρ', q, s⟩
 cases e with
 | normal => exact WP.run q ρ' a' w' s
 | _ => exact ⟨σ', ρ', q, s⟩
theorem WP.from {c : Code} {σ' : AS} (hE : SEnt A σ σ') (h : WP P A c Q σ') : WP P A c Q σ := by
 constructor
 intro ρ a w hs
 obtain ⟨ρ', hs'⟩ := hE ρ a w hs
 exact h.run ρ' a w hs'
def inBlk (i : Nat) (Q : Exit → AS → Prop) : Exit → AS → Prop
 | .exit j, σ => bif Nat.beq j i then Q .normal σ else Q (.exit j) σ
 | e, σ => Q e σ
theorem WP.block {i : Nat} {c : Code} (h : WP P A c (inBlk i Q) σ) : WP P A (.block i c) Q σ := by
 constructor
 intro ρ a w hs
 refine wp_block (wp_mono (h.run ρ a w hs) ?_)
 rintro e a' w' ⟨σ', ρ', q, s⟩
 cases e with
 | exit j =>
  show if j = i then _ else _
  by_cases hj : j = i
  ·
   subst hj
   rw [if_pos rfl]
   have q' : (bif Nat.beq j j then Q .normal σ' else Q (.exit j) σ') := q
   rw [Nat.beq_refl] at q'
   exact ⟨σ', ρ', q', s⟩
  rw [if_neg hj]
  have q' : (bif Nat.beq j i then Q .normal σ' else Q (.exit j) σ') := q
  rw [show Nat.beq j i = false by rw [← Bool.not_eq_true, Nat.beq_eq]; exact hj] at q'
  exact ⟨σ', ρ', q', s⟩
 | _ => exact ⟨σ', ρ', q, s⟩
theorem Sat.ev {ρ : Env} {a : Act} {w : World} (hs : Sat A ρ σ a w) {x : Operand} {v : AV} (h : σ.ev x = some v) : VRel (Nh A σ.h ρ w) ρ w v (a.eval x) := by
 cases x with
 | tmp t =>
  obtain ⟨y, hy, hv⟩ := hs.slots t v h
  show VRel _ _ _ v (a.tmps.getD t undef)
  rw [Array.getD_eq_getD_getElem?, hy]
  exact hv
 | const c => cases h; exact .v _
 | global g => cases h; exact .v _
 | func f => cases h; exact .v _
theorem WP.cond {x : Operand} {c d : Code} {t : Bool} (hx : σ.ev x = some (.v (.bool t))) (h1 : t = true → WP P A c Q σ) (h2 : t = false → WP P A d Q σ) : WP P A (.cond x c d) Q σ := by
 constructor
 intro ρ a w hs
 have := hs.ev hx
 have hv : a.eval x = .bool t := by generalize a.eval x = y at this; cases this; rfl
 exact wp_cond_split hv (fun ht => (h1 ht).run ρ a w hs) (fun ht => (h2 ht).run ρ a w hs)
theorem WP.cond_true {x : Operand} {c d : Code} (hx : σ.ev x = some (.v (.bool true))) (h1 : WP P A c Q σ) : WP P A (.cond x c d) Q σ := WP.cond hx (fun _ => h1) (fun h => by cases h)
theorem WP.cond_false {x : Operand} {c d : Code} (hx : σ.ev x = some (.v (.bool false))) (h1 : WP P A d Q σ) : WP P A (.cond x c d) Q σ := WP.cond hx (fun h => by cases h) (fun _ => h1)
theorem WP.region {G : List (Nat × Array Value)} {id : Nat} {l : List Oper} {ds : List St} (hG : A.G = G) (h : Chain P G l.toArray (Q .normal) l ds σ) : WP P A (.region id l.toArray false) Q σ :=
 ⟨fun _ρ _ _ hs => wp_region_chain hG (K := Q .normal) (fun ρ' σ' _ _ q s => ⟨σ', ρ', q, s⟩) h hs⟩
theorem WP.drawn {G : List (Nat × Array Value)} {id : Nat} {l : List Oper} {ds : List St} (hm : P.follows .mixedOrders = true) (hG : A.G = G) (h : Chain P G l.toArray (Q .normal) l ds σ) (hc : (edgesOk 0 l && chk l ds) = true) :
  WP P A (.region id l.toArray true) Q σ :=
 ⟨fun _ρ _ _ hs => wp_region_drawn hm hG (K := Q .normal) (fun ρ' σ' _ _ q s => ⟨σ', ρ', q, s⟩) h hc hs⟩
def Back (A : Amb) (I : Nat → AS → Prop) (k : Nat) (σ : AS) : Prop := ∃ k' σ', k' < k ∧ SEnt A σ σ' ∧ I k' σ'
theorem WP.loop {c : Code} (I : Nat → AS → Prop) {σ0 : AS} (k0 : Nat) (hE : SEnt A σ σ0) (h0 : I k0 σ0) (round : ∀ k σ, I k σ → WP P A c (thn (Back A I k) Q) σ) : WP P A (.loop c) Q σ := by
 constructor
 intro ρ a w hs
 obtain ⟨ρ0, hs0⟩ := hE ρ a w hs
 refine wp_loop_ghost (fun k a w => ∃ σ ρ, I k σ ∧ Sat A ρ σ a w) k0 ⟨σ0, ρ0, h0, hs0⟩ ?_
 rintro k a w ⟨σ, ρ, hI, hs⟩
 refine wp_mono ((round k σ hI).run ρ a w hs) ?_
 rintro e a' w' ⟨σ', ρ', q, s⟩
 cases e with
 | normal =>
  obtain ⟨k', σ'', hk, hE', hI'⟩ := q
  obtain ⟨ρ'', hs''⟩ := hE' ρ' a' w' s
  exact ⟨k', hk, σ'', ρ'', hI', hs''⟩
 | _ => exact ⟨σ', ρ', q, s⟩
end
end Go.Proofs.YtpnbpcopdckgpaaGreatDoor.E
end
