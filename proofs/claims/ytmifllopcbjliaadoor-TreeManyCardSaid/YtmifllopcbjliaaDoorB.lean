/- Strings as lists of bytes: a normal form for the walk, and what the operations on strings come to in it. -/
import Derived.WalkKit
import Derived.WalkSpells
import Derived.WalkLawsBesides
import Derived.Outline
import Derived.Deep.QuietTactic
import Derived.BigQuiet
import Derived.IntWalk
import Derived.Lib.Hide
namespace Go.Proofs.YtmifllopcbjliaaDoor.V
open Go Go.RowKit

/-- a text, of its bytes -/
def B (l : List UInt8) : ByteArray := ⟨l.toArray⟩
theorem B_size (l : List UInt8) : (B l).size = l.length := by simp [B, ByteArray.size]
theorem B_toList (l : List UInt8) : (B l).toList = l := ByteArray.toList_mk l
theorem B_data (l : List UInt8) : (B l).data.toList = l := by simp [B]
theorem B_append (a b : List UInt8) : B a ++ B b = B (a ++ b) := ByteArray.mk_append_mk a b
theorem B_extract (l : List UInt8) (a b : Nat) : (B l).extract a b = B ((l.drop a).take (b - a)) := ByteArray.extract_mk l a b
theorem take_drop_len (l : List UInt8) (a : Nat) : List.take (l.length - a) (List.drop a l) = List.drop a l := List.take_of_length_le (by simp)
theorem mk_B (a : Array UInt8) : ByteArray.mk a = B a.toList := by simp [B]
theorem empty_B : ByteArray.empty = B [] := rfl
theorem exists_B (s : ByteArray) : ∃ l, s = B l := ⟨s.data.toList, by simp [B]⟩
theorem B_inj {a b : List UInt8} : B a = B b ↔ a = b := ⟨fun h => by rw [← B_toList a, ← B_toList b, h], fun h => by rw [h]⟩

/-- the byte at a place, as a number -/
def byteAt (l : List UInt8) (i : Nat) : Nat := (l[i]?.getD 0).toNat
theorem byteAt_lt (l : List UInt8) (i : Nat) : byteAt l i < 256 := (l[i]?.getD 0).toNat_lt

theorem B_get (l : List UInt8) (i : Nat) (h : i < (B l).size) : ((B l)[i]'h).toNat = byteAt l i := by
  have h' : i < l.length := by rw [← B_size]; exact h
  unfold byteAt
  rw [List.getElem?_eq_getElem h']
  simp only [Option.getD_some]
  congr 1

theorem run_index_B {P : Program} (w : World) (t : TypeId) (l : List UInt8) (k : IntKind) (i : Int) (h : P.underlying t = some .string) :
    (Instr.index t (.string (B l)) (.int k i)).run P w =
      if 0 ≤ i ∧ i < (l.length : Int) then .ok (.int .u8 (byteAt l i.toNat)) w else (boundsPanic k i l.length .index).run P w := by
  rw [run_index_string w t (B l) k i h]
  simp only [B_size]
  split
  · rw [B_get]
  · rfl
end Go.Proofs.YtmifllopcbjliaaDoor.V
