/- The walks of read, String, First, Block, Pad and Sum. -/
import Derived.Test.YtmifllopcbjliaaDoorSha3
namespace Go.Proofs.YtmifllopcbjliaaDoor.V
open Go Go.RowKit
attribute [local go_sem] B_size B_append B_extract mk_B B_toList take_drop_len List.length_drop List.length_take sgn32 sgn64 add32 sub32 mul32 add64 sub64 mul64 mul64_8 and32 or32 xor32 and64 or64 xor64 shl32_run shr32_run shl64_run shr64_run not32 not32' xor32_all w_u32_u8 w_u64_u8 w_i64_u8 w_u8_u32 w_u8_u64 w_u32_u64 w_u64_u32 w_u8_u8 w_u32_u32 w_u64_u64
attribute [local go_sem ↓] run_index_B' add32 sub32 mul32 add64 sub64 mul64 mul64_8 and32 or32 xor32 and64 or64 xor64 shl32_run shr32_run shl64_run shr64_run not32 not32' xor32_all w_u32_u8 w_u64_u8 w_i64_u8 w_u8_u32 w_u8_u64 w_u32_u64 w_u64_u32 w_u8_u8 w_u32_u32 w_u64_u64 w_u64_nat w_u32_nat w_u8_nat

theorem u32agg : ∀ w, (isAgg 47).run Tryd.prog w = .ok false w := fun _ => by kernel_rfl
set_option maxHeartbeats 1000000 in
set_option maxRecDepth 100000 in
theorem stateString_ok (s : St) (w : World) :
    Calls Tryd.prog 40 #[.agg s.cells] w fun e w' => e = .returned (.string (B s.text)) ∧ Fr [] w w' := by
  obtain ⟨j, hj, hjs⟩ := Option.map_eq_some_iff.1 u32size
  have hix : ∀ n : Nat, n < 8 → ∀ w, (Instr.index 49 (.agg s.cells) (.int .i64 (n : Int))).run Tryd.prog w = .ok (.int .u32 (U32 (lget s.words n))) w :=
    fun n hn w => run_index_arr w _ 47 8 j Tryd.underlying49 hj hjs u32agg _ _ n _ hn (cells_get s n hn)
  have HIX := Lib.hid hix
  clear hix
  unfold St.cells
  go_enter Tryd.func40, Tryd.ntmps40
  go_wp2
  go_loopg [3, 7] 8 (fun k v i wr => ∃ n : Nat, n + k = 8 ∧ i = .int .i64 n ∧ Hid (obytes wr w.heap.size v ((s.words.take n).flatMap be4)) ∧ Hid (Fr [] w wr))
  case atStart => exact ⟨0, rfl, rfl, (show _ from obytes_nil _ _), (show _ from (Fr.refl [] w).alloc _)⟩
  case round =>
    obtain ⟨n, hn, rfl, H1, H2⟩ := hrel
    have HN := Lib.hid hn
    clear hn
    by_cases h8 : n < 8
    · have h8' : (n : Int) < 8 := by omega
      have hx := HIX.out n h8
      unfold St.cells at hx
      go_wp2_with fail
      refine (lay_ok _ w.heap.size _ _ _ H1.out ?hb ?hbase).mono ?_
      case hb => rw [flat_be4_length]; have : (s.words.take n).length ≤ 8 := (by simp [St.words]; omega); omega
      case hbase => exact H2.out.size
      rintro e w1 ⟨v', rfl, h1, h2, h3⟩
      have H1' := Lib.hid h1
      have H2' := Lib.hid h2
      clear h1 h2 h3 hx
      go_wp2
      go_roundg (gk - 1)
      case rel =>
        refine ⟨n + 1, by have := HN.out; omega, by simp, (show obytes _ _ _ _ from ?_), (show Fr [] w w1 from ?_)⟩
        · rw [take_words s n h8]
          exact H1'.out
        · exact H2.out.trans' H2'.out (fun _ h => by cases h) (fun x hx => .inr (H1.out.lt x (by simpa using hx)).1)
      case measure => have := HN.out; omega
    · have h8' : (8 : Int) ≤ (n : Int) := by omega
      have e8 : n = 8 := by have := HN.out; omega
      have E8 := Lib.hid e8
      clear e8
      have hcv := H1.out.text
      go_wp2
      go_ret
      refine ⟨?_, H2.out⟩
      rw [E8.out]
      rfl

def arr8 (l : List UInt32) : Array Value := (l.map wv ++ List.replicate (8 - l.length) (wv 0)).toArray
theorem arr8_set (l : List UInt32) (x : UInt32) (h : l.length < 8) : (arr8 l).setIfInBounds l.length (wv x) = arr8 (l ++ [x]) := by
  unfold arr8
  apply Array.ext'
  obtain ⟨d, hd⟩ := Nat.exists_eq_add_of_lt h
  rw [show 8 - l.length = d + 1 by omega, List.replicate_succ]
  simp [List.set_append_right, show 8 - (l.length + 1) = d by omega]
theorem arr8_cell (l : List UInt32) (h : l.length < 8) : (arr8 l)[l.length]? = some (wv 0) := by
  simp [arr8, List.getElem?_append_right, List.getElem?_replicate]
  omega
theorem read_words (l : List UInt8) (n : Nat) (h : n < 8) : (readSt l).words.take (n + 1) = (readSt l).words.take n ++ [wordOf (l.drop (4 * n))] := by
  have h1 : n < (readSt l).words.length := h
  rw [List.take_succ_eq_append_getElem h1]
  congr 2
  have : n = 0 ∨ n = 1 ∨ n = 2 ∨ n = 3 ∨ n = 4 ∨ n = 5 ∨ n = 6 ∨ n = 7 := by omega
  rcases this with rfl | rfl | rfl | rfl | rfl | rfl | rfl | rfl <;> rfl

end Go.Proofs.YtmifllopcbjliaaDoor.V
