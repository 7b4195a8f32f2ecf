/- The walks of the small functions of layer 1: word, lay, right, read, String, round. -/
import Derived.Test.YtmifllopcbjliaaDoorTy
import Derived.Test.YtmifllopcbjliaaDoorShaM
namespace Go.Proofs.YtmifllopcbjliaaDoor.V
open Go Go.RowKit
attribute [local go_sem] B_size B_append B_extract mk_B B_toList take_drop_len List.length_drop List.length_take sgn32 sgn64 add32 sub32 mul32 add64 sub64 mul64 mul64_8 and32 or32 xor32 and64 or64 xor64 shl32_run shr32_run shl64_run shr64_run not32 not32' xor32_all w_u32_u8 w_u64_u8 w_i64_u8 w_u8_u32 w_u8_u64 w_u32_u64 w_u64_u32 w_u8_u8 w_u32_u32 w_u64_u64
attribute [local go_sem ↓] run_index_B' add32 sub32 mul32 add64 sub64 mul64 mul64_8 and32 or32 xor32 and64 or64 xor64 shl32_run shr32_run shl64_run shr64_run not32 not32' xor32_all w_u32_u8 w_u64_u8 w_i64_u8 w_u8_u32 w_u8_u64 w_u32_u64 w_u64_u32 w_u8_u8 w_u32_u32 w_u64_u64 w_u64_nat w_u32_nat w_u8_nat

set_option maxHeartbeats 400000 in
theorem word_ok (l : List UInt8) (w : World) (h4 : 4 ≤ l.length) :
    Calls Tryd.prog 45 #[.string (B l)] w fun e w' => e = .returned (.int .u32 (U32 (wordOf l))) ∧ ∃ n, w' = w.drewN n := by
  have g0 : (0:Int) < (l.length : Int) := by omega
  have g1 : (1:Int) < (l.length : Int) := by omega
  have g2 : (2:Int) < (l.length : Int) := by omega
  have g3 : (3:Int) < (l.length : Int) := by omega
  go_enter Tryd.func45, Tryd.ntmps45
  go_wp2
  go_quiet (fail)
  go_wp2
  go_ret
  exact ⟨rfl, _, rfl⟩

set_option maxHeartbeats 400000 in
theorem rotl_ok (x : UInt32) (n : Nat) (w : World) (h0 : 0 < n) (h1 : n < 32) :
    Calls Tryd.prog 55 #[.int .u32 (U32 x), .int .i64 (-(n : Int))] w fun e w' => e = .returned (.int .u32 (U32 (ror x n))) ∧ w = w' := by
  have k1 : bits BinOp.and IntKind.u64 (IntKind.u64.wrap (-(n : Int))) 31 = ((32 - n : Nat) : Int) := by
    rw [IntKind.wrap_u64, show (-(n : Int)) % 18446744073709551616 = ((18446744073709551616 - n : Nat) : Int) by omega, show (31 : Int) = ((31 : Nat) : Int) from rfl,
      u64_and_nat _ _ (by omega) (by omega), nat_mask5]
    omega
  have k2 : IntKind.u64.wrap (32 - ((32 - n : Nat) : Int)) = ((n : Nat) : Int) := by rw [IntKind.wrap_u64]; omega
  have k3 : (0 : Int) ≤ ((32 - n : Nat) : Int) := by omega
  go_enter Tryd.func55, Tryd.ntmps55
  go_wp2
  go_ret
  exact ⟨rfl, rfl⟩

set_option maxHeartbeats 400000 in
theorem right_ok (x : UInt32) (n : Int) (w : World) (h0 : 0 < n) (h1 : n < 32) :
    Calls Tryd.prog 46 #[.int .u32 (U32 x), .int .i64 n] w fun e w' => e = .returned (.int .u32 (U32 (ror x n.toNat))) ∧ w = w' := by
  obtain ⟨n, rfl⟩ := Int.eq_ofNat_of_zero_le (Int.le_of_lt h0)
  rw [Int.toNat_natCast]
  go_enter Tryd.func46, Tryd.ntmps46
  go_wp2_with fail
  refine (rotl_ok x n _ (by omega) (by omega)).mono ?_
  rintro e w' ⟨rfl, rfl⟩
  go_wp2
  go_ret
  exact ⟨rfl, rfl⟩

/-- a row of bytes comes back, grown -/
def RetBytes (w : World) (base : Nat) (v : Value) (l : List UInt8) (e : Ending) (w' : World) : Prop :=
  ∃ v', e = .returned v' ∧ obytes w' base v' l ∧ Fr v.ownBlock.toList w w' ∧ (v'.ownBlock = v.ownBlock ∨ ∃ k, v'.ownBlock = some k ∧ w.heap.size ≤ k)

set_option maxHeartbeats 400000 in
theorem lay_ok (x : UInt32) (base : Nat) (v : Value) (l : List UInt8) (w : World) (hown : obytes w base v l) (hb : l.length + 4 ≤ 140737488355328) (hbase : base ≤ w.heap.size) :
    Calls Tryd.prog 44 #[v, .int .u32 (U32 x)] w (RetBytes w base v (l ++ be4 x)) := by
  go_enter Tryd.func44, Tryd.ntmps44
  go_wp2_with (at_builtin; refine wpList_ap_bytes rfl _ _ _ rfl base v l rfl ?own _ (be4 x) 4 rfl ?src hb ?base ?_)
  case own => exact hown.alloc _
  case src => exact Src.new _ _ Tryd.underlying46 #[_, _, _, _] _ (bvs_one (be4 x))
  case base => simp; omega
  intro v' w' h1 h2 h3
  have HF : Hid (Fr v.ownBlock.toList w w') := Lib.hid (((Fr.refl _ w).alloc _).grown h2 (fun k hk => .inl (by simp [hk])))
  have H3 : Hid (v'.ownBlock = v.ownBlock ∨ ∃ k, v'.ownBlock = some k ∧ w.heap.size ≤ k) := Lib.hid (h3.imp id fun h => ⟨_, h, by simp⟩)
  clear h2 h3
  go_wp2
  go_ret
  exact ⟨v', rfl, h1, HF.out, H3.out⟩

def St.cells (s : St) : Array Value := #[.int .u32 (U32 s.a), .int .u32 (U32 s.b), .int .u32 (U32 s.c), .int .u32 (U32 s.d), .int .u32 (U32 s.e), .int .u32 (U32 s.f), .int .u32 (U32 s.g), .int .u32 (U32 s.h)]
theorem cells8 {w : World} {g : Nat} {s : St} {T : TypeId} (hg : w.heap[g]? = some (.cells s.cells T (0, 0))) :
    w.cell? ⟨g, 0, none⟩ = some (.int .u32 (U32 s.a)) ∧ w.cell? ⟨g, 1, none⟩ = some (.int .u32 (U32 s.b)) ∧ w.cell? ⟨g, 2, none⟩ = some (.int .u32 (U32 s.c)) ∧ w.cell? ⟨g, 3, none⟩ = some (.int .u32 (U32 s.d)) ∧
    w.cell? ⟨g, 4, none⟩ = some (.int .u32 (U32 s.e)) ∧ w.cell? ⟨g, 5, none⟩ = some (.int .u32 (U32 s.f)) ∧ w.cell? ⟨g, 6, none⟩ = some (.int .u32 (U32 s.g)) ∧ w.cell? ⟨g, 7, none⟩ = some (.int .u32 (U32 s.h)) ∧
    ∀ o, w.frozen? ⟨g, o, none⟩ = false := by
  refine ⟨?_, ?_, ?_, ?_, ?_, ?_, ?_, ?_, fun o => frozen_of_row w g o s.cells T hg⟩ <;> (rw [cell_of_row w g _ s.cells T (0, 0) hg]; rfl)

set_option maxHeartbeats 1000000 in
set_option maxRecDepth 100000 in
theorem round_ok (g : Nat) (s : St) (kw : UInt32) (T : TypeId) (w : World) (hg : w.heap[g]? = some (.cells s.cells T (0, 0))) :
    Calls Tryd.prog 47 #[.pointer (some ⟨g, 0, none⟩), .int .u32 (U32 kw)] w fun e w' => e = .returned (.tuple #[]) ∧ Fr [g] w w' ∧ w'.heap[g]? = some (.cells (rnd s kw).cells T (0, 0)) := by
  obtain ⟨c0, c1, c2, c3, c4, c5, c6, c7, fz⟩ := cells8 hg
  have HG := Lib.hid hg
  clear hg
  go_enter Tryd.func47, Tryd.ntmps47
  go_wp2
  go_quiet (fail)
  go_wp2
  go_quiet ((go_at_call 46; first | exact quiet_left (right_ok _ _ _ (by decide) (by decide)) | exact quiet_add_left (right_ok _ _ _ (by decide) (by decide))))
  go_wp2_with (go_at_call 46; refine (right_ok _ _ _ (by decide) (by decide)).mono ?_; rintro e w' ⟨rfl, rfl⟩)
  have HS : ∀ (j : Nat) (v : Value), [Value.int .u32 (U32 s.a), .int .u32 (U32 s.b), .int .u32 (U32 s.c), .int .u32 (U32 s.d), .int .u32 (U32 s.e), .int .u32 (U32 s.f), .int .u32 (U32 s.g)][j]? = some v → w.cell? ((⟨g, 0, none⟩ : Addr).add j) = some v := by
    intro j v hj
    have hadd : (⟨g, 0, none⟩ : Addr).add j = ⟨g, j, none⟩ := by unfold Addr.add; split <;> simp_all
    rw [hadd]
    rw [cell_of_row w g j s.cells T (0, 0) HG.out, ← hj]
    have hj7 : j < 7 := (List.getElem?_eq_some_iff.1 hj).1
    have : j = 0 ∨ j = 1 ∨ j = 2 ∨ j = 3 ∨ j = 4 ∨ j = 5 ∨ j = 6 := by omega
    rcases this with rfl | rfl | rfl | rfl | rfl | rfl | rfl <;> rfl
  have HS' := Lib.hid HS
  clear HS
  go_region_law ((refine step_copy_row rfl (.tmp 78) (.tmp 81) 73 73 rfl 47 Tryd.underlying73 u32size g 1 7 7 ⟨g, 0, none⟩ 7 8 ?h1 ?h2 s.cells T ?h3 [.int .u32 (U32 s.a), .int .u32 (U32 s.b), .int .u32 (U32 s.c), .int .u32 (U32 s.d), .int .u32 (U32 s.e), .int .u32 (U32 s.f), .int .u32 (U32 s.g)] ?h4 ?h5 ?h6 ?h7 ?h8; (case h1 => simp [Act.eval, Act.put]); (case h2 => simp [Act.eval, Act.put]); (case h3 => exact HG.out); (case h4 => rfl); (case h5 => exact HS'.out); (case h6 => exact Nat.le_refl 8); (case h7 => simp [Value.oneCell']); intro w1 hg1 hf1))
  have hg2 : w1.heap[g]? = some (.cells (St.cells ⟨s.a, s.a, s.b, s.c, s.d, s.e, s.f, s.g⟩) T (0, 0)) := hg1
  have HF := Lib.hid hf1
  have HG2 := Lib.hid hg2
  clear hg1 hf1 c0 c1 c2 c3 c4 c5 c6 c7 fz HS'
  obtain ⟨c0, c1, c2, c3, c4, c5, c6, c7, fz⟩ := cells8 hg2
  clear hg2
  dsimp only at c0 c1 c2 c3 c4 c5 c6 c7
  go_wp2
  go_region
  go_wp2
  go_end0
  refine ⟨rfl, ?_, ?_⟩
  · refine Fr.drew (Fr.setCell (Fr.setCell (((Fr.refl [g] w).drewN _).drew.trans HF.out) (.inl (by simp)) _) (.inl (by simp)) _)
  · rw [heap_drew]
    exact (heap_setCell (heap_setCell HG2.out _) _)

end Go.Proofs.YtmifllopcbjliaaDoor.V
