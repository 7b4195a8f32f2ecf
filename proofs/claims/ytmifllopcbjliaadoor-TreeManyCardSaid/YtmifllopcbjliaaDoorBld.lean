/- A strings.Builder that the call itself made: what its methods do to it. -/
import Derived.Test.YtmifllopcbjliaaDoorTy
import Derived.Lib.Builder
import Derived.Lib.UnsafeStr
import Derived.Laws.Externs
namespace Go.Proofs.YtmifllopcbjliaaDoor.V
open Go Go.RowKit
attribute [local go_sem] B_size B_append B_extract mk_B B_toList take_drop_len List.length_drop List.length_take sgn32 sgn64 add32 sub32 mul32 add64 sub64 mul64 mul64_8 and32 or32 xor32 and64 or64 xor64 shl32_run shr32_run shl64_run shr64_run not32 not32' xor32_all w_u32_u8 w_u64_u8 w_i64_u8 w_u8_u32 w_u8_u64 w_u32_u64 w_u64_u32 w_u8_u8 w_u32_u32 w_u64_u64
attribute [local go_sem ↓] run_index_B' add32 sub32 mul32 add64 sub64 mul64 mul64_8 and32 or32 xor32 and64 or64 xor64 shl32_run shr32_run shl64_run shr64_run not32 not32' xor32_all w_u32_u8 w_u64_u8 w_i64_u8 w_u8_u32 w_u8_u64 w_u32_u64 w_u64_u32 w_u8_u8 w_u32_u32 w_u64_u64 w_u64_nat w_u32_nat w_u8_nat

theorem sizeBuilder : (Tryd.prog.info? 66).map (·.size) = some 2 := by kernel_rfl
theorem liesBuilder : liesAt Tryd.prog Tryd.prog.depth 66 (2 / Tryd.prog.cellsOf 66) 0 66 1 = true := by kernel_rfl
theorem cellsByte : Tryd.prog.cellsOf 5 = 1 := by kernel_rfl

/-- The builder at block b holds the bytes l; v: its buffer. -/
structure Bld (w : World) (base b : Nat) (v : Value) (l : List UInt8) : Prop where
  at_ : w.heap[b]? = some (.cells #[.pointer none, v] 66 (0, 0)) ∨ w.heap[b]? = some (.cells #[.pointer (some ⟨b, 0, none⟩), v] 66 (0, 0))
  own : obytes w base v l
  ne : v.ownBlock ≠ some b

theorem Bld.fresh (w : World) (base : Nat) : Bld (w.alloc (.cells #[.pointer none, .slice none 0 0] 66)) base w.heap.size (.slice none 0 0) [] :=
  ⟨.inl (heap_alloc_new w _), obytes_nil _ _, by simp [Value.ownBlock]⟩
theorem Bld.lt {w : World} {base b : Nat} {v : Value} {l : List UInt8} (h : Bld w base b v l) : b < w.heap.size := by
  rcases h.at_ with h | h <;> exact (Array.getElem?_eq_some_iff.1 h).1
theorem Bld.kept {w w' : World} {base b : Nat} {v : Value} {l : List UInt8} (h : Bld w base b v l) {S : List Nat} (hf : Fr S w w') (h1 : b ∉ S) (h2 : ∀ k, v.ownBlock = some k → k ∉ S) : Bld w' base b v l :=
  ⟨by rw [hf.block b h.lt h1]; exact h.at_, h.own.kept hf h2, h.ne⟩

set_option maxHeartbeats 1000000 in
set_option maxRecDepth 100000 in
theorem copyCheck_ok (b : Nat) (v : Value) (w : World)
    (h : w.heap[b]? = some (.cells #[.pointer none, v] 66 (0, 0)) ∨ w.heap[b]? = some (.cells #[.pointer (some ⟨b, 0, none⟩), v] 66 (0, 0))) :
    Calls Tryd.prog 56 #[.pointer (some ⟨b, 0, none⟩)] w fun e w' => e = .returned (.tuple #[]) ∧ Fr [b] w w' ∧ w'.heap.size = w.heap.size ∧ w'.heap[b]? = some (.cells #[.pointer (some ⟨b, 0, none⟩), v] 66 (0, 0)) := by
  obtain ⟨j, hj, hjs⟩ := Option.map_eq_some_iff.1 sizeBuilder
  rcases h with h | h
  · have h0 : w.cell? ⟨b, 0, none⟩ = some (.pointer none) := by rw [Lib.cell_of_heap h]; rfl
    have hfz : w.frozen? ⟨b, 0, none⟩ = false := Lib.frozen_of_heap h 0
    have hsh : w.shape? b = some (66, 2) := by simp [World.shape?, h]
    have H := Lib.hid h
    clear h
    go_enter Tryd.func56, Tryd.ntmps56
    go_wp2
    rw [Lib.run_to_unsafe w ⟨b, 0, none⟩ Tryd.underlying64 Tryd.underlying75 hj (by rw [hjs]; decide) hsh (Nat.zero_lt_succ 1)]
    simp only [Result.andThen]
    rw [Oper.upon_value]
    go_wp2
    rw [run_callFunc_extern Tryd.func60 (by kernel_rfl) (by kernel_rfl) (by kernel_rfl) (e := Extern.AbiNoEscape.same) (by kernel_rfl)]
    rw [Lib.run_noEscape]
    simp only [Result.andThen]
    rw [Oper.upon_value]
    go_wp2
    rw [Lib.run_from_unsafe w ⟨b, 0, none⟩ Tryd.underlying75 Tryd.underlying64 hj hsh liesBuilder]
    simp only [Result.andThen]
    rw [Oper.upon_value]
    go_wp2
    go_end0
    exact ⟨rfl, (Fr.refl [b] w).setCell (.inl (by simp)) _, by simp, heap_setCell H.out _⟩
  · have h0 : w.cell? ⟨b, 0, none⟩ = some (.pointer (some ⟨b, 0, none⟩)) := by rw [Lib.cell_of_heap h]; rfl
    have H := Lib.hid h
    clear h
    go_enter Tryd.func56, Tryd.ntmps56
    go_wp2
    rw [Lib.run_neq_ptr_same w _ Tryd.underlying64 hj]
    go_wp2
    go_end0
    exact ⟨rfl, Fr.refl _ _, rfl, H.out⟩

/-- what a writing method leaves -/
def Wrote (w : World) (base b : Nat) (v : Value) (l : List UInt8) (r : Value) (e : Ending) (w' : World) : Prop :=
  e = .returned r ∧ ∃ v', Bld w' base b v' l ∧ Fr (b :: v.ownBlock.toList) w w' ∧ (v'.ownBlock = v.ownBlock ∨ ∃ k, v'.ownBlock = some k ∧ w.heap.size ≤ k)

set_option maxHeartbeats 1000000 in
set_option maxRecDepth 100000 in
theorem writeByte_ok (base b : Nat) (v : Value) (l : List UInt8) (c : UInt8) (w : World) (h : Bld w base b v l) (hb : l.length + 1 ≤ 140737488355328) (hbase : base ≤ w.heap.size) :
    Calls Tryd.prog 50 #[.pointer (some ⟨b, 0, none⟩), .int .u8 (U8 c)] w (Wrote w base b v (l ++ [c]) .nilIface) := by
  go_enter Tryd.func50, Tryd.ntmps50
  go_wp2_with fail
  refine (copyCheck_ok b v _ h.at_).mono ?_
  rintro e w1 ⟨rfl, hf1, hs1, hb1⟩
  have hown1 : obytes w1 base v l := h.own.kept hf1 (fun k hk => by rw [List.mem_singleton]; rintro rfl; exact h.ne hk)
  have c1 : w1.cell? ⟨b, 1, none⟩ = some v := by rw [Lib.cell_of_heap hb1]; rfl
  have HB := Lib.hid hb1
  have HF := Lib.hid hf1
  have HS := Lib.hid hs1
  have HH := Lib.hid h
  clear hb1 hf1 hs1 h
  go_wp2_with (at_builtin; refine wpList_ap_bytes rfl _ _ _ rfl base v l rfl ?own _ [c] 1 rfl ?src hb ?base ?_)
  case own => exact hown1.alloc _
  case src => exact Src.new _ _ Tryd.underlying46 #[_] _ (bvs_one [c])
  case base => simp; have := HS.out; omega
  intro v' w2 h2 hg2 ho2
  have hlt : b < w1.heap.size := (Array.getElem?_eq_some_iff.1 HB.out).1
  have hb2 : w2.heap[b]? = some (.cells #[.pointer (some ⟨b, 0, none⟩), v] 66 (0, 0)) := by
    rw [hg2.block b (by simp; omega) (fun e => HH.out.ne e.symm), Lib.alloc_old w1 _ b hlt]
    exact HB.out
  have d1 : w2.cell? ⟨b, 1, none⟩ = some v := by rw [Lib.cell_of_heap hb2]; rfl
  have f1 : w2.frozen? ⟨b, 1, none⟩ = false := Lib.frozen_of_heap hb2 1
  have hF2 : Fr (b :: v.ownBlock.toList) w w2 := (HF.out.trans' (Fr.of_grown (row := v.ownBlock) (w := w1) (w' := w2) ⟨hg2.os, hg2.tape, hg2.output, by have := hg2.size; simp at this; omega, fun k hk hn => (hg2.block k (by simp; omega) hn).trans (Lib.alloc_old w1 _ k hk)⟩)
    (fun x hx => .inl (by simp at hx; simp [hx])) (fun x hx => .inl (List.mem_cons_of_mem _ hx)))
  have hO : v'.ownBlock = v.ownBlock ∨ ∃ k, v'.ownBlock = some k ∧ w.heap.size ≤ k := ho2.imp id fun h => ⟨_, h, by have := HS.out; simp; omega⟩
  have hne : v'.ownBlock ≠ some b := by
    rcases ho2 with h | h
    · rw [h]; exact HH.out.ne
    · rw [h]; simp; omega
  have H2 := Lib.hid h2
  have HB2 := Lib.hid hb2
  have HO := Lib.hid hO
  have HN := Lib.hid hne
  have HF2 := Lib.hid hF2
  obtain ⟨g, n', cap, rfl⟩ : ∃ g n' cap, v' = .slice g n' cap := by
    rcases h2.2 with ⟨hv, _⟩ | ⟨g, cap, cur, hv, _⟩
    · exact ⟨_, _, _, hv⟩
    · exact ⟨_, _, _, hv⟩
  clear h2 hb2 hO hne hF2 hg2 ho2 hown1 c1 hlt
  go_wp2
  go_ret
  refine ⟨rfl, _, ⟨.inr (heap_setCell HB2.out _), ?_, HN.out⟩, HF2.out.setCell (.inl (by simp)) _, HO.out⟩
  exact H2.out.kept (S := [b]) ((Fr.refl [b] w2).setCell (.inl (by simp)) _) (fun k hk => by rw [List.mem_singleton]; rintro rfl; exact HN.out hk)

set_option maxHeartbeats 1000000 in
set_option maxRecDepth 100000 in
theorem writeString_ok (base b : Nat) (v : Value) (l : List UInt8) (m : List UInt8) (w : World) (h : Bld w base b v l) (hb : l.length + m.length ≤ 140737488355328) (hbase : base ≤ w.heap.size) :
    Calls Tryd.prog 52 #[.pointer (some ⟨b, 0, none⟩), .string (B m)] w (Wrote w base b v (l ++ m) (.tuple #[.int .i64 m.length, .nilIface])) := by
  have hm63 : (m.length : Int) ≤ 140737488355328 := by omega
  go_enter Tryd.func52, Tryd.ntmps52
  go_wp2_with fail
  refine (copyCheck_ok b v _ h.at_).mono ?_
  rintro e w1 ⟨rfl, hf1, hs1, hb1⟩
  have hown1 : obytes w1 base v l := h.own.kept hf1 (fun k hk => by rw [List.mem_singleton]; rintro rfl; exact h.ne hk)
  have hsrc1 : Src Tryd.prog 1 9 (.string (B m)) m.length (bvs m) w1 := Src.text w1 Tryd.underlying9 m
  have c1 : w1.cell? ⟨b, 1, none⟩ = some v := by rw [Lib.cell_of_heap hb1]; rfl
  have HB := Lib.hid hb1
  have HF := Lib.hid hf1
  have HS := Lib.hid hs1
  have HH := Lib.hid h
  clear hb1 hf1 hs1 h
  go_wp2_with (at_builtin; refine wpList_ap_bytes rfl _ _ _ rfl base v l rfl ?own _ m m.length rfl ?src hb ?base ?_)
  case own => exact hown1
  case src => exact hsrc1
  case base => have := HS.out; omega
  intro v' w2 h2 hg2 ho2
  have hlt : b < w1.heap.size := (Array.getElem?_eq_some_iff.1 HB.out).1
  have hb2 : w2.heap[b]? = some (.cells #[.pointer (some ⟨b, 0, none⟩), v] 66 (0, 0)) := by
    rw [hg2.block b hlt (fun e => HH.out.ne e.symm)]
    exact HB.out
  have d1 : w2.cell? ⟨b, 1, none⟩ = some v := by rw [Lib.cell_of_heap hb2]; rfl
  have f1 : w2.frozen? ⟨b, 1, none⟩ = false := Lib.frozen_of_heap hb2 1
  have hF2 : Fr (b :: v.ownBlock.toList) w w2 := (HF.out.trans' (Fr.of_grown hg2) (fun x hx => .inl (by simp at hx; simp [hx])) (fun x hx => .inl (List.mem_cons_of_mem _ hx)))
  have hO : v'.ownBlock = v.ownBlock ∨ ∃ k, v'.ownBlock = some k ∧ w.heap.size ≤ k := ho2.imp id fun h => ⟨_, h, by have := HS.out; omega⟩
  have hne : v'.ownBlock ≠ some b := by
    rcases ho2 with h | h
    · rw [h]; exact HH.out.ne
    · rw [h]; simp; omega
  have H2 := Lib.hid h2
  have HB2 := Lib.hid hb2
  have HO := Lib.hid hO
  have HN := Lib.hid hne
  have HF2 := Lib.hid hF2
  obtain ⟨g, n', cap, rfl⟩ : ∃ g n' cap, v' = .slice g n' cap := by
    rcases h2.2 with ⟨hv, _⟩ | ⟨g, cap, cur, hv, _⟩
    · exact ⟨_, _, _, hv⟩
    · exact ⟨_, _, _, hv⟩
  clear h2 hb2 hO hne hF2 hg2 ho2 hown1 c1 hlt hsrc1
  go_wp2
  go_ret2
  refine ⟨rfl, _, ⟨.inr (heap_setCell HB2.out _), ?_, HN.out⟩, HF2.out.setCell (.inl (by simp)) _, HO.out⟩
  exact H2.out.kept (S := [b]) ((Fr.refl [b] w2).setCell (.inl (by simp)) _) (fun k hk => by rw [List.mem_singleton]; rintro rfl; exact HN.out hk)

set_option maxHeartbeats 1000000 in
set_option maxRecDepth 100000 in
theorem write_ok (base b : Nat) (v : Value) (l : List UInt8) (m : List UInt8) (pa : Option Addr) (pc pb : Nat) (w : World) (h : Bld w base b v l) (hb : l.length + m.length ≤ 140737488355328) (hbase : base ≤ w.heap.size) (hp : obytes w pb (.slice pa m.length pc) m) (hpne : (Value.slice pa m.length pc).ownBlock ≠ some b) :
    Calls Tryd.prog 51 #[.pointer (some ⟨b, 0, none⟩), .slice pa m.length pc] w (Wrote w base b v (l ++ m) (.tuple #[.int .i64 m.length, .nilIface])) := by
  have hm63 : (m.length : Int) ≤ 140737488355328 := by omega
  go_enter Tryd.func51, Tryd.ntmps51
  go_wp2_with fail
  refine (copyCheck_ok b v _ h.at_).mono ?_
  rintro e w1 ⟨rfl, hf1, hs1, hb1⟩
  have hown1 : obytes w1 base v l := h.own.kept hf1 (fun k hk => by rw [List.mem_singleton]; rintro rfl; exact h.ne hk)
  have hsrc1 : Src Tryd.prog 1 46 (.slice pa m.length pc) m.length (bvs m) w1 := (hp.kept hf1 (fun k hk => by rw [List.mem_singleton]; rintro rfl; exact hpne hk)).src
  have c1 : w1.cell? ⟨b, 1, none⟩ = some v := by rw [Lib.cell_of_heap hb1]; rfl
  have HB := Lib.hid hb1
  have HF := Lib.hid hf1
  have HS := Lib.hid hs1
  have HH := Lib.hid h
  clear hb1 hf1 hs1 h hp hpne
  go_wp2_with (at_builtin; refine wpList_ap_bytes rfl _ _ _ rfl base v l rfl ?own _ m m.length rfl ?src hb ?base ?_)
  case own => exact hown1
  case src => exact hsrc1
  case base => have := HS.out; omega
  intro v' w2 h2 hg2 ho2
  have hlt : b < w1.heap.size := (Array.getElem?_eq_some_iff.1 HB.out).1
  have hb2 : w2.heap[b]? = some (.cells #[.pointer (some ⟨b, 0, none⟩), v] 66 (0, 0)) := by
    rw [hg2.block b hlt (fun e => HH.out.ne e.symm)]
    exact HB.out
  have d1 : w2.cell? ⟨b, 1, none⟩ = some v := by rw [Lib.cell_of_heap hb2]; rfl
  have f1 : w2.frozen? ⟨b, 1, none⟩ = false := Lib.frozen_of_heap hb2 1
  have hF2 : Fr (b :: v.ownBlock.toList) w w2 := (HF.out.trans' (Fr.of_grown hg2) (fun x hx => .inl (by simp at hx; simp [hx])) (fun x hx => .inl (List.mem_cons_of_mem _ hx)))
  have hO : v'.ownBlock = v.ownBlock ∨ ∃ k, v'.ownBlock = some k ∧ w.heap.size ≤ k := ho2.imp id fun h => ⟨_, h, by have := HS.out; omega⟩
  have hne : v'.ownBlock ≠ some b := by
    rcases ho2 with h | h
    · rw [h]; exact HH.out.ne
    · rw [h]; simp; omega
  have H2 := Lib.hid h2
  have HB2 := Lib.hid hb2
  have HO := Lib.hid hO
  have HN := Lib.hid hne
  have HF2 := Lib.hid hF2
  obtain ⟨g, n', cap, rfl⟩ : ∃ g n' cap, v' = .slice g n' cap := by
    rcases h2.2 with ⟨hv, _⟩ | ⟨g, cap, cur, hv, _⟩
    · exact ⟨_, _, _, hv⟩
    · exact ⟨_, _, _, hv⟩
  clear h2 hb2 hO hne hF2 hg2 ho2 hown1 c1 hlt hsrc1
  go_wp2
  go_ret2
  refine ⟨rfl, _, ⟨.inr (heap_setCell HB2.out _), ?_, HN.out⟩, HF2.out.setCell (.inl (by simp)) _, HO.out⟩
  exact H2.out.kept (S := [b]) ((Fr.refl [b] w2).setCell (.inl (by simp)) _) (fun k hk => by rw [List.mem_singleton]; rintro rfl; exact HN.out hk)

/-- the text of a builder that holds something; behind it the builder is not written any more -/
theorem builderString_ok (base b : Nat) (v : Value) (l : List UInt8) (w : World) (h : Bld w base b v l) (h0 : l ≠ []) :
    Calls Tryd.prog 53 #[.pointer (some ⟨b, 0, none⟩)] w fun e w' => e = .returned (.string (B l)) ∧ Fr v.ownBlock.toList w w' := by
  obtain ⟨p, hbk⟩ : ∃ p, w.heap[b]? = some (.cells #[p, v] 66 (0, 0)) := by rcases h.at_ with h | h <;> exact ⟨_, h⟩
  have hown := h.own
  have hl0 : l.length ≠ 0 := by simpa using h0
  obtain ⟨g, cap, cur, rfl, hbg, hg, hnc, hcm, hcs, htake⟩ : ∃ g cap cur, v = .slice (some ⟨g, 0, none⟩) l.length cap ∧ base ≤ g ∧ w.heap[g]? = some (.cells cur 5 (0, 0)) ∧ l.length ≤ cap ∧ cap ≤ maxLen ∧ cur.size = cap * 1 ∧ cur.toList.take (l.length * 1) = bvs l := by
    rcases hown.2 with ⟨_, hz⟩ | ⟨g, cap, cur, hv, r⟩
    · exact absurd hz hl0
    · exact ⟨g, cap, cur, hv, r⟩
  have c1 : w.drew.cell? ⟨b, 1, none⟩ = some (.slice (some ⟨g, 0, none⟩) l.length cap) := by
    have : w.drew.heap[b]? = some (.cells #[p, .slice (some ⟨g, 0, none⟩) l.length cap] 66 (0, 0)) := hbk
    rw [Lib.cell_of_heap this]; rfl
  have hSD : (Builtin.unsafeSliceData_ #[46] 74 #[.slice (some ⟨g, 0, none⟩) l.length cap]).run Tryd.prog w.drew = .ok (.pointer (some ⟨g, 0, none⟩)) w.drew :=
    Lib.run_unsafeSliceData_row _ _ _ _ _ _ (by omega)
  have hUS : (Builtin.unsafeString_ #[74, 3] 9 #[.pointer (some ⟨g, 0, none⟩), .int .i64 l.length]).run Tryd.prog w.drew = .ok (.string (B l)) (w.drew.freeze ⟨g, 0, none⟩ l.length) := by
    refine Lib.run_unsafeString_row w.drew 74 3 9 5 Tryd.underlying74 cellsByte g cur.size (by have hg' : w.drew.heap[g]? = some (.cells cur 5 (0, 0)) := hg; simp [World.shape?, hg']) l h0 (by omega) (by unfold maxLen at hcm; omega) ?_
    intro j x hx
    exact World.ownsRow.cells hown (g := g) rfl j (.int .u8 x.toNat) (by simp [bvs, hx]; rfl)
  have hfr : Fr [g] w (w.drew.freeze ⟨g, 0, none⟩ l.length) := by
    refine ⟨?_, ?_, ?_, ?_, ?_⟩
    · simp only [World.freeze, if_neg hl0]; rfl
    · simp only [World.freeze, if_neg hl0]; rfl
    · simp only [World.freeze, if_neg hl0]; rfl
    · simp [World.freeze, hl0]
    · intro k _ hk
      simp [World.freeze, hl0, Array.getElem?_modify]
      rw [if_neg (by simp at hk; omega)]
      rfl
  have HFR := Lib.hid hfr
  clear hfr hbk hown hg hcs htake
  go_enter Tryd.func53, Tryd.ntmps53
  go_wp2
  go_region
  all_goals (go_wp2; go_ret; exact ⟨rfl, HFR.out⟩)
end Go.Proofs.YtmifllopcbjliaaDoor.V
