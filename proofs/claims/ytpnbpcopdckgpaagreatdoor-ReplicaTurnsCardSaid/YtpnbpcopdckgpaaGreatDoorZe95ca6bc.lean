import Derived.Test.YtpnbpcopdckgpaaGreatDoorZfd707a12
import Derived.Lib.Builder
import Derived.Lib.UnsafeStr
import Derived.Laws.Externs
import Derived.Test.YtpnbpcopdckgpaaGreatDoorZc9f0e65b
import Derived.Test.YtpnbpcopdckgpaaGreatDoorZ1dc047f2
import Derived.StillTail
import Derived.OrdersHeld
namespace Go.Proofs.YtpnbpcopdckgpaaGreatDoor.V
open Go Go.RowKit
attribute [local go_sem] B_size B_append B_extract mk_B B_toList take_drop_len List.length_drop List.length_take sgn32 sgn64 add32 sub32 mul32 add64 sub64 mul64 mul64_8 and32 or32 xor32 and64 or64 xor64 shl32_run shr32_run shl64_run shr64_run not32 not32' xor32_all w_u32_u8 w_u64_u8 w_i64_u8 w_u8_u32 w_u8_u64 w_u32_u64 w_u64_u32 w_u8_u8 w_u32_u32 w_u64_u64
attribute [local go_sem ↓] run_index_B' add32 sub32 mul32 add64 sub64 mul64 mul64_8 and32 or32 xor32 and64 or64 xor64 shl32_run shr32_run shl64_run shr64_run not32 not32' xor32_all w_u32_u8 w_u64_u8 w_i64_u8 w_u8_u32 w_u8_u64 w_u32_u64 w_u64_u32 w_u8_u8 w_u32_u32 w_u64_u64 w_u64_nat w_u32_nat w_u8_nat
set_option maxRecDepth 4000
theorem sizeBuilder : (Tryz.prog.info? 148).map (·.size) = some 2 := by kernel_rfl
theorem liesBuilder : liesAt Tryz.prog Tryz.prog.depth 148 (2 / Tryz.prog.cellsOf 148) 0 148 1 = true := by kernel_rfl
theorem cellsByte : Tryz.prog.cellsOf 5 = 1 := by kernel_rfl
structure Bld (w : World) (base b : Nat) (v : Value) (l : List UInt8) : Prop where
 at_ : w.heap[b]? = some (.cells #[.pointer none, v] 148 (0, 0)) ∨ w.heap[b]? = some (.cells #[.pointer (some ⟨b, 0, none⟩), v] 148 (0, 0))
 own : obytes w base v l
 ne : v.ownBlock ≠ some b
theorem Bld.fresh (w : World) (base : Nat) : Bld (w.alloc (.cells #[.pointer none, .slice none 0 0] 148)) base w.heap.size (.slice none 0 0) [] :=
 ⟨.inl (heap_alloc_new w _), obytes_nil _ _, by simp [Value.ownBlock]⟩
theorem Bld.lt {w : World} {base b : Nat} {v : Value} {l : List UInt8} (h : Bld w base b v l) : b < w.heap.size := by
 rcases h.at_ with h | h <;> exact (Array.getElem?_eq_some_iff.1 h).1
theorem Bld.kept {w w' : World} {base b : Nat} {v : Value} {l : List UInt8} (h : Bld w base b v l) {S : List Nat} (hf : Fr S w w') (h1 : b ∉ S) (h2 : ∀ k, v.ownBlock = some k → k ∉ S) : Bld w' base b v l :=
 ⟨by rw [hf.block b h.lt h1]; exact h.at_, h.own.kept hf h2, h.ne⟩
set_option maxHeartbeats 1000000 in
set_option maxRecDepth 100000 in
theorem copyCheck_ok (b : Nat) (v : Value) (w : World)
  (h : w.heap[b]? = some (.cells #[.pointer none, v] 148 (0, 0)) ∨ w.heap[b]? = some (.cells #[.pointer (some ⟨b, 0, none⟩), v] 148 (0, 0))) :
  Calls Tryz.prog 127 #[.pointer (some ⟨b, 0, none⟩)] w fun e w' => e = .returned (.tuple #[]) ∧ Fr [b] w w' ∧ w'.heap.size = w.heap.size ∧ w'.heap[b]? = some (.cells #[.pointer (some ⟨b, 0, none⟩), v] 148 (0, 0)) := by
 obtain ⟨j, hj, hjs⟩ := Option.map_eq_some_iff.1 sizeBuilder
 rcases h with h | h
 ·
  have h0 : w.cell? ⟨b, 0, none⟩ = some (.pointer none) := by rw [Lib.cell_of_heap h]; rfl
  have hfz : w.frozen? ⟨b, 0, none⟩ = false := Lib.frozen_of_heap h 0
  have hsh : w.shape? b = some (148, 2) := by simp [World.shape?, h]
  have H := Lib.hid h
  clear h
  go_enter Tryz.func127, Tryz.ntmps127
  go_wp2
  rw [Lib.run_to_unsafe w ⟨b, 0, none⟩ Tryz.underlying146 Tryz.underlying210 hj (by rw [hjs]; decide) hsh (Nat.zero_lt_succ 1)]
  simp only [Result.andThen]
  rw [Oper.upon_value]
  go_wp2
  rw [run_callFunc_extern Tryz.func157 (by kernel_rfl) (by kernel_rfl) (by kernel_rfl) (e := Extern.AbiNoEscape.same) (by kernel_rfl)]
  rw [Lib.run_noEscape]
  simp only [Result.andThen]
  rw [Oper.upon_value]
  go_wp2
  rw [Lib.run_from_unsafe w ⟨b, 0, none⟩ Tryz.underlying210 Tryz.underlying146 hj hsh liesBuilder]
  simp only [Result.andThen]
  rw [Oper.upon_value]
  go_wp2
  go_end0
  exact ⟨rfl, (Fr.refl [b] w).setCell (.inl (by simp)) _, by simp, heap_setCell H.out _⟩
 have h0 : w.cell? ⟨b, 0, none⟩ = some (.pointer (some ⟨b, 0, none⟩)) := by rw [Lib.cell_of_heap h]; rfl
 have H := Lib.hid h
 clear h
 go_enter Tryz.func127, Tryz.ntmps127
 go_wp2
 rw [Lib.run_neq_ptr_same w _ Tryz.underlying146 hj]
 go_wp2
 go_end0
 exact ⟨rfl, Fr.refl _ _, rfl, H.out⟩
def Wrote (w : World) (base b : Nat) (v : Value) (l : List UInt8) (r : Value) (e : Ending) (w' : World) : Prop :=
 e = .returned r ∧ ∃ v', Bld w' base b v' l ∧ Fr (b :: v.ownBlock.toList) w w' ∧ (v'.ownBlock = v.ownBlock ∨ ∃ k, v'.ownBlock = some k ∧ w.heap.size ≤ k)
set_option maxHeartbeats 1000000 in
set_option maxRecDepth 100000 in
theorem writeByte_ok (base b : Nat) (v : Value) (l : List UInt8) (c : UInt8) (w : World) (h : Bld w base b v l) (hb : l.length + 1 ≤ 140737488355328) (hbase : base ≤ w.heap.size) :
  Calls Tryz.prog 103 #[.pointer (some ⟨b, 0, none⟩), .int .u8 (U8 c)] w (Wrote w base b v (l ++ [c]) .nilIface) := by
 go_enter Tryz.func103, Tryz.ntmps103
 go_wp2_with fail
 refine (copyCheck_ok b v _ h.at_).mono ?_
 rintro e w1 ⟨rfl, hf1, hs1, hb1⟩
 have hown1 : obytes w1 base v l := h.own.kept hf1 (fun k hk => by rw [List.mem_singleton]; rintro rfl; exact h.ne hk)
 have c1 : w1.cell? ⟨b, 1, none⟩ = some v := by rw [Lib.cell_of_heap hb1]; rfl
 have HB := Lib.hid hb1
 have HF := Lib.hid hf1
 have HS := Lib.hid hs1
 have HH := Lib.hid h
 clear hb1 hf1 hs1 h
 go_wp2_with (at_builtin; refine wpList_ap_bytes rfl _ _ _ rfl base v l rfl ?own _ [c] 1 rfl ?src hb ?base ?_)
 case own => exact hown1.alloc _
 case src => exact Src.new _ _ Tryz.underlying70 #[_] _ (bvs_one [c])
 case base => simp; have := HS.out; omega
 intro v' w2 h2 hg2 ho2
 have hlt : b < w1.heap.size := (Array.getElem?_eq_some_iff.1 HB.out).1
 have hb2 : w2.heap[b]? = some (.cells #[.pointer (some ⟨b, 0, none⟩), v] 148 (0, 0)) := by
  rw [hg2.block b (by simp; omega) (fun e => HH.out.ne e.symm), Lib.alloc_old w1 _ b hlt]
  exact HB.out
 have d1 : w2.cell? ⟨b, 1, none⟩ = some v := by rw [Lib.cell_of_heap hb2]; rfl
 have f1 : w2.frozen? ⟨b, 1, none⟩ = false := Lib.frozen_of_heap hb2 1
 have hF2 : Fr (b :: v.ownBlock.toList) w w2 := (HF.out.trans' (Fr.of_grown (row := v.ownBlock) (w := w1) (w' := w2) ⟨hg2.os, hg2.tape, hg2.output, by have := hg2.size; simp at this; omega, fun k hk hn => (hg2.block k (by simp; omega) hn).trans (Lib.alloc_old w1 _ k hk)⟩)
  (fun x hx => .inl (by simp at hx; simp [hx])) (fun x hx => .inl (List.mem_cons_of_mem _ hx)))
 have hO : v'.ownBlock = v.ownBlock ∨ ∃ k, v'.ownBlock = some k ∧ w.heap.size ≤ k := ho2.imp id fun h => ⟨_, h, by have := HS.out; simp; omega⟩
 have hne : v'.ownBlock ≠ some b := by
  rcases ho2 with h | h
  · rw [h]; exact HH.out.ne
  rw [h]; simp; omega
 have H2 := Lib.hid h2
 have HB2 := Lib.hid hb2
 have HO := Lib.hid hO
 have HN := Lib.hid hne
 have HF2 := Lib.hid hF2
 obtain ⟨g, n', cap, rfl⟩ : ∃ g n' cap, v' = .slice g n' cap := by
  rcases h2.2 with ⟨hv, _⟩ | ⟨g, cap, cur, hv, _⟩
  · exact ⟨_, _, _, hv⟩
  exact ⟨_, _, _, hv⟩
 clear h2 hb2 hO hne hF2 hg2 ho2 hown1 c1 hlt
 go_wp2
 go_ret
 refine ⟨rfl, _, ⟨.inr (heap_setCell HB2.out _), ?_, HN.out⟩, HF2.out.setCell (.inl (by simp)) _, HO.out⟩
 exact H2.out.kept (S := [b]) ((Fr.refl [b] w2).setCell (.inl (by simp)) _) (fun k hk => by rw [List.mem_singleton]; rintro rfl; exact HN.out hk)
set_option maxHeartbeats 1000000 in
set_option maxRecDepth 100000 in
theorem writeString_ok (base b : Nat) (v : Value) (l : List UInt8) (m : List UInt8) (w : World) (h : Bld w base b v l) (hb : l.length + m.length ≤ 140737488355328) (hbase : base ≤ w.heap.size) :
  Calls Tryz.prog 86 #[.pointer (some ⟨b, 0, none⟩), .string (B m)] w (Wrote w base b v (l ++ m) (.tuple #[.int .i64 m.length, .nilIface])) := by
 have hm63 : (m.length : Int) ≤ 140737488355328 := by omega
 go_enter Tryz.func86, Tryz.ntmps86
 go_wp2_with fail
 refine (copyCheck_ok b v _ h.at_).mono ?_
 rintro e w1 ⟨rfl, hf1, hs1, hb1⟩
 have hown1 : obytes w1 base v l := h.own.kept hf1 (fun k hk => by rw [List.mem_singleton]; rintro rfl; exact h.ne hk)
 have hsrc1 : Src Tryz.prog 1 9 (.string (B m)) m.length (bvs m) w1 := Src.text w1 Tryz.underlying9 m
 have c1 : w1.cell? ⟨b, 1, none⟩ = some v := by rw [Lib.cell_of_heap hb1]; rfl
 have HB := Lib.hid hb1
 have HF := Lib.hid hf1
 have HS := Lib.hid hs1
 have HH := Lib.hid h
 clear hb1 hf1 hs1 h
 go_wp2_with (at_builtin; refine wpList_ap_bytes rfl _ _ _ rfl base v l rfl ?own _ m m.length rfl ?src hb ?base ?_)
 case own => exact hown1
 case src => exact hsrc1
 case base => have := HS.out; omega
 intro v' w2 h2 hg2 ho2
 have hlt : b < w1.heap.size := (Array.getElem?_eq_some_iff.1 HB.out).1
 have hb2 : w2.heap[b]? = some (.cells #[.pointer (some ⟨b, 0, none⟩), v] 148 (0, 0)) := by
  rw [hg2.block b hlt (fun e => HH.out.ne e.symm)]
  exact HB.out
 have d1 : w2.cell? ⟨b, 1, none⟩ = some v := by rw [Lib.cell_of_heap hb2]; rfl
 have f1 : w2.frozen? ⟨b, 1, none⟩ = false := Lib.frozen_of_heap hb2 1
 have hF2 : Fr (b :: v.ownBlock.toList) w w2 := (HF.out.trans' (Fr.of_grown hg2) (fun x hx => .inl (by simp at hx; simp [hx])) (fun x hx => .inl (List.mem_cons_of_mem _ hx)))
 have hO : v'.ownBlock = v.ownBlock ∨ ∃ k, v'.ownBlock = some k ∧ w.heap.size ≤ k := ho2.imp id fun h => ⟨_, h, by have := HS.out; omega⟩
 have hne : v'.ownBlock ≠ some b := by
  rcases ho2 with h | h
  · rw [h]; exact HH.out.ne
  rw [h]; simp; omega
 have H2 := Lib.hid h2
 have HB2 := Lib.hid hb2
 have HO := Lib.hid hO
 have HN := Lib.hid hne
 have HF2 := Lib.hid hF2
 obtain ⟨g, n', cap, rfl⟩ : ∃ g n' cap, v' = .slice g n' cap := by
  rcases h2.2 with ⟨hv, _⟩ | ⟨g, cap, cur, hv, _⟩
  · exact ⟨_, _, _, hv⟩
  exact ⟨_, _, _, hv⟩
 clear h2 hb2 hO hne hF2 hg2 ho2 hown1 c1 hlt hsrc1
 go_wp2
 go_ret2
 refine ⟨rfl, _, ⟨.inr (heap_setCell HB2.out _), ?_, HN.out⟩, HF2.out.setCell (.inl (by simp)) _, HO.out⟩
 exact H2.out.kept (S := [b]) ((Fr.refl [b] w2).setCell (.inl (by simp)) _) (fun k hk => by rw [List.mem_singleton]; rintro rfl; exact HN.out hk)
set_option maxHeartbeats 1000000 in
set_option maxRecDepth 100000 in
theorem write_ok (base b : Nat) (v : Value) (l : List UInt8) (m : List UInt8) (pa : Option Addr) (pc pb : Nat) (w : World) (h : Bld w base b v l) (hb : l.length + m.length ≤ 140737488355328) (hbase : base ≤ w.heap.size) (hp : obytes w pb (.slice pa m.length pc) m) (hpne : (Value.slice pa m.length pc).ownBlock ≠ some b) :
  Calls Tryz.prog 104 #[.pointer (some ⟨b, 0, none⟩), .slice pa m.length pc] w (Wrote w base b v (l ++ m) (.tuple #[.int .i64 m.length, .nilIface])) := by
 have hm63 : (m.length : Int) ≤ 140737488355328 := by omega
 go_enter Tryz.func104, Tryz.ntmps104
 go_wp2_with fail
 refine (copyCheck_ok b v _ h.at_).mono ?_
 rintro e w1 ⟨rfl, hf1, hs1, hb1⟩
 have hown1 : obytes w1 base v l := h.own.kept hf1 (fun k hk => by rw [List.mem_singleton]; rintro rfl; exact h.ne hk)
 have hsrc1 : Src Tryz.prog 1 70 (.slice pa m.length pc) m.length (bvs m) w1 := (hp.kept hf1 (fun k hk => by rw [List.mem_singleton]; rintro rfl; exact hpne hk)).src
 have c1 : w1.cell? ⟨b, 1, none⟩ = some v := by rw [Lib.cell_of_heap hb1]; rfl
 have HB := Lib.hid hb1
 have HF := Lib.hid hf1
 have HS := Lib.hid hs1
 have HH := Lib.hid h
 clear hb1 hf1 hs1 h hp hpne
 go_wp2_with (at_builtin; refine wpList_ap_bytes rfl _ _ _ rfl base v l rfl ?own _ m m.length rfl ?src hb ?base ?_)
 case own => exact hown1
 case src => exact hsrc1
 case base => have := HS.out; omega
 intro v' w2 h2 hg2 ho2
 have hlt : b < w1.heap.size := (Array.getElem?_eq_some_iff.1 HB.out).1
 have hb2 : w2.heap[b]? = some (.cells #[.pointer (some ⟨b, 0, none⟩), v] 148 (0, 0)) := by
  rw [hg2.block b hlt (fun e => HH.out.ne e.symm)]
  exact HB.out
 have d1 : w2.cell? ⟨b, 1, none⟩ = some v := by rw [Lib.cell_of_heap hb2]; rfl
 have f1 : w2.frozen? ⟨b, 1, none⟩ = false := Lib.frozen_of_heap hb2 1
 have hF2 : Fr (b :: v.ownBlock.toList) w w2 := (HF.out.trans' (Fr.of_grown hg2) (fun x hx => .inl (by simp at hx; simp [hx])) (fun x hx => .inl (List.mem_cons_of_mem _ hx)))
 have hO : v'.ownBlock = v.ownBlock ∨ ∃ k, v'.ownBlock = some k ∧ w.heap.size ≤ k := ho2.imp id fun h => ⟨_, h, by have := HS.out; omega⟩
 have hne : v'.ownBlock ≠ some b := by
  rcases ho2 with h | h
  · rw [h]; exact HH.out.ne
  rw [h]; simp; omega
 have H2 := Lib.hid h2
 have HB2 := Lib.hid hb2
 have HO := Lib.hid hO
 have HN := Lib.hid hne
 have HF2 := Lib.hid hF2
 obtain ⟨g, n', cap, rfl⟩ : ∃ g n' cap, v' = .slice g n' cap := by
  rcases h2.2 with ⟨hv, _⟩ | ⟨g, cap, cur, hv, _⟩
  · exact ⟨_, _, _, hv⟩
  exact ⟨_, _, _, hv⟩
 clear h2 hb2 hO hne hF2 hg2 ho2 hown1 c1 hlt hsrc1
 go_wp2
 go_ret2
 refine ⟨rfl, _, ⟨.inr (heap_setCell HB2.out _), ?_, HN.out⟩, HF2.out.setCell (.inl (by simp)) _, HO.out⟩
 exact H2.out.kept (S := [b]) ((Fr.refl [b] w2).setCell (.inl (by simp)) _) (fun k hk => by rw [List.mem_singleton]; rintro rfl; exact HN.out hk)
theorem builderString_ok (base b : Nat) (v : Value) (l : List UInt8) (w : World) (h : Bld w base b v l) (h0 : l ≠ []) :
  Calls Tryz.prog 88 #[.pointer (some ⟨b, 0, none⟩)] w fun e w' => e = .returned (.string (B l)) ∧ Fr v.ownBlock.toList w w' := by
 obtain ⟨p, hbk⟩ : ∃ p, w.heap[b]? = some (.cells #[p, v] 148 (0, 0)) := by rcases h.at_ with h | h <;> exact ⟨_, h⟩
 have hown := h.own
 have hl0 : l.length ≠ 0 := by simpa using h0
 obtain ⟨g, cap, cur, rfl, hbg, hg, hnc, hcm, hcs, htake⟩ : ∃ g cap cur, v = .slice (some ⟨g, 0, none⟩) l.length cap ∧ base ≤ g ∧ w.heap[g]? = some (.cells cur 5 (0, 0)) ∧ l.length ≤ cap ∧ cap ≤ maxLen ∧ cur.size = cap * 1 ∧ cur.toList.take (l.length * 1) = bvs l := by
  rcases hown.2 with ⟨_, hz⟩ | ⟨g, cap, cur, hv, r⟩
  · exact absurd hz hl0
  exact ⟨g, cap, cur, hv, r⟩
 have c1 : w.drew.cell? ⟨b, 1, none⟩ = some (.slice (some ⟨g, 0, none⟩) l.length cap) := by
  have : w.drew.heap[b]? = some (.cells #[p, .slice (some ⟨g, 0, none⟩) l.length cap] 148 (0, 0)) := hbk
  rw [Lib.cell_of_heap this]; rfl
 have hSD : (Builtin.unsafeSliceData_ #[70] 190 #[.slice (some ⟨g, 0, none⟩) l.length cap]).run Tryz.prog w.drew = .ok (.pointer (some ⟨g, 0, none⟩)) w.drew :=
  Lib.run_unsafeSliceData_row _ _ _ _ _ _ (by omega)
 have hUS : (Builtin.unsafeString_ #[190, 3] 9 #[.pointer (some ⟨g, 0, none⟩), .int .i64 l.length]).run Tryz.prog w.drew = .ok (.string (B l)) (w.drew.freeze ⟨g, 0, none⟩ l.length) := by
  refine Lib.run_unsafeString_row w.drew 190 3 9 5 Tryz.underlying190 cellsByte g cur.size (by have hg' : w.drew.heap[g]? = some (.cells cur 5 (0, 0)) := hg; simp [World.shape?, hg']) l h0 (by omega) (by unfold maxLen at hcm; omega) ?_
  intro j x hx
  exact World.ownsRow.cells hown (g := g) rfl j (.int .u8 x.toNat) (by simp [bvs, hx]; rfl)
 have hfr : Fr [g] w (w.drew.freeze ⟨g, 0, none⟩ l.length) := by
  refine ⟨?_, ?_, ?_, ?_, ?_⟩
  · simp only [World.freeze, if_neg hl0]; rfl
  · simp only [World.freeze, if_neg hl0]; rfl
  · simp only [World.freeze, if_neg hl0]; rfl
  · simp [World.freeze, hl0]
  intro k _ hk
  simp [World.freeze, hl0, Array.getElem?_modify]
  rw [if_neg (by simp at hk; omega)]
  rfl
 have HFR := Lib.hid hfr
 clear hfr hbk hown hg hcs htake
 go_enter Tryz.func88, Tryz.ntmps88
 go_wp2
 go_region
 all_goals (go_wp2; go_ret; exact ⟨rfl, HFR.out⟩)
set_option maxHeartbeats 1000000 in
set_option maxRecDepth 100000 in
theorem pad_ok (n : Nat) (w : World) (hn : (n : Int) ≤ 9223372036854775807) :
  Calls Tryz.prog 71 #[.int .i64 n] w fun e w' => e = .returned (.string (B (pad n))) ∧ Fr [] w w' := by
 have hno : noughts n < 64 := Nat.mod_lt _ (by decide)
 have hno' : ((119 : Int) - (n : Int)) % 64 = ((noughts n : Nat) : Int) := by unfold noughts; omega
 have hno2 : ((119 : Int) - (n : Int) % 64) % 64 = ((noughts n : Nat) : Int) := by unfold noughts; omega
 have h0 : (0 : Int) ≤ (n : Int) := by omega
 have HN1 := Lib.hid hno'
 have HN2 := Lib.hid hno2
 clear hno' hno2
 have hown : obytes (w.alloc (.cells #[.int .u8 128] 5)) w.heap.size (.slice (some ⟨w.heap.size, 0, none⟩) 1 1) [128] :=
  World.ownsRow_lit w #[.int .u8 128] 1 (Nat.le_refl _) (by decide) rfl
 have HO := Lib.hid hown
 clear hown
 go_enter Tryz.func71, Tryz.ntmps71
 go_wp2_with (at_builtin; refine wpList_ap_zeros rfl _ _ rfl w.heap.size _ [128] rfl HO.out (noughts n) ?hx ?hb ?hbase ?_)
 case hx => first | exact congrArg (Value.int .i64) HN1.out | exact congrArg (Value.int .i64) HN2.out
 case hb => simp; omega
 case hbase => simp
 intro v1 w1 h1 hg1 ho1
 have hf1 : Fr [] w w1 := ((Fr.refl [] w).alloc _).grown hg1 (fun k hk => .inr (by simp [Value.ownBlock] at hk; omega))
 have H1 := Lib.hid h1
 have HF1 := Lib.hid hf1
 clear h1 hg1 ho1 hf1
 go_wp2_with fail
 refine (lay_ok _ w.heap.size _ _ _ H1.out ?hb2 ?hbase2).mono ?_
 case hb2 => simp; omega
 case hbase2 => exact HF1.out.size
 rintro e w2 ⟨v2, rfl, h2, hf2, _⟩
 have H2 := Lib.hid h2
 have HF2 : Hid (Fr [] w w2) := HF1.out.trans' hf2 (fun _ h => by cases h) (fun x hx => .inr (H1.out.lt x (by simpa using hx)).1)
 clear h2 hf2
 go_wp2_with fail
 refine (lay_ok _ w.heap.size _ _ _ H2.out ?hb3 ?hbase3).mono ?_
 case hb3 => simp [be4]; omega
 case hbase3 => exact HF2.out.size
 rintro e w3 ⟨v3, rfl, h3, hf3, _⟩
 have hcv := h3.text
 have HF3 : Hid (Fr [] w w3) := HF2.out.trans' hf3 (fun _ h => by cases h) (fun x hx => .inr (H2.out.lt x (by simpa using hx)).1)
 clear h3 hf3
 go_wp2
 go_ret
 exact ⟨rfl, HF3.out⟩
set_option maxHeartbeats 1000000 in
set_option maxRecDepth 100000 in
theorem sum_ok (l : List UInt8) (w : World) (hT : Tabs w) (hl : (l.length : Int) ≤ 9223372036854775000) :
  Calls Tryz.prog 47 #[.string (B l)] w fun e w' => e = .returned (.string (B (sum l))) ∧ Fr [] w w' := by
 obtain ⟨T, hf⟩ := hT.first
 obtain ⟨c0, c1, c2, c3, c4, c5, c6, c7, fz⟩ := cells8 hf
 have HT := Lib.hid hT
 clear hf hT
 go_enter Tryz.func47, Tryz.ntmps47
 go_wp2_with fail
 refine (pad_ok l.length _ (by omega)).mono ?_
 rintro e w1 ⟨rfl, hf1⟩
 have hpl := pad_len l.length
 have hsum : ¬ (9223372036854775807 < l.length + (pad l.length).length) := by omega
 have HP := Lib.hid hpl
 have hF : Fr [] w w1 := ((Fr.refl [] w).alloc _).trans hf1
 have hg1 : w1.heap[w.heap.size]? = some (.cells first.cells 122 (0, 0)) := by
  rw [hf1.block w.heap.size (by simp) (by simp)]
  exact heap_alloc_new w _
 have HF := Lib.hid hF
 have HG := Lib.hid hg1
 clear hf1 hF hg1 hpl c0 c1 c2 c3 c4 c5 c6 c7 fz
 go_wp2_with fail
 go_loopg [0] ((l ++ pad l.length).length / 64) (fun k x wr => ∃ m v, m.length = 64 * k ∧ x = .string (B m) ∧ Hid (eat k v m = sumSt l) ∧ Hid (wr.heap[w.heap.size]? = some (.cells v.cells 122 (0, 0))) ∧ Hid (Fr [] w wr))
 case atStart =>
  refine ⟨l ++ pad l.length, first, ?_, rfl, (show _ = _ from rfl), (show _ from HG.out), (show _ from HF.out)⟩
  have := HP.out
  rw [List.length_append]
  omega
 case round =>
  obtain ⟨m, v, hm, rfl, H1, H2, H3⟩ := hrel
  by_cases hk : gk = 0
  ·
   subst hk
   obtain rfl : m = [] := List.eq_nil_of_length_eq_zero (by omega)
   clear hm
   obtain ⟨c0, c1, c2, c3, c4, c5, c6, c7, fz⟩ := cells8 H2.out
   go_wp2_with fail
   refine (stateString_ok v _).mono ?_
   rintro e w2 ⟨rfl, hf2⟩
   have HF2 := Lib.hid hf2
   clear hf2
   go_wp2
   go_ret
   refine ⟨?_, H3.out.trans HF2.out⟩
   have := H1.out
   simp only [eat] at this
   rw [sum, ← this]
   rfl
  have hne : (m == []) = false := by
   cases m with
   | nil => simp at hm; omega
   | cons => rfl
  have hml : (64 : Int) ≤ (m.length : Int) := by omega
  have HM := Lib.hid hm
  clear hm
  go_wp2_with fail
  refine (mix_ok w.heap.size v (m.take 64) 122 _ H2.out ?hT ?hl).mono ?_
  case hT => exact HT.out.fr H3.out (by simp) (by simp)
  case hl => rw [List.length_take]; omega
  rintro e w2 ⟨rfl, hf2, hg2⟩
  have HF2 := Lib.hid hf2
  have HG2 := Lib.hid hg2
  clear hf2 hg2
  go_wp2
  go_roundg (gk - 1)
  case rel =>
   have hm := HM.out
   refine ⟨m.drop 64, mixed v (m.take 64), by rw [List.length_drop]; omega, rfl, (show _ = _ from ?_), (show _ from HG2.out), (show Fr [] w w2 from H3.out.trans' HF2.out (fun _ h => by cases h) (fun x hx => .inr (by simp at hx; subst hx; exact Nat.le_refl _)))⟩
   have := H1.out
   obtain ⟨j, rfl⟩ : ∃ j, gk = j + 1 := ⟨gk - 1, by omega⟩
   exact this
  case measure => omega
end Go.Proofs.YtpnbpcopdckgpaaGreatDoor.V
namespace Go.Proofs.YtpnbpcopdckgpaaGreatDoor.V
open Go Go.RowKit
def sv (p : List UInt8) : Value := .string (B p)
def svs (ps : List (List UInt8)) : List Value := ps.map sv
theorem svs_length (l : List (List UInt8)) : (svs l).length = l.length := by simp [svs]
theorem svs_one (l : List (List UInt8)) : ∀ u ∈ svs l, u.oneCell' = true := by
 intro u hu
 obtain ⟨p, _, rfl⟩ := List.mem_map.1 hu
 rfl
def sget (ps : List (List UInt8)) (i : Nat) : List UInt8 := ps[i]?.getD []
def Strs (w : World) (v : Value) (ps : List (List UInt8)) : Prop :=
 ∃ a cap, v = .slice a ps.length cap ∧ ps.length ≤ cap ∧ cap ≤ maxLen ∧ ∀ i, i < ps.length → ∃ b off, a = some ⟨b, off, none⟩ ∧ b < w.heap.size ∧ w.cell? ⟨b, off + i, none⟩ = some (sv (sget ps i))
theorem Strs.nil (w : World) : Strs w (.slice none 0 0) [] := ⟨none, 0, rfl, Nat.le_refl _, Nat.zero_le _, fun i hi => by cases hi⟩
theorem Strs.kept {w w' : World} {v : Value} {ps : List (List UInt8)} (h : Strs w v ps) (hf : Fr [] w w') : Strs w' v ps := by
 obtain ⟨a, cap, hv, h1, h2, hc⟩ := h
 refine ⟨a, cap, hv, h1, h2, fun i hi => ?_⟩
 obtain ⟨b, off, ha, hb, hx⟩ := hc i hi
 exact ⟨b, off, ha, Nat.lt_of_lt_of_le hb hf.size, by rw [hf.cell hb (by simp)]; exact hx⟩
def ostrs (w : World) (base : Nat) (v : Value) (l : List (List UInt8)) : Prop := w.ownsRow base 9 1 v l.length (svs l)
theorem ostrs.kept {w w' : World} {base : Nat} {v : Value} {l : List (List UInt8)} (h : ostrs w base v l) {S : List Nat} (hf : Fr S w w') (hS : ∀ k, v.ownBlock = some k → k ∉ S) : ostrs w' base v l := hf.own h hS
theorem ostrs.lt {w : World} {base : Nat} {v : Value} {l : List (List UInt8)} (h : ostrs w base v l) : ∀ k, v.ownBlock = some k → base ≤ k ∧ k < w.heap.size := World.ownsRow.lt h
theorem ostrs.strs {w : World} {base : Nat} {v : Value} {l : List (List UInt8)} (h : ostrs w base v l) : Strs w v l := by
 have hlt := h.lt
 rcases h.2 with ⟨rfl, h0⟩ | ⟨g, cap, cur, rfl, hbg, hg, hnc, hcm, hcs, htake⟩
 ·
  obtain rfl : l = [] := List.eq_nil_of_length_eq_zero h0
  exact Strs.nil w
 refine ⟨_, cap, rfl, hnc, hcm, fun i hi => ⟨g, 0, rfl, (hlt g rfl).2, ?_⟩⟩
 have := World.ownsRow.cells h (g := g) rfl i (sv (sget l i)) (by simp [svs, sget, hi])
 have hadd : (⟨g, 0, none⟩ : Addr).add i = ⟨g, 0 + i, none⟩ := by unfold Addr.add; split <;> simp_all
 rw [hadd] at this
 exact this
theorem Strs.src {w : World} {v : Value} {l : List (List UInt8)} (h : Strs w v l) : Src Tryz.prog 1 32 v l.length (svs l) w := by
 obtain ⟨a, cap, rfl, h1, h2, hc⟩ := h
 by_cases h0 : l.length = 0
 ·
  obtain rfl : l = [] := List.eq_nil_of_length_eq_zero h0
  cases a with
  | none => exact Src.ofNil w Tryz.underlying32 cap
  | some a => exact Src.ofSlice w Tryz.underlying32 a 0 cap [] (by simp) (fun j u hu => by simp at hu) (by simp)
 obtain ⟨b, off, rfl, hb, _⟩ := hc 0 (by omega)
 refine Src.ofSlice w Tryz.underlying32 ⟨b, off, none⟩ l.length cap (svs l) (by simp [svs_length]) (fun j u hu => ?_) (svs_one l)
 have hj : j < l.length := by
  have := (List.getElem?_eq_some_iff.1 hu).1
  simpa [svs] using this
 obtain ⟨b', off', he, _, hx⟩ := hc j hj
 cases he
 have hadd : (⟨b, off, none⟩ : Addr).add j = ⟨b, off + j, none⟩ := by unfold Addr.add; split <;> simp_all
 rw [hadd, hx]
 simp [svs, hj] at hu
 simp [sget, hj, hu]
theorem Src.new' (w : World) (tx e' : TypeId) (hk : Tryz.prog.underlying tx = some (.slice e')) (cs : Array Value) (e : TypeId) (h1 : ∀ u ∈ cs.toList, u.oneCell' = true) :
  Src Tryz.prog 1 tx (.slice (some ⟨w.heap.size, 0, none⟩) cs.size cs.size) cs.size cs.toList (w.alloc (.cells cs e)).drew := by
 refine Src.ofSlice _ hk ⟨w.heap.size, 0, none⟩ cs.size cs.size cs.toList (by simp) ?_ h1
 intro j u hu
 have hadd : (⟨w.heap.size, 0, none⟩ : Addr).add j = ⟨w.heap.size, j, none⟩ := by unfold Addr.add; split <;> simp_all
 rw [hadd]
 show (w.alloc (.cells cs e)).cell? _ = _
 rw [World.cell?_alloc_at _ _ _ _ rfl]
 simpa using hu
def wvs (l : List UInt32) : List Value := l.map wv
def RWords (w : World) (base : Nat) (v : Value) (l : List UInt32) : Prop :=
 ∃ a cap, v = .slice a l.length cap ∧ ∀ i, i < l.length → ∃ b off, a = some ⟨b, off, none⟩ ∧ base ≤ b ∧ b < w.heap.size ∧ w.cell? ⟨b, off + i, none⟩ = some (.int .u32 (U32 (lget l i)))
theorem RWords.kept {w w' : World} {base : Nat} {v : Value} {l : List UInt32} (h : RWords w base v l) {S : List Nat} (hf : Fr S w w') (hS : ∀ x ∈ S, x < base ∨ w.heap.size ≤ x) : RWords w' base v l := by
 obtain ⟨a, cap, hv, hc⟩ := h
 refine ⟨a, cap, hv, fun i hi => ?_⟩
 obtain ⟨b, off, ha, hb0, hb, hx⟩ := hc i hi
 exact ⟨b, off, ha, hb0, Nat.lt_of_lt_of_le hb hf.size, by rw [hf.cell hb (fun hm => by have := hS b hm; omega)]; exact hx⟩
def owords (w : World) (base : Nat) (v : Value) (l : List UInt32) : Prop := w.ownsRow base 120 1 v l.length (wvs l)
theorem owords.kept {w w' : World} {base : Nat} {v : Value} {l : List UInt32} (h : owords w base v l) {S : List Nat} (hf : Fr S w w') (hS : ∀ k, v.ownBlock = some k → k ∉ S) : owords w' base v l := hf.own h hS
theorem owords.lt {w : World} {base : Nat} {v : Value} {l : List UInt32} (h : owords w base v l) : ∀ k, v.ownBlock = some k → base ≤ k ∧ k < w.heap.size := World.ownsRow.lt h
theorem owords.words {w : World} {base : Nat} {v : Value} {l : List UInt32} (h : owords w base v l) : RWords w base v l := by
 have hlt := h.lt
 rcases h.2 with ⟨rfl, h0⟩ | ⟨g, cap, cur, rfl, hbg, hg, hnc, hcm, hcs, htake⟩
 ·
  obtain rfl : l = [] := List.eq_nil_of_length_eq_zero h0
  exact ⟨none, 0, rfl, fun i hi => by cases hi⟩
 refine ⟨_, cap, rfl, fun i hi => ⟨g, 0, rfl, hbg, (hlt g rfl).2, ?_⟩⟩
 have := World.ownsRow.cells h (g := g) rfl i (wv (lget l i)) (by simp [wvs, lget, hi])
 have hadd : (⟨g, 0, none⟩ : Addr).add i = ⟨g, 0 + i, none⟩ := by unfold Addr.add; split <;> simp_all
 rw [hadd] at this
 exact this
theorem step_ap_bytes {ops : Array Oper} {o : Oper} {a : Act} {K : Act → World → Prop} {Q : Exit → Act → World → Prop} {w : World} {E : Prop} (hgd : o.guard = none) (s x : Operand) (tx : TypeId)
  (ho : o.op = .call { callee := .builtin .append, args := #[s, x], argTypes := #[70, tx] })
  (base : Nat) (v : Value) (l : List UInt8) (hv : a.eval s = v) (hown : obytes w base v l) (xv : Value) (m : List UInt8) (n : Nat) (hx : a.eval x = xv) (hs : Src Tryz.prog 1 tx xv n (bvs m) w)
  (hb : l.length + m.length ≤ 140737488355328) (hbase : base ≤ w.heap.size)
  (h : ∀ v' w', obytes w' base v' (l ++ m) → w.grownBy w' v.ownBlock → (v'.ownBlock = v.ownBlock ∨ v'.ownBlock = some w.heap.size) → K (a.put o.dst v') w') :
  if Region.wanted o (yielded ops a.tmps) = true then Oper.wp Tryz.prog o a w K Q else E := by
 have hw : Region.wanted o (yielded ops a.tmps) = true := by simp [Region.wanted, hgd]
 rw [if_pos hw]
 obtain ⟨i, hi, hz, hs1, hb1⟩ := info_parts u8info
 have hn : n = m.length := by have := hs.newsLen; rw [bvs_length] at this; omega
 subst hn
 refine wp_append_any w s x 70 tx ho base 5 i (.int .u8 0) 1 1 Tryz.underlying70 hi hz hs1 hb1 rfl (by decide) v l.length (bvs l) hv hown xv m.length (bvs m) hx hs
  (by unfold maxLen; omega) (by omega) hbase ?_
 intro v' w' h1 h2 h3
 refine h v' w' ?_ h2 h3
 unfold obytes
 rw [List.length_append, bvs_append]
 exact h1
end Go.Proofs.YtpnbpcopdckgpaaGreatDoor.V
section
namespace Go.Proofs.YtpnbpcopdckgpaaGreatDoor.V
open Go Go.RowKit
section
variable {P : Program} {ops : Array Oper} {Q : Exit → Act → World → Prop} {md : Region.Mode}
def wpTake (P : Program) (ops : Array Oper) (K : Act → Prop) : List Oper → Act → Prop
 | [], a => K a
 | o :: r, a => ∃ v, YieldsIf P ops (fun _ => True) o v a ∧ wpTake P ops K r (a.put o.dst v)
def Region.takeB (ops : Array Oper) (n : Nat) : Bool :=
 Region.noSelect ops && decide (n ≤ ops.size) && Region.lexHead .any ops (ops.size - n) n 0 (Array.replicate ops.size false)
end
end Go.Proofs.YtpnbpcopdckgpaaGreatDoor.V
end
namespace Go.Proofs.YtpnbpcopdckgpaaGreatDoor.V
open Go Go.RowKit
attribute [local go_sem] B_size B_append B_extract mk_B B_toList take_drop_len List.length_drop List.length_take sgn32 sgn64 add32 sub32 mul32 add64 sub64 mul64 mul64_8 and32 or32 xor32 and64 or64 xor64 shl32_run shr32_run shl64_run shr64_run not32 not32' xor32_all w_u32_u8 w_u64_u8 w_i64_u8 w_u8_u32 w_u8_u64 w_u32_u64 w_u64_u32 w_u8_u8 w_u32_u32 w_u64_u64
attribute [local go_sem ↓] run_index_B' add32 sub32 mul32 add64 sub64 mul64 mul64_8 and32 or32 xor32 and64 or64 xor64 shl32_run shr32_run shl64_run shr64_run not32 not32' xor32_all w_u32_u8 w_u64_u8 w_i64_u8 w_u8_u32 w_u8_u64 w_u32_u64 w_u64_u32 w_u8_u8 w_u32_u32 w_u64_u64 w_u64_nat w_u32_nat w_u8_nat
set_option maxRecDepth 4000
def wordsOf (s : List UInt8) (n : Nat) : List UInt32 := (List.range n).map fun j => wordOf (s.drop (4 * j))
theorem wordsOf_length (s : List UInt8) (n : Nat) : (wordsOf s n).length = n := by simp [wordsOf]
theorem wordsOf_succ (s : List UInt8) (n : Nat) : wordsOf s (n + 1) = wordsOf s n ++ [wordOf (s.drop (4 * n))] := by simp [wordsOf, List.range_succ]
theorem nth_drop (l : List UInt8) (a b : Nat) : nth (l.drop a) b = nth l (a + b) := by simp [nth]
theorem flat_succ (l : List UInt32) (n : Nat) (h : n < l.length) : (l.take (n + 1)).flatMap be4 = (l.take n).flatMap be4 ++ be4 (lget l n) := by
 rw [List.take_succ_eq_append_getElem h, List.flatMap_append]
 simp [lget, h]
set_option maxHeartbeats 1000000 in
set_option maxRecDepth 100000 in
theorem text_ok (base0 : Nat) (v : Value) (l : List UInt32) (w : World) (hl : l.length ≤ 1000) (hS : RWords w base0 v l) :
  Calls Tryz.prog 143 #[v] w fun e w' => e = .returned (.string (B (l.flatMap be4))) ∧ Fr [] w w' := by
 obtain ⟨a, cap, rfl, hc⟩ := hS
 have hpl : (l.length : Int) ≤ 1000 := by omega
 have hp0 : (0 : Int) ≤ (l.length : Int) := by omega
 have HC := Lib.hid hc
 have HL := Lib.hid hl
 clear hc hl
 go_enter Tryz.func143, Tryz.ntmps143
 go_wp2
 go_loopg [3, 4] l.length (fun k o i wr => ∃ (n : Nat), i = .int .i64 (n : Int) ∧ Hid (n + k = l.length) ∧ Hid (obytes wr w.heap.size o ((l.take n).flatMap be4)) ∧ Hid (Fr [] w wr))
 case atStart => exact ⟨0, rfl, (show _ = _ from by omega), (show _ from obytes_nil _ _), (show _ from Fr.refl _ _)⟩
 case round =>
  obtain ⟨n, rfl, HN, H1, H2⟩ := hrel
  have h0n : (0 : Int) ≤ (n : Int) := by omega
  by_cases hk : gk = 0
  ·
   subst hk
   have e1 : (l.length : Int) ≤ (n : Int) := by have := HN.out; omega
   have e2 : l.take n = l := List.take_of_length_le (by omega)
   have E2 := Lib.hid e2
   clear e2
   have hcv := H1.out.text
   go_wp2
   go_ret
   exact ⟨by rw [E2.out]; rfl, H2.out⟩
  have e1 : (n : Int) < (l.length : Int) := by have := HN.out; omega
  obtain ⟨b, off, rfl, -, hb, hx⟩ := HC.out n (by omega)
  have hx' : wr.cell? ⟨b, off + n, none⟩ = some (.int .u32 (U32 (lget l n))) := by rw [H2.out.cell hb (by simp)]; exact hx
  have hxn := World.new_ne wr _ hx'
  have ew : IntKind.i64.wrap ((n : Int) + 1) = (n : Int) + 1 := by rw [IntKind.wrap_i64]; omega
  have hwr := H2.out.size
  have HNe : some b ≠ u3.ownBlock := by intro h; have h3 := (H1.out.lt _ h.symm).1; omega
  generalize hX : lget l n = x at *
  have HX := Lib.hid hX
  have HBlt : b < ((wr.alloc (.cells (bvs (be4 x)).toArray 5)).drew).heap.size := by simp; omega
  have hall : ((wr.alloc (.cells (bvs (be4 x)).toArray 5)).drew).cell? ⟨b, off + n, none⟩ = some (.int .u32 (U32 x)) := by
   rw [(((Fr.refl [] wr).alloc (.cells (bvs (be4 x)).toArray 5)).drew).cell (by omega) (by simp)]
   exact hx'
  have HO : Hid (obytes ((wr.alloc (.cells (bvs (be4 x)).toArray 5)).drew) w.heap.size u3 ((l.take n).flatMap be4)) := H1.out.kept (S := []) ((Fr.refl [] wr).alloc _).drew (by simp)
  have HSr : Hid (Src Tryz.prog 1 70 (.slice (some ⟨wr.heap.size, 0, none⟩) 4 4) 4 (bvs (be4 x)) ((wr.alloc (.cells (bvs (be4 x)).toArray 5)).drew)) :=
   Src.new' wr 70 5 Tryz.underlying70 (bvs (be4 x)).toArray _ (bvs_one (be4 x))
  have HBb : Hid (((l.take n).flatMap be4).length + (be4 x).length ≤ 140737488355328) := by
   show _ ≤ _
   rw [flat_be4_length, List.length_take]
   have := HL.out
   simp [be4]
   omega
  have HBs : Hid (w.heap.size ≤ ((wr.alloc (.cells (bvs (be4 x)).toArray 5)).drew).heap.size) := by show _ ≤ _; simp; omega
  clear hx hb hX
  go_wp2
  go_region_held3 (fun w' => w'.cell? ⟨b, off + n, none⟩ = some (.int .u32 (U32 x))) (first | go_keep | (exact (World.cell?_of_block (hg1.block b HBlt HNe)).trans hall))
   ((refine step_ap_bytes (by rfl) _ _ _ (by rfl) w.heap.size u3 ((l.take n).flatMap be4) (by rfl) HO.out _ (be4 x) 4 (by rfl) HSr.out HBb.out HBs.out ?_; intro v1 w1 h1 hg1 ho1))
  have H1' := Lib.hid h1
  have H2' : Hid (Fr [] w w1) := (((H2.out.alloc _).drew).trans' (Fr.of_grown hg1) (fun _ h => .inl h) (fun x hx => .inr (H1.out.lt x (by simpa using hx)).1))
  clear h1 hg1 ho1 HO HSr HBs HBb hall HBlt
  go_wp2
  go_roundg (gk - 1)
  case rel =>
   refine ⟨n + 1, rfl, (show _ = _ from by have := HN.out; omega), (show obytes _ _ _ _ from ?_), H2'⟩
   rw [flat_succ l n (by have := HN.out; omega), HX.out]
   exact H1'.out
  case measure => omega
end Go.Proofs.YtpnbpcopdckgpaaGreatDoor.V
