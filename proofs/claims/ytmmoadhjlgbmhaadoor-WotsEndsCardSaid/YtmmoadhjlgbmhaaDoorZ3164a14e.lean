import Derived.Test.YtmmoadhjlgbmhaaDoorZe46ccfcd
import Derived.Test.YtmmoadhjlgbmhaaDoorZ615b4703
import Derived.Lib.Builder
import Derived.Lib.UnsafeStr
import Derived.Laws.Externs
section
/- The walk of mix: the schedule of a block, and its rounds. -/
namespace Go.Proofs.YtmmoadhjlgbmhaaDoor.V
open Go Go.RowKit
attribute [local go_sem] B_size B_append B_extract mk_B B_toList take_drop_len List.length_drop List.length_take sgn32 sgn64 add32 sub32 mul32 add64 sub64 mul64 mul64_8 and32 or32 xor32 and64 or64 xor64 shl32_run shr32_run shl64_run shr64_run not32 not32' xor32_all w_u32_u8 w_u64_u8 w_i64_u8 w_u8_u32 w_u8_u64 w_u32_u64 w_u64_u32 w_u8_u8 w_u32_u32 w_u64_u64
attribute [local go_sem ↓] run_index_B' add32 sub32 mul32 add64 sub64 mul64 mul64_8 and32 or32 xor32 and64 or64 xor64 shl32_run shr32_run shl64_run shr64_run not32 not32' xor32_all w_u32_u8 w_u64_u8 w_i64_u8 w_u8_u32 w_u8_u64 w_u32_u64 w_u64_u32 w_u8_u8 w_u32_u32 w_u64_u64 w_u64_nat w_u32_nat w_u8_nat

def wv (x : UInt32) : Value := .int .u32 (U32 x)
/-- an array of 64 words of which the first ones are there -/
def arr64 (l : List UInt32) : Array Value := (l.map wv ++ List.replicate (64 - l.length) (wv 0)).toArray
theorem arr64_size (l : List UInt32) (h : l.length ≤ 64) : (arr64 l).size = 64 := by simp [arr64]; omega
theorem arr64_get (l : List UInt32) (i : Nat) (h : i < l.length) : (arr64 l)[i]? = some (wv (lget l i)) := by
  simp [arr64, lget, List.getElem?_append_left, h]
theorem arr64_set (l : List UInt32) (x : UInt32) (h : l.length < 64) : (arr64 l).setIfInBounds l.length (wv x) = arr64 (l ++ [x]) := by
  unfold arr64
  apply Array.ext'
  obtain ⟨d, hd⟩ := Nat.exists_eq_add_of_lt h
  rw [show 64 - l.length = d + 1 by omega, List.replicate_succ]
  simp [List.set_append_right, show 64 - (l.length + 1) = d by omega]

theorem cell_at {w : World} {g i : Nat} {cur : Array Value} {t : TypeId} {fr : Nat × Nat} {v : Value} (hg : w.heap[g]? = some (.cells cur t fr)) (hv : cur[i]? = some v) : w.cell? ⟨g, i, none⟩ = some v := by
  rw [cell_of_row w g i cur t fr hg, hv]

/-- the table of constants, and the first state, as the program's variables hold them -/
structure Tabs (w : World) : Prop where
  size : 1 < w.heap.size ∧ 0 < w.heap.size
  k : ∀ i, i < 64 → w.cell? ⟨1, i, none⟩ = some (wv (lget kTab i))
  first : ∃ T, w.heap[0]? = some (.cells first.cells T (0, 0))
theorem Tabs.fr {S : List Nat} {w w' : World} (h : Tabs w) (hf : Fr S w w') (h1 : 1 ∉ S) (h2 : 0 ∉ S) : Tabs w' :=
  ⟨⟨Nat.lt_of_lt_of_le h.size.1 hf.size, Nat.lt_of_lt_of_le h.size.2 hf.size⟩, fun i hi => by rw [hf.cell h.size.1 h1]; exact h.k i hi, by rw [hf.block _ h.size.2 h2]; exact h.first⟩

/-- the state behind the first of the eight sums -/
def partAdd (s x : St) (n : Nat) : List UInt32 := (List.range 8).map fun j => if j < n then lget s.words j + lget x.words j else lget s.words j
theorem partAdd_set (s x : St) (n : Nat) (h : n < 8) : ((partAdd s x n).map wv).toArray.setIfInBounds n (wv (lget s.words n + lget x.words n)) = ((partAdd s x (n + 1)).map wv).toArray := by
  have : n = 0 ∨ n = 1 ∨ n = 2 ∨ n = 3 ∨ n = 4 ∨ n = 5 ∨ n = 6 ∨ n = 7 := by omega
  rcases this with rfl | rfl | rfl | rfl | rfl | rfl | rfl | rfl <;> rfl
theorem partAdd_0 (s x : St) : ((partAdd s x 0).map wv).toArray = s.cells := rfl
theorem partAdd_8 (s x : St) : ((partAdd s x 8).map wv).toArray = (s.add x).cells := rfl
theorem partAdd_get (s x : St) (n : Nat) (h : n < 8) : ((partAdd s x n).map wv).toArray[n]? = some (wv (lget s.words n)) := by
  have : n = 0 ∨ n = 1 ∨ n = 2 ∨ n = 3 ∨ n = 4 ∨ n = 5 ∨ n = 6 ∨ n = 7 := by omega
  rcases this with rfl | rfl | rfl | rfl | rfl | rfl | rfl | rfl <;> rfl
theorem cells_get (x : St) (n : Nat) (h : n < 8) : x.cells[n]? = some (wv (lget x.words n)) := by
  have : n = 0 ∨ n = 1 ∨ n = 2 ∨ n = 3 ∨ n = 4 ∨ n = 5 ∨ n = 6 ∨ n = 7 := by omega
  rcases this with rfl | rfl | rfl | rfl | rfl | rfl | rfl | rfl <;> rfl

/-- the code of mix from its label on -/
noncomputable def mixBody : Code := match Tryd.f55.body with
  | some (.scope c) => c
  | _ => .skip
noncomputable def mixRest : Code := (findLabel mixBody 0).getD .skip

/-- what holds at each jump to the label -/
structure AtJump (w : World) (g gw gx : Nat) (T Tx : TypeId) (s : St) (blk : List UInt8) (n : Nat) (wr : World) : Prop where
  lt : n < 64
  v : wr.heap[g]? = some (.cells s.cells T (0, 0))
  x : wr.heap[gx]? = some (.cells (rounds s (sched blk 64) n).cells Tx (0, 0))
  ws : wr.heap[gw]? = some (.cells (arr64 (sched blk 64)) 84 (0, 0))
  fr : Fr [] w wr
  tabs : Tabs wr
  gx1 : g ≠ gx
  gx2 : gw ≠ gx
  gx3 : 1 ≠ gx
  gx4 : 0 ≠ gx
  gxn : w.heap.size ≤ gx
def mixJ (g gw gx : Nat) (blk : List UInt8) (R : Nat → World → Prop) (a : Act) (w : World) : Prop :=
  ∃ n : Nat, R n w ∧ ∃ v2 v3 v5 v6 v7 v10 v11 v12 v13 v14 v15 v16 v17 v18 v19 v20 v21 v22 v23 v24 v25 v26 v27 v28 v29 v30 v31 v32 v33 v34 v35 v36 v37 v38 v39 v40 v41 v42 v43 v44 v45 v46 v47 v48 v49 v50 v51 v52 v53 v54 v55 v56 v57 v58 v59 v60 v61 v62 v63 v64 v65 v66 v67 v68 v69 v70 v71 v72 v73 v74 v75 v76 v77 v78 v79 v80 v81 v82 v83 v84 v85 v86 v87 v88 v89 v90 : Value, a = ⟨#[.pointer (some ⟨g, 0, none⟩), .string (B blk), v2, v3, .pointer (some ⟨gw, 0, none⟩), v5, v6, v7, .pointer (some ⟨gx, 0, none⟩), .int .i64 (n : Nat), v10, v11, v12, v13, v14, v15, v16, v17, v18, v19, v20, v21, v22, v23, v24, v25, v26, v27, v28, v29, v30, v31, v32, v33, v34, v35, v36, v37, v38, v39, v40, v41, v42, v43, v44, v45, v46, v47, v48, v49, v50, v51, v52, v53, v54, v55, v56, v57, v58, v59, v60, v61, v62, v63, v64, v65, v66, v67, v68, v69, v70, v71, v72, v73, v74, v75, v76, v77, v78, v79, v80, v81, v82, v83, v84, v85, v86, v87, v88, v89, v90], []⟩

set_option maxHeartbeats 1000000 in
set_option maxRecDepth 100000 in
theorem mix_pass (w : World) (g gw gx : Nat) (T Tx : TypeId) (s : St) (blk : List UInt8) (n : Nat) (wr : World) (hJ : AtJump w g gw gx T Tx s blk n wr) (h : g < w.heap.size) (Q0 : Exit → Act → World → Prop) (v2 v3 v5 v6 v7 v10 v11 v12 v13 v14 v15 v16 v17 v18 v19 v20 v21 v22 v23 v24 v25 v26 v27 v28 v29 v30 v31 v32 v33 v34 v35 v36 v37 v38 v39 v40 v41 v42 v43 v44 v45 v46 v47 v48 v49 v50 v51 v52 v53 v54 v55 v56 v57 v58 v59 v60 v61 v62 v63 v64 v65 v66 v67 v68 v69 v70 v71 v72 v73 v74 v75 v76 v77 v78 v79 v80 v81 v82 v83 v84 v85 v86 v87 v88 v89 v90 : Value)
    (hQ : ∀ a' w', w'.heap[g]? = some (.cells (mixed s blk).cells T (0, 0)) → Fr [g] w w' → a'.defers = [] → Q0 .normal a' w') :
    Code.wp Tryd.prog mixRest (Exit.jump 0 (fun a' w' => mixJ g gw gx blk (AtJump w g gw gx T Tx s blk) a' w' ∧ (64 - (intOf (a'.tmps.getD 9 undef)).toNat) < 64 - n) Q0) ⟨#[.pointer (some ⟨g, 0, none⟩), .string (B blk), v2, v3, .pointer (some ⟨gw, 0, none⟩), v5, v6, v7, .pointer (some ⟨gx, 0, none⟩), .int .i64 (n : Nat), v10, v11, v12, v13, v14, v15, v16, v17, v18, v19, v20, v21, v22, v23, v24, v25, v26, v27, v28, v29, v30, v31, v32, v33, v34, v35, v36, v37, v38, v39, v40, v41, v42, v43, v44, v45, v46, v47, v48, v49, v50, v51, v52, v53, v54, v55, v56, v57, v58, v59, v60, v61, v62, v63, v64, v65, v66, v67, v68, v69, v70, v71, v72, v73, v74, v75, v76, v77, v78, v79, v80, v81, v82, v83, v84, v85, v86, v87, v88, v89, v90], []⟩ wr := by
  conv => arg 2; whnf
  have hk : wr.cell? ⟨1, n, none⟩ = some (.int .u32 (U32 (lget kTab n))) := hJ.tabs.k n hJ.lt
  have hw : wr.cell? ⟨gw, n, none⟩ = some (.int .u32 (U32 (lget (sched blk 64) n))) := cell_at hJ.ws (arr64_get _ _ (by rw [sched_length]; exact hJ.lt))
  have hlt : (n : Int) < 64 := by have := hJ.lt; omega
  have HJ := Lib.hid hJ
  have HQ := Lib.hid hQ
  have HG := Lib.hid h
  clear hJ hQ h
  go_wp2
  refine region_still 7 (by kernel_rfl) (by kernel_rfl) ?_; simp only [List.take_succ_cons, List.take_zero, List.drop_succ_cons, List.drop_zero]; (repeat (first | still_step)); try refine wpStill_nil ?_
  go_wp2_with fail
  refine (round_ok gx (rounds s (sched blk 64) n) _ Tx _ ?hx).mono ?_
  case hx => exact HJ.out.x
  rintro e w1 ⟨rfl, hf1, hx1⟩
  have HF1 := Lib.hid hf1
  have HX1 := Lib.hid hx1
  clear hf1 hx1 hk hw
  go_wp2
  · go_step3
    have hn : n + 1 < 64 := by omega
    refine ⟨rfl, ⟨n + 1, ⟨hn, ?_, HX1.out, ?_, ?_, ?_, HJ.out.gx1, HJ.out.gx2, HJ.out.gx3, HJ.out.gx4, HJ.out.gxn⟩, ?_⟩, ?_⟩
    · rw [HF1.out.block g (Array.getElem?_eq_some_iff.1 HJ.out.v).1 (by simpa using HJ.out.gx1)]
      exact HJ.out.v
    · rw [HF1.out.block gw (Array.getElem?_eq_some_iff.1 HJ.out.ws).1 (by simpa using HJ.out.gx2)]
      exact HJ.out.ws
    · exact HJ.out.fr.drew.trans' HF1.out (fun _ h => .inl h) (fun x hx => .inr (by simp at hx; subst hx; exact HJ.out.gxn))
    · exact HJ.out.tabs.fr ((Fr.refl [gx] wr).drew.trans HF1.out) (by simpa using HJ.out.gx3) (by simpa using HJ.out.gx4)
    · exact ⟨_, _, _, _, _, _, _, _, _, _, _, _, _, _, _, _, _, _, _, _, _, _, _, _, _, _, _, _, _, _, _, _, _, _, _, _, _, _, _, _, _, _, _, _, _, _, _, _, _, _, _, _, _, _, _, _, _, _, _, _, _, _, _, _, _, _, _, _, _, _, _, _, _, _, _, _, _, _, _, _, _, _, _, _, _, _, rfl⟩
    · simp [intOf]; omega
  · have hn : n + 1 = 64 := by omega
    have hgs : g < w.heap.size := HG.out
    have hv1 : w1.heap[g]? = some (.cells s.cells T (0, 0)) := by
      rw [HF1.out.block g (Array.getElem?_eq_some_iff.1 HJ.out.v).1 (by simpa using HJ.out.gx1)]
      exact HJ.out.v
    have hx1 : w1.heap[gx]? = some (.cells (rounds s (sched blk 64) 64).cells Tx (0, 0)) := by
      have e : rounds s (sched blk 64) 64 = rnd (rounds s (sched blk 64) n) (lget kTab n + lget (sched blk 64) n) := by
        obtain rfl : n = 63 := by omega
        rfl
      rw [e]
      exact HX1.out
    have hf1 : Fr [g] w w1 := HJ.out.fr.drew.trans' HF1.out (fun _ h => by cases h) (fun x hx => .inr (by simp at hx; subst hx; exact HJ.out.gxn))
    have HV1 := Lib.hid hv1
    have HXX := Lib.hid hx1
    have HF := Lib.hid hf1
    have HGX := Lib.hid HJ.out.gx1
    have HN := Lib.hid hn
    clear hv1 hx1 hf1 hn HF1 HX1 HJ hgs
    go_loopg [76] 8 (fun k i w2 => ∃ m : Nat, m + k = 8 ∧ i = .int .i64 m ∧ Hid (w2.heap[g]? = some (.cells ((partAdd s (rounds s (sched blk 64) 64) m).map wv).toArray T (0, 0))) ∧ Hid (Fr [g] w1 w2))
    case atStart => exact ⟨0, rfl, rfl, (show _ from HV1.out), (show Fr [g] w1 w1 from Fr.refl _ _)⟩
    case round =>
      obtain ⟨m, hm, rfl, H1, H2⟩ := hrel
      have HM := Lib.hid hm
      clear hm
      have hfz : ∀ (o : Nat), wr.frozen? ⟨g, o, none⟩ = false := fun o => frozen_of_row _ _ o _ _ H1.out
      by_cases hm8 : m < 8
      · have c1 : wr.cell? ⟨g, m, none⟩ = some (.int .u32 (U32 (lget s.words m))) := cell_at H1.out (partAdd_get _ _ _ hm8)
        have c2 : wr.cell? ⟨gx, m, none⟩ = some (.int .u32 (U32 (lget (rounds s (sched blk 64) 64).words m))) := by
          rw [H2.out.cell (Array.getElem?_eq_some_iff.1 HXX.out).1 (by simpa using Ne.symm HGX.out)]
          exact cell_at HXX.out (cells_get _ _ hm8)
        have hm8' : (m : Int) < 8 := by omega
        go_wp2
        refine region_still 11 (by kernel_rfl) (by kernel_rfl) ?_; simp only [List.take_succ_cons, List.take_zero, List.drop_succ_cons, List.drop_zero]; (repeat (first | still_step)); try refine wpStill_nil ?_
        go_wp2
        go_roundg (gk - 1)
        case rel =>
          refine ⟨m + 1, by have := HM.out; omega, by simp, (show _ = _ from ?_), (show Fr _ _ _ from ?_)⟩
          · rw [heap_drew, heap_setCell H1.out]
            congr 2
            exact partAdd_set _ _ _ hm8
          · exact Fr.drew (Fr.setCell H2.out (.inl (by simp)) _)
        case measure => have := HM.out; omega
      · have hm8' : m = 8 := by have := HM.out; omega
        have HM8 := Lib.hid hm8'
        clear hm8'
        have hm9 : (8 : Int) ≤ (m : Int) := by omega
        go_wp2
        simp only [Exit.jump]
        refine HQ.out _ _ ?_ (HF.out.trans H2.out) rfl
        have := H1.out
        rw [HM8.out] at this
        exact this
end Go.Proofs.YtmmoadhjlgbmhaaDoor.V
end
section
/- The walk of mix, whole. -/
namespace Go.Proofs.YtmmoadhjlgbmhaaDoor.V
open Go Go.RowKit
attribute [local go_sem] B_size B_append B_extract mk_B B_toList take_drop_len List.length_drop List.length_take sgn32 sgn64 add32 sub32 mul32 add64 sub64 mul64 mul64_8 and32 or32 xor32 and64 or64 xor64 shl32_run shr32_run shl64_run shr64_run not32 not32' xor32_all w_u32_u8 w_u64_u8 w_i64_u8 w_u8_u32 w_u8_u64 w_u32_u64 w_u64_u32 w_u8_u8 w_u32_u32 w_u64_u64
attribute [local go_sem ↓] run_index_B' add32 sub32 mul32 add64 sub64 mul64 mul64_8 and32 or32 xor32 and64 or64 xor64 shl32_run shr32_run shl64_run shr64_run not32 not32' xor32_all w_u32_u8 w_u64_u8 w_i64_u8 w_u8_u32 w_u8_u64 w_u32_u64 w_u64_u32 w_u8_u8 w_u32_u32 w_u64_u64 w_u64_nat w_u32_nat w_u8_nat

set_option maxHeartbeats 1000000 in
set_option maxRecDepth 100000 in
theorem mix_ok (g : Nat) (s : St) (blk : List UInt8) (T : TypeId) (w : World) (hg : w.heap[g]? = some (.cells s.cells T (0, 0))) (hT : Tabs w) (hl : 64 ≤ blk.length) :
    Calls Tryd.prog 55 #[.pointer (some ⟨g, 0, none⟩), .string (B blk)] w fun e w' => e = .returned (.tuple #[]) ∧ Fr [g] w w' ∧ w'.heap[g]? = some (.cells (mixed s blk).cells T (0, 0)) := by
  have HG := Lib.hid hg
  clear hg
  have HT := Lib.hid hT
  clear hT
  go_enter Tryd.func55, Tryd.ntmps55
  go_wp2
  refine wp_scope_jumps 0 (mixJ g w.heap.size (w.heap.size + 1) blk (AtJump w g w.heap.size (w.heap.size + 1) T 69 s blk)) (fun a' _ => 64 - (intOf (a'.tmps.getD 9 undef)).toNat) rfl ?_ ?_
  case refine_2 =>
    rintro a' w' ⟨n, hR, hx⟩
    obtain ⟨v2, hx⟩ := hx
    obtain ⟨v3, hx⟩ := hx
    obtain ⟨v5, hx⟩ := hx
    obtain ⟨v6, hx⟩ := hx
    obtain ⟨v7, hx⟩ := hx
    obtain ⟨v10, hx⟩ := hx
    obtain ⟨v11, hx⟩ := hx
    obtain ⟨v12, hx⟩ := hx
    obtain ⟨v13, hx⟩ := hx
    obtain ⟨v14, hx⟩ := hx
    obtain ⟨v15, hx⟩ := hx
    obtain ⟨v16, hx⟩ := hx
    obtain ⟨v17, hx⟩ := hx
    obtain ⟨v18, hx⟩ := hx
    obtain ⟨v19, hx⟩ := hx
    obtain ⟨v20, hx⟩ := hx
    obtain ⟨v21, hx⟩ := hx
    obtain ⟨v22, hx⟩ := hx
    obtain ⟨v23, hx⟩ := hx
    obtain ⟨v24, hx⟩ := hx
    obtain ⟨v25, hx⟩ := hx
    obtain ⟨v26, hx⟩ := hx
    obtain ⟨v27, hx⟩ := hx
    obtain ⟨v28, hx⟩ := hx
    obtain ⟨v29, hx⟩ := hx
    obtain ⟨v30, hx⟩ := hx
    obtain ⟨v31, hx⟩ := hx
    obtain ⟨v32, hx⟩ := hx
    obtain ⟨v33, hx⟩ := hx
    obtain ⟨v34, hx⟩ := hx
    obtain ⟨v35, hx⟩ := hx
    obtain ⟨v36, hx⟩ := hx
    obtain ⟨v37, hx⟩ := hx
    obtain ⟨v38, hx⟩ := hx
    obtain ⟨v39, hx⟩ := hx
    obtain ⟨v40, hx⟩ := hx
    obtain ⟨v41, hx⟩ := hx
    obtain ⟨v42, hx⟩ := hx
    obtain ⟨v43, hx⟩ := hx
    obtain ⟨v44, hx⟩ := hx
    obtain ⟨v45, hx⟩ := hx
    obtain ⟨v46, hx⟩ := hx
    obtain ⟨v47, hx⟩ := hx
    obtain ⟨v48, hx⟩ := hx
    obtain ⟨v49, hx⟩ := hx
    obtain ⟨v50, hx⟩ := hx
    obtain ⟨v51, hx⟩ := hx
    obtain ⟨v52, hx⟩ := hx
    obtain ⟨v53, hx⟩ := hx
    obtain ⟨v54, hx⟩ := hx
    obtain ⟨v55, hx⟩ := hx
    obtain ⟨v56, hx⟩ := hx
    obtain ⟨v57, hx⟩ := hx
    obtain ⟨v58, hx⟩ := hx
    obtain ⟨v59, hx⟩ := hx
    obtain ⟨v60, hx⟩ := hx
    obtain ⟨v61, hx⟩ := hx
    obtain ⟨v62, hx⟩ := hx
    obtain ⟨v63, hx⟩ := hx
    obtain ⟨v64, hx⟩ := hx
    obtain ⟨v65, hx⟩ := hx
    obtain ⟨v66, hx⟩ := hx
    obtain ⟨v67, hx⟩ := hx
    obtain ⟨v68, hx⟩ := hx
    obtain ⟨v69, hx⟩ := hx
    obtain ⟨v70, hx⟩ := hx
    obtain ⟨v71, hx⟩ := hx
    obtain ⟨v72, hx⟩ := hx
    obtain ⟨v73, hx⟩ := hx
    obtain ⟨v74, hx⟩ := hx
    obtain ⟨v75, hx⟩ := hx
    obtain ⟨v76, hx⟩ := hx
    obtain ⟨v77, hx⟩ := hx
    obtain ⟨v78, hx⟩ := hx
    obtain ⟨v79, hx⟩ := hx
    obtain ⟨v80, hx⟩ := hx
    obtain ⟨v81, hx⟩ := hx
    obtain ⟨v82, hx⟩ := hx
    obtain ⟨v83, hx⟩ := hx
    obtain ⟨v84, hx⟩ := hx
    obtain ⟨v85, hx⟩ := hx
    obtain ⟨v86, hx⟩ := hx
    obtain ⟨v87, hx⟩ := hx
    obtain ⟨v88, hx⟩ := hx
    obtain ⟨v89, hx⟩ := hx
    obtain ⟨v90, hx⟩ := hx
    subst hx
    refine wp_mono (mix_pass w g w.heap.size (w.heap.size + 1) T 69 s blk n w' hR (Array.getElem?_eq_some_iff.1 HG.out).1 (bodyPost Tryd.prog Tryd.f55 fun e w' => e = .returned (.tuple #[]) ∧ Fr [g] w w' ∧ w'.heap[g]? = some (.cells (mixed s blk).cells T (0, 0))) _ _ _ _ _ _ _ _ _ _ _ _ _ _ _ _ _ _ _ _ _ _ _ _ _ _ _ _ _ _ _ _ _ _ _ _ _ _ _ _ _ _ _ _ _ _ _ _ _ _ _ _ _ _ _ _ _ _ _ _ _ _ _ _ _ _ _ _ _ _ _ _ _ _ _ _ _ _ _ _ _ _ _ _ _ _ ?hQ) ?hm
    case hQ =>
      intro a1 w1 h1 h2 h3
      exact bodyPost_end (results_none rfl _ _ _) h3 ⟨rfl, h2, h1⟩
    case hm =>
      intro e a1 w1 hq
      cases e with
      | goto l => exact ⟨hq.1, hq.2.1, by simpa [intOf] using hq.2.2⟩
      | _ => exact hq
  go_wp2
  go_loopg [11] 64 (fun k i wr => ∃ n : Nat, n + k = 64 ∧ i = .int .i64 n ∧ Hid (wr.heap[w.heap.size]? = some (.cells (arr64 (sched blk n)) 84 (0, 0))) ∧ Hid (Fr [] w wr) ∧ Hid (wr.heap.size = w.heap.size + 1))
  case atStart =>
    exact ⟨0, rfl, rfl, (show _ from heap_alloc_new w _), (show Fr [] w _ from (Fr.refl [] w).alloc _), (show _ = _ from by simp)⟩
  case round =>
    obtain ⟨n, hn, rfl, H1, H2, H3⟩ := hrel
    have hsl := sched_length blk n
    have HL := Lib.hid hsl
    clear hsl
    have hgw : ∀ (o : Nat), wr.frozen? ⟨w.heap.size, o, none⟩ = false := fun o => frozen_of_row wr _ o _ _ H1.out
    have hn64 : n ≤ 64 := by omega
    have HN := Lib.hid hn
    clear hn
    by_cases h16 : n < 16
    · have hc : wr.cell? ⟨w.heap.size, n, none⟩ = some (wv 0) := by
        refine cell_at H1.out ?_
        simp [arr64, HL.out, List.getElem?_append_right, List.getElem?_replicate]
        omega
      go_wp2_with fail
      refine (word_ok _ _ (by simp; omega)).mono ?_
      rintro e w' ⟨rfl, m, rfl⟩
      go_wp2
      go_roundg (gk - 1)
      case rel =>
        refine ⟨n + 1, by have := HN.out; omega, by simp, (show _ = _ from ?_), (show Fr _ _ _ from Fr.setCell (H2.out.drewN _) (.inr (Nat.le_refl _)) _), (show _ = _ from by simpa using H3.out)⟩
        rw [heap_setCell (w := wr.drewN m) H1.out]
        congr 2
        have := arr64_set (sched blk n) (wordOf (blk.drop (4 * n))) (by rw [HL.out]; omega)
        rw [HL.out] at this
        rw [show sched blk (n + 1) = sched blk n ++ [nxt blk (sched blk n)] from rfl, show nxt blk (sched blk n) = wordOf (blk.drop (4 * n)) by unfold nxt; rw [HL.out, if_pos h16]]
        exact this
      case measure => have := HN.out; omega
    · by_cases hlt : n < 64
      · have e1 : ((n : Int) - 16).toNat = n - 16 := by omega
        have e2 : ((n : Int) - 15).toNat = n - 15 := by omega
        have e3 : ((n : Int) - 7).toNat = n - 7 := by omega
        have e4 : ((n : Int) - 2).toNat = n - 2 := by omega
        have c1 : wr.cell? ⟨w.heap.size, n - 16, none⟩ = some (.int .u32 (U32 (lget (sched blk n) (n - 16)))) := cell_at H1.out (arr64_get _ _ (by rw [HL.out]; omega))
        have c2 : wr.cell? ⟨w.heap.size, n - 15, none⟩ = some (.int .u32 (U32 (lget (sched blk n) (n - 15)))) := cell_at H1.out (arr64_get _ _ (by rw [HL.out]; omega))
        have c3 : wr.cell? ⟨w.heap.size, n - 7, none⟩ = some (.int .u32 (U32 (lget (sched blk n) (n - 7)))) := cell_at H1.out (arr64_get _ _ (by rw [HL.out]; omega))
        have c4 : wr.cell? ⟨w.heap.size, n - 2, none⟩ = some (.int .u32 (U32 (lget (sched blk n) (n - 2)))) := cell_at H1.out (arr64_get _ _ (by rw [HL.out]; omega))
        have hc : wr.cell? ⟨w.heap.size, n, none⟩ = some (wv 0) := by
          refine cell_at H1.out ?_
          simp [arr64, HL.out, List.getElem?_append_right, List.getElem?_replicate]
          omega
        go_wp2
        go_quiet (fail)
        go_wp2
        have s1 : IntKind.i64.wrap ((n : Int) - 16) = (n : Int) - 16 := IntWalk.i64_in _ (by omega)
        have s2 : IntKind.i64.wrap ((n : Int) - 7) = (n : Int) - 7 := IntWalk.i64_in _ (by omega)
        have s3 : (0 : Int) ≤ (n : Int) - 16 := by omega
        have s4 : (n : Int) - 16 < 64 := by omega
        have s5 : (0 : Int) ≤ (n : Int) - 7 := by omega
        have s6 : (n : Int) - 7 < 64 := by omega
        have s7 : (n : Int) < 64 := by omega
        have s8 : (7 : Int) ≤ (n : Int) := by omega
        have s9 : (16 : Int) ≤ (n : Int) := by omega
        refine region_still 29 (by kernel_rfl) (by kernel_rfl) ?_; simp only [List.take_succ_cons, List.take_zero, List.drop_succ_cons, List.drop_zero]; (repeat (first | still_step | (refine wpStill_step (fun K hK => ?_); go_simp; refine ⟨_, still_left (right_ok _ _ _ (by decide) (by decide)), hK _ ?_⟩; clear hK K))); try refine wpStill_nil ?_
        go_wp2
        go_roundg (gk - 1)
        case rel =>
          refine ⟨n + 1, by have := HN.out; omega, by simp, (show _ = _ from ?_), (show Fr _ _ _ from ?_), (show _ = _ from by simpa using H3.out)⟩
          · rw [heap_setCell (w := wr.drewN (nq + 1)) H1.out]
            congr 2
            have := arr64_set (sched blk n) (nxt blk (sched blk n)) (by rw [HL.out]; omega)
            rw [HL.out] at this
            rw [show sched blk (n + 1) = sched blk n ++ [nxt blk (sched blk n)] from rfl, ← this]
            congr 2
            unfold nxt
            rw [HL.out, if_neg h16]
            rfl
          · exact Fr.setCell (H2.out.drewN _) (.inr (Nat.le_refl _)) _
        case measure => have := HN.out; omega
      · obtain rfl : n = 64 := by omega
        have hgs : g < w.heap.size := (Array.getElem?_eq_some_iff.1 HG.out).1
        have hv : wr.heap[g]? = some (.cells s.cells T (0, 0)) := by rw [H2.out.block g hgs (by simp)]; exact HG.out
        obtain ⟨c0, c1, c2, c3, c4, c5, c6, c7, fz⟩ := cells8 hv
        have HGS := Lib.hid hgs
        have HV := Lib.hid hv
        have hx := H3.out
        have HT1 := Lib.hid (HT.out.fr H2.out (by simp) (by simp))
        have hk1 : wr.cell? ⟨1, 0, none⟩ = some (.int .u32 (U32 (lget kTab 0))) := HT1.out.k 0 (by decide)
        have hw1 : wr.cell? ⟨w.heap.size, 0, none⟩ = some (.int .u32 (U32 (lget (sched blk 64) 0))) := cell_at H1.out (arr64_get _ _ (by rw [sched_length]; decide))
        have hk2 : 1 < w.heap.size := HT.out.size.1
        have hk5 : 1 < wr.heap.size := Nat.lt_of_lt_of_le hk2 H2.out.size
        have hk6 : ∀ o : Obj, (wr.alloc o).cell? ⟨1, 0, none⟩ = some (.int .u32 (U32 (lget kTab 0))) := fun o => by rw [World.cell?_alloc_past o _ _ hk5]; exact hk1
        clear hv hgs hgw HN HL hl
        go_wp2
        go_step3
        go_wp2
        refine region_still 7 (by kernel_rfl) (by kernel_rfl) ?_; simp only [List.take_succ_cons, List.take_zero, List.drop_succ_cons, List.drop_zero]; (repeat (first | still_step)); try refine wpStill_nil ?_
        go_wp2_with fail
        refine (round_ok (w.heap.size + 1) s _ 69 _ ?hx1).mono ?_
        case hx1 =>
          show (wr.alloc (.cells s.cells 69)).heap[w.heap.size + 1]? = _
          rw [← hx]
          exact heap_alloc_new wr _
        rintro e w1 ⟨rfl, hf1, hx1⟩
        have HF1 := Lib.hid hf1
        have HX1 := Lib.hid hx1
        have HX := Lib.hid hx
        clear hf1 hx1 hk1 hw1 c0 c1 c2 c3 c4 c5 c6 c7 fz hx
        go_wp2
        go_step3
        have hgs := HGS.out
        have hxs := HX.out
        have HFa : Fr [w.heap.size + 1] wr w1 := (((Fr.refl _ wr).alloc _).drew).trans HF1.out
        refine ⟨rfl, 1, ⟨by decide, ?_, HX1.out, ?_, ?_, ?_, by omega, by omega, by omega, by have := HT.out.size.2; omega, by omega⟩, ?_⟩
        · rw [HFa.block g (by omega) (by simp; omega)]
          exact HV.out
        · rw [HFa.block w.heap.size (by omega) (by simp)]
          exact H1.out
        · exact H2.out.trans' HFa (fun _ h => .inl h) (fun x hx => .inr (by simp at hx; omega))
        · exact HT1.out.fr HFa (by rw [List.mem_singleton]; omega) (by rw [List.mem_singleton]; have := HT.out.size.2; omega)
        · exact ⟨_, _, _, _, _, _, _, _, _, _, _, _, _, _, _, _, _, _, _, _, _, _, _, _, _, _, _, _, _, _, _, _, _, _, _, _, _, _, _, _, _, _, _, _, _, _, _, _, _, _, _, _, _, _, _, _, _, _, _, _, _, _, _, _, _, _, _, _, _, _, _, _, _, _, _, _, _, _, _, _, _, _, _, _, _, _, rfl⟩
end Go.Proofs.YtmmoadhjlgbmhaaDoor.V
end
section
/- The walks of read, String, First, Block, Pad and Sum. -/
namespace Go.Proofs.YtmmoadhjlgbmhaaDoor.V
open Go Go.RowKit
attribute [local go_sem] B_size B_append B_extract mk_B B_toList take_drop_len List.length_drop List.length_take sgn32 sgn64 add32 sub32 mul32 add64 sub64 mul64 mul64_8 and32 or32 xor32 and64 or64 xor64 shl32_run shr32_run shl64_run shr64_run not32 not32' xor32_all w_u32_u8 w_u64_u8 w_i64_u8 w_u8_u32 w_u8_u64 w_u32_u64 w_u64_u32 w_u8_u8 w_u32_u32 w_u64_u64
attribute [local go_sem ↓] run_index_B' add32 sub32 mul32 add64 sub64 mul64 mul64_8 and32 or32 xor32 and64 or64 xor64 shl32_run shr32_run shl64_run shr64_run not32 not32' xor32_all w_u32_u8 w_u64_u8 w_i64_u8 w_u8_u32 w_u8_u64 w_u32_u64 w_u64_u32 w_u8_u8 w_u32_u32 w_u64_u64 w_u64_nat w_u32_nat w_u8_nat

theorem u32agg : ∀ w, (isAgg 67).run Tryd.prog w = .ok false w := fun _ => by kernel_rfl
set_option maxHeartbeats 1000000 in
set_option maxRecDepth 100000 in
theorem stateString_ok (s : St) (w : World) :
    Calls Tryd.prog 56 #[.agg s.cells] w fun e w' => e = .returned (.string (B s.text)) ∧ Fr [] w w' := by
  obtain ⟨j, hj, hjs⟩ := Option.map_eq_some_iff.1 u32size
  have hix : ∀ n : Nat, n < 8 → ∀ w, (Instr.index 69 (.agg s.cells) (.int .i64 (n : Int))).run Tryd.prog w = .ok (.int .u32 (U32 (lget s.words n))) w :=
    fun n hn w => run_index_arr w _ 67 8 j Tryd.underlying69 hj hjs u32agg _ _ n _ hn (cells_get s n hn)
  have HIX := Lib.hid hix
  clear hix
  unfold St.cells
  go_enter Tryd.func56, Tryd.ntmps56
  go_wp2
  go_loopg [3, 7] 8 (fun k v i wr => ∃ n : Nat, n + k = 8 ∧ i = .int .i64 n ∧ Hid (obytes wr w.heap.size v ((s.words.take n).flatMap be4)) ∧ Hid (Fr [] w wr))
  case atStart => exact ⟨0, rfl, rfl, (show _ from obytes_nil _ _), (show _ from (Fr.refl [] w).alloc _)⟩
  case round =>
    obtain ⟨n, hn, rfl, H1, H2⟩ := hrel
    have HN := Lib.hid hn
    clear hn
    by_cases h8 : n < 8
    · have h8' : (n : Int) < 8 := by omega
      have hx := HIX.out n h8
      unfold St.cells at hx
      go_wp2_with fail
      refine (lay_ok _ w.heap.size _ _ _ H1.out ?hb ?hbase).mono ?_
      case hb => rw [flat_be4_length]; have : (s.words.take n).length ≤ 8 := (by simp [St.words]; omega); omega
      case hbase => exact H2.out.size
      rintro e w1 ⟨v', rfl, h1, h2, h3⟩
      have H1' := Lib.hid h1
      have H2' := Lib.hid h2
      clear h1 h2 h3 hx
      go_wp2
      go_roundg (gk - 1)
      case rel =>
        refine ⟨n + 1, by have := HN.out; omega, by simp, (show obytes _ _ _ _ from ?_), (show Fr [] w w1 from ?_)⟩
        · rw [take_words s n h8]
          exact H1'.out
        · exact H2.out.trans' H2'.out (fun _ h => by cases h) (fun x hx => .inr (H1.out.lt x (by simpa using hx)).1)
      case measure => have := HN.out; omega
    · have h8' : (8 : Int) ≤ (n : Int) := by omega
      have e8 : n = 8 := by have := HN.out; omega
      have E8 := Lib.hid e8
      clear e8
      have hcv := H1.out.text
      go_wp2
      go_ret
      refine ⟨?_, H2.out⟩
      rw [E8.out]
      rfl

def arr8 (l : List UInt32) : Array Value := (l.map wv ++ List.replicate (8 - l.length) (wv 0)).toArray
theorem arr8_set (l : List UInt32) (x : UInt32) (h : l.length < 8) : (arr8 l).setIfInBounds l.length (wv x) = arr8 (l ++ [x]) := by
  unfold arr8
  apply Array.ext'
  obtain ⟨d, hd⟩ := Nat.exists_eq_add_of_lt h
  rw [show 8 - l.length = d + 1 by omega, List.replicate_succ]
  simp [List.set_append_right, show 8 - (l.length + 1) = d by omega]
theorem arr8_cell (l : List UInt32) (h : l.length < 8) : (arr8 l)[l.length]? = some (wv 0) := by
  simp [arr8, List.getElem?_append_right, List.getElem?_replicate]
  omega
theorem read_words (l : List UInt8) (n : Nat) (h : n < 8) : (readSt l).words.take (n + 1) = (readSt l).words.take n ++ [wordOf (l.drop (4 * n))] := by
  have h1 : n < (readSt l).words.length := h
  rw [List.take_succ_eq_append_getElem h1]
  congr 2
  have : n = 0 ∨ n = 1 ∨ n = 2 ∨ n = 3 ∨ n = 4 ∨ n = 5 ∨ n = 6 ∨ n = 7 := by omega
  rcases this with rfl | rfl | rfl | rfl | rfl | rfl | rfl | rfl <;> rfl

end Go.Proofs.YtmmoadhjlgbmhaaDoor.V
end
section
/- A strings.Builder that the call itself made: what its methods do to it. -/
namespace Go.Proofs.YtmmoadhjlgbmhaaDoor.V
open Go Go.RowKit
attribute [local go_sem] B_size B_append B_extract mk_B B_toList take_drop_len List.length_drop List.length_take sgn32 sgn64 add32 sub32 mul32 add64 sub64 mul64 mul64_8 and32 or32 xor32 and64 or64 xor64 shl32_run shr32_run shl64_run shr64_run not32 not32' xor32_all w_u32_u8 w_u64_u8 w_i64_u8 w_u8_u32 w_u8_u64 w_u32_u64 w_u64_u32 w_u8_u8 w_u32_u32 w_u64_u64
attribute [local go_sem ↓] run_index_B' add32 sub32 mul32 add64 sub64 mul64 mul64_8 and32 or32 xor32 and64 or64 xor64 shl32_run shr32_run shl64_run shr64_run not32 not32' xor32_all w_u32_u8 w_u64_u8 w_i64_u8 w_u8_u32 w_u8_u64 w_u32_u64 w_u64_u32 w_u8_u8 w_u32_u32 w_u64_u64 w_u64_nat w_u32_nat w_u8_nat

theorem sizeBuilder : (Tryd.prog.info? 51).map (·.size) = some 2 := by kernel_rfl
theorem liesBuilder : liesAt Tryd.prog Tryd.prog.depth 51 (2 / Tryd.prog.cellsOf 51) 0 51 1 = true := by kernel_rfl
theorem cellsByte : Tryd.prog.cellsOf 5 = 1 := by kernel_rfl

/-- The builder at block b holds the bytes l; v: its buffer. -/
structure Bld (w : World) (base b : Nat) (v : Value) (l : List UInt8) : Prop where
  at_ : w.heap[b]? = some (.cells #[.pointer none, v] 51 (0, 0)) ∨ w.heap[b]? = some (.cells #[.pointer (some ⟨b, 0, none⟩), v] 51 (0, 0))
  own : obytes w base v l
  ne : v.ownBlock ≠ some b

theorem Bld.fresh (w : World) (base : Nat) : Bld (w.alloc (.cells #[.pointer none, .slice none 0 0] 51)) base w.heap.size (.slice none 0 0) [] :=
  ⟨.inl (heap_alloc_new w _), obytes_nil _ _, by simp [Value.ownBlock]⟩
theorem Bld.lt {w : World} {base b : Nat} {v : Value} {l : List UInt8} (h : Bld w base b v l) : b < w.heap.size := by
  rcases h.at_ with h | h <;> exact (Array.getElem?_eq_some_iff.1 h).1
theorem Bld.kept {w w' : World} {base b : Nat} {v : Value} {l : List UInt8} (h : Bld w base b v l) {S : List Nat} (hf : Fr S w w') (h1 : b ∉ S) (h2 : ∀ k, v.ownBlock = some k → k ∉ S) : Bld w' base b v l :=
  ⟨by rw [hf.block b h.lt h1]; exact h.at_, h.own.kept hf h2, h.ne⟩

set_option maxHeartbeats 1000000 in
set_option maxRecDepth 100000 in
theorem copyCheck_ok (b : Nat) (v : Value) (w : World)
    (h : w.heap[b]? = some (.cells #[.pointer none, v] 51 (0, 0)) ∨ w.heap[b]? = some (.cells #[.pointer (some ⟨b, 0, none⟩), v] 51 (0, 0))) :
    Calls Tryd.prog 47 #[.pointer (some ⟨b, 0, none⟩)] w fun e w' => e = .returned (.tuple #[]) ∧ Fr [b] w w' ∧ w'.heap.size = w.heap.size ∧ w'.heap[b]? = some (.cells #[.pointer (some ⟨b, 0, none⟩), v] 51 (0, 0)) := by
  obtain ⟨j, hj, hjs⟩ := Option.map_eq_some_iff.1 sizeBuilder
  rcases h with h | h
  · have h0 : w.cell? ⟨b, 0, none⟩ = some (.pointer none) := by rw [Lib.cell_of_heap h]; rfl
    have hfz : w.frozen? ⟨b, 0, none⟩ = false := Lib.frozen_of_heap h 0
    have hsh : w.shape? b = some (51, 2) := by simp [World.shape?, h]
    have H := Lib.hid h
    clear h
    go_enter Tryd.func47, Tryd.ntmps47
    go_wp2
    rw [Lib.run_to_unsafe w ⟨b, 0, none⟩ Tryd.underlying48 Tryd.underlying75 hj (by rw [hjs]; decide) hsh (Nat.zero_lt_succ 1)]
    simp only [Result.andThen]
    rw [Oper.upon_value]
    go_wp2
    rw [run_callFunc_extern Tryd.func63 (by kernel_rfl) (by kernel_rfl) (by kernel_rfl) (e := Extern.AbiNoEscape.same) (by kernel_rfl)]
    rw [Lib.run_noEscape]
    simp only [Result.andThen]
    rw [Oper.upon_value]
    go_wp2
    rw [Lib.run_from_unsafe w ⟨b, 0, none⟩ Tryd.underlying75 Tryd.underlying48 hj hsh liesBuilder]
    simp only [Result.andThen]
    rw [Oper.upon_value]
    go_wp2
    go_end0
    exact ⟨rfl, (Fr.refl [b] w).setCell (.inl (by simp)) _, by simp, heap_setCell H.out _⟩
  · have h0 : w.cell? ⟨b, 0, none⟩ = some (.pointer (some ⟨b, 0, none⟩)) := by rw [Lib.cell_of_heap h]; rfl
    have H := Lib.hid h
    clear h
    go_enter Tryd.func47, Tryd.ntmps47
    go_wp2
    rw [Lib.run_neq_ptr_same w _ Tryd.underlying48 hj]
    go_wp2
    go_end0
    exact ⟨rfl, Fr.refl _ _, rfl, H.out⟩

/-- what a writing method leaves -/
def Wrote (w : World) (base b : Nat) (v : Value) (l : List UInt8) (r : Value) (e : Ending) (w' : World) : Prop :=
  e = .returned r ∧ ∃ v', Bld w' base b v' l ∧ Fr (b :: v.ownBlock.toList) w w' ∧ (v'.ownBlock = v.ownBlock ∨ ∃ k, v'.ownBlock = some k ∧ w.heap.size ≤ k)

set_option maxHeartbeats 1000000 in
set_option maxRecDepth 100000 in
theorem writeByte_ok (base b : Nat) (v : Value) (l : List UInt8) (c : UInt8) (w : World) (h : Bld w base b v l) (hb : l.length + 1 ≤ 140737488355328) (hbase : base ≤ w.heap.size) :
    Calls Tryd.prog 57 #[.pointer (some ⟨b, 0, none⟩), .int .u8 (U8 c)] w (Wrote w base b v (l ++ [c]) .nilIface) := by
  go_enter Tryd.func57, Tryd.ntmps57
  go_wp2_with fail
  refine (copyCheck_ok b v _ h.at_).mono ?_
  rintro e w1 ⟨rfl, hf1, hs1, hb1⟩
  have hown1 : obytes w1 base v l := h.own.kept hf1 (fun k hk => by rw [List.mem_singleton]; rintro rfl; exact h.ne hk)
  have c1 : w1.cell? ⟨b, 1, none⟩ = some v := by rw [Lib.cell_of_heap hb1]; rfl
  have HB := Lib.hid hb1
  have HF := Lib.hid hf1
  have HS := Lib.hid hs1
  have HH := Lib.hid h
  clear hb1 hf1 hs1 h
  go_wp2_with (at_builtin; refine wpList_ap_bytes rfl _ _ _ rfl base v l rfl ?own _ [c] 1 rfl ?src hb ?base ?_)
  case own => exact hown1.alloc _
  case src => exact Src.new _ _ Tryd.underlying49 #[_] _ (bvs_one [c])
  case base => simp; have := HS.out; omega
  intro v' w2 h2 hg2 ho2
  have hlt : b < w1.heap.size := (Array.getElem?_eq_some_iff.1 HB.out).1
  have hb2 : w2.heap[b]? = some (.cells #[.pointer (some ⟨b, 0, none⟩), v] 51 (0, 0)) := by
    rw [hg2.block b (by simp; omega) (fun e => HH.out.ne e.symm), Lib.alloc_old w1 _ b hlt]
    exact HB.out
  have d1 : w2.cell? ⟨b, 1, none⟩ = some v := by rw [Lib.cell_of_heap hb2]; rfl
  have f1 : w2.frozen? ⟨b, 1, none⟩ = false := Lib.frozen_of_heap hb2 1
  have hF2 : Fr (b :: v.ownBlock.toList) w w2 := (HF.out.trans' (Fr.of_grown (row := v.ownBlock) (w := w1) (w' := w2) ⟨hg2.os, hg2.tape, hg2.output, by have := hg2.size; simp at this; omega, fun k hk hn => (hg2.block k (by simp; omega) hn).trans (Lib.alloc_old w1 _ k hk)⟩)
    (fun x hx => .inl (by simp at hx; simp [hx])) (fun x hx => .inl (List.mem_cons_of_mem _ hx)))
  have hO : v'.ownBlock = v.ownBlock ∨ ∃ k, v'.ownBlock = some k ∧ w.heap.size ≤ k := ho2.imp id fun h => ⟨_, h, by have := HS.out; simp; omega⟩
  have hne : v'.ownBlock ≠ some b := by
    rcases ho2 with h | h
    · rw [h]; exact HH.out.ne
    · rw [h]; simp; omega
  have H2 := Lib.hid h2
  have HB2 := Lib.hid hb2
  have HO := Lib.hid hO
  have HN := Lib.hid hne
  have HF2 := Lib.hid hF2
  obtain ⟨g, n', cap, rfl⟩ : ∃ g n' cap, v' = .slice g n' cap := by
    rcases h2.2 with ⟨hv, _⟩ | ⟨g, cap, cur, hv, _⟩
    · exact ⟨_, _, _, hv⟩
    · exact ⟨_, _, _, hv⟩
  clear h2 hb2 hO hne hF2 hg2 ho2 hown1 c1 hlt
  go_wp2
  go_ret
  refine ⟨rfl, _, ⟨.inr (heap_setCell HB2.out _), ?_, HN.out⟩, HF2.out.setCell (.inl (by simp)) _, HO.out⟩
  exact H2.out.kept (S := [b]) ((Fr.refl [b] w2).setCell (.inl (by simp)) _) (fun k hk => by rw [List.mem_singleton]; rintro rfl; exact HN.out hk)

set_option maxHeartbeats 1000000 in
set_option maxRecDepth 100000 in
theorem writeString_ok (base b : Nat) (v : Value) (l : List UInt8) (m : List UInt8) (w : World) (h : Bld w base b v l) (hb : l.length + m.length ≤ 140737488355328) (hbase : base ≤ w.heap.size) :
    Calls Tryd.prog 33 #[.pointer (some ⟨b, 0, none⟩), .string (B m)] w (Wrote w base b v (l ++ m) (.tuple #[.int .i64 m.length, .nilIface])) := by
  have hm63 : (m.length : Int) ≤ 140737488355328 := by omega
  go_enter Tryd.func33, Tryd.ntmps33
  go_wp2_with fail
  refine (copyCheck_ok b v _ h.at_).mono ?_
  rintro e w1 ⟨rfl, hf1, hs1, hb1⟩
  have hown1 : obytes w1 base v l := h.own.kept hf1 (fun k hk => by rw [List.mem_singleton]; rintro rfl; exact h.ne hk)
  have hsrc1 : Src Tryd.prog 1 9 (.string (B m)) m.length (bvs m) w1 := Src.text w1 Tryd.underlying9 m
  have c1 : w1.cell? ⟨b, 1, none⟩ = some v := by rw [Lib.cell_of_heap hb1]; rfl
  have HB := Lib.hid hb1
  have HF := Lib.hid hf1
  have HS := Lib.hid hs1
  have HH := Lib.hid h
  clear hb1 hf1 hs1 h
  go_wp2_with (at_builtin; refine wpList_ap_bytes rfl _ _ _ rfl base v l rfl ?own _ m m.length rfl ?src hb ?base ?_)
  case own => exact hown1
  case src => exact hsrc1
  case base => have := HS.out; omega
  intro v' w2 h2 hg2 ho2
  have hlt : b < w1.heap.size := (Array.getElem?_eq_some_iff.1 HB.out).1
  have hb2 : w2.heap[b]? = some (.cells #[.pointer (some ⟨b, 0, none⟩), v] 51 (0, 0)) := by
    rw [hg2.block b hlt (fun e => HH.out.ne e.symm)]
    exact HB.out
  have d1 : w2.cell? ⟨b, 1, none⟩ = some v := by rw [Lib.cell_of_heap hb2]; rfl
  have f1 : w2.frozen? ⟨b, 1, none⟩ = false := Lib.frozen_of_heap hb2 1
  have hF2 : Fr (b :: v.ownBlock.toList) w w2 := (HF.out.trans' (Fr.of_grown hg2) (fun x hx => .inl (by simp at hx; simp [hx])) (fun x hx => .inl (List.mem_cons_of_mem _ hx)))
  have hO : v'.ownBlock = v.ownBlock ∨ ∃ k, v'.ownBlock = some k ∧ w.heap.size ≤ k := ho2.imp id fun h => ⟨_, h, by have := HS.out; omega⟩
  have hne : v'.ownBlock ≠ some b := by
    rcases ho2 with h | h
    · rw [h]; exact HH.out.ne
    · rw [h]; simp; omega
  have H2 := Lib.hid h2
  have HB2 := Lib.hid hb2
  have HO := Lib.hid hO
  have HN := Lib.hid hne
  have HF2 := Lib.hid hF2
  obtain ⟨g, n', cap, rfl⟩ : ∃ g n' cap, v' = .slice g n' cap := by
    rcases h2.2 with ⟨hv, _⟩ | ⟨g, cap, cur, hv, _⟩
    · exact ⟨_, _, _, hv⟩
    · exact ⟨_, _, _, hv⟩
  clear h2 hb2 hO hne hF2 hg2 ho2 hown1 c1 hlt hsrc1
  go_wp2
  go_ret2
  refine ⟨rfl, _, ⟨.inr (heap_setCell HB2.out _), ?_, HN.out⟩, HF2.out.setCell (.inl (by simp)) _, HO.out⟩
  exact H2.out.kept (S := [b]) ((Fr.refl [b] w2).setCell (.inl (by simp)) _) (fun k hk => by rw [List.mem_singleton]; rintro rfl; exact HN.out hk)

set_option maxHeartbeats 1000000 in
set_option maxRecDepth 100000 in
theorem write_ok (base b : Nat) (v : Value) (l : List UInt8) (m : List UInt8) (pa : Option Addr) (pc pb : Nat) (w : World) (h : Bld w base b v l) (hb : l.length + m.length ≤ 140737488355328) (hbase : base ≤ w.heap.size) (hp : obytes w pb (.slice pa m.length pc) m) (hpne : (Value.slice pa m.length pc).ownBlock ≠ some b) :
    Calls Tryd.prog 58 #[.pointer (some ⟨b, 0, none⟩), .slice pa m.length pc] w (Wrote w base b v (l ++ m) (.tuple #[.int .i64 m.length, .nilIface])) := by
  have hm63 : (m.length : Int) ≤ 140737488355328 := by omega
  go_enter Tryd.func58, Tryd.ntmps58
  go_wp2_with fail
  refine (copyCheck_ok b v _ h.at_).mono ?_
  rintro e w1 ⟨rfl, hf1, hs1, hb1⟩
  have hown1 : obytes w1 base v l := h.own.kept hf1 (fun k hk => by rw [List.mem_singleton]; rintro rfl; exact h.ne hk)
  have hsrc1 : Src Tryd.prog 1 49 (.slice pa m.length pc) m.length (bvs m) w1 := (hp.kept hf1 (fun k hk => by rw [List.mem_singleton]; rintro rfl; exact hpne hk)).src
  have c1 : w1.cell? ⟨b, 1, none⟩ = some v := by rw [Lib.cell_of_heap hb1]; rfl
  have HB := Lib.hid hb1
  have HF := Lib.hid hf1
  have HS := Lib.hid hs1
  have HH := Lib.hid h
  clear hb1 hf1 hs1 h hp hpne
  go_wp2_with (at_builtin; refine wpList_ap_bytes rfl _ _ _ rfl base v l rfl ?own _ m m.length rfl ?src hb ?base ?_)
  case own => exact hown1
  case src => exact hsrc1
  case base => have := HS.out; omega
  intro v' w2 h2 hg2 ho2
  have hlt : b < w1.heap.size := (Array.getElem?_eq_some_iff.1 HB.out).1
  have hb2 : w2.heap[b]? = some (.cells #[.pointer (some ⟨b, 0, none⟩), v] 51 (0, 0)) := by
    rw [hg2.block b hlt (fun e => HH.out.ne e.symm)]
    exact HB.out
  have d1 : w2.cell? ⟨b, 1, none⟩ = some v := by rw [Lib.cell_of_heap hb2]; rfl
  have f1 : w2.frozen? ⟨b, 1, none⟩ = false := Lib.frozen_of_heap hb2 1
  have hF2 : Fr (b :: v.ownBlock.toList) w w2 := (HF.out.trans' (Fr.of_grown hg2) (fun x hx => .inl (by simp at hx; simp [hx])) (fun x hx => .inl (List.mem_cons_of_mem _ hx)))
  have hO : v'.ownBlock = v.ownBlock ∨ ∃ k, v'.ownBlock = some k ∧ w.heap.size ≤ k := ho2.imp id fun h => ⟨_, h, by have := HS.out; omega⟩
  have hne : v'.ownBlock ≠ some b := by
    rcases ho2 with h | h
    · rw [h]; exact HH.out.ne
    · rw [h]; simp; omega
  have H2 := Lib.hid h2
  have HB2 := Lib.hid hb2
  have HO := Lib.hid hO
  have HN := Lib.hid hne
  have HF2 := Lib.hid hF2
  obtain ⟨g, n', cap, rfl⟩ : ∃ g n' cap, v' = .slice g n' cap := by
    rcases h2.2 with ⟨hv, _⟩ | ⟨g, cap, cur, hv, _⟩
    · exact ⟨_, _, _, hv⟩
    · exact ⟨_, _, _, hv⟩
  clear h2 hb2 hO hne hF2 hg2 ho2 hown1 c1 hlt hsrc1
  go_wp2
  go_ret2
  refine ⟨rfl, _, ⟨.inr (heap_setCell HB2.out _), ?_, HN.out⟩, HF2.out.setCell (.inl (by simp)) _, HO.out⟩
  exact H2.out.kept (S := [b]) ((Fr.refl [b] w2).setCell (.inl (by simp)) _) (fun k hk => by rw [List.mem_singleton]; rintro rfl; exact HN.out hk)

/-- the text of a builder that holds something; behind it the builder is not written any more -/
theorem builderString_ok (base b : Nat) (v : Value) (l : List UInt8) (w : World) (h : Bld w base b v l) (h0 : l ≠ []) :
    Calls Tryd.prog 34 #[.pointer (some ⟨b, 0, none⟩)] w fun e w' => e = .returned (.string (B l)) ∧ Fr v.ownBlock.toList w w' := by
  obtain ⟨p, hbk⟩ : ∃ p, w.heap[b]? = some (.cells #[p, v] 51 (0, 0)) := by rcases h.at_ with h | h <;> exact ⟨_, h⟩
  have hown := h.own
  have hl0 : l.length ≠ 0 := by simpa using h0
  obtain ⟨g, cap, cur, rfl, hbg, hg, hnc, hcm, hcs, htake⟩ : ∃ g cap cur, v = .slice (some ⟨g, 0, none⟩) l.length cap ∧ base ≤ g ∧ w.heap[g]? = some (.cells cur 5 (0, 0)) ∧ l.length ≤ cap ∧ cap ≤ maxLen ∧ cur.size = cap * 1 ∧ cur.toList.take (l.length * 1) = bvs l := by
    rcases hown.2 with ⟨_, hz⟩ | ⟨g, cap, cur, hv, r⟩
    · exact absurd hz hl0
    · exact ⟨g, cap, cur, hv, r⟩
  have c1 : w.drew.cell? ⟨b, 1, none⟩ = some (.slice (some ⟨g, 0, none⟩) l.length cap) := by
    have : w.drew.heap[b]? = some (.cells #[p, .slice (some ⟨g, 0, none⟩) l.length cap] 51 (0, 0)) := hbk
    rw [Lib.cell_of_heap this]; rfl
  have hSD : (Builtin.unsafeSliceData_ #[49] 60 #[.slice (some ⟨g, 0, none⟩) l.length cap]).run Tryd.prog w.drew = .ok (.pointer (some ⟨g, 0, none⟩)) w.drew :=
    Lib.run_unsafeSliceData_row _ _ _ _ _ _ (by omega)
  have hUS : (Builtin.unsafeString_ #[60, 3] 9 #[.pointer (some ⟨g, 0, none⟩), .int .i64 l.length]).run Tryd.prog w.drew = .ok (.string (B l)) (w.drew.freeze ⟨g, 0, none⟩ l.length) := by
    refine Lib.run_unsafeString_row w.drew 60 3 9 5 Tryd.underlying60 cellsByte g cur.size (by have hg' : w.drew.heap[g]? = some (.cells cur 5 (0, 0)) := hg; simp [World.shape?, hg']) l h0 (by omega) (by unfold maxLen at hcm; omega) ?_
    intro j x hx
    exact World.ownsRow.cells hown (g := g) rfl j (.int .u8 x.toNat) (by simp [bvs, hx]; rfl)
  have hfr : Fr [g] w (w.drew.freeze ⟨g, 0, none⟩ l.length) := by
    refine ⟨?_, ?_, ?_, ?_, ?_⟩
    · simp only [World.freeze, if_neg hl0]; rfl
    · simp only [World.freeze, if_neg hl0]; rfl
    · simp only [World.freeze, if_neg hl0]; rfl
    · simp [World.freeze, hl0]
    · intro k _ hk
      simp [World.freeze, hl0, Array.getElem?_modify]
      rw [if_neg (by simp at hk; omega)]
      rfl
  have HFR := Lib.hid hfr
  clear hfr hbk hown hg hcs htake
  go_enter Tryd.func34, Tryd.ntmps34
  go_wp2
  go_region
  all_goals (go_wp2; go_ret; exact ⟨rfl, HFR.out⟩)
end Go.Proofs.YtmmoadhjlgbmhaaDoor.V
end
section
/- The walks of Pad, Sum, Input and Tag. -/
namespace Go.Proofs.YtmmoadhjlgbmhaaDoor.V
open Go Go.RowKit
attribute [local go_sem] B_size B_append B_extract mk_B B_toList take_drop_len List.length_drop List.length_take sgn32 sgn64 add32 sub32 mul32 add64 sub64 mul64 mul64_8 and32 or32 xor32 and64 or64 xor64 shl32_run shr32_run shl64_run shr64_run not32 not32' xor32_all w_u32_u8 w_u64_u8 w_i64_u8 w_u8_u32 w_u8_u64 w_u32_u64 w_u64_u32 w_u8_u8 w_u32_u32 w_u64_u64
attribute [local go_sem ↓] run_index_B' add32 sub32 mul32 add64 sub64 mul64 mul64_8 and32 or32 xor32 and64 or64 xor64 shl32_run shr32_run shl64_run shr64_run not32 not32' xor32_all w_u32_u8 w_u64_u8 w_i64_u8 w_u8_u32 w_u8_u64 w_u32_u64 w_u64_u32 w_u8_u8 w_u32_u32 w_u64_u64 w_u64_nat w_u32_nat w_u8_nat

set_option maxHeartbeats 1000000 in
set_option maxRecDepth 100000 in
theorem pad_ok (n : Nat) (w : World) (hn : (n : Int) ≤ 9223372036854775807) :
    Calls Tryd.prog 54 #[.int .i64 n] w fun e w' => e = .returned (.string (B (pad n))) ∧ Fr [] w w' := by
  have hno : noughts n < 64 := Nat.mod_lt _ (by decide)
  have hno' : ((119 : Int) - (n : Int)) % 64 = ((noughts n : Nat) : Int) := by unfold noughts; omega
  have hno2 : ((119 : Int) - (n : Int) % 64) % 64 = ((noughts n : Nat) : Int) := by unfold noughts; omega
  have h0 : (0 : Int) ≤ (n : Int) := by omega
  have HN1 := Lib.hid hno'
  have HN2 := Lib.hid hno2
  clear hno' hno2
  have hown : obytes (w.alloc (.cells #[.int .u8 128] 5)) w.heap.size (.slice (some ⟨w.heap.size, 0, none⟩) 1 1) [128] :=
    World.ownsRow_lit w #[.int .u8 128] 1 (Nat.le_refl _) (by decide) rfl
  have HO := Lib.hid hown
  clear hown
  go_enter Tryd.func54, Tryd.ntmps54
  go_wp2_with (at_builtin; refine wpList_ap_zeros rfl _ _ rfl w.heap.size _ [128] rfl HO.out (noughts n) ?hx ?hb ?hbase ?_)
  case hx => first | exact congrArg (Value.int .i64) HN1.out | exact congrArg (Value.int .i64) HN2.out
  case hb => simp; omega
  case hbase => simp
  intro v1 w1 h1 hg1 ho1
  have hf1 : Fr [] w w1 := ((Fr.refl [] w).alloc _).grown hg1 (fun k hk => .inr (by simp [Value.ownBlock] at hk; omega))
  have H1 := Lib.hid h1
  have HF1 := Lib.hid hf1
  clear h1 hg1 ho1 hf1
  go_wp2_with fail
  refine (lay_ok _ w.heap.size _ _ _ H1.out ?hb2 ?hbase2).mono ?_
  case hb2 => simp; omega
  case hbase2 => exact HF1.out.size
  rintro e w2 ⟨v2, rfl, h2, hf2, _⟩
  have H2 := Lib.hid h2
  have HF2 : Hid (Fr [] w w2) := HF1.out.trans' hf2 (fun _ h => by cases h) (fun x hx => .inr (H1.out.lt x (by simpa using hx)).1)
  clear h2 hf2
  go_wp2_with fail
  refine (lay_ok _ w.heap.size _ _ _ H2.out ?hb3 ?hbase3).mono ?_
  case hb3 => simp [be4]; omega
  case hbase3 => exact HF2.out.size
  rintro e w3 ⟨v3, rfl, h3, hf3, _⟩
  have hcv := h3.text
  have HF3 : Hid (Fr [] w w3) := HF2.out.trans' hf3 (fun _ h => by cases h) (fun x hx => .inr (H2.out.lt x (by simpa using hx)).1)
  clear h3 hf3
  go_wp2
  go_ret
  exact ⟨rfl, HF3.out⟩

set_option maxHeartbeats 400000 in
theorem pad_neg (n : Int) (w : World) (hn : n < 0) :
    Calls Tryd.prog 54 #[.int .i64 n] w fun e w' => e = .returned (.string (B [])) ∧ w = w' := by
  go_enter Tryd.func54, Tryd.ntmps54
  go_wp2
  go_ret
  exact ⟨rfl, rfl⟩

set_option maxHeartbeats 1000000 in
set_option maxRecDepth 100000 in
theorem sum_ok (l : List UInt8) (w : World) (hT : Tabs w) (hl : (l.length : Int) ≤ 9223372036854775000) :
    Calls Tryd.prog 40 #[.string (B l)] w fun e w' => e = .returned (.string (B (sum l))) ∧ Fr [] w w' := by
  obtain ⟨T, hf⟩ := hT.first
  obtain ⟨c0, c1, c2, c3, c4, c5, c6, c7, fz⟩ := cells8 hf
  have HT := Lib.hid hT
  clear hf hT
  go_enter Tryd.func40, Tryd.ntmps40
  go_wp2_with fail
  refine (pad_ok l.length _ (by omega)).mono ?_
  rintro e w1 ⟨rfl, hf1⟩
  have hpl := pad_len l.length
  have hsum : ¬ (9223372036854775807 < l.length + (pad l.length).length) := by omega
  have HP := Lib.hid hpl
  have hF : Fr [] w w1 := ((Fr.refl [] w).alloc _).trans hf1
  have hg1 : w1.heap[w.heap.size]? = some (.cells first.cells 69 (0, 0)) := by
    rw [hf1.block w.heap.size (by simp) (by simp)]
    exact heap_alloc_new w _
  have HF := Lib.hid hF
  have HG := Lib.hid hg1
  clear hf1 hF hg1 hpl c0 c1 c2 c3 c4 c5 c6 c7 fz
  go_wp2_with fail
  go_loopg [0] ((l ++ pad l.length).length / 64) (fun k x wr => ∃ m v, m.length = 64 * k ∧ x = .string (B m) ∧ Hid (eat k v m = sumSt l) ∧ Hid (wr.heap[w.heap.size]? = some (.cells v.cells 69 (0, 0))) ∧ Hid (Fr [] w wr))
  case atStart =>
    refine ⟨l ++ pad l.length, first, ?_, rfl, (show _ = _ from rfl), (show _ from HG.out), (show _ from HF.out)⟩
    have := HP.out
    rw [List.length_append]
    omega
  case round =>
    obtain ⟨m, v, hm, rfl, H1, H2, H3⟩ := hrel
    by_cases hk : gk = 0
    · subst hk
      obtain rfl : m = [] := List.eq_nil_of_length_eq_zero (by omega)
      clear hm
      obtain ⟨c0, c1, c2, c3, c4, c5, c6, c7, fz⟩ := cells8 H2.out
      go_wp2_with fail
      refine (stateString_ok v _).mono ?_
      rintro e w2 ⟨rfl, hf2⟩
      have HF2 := Lib.hid hf2
      clear hf2
      go_wp2
      go_ret
      refine ⟨?_, H3.out.trans HF2.out⟩
      have := H1.out
      simp only [eat] at this
      rw [sum, ← this]
      rfl
    · have hne : (m == []) = false := by
        cases m with
        | nil => simp at hm; omega
        | cons => rfl
      have hml : (64 : Int) ≤ (m.length : Int) := by omega
      have HM := Lib.hid hm
      clear hm
      go_wp2_with fail
      refine (mix_ok w.heap.size v (m.take 64) 69 _ H2.out ?hT ?hl).mono ?_
      case hT => exact HT.out.fr H3.out (by simp) (by simp)
      case hl => rw [List.length_take]; omega
      rintro e w2 ⟨rfl, hf2, hg2⟩
      have HF2 := Lib.hid hf2
      have HG2 := Lib.hid hg2
      clear hf2 hg2
      go_wp2
      go_roundg (gk - 1)
      case rel =>
        have hm := HM.out
        refine ⟨m.drop 64, mixed v (m.take 64), by rw [List.length_drop]; omega, rfl, (show _ = _ from ?_), (show _ from HG2.out), (show Fr [] w w2 from H3.out.trans' HF2.out (fun _ h => by cases h) (fun x hx => .inr (by simp at hx; subst hx; exact Nat.le_refl _)))⟩
        have := H1.out
        obtain ⟨j, rfl⟩ : ∃ j, gk = j + 1 := ⟨gk - 1, by omega⟩
        exact this
      case measure => omega

end Go.Proofs.YtmmoadhjlgbmhaaDoor.V
end
section
/- Lists of texts in memory: read where they lie; a list that the play itself made, and append onto it. -/
namespace Go.Proofs.YtmmoadhjlgbmhaaDoor.V
open Go Go.RowKit

theorem strinfo : (Tryd.prog.info? 9).map (fun i => (i.zero, i.size, i.bytes)) = some (some (.string .empty), 1, 16) := by kernel_rfl
theorem strcells : Tryd.prog.cellsOf 9 = 1 := by kernel_rfl
def sv (p : List UInt8) : Value := .string (B p)
def svs (ps : List (List UInt8)) : List Value := ps.map sv
theorem svs_length (l : List (List UInt8)) : (svs l).length = l.length := by simp [svs]
theorem svs_append (a b : List (List UInt8)) : svs (a ++ b) = svs a ++ svs b := by simp [svs]
theorem svs_one (l : List (List UInt8)) : ∀ u ∈ svs l, u.oneCell' = true := by
  intro u hu
  obtain ⟨p, _, rfl⟩ := List.mem_map.1 hu
  rfl
def sget (ps : List (List UInt8)) (i : Nat) : List UInt8 := ps[i]?.getD []

/-- a list of texts as it lies in memory -/
def Strs (w : World) (v : Value) (ps : List (List UInt8)) : Prop :=
  ∃ a cap, v = .slice a ps.length cap ∧ ps.length ≤ cap ∧ cap ≤ maxLen ∧ ∀ i, i < ps.length → ∃ b off, a = some ⟨b, off, none⟩ ∧ b < w.heap.size ∧ w.cell? ⟨b, off + i, none⟩ = some (sv (sget ps i))
theorem Strs.nil (w : World) : Strs w (.slice none 0 0) [] := ⟨none, 0, rfl, Nat.le_refl _, Nat.zero_le _, fun i hi => by cases hi⟩
theorem Strs.kept {w w' : World} {v : Value} {ps : List (List UInt8)} (h : Strs w v ps) (hf : Fr [] w w') : Strs w' v ps := by
  obtain ⟨a, cap, hv, h1, h2, hc⟩ := h
  refine ⟨a, cap, hv, h1, h2, fun i hi => ?_⟩
  obtain ⟨b, off, ha, hb, hx⟩ := hc i hi
  exact ⟨b, off, ha, Nat.lt_of_lt_of_le hb hf.size, by rw [hf.cell hb (by simp)]; exact hx⟩

/-- a list of texts that the play itself made -/
def ostrs (w : World) (base : Nat) (v : Value) (l : List (List UInt8)) : Prop := w.ownsRow base 9 1 v l.length (svs l)
theorem ostrs_nil (w : World) (base : Nat) : ostrs w base (.slice none 0 0) [] := World.ownsRow_nil w base _ 1
theorem ostrs.kept {w w' : World} {base : Nat} {v : Value} {l : List (List UInt8)} (h : ostrs w base v l) {S : List Nat} (hf : Fr S w w') (hS : ∀ k, v.ownBlock = some k → k ∉ S) : ostrs w' base v l := hf.own h hS
theorem ostrs.lt {w : World} {base : Nat} {v : Value} {l : List (List UInt8)} (h : ostrs w base v l) : ∀ k, v.ownBlock = some k → base ≤ k ∧ k < w.heap.size := World.ownsRow.lt h
theorem ostrs.strs {w : World} {base : Nat} {v : Value} {l : List (List UInt8)} (h : ostrs w base v l) : Strs w v l := by
  have hlt := h.lt
  rcases h.2 with ⟨rfl, h0⟩ | ⟨g, cap, cur, rfl, hbg, hg, hnc, hcm, hcs, htake⟩
  · obtain rfl : l = [] := List.eq_nil_of_length_eq_zero h0
    exact Strs.nil w
  · refine ⟨_, cap, rfl, hnc, hcm, fun i hi => ⟨g, 0, rfl, (hlt g rfl).2, ?_⟩⟩
    have := World.ownsRow.cells h (g := g) rfl i (sv (sget l i)) (by simp [svs, sget, hi])
    have hadd : (⟨g, 0, none⟩ : Addr).add i = ⟨g, 0 + i, none⟩ := by unfold Addr.add; split <;> simp_all
    rw [hadd] at this
    exact this
theorem Strs.src {w : World} {v : Value} {l : List (List UInt8)} (h : Strs w v l) : Src Tryd.prog 1 37 v l.length (svs l) w := by
  obtain ⟨a, cap, rfl, h1, h2, hc⟩ := h
  by_cases h0 : l.length = 0
  · obtain rfl : l = [] := List.eq_nil_of_length_eq_zero h0
    cases a with
    | none => exact Src.ofNil w Tryd.underlying37 cap
    | some a => exact Src.ofSlice w Tryd.underlying37 a 0 cap [] (by simp) (fun j u hu => by simp at hu) (by simp)
  · obtain ⟨b, off, rfl, hb, _⟩ := hc 0 (by omega)
    refine Src.ofSlice w Tryd.underlying37 ⟨b, off, none⟩ l.length cap (svs l) (by simp [svs_length]) (fun j u hu => ?_) (svs_one l)
    have hj : j < l.length := by
      have := (List.getElem?_eq_some_iff.1 hu).1
      simpa [svs] using this
    obtain ⟨b', off', he, _, hx⟩ := hc j hj
    cases he
    have hadd : (⟨b, off, none⟩ : Addr).add j = ⟨b, off + j, none⟩ := by unfold Addr.add; split <;> simp_all
    rw [hadd, hx]
    simp [svs, hj] at hu
    simp [sget, hj, hu]

theorem Src.new' (w : World) (tx e' : TypeId) (hk : Tryd.prog.underlying tx = some (.slice e')) (cs : Array Value) (e : TypeId) (h1 : ∀ u ∈ cs.toList, u.oneCell' = true) :
    Src Tryd.prog 1 tx (.slice (some ⟨w.heap.size, 0, none⟩) cs.size cs.size) cs.size cs.toList (w.alloc (.cells cs e)).drew := by
  refine Src.ofSlice _ hk ⟨w.heap.size, 0, none⟩ cs.size cs.size cs.toList (by simp) ?_ h1
  intro j u hu
  have hadd : (⟨w.heap.size, 0, none⟩ : Addr).add j = ⟨w.heap.size, j, none⟩ := by unfold Addr.add; split <;> simp_all
  rw [hadd]
  show (w.alloc (.cells cs e)).cell? _ = _
  rw [World.cell?_alloc_at _ _ _ _ rfl]
  simpa using hu
theorem wpList_ap_strs {ops : Array Oper} {rest : List Oper} {o : Oper} {a : Act} {Q : Exit → Act → World → Prop} {w : World} (hgd : o.guard = none) (s x : Operand) (tx : TypeId)
    (ho : o.op = .call { callee := .builtin .append, args := #[s, x], argTypes := #[37, tx] })
    (base : Nat) (v : Value) (l : List (List UInt8)) (hv : a.eval s = v) (hown : ostrs w base v l) (xv : Value) (m : List (List UInt8)) (n : Nat) (hx : a.eval x = xv) (hs : Src Tryd.prog 1 tx xv n (svs m) w)
    (hb : l.length + m.length ≤ 8796093022208) (hbase : base ≤ w.heap.size)
    (h : ∀ v' w', ostrs w' base v' (l ++ m) → w.grownBy w' v.ownBlock → (v'.ownBlock = v.ownBlock ∨ v'.ownBlock = some w.heap.size) → wpList Tryd.prog ops Q rest (a.put o.dst v') w') : wpList Tryd.prog ops Q (o :: rest) a w := by
  obtain ⟨i, hi, hz, hs1, hb1⟩ := info_parts strinfo
  have hn : n = m.length := by have := hs.newsLen; rw [svs_length] at this; omega
  subst hn
  refine wpList_plain hgd fun K hK => wp_append_any w s x 37 tx ho base 9 i (.string .empty) 1 16 Tryd.underlying37 hi hz hs1 hb1 rfl (by decide) v l.length (svs l) hv hown xv m.length (svs m) hx hs
    (by unfold maxLen; omega) (by omega) hbase ?_
  intro v' w' h1 h2 h3
  refine hK _ _ (h v' w' ?_ h2 h3)
  unfold ostrs
  rw [List.length_append, svs_append]
  exact h1
/-- the same at a step of a region that draws its order -/
theorem step_ap_strs {ops : Array Oper} {o : Oper} {a : Act} {K : Act → World → Prop} {Q : Exit → Act → World → Prop} {w : World} {E : Prop} (hgd : o.guard = none) (s x : Operand) (tx : TypeId)
    (ho : o.op = .call { callee := .builtin .append, args := #[s, x], argTypes := #[37, tx] })
    (base : Nat) (v : Value) (l : List (List UInt8)) (hv : a.eval s = v) (hown : ostrs w base v l) (xv : Value) (m : List (List UInt8)) (n : Nat) (hx : a.eval x = xv) (hs : Src Tryd.prog 1 tx xv n (svs m) w)
    (hb : l.length + m.length ≤ 8796093022208) (hbase : base ≤ w.heap.size)
    (h : ∀ v' w', ostrs w' base v' (l ++ m) → w.grownBy w' v.ownBlock → (v'.ownBlock = v.ownBlock ∨ v'.ownBlock = some w.heap.size) → K (a.put o.dst v') w') :
    if Region.wanted o (yielded ops a.tmps) = true then Oper.wp Tryd.prog o a w K Q else E := by
  have hw : Region.wanted o (yielded ops a.tmps) = true := by simp [Region.wanted, hgd]
  rw [if_pos hw]
  obtain ⟨i, hi, hz, hs1, hb1⟩ := info_parts strinfo
  have hn : n = m.length := by have := hs.newsLen; rw [svs_length] at this; omega
  subst hn
  refine wp_append_any w s x 37 tx ho base 9 i (.string .empty) 1 16 Tryd.underlying37 hi hz hs1 hb1 rfl (by decide) v l.length (svs l) hv hown xv m.length (svs m) hx hs
    (by unfold maxLen; omega) (by omega) hbase ?_
  intro v' w' h1 h2 h3
  refine h v' w' ?_ h2 h3
  unfold ostrs
  rw [List.length_append, svs_append]
  exact h1
end Go.Proofs.YtmmoadhjlgbmhaaDoor.V
end
