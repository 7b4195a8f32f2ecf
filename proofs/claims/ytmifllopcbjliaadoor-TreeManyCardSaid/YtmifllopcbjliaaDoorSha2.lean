/- The walk of mix: the schedule of a block, and its rounds. -/
import Derived.Test.YtmifllopcbjliaaDoorSha1
namespace Go.Proofs.YtmifllopcbjliaaDoor.V
open Go Go.RowKit
attribute [local go_sem] B_size B_append B_extract mk_B B_toList take_drop_len List.length_drop List.length_take sgn32 sgn64 add32 sub32 mul32 add64 sub64 mul64 mul64_8 and32 or32 xor32 and64 or64 xor64 shl32_run shr32_run shl64_run shr64_run not32 not32' xor32_all w_u32_u8 w_u64_u8 w_i64_u8 w_u8_u32 w_u8_u64 w_u32_u64 w_u64_u32 w_u8_u8 w_u32_u32 w_u64_u64
attribute [local go_sem ↓] run_index_B' add32 sub32 mul32 add64 sub64 mul64 mul64_8 and32 or32 xor32 and64 or64 xor64 shl32_run shr32_run shl64_run shr64_run not32 not32' xor32_all w_u32_u8 w_u64_u8 w_i64_u8 w_u8_u32 w_u8_u64 w_u32_u64 w_u64_u32 w_u8_u8 w_u32_u32 w_u64_u64 w_u64_nat w_u32_nat w_u8_nat

def wv (x : UInt32) : Value := .int .u32 (U32 x)
/-- an array of 64 words of which the first ones are there -/
def arr64 (l : List UInt32) : Array Value := (l.map wv ++ List.replicate (64 - l.length) (wv 0)).toArray
theorem arr64_size (l : List UInt32) (h : l.length ≤ 64) : (arr64 l).size = 64 := by simp [arr64]; omega
theorem arr64_get (l : List UInt32) (i : Nat) (h : i < l.length) : (arr64 l)[i]? = some (wv (lget l i)) := by
  simp [arr64, lget, List.getElem?_append_left, h]
theorem arr64_set (l : List UInt32) (x : UInt32) (h : l.length < 64) : (arr64 l).setIfInBounds l.length (wv x) = arr64 (l ++ [x]) := by
  unfold arr64
  apply Array.ext'
  obtain ⟨d, hd⟩ := Nat.exists_eq_add_of_lt h
  rw [show 64 - l.length = d + 1 by omega, List.replicate_succ]
  simp [List.set_append_right, show 64 - (l.length + 1) = d by omega]

theorem cell_at {w : World} {g i : Nat} {cur : Array Value} {t : TypeId} {fr : Nat × Nat} {v : Value} (hg : w.heap[g]? = some (.cells cur t fr)) (hv : cur[i]? = some v) : w.cell? ⟨g, i, none⟩ = some v := by
  rw [cell_of_row w g i cur t fr hg, hv]

/-- the table of constants, and the first state, as the program's variables hold them -/
structure Tabs (w : World) : Prop where
  size : 1 < w.heap.size ∧ 0 < w.heap.size
  k : ∀ i, i < 64 → w.cell? ⟨1, i, none⟩ = some (wv (lget kTab i))
  first : ∃ T, w.heap[0]? = some (.cells first.cells T (0, 0))
theorem Tabs.fr {S : List Nat} {w w' : World} (h : Tabs w) (hf : Fr S w w') (h1 : 1 ∉ S) (h2 : 0 ∉ S) : Tabs w' :=
  ⟨⟨Nat.lt_of_lt_of_le h.size.1 hf.size, Nat.lt_of_lt_of_le h.size.2 hf.size⟩, fun i hi => by rw [hf.cell h.size.1 h1]; exact h.k i hi, by rw [hf.block _ h.size.2 h2]; exact h.first⟩

/-- the state behind the first of the eight sums -/
def partAdd (s x : St) (n : Nat) : List UInt32 := (List.range 8).map fun j => if j < n then lget s.words j + lget x.words j else lget s.words j
theorem partAdd_set (s x : St) (n : Nat) (h : n < 8) : ((partAdd s x n).map wv).toArray.setIfInBounds n (wv (lget s.words n + lget x.words n)) = ((partAdd s x (n + 1)).map wv).toArray := by
  have : n = 0 ∨ n = 1 ∨ n = 2 ∨ n = 3 ∨ n = 4 ∨ n = 5 ∨ n = 6 ∨ n = 7 := by omega
  rcases this with rfl | rfl | rfl | rfl | rfl | rfl | rfl | rfl <;> rfl
theorem partAdd_0 (s x : St) : ((partAdd s x 0).map wv).toArray = s.cells := rfl
theorem partAdd_8 (s x : St) : ((partAdd s x 8).map wv).toArray = (s.add x).cells := rfl
theorem partAdd_get (s x : St) (n : Nat) (h : n < 8) : ((partAdd s x n).map wv).toArray[n]? = some (wv (lget s.words n)) := by
  have : n = 0 ∨ n = 1 ∨ n = 2 ∨ n = 3 ∨ n = 4 ∨ n = 5 ∨ n = 6 ∨ n = 7 := by omega
  rcases this with rfl | rfl | rfl | rfl | rfl | rfl | rfl | rfl <;> rfl
theorem cells_get (x : St) (n : Nat) (h : n < 8) : x.cells[n]? = some (wv (lget x.words n)) := by
  have : n = 0 ∨ n = 1 ∨ n = 2 ∨ n = 3 ∨ n = 4 ∨ n = 5 ∨ n = 6 ∨ n = 7 := by omega
  rcases this with rfl | rfl | rfl | rfl | rfl | rfl | rfl | rfl <;> rfl

/-- the code of mix from its label on -/
noncomputable def mixBody : Code := match Tryd.f39.body with
  | some (.scope c) => c
  | _ => .skip
noncomputable def mixRest : Code := (findLabel mixBody 0).getD .skip

/-- what holds at each jump to the label -/
structure AtJump (w : World) (g gw gx : Nat) (T Tx : TypeId) (s : St) (blk : List UInt8) (n : Nat) (wr : World) : Prop where
  lt : n < 64
  v : wr.heap[g]? = some (.cells s.cells T (0, 0))
  x : wr.heap[gx]? = some (.cells (rounds s (sched blk 64) n).cells Tx (0, 0))
  ws : wr.heap[gw]? = some (.cells (arr64 (sched blk 64)) 58 (0, 0))
  fr : Fr [] w wr
  tabs : Tabs wr
  gx1 : g ≠ gx
  gx2 : gw ≠ gx
  gx3 : 1 ≠ gx
  gx4 : 0 ≠ gx
  gxn : w.heap.size ≤ gx
def mixJ (g gw gx : Nat) (blk : List UInt8) (R : Nat → World → Prop) (a : Act) (w : World) : Prop :=
  ∃ n : Nat, R n w ∧ ∃ v2 v3 v5 v6 v7 v10 v11 v12 v13 v14 v15 v16 v17 v18 v19 v20 v21 v22 v23 v24 v25 v26 v27 v28 v29 v30 v31 v32 v33 v34 v35 v36 v37 v38 v39 v40 v41 v42 v43 v44 v45 v46 v47 v48 v49 v50 v51 v52 v53 v54 v55 v56 v57 v58 v59 v60 v61 v62 v63 v64 v65 v66 v67 v68 v69 v70 v71 v72 v73 v74 v75 v76 v77 v78 v79 v80 v81 v82 v83 v84 v85 v86 v87 v88 v89 v90 : Value, a = ⟨#[.pointer (some ⟨g, 0, none⟩), .string (B blk), v2, v3, .pointer (some ⟨gw, 0, none⟩), v5, v6, v7, .pointer (some ⟨gx, 0, none⟩), .int .i64 (n : Nat), v10, v11, v12, v13, v14, v15, v16, v17, v18, v19, v20, v21, v22, v23, v24, v25, v26, v27, v28, v29, v30, v31, v32, v33, v34, v35, v36, v37, v38, v39, v40, v41, v42, v43, v44, v45, v46, v47, v48, v49, v50, v51, v52, v53, v54, v55, v56, v57, v58, v59, v60, v61, v62, v63, v64, v65, v66, v67, v68, v69, v70, v71, v72, v73, v74, v75, v76, v77, v78, v79, v80, v81, v82, v83, v84, v85, v86, v87, v88, v89, v90], []⟩

set_option maxHeartbeats 1000000 in
set_option maxRecDepth 100000 in
theorem mix_pass (w : World) (g gw gx : Nat) (T Tx : TypeId) (s : St) (blk : List UInt8) (n : Nat) (wr : World) (hJ : AtJump w g gw gx T Tx s blk n wr) (h : g < w.heap.size) (Q0 : Exit → Act → World → Prop) (v2 v3 v5 v6 v7 v10 v11 v12 v13 v14 v15 v16 v17 v18 v19 v20 v21 v22 v23 v24 v25 v26 v27 v28 v29 v30 v31 v32 v33 v34 v35 v36 v37 v38 v39 v40 v41 v42 v43 v44 v45 v46 v47 v48 v49 v50 v51 v52 v53 v54 v55 v56 v57 v58 v59 v60 v61 v62 v63 v64 v65 v66 v67 v68 v69 v70 v71 v72 v73 v74 v75 v76 v77 v78 v79 v80 v81 v82 v83 v84 v85 v86 v87 v88 v89 v90 : Value)
    (hQ : ∀ a' w', w'.heap[g]? = some (.cells (mixed s blk).cells T (0, 0)) → Fr [g] w w' → a'.defers = [] → Q0 .normal a' w') :
    Code.wp Tryd.prog mixRest (Exit.jump 0 (fun a' w' => mixJ g gw gx blk (AtJump w g gw gx T Tx s blk) a' w' ∧ (64 - (intOf (a'.tmps.getD 9 undef)).toNat) < 64 - n) Q0) ⟨#[.pointer (some ⟨g, 0, none⟩), .string (B blk), v2, v3, .pointer (some ⟨gw, 0, none⟩), v5, v6, v7, .pointer (some ⟨gx, 0, none⟩), .int .i64 (n : Nat), v10, v11, v12, v13, v14, v15, v16, v17, v18, v19, v20, v21, v22, v23, v24, v25, v26, v27, v28, v29, v30, v31, v32, v33, v34, v35, v36, v37, v38, v39, v40, v41, v42, v43, v44, v45, v46, v47, v48, v49, v50, v51, v52, v53, v54, v55, v56, v57, v58, v59, v60, v61, v62, v63, v64, v65, v66, v67, v68, v69, v70, v71, v72, v73, v74, v75, v76, v77, v78, v79, v80, v81, v82, v83, v84, v85, v86, v87, v88, v89, v90], []⟩ wr := by
  conv => arg 2; whnf
  have hk : wr.cell? ⟨1, n, none⟩ = some (.int .u32 (U32 (lget kTab n))) := hJ.tabs.k n hJ.lt
  have hw : wr.cell? ⟨gw, n, none⟩ = some (.int .u32 (U32 (lget (sched blk 64) n))) := cell_at hJ.ws (arr64_get _ _ (by rw [sched_length]; exact hJ.lt))
  have hlt : (n : Int) < 64 := by have := hJ.lt; omega
  have HJ := Lib.hid hJ
  have HQ := Lib.hid hQ
  have HG := Lib.hid h
  clear hJ hQ h
  go_wp2
  refine region_still 7 (by kernel_rfl) (by kernel_rfl) ?_; simp only [List.take_succ_cons, List.take_zero, List.drop_succ_cons, List.drop_zero]; (repeat (first | still_step)); try refine wpStill_nil ?_
  go_wp2_with fail
  refine (round_ok gx (rounds s (sched blk 64) n) _ Tx _ ?hx).mono ?_
  case hx => exact HJ.out.x
  rintro e w1 ⟨rfl, hf1, hx1⟩
  have HF1 := Lib.hid hf1
  have HX1 := Lib.hid hx1
  clear hf1 hx1 hk hw
  go_wp2
  · go_step3
    have hn : n + 1 < 64 := by omega
    refine ⟨rfl, ⟨n + 1, ⟨hn, ?_, HX1.out, ?_, ?_, ?_, HJ.out.gx1, HJ.out.gx2, HJ.out.gx3, HJ.out.gx4, HJ.out.gxn⟩, ?_⟩, ?_⟩
    · rw [HF1.out.block g (Array.getElem?_eq_some_iff.1 HJ.out.v).1 (by simpa using HJ.out.gx1)]
      exact HJ.out.v
    · rw [HF1.out.block gw (Array.getElem?_eq_some_iff.1 HJ.out.ws).1 (by simpa using HJ.out.gx2)]
      exact HJ.out.ws
    · exact HJ.out.fr.drew.trans' HF1.out (fun _ h => .inl h) (fun x hx => .inr (by simp at hx; subst hx; exact HJ.out.gxn))
    · exact HJ.out.tabs.fr ((Fr.refl [gx] wr).drew.trans HF1.out) (by simpa using HJ.out.gx3) (by simpa using HJ.out.gx4)
    · exact ⟨_, _, _, _, _, _, _, _, _, _, _, _, _, _, _, _, _, _, _, _, _, _, _, _, _, _, _, _, _, _, _, _, _, _, _, _, _, _, _, _, _, _, _, _, _, _, _, _, _, _, _, _, _, _, _, _, _, _, _, _, _, _, _, _, _, _, _, _, _, _, _, _, _, _, _, _, _, _, _, _, _, _, _, _, _, _, rfl⟩
    · simp [intOf]; omega
  · have hn : n + 1 = 64 := by omega
    have hgs : g < w.heap.size := HG.out
    have hv1 : w1.heap[g]? = some (.cells s.cells T (0, 0)) := by
      rw [HF1.out.block g (Array.getElem?_eq_some_iff.1 HJ.out.v).1 (by simpa using HJ.out.gx1)]
      exact HJ.out.v
    have hx1 : w1.heap[gx]? = some (.cells (rounds s (sched blk 64) 64).cells Tx (0, 0)) := by
      have e : rounds s (sched blk 64) 64 = rnd (rounds s (sched blk 64) n) (lget kTab n + lget (sched blk 64) n) := by
        obtain rfl : n = 63 := by omega
        rfl
      rw [e]
      exact HX1.out
    have hf1 : Fr [g] w w1 := HJ.out.fr.drew.trans' HF1.out (fun _ h => by cases h) (fun x hx => .inr (by simp at hx; subst hx; exact HJ.out.gxn))
    have HV1 := Lib.hid hv1
    have HXX := Lib.hid hx1
    have HF := Lib.hid hf1
    have HGX := Lib.hid HJ.out.gx1
    have HN := Lib.hid hn
    clear hv1 hx1 hf1 hn HF1 HX1 HJ hgs
    go_loopg [76] 8 (fun k i w2 => ∃ m : Nat, m + k = 8 ∧ i = .int .i64 m ∧ Hid (w2.heap[g]? = some (.cells ((partAdd s (rounds s (sched blk 64) 64) m).map wv).toArray T (0, 0))) ∧ Hid (Fr [g] w1 w2))
    case atStart => exact ⟨0, rfl, rfl, (show _ from HV1.out), (show Fr [g] w1 w1 from Fr.refl _ _)⟩
    case round =>
      obtain ⟨m, hm, rfl, H1, H2⟩ := hrel
      have HM := Lib.hid hm
      clear hm
      have hfz : ∀ (o : Nat), wr.frozen? ⟨g, o, none⟩ = false := fun o => frozen_of_row _ _ o _ _ H1.out
      by_cases hm8 : m < 8
      · have c1 : wr.cell? ⟨g, m, none⟩ = some (.int .u32 (U32 (lget s.words m))) := cell_at H1.out (partAdd_get _ _ _ hm8)
        have c2 : wr.cell? ⟨gx, m, none⟩ = some (.int .u32 (U32 (lget (rounds s (sched blk 64) 64).words m))) := by
          rw [H2.out.cell (Array.getElem?_eq_some_iff.1 HXX.out).1 (by simpa using Ne.symm HGX.out)]
          exact cell_at HXX.out (cells_get _ _ hm8)
        have hm8' : (m : Int) < 8 := by omega
        go_wp2
        refine region_still 11 (by kernel_rfl) (by kernel_rfl) ?_; simp only [List.take_succ_cons, List.take_zero, List.drop_succ_cons, List.drop_zero]; (repeat (first | still_step)); try refine wpStill_nil ?_
        go_wp2
        go_roundg (gk - 1)
        case rel =>
          refine ⟨m + 1, by have := HM.out; omega, by simp, (show _ = _ from ?_), (show Fr _ _ _ from ?_)⟩
          · rw [heap_drew, heap_setCell H1.out]
            congr 2
            exact partAdd_set _ _ _ hm8
          · exact Fr.drew (Fr.setCell H2.out (.inl (by simp)) _)
        case measure => have := HM.out; omega
      · have hm8' : m = 8 := by have := HM.out; omega
        have HM8 := Lib.hid hm8'
        clear hm8'
        have hm9 : (8 : Int) ≤ (m : Int) := by omega
        go_wp2
        simp only [Exit.jump]
        refine HQ.out _ _ ?_ (HF.out.trans H2.out) rfl
        have := H1.out
        rw [HM8.out] at this
        exact this
end Go.Proofs.YtmifllopcbjliaaDoor.V
