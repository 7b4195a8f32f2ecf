/- The walk of mix, whole. -/
import Derived.Test.YtmifllopcbjliaaDoorSha2
namespace Go.Proofs.YtmifllopcbjliaaDoor.V
open Go Go.RowKit
attribute [local go_sem] B_size B_append B_extract mk_B B_toList take_drop_len List.length_drop List.length_take sgn32 sgn64 add32 sub32 mul32 add64 sub64 mul64 mul64_8 and32 or32 xor32 and64 or64 xor64 shl32_run shr32_run shl64_run shr64_run not32 not32' xor32_all w_u32_u8 w_u64_u8 w_i64_u8 w_u8_u32 w_u8_u64 w_u32_u64 w_u64_u32 w_u8_u8 w_u32_u32 w_u64_u64
attribute [local go_sem ↓] run_index_B' add32 sub32 mul32 add64 sub64 mul64 mul64_8 and32 or32 xor32 and64 or64 xor64 shl32_run shr32_run shl64_run shr64_run not32 not32' xor32_all w_u32_u8 w_u64_u8 w_i64_u8 w_u8_u32 w_u8_u64 w_u32_u64 w_u64_u32 w_u8_u8 w_u32_u32 w_u64_u64 w_u64_nat w_u32_nat w_u8_nat

set_option maxHeartbeats 1000000 in
set_option maxRecDepth 100000 in
theorem mix_ok (g : Nat) (s : St) (blk : List UInt8) (T : TypeId) (w : World) (hg : w.heap[g]? = some (.cells s.cells T (0, 0))) (hT : Tabs w) (hl : 64 ≤ blk.length) :
    Calls Tryd.prog 39 #[.pointer (some ⟨g, 0, none⟩), .string (B blk)] w fun e w' => e = .returned (.tuple #[]) ∧ Fr [g] w w' ∧ w'.heap[g]? = some (.cells (mixed s blk).cells T (0, 0)) := by
  have HG := Lib.hid hg
  clear hg
  have HT := Lib.hid hT
  clear hT
  go_enter Tryd.func39, Tryd.ntmps39
  go_wp2
  refine wp_scope_jumps 0 (mixJ g w.heap.size (w.heap.size + 1) blk (AtJump w g w.heap.size (w.heap.size + 1) T 49 s blk)) (fun a' _ => 64 - (intOf (a'.tmps.getD 9 undef)).toNat) rfl ?_ ?_
  case refine_2 =>
    rintro a' w' ⟨n, hR, hx⟩
    obtain ⟨v2, hx⟩ := hx
    obtain ⟨v3, hx⟩ := hx
    obtain ⟨v5, hx⟩ := hx
    obtain ⟨v6, hx⟩ := hx
    obtain ⟨v7, hx⟩ := hx
    obtain ⟨v10, hx⟩ := hx
    obtain ⟨v11, hx⟩ := hx
    obtain ⟨v12, hx⟩ := hx
    obtain ⟨v13, hx⟩ := hx
    obtain ⟨v14, hx⟩ := hx
    obtain ⟨v15, hx⟩ := hx
    obtain ⟨v16, hx⟩ := hx
    obtain ⟨v17, hx⟩ := hx
    obtain ⟨v18, hx⟩ := hx
    obtain ⟨v19, hx⟩ := hx
    obtain ⟨v20, hx⟩ := hx
    obtain ⟨v21, hx⟩ := hx
    obtain ⟨v22, hx⟩ := hx
    obtain ⟨v23, hx⟩ := hx
    obtain ⟨v24, hx⟩ := hx
    obtain ⟨v25, hx⟩ := hx
    obtain ⟨v26, hx⟩ := hx
    obtain ⟨v27, hx⟩ := hx
    obtain ⟨v28, hx⟩ := hx
    obtain ⟨v29, hx⟩ := hx
    obtain ⟨v30, hx⟩ := hx
    obtain ⟨v31, hx⟩ := hx
    obtain ⟨v32, hx⟩ := hx
    obtain ⟨v33, hx⟩ := hx
    obtain ⟨v34, hx⟩ := hx
    obtain ⟨v35, hx⟩ := hx
    obtain ⟨v36, hx⟩ := hx
    obtain ⟨v37, hx⟩ := hx
    obtain ⟨v38, hx⟩ := hx
    obtain ⟨v39, hx⟩ := hx
    obtain ⟨v40, hx⟩ := hx
    obtain ⟨v41, hx⟩ := hx
    obtain ⟨v42, hx⟩ := hx
    obtain ⟨v43, hx⟩ := hx
    obtain ⟨v44, hx⟩ := hx
    obtain ⟨v45, hx⟩ := hx
    obtain ⟨v46, hx⟩ := hx
    obtain ⟨v47, hx⟩ := hx
    obtain ⟨v48, hx⟩ := hx
    obtain ⟨v49, hx⟩ := hx
    obtain ⟨v50, hx⟩ := hx
    obtain ⟨v51, hx⟩ := hx
    obtain ⟨v52, hx⟩ := hx
    obtain ⟨v53, hx⟩ := hx
    obtain ⟨v54, hx⟩ := hx
    obtain ⟨v55, hx⟩ := hx
    obtain ⟨v56, hx⟩ := hx
    obtain ⟨v57, hx⟩ := hx
    obtain ⟨v58, hx⟩ := hx
    obtain ⟨v59, hx⟩ := hx
    obtain ⟨v60, hx⟩ := hx
    obtain ⟨v61, hx⟩ := hx
    obtain ⟨v62, hx⟩ := hx
    obtain ⟨v63, hx⟩ := hx
    obtain ⟨v64, hx⟩ := hx
    obtain ⟨v65, hx⟩ := hx
    obtain ⟨v66, hx⟩ := hx
    obtain ⟨v67, hx⟩ := hx
    obtain ⟨v68, hx⟩ := hx
    obtain ⟨v69, hx⟩ := hx
    obtain ⟨v70, hx⟩ := hx
    obtain ⟨v71, hx⟩ := hx
    obtain ⟨v72, hx⟩ := hx
    obtain ⟨v73, hx⟩ := hx
    obtain ⟨v74, hx⟩ := hx
    obtain ⟨v75, hx⟩ := hx
    obtain ⟨v76, hx⟩ := hx
    obtain ⟨v77, hx⟩ := hx
    obtain ⟨v78, hx⟩ := hx
    obtain ⟨v79, hx⟩ := hx
    obtain ⟨v80, hx⟩ := hx
    obtain ⟨v81, hx⟩ := hx
    obtain ⟨v82, hx⟩ := hx
    obtain ⟨v83, hx⟩ := hx
    obtain ⟨v84, hx⟩ := hx
    obtain ⟨v85, hx⟩ := hx
    obtain ⟨v86, hx⟩ := hx
    obtain ⟨v87, hx⟩ := hx
    obtain ⟨v88, hx⟩ := hx
    obtain ⟨v89, hx⟩ := hx
    obtain ⟨v90, hx⟩ := hx
    subst hx
    refine wp_mono (mix_pass w g w.heap.size (w.heap.size + 1) T 49 s blk n w' hR (Array.getElem?_eq_some_iff.1 HG.out).1 (bodyPost Tryd.prog Tryd.f39 fun e w' => e = .returned (.tuple #[]) ∧ Fr [g] w w' ∧ w'.heap[g]? = some (.cells (mixed s blk).cells T (0, 0))) _ _ _ _ _ _ _ _ _ _ _ _ _ _ _ _ _ _ _ _ _ _ _ _ _ _ _ _ _ _ _ _ _ _ _ _ _ _ _ _ _ _ _ _ _ _ _ _ _ _ _ _ _ _ _ _ _ _ _ _ _ _ _ _ _ _ _ _ _ _ _ _ _ _ _ _ _ _ _ _ _ _ _ _ _ _ ?hQ) ?hm
    case hQ =>
      intro a1 w1 h1 h2 h3
      exact bodyPost_end (results_none rfl _ _ _) h3 ⟨rfl, h2, h1⟩
    case hm =>
      intro e a1 w1 hq
      cases e with
      | goto l => exact ⟨hq.1, hq.2.1, by simpa [intOf] using hq.2.2⟩
      | _ => exact hq
  go_wp2
  go_loopg [11] 64 (fun k i wr => ∃ n : Nat, n + k = 64 ∧ i = .int .i64 n ∧ Hid (wr.heap[w.heap.size]? = some (.cells (arr64 (sched blk n)) 58 (0, 0))) ∧ Hid (Fr [] w wr) ∧ Hid (wr.heap.size = w.heap.size + 1))
  case atStart =>
    exact ⟨0, rfl, rfl, (show _ from heap_alloc_new w _), (show Fr [] w _ from (Fr.refl [] w).alloc _), (show _ = _ from by simp)⟩
  case round =>
    obtain ⟨n, hn, rfl, H1, H2, H3⟩ := hrel
    have hsl := sched_length blk n
    have HL := Lib.hid hsl
    clear hsl
    have hgw : ∀ (o : Nat), wr.frozen? ⟨w.heap.size, o, none⟩ = false := fun o => frozen_of_row wr _ o _ _ H1.out
    have hn64 : n ≤ 64 := by omega
    have HN := Lib.hid hn
    clear hn
    by_cases h16 : n < 16
    · have hc : wr.cell? ⟨w.heap.size, n, none⟩ = some (wv 0) := by
        refine cell_at H1.out ?_
        simp [arr64, HL.out, List.getElem?_append_right, List.getElem?_replicate]
        omega
      go_wp2_with fail
      refine (word_ok _ _ (by simp; omega)).mono ?_
      rintro e w' ⟨rfl, m, rfl⟩
      go_wp2
      go_roundg (gk - 1)
      case rel =>
        refine ⟨n + 1, by have := HN.out; omega, by simp, (show _ = _ from ?_), (show Fr _ _ _ from Fr.setCell (H2.out.drewN _) (.inr (Nat.le_refl _)) _), (show _ = _ from by simpa using H3.out)⟩
        rw [heap_setCell (w := wr.drewN m) H1.out]
        congr 2
        have := arr64_set (sched blk n) (wordOf (blk.drop (4 * n))) (by rw [HL.out]; omega)
        rw [HL.out] at this
        rw [show sched blk (n + 1) = sched blk n ++ [nxt blk (sched blk n)] from rfl, show nxt blk (sched blk n) = wordOf (blk.drop (4 * n)) by unfold nxt; rw [HL.out, if_pos h16]]
        exact this
      case measure => have := HN.out; omega
    · by_cases hlt : n < 64
      · have e1 : ((n : Int) - 16).toNat = n - 16 := by omega
        have e2 : ((n : Int) - 15).toNat = n - 15 := by omega
        have e3 : ((n : Int) - 7).toNat = n - 7 := by omega
        have e4 : ((n : Int) - 2).toNat = n - 2 := by omega
        have c1 : wr.cell? ⟨w.heap.size, n - 16, none⟩ = some (.int .u32 (U32 (lget (sched blk n) (n - 16)))) := cell_at H1.out (arr64_get _ _ (by rw [HL.out]; omega))
        have c2 : wr.cell? ⟨w.heap.size, n - 15, none⟩ = some (.int .u32 (U32 (lget (sched blk n) (n - 15)))) := cell_at H1.out (arr64_get _ _ (by rw [HL.out]; omega))
        have c3 : wr.cell? ⟨w.heap.size, n - 7, none⟩ = some (.int .u32 (U32 (lget (sched blk n) (n - 7)))) := cell_at H1.out (arr64_get _ _ (by rw [HL.out]; omega))
        have c4 : wr.cell? ⟨w.heap.size, n - 2, none⟩ = some (.int .u32 (U32 (lget (sched blk n) (n - 2)))) := cell_at H1.out (arr64_get _ _ (by rw [HL.out]; omega))
        have hc : wr.cell? ⟨w.heap.size, n, none⟩ = some (wv 0) := by
          refine cell_at H1.out ?_
          simp [arr64, HL.out, List.getElem?_append_right, List.getElem?_replicate]
          omega
        go_wp2
        go_quiet (fail)
        go_wp2
        have s1 : IntKind.i64.wrap ((n : Int) - 16) = (n : Int) - 16 := IntWalk.i64_in _ (by omega)
        have s2 : IntKind.i64.wrap ((n : Int) - 7) = (n : Int) - 7 := IntWalk.i64_in _ (by omega)
        have s3 : (0 : Int) ≤ (n : Int) - 16 := by omega
        have s4 : (n : Int) - 16 < 64 := by omega
        have s5 : (0 : Int) ≤ (n : Int) - 7 := by omega
        have s6 : (n : Int) - 7 < 64 := by omega
        have s7 : (n : Int) < 64 := by omega
        have s8 : (7 : Int) ≤ (n : Int) := by omega
        have s9 : (16 : Int) ≤ (n : Int) := by omega
        refine region_still 29 (by kernel_rfl) (by kernel_rfl) ?_; simp only [List.take_succ_cons, List.take_zero, List.drop_succ_cons, List.drop_zero]; (repeat (first | still_step | (refine wpStill_step (fun K hK => ?_); go_simp; refine ⟨_, still_left (right_ok _ _ _ (by decide) (by decide)), hK _ ?_⟩; clear hK K))); try refine wpStill_nil ?_
        go_wp2
        go_roundg (gk - 1)
        case rel =>
          refine ⟨n + 1, by have := HN.out; omega, by simp, (show _ = _ from ?_), (show Fr _ _ _ from ?_), (show _ = _ from by simpa using H3.out)⟩
          · rw [heap_setCell (w := wr.drewN (nq + 1)) H1.out]
            congr 2
            have := arr64_set (sched blk n) (nxt blk (sched blk n)) (by rw [HL.out]; omega)
            rw [HL.out] at this
            rw [show sched blk (n + 1) = sched blk n ++ [nxt blk (sched blk n)] from rfl, ← this]
            congr 2
            unfold nxt
            rw [HL.out, if_neg h16]
            rfl
          · exact Fr.setCell (H2.out.drewN _) (.inr (Nat.le_refl _)) _
        case measure => have := HN.out; omega
      · obtain rfl : n = 64 := by omega
        have hgs : g < w.heap.size := (Array.getElem?_eq_some_iff.1 HG.out).1
        have hv : wr.heap[g]? = some (.cells s.cells T (0, 0)) := by rw [H2.out.block g hgs (by simp)]; exact HG.out
        obtain ⟨c0, c1, c2, c3, c4, c5, c6, c7, fz⟩ := cells8 hv
        have HGS := Lib.hid hgs
        have HV := Lib.hid hv
        have hx := H3.out
        have HT1 := Lib.hid (HT.out.fr H2.out (by simp) (by simp))
        have hk1 : wr.cell? ⟨1, 0, none⟩ = some (.int .u32 (U32 (lget kTab 0))) := HT1.out.k 0 (by decide)
        have hw1 : wr.cell? ⟨w.heap.size, 0, none⟩ = some (.int .u32 (U32 (lget (sched blk 64) 0))) := cell_at H1.out (arr64_get _ _ (by rw [sched_length]; decide))
        have hk2 : 1 < w.heap.size := HT.out.size.1
        have hk5 : 1 < wr.heap.size := Nat.lt_of_lt_of_le hk2 H2.out.size
        have hk6 : ∀ o : Obj, (wr.alloc o).cell? ⟨1, 0, none⟩ = some (.int .u32 (U32 (lget kTab 0))) := fun o => by rw [World.cell?_alloc_past o _ _ hk5]; exact hk1
        clear hv hgs hgw HN HL hl
        go_wp2
        go_step3
        go_wp2
        refine region_still 7 (by kernel_rfl) (by kernel_rfl) ?_; simp only [List.take_succ_cons, List.take_zero, List.drop_succ_cons, List.drop_zero]; (repeat (first | still_step)); try refine wpStill_nil ?_
        go_wp2_with fail
        refine (round_ok (w.heap.size + 1) s _ 49 _ ?hx1).mono ?_
        case hx1 =>
          show (wr.alloc (.cells s.cells 49)).heap[w.heap.size + 1]? = _
          rw [← hx]
          exact heap_alloc_new wr _
        rintro e w1 ⟨rfl, hf1, hx1⟩
        have HF1 := Lib.hid hf1
        have HX1 := Lib.hid hx1
        have HX := Lib.hid hx
        clear hf1 hx1 hk1 hw1 c0 c1 c2 c3 c4 c5 c6 c7 fz hx
        go_wp2
        go_step3
        have hgs := HGS.out
        have hxs := HX.out
        have HFa : Fr [w.heap.size + 1] wr w1 := (((Fr.refl _ wr).alloc _).drew).trans HF1.out
        refine ⟨rfl, 1, ⟨by decide, ?_, HX1.out, ?_, ?_, ?_, by omega, by omega, by omega, by have := HT.out.size.2; omega, by omega⟩, ?_⟩
        · rw [HFa.block g (by omega) (by simp; omega)]
          exact HV.out
        · rw [HFa.block w.heap.size (by omega) (by simp)]
          exact H1.out
        · exact H2.out.trans' HFa (fun _ h => .inl h) (fun x hx => .inr (by simp at hx; omega))
        · exact HT1.out.fr HFa (by rw [List.mem_singleton]; omega) (by rw [List.mem_singleton]; have := HT.out.size.2; omega)
        · exact ⟨_, _, _, _, _, _, _, _, _, _, _, _, _, _, _, _, _, _, _, _, _, _, _, _, _, _, _, _, _, _, _, _, _, _, _, _, _, _, _, _, _, _, _, _, _, _, _, _, _, _, _, _, _, _, _, _, _, _, _, _, _, _, _, _, _, _, _, _, _, _, _, _, _, _, _, _, _, _, _, _, _, _, _, _, _, _, rfl⟩
end Go.Proofs.YtmifllopcbjliaaDoor.V
