/- ShaInputs: for every domain and every two lists of texts that hold together at most 1048576 letters and values the law returns true: Input of two lists of parts, one behind the other, is that of the first one and that of the second one without its domain, and it has a byte, and four and its length for each part. Condition: the bound on the input. -/
import Derived.Test.YtkhhhdjpkhnmkaaDoorLaw3
import Derived.Test.YtkhhhdjpkhnmkaaDoorCard
namespace Go.Proofs.YtkhhhdjpkhnmkaaDoor.shaInputs
open Go Go.RowKit Go.ChangeShapes Go.WideShapes Go.ChangeAt Go.Proofs.YtkhhhdjpkhnmkaaDoor.V
open Go.WideMaps Go.WideElems
open Go.ChangeMaps (open_string)

/-- WHAT THE WALK GIVES, for every argument and every world that holds the tables. -/
theorem contract (H : Type) (enc : TypeId × Value → H) (W : World) (base : Nat) (args : Array Value) (ds gs : List (DataW H)) (before : List MemPlace)
    (hval : ∀ (j : Nat) t v, Tryd.f8.params[j]? = some t → args[j]? = some v → Value.okWide Tryd.prog W .any base t v)
    (hW : DataW.Whole enc Tryd.prog Tryd.f8.params.toList Rows.shaInputsSpec.vars false W args.toList ds gs before)
    (hk : Rows.uptoSmall H (ds ++ gs) = true)
    (hsz : (DataW.weightsEach Tryd.prog (Tryd.f8.params.toList ++ []) (ds ++ gs)).all (· ≤ reachBytes) = true) (hT : Tabs W) :
    Calls Tryd.prog 8 args W fun e W' => ∃ v, e = .returned v ∧ Rows.shaInputsSpec.post enc Tryd.prog Tryd.f8 false true false false W args v W' := by
  have hW' := hW
  obtain ⟨p, q, hA0, hV, rfl, hfz, hnd⟩ := hW
  have hA : DataW.TrodAll enc Tryd.prog W 0 (fun _ => true) true Tryd.f8.params.toList args.toList ds p := hA0
  rw [Tryd.params8] at hA hval hsz
  obtain ⟨v0, vs0, d0, ds0, p0, q0, hargs, rfl, rfl, h0, r0⟩ := trodAll_cons hA
  obtain ⟨v1, vs1, d1, ds1, p1, q1, rfl, rfl, rfl, h1, r1⟩ := trodAll_cons r0
  obtain ⟨v2, vs2, d2, ds2, p2, q2, rfl, rfl, rfl, h2, r2⟩ := trodAll_cons r1
  obtain ⟨rfl, rfl, rfl⟩ := trodAll_nil r2
  obtain rfl : args = #[v0, v1, v2] := by cases args; simp_all
  obtain ⟨rfl, rfl⟩ := trodVars_none hV
  have hlt : ∀ x ∈ p0 ++ p1 ++ p2, x.block < W.heap.size := fun x hx => hW'.lt x (by simpa using hx)
  have hl0 : ∀ x ∈ p0, x.block < W.heap.size := fun x hx => hlt x (by simp [hx])
  have hl1 : ∀ x ∈ p1, x.block < W.heap.size := fun x hx => hlt x (by simp [hx])
  have hl2 : ∀ x ∈ p2, x.block < W.heap.size := fun x hx => hlt x (by simp [hx])
  have k0 := h0
  have k1 := h1
  have k2 := h2
  obtain ⟨n0, rfl, hd0, -, wf0⟩ := open_int Tryd.underlying5 (hval 0 5 v0 rfl rfl) h0
  have z0 : 0 ≤ n0 ∧ n0 ≤ 255 := by simpa [Lit.wf, IntKind.min, IntKind.max, IntKind.signed, IntKind.bits] using wf0
  obtain ⟨x0, rfl⟩ : ∃ x : UInt8, n0 = U8 x := ⟨UInt8.ofNat n0.toNat, by rw [u8_ofNat]; omega⟩
  obtain ⟨ss1, hr1, hd1⟩ := read_strs (okWide_slice Tryd.underlying33 (hval 1 33 v1 rfl rfl)) h1
  obtain ⟨ss2, hr2, hd2⟩ := read_strs (okWide_slice Tryd.underlying33 (hval 2 33 v2 rfl rfl)) h2
  clear hA0
  have hbulk := of_decide_eq_true hk
  simp only [List.append_nil, Rows.uptoBulkAll] at hbulk
  simp only [List.append_nil] at hW'
  refine (shaInputs_ok x0 _ ss1 _ ss2 W hT hr1 hr2 (by omega) (by omega)).mono fun e W' ⟨he, hf⟩ => ?_
  subst he
  have hb := hf.below
  refine ⟨_, rfl, post_of_below (pv := []) hW' (fun _ _ _ => trodAll_cons_mk (shut_bool Tryd.underlying4 _) trodAll_mk0) ?_ (fun _ _ => rfl) (List.append_nil _).symm hb (ok_one (by kernel_rfl) rfl (okWide_bool_mk Tryd.underlying4 _))⟩
  intro sp hsp
  exact trodAll_cons_mk (stays (by kernel_rfl) (of_decide_eq_true (by kernel_rfl)) k0 hb hl0 sp (fun x hx => hsp x (by simp [hx]))) (trodAll_cons_mk (stays (by kernel_rfl) (of_decide_eq_true (by kernel_rfl)) k1 hb hl1 sp (fun x hx => hsp x (by simp [hx]))) (trodAll_mk1 (stays (by kernel_rfl) (of_decide_eq_true (by kernel_rfl)) k2 hb hl2 sp (fun x hx => hsp x (by simp [hx])))))

theorem laid_met (os : Os) : laidMet Tryd.prog Rows.shaInputsUptoRow.laid ((laidWorld os).forCall (fun _ _ => 0) ⟨#[], #[.int .u8 0, .slice none 0 0, .slice none 0 0], []⟩).memory :=
  laidMet_of_run' 8 (by kernel_rfl) (by kernel_rfl)
theorem reads (os : Os) {H : Type} (enc : TypeId × Value → H) : ∃ places, DataW.whole enc Tryd.prog ((laidWorld os).forCall (fun _ _ => 0) ⟨#[], #[.int .u8 0, .slice none 0 0, .slice none 0 0], []⟩).memory Tryd.f8.params.toList Rows.shaInputsSpec.vars false (#[.int .u8 0, .slice none 0 0, .slice none 0 0] : Array Value).toList 8 = some ([.lit (.int .u8 0), .nil, .nil], [], places) :=
  ⟨[], by kernel_rfl⟩

set_option maxRecDepth 100000 in
theorem lifted (os : Os) (started : os.Started) (H : Type) (enc : TypeId × Value → H) (F : Stop.Interp) :
    ReturnsInHanded {} Tryd.checked os 8 .any ((Rows.OpenSpec.upto Rows.shaInputsSpec).preRow enc Tryd.prog Tryd.f8 Rows.shaInputsUptoRow.domain false Rows.shaInputsUptoRow.laid) (((Rows.OpenSpec.upto Rows.shaInputsSpec).at F).post enc Tryd.prog Tryd.f8 false true false false) := by
  obtain ⟨places, hx⟩ := reads os enc
  refine returnsInHanded_of_row (C := Tryd.checked) (s := Rows.OpenSpec.upto Rows.shaInputsSpec) own started (by kernel_rfl) Tryd.func8
    (witness_row_at (enc := enc) (C := Tryd.checked) false (laidWorld os) #[.int .u8 0, .slice none 0 0, .slice none 0 0] rfl (by kernel_rfl) (by kernel_rfl) (by kernel_rfl)
      (OpenSpec.preRow_of_cond 8 hx (by kernel_rfl) (fun k hk => by cases hk; kernel_rfl) (by kernel_rfl) (laid_met os))) ?_
  intro W base args ds gs before hval hW _ hcond hsz hL _ _
  exact contract H enc W base args ds gs before hval hW (hcond _ rfl) hsz (tabs_of hL (by simp [Rows.shaInputsUptoRow]) (by simp [Rows.shaInputsUptoRow]))

theorem said : Rows.ShaInputsUptoSaid :=
  OpenClaim.holds_of_cond 8 Tryd.f8 rfl rfl rfl rfl rfl rfl rfl ⟨rfl, rfl, rfl, rfl, rfl⟩ rfl rfl rfl rfl rfl (by kernel_rfl) Tryd.func8 (by kernel_rfl)
    (of_decide_eq_true (by kernel_rfl)) (by unfold Func.isWrapper; first | (rw [if_pos (by decide +kernel)]; kernel_rfl) | (rw [if_neg (by decide +kernel)]; exact ⟨rfl, rfl⟩))
    (fun os started H enc _ F => by rw [OpenClaim.pre_eq_preRow]; exact lifted os started H enc F)

theorem plain (f : FuncId) (fn : Func) (hf : Tryd.pinned.checked.prog.funcNamed "voussoir/voussoirlaw01.ShaInputs" = some f) (hfn : Tryd.pinned.checked.prog.funcs[f]? = some fn) :
    false = Tryd.pinned.checked.prog.looks [] ∧ ∀ (j : Nat) t, fn.params[j]? = some t → Tryd.pinned.checked.prog.wantsStandIn t = false := by
  obtain rfl : f = 8 := Option.some.inj ((show Tryd.prog.funcNamed "voussoir/voussoirlaw01.ShaInputs" = some 8 by kernel_rfl).symm.trans hf) |>.symm
  obtain rfl : fn = Tryd.f8 := (Option.some.inj (Tryd.func8.symm.trans hfn)).symm
  refine ⟨by kernel_rfl, fun j t ht => ?_⟩
  have hall : (Tryd.f8.params.toList.all fun t => !Tryd.pinned.checked.prog.wantsStandIn t) = true := by kernel_rfl
  have := List.all_eq_true.1 hall t (Array.mem_toList_iff.2 (Array.mem_of_getElem? ht))
  simpa using this

/-- the card -/
theorem card : Rows.ShaInputsUptoCardSaid :=
  Claim7.holds_tied_plain_at .later [] _ _ _ _ said (fun _ h => by cases h) (by kernel_rfl) (fun _ h => by cases h) shaInputsUpto_row_tie rfl ⟨rfl, rfl⟩ (by kernel_rfl) rfl plain (by kernel_rfl)
end Go.Proofs.YtkhhhdjpkhnmkaaDoor.shaInputs
