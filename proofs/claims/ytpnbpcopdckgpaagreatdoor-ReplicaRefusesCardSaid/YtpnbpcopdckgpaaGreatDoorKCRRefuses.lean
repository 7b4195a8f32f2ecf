import Derived.Test.YtpnbpcopdckgpaaGreatDoorZdaea74da
import Derived.Test.YtpnbpcopdckgpaaGreatDoorZc0d3671c
namespace Go.Proofs.YtpnbpcopdckgpaaGreatDoor.replicaRefuses
open Go Go.RowKit Go.ChangeShapes Go.WideShapes Go.ChangeAt Go.Proofs.YtpnbpcopdckgpaaGreatDoor.V Go.Proofs.YtpnbpcopdckgpaaGreatDoor.E
open Go.WideMaps Go.WideElems
open Go.ChangeMaps (open_string)
set_option maxRecDepth 4000

theorem contract (H : Type) (enc : TypeId × Value → H) (W : World) (base : Nat) (args : Array Value) (ds gs : List (DataW H)) (before : List MemPlace)
  (hval : ∀ (j : Nat) t v, Tryz.f8.params[j]? = some t → args[j]? = some v → Value.okWide Tryz.prog W .any base t v)
  (hW : DataW.Whole enc Tryz.prog Tryz.f8.params.toList Rows.replicaRefusesSpec.vars false W args.toList ds gs before)
  (hsz : (DataW.weightsEach Tryz.prog (Tryz.f8.params.toList ++ []) (ds ++ gs)).all (· ≤ reachBytes) = true) (hT : RT W) :
  Calls Tryz.prog 8 args W fun e W' => ∃ v, e = .returned v ∧ Rows.replicaRefusesSpec.post enc Tryz.prog Tryz.f8 false true false false W args v W' := by
 have hW' := hW
 obtain ⟨p, q, hA0, hV, rfl, hfz, hnd⟩ := hW
 have hA : DataW.TrodAll enc Tryz.prog W 0 (fun _ => true) true Tryz.f8.params.toList args.toList ds p := hA0
 rw [Tryz.params8] at hA hval hsz
 obtain ⟨v0, vs0, d0, ds0, p0, q0, hargs, rfl, rfl, h0, r0⟩ := trodAll_cons hA
 obtain ⟨v1, vs1, d1, ds1, p1, q1, rfl, rfl, rfl, h1, r1⟩ := trodAll_cons r0
 obtain ⟨rfl, rfl, rfl⟩ := trodAll_nil r1
 obtain rfl : args = #[v0, v1] := by cases args; simp_all
 obtain ⟨rfl, rfl⟩ := trodVars_none hV
 have hlt : ∀ x ∈ p0 ++ p1, x.block < W.heap.size := fun x hx => hW'.lt x (by simpa using hx)
 have hl0 : ∀ x ∈ p0, x.block < W.heap.size := fun x hx => hlt x (by simp [hx])
 have hl1 : ∀ x ∈ p1, x.block < W.heap.size := fun x hx => hlt x (by simp [hx])
 have k0 := h0
 have k1 := h1
 obtain ⟨sa0, sl0, sc0, rfl⟩ := okWide_slice Tryz.underlying55 (hval 0 55 v0 rfl rfl)
 obtain ⟨av0, is0, vr0⟩ := read_one (sh := (.sl 55 (.int 3 .i64))) (.sl Tryz.underlying55 (by kernel_rfl) (by decide) (.int Tryz.underlying3)) rfl rfl (weigh hsz (j := 0) rfl rfl) h0
 obtain ⟨ns0, rfl, hq0, hn0⟩ := IsSh.ints is0
 have y0 := hn0
 unfold maxLen at y0
 obtain ⟨cs1, rfl, -⟩ := okWide_struct Tryz.underlying46 (hval 1 46 v1 rfl rfl)
 obtain ⟨av1, is1, vr1⟩ := read_st (sh := (.st 46 [(.int 3 .i64), (.int 3 .i64), (.int 3 .i64), (.int 22 .u64), (.str 9), (.str 9), (.str 9), (.str 9), (.sl 32 (.str 9))])) (.st Tryz.underlying46 (.cons rfl rfl (by kernel_rfl) (.int Tryz.underlying3) (.cons rfl rfl (by kernel_rfl) (.int Tryz.underlying3) (.cons rfl rfl (by kernel_rfl) (.int Tryz.underlying3) (.cons rfl rfl (by kernel_rfl) (.int Tryz.underlying22) (.cons rfl rfl (by kernel_rfl) (.str Tryz.underlying9) (.cons rfl rfl (by kernel_rfl) (.str Tryz.underlying9) (.cons rfl rfl (by kernel_rfl) (.str Tryz.underlying9) (.cons rfl rfl (by kernel_rfl) (.str Tryz.underlying9) (.cons rfl rfl (by kernel_rfl) (.sl Tryz.underlying32 (by kernel_rfl) (by decide) (.str Tryz.underlying9)) .nil))))))))) (by kernel_rfl)) (weigh hsz (j := 1) rfl rfl) h1
 obtain ⟨nt1, rfl⟩ := isNote is1
 clear hA0
 simp only [List.append_nil] at hW'
 refine (FC.callsA (repRefuses_fc shaInR ⟨kInR, fInR⟩ ns0 nt1 (by omega) (fun m hm => hq0 _ (el_mem' ns0 m hm))) hT (.cons vr0 (.cons vr1 (.nil)))).mono fun e W' ⟨he, hf⟩ => ?_
 subst he
 have hb := hf.below
 refine ⟨_, rfl, post_of_below (pv := []) hW' (fun _ _ _ => trodAll_cons_mk (shut_bool Tryz.underlying4 _) trodAll_mk0) ?_ (fun _ _ => rfl) (List.append_nil _).symm hb (ok_one (by kernel_rfl) rfl (okWide_bool_mk Tryz.underlying4 _))⟩
 intro sp hsp
 exact trodAll_cons_mk (stays (by kernel_rfl) (of_decide_eq_true (by kernel_rfl)) k0 hb hl0 sp (fun x hx => hsp x (by simp [hx]))) (trodAll_mk1 (stays (by kernel_rfl) (of_decide_eq_true (by kernel_rfl)) k1 hb hl1 sp (fun x hx => hsp x (by simp [hx]))))

theorem laid_met (os : Os) : laidMet Tryz.prog Rows.replicaRefusesRow.laid ((laidWorldR os).forCall (fun _ _ => 0) ⟨#[], #[.slice none 0 0, .agg #[.int .i64 0, .int .i64 0, .int .i64 0, .int .u64 0, .string .empty, .string .empty, .string .empty, .string .empty, .slice none 0 0]], []⟩).memory :=
 laidMet_of_run' 8 (by kernel_rfl) (by kernel_rfl)
theorem reads (os : Os) {H : Type} (enc : TypeId × Value → H) : ∃ places, DataW.whole enc Tryz.prog ((laidWorldR os).forCall (fun _ _ => 0) ⟨#[], #[.slice none 0 0, .agg #[.int .i64 0, .int .i64 0, .int .i64 0, .int .u64 0, .string .empty, .string .empty, .string .empty, .string .empty, .slice none 0 0]], []⟩).memory Tryz.f8.params.toList Rows.replicaRefusesSpec.vars false (#[.slice none 0 0, .agg #[.int .i64 0, .int .i64 0, .int .i64 0, .int .u64 0, .string .empty, .string .empty, .string .empty, .string .empty, .slice none 0 0]] : Array Value).toList 8 = some ([.nil, .agg [.lit (.int .i64 0), .lit (.int .i64 0), .lit (.int .i64 0), .lit (.int .u64 0), .lit (.string []), .lit (.string []), .lit (.string []), .lit (.string []), .nil]], [], places) :=
 ⟨[], by kernel_rfl⟩

set_option maxRecDepth 100000 in
theorem lifted (os : Os) (started : os.Started) (H : Type) (enc : TypeId × Value → H) (F : Stop.Interp) :
  ReturnsInHanded {} Tryz.checked os 8 .any ((OpenSpec.ofChange Rows.replicaRefusesSpec).preRow enc Tryz.prog Tryz.f8 Rows.replicaRefusesRow.domain false Rows.replicaRefusesRow.laid) (((OpenSpec.ofChange Rows.replicaRefusesSpec).at F).post enc Tryz.prog Tryz.f8 false true false false) := by
 obtain ⟨places, hx⟩ := reads os enc
 refine returnsInHanded_of_row (C := Tryz.checked) (s := OpenSpec.ofChange Rows.replicaRefusesSpec) own started (by kernel_rfl) Tryz.func8
  (witness_row_at (enc := enc) (C := Tryz.checked) false (laidWorldR os) #[.slice none 0 0, .agg #[.int .i64 0, .int .i64 0, .int .i64 0, .int .u64 0, .string .empty, .string .empty, .string .empty, .string .empty, .slice none 0 0]] rfl (by kernel_rfl) (by kernel_rfl) (by kernel_rfl)
   (OpenSpec.preRow_of_cond 8 hx (by kernel_rfl) (fun k hk => by cases hk) (by kernel_rfl) (laid_met os))) ?_
 intro W base args ds gs before hval hW _ _ hsz hL _ _
 exact contract H enc W base args ds gs before hval hW hsz (tabR_of hL (by simp [Rows.replicaRefusesRow]) (by simp [Rows.replicaRefusesRow]) (by simp [Rows.replicaRefusesRow]) (by simp [Rows.replicaRefusesRow]))

theorem said : Rows.ReplicaRefusesSaid :=
 OpenClaim.holds_of_cond 8 Tryz.f8 rfl rfl rfl rfl rfl rfl rfl ⟨rfl, rfl, rfl, rfl, rfl⟩ rfl rfl rfl rfl rfl (by kernel_rfl) Tryz.func8 (by kernel_rfl)
  (of_decide_eq_true (by kernel_rfl)) (by unfold Func.isWrapper; first | (rw [if_pos (by decide +kernel)]; kernel_rfl) | (rw [if_neg (by decide +kernel)]; exact ⟨rfl, rfl⟩))
  (fun os started H enc _ F => by rw [OpenClaim.pre_eq_preRow]; exact lifted os started H enc F)

theorem plain (f : FuncId) (fn : Func) (hf : Tryz.pinned.checked.prog.funcNamed "voussoir/voussoirlaw14.ReplicaRefuses" = some f) (hfn : Tryz.pinned.checked.prog.funcs[f]? = some fn) :
  false = Tryz.pinned.checked.prog.looks [] ∧ ∀ (j : Nat) t, fn.params[j]? = some t → Tryz.pinned.checked.prog.wantsStandIn t = false := by
 obtain rfl : f = 8 := Option.some.inj ((show Tryz.prog.funcNamed "voussoir/voussoirlaw14.ReplicaRefuses" = some 8 by kernel_rfl).symm.trans hf) |>.symm
 obtain rfl : fn = Tryz.f8 := (Option.some.inj (Tryz.func8.symm.trans hfn)).symm
 refine ⟨by kernel_rfl, fun j t ht => ?_⟩
 have hall : (Tryz.f8.params.toList.all fun t => !Tryz.pinned.checked.prog.wantsStandIn t) = true := by kernel_rfl
 have := List.all_eq_true.1 hall t (Array.mem_toList_iff.2 (Array.mem_of_getElem? ht))
 simpa using this

theorem card : Rows.ReplicaRefusesCardSaid :=
 Claim7.holds_tied_plain_at .later [] _ _ _ _ said (fun _ h => by cases h) (by kernel_rfl) (fun _ h => by cases h) replicaRefuses_row_tie rfl ⟨rfl, rfl⟩ (by kernel_rfl) rfl plain (by kernel_rfl)
end Go.Proofs.YtpnbpcopdckgpaaGreatDoor.replicaRefuses
