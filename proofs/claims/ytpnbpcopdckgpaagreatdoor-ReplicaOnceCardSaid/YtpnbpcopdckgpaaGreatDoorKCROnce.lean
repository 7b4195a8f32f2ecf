import Derived.Test.YtpnbpcopdckgpaaGreatDoorZ03295c72
import Derived.Test.YtpnbpcopdckgpaaGreatDoorZ7a60d416
namespace Go.Proofs.YtpnbpcopdckgpaaGreatDoor.replicaOnce
open Go Go.RowKit Go.ChangeShapes Go.WideShapes Go.ChangeAt Go.Proofs.YtpnbpcopdckgpaaGreatDoor.V Go.Proofs.YtpnbpcopdckgpaaGreatDoor.E
open Go.WideMaps Go.WideElems
open Go.ChangeMaps (open_string)
set_option maxRecDepth 4000

theorem contract (H : Type) (enc : TypeId × Value → H) (W : World) (base : Nat) (args : Array Value) (ds gs : List (DataW H)) (before : List MemPlace)
  (hval : ∀ (j : Nat) t v, Tryz.f9.params[j]? = some t → args[j]? = some v → Value.okWide Tryz.prog W .any base t v)
  (hW : DataW.Whole enc Tryz.prog Tryz.f9.params.toList Rows.replicaOnceSpec.vars false W args.toList ds gs before)
  (hsz : (DataW.weightsEach Tryz.prog (Tryz.f9.params.toList ++ []) (ds ++ gs)).all (· ≤ reachBytes) = true) (hT : RT W) :
  Calls Tryz.prog 9 args W fun e W' => ∃ v, e = .returned v ∧ Rows.replicaOnceSpec.post enc Tryz.prog Tryz.f9 false true false false W args v W' := by
 have hW' := hW
 obtain ⟨p, q, hA0, hV, rfl, hfz, hnd⟩ := hW
 have hA : DataW.TrodAll enc Tryz.prog W 0 (fun _ => true) true Tryz.f9.params.toList args.toList ds p := hA0
 rw [Tryz.params9] at hA hval hsz
 obtain ⟨v0, vs0, d0, ds0, p0, q0, hargs, rfl, rfl, h0, r0⟩ := trodAll_cons hA
 obtain ⟨rfl, rfl, rfl⟩ := trodAll_nil r0
 obtain rfl : args = #[v0] := by cases args; simp_all
 obtain ⟨rfl, rfl⟩ := trodVars_none hV
 have hlt : ∀ x ∈ p0, x.block < W.heap.size := fun x hx => hW'.lt x (by simpa using hx)
 have hl0 : ∀ x ∈ p0, x.block < W.heap.size := fun x hx => hlt x (by simp [hx])
 have k0 := h0
 obtain ⟨sa0, sl0, sc0, rfl⟩ := okWide_slice Tryz.underlying58 (hval 0 58 v0 rfl rfl)
 obtain ⟨av0, is0, vr0⟩ := read_one (sh := (.sl 58 (.st 61 [(.int 3 .i64), (.int 3 .i64), (.int 3 .i64), (.str 9), (.st 46 [(.int 3 .i64), (.int 3 .i64), (.int 3 .i64), (.int 22 .u64), (.str 9), (.str 9), (.str 9), (.str 9), (.sl 32 (.str 9))]), (.sl 55 (.int 3 .i64))]))) (.sl Tryz.underlying58 (by kernel_rfl) (by decide) (.st Tryz.underlying61 (.cons rfl rfl (by kernel_rfl) (.int Tryz.underlying3) (.cons rfl rfl (by kernel_rfl) (.int Tryz.underlying3) (.cons rfl rfl (by kernel_rfl) (.int Tryz.underlying3) (.cons rfl rfl (by kernel_rfl) (.str Tryz.underlying9) (.cons rfl rfl (by kernel_rfl) (.st Tryz.underlying46 (.cons rfl rfl (by kernel_rfl) (.int Tryz.underlying3) (.cons rfl rfl (by kernel_rfl) (.int Tryz.underlying3) (.cons rfl rfl (by kernel_rfl) (.int Tryz.underlying3) (.cons rfl rfl (by kernel_rfl) (.int Tryz.underlying22) (.cons rfl rfl (by kernel_rfl) (.str Tryz.underlying9) (.cons rfl rfl (by kernel_rfl) (.str Tryz.underlying9) (.cons rfl rfl (by kernel_rfl) (.str Tryz.underlying9) (.cons rfl rfl (by kernel_rfl) (.str Tryz.underlying9) (.cons rfl rfl (by kernel_rfl) (.sl Tryz.underlying32 (by kernel_rfl) (by decide) (.str Tryz.underlying9)) .nil))))))))) (by kernel_rfl)) (.cons rfl rfl (by kernel_rfl) (.sl Tryz.underlying55 (by kernel_rfl) (by decide) (.int Tryz.underlying3)) .nil)))))) (by kernel_rfl))) rfl rfl (weigh hsz (j := 0) rfl rfl) h0
 obtain ⟨as0, rfl, hq0, hn0⟩ := isActsR is0
 have y0 := hn0
 unfold maxLen at y0
 clear hA0
 simp only [List.append_nil] at hW'
 refine (FC.callsA (repOnce_fc shaInR ⟨kInR, fInR⟩ as0 (by omega) (fun m hm => hq0 _ (el_mem' as0 m hm))) hT (.cons vr0 (.nil))).mono fun e W' ⟨he, hf⟩ => ?_
 subst he
 have hb := hf.below
 refine ⟨_, rfl, post_of_below (pv := []) hW' (fun _ _ _ => trodAll_cons_mk (shut_bool Tryz.underlying4 _) trodAll_mk0) ?_ (fun _ _ => rfl) (List.append_nil _).symm hb (ok_one (by kernel_rfl) rfl (okWide_bool_mk Tryz.underlying4 _))⟩
 intro sp hsp
 exact trodAll_mk1 (stays (by kernel_rfl) (of_decide_eq_true (by kernel_rfl)) k0 hb hl0 sp (fun x hx => hsp x (by simp [hx])))

theorem laid_met (os : Os) : laidMet Tryz.prog Rows.replicaOnceRow.laid ((laidWorldR os).forCall (fun _ _ => 0) ⟨#[], #[.slice none 0 0], []⟩).memory :=
 laidMet_of_run' 8 (by kernel_rfl) (by kernel_rfl)
theorem reads (os : Os) {H : Type} (enc : TypeId × Value → H) : ∃ places, DataW.whole enc Tryz.prog ((laidWorldR os).forCall (fun _ _ => 0) ⟨#[], #[.slice none 0 0], []⟩).memory Tryz.f9.params.toList Rows.replicaOnceSpec.vars false (#[.slice none 0 0] : Array Value).toList 8 = some ([.nil], [], places) :=
 ⟨[], by kernel_rfl⟩

set_option maxRecDepth 100000 in
theorem lifted (os : Os) (started : os.Started) (H : Type) (enc : TypeId × Value → H) (F : Stop.Interp) :
  ReturnsInHanded {} Tryz.checked os 9 .any ((OpenSpec.ofChange Rows.replicaOnceSpec).preRow enc Tryz.prog Tryz.f9 Rows.replicaOnceRow.domain false Rows.replicaOnceRow.laid) (((OpenSpec.ofChange Rows.replicaOnceSpec).at F).post enc Tryz.prog Tryz.f9 false true false false) := by
 obtain ⟨places, hx⟩ := reads os enc
 refine returnsInHanded_of_row (C := Tryz.checked) (s := OpenSpec.ofChange Rows.replicaOnceSpec) own started (by kernel_rfl) Tryz.func9
  (witness_row_at (enc := enc) (C := Tryz.checked) false (laidWorldR os) #[.slice none 0 0] rfl (by kernel_rfl) (by kernel_rfl) (by kernel_rfl)
   (OpenSpec.preRow_of_cond 8 hx (by kernel_rfl) (fun k hk => by cases hk) (by kernel_rfl) (laid_met os))) ?_
 intro W base args ds gs before hval hW _ _ hsz hL _ _
 exact contract H enc W base args ds gs before hval hW hsz (tabR_of hL (by simp [Rows.replicaOnceRow]) (by simp [Rows.replicaOnceRow]) (by simp [Rows.replicaOnceRow]) (by simp [Rows.replicaOnceRow]))

theorem said : Rows.ReplicaOnceSaid :=
 OpenClaim.holds_of_cond 9 Tryz.f9 rfl rfl rfl rfl rfl rfl rfl ⟨rfl, rfl, rfl, rfl, rfl⟩ rfl rfl rfl rfl rfl (by kernel_rfl) Tryz.func9 (by kernel_rfl)
  (of_decide_eq_true (by kernel_rfl)) (by unfold Func.isWrapper; first | (rw [if_pos (by decide +kernel)]; kernel_rfl) | (rw [if_neg (by decide +kernel)]; exact ⟨rfl, rfl⟩))
  (fun os started H enc _ F => by rw [OpenClaim.pre_eq_preRow]; exact lifted os started H enc F)

theorem plain (f : FuncId) (fn : Func) (hf : Tryz.pinned.checked.prog.funcNamed "voussoir/voussoirlaw14.ReplicaOnce" = some f) (hfn : Tryz.pinned.checked.prog.funcs[f]? = some fn) :
  false = Tryz.pinned.checked.prog.looks [] ∧ ∀ (j : Nat) t, fn.params[j]? = some t → Tryz.pinned.checked.prog.wantsStandIn t = false := by
 obtain rfl : f = 9 := Option.some.inj ((show Tryz.prog.funcNamed "voussoir/voussoirlaw14.ReplicaOnce" = some 9 by kernel_rfl).symm.trans hf) |>.symm
 obtain rfl : fn = Tryz.f9 := (Option.some.inj (Tryz.func9.symm.trans hfn)).symm
 refine ⟨by kernel_rfl, fun j t ht => ?_⟩
 have hall : (Tryz.f9.params.toList.all fun t => !Tryz.pinned.checked.prog.wantsStandIn t) = true := by kernel_rfl
 have := List.all_eq_true.1 hall t (Array.mem_toList_iff.2 (Array.mem_of_getElem? ht))
 simpa using this

theorem card : Rows.ReplicaOnceCardSaid :=
 Claim7.holds_tied_plain_at .later [] _ _ _ _ said (fun _ h => by cases h) (by kernel_rfl) (fun _ h => by cases h) replicaOnce_row_tie rfl ⟨rfl, rfl⟩ (by kernel_rfl) rfl plain (by kernel_rfl)
end Go.Proofs.YtpnbpcopdckgpaaGreatDoor.replicaOnce
