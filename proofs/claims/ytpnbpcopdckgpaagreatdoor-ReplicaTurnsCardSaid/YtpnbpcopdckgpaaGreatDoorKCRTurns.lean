import Derived.Test.YtpnbpcopdckgpaaGreatDoorZ07b48623
import Derived.Test.YtpnbpcopdckgpaaGreatDoorZ7866a8bb
namespace Go.Proofs.YtpnbpcopdckgpaaGreatDoor.replicaTurns
open Go Go.RowKit Go.ChangeShapes Go.WideShapes Go.ChangeAt Go.Proofs.YtpnbpcopdckgpaaGreatDoor.V Go.Proofs.YtpnbpcopdckgpaaGreatDoor.E
open Go.WideMaps Go.WideElems
open Go.ChangeMaps (open_string)
set_option maxRecDepth 4000
theorem contract (H : Type) (enc : TypeId × Value → H) (W : World) (base : Nat) (args : Array Value) (ds gs : List (DataW H)) (before : List MemPlace)
  (hval : ∀ (j : Nat) t v, Tryz.f6.params[j]? = some t → args[j]? = some v → Value.okWide Tryz.prog W .any base t v)
  (hW : DataW.Whole enc Tryz.prog Tryz.f6.params.toList Rows.replicaTurnsSpec.vars false W args.toList ds gs before)
  (hsz : (DataW.weightsEach Tryz.prog (Tryz.f6.params.toList ++ []) (ds ++ gs)).all (· ≤ reachBytes) = true) (hT : RT W) :
  Calls Tryz.prog 6 args W fun e W' => ∃ v, e = .returned v ∧ Rows.replicaTurnsSpec.post enc Tryz.prog Tryz.f6 false true false false W args v W' := by
 have hW' := hW
 obtain ⟨p, q, hA0, hV, rfl, hfz, hnd⟩ := hW
 have hA : DataW.TrodAll enc Tryz.prog W 0 (fun _ => true) true Tryz.f6.params.toList args.toList ds p := hA0
 rw [Tryz.params6] at hA hval hsz
 obtain ⟨v0, vs0, d0, ds0, p0, q0, hargs, rfl, rfl, h0, r0⟩ := trodAll_cons hA
 obtain ⟨v1, vs1, d1, ds1, p1, q1, rfl, rfl, rfl, h1, r1⟩ := trodAll_cons r0
 obtain ⟨rfl, rfl, rfl⟩ := trodAll_nil r1
 obtain rfl : args = #[v0, v1] := by cases args; simp_all
 obtain ⟨rfl, rfl⟩ := trodVars_none hV
 have hlt : ∀ x ∈ p0 ++ p1, x.block < W.heap.size := fun x hx => hW'.lt x (by simpa using hx)
 have hl0 : ∀ x ∈ p0, x.block < W.heap.size := fun x hx => hlt x (by simp [hx])
 have hl1 : ∀ x ∈ p1, x.block < W.heap.size := fun x hx => hlt x (by simp [hx])
 have k0 := h0
 have k1 := h1
 obtain ⟨n0, rfl, hd0, -, wf0⟩ := open_int Tryz.underlying3 (hval 0 3 v0 rfl rfl) h0
 have z0 : -9223372036854775808 ≤ n0 ∧ n0 ≤ 9223372036854775807 := by simpa [Lit.wf, IntKind.min, IntKind.max, IntKind.signed, IntKind.bits] using wf0
 obtain ⟨s1, rfl, hd1, -, hs1⟩ := open_string Tryz.underlying9 (hval 1 9 v1 rfl rfl) h1
 obtain ⟨l1, rfl⟩ := exists_B s1
 rw [B_data] at hd1
 have z1 : l1.length ≤ 140737488351232 := by
  have := sized_string hsz (j := 1) (t := 9) (bytes := l1) rfl (by simp [hd1])
  simpa [reachBytes] using this
 clear hA0
 simp only [List.append_nil] at hW'
 refine (FC.callsA (repTurns_fc shaInR ⟨kInR, fInR⟩ n0 l1 z0.1 z0.2) hT (.cons (.v _) (.cons (.v _) (.nil)))).mono fun e W' ⟨he, hf⟩ => ?_
 subst he
 have hb := hf.below
 refine ⟨_, rfl, post_of_below (pv := []) hW' (fun _ _ _ => trodAll_cons_mk (shut_bool Tryz.underlying4 _) trodAll_mk0) ?_ (fun _ _ => rfl) (List.append_nil _).symm hb (ok_one (by kernel_rfl) rfl (okWide_bool_mk Tryz.underlying4 _))⟩
 intro sp hsp
 exact trodAll_cons_mk (stays (by kernel_rfl) (of_decide_eq_true (by kernel_rfl)) k0 hb hl0 sp (fun x hx => hsp x (by simp [hx]))) (trodAll_mk1 (stays (by kernel_rfl) (of_decide_eq_true (by kernel_rfl)) k1 hb hl1 sp (fun x hx => hsp x (by simp [hx]))))
theorem laid_met (os : Os) : laidMet Tryz.prog Rows.replicaTurnsRow.laid ((laidWorldR os).forCall (fun _ _ => 0) ⟨#[], #[.int .i64 0, .string .empty], []⟩).memory :=
 laidMet_of_run' 8 (by kernel_rfl) (by kernel_rfl)
theorem reads (os : Os) {H : Type} (enc : TypeId × Value → H) : ∃ places, DataW.whole enc Tryz.prog ((laidWorldR os).forCall (fun _ _ => 0) ⟨#[], #[.int .i64 0, .string .empty], []⟩).memory Tryz.f6.params.toList Rows.replicaTurnsSpec.vars false (#[.int .i64 0, .string .empty] : Array Value).toList 8 = some ([.lit (.int .i64 0), .lit (.string [])], [], places) :=
 ⟨[], by kernel_rfl⟩
set_option maxRecDepth 100000 in
theorem lifted (os : Os) (started : os.Started) (H : Type) (enc : TypeId × Value → H) (F : Stop.Interp) :
  ReturnsInHanded {} Tryz.checked os 6 .any ((OpenSpec.ofChange Rows.replicaTurnsSpec).preRow enc Tryz.prog Tryz.f6 Rows.replicaTurnsRow.domain false Rows.replicaTurnsRow.laid) (((OpenSpec.ofChange Rows.replicaTurnsSpec).at F).post enc Tryz.prog Tryz.f6 false true false false) := by
 obtain ⟨places, hx⟩ := reads os enc
 refine returnsInHanded_of_row (C := Tryz.checked) (s := OpenSpec.ofChange Rows.replicaTurnsSpec) own started (by kernel_rfl) Tryz.func6
  (witness_row_at (enc := enc) (C := Tryz.checked) false (laidWorldR os) #[.int .i64 0, .string .empty] rfl (by kernel_rfl) (by kernel_rfl) (by kernel_rfl)
   (OpenSpec.preRow_of_cond 8 hx (by kernel_rfl) (fun k hk => by cases hk) (by kernel_rfl) (laid_met os))) ?_
 intro W base args ds gs before hval hW _ _ hsz hL _ _
 exact contract H enc W base args ds gs before hval hW hsz (tabR_of hL (by simp [Rows.replicaTurnsRow]) (by simp [Rows.replicaTurnsRow]) (by simp [Rows.replicaTurnsRow]) (by simp [Rows.replicaTurnsRow]))
theorem said : Rows.ReplicaTurnsSaid :=
 OpenClaim.holds_of_cond 6 Tryz.f6 rfl rfl rfl rfl rfl rfl rfl ⟨rfl, rfl, rfl, rfl, rfl⟩ rfl rfl rfl rfl rfl (by kernel_rfl) Tryz.func6 (by kernel_rfl)
  (of_decide_eq_true (by kernel_rfl)) (by unfold Func.isWrapper; first | (rw [if_pos (by decide +kernel)]; kernel_rfl) | (rw [if_neg (by decide +kernel)]; exact ⟨rfl, rfl⟩))
  (fun os started H enc _ F => by rw [OpenClaim.pre_eq_preRow]; exact lifted os started H enc F)
theorem plain (f : FuncId) (fn : Func) (hf : Tryz.pinned.checked.prog.funcNamed "voussoir/voussoirlaw14.ReplicaTurns" = some f) (hfn : Tryz.pinned.checked.prog.funcs[f]? = some fn) :
  false = Tryz.pinned.checked.prog.looks [] ∧ ∀ (j : Nat) t, fn.params[j]? = some t → Tryz.pinned.checked.prog.wantsStandIn t = false := by
 obtain rfl : f = 6 := Option.some.inj ((show Tryz.prog.funcNamed "voussoir/voussoirlaw14.ReplicaTurns" = some 6 by kernel_rfl).symm.trans hf) |>.symm
 obtain rfl : fn = Tryz.f6 := (Option.some.inj (Tryz.func6.symm.trans hfn)).symm
 refine ⟨by kernel_rfl, fun j t ht => ?_⟩
 have hall : (Tryz.f6.params.toList.all fun t => !Tryz.pinned.checked.prog.wantsStandIn t) = true := by kernel_rfl
 have := List.all_eq_true.1 hall t (Array.mem_toList_iff.2 (Array.mem_of_getElem? ht))
 simpa using this
theorem card : Rows.ReplicaTurnsCardSaid :=
 Claim7.holds_tied_plain_at .later [] _ _ _ _ said (fun _ h => by cases h) (by kernel_rfl) (fun _ h => by cases h) replicaTurns_row_tie rfl ⟨rfl, rfl⟩ (by kernel_rfl) rfl plain (by kernel_rfl)
end Go.Proofs.YtpnbpcopdckgpaaGreatDoor.replicaTurns