import Derived.Test.YtpnbpcopdckgpaaGreatDoorZ8231e661
import Derived.Test.YtpnbpcopdckgpaaGreatDoorZ3df2ff41
namespace Go.Proofs.YtpnbpcopdckgpaaGreatDoor.replicaIDs
open Go Go.RowKit Go.ChangeShapes Go.WideShapes Go.ChangeAt Go.Proofs.YtpnbpcopdckgpaaGreatDoor.V Go.Proofs.YtpnbpcopdckgpaaGreatDoor.E
open Go.WideMaps Go.WideElems
open Go.ChangeMaps (open_string)
set_option maxRecDepth 4000

theorem contract (H : Type) (enc : TypeId × Value → H) (W : World) (base : Nat) (args : Array Value) (ds gs : List (DataW H)) (before : List MemPlace)
  (hval : ∀ (j : Nat) t v, Tryz.f5.params[j]? = some t → args[j]? = some v → Value.okWide Tryz.prog W .any base t v)
  (hW : DataW.Whole enc Tryz.prog Tryz.f5.params.toList Rows.replicaIDsSpec.vars false W args.toList ds gs before)
  (hk : Rows.uptoSmall H (ds ++ gs) = true)
  (hsz : (DataW.weightsEach Tryz.prog (Tryz.f5.params.toList ++ []) (ds ++ gs)).all (· ≤ reachBytes) = true) (hT : RT W) :
  Calls Tryz.prog 5 args W fun e W' => ∃ v, e = .returned v ∧ Rows.replicaIDsSpec.post enc Tryz.prog Tryz.f5 false true false false W args v W' := by
 have hW' := hW
 obtain ⟨p, q, hA0, hV, rfl, hfz, hnd⟩ := hW
 have hA : DataW.TrodAll enc Tryz.prog W 0 (fun _ => true) true Tryz.f5.params.toList args.toList ds p := hA0
 rw [Tryz.params5] at hA hval hsz
 obtain ⟨v0, vs0, d0, ds0, p0, q0, hargs, rfl, rfl, h0, r0⟩ := trodAll_cons hA
 obtain ⟨v1, vs1, d1, ds1, p1, q1, rfl, rfl, rfl, h1, r1⟩ := trodAll_cons r0
 obtain ⟨v2, vs2, d2, ds2, p2, q2, rfl, rfl, rfl, h2, r2⟩ := trodAll_cons r1
 obtain ⟨v3, vs3, d3, ds3, p3, q3, rfl, rfl, rfl, h3, r3⟩ := trodAll_cons r2
 obtain ⟨v4, vs4, d4, ds4, p4, q4, rfl, rfl, rfl, h4, r4⟩ := trodAll_cons r3
 obtain ⟨v5, vs5, d5, ds5, p5, q5, rfl, rfl, rfl, h5, r5⟩ := trodAll_cons r4
 obtain ⟨rfl, rfl, rfl⟩ := trodAll_nil r5
 obtain rfl : args = #[v0, v1, v2, v3, v4, v5] := by cases args; simp_all
 obtain ⟨rfl, rfl⟩ := trodVars_none hV
 have hlt : ∀ x ∈ p0 ++ p1 ++ p2 ++ p3 ++ p4 ++ p5, x.block < W.heap.size := fun x hx => hW'.lt x (by simpa using hx)
 have hl0 : ∀ x ∈ p0, x.block < W.heap.size := fun x hx => hlt x (by simp [hx])
 have hl1 : ∀ x ∈ p1, x.block < W.heap.size := fun x hx => hlt x (by simp [hx])
 have hl2 : ∀ x ∈ p2, x.block < W.heap.size := fun x hx => hlt x (by simp [hx])
 have hl3 : ∀ x ∈ p3, x.block < W.heap.size := fun x hx => hlt x (by simp [hx])
 have hl4 : ∀ x ∈ p4, x.block < W.heap.size := fun x hx => hlt x (by simp [hx])
 have hl5 : ∀ x ∈ p5, x.block < W.heap.size := fun x hx => hlt x (by simp [hx])
 have k0 := h0
 have k1 := h1
 have k2 := h2
 have k3 := h3
 have k4 := h4
 have k5 := h5
 obtain ⟨n0, rfl, hd0, -, wf0⟩ := open_int Tryz.underlying22 (hval 0 22 v0 rfl rfl) h0
 have z0 : 0 ≤ n0 ∧ n0 ≤ 18446744073709551615 := by simpa [Lit.wf, IntKind.min, IntKind.max, IntKind.signed, IntKind.bits] using wf0
 obtain ⟨x0, rfl⟩ : ∃ x : UInt64, n0 = U64 x := ⟨UInt64.ofNat n0.toNat, by rw [u64_ofNat]; omega⟩
 obtain ⟨s1, rfl, hd1, -, hs1⟩ := open_string Tryz.underlying9 (hval 1 9 v1 rfl rfl) h1
 obtain ⟨l1, rfl⟩ := exists_B s1
 rw [B_data] at hd1
 have z1 : l1.length ≤ 140737488351232 := by
  have := sized_string hsz (j := 1) (t := 9) (bytes := l1) rfl (by simp [hd1])
  simpa [reachBytes] using this
 have u1 : l1.length + 1 = Rows.uptoBulk d1 := by rw [hd1]; rfl
 obtain ⟨s2, rfl, hd2, -, hs2⟩ := open_string Tryz.underlying9 (hval 2 9 v2 rfl rfl) h2
 obtain ⟨l2, rfl⟩ := exists_B s2
 rw [B_data] at hd2
 have z2 : l2.length ≤ 140737488351232 := by
  have := sized_string hsz (j := 2) (t := 9) (bytes := l2) rfl (by simp [hd2])
  simpa [reachBytes] using this
 have u2 : l2.length + 1 = Rows.uptoBulk d2 := by rw [hd2]; rfl
 obtain ⟨n3, rfl, hd3, -, wf3⟩ := open_int Tryz.underlying22 (hval 3 22 v3 rfl rfl) h3
 have z3 : 0 ≤ n3 ∧ n3 ≤ 18446744073709551615 := by simpa [Lit.wf, IntKind.min, IntKind.max, IntKind.signed, IntKind.bits] using wf3
 obtain ⟨x3, rfl⟩ : ∃ x : UInt64, n3 = U64 x := ⟨UInt64.ofNat n3.toNat, by rw [u64_ofNat]; omega⟩
 obtain ⟨s4, rfl, hd4, -, hs4⟩ := open_string Tryz.underlying9 (hval 4 9 v4 rfl rfl) h4
 obtain ⟨l4, rfl⟩ := exists_B s4
 rw [B_data] at hd4
 have z4 : l4.length ≤ 140737488351232 := by
  have := sized_string hsz (j := 4) (t := 9) (bytes := l4) rfl (by simp [hd4])
  simpa [reachBytes] using this
 have u4 : l4.length + 1 = Rows.uptoBulk d4 := by rw [hd4]; rfl
 obtain ⟨s5, rfl, hd5, -, hs5⟩ := open_string Tryz.underlying9 (hval 5 9 v5 rfl rfl) h5
 obtain ⟨l5, rfl⟩ := exists_B s5
 rw [B_data] at hd5
 have z5 : l5.length ≤ 140737488351232 := by
  have := sized_string hsz (j := 5) (t := 9) (bytes := l5) rfl (by simp [hd5])
  simpa [reachBytes] using this
 have u5 : l5.length + 1 = Rows.uptoBulk d5 := by rw [hd5]; rfl
 clear hA0
 have hbulk := of_decide_eq_true hk
 simp only [List.append_nil, Rows.uptoBulkAll] at hbulk
 simp only [List.append_nil] at hW'
 refine (FC.callsA (repIDs_fc shaInR ⟨kInR, fInR⟩ x0 l1 l2 x3 l4 l5 (by omega) (by omega) (by omega) (by omega)) hT (.cons (.v _) (.cons (.v _) (.cons (.v _) (.cons (.v _) (.cons (.v _) (.cons (.v _) (.nil)))))))).mono fun e W' ⟨he, hf⟩ => ?_
 subst he
 have hb := hf.below
 refine ⟨_, rfl, post_of_below (pv := []) hW' (fun _ _ _ => trodAll_cons_mk (shut_bool Tryz.underlying4 _) trodAll_mk0) ?_ (fun _ _ => rfl) (List.append_nil _).symm hb (ok_one (by kernel_rfl) rfl (okWide_bool_mk Tryz.underlying4 _))⟩
 intro sp hsp
 exact trodAll_cons_mk (stays (by kernel_rfl) (of_decide_eq_true (by kernel_rfl)) k0 hb hl0 sp (fun x hx => hsp x (by simp [hx]))) (trodAll_cons_mk (stays (by kernel_rfl) (of_decide_eq_true (by kernel_rfl)) k1 hb hl1 sp (fun x hx => hsp x (by simp [hx]))) (trodAll_cons_mk (stays (by kernel_rfl) (of_decide_eq_true (by kernel_rfl)) k2 hb hl2 sp (fun x hx => hsp x (by simp [hx]))) (trodAll_cons_mk (stays (by kernel_rfl) (of_decide_eq_true (by kernel_rfl)) k3 hb hl3 sp (fun x hx => hsp x (by simp [hx]))) (trodAll_cons_mk (stays (by kernel_rfl) (of_decide_eq_true (by kernel_rfl)) k4 hb hl4 sp (fun x hx => hsp x (by simp [hx]))) (trodAll_mk1 (stays (by kernel_rfl) (of_decide_eq_true (by kernel_rfl)) k5 hb hl5 sp (fun x hx => hsp x (by simp [hx]))))))))

theorem laid_met (os : Os) : laidMet Tryz.prog Rows.replicaIDsUptoRow.laid ((laidWorldR os).forCall (fun _ _ => 0) ⟨#[], #[.int .u64 0, .string .empty, .string .empty, .int .u64 0, .string .empty, .string .empty], []⟩).memory :=
 laidMet_of_run' 8 (by kernel_rfl) (by kernel_rfl)
theorem reads (os : Os) {H : Type} (enc : TypeId × Value → H) : ∃ places, DataW.whole enc Tryz.prog ((laidWorldR os).forCall (fun _ _ => 0) ⟨#[], #[.int .u64 0, .string .empty, .string .empty, .int .u64 0, .string .empty, .string .empty], []⟩).memory Tryz.f5.params.toList Rows.replicaIDsSpec.vars false (#[.int .u64 0, .string .empty, .string .empty, .int .u64 0, .string .empty, .string .empty] : Array Value).toList 8 = some ([.lit (.int .u64 0), .lit (.string []), .lit (.string []), .lit (.int .u64 0), .lit (.string []), .lit (.string [])], [], places) :=
 ⟨[], by kernel_rfl⟩

set_option maxRecDepth 100000 in
theorem lifted (os : Os) (started : os.Started) (H : Type) (enc : TypeId × Value → H) (F : Stop.Interp) :
  ReturnsInHanded {} Tryz.checked os 5 .any ((Rows.OpenSpec.upto Rows.replicaIDsSpec).preRow enc Tryz.prog Tryz.f5 Rows.replicaIDsUptoRow.domain false Rows.replicaIDsUptoRow.laid) (((Rows.OpenSpec.upto Rows.replicaIDsSpec).at F).post enc Tryz.prog Tryz.f5 false true false false) := by
 obtain ⟨places, hx⟩ := reads os enc
 refine returnsInHanded_of_row (C := Tryz.checked) (s := Rows.OpenSpec.upto Rows.replicaIDsSpec) own started (by kernel_rfl) Tryz.func5
  (witness_row_at (enc := enc) (C := Tryz.checked) false (laidWorldR os) #[.int .u64 0, .string .empty, .string .empty, .int .u64 0, .string .empty, .string .empty] rfl (by kernel_rfl) (by kernel_rfl) (by kernel_rfl)
   (OpenSpec.preRow_of_cond 8 hx (by kernel_rfl) (fun k hk => by cases hk; kernel_rfl) (by kernel_rfl) (laid_met os))) ?_
 intro W base args ds gs before hval hW _ hcond hsz hL _ _
 exact contract H enc W base args ds gs before hval hW (hcond _ rfl) hsz (tabR_of hL (by simp [Rows.replicaIDsUptoRow]) (by simp [Rows.replicaIDsUptoRow]) (by simp [Rows.replicaIDsUptoRow]) (by simp [Rows.replicaIDsUptoRow]))

theorem said : Rows.ReplicaIDsUptoSaid :=
 OpenClaim.holds_of_cond 5 Tryz.f5 rfl rfl rfl rfl rfl rfl rfl ⟨rfl, rfl, rfl, rfl, rfl⟩ rfl rfl rfl rfl rfl (by kernel_rfl) Tryz.func5 (by kernel_rfl)
  (of_decide_eq_true (by kernel_rfl)) (by unfold Func.isWrapper; first | (rw [if_pos (by decide +kernel)]; kernel_rfl) | (rw [if_neg (by decide +kernel)]; exact ⟨rfl, rfl⟩))
  (fun os started H enc _ F => by rw [OpenClaim.pre_eq_preRow]; exact lifted os started H enc F)

theorem plain (f : FuncId) (fn : Func) (hf : Tryz.pinned.checked.prog.funcNamed "voussoir/voussoirlaw14.ReplicaIDs" = some f) (hfn : Tryz.pinned.checked.prog.funcs[f]? = some fn) :
  false = Tryz.pinned.checked.prog.looks [] ∧ ∀ (j : Nat) t, fn.params[j]? = some t → Tryz.pinned.checked.prog.wantsStandIn t = false := by
 obtain rfl : f = 5 := Option.some.inj ((show Tryz.prog.funcNamed "voussoir/voussoirlaw14.ReplicaIDs" = some 5 by kernel_rfl).symm.trans hf) |>.symm
 obtain rfl : fn = Tryz.f5 := (Option.some.inj (Tryz.func5.symm.trans hfn)).symm
 refine ⟨by kernel_rfl, fun j t ht => ?_⟩
 have hall : (Tryz.f5.params.toList.all fun t => !Tryz.pinned.checked.prog.wantsStandIn t) = true := by kernel_rfl
 have := List.all_eq_true.1 hall t (Array.mem_toList_iff.2 (Array.mem_of_getElem? ht))
 simpa using this

theorem card : Rows.ReplicaIDsUptoCardSaid :=
 Claim7.holds_tied_plain_at .later [] _ _ _ _ said (fun _ h => by cases h) (by kernel_rfl) (fun _ h => by cases h) replicaIDsUpto_row_tie rfl ⟨rfl, rfl⟩ (by kernel_rfl) rfl plain (by kernel_rfl)
end Go.Proofs.YtpnbpcopdckgpaaGreatDoor.replicaIDs
