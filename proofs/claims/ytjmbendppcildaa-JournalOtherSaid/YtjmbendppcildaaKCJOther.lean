import Derived.Test.YtjmbendppcildaaZfb0eddde
/- JournalOther: for every list of records and every text the law returns true: a save leaves the sector in which the record ahead stands as it is; what is written over the other sector, and is not right, is not taken. No condition. -/
namespace Go.Proofs.Ytjmbendppcildaa.journalOther
open Go Go.RowKit Go.ChangeShapes Go.WideShapes Go.ChangeAt Go.Proofs.Ytjmbendppcildaa.V Go.Proofs.Ytjmbendppcildaa.E
open Go.WideMaps Go.WideElems
open Go.ChangeMaps (open_string)
set_option maxRecDepth 4000

/-- WHAT THE WALK GIVES, for every argument and every world that holds the tables. -/
theorem contract (H : Type) (enc : TypeId × Value → H) (W : World) (base : Nat) (args : Array Value) (ds gs : List (DataW H)) (before : List MemPlace)
    (hval : ∀ (j : Nat) t v, Try.f7.params[j]? = some t → args[j]? = some v → Value.okWide Try.prog W .any base t v)
    (hW : DataW.Whole enc Try.prog Try.f7.params.toList Rows.journalOtherSpec.vars false W args.toList ds gs before)
    (hsz : (DataW.weightsEach Try.prog (Try.f7.params.toList ++ []) (ds ++ gs)).all (· ≤ reachBytes) = true) :
    Calls Try.prog 7 args W fun e W' => ∃ v, e = .returned v ∧ Rows.journalOtherSpec.post enc Try.prog Try.f7 false true false false W args v W' := by
  have hW' := hW
  obtain ⟨p, q, hA0, hV, rfl, hfz, hnd⟩ := hW
  have hA : DataW.TrodAll enc Try.prog W 0 (fun _ => true) true Try.f7.params.toList args.toList ds p := hA0
  rw [Try.params7] at hA hval hsz
  obtain ⟨v0, vs0, d0, ds0, p0, q0, hargs, rfl, rfl, h0, r0⟩ := trodAll_cons hA
  obtain ⟨v1, vs1, d1, ds1, p1, q1, rfl, rfl, rfl, h1, r1⟩ := trodAll_cons r0
  obtain ⟨rfl, rfl, rfl⟩ := trodAll_nil r1
  obtain rfl : args = #[v0, v1] := by cases args; simp_all
  obtain ⟨rfl, rfl⟩ := trodVars_none hV
  have hlt : ∀ x ∈ p0 ++ p1, x.block < W.heap.size := fun x hx => hW'.lt x (by simpa using hx)
  have hl0 : ∀ x ∈ p0, x.block < W.heap.size := fun x hx => hlt x (by simp [hx])
  have hl1 : ∀ x ∈ p1, x.block < W.heap.size := fun x hx => hlt x (by simp [hx])
  have k0 := h0
  have k1 := h1
  obtain ⟨sa0, sl0, sc0, rfl⟩ := okWide_slice Try.underlying39 (hval 0 39 v0 rfl rfl)
  obtain ⟨av0, is0, vr0⟩ := read_one (sh := (.sl 39 (.str 9))) (.sl Try.underlying39 (by kernel_rfl) (by decide) (.str Try.underlying9)) rfl rfl (weigh hsz (j := 0) rfl rfl) h0
  obtain ⟨ss0, rfl, hq0, hn0⟩ := IsSh.strs is0
  have y0 := hn0
  unfold maxLen at y0
  obtain ⟨s1, rfl, hd1, -, hs1⟩ := open_string Try.underlying9 (hval 1 9 v1 rfl rfl) h1
  obtain ⟨l1, rfl⟩ := exists_B s1
  rw [B_data] at hd1
  have z1 : l1.length ≤ 140737488351232 := by
    have := sized_string hsz (j := 1) (t := 9) (bytes := l1) rfl (by simp [hd1])
    simpa [reachBytes] using this
  clear hA0
  simp only [List.append_nil] at hW'
  refine (FC.callsA (other_fc ss0 l1 (by omega) (fun m hm => by have := hq0 _ (el_mem ss0 m hm); unfold reachBytes at this; omega) (by omega)) (fun x (hx : x ∈ ([] : List (Nat × Array Value))) => by cases hx) (.cons vr0 (.cons (.v _) (.nil)))).mono fun e W' ⟨he, hf⟩ => ?_
  subst he
  have hb := hf.below
  refine ⟨_, rfl, post_of_below (pv := []) hW' (fun _ _ _ => trodAll_cons_mk (shut_bool Try.underlying4 _) trodAll_mk0) ?_ (fun _ _ => rfl) (List.append_nil _).symm hb (ok_one (by kernel_rfl) rfl (okWide_bool_mk Try.underlying4 _))⟩
  intro sp hsp
  exact trodAll_cons_mk (stays (by kernel_rfl) (of_decide_eq_true (by kernel_rfl)) k0 hb hl0 sp (fun x hx => hsp x (by simp [hx]))) (trodAll_mk1 (stays (by kernel_rfl) (of_decide_eq_true (by kernel_rfl)) k1 hb hl1 sp (fun x hx => hsp x (by simp [hx]))))

theorem laid_met (os : Os) : laidMet Try.prog Rows.journalOtherRow.laid ((laidWorld os).forCall (fun _ _ => 0) ⟨#[], #[.slice none 0 0, .string .empty], []⟩).memory :=
  laidMet_of_run' 8 (by kernel_rfl) (by kernel_rfl)
theorem reads (os : Os) {H : Type} (enc : TypeId × Value → H) : ∃ places, DataW.whole enc Try.prog ((laidWorld os).forCall (fun _ _ => 0) ⟨#[], #[.slice none 0 0, .string .empty], []⟩).memory Try.f7.params.toList Rows.journalOtherSpec.vars false (#[.slice none 0 0, .string .empty] : Array Value).toList 8 = some ([.nil, .lit (.string [])], [], places) :=
  ⟨[], by kernel_rfl⟩

set_option maxRecDepth 100000 in
theorem lifted (os : Os) (started : os.Started) (H : Type) (enc : TypeId × Value → H) (F : Stop.Interp) :
    ReturnsInHanded {} Try.checked os 7 .any ((OpenSpec.ofChange Rows.journalOtherSpec).preRow enc Try.prog Try.f7 Rows.journalOtherRow.domain false Rows.journalOtherRow.laid) (((OpenSpec.ofChange Rows.journalOtherSpec).at F).post enc Try.prog Try.f7 false true false false) := by
  obtain ⟨places, hx⟩ := reads os enc
  refine returnsInHanded_of_row (C := Try.checked) (s := OpenSpec.ofChange Rows.journalOtherSpec) own started (by kernel_rfl) Try.func7
    (witness_row_at (enc := enc) (C := Try.checked) false (laidWorld os) #[.slice none 0 0, .string .empty] rfl (by kernel_rfl) (by kernel_rfl) (by kernel_rfl)
      (OpenSpec.preRow_of_cond 8 hx (by kernel_rfl) (fun k hk => by cases hk) (by kernel_rfl) (laid_met os))) ?_
  intro W base args ds gs before hval hW _ _ hsz _ _ _
  exact contract H enc W base args ds gs before hval hW hsz

theorem said : Rows.JournalOtherSaid :=
  OpenClaim.holds_of_cond 7 Try.f7 rfl rfl rfl rfl rfl rfl rfl ⟨rfl, rfl, rfl, rfl, rfl⟩ rfl rfl rfl rfl rfl (by kernel_rfl) Try.func7 (by kernel_rfl)
    (of_decide_eq_true (by kernel_rfl)) (by unfold Func.isWrapper; first | (rw [if_pos (by decide +kernel)]; kernel_rfl) | (rw [if_neg (by decide +kernel)]; exact ⟨rfl, rfl⟩))
    (fun os started H enc _ F => by rw [OpenClaim.pre_eq_preRow]; exact lifted os started H enc F)

end Go.Proofs.Ytjmbendppcildaa.journalOther
