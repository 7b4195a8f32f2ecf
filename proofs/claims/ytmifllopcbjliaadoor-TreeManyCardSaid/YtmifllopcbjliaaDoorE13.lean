/- From concrete promises to abstract ones, and back. -/
import Derived.Test.YtmifllopcbjliaaDoorE12
namespace Go.Proofs.YtmifllopcbjliaaDoor.E
open Go Go.RowKit Go.Proofs.YtmifllopcbjliaaDoor.V

theorem HSat.fr {A : Amb} {h : Nat → Option AO} {u : Nat → Bool} {ρ : Env} {w w' : World} (H : HSat A ρ h u w) (hf : Fr [] w w') : HSat A ρ h u w' ∧ (∀ av x, VRel (Nh A h ρ w) ρ w av x → VRel (Nh A h ρ w') ρ w' av x) ∧ ∀ b o, w.heap.size ≤ b → b < w'.heap.size → Nh A h ρ w' b o :=
  H.grow hf.os hf.tape hf.output hf.size (fun k hk => hf.block k hk (by simp))

/-- a function that only computes: its concrete promise gives the abstract one -/
theorem FC.of_calls {P : Program} {G : List (Nat × Array Value)} {f : FuncId} {fn : Func} {c : Code} {args : List AV} {r : Value} (hf : P.funcs[f]? = some fn) (hname : (fn.name == "runtime.NumGoroutine") = false) (hb : fn.body = some c) (belA : AV.belL (blt 0) args)
    (h : ∀ (A : Amb) (vs : Array Value), A.G = G → HSat A A.ρ (hl []) (blt 0) A.w → vs.size = args.length → (∀ (i : Nat) (c : AV) (x : Value), args[i]? = some c → vs[i]? = some x → VRel (Nh A (hl []) A.ρ A.w) A.ρ A.w c x) →
      Calls P f vs A.w fun e w' => e = .returned r ∧ Fr [] A.w w') : FC P G f args [] (.v r) [] := by
  refine ⟨⟨fn, c, hf, hname, hb⟩, belA, trivial, Nat.le_refl _, ?_⟩
  intro A vs hG hnA HS hAB hsz hargs
  refine (h A vs hG HS hsz hargs).mono ?_
  rintro e w' ⟨rfl, hfr⟩
  exact ⟨r, A.ρ, rfl, (HS.fr hfr).1, .v r⟩
theorem tab_of {A : Amb} {h : Nat → Option AO} {u : Nat → Bool} {ρ : Env} {w : World} (H : HSat A ρ h u w) {G : List (Nat × Array Value)} (hG : A.G = G) {g : Nat} {arr : Array Value} (hm : (g, arr) ∈ G) : ∃ T, w.heap[g]? = some (.cells arr T (0, 0)) := by
  obtain ⟨⟨T, h1⟩, h2⟩ := H.tabs _ (by rw [hG]; exact hm)
  exact ⟨T, (H.block g (Array.getElem?_eq_some_iff.1 h1).1 h2).trans h1⟩

def allN (w : World) : Nat → Nat → Prop := fun b _ => b < w.heap.size
def noE : Env := ⟨fun _ => none, fun _ => none⟩
/-- and back -/
theorem FC.calls {P : Program} {G : List (Nat × Array Value)} {f : FuncId} {args : List AV} {r : Value} (F : FC P G f args [] (.v r) []) (w : World) (hT : ∀ x ∈ G, ∃ T, w.heap[x.1]? = some (.cells x.2 T (0, 0))) (vs : Array Value) (hsz : vs.size = args.length)
    (hargs : ∀ (i : Nat) (c : AV) (x : Value), args[i]? = some c → vs[i]? = some x → VRel (allN w) noE w c x) : Calls P f vs w fun e w' => e = .returned r ∧ Fr [] w w' := by
  let A : Amb := ⟨w, allN w, fun _ _ => False, fun _ => False, 0, G, noE⟩
  have hno : ∀ i ob, hl [] i = some ob → False := fun i ob h => by have := (hl_some h).1; simp at this
  have HS : HSat A noE (hl []) (blt 0) w :=
    ⟨rfl, rfl, rfl, Nat.le_refl _, fun _ _ _ => rfl, fun _ _ _ => rfl, fun _ _ h => h, fun _ _ _ h => h, fun _ _ h => h, fun x hx => ⟨hT x hx, fun h => h⟩, (fun _ _ h => by cases h), (fun _ _ h => by cases h), (fun i hi => by cases hi), (fun _ _ h => by cases h), (fun _ _ h => by cases h),
      fun i ob h => (hno i ob h).elim, fun i ob _ _ h => (hno i ob h).elim, fun i ob _ h => (hno i ob h).elim, fun i j oi oj b h => (hno i oi h).elim⟩
  refine (F.call A vs rfl rfl HS (fun _ h => h.elim) hsz (fun i c x hc hx => (hargs i c x hc hx).mono (fun b o hb => ⟨hb, .inl hb, fun i ob h => (hno i ob h).elim⟩) (Env.le_refl _) (fun _ _ _ => rfl))).mono ?_
  rintro e w' ⟨v, ρ', rfl, HS', hv⟩
  refine ⟨by rw [hv.raw], ⟨HS'.os, HS'.tape, HS'.output, HS'.size, fun k hk _ => HS'.block k hk (fun h => h)⟩⟩
end Go.Proofs.YtmifllopcbjliaaDoor.E
