/- What a function promises in abstract words; how it is shown; how a call uses it. -/
import Derived.Test.YtmifllopcbjliaaDoorE3
namespace Go.Proofs.YtmifllopcbjliaaDoor.E
open Go Go.RowKit Go.Proofs.YtmifllopcbjliaaDoor.V

/-- entries told by a list: the i-th is of name i -/
def hl (H : List (Option AO)) : Nat → Option AO := fun i => (H[i]?).join
theorem hl_some {H : List (Option AO)} {i : Nat} {ob : AO} (h : hl H i = some ob) : i < H.length ∧ H[i]? = some (some ob) := by
  unfold hl at h
  cases hh : H[i]? with
  | none => rw [hh] at h; cases h
  | some x =>
    rw [hh] at h
    cases x with
    | none => cases h
    | some y => cases h; exact ⟨(List.getElem?_eq_some_iff.1 hh).1, rfl⟩
def blt (m : Nat) : Nat → Bool := fun i => Nat.blt i m
theorem blt_iff {m i : Nat} : blt m i = true ↔ i < m := by unfold blt; rw [Nat.blt_eq]

def belH (u : Nat → Bool) : List (Option AO) → Prop
  | [] => True
  | none :: r => belH u r
  | some ob :: r => ob.bel u ∧ belH u r
theorem belH_get {u : Nat → Bool} : ∀ {H : List (Option AO)} {i : Nat} {ob : AO}, belH u H → H[i]? = some (some ob) → ob.bel u
  | none :: r, 0, ob, h, hi => by simp at hi
  | some ob' :: r, 0, ob, h, hi => by simp at hi; subst hi; exact h.1
  | none :: r, i + 1, ob, h, hi => belH_get (H := r) (i := i) h (by simpa using hi)
  | some ob' :: r, i + 1, ob, h, hi => belH_get (H := r) (i := i) h.2 (by simpa using hi)
  | [], i, ob, h, hi => by simp at hi

structure FC (P : Program) (G : List (Nat × Array Value)) (f : FuncId) (args : List AV) (H : List (Option AO)) (res : AV) (H' : List (Option AO)) : Prop where
  enter : ∃ fn c, P.funcs[f]? = some fn ∧ (fn.name == "runtime.NumGoroutine") = false ∧ fn.body = some c
  belA : AV.belL (blt H.length) args
  belH : belH (blt H.length) H
  len : H.length ≤ H'.length
  call : ∀ (A : Amb) (vs : Array Value), A.G = G → A.nA = H.length → HSat A A.ρ (hl H) (blt H.length) A.w → (∀ b, A.B b → ∃ i ob, hl H i = some ob ∧ ob.at_ A.ρ i b) → vs.size = args.length →
    (∀ (i : Nat) (c : AV) (x : Value), args[i]? = some c → vs[i]? = some x → VRel (Nh A (hl H) A.ρ A.w) A.ρ A.w c x) →
    Calls P f vs A.w fun e w' => ∃ v ρ', e = .returned v ∧ HSat A ρ' (hl H') (blt H'.length) w' ∧ VRel (Nh A (hl H') ρ' w') ρ' w' res v

def TsOk (σ : AS) : List (Nat × AV) → Prop
  | [] => True
  | (t, x) :: r => σ.s t = some x ∧ TsOk σ r
def RetV (rs : List Tmp) (res : AV) (σ' : AS) : Prop := match rs with | [t] => σ'.s t = some res | rs => ∃ vs, res = .tup vs ∧ vs.length = rs.length ∧ TsOk σ' (rs.zip vs)
/-- what a body must come to -/
def Ret (A : Amb) (rs : List Tmp) (res : AV) (H' : List (Option AO)) : Exit → AS → Prop
  | .ret, σ | .normal, σ => ∃ σ', SEnt A σ σ' ∧ σ'.h = hl H' ∧ σ'.u = blt H'.length ∧ RetV rs res σ'
  | _, _ => False

def start (n : Nat) (args : List AV) (H : List (Option AO)) : AS := ⟨n, fun t => args[t]?, hl H, blt H.length⟩

theorem run_results (P : Program) (fn : Func) (tmps : Array Value) (w : World) : ∀ (rs : List Tmp), fn.results = (rs.map ResultVar.tmp).toArray →
    (results fn tmps).run P w = .ok (match rs with | [t] => tmps.getD t undef | rs => .tuple (rs.map fun t => tmps.getD t undef).toArray) w := by
  intro rs hr
  have key : ∀ (F : ResultVar → Sem Value), (∀ t, F (.tmp t) = pure (tmps.getD t undef)) → ∀ rs : List Tmp, List.mapM (m := Sem) F (rs.map ResultVar.tmp) = pure (rs.map fun t => tmps.getD t undef) := by
    intro F hF rs
    induction rs with
    | nil => rfl
    | cons t rs ih => rw [List.map_cons, List.mapM_cons, ih, hF]; rfl
  unfold results
  rw [hr, List.mapM_toArray]
  rw [key _ (fun t => rfl)]
  match rs with
  | [] => rfl
  | [t] => rfl
  | t :: u :: r =>
    show Sem.run P (pure (if h : ((t :: u :: r).map fun t => tmps.getD t undef).toArray.size = 1 then _ else _)) w = _
    rw [dif_neg (by simp)]
    rfl

theorem TsOk.get {σ : AS} : ∀ {rs : List Tmp} {vs : List AV}, TsOk σ (rs.zip vs) → ∀ {i : Nat} {t : Tmp} {v : AV}, rs[i]? = some t → vs[i]? = some v → σ.s t = some v
  | t :: rs, v :: vs, h, 0, t', v', ht, hv => by simp at ht hv; subst ht; subst hv; exact h.1
  | t :: rs, v :: vs, h, i + 1, t', v', ht, hv => TsOk.get (rs := rs) (vs := vs) h.2 (i := i) (by simpa using ht) (by simpa using hv)
  | [], _, _, i, _, _, ht, _ => by simp at ht
  | _ :: _, [], _, i, _, _, _, hv => by simp at hv

theorem FC.of_wp {P : Program} {G : List (Nat × Array Value)} {f : FuncId} {fn : Func} {c : Code} {args : List AV} {H H' : List (Option AO)} {res : AV} (rs : List Tmp) (hf : P.funcs[f]? = some fn) (hname : (fn.name == "runtime.NumGoroutine") = false) (hb : fn.body = some c)
    (hn' : Nat.ble args.length fn.ntmps = true) (hr : fn.results = (rs.map ResultVar.tmp).toArray) (belA : AV.belL (blt H.length) args) (bH : E.belH (blt H.length) H) (len : H.length ≤ H'.length)
    (h : ∀ A : Amb, A.G = G → A.nA = H.length → (∀ b, A.B b → ∃ i ob, hl H i = some ob ∧ ob.at_ A.ρ i b) → WP P A c (Ret A rs res H') (start fn.ntmps args H)) : FC P G f args H res H' := by
  have hn : args.length ≤ fn.ntmps := Nat.le_of_ble_eq_true hn'
  refine ⟨⟨fn, c, hf, hname, hb⟩, belA, bH, len, ?_⟩
  intro A vs hG hnA HS hAB hsz hargs
  refine calls_of_wp hf hb ?_
  have hs : Sat A A.ρ (start fn.ntmps args H) { tmps := vs ++ Array.replicate (fn.ntmps - vs.size) undef, defers := [] } A.w := by
    refine ⟨HS, ?_, ?_, rfl⟩
    · intro t v ht
      have ht' : args[t]? = some v := ht
      have hlt := (List.getElem?_eq_some_iff.1 ht').1
      have hx : vs[t]? = some vs[t] := Array.getElem?_eq_getElem (by omega)
      refine ⟨vs[t], ?_, hargs t v _ ht' hx⟩
      rw [Array.getElem?_append_left (by omega)]
      exact hx
    · simp [start]; omega
  refine wp_mono ((h A hG hnA hAB).run A.ρ _ A.w hs) ?_
  rintro e a w' ⟨σ, ρ, hq, hs⟩
  have fin : (∃ σ', SEnt A σ σ' ∧ σ'.h = hl H' ∧ σ'.u = blt H'.length ∧ RetV rs res σ') →
      a.defers = [] ∧ ∃ v, (results fn a.tmps).run P w' = .ok v w' ∧ ∃ v' ρ', Ending.returned v = .returned v' ∧ HSat A ρ' (hl H') (blt H'.length) w' ∧ VRel (Nh A (hl H') ρ' w') ρ' w' res v' := by
    rintro ⟨σ', hE, h1, h2, h3⟩
    obtain ⟨ρ', hs'⟩ := hE ρ a w' hs
    refine ⟨hs.defers, _, run_results P fn a.tmps w' rs hr, _, ρ', rfl, ?_, ?_⟩
    · have := hs'.mem; rw [h1, h2] at this; exact this
    · match rs, h3 with
      | [t], h3 =>
        have := hs'.ev (x := .tmp t) h3
        rw [h1] at this
        exact this
      | [], h3 =>
        obtain ⟨vs, hres, hl, hsl⟩ := h3
        subst hres
        obtain rfl : vs = [] := List.eq_nil_of_length_eq_zero hl
        exact .tup [] _ rfl (fun i c x hc hx => by simp at hc)
      | t :: u :: r, h3 =>
        obtain ⟨vs, hres, hl, hsl⟩ := h3
        subst hres
        refine .tup vs _ (by simp [hl]) (fun i c x hc hx => ?_)
        have hlt : i < (t :: u :: r).length := by rw [← hl]; exact (List.getElem?_eq_some_iff.1 hc).1
        have hget : (t :: u :: r)[i]? = some ((t :: u :: r)[i]) := List.getElem?_eq_getElem hlt
        have := hs'.ev (x := .tmp _) (hsl.get hget hc)
        rw [h1] at this
        have hx' : x = a.eval (.tmp (t :: u :: r)[i]) := by
          rw [List.getElem?_toArray, List.getElem?_map, hget] at hx
          simp at hx
          rw [← hx]
          simp [Act.eval]
        rw [hx']
        exact this
  cases e with
  | ret => exact fin hq
  | normal => exact fin hq
  | _ => exact hq.elim

/- operands -/
theorem ev_ops {A : Amb} {ρ : Env} {σ : AS} {a : Act} {w : World} (hs : Sat A ρ σ a w) : ∀ {xs : List Operand} {ys : List AV}, SlOk σ (xs.zip ys) →
    ∀ (i : Nat) (x : Operand) (y : AV), xs[i]? = some x → ys[i]? = some y → VRel (Nh A σ.h ρ w) ρ w y (a.eval x)
  | x :: xs, y :: ys, h, 0, x', y', hx, hy => by simp at hx hy; subst hx; subst hy; exact hs.ev h.1
  | x :: xs, y :: ys, h, i + 1, x', y', hx, hy => ev_ops hs (xs := xs) (ys := ys) h.2 i x' y' (by simpa using hx) (by simpa using hy)
  | [], _, _, i, _, _, hx, _ => by simp at hx
  | _ :: _, [], _, i, _, _, _, hy => by simp at hy

/-- a value is laid into a slot, and memory is what it has become -/
theorem Sat.put {A : Amb} {ρ ρ' : Env} {σ : AS} {a : Act} {w w' : World} {e : Eff} (hs : Sat A ρ σ a w) {d : Option Tmp} (hd : ∀ t, d = some t → t < σ.n) {x : Value}
    (H : HSat A ρ' (σ.eff d e).h (σ.eff d e).u w') (hV : ∀ av y, VRel (Nh A σ.h ρ w) ρ w av y → VRel (Nh A (σ.eff d e).h ρ' w') ρ' w' av y)
    (hx : ∀ v, e.val = some v → VRel (Nh A (σ.eff d e).h ρ' w') ρ' w' v x) : Sat A ρ' (σ.eff d e) (a.put d x) w' := by
  refine ⟨H, ?_, ?_, ?_⟩
  · intro t v ht
    cases d with
    | none =>
      obtain ⟨y, hy, hv⟩ := hs.slots t v ht
      exact ⟨y, hy, hV _ _ hv⟩
    | some d =>
      rcases upd_eq_some (f := σ.s) ht with ⟨rfl, h⟩ | ⟨hne, h⟩
      · refine ⟨x, ?_, hx v h⟩
        have : t < a.tmps.size := by rw [hs.nt]; exact hd t rfl
        simp [Act.put, this]
      · obtain ⟨y, hy, hv⟩ := hs.slots t v h
        exact ⟨y, by simp only [Act.put]; rw [Array.getElem?_setIfInBounds_ne (Ne.symm hne)]; exact hy, hV _ _ hv⟩
  · cases d <;> simp [Act.put, AS.eff, hs.nt]
  · cases d <;> exact hs.defers

/-- an operation that leaves memory alone and comes to a value -/
theorem OpS.still {P : Program} {G : List (Nat × Array Value)} {o : Oper} {sl : List (Operand × AV)} {hp : List (Nat × AO)} {v : AV}
    (h : ∀ (A : Amb) (ρ : Env) (σ : AS) (a : Act) (w : World), A.G = G → SlOk σ sl → HpOk σ hp → Sat A ρ σ a w → ∃ x, (execOp a.eval o).run P w = .ok (.value x) w ∧ VRel (Nh A σ.h ρ w) ρ w v x) : OpS P G o sl hp ⟨some v, [], []⟩ := by
  constructor
  intro A ρ σ a w K Q hG h1 h2 _ hd hs hK
  obtain ⟨x, hr, hv⟩ := h A ρ σ a w hG h1 h2 hs
  unfold Oper.wp
  rw [hr]
  refine hK _ _ ρ (hs.put hd ?_ (fun _ _ h => h) (fun v' hv' => by cases hv'; exact hv))
  exact hs.mem

/- a call -/
def pi (old : List Nat) (base : Nat) : Nat → Nat := fun j => bif Nat.blt j old.length then old.getD j 0 else base + (j - old.length)
def hpl (π : Nat → Nat) : List Nat → List (Option AO) → List (Nat × AO)
  | o :: os, some ob :: H => (o, ob.ren π) :: hpl π os H
  | _ :: os, none :: H => hpl π os H
  | _, _ => []
theorem hpl_get {π : Nat → Nat} {σ : AS} : ∀ {old : List Nat} {H : List (Option AO)}, HpOk σ (hpl π old H) → old.length = H.length → ∀ {i : Nat} {ob : AO}, H[i]? = some (some ob) → σ.h (old.getD i 0) = some (ob.ren π)
  | o :: os, some ob' :: H, h, hl, 0, ob, hi => by simp at hi; subst hi; exact h.1
  | o :: os, some ob' :: H, h, hl, i + 1, ob, hi => hpl_get (old := os) (H := H) h.2 (by simpa using hl) (i := i) (by simpa using hi)
  | o :: os, none :: H, h, hl, 0, ob, hi => by simp at hi
  | o :: os, none :: H, h, hl, i + 1, ob, hi => hpl_get (old := os) (H := H) h (by simpa using hl) (i := i) (by simpa using hi)
  | _, [], _, _, i, ob, hi => by simp at hi
  | [], _ :: _, _, hl, i, ob, hi => by simp at hl
def WkL : List AV → List AV → Prop
  | y :: ys, z :: zs => y.wk z ∧ WkL ys zs
  | [], [] => True
  | _, _ => False
theorem WkL.get : ∀ {ys zs : List AV}, WkL ys zs → ∀ {i : Nat} {z : AV}, zs[i]? = some z → ∃ y, ys[i]? = some y ∧ y.wk z
  | y :: ys, z :: zs, h, 0, z', hz => by simp at hz; subst hz; exact ⟨y, rfl, h.1⟩
  | y :: ys, z :: zs, h, i + 1, z', hz => by obtain ⟨y', h1, h2⟩ := WkL.get h.2 (i := i) (by simpa using hz); exact ⟨y', by simpa using h1, h2⟩
  | [], [], _, i, z, hz => by simp at hz
  | [], _ :: _, h, _, _, _ => h.elim
  | _ :: _, [], h, _, _, _ => h.elim
theorem WkL.len : ∀ {ys zs : List AV}, WkL ys zs → ys.length = zs.length
  | y :: ys, z :: zs, h => by simp [WkL.len h.2]
  | [], [], _ => rfl
  | [], _ :: _, h => h.elim
  | _ :: _, [], h => h.elim
end Go.Proofs.YtmifllopcbjliaaDoor.E
