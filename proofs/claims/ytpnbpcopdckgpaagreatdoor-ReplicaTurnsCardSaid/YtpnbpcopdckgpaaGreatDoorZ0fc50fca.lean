import Derived.Test.YtpnbpcopdckgpaaGreatDoorZ1dc047f2
import Derived.Deep.MidRow
namespace Go.Proofs.YtpnbpcopdckgpaaGreatDoor.E
open Go Go.RowKit V
def hl (H : List (Option AO)) : Nat → Option AO := fun i => (H[i]?).join
theorem hl_some {H : List (Option AO)} {i : Nat} {ob : AO} (h : hl H i = some ob) : i < H.length ∧ H[i]? = some (some ob) := by
 unfold hl at h
 cases hh : H[i]? with
 | none => rw [hh] at h; cases h
 | some x =>
  rw [hh] at h
  cases x with
  | none => cases h
  | some y => cases h; exact ⟨(List.getElem?_eq_some_iff.1 hh).1, rfl⟩
def blt (m : Nat) : Nat → Bool := fun i => Nat.blt i m
theorem blt_iff {m i : Nat} : blt m i = true ↔ i < m := by unfold blt; rw [Nat.blt_eq]
def belH (u : Nat → Bool) : List (Option AO) → Prop
 | [] => True
 | none :: r => belH u r
 | some ob :: r => ob.bel u ∧ belH u r
theorem belH_get {u : Nat → Bool} : ∀ {H : List (Option AO)} {i : Nat} {ob : AO}, belH u H → H[i]? = some (some ob) → ob.bel u
 | none :: r, 0, ob, h, hi => by simp at hi
 | some ob' :: r, 0, ob, h, hi => by simp at hi; subst hi; exact h.1
 | none :: r, i + 1, ob, h, hi => belH_get (H := r) (i := i) h (by simpa using hi)
 | some ob' :: r, i + 1, ob, h, hi => belH_get (H := r) (i := i) h.2 (by simpa using hi)
 | [], i, ob, h, hi => by simp at hi
structure FC (P : Program) (G : List (Nat × Array Value)) (f : FuncId) (args : List AV) (H : List (Option AO)) (res : AV) (H' : List (Option AO)) : Prop where
 enter : ∃ fn c, P.funcs[f]? = some fn ∧ (fn.name == "runtime.NumGoroutine") = false ∧ fn.body = some c
 belA : AV.belL (blt H.length) args
 belH : belH (blt H.length) H
 len : H.length ≤ H'.length
 call : ∀ (A : Amb) (vs : Array Value), A.G = G → A.nA = H.length → HSat A A.ρ (hl H) (blt H.length) A.w → (∀ b, A.B b → ∃ i ob, hl H i = some ob ∧ ob.at_ A.ρ i b) → vs.size = args.length →
  (∀ (i : Nat) (c : AV) (x : Value), args[i]? = some c → vs[i]? = some x → VRel (Nh A (hl H) A.ρ A.w) A.ρ A.w c x) →
  Calls P f vs A.w fun e w' => ∃ v ρ', e = .returned v ∧ HSat A ρ' (hl H') (blt H'.length) w' ∧ VRel (Nh A (hl H') ρ' w') ρ' w' res v
def TsOk (σ : AS) : List (Nat × AV) → Prop
 | [] => True
 | (t, x) :: r => σ.s t = some x ∧ TsOk σ r
def RetV (rs : List Tmp) (res : AV) (σ' : AS) : Prop := match rs with | [t] => σ'.s t = some res | rs => ∃ vs, res = .tup vs ∧ vs.length = rs.length ∧ TsOk σ' (rs.zip vs)
def Ret (A : Amb) (rs : List Tmp) (res : AV) (H' : List (Option AO)) : Exit → AS → Prop
 | .ret, σ | .normal, σ => ∃ σ', SEnt A σ σ' ∧ σ'.h = hl H' ∧ σ'.u = blt H'.length ∧ RetV rs res σ'
 | _, _ => False
def start (n : Nat) (args : List AV) (H : List (Option AO)) : AS := ⟨n, fun t => args[t]?, hl H, blt H.length⟩
theorem run_results (P : Program) (fn : Func) (tmps : Array Value) (w : World) : ∀ (rs : List Tmp), fn.results = (rs.map ResultVar.tmp).toArray →
  (results fn tmps).run P w = .ok (match rs with | [t] => tmps.getD t undef | rs => .tuple (rs.map fun t => tmps.getD t undef).toArray) w := by
 intro rs hr
 have key : ∀ (F : ResultVar → Sem Value), (∀ t, F (.tmp t) = pure (tmps.getD t undef)) → ∀ rs : List Tmp, List.mapM (m := Sem) F (rs.map ResultVar.tmp) = pure (rs.map fun t => tmps.getD t undef) := by
  intro F hF rs
  induction rs with
  | nil => rfl
  | cons t rs ih => rw [List.map_cons, List.mapM_cons, ih, hF]; rfl
 unfold results
 rw [hr, List.mapM_toArray]
 rw [key _ (fun t => rfl)]
 match rs with
 | [] => rfl
 | [t] => rfl
 | t :: u :: r =>
  show Sem.run P (pure (if h : ((t :: u :: r).map fun t => tmps.getD t undef).toArray.size = 1 then _ else _)) w = _
  rw [dif_neg (by simp)]
  rfl
theorem TsOk.get {σ : AS} : ∀ {rs : List Tmp} {vs : List AV}, TsOk σ (rs.zip vs) → ∀ {i : Nat} {t : Tmp} {v : AV}, rs[i]? = some t → vs[i]? = some v → σ.s t = some v
 | t :: rs, v :: vs, h, 0, t', v', ht, hv => by simp at ht hv; subst ht; subst hv; exact h.1
 | t :: rs, v :: vs, h, i + 1, t', v', ht, hv => TsOk.get (rs := rs) (vs := vs) h.2 (i := i) (by simpa using ht) (by simpa using hv)
 | [], _, _, i, _, _, ht, _ => by simp at ht
 | _ :: _, [], _, i, _, _, _, hv => by simp at hv
theorem FC.of_wp {P : Program} {G : List (Nat × Array Value)} {f : FuncId} {fn : Func} {c : Code} {args : List AV} {H H' : List (Option AO)} {res : AV} (rs : List Tmp) (hf : P.funcs[f]? = some fn) (hname : (fn.name == "runtime.NumGoroutine") = false) (hb : fn.body = some c)
  (hn' : Nat.ble args.length fn.ntmps = true) (hr : fn.results = (rs.map ResultVar.tmp).toArray) (belA : AV.belL (blt H.length) args) (bH : E.belH (blt H.length) H) (len : H.length ≤ H'.length)
  (h : ∀ A : Amb, A.G = G → A.nA = H.length → (∀ b, A.B b → ∃ i ob, hl H i = some ob ∧ ob.at_ A.ρ i b) → WP P A c (Ret A rs res H') (start fn.ntmps args H)) : FC P G f args H res H' := by
 have hn : args.length ≤ fn.ntmps := Nat.le_of_ble_eq_true hn'
 refine ⟨⟨fn, c, hf, hname, hb⟩, belA, bH, len, ?_⟩
 intro A vs hG hnA HS hAB hsz hargs
 refine calls_of_wp hf hb ?_
 have hs : Sat A A.ρ (start fn.ntmps args H) { tmps := vs ++ Array.replicate (fn.ntmps - vs.size) undef, defers := [] } A.w := by
  refine ⟨HS, ?_, ?_, rfl⟩
  ·
   intro t v ht
   have ht' : args[t]? = some v := ht
   have hlt := (List.getElem?_eq_some_iff.1 ht').1
   have hx : vs[t]? = some vs[t] := Array.getElem?_eq_getElem (by omega)
   refine ⟨vs[t], ?_, hargs t v _ ht' hx⟩
   rw [Array.getElem?_append_left (by omega)]
   exact hx
  simp [start]; omega
 refine wp_mono ((h A hG hnA hAB).run A.ρ _ A.w hs) ?_
 rintro e a w' ⟨σ, ρ, hq, hs⟩
 have fin : (∃ σ', SEnt A σ σ' ∧ σ'.h = hl H' ∧ σ'.u = blt H'.length ∧ RetV rs res σ') →
   a.defers = [] ∧ ∃ v, (results fn a.tmps).run P w' = .ok v w' ∧ ∃ v' ρ', Ending.returned v = .returned v' ∧ HSat A ρ' (hl H') (blt H'.length) w' ∧ VRel (Nh A (hl H') ρ' w') ρ' w' res v' := by
  rintro ⟨σ', hE, h1, h2, h3⟩
  obtain ⟨ρ', hs'⟩ := hE ρ a w' hs
  refine ⟨hs.defers, _, run_results P fn a.tmps w' rs hr, _, ρ', rfl, ?_, ?_⟩
  · have := hs'.mem; rw [h1, h2] at this; exact this
  match rs, h3 with
  | [t], h3 =>
   have := hs'.ev (x := .tmp t) h3
   rw [h1] at this
   exact this
  | [], h3 =>
   obtain ⟨vs, hres, hl, hsl⟩ := h3
   subst hres
   obtain rfl : vs = [] := List.eq_nil_of_length_eq_zero hl
   exact .tup [] _ rfl (fun i c x hc hx => by simp at hc)
  | t :: u :: r, h3 =>
   obtain ⟨vs, hres, hl, hsl⟩ := h3
   subst hres
   refine .tup vs _ (by simp [hl]) (fun i c x hc hx => ?_)
   have hlt : i < (t :: u :: r).length := by rw [← hl]; exact (List.getElem?_eq_some_iff.1 hc).1
   have hget : (t :: u :: r)[i]? = some ((t :: u :: r)[i]) := List.getElem?_eq_getElem hlt
   have := hs'.ev (x := .tmp _) (hsl.get hget hc)
   rw [h1] at this
   have hx' : x = a.eval (.tmp (t :: u :: r)[i]) := by
    rw [List.getElem?_toArray, List.getElem?_map, hget] at hx
    simp at hx
    rw [← hx]
    simp [Act.eval]
   rw [hx']
   exact this
 cases e with
 | ret => exact fin hq
 | normal => exact fin hq
 | _ => exact hq.elim
theorem ev_ops {A : Amb} {ρ : Env} {σ : AS} {a : Act} {w : World} (hs : Sat A ρ σ a w) : ∀ {xs : List Operand} {ys : List AV}, SlOk σ (xs.zip ys) →
  ∀ (i : Nat) (x : Operand) (y : AV), xs[i]? = some x → ys[i]? = some y → VRel (Nh A σ.h ρ w) ρ w y (a.eval x)
 | x :: xs, y :: ys, h, 0, x', y', hx, hy => by simp at hx hy; subst hx; subst hy; exact hs.ev h.1
 | x :: xs, y :: ys, h, i + 1, x', y', hx, hy => ev_ops hs (xs := xs) (ys := ys) h.2 i x' y' (by simpa using hx) (by simpa using hy)
 | [], _, _, i, _, _, hx, _ => by simp at hx
 | _ :: _, [], _, i, _, _, _, hy => by simp at hy
theorem Sat.put {A : Amb} {ρ ρ' : Env} {σ : AS} {a : Act} {w w' : World} {e : Eff} (hs : Sat A ρ σ a w) {d : Option Tmp} (hd : ∀ t, d = some t → t < σ.n) {x : Value}
  (H : HSat A ρ' (σ.eff d e).h (σ.eff d e).u w') (hV : ∀ av y, VRel (Nh A σ.h ρ w) ρ w av y → VRel (Nh A (σ.eff d e).h ρ' w') ρ' w' av y)
  (hx : ∀ v, e.val = some v → VRel (Nh A (σ.eff d e).h ρ' w') ρ' w' v x) : Sat A ρ' (σ.eff d e) (a.put d x) w' := by
 refine ⟨H, ?_, ?_, ?_⟩
 ·
  intro t v ht
  cases d with
  | none =>
   obtain ⟨y, hy, hv⟩ := hs.slots t v ht
   exact ⟨y, hy, hV _ _ hv⟩
  | some d =>
   rcases upd_eq_some (f := σ.s) ht with ⟨rfl, h⟩ | ⟨hne, h⟩
   ·
    refine ⟨x, ?_, hx v h⟩
    have : t < a.tmps.size := by rw [hs.nt]; exact hd t rfl
    simp [Act.put, this]
   obtain ⟨y, hy, hv⟩ := hs.slots t v h
   exact ⟨y, by simp only [Act.put]; rw [Array.getElem?_setIfInBounds_ne (Ne.symm hne)]; exact hy, hV _ _ hv⟩
 · cases d <;> simp [Act.put, AS.eff, hs.nt]
 cases d <;> exact hs.defers
theorem OpS.still {P : Program} {G : List (Nat × Array Value)} {o : Oper} {sl : List (Operand × AV)} {hp : List (Nat × AO)} {v : AV}
  (h : ∀ (A : Amb) (ρ : Env) (σ : AS) (a : Act) (w : World), A.G = G → SlOk σ sl → HpOk σ hp → Sat A ρ σ a w → ∃ x, (execOp a.eval o).run P w = .ok (.value x) w ∧ VRel (Nh A σ.h ρ w) ρ w v x) : OpS P G o sl hp ⟨some v, [], []⟩ := by
 constructor
 intro A ρ σ a w K Q hG h1 h2 _ hd hs hK
 obtain ⟨x, hr, hv⟩ := h A ρ σ a w hG h1 h2 hs
 unfold Oper.wp
 rw [hr]
 refine hK _ _ ρ (hs.put hd ?_ (fun _ _ h => h) (fun v' hv' => by cases hv'; exact hv))
 exact hs.mem
def pi (old : List Nat) (base : Nat) : Nat → Nat := fun j => bif Nat.blt j old.length then old.getD j 0 else base + (j - old.length)
def hpl (π : Nat → Nat) : List Nat → List (Option AO) → List (Nat × AO)
 | o :: os, some ob :: H => (o, ob.ren π) :: hpl π os H
 | _ :: os, none :: H => hpl π os H
 | _, _ => []
theorem hpl_get {π : Nat → Nat} {σ : AS} : ∀ {old : List Nat} {H : List (Option AO)}, HpOk σ (hpl π old H) → old.length = H.length → ∀ {i : Nat} {ob : AO}, H[i]? = some (some ob) → σ.h (old.getD i 0) = some (ob.ren π)
 | o :: os, some ob' :: H, h, hl, 0, ob, hi => by simp at hi; subst hi; exact h.1
 | o :: os, some ob' :: H, h, hl, i + 1, ob, hi => hpl_get (old := os) (H := H) h.2 (by simpa using hl) (i := i) (by simpa using hi)
 | o :: os, none :: H, h, hl, 0, ob, hi => by simp at hi
 | o :: os, none :: H, h, hl, i + 1, ob, hi => hpl_get (old := os) (H := H) h (by simpa using hl) (i := i) (by simpa using hi)
 | _, [], _, _, i, ob, hi => by simp at hi
 | [], _ :: _, _, hl, i, ob, hi => by simp at hl
def WkL : List AV → List AV → Prop
 | y :: ys, z :: zs => y.wk z ∧ WkL ys zs
 | [], [] => True
 | _, _ => False
theorem WkL.get : ∀ {ys zs : List AV}, WkL ys zs → ∀ {i : Nat} {z : AV}, zs[i]? = some z → ∃ y, ys[i]? = some y ∧ y.wk z
 | y :: ys, z :: zs, h, 0, z', hz => by simp at hz; subst hz; exact ⟨y, rfl, h.1⟩
 | y :: ys, z :: zs, h, i + 1, z', hz => by obtain ⟨y', h1, h2⟩ := WkL.get h.2 (i := i) (by simpa using hz); exact ⟨y', by simpa using h1, h2⟩
 | [], [], _, i, z, hz => by simp at hz
 | [], _ :: _, h, _, _, _ => h.elim
 | _ :: _, [], h, _, _, _ => h.elim
theorem WkL.len : ∀ {ys zs : List AV}, WkL ys zs → ys.length = zs.length
 | y :: ys, z :: zs, h => by simp [WkL.len h.2]
 | [], [], _ => rfl
 | [], _ :: _, h => h.elim
 | _ :: _, [], h => h.elim
theorem NuOk.mem {σ : AS} : ∀ {l : List Nat}, NuOk σ l → ∀ i ∈ l, σ.u i = false
 | t :: r, h, i, hi => by
  rcases List.mem_cons.1 hi with rfl | hi
  · exact h.1
  exact NuOk.mem h.2 i hi
 | [], _, _, hi => by cases hi
theorem chs_append (h : Nat → Option AO) (l : List (Nat × Option AO)) (k : Nat) (x : Option AO) : chs h (l ++ [(k, x)]) = upd (chs h l) k x := by
 simp [chs, List.foldl_append]
theorem chs_map_in {π : Nat → Nat} (hinj : ∀ i j, π i = π j → i = j) (g : Nat → Option AO) (h : Nat → Option AO) : ∀ (n j : Nat), j < n → chs h ((List.range n).map fun j => (π j, g j)) (π j) = g j
 | n + 1, j, hj => by
  rw [List.range_succ, List.map_append]
  show chs h (_ ++ [(π n, g n)]) _ = _
  rw [chs_append]
  by_cases he : j = n
  · subst he; exact upd_same _ _ _
  rw [upd_ne _ _ (fun e => he (hinj _ _ e))]
  exact chs_map_in hinj g h n j (by omega)
theorem chs_map_out {π : Nat → Nat} (g : Nat → Option AO) (h : Nat → Option AO) {n x : Nat} (hx : ∀ j, j < n → π j ≠ x) : chs h ((List.range n).map fun j => (π j, g j)) x = h x := by
 refine chs_out fun hm => ?_
 rw [List.map_map] at hm
 obtain ⟨j, hj, he⟩ := List.mem_map.1 hm
 exact hx j (by simpa using hj) he
theorem pi_lt {old : List Nat} {base j : Nat} (h : j < old.length) : pi old base j = old.getD j 0 := by
 have : Nat.blt j old.length = true := by rw [Nat.blt_eq]; exact h
 simp [pi, this]
theorem pi_ge {old : List Nat} {base j : Nat} (h : old.length ≤ j) : pi old base j = base + (j - old.length) := by
 have : Nat.blt j old.length = false := by rw [← Bool.not_eq_true, Nat.blt_eq]; omega
 simp [pi, this]
theorem pi_inj {old : List Nat} {base : Nat} (hnd : old.Nodup) (hlt : ∀ x ∈ old, x < base) (i j : Nat) (h : pi old base i = pi old base j) : i = j := by
 have mem : ∀ k, k < old.length → old.getD k 0 ∈ old := fun k hk => by rw [List.getD_eq_getElem?_getD, List.getElem?_eq_getElem hk]; simp
 by_cases hi : i < old.length <;> by_cases hj : j < old.length
 ·
  rw [pi_lt hi, pi_lt hj] at h
  simp only [List.getD_eq_getElem?_getD, List.getElem?_eq_getElem hi, List.getElem?_eq_getElem hj, Option.getD_some] at h
  rcases Nat.lt_trichotomy i j with hij | hij | hij
  · exact absurd h (List.pairwise_iff_getElem.1 hnd i j hi hj hij)
  · exact hij
  exact absurd h.symm (List.pairwise_iff_getElem.1 hnd j i hj hi hij)
 ·
  rw [pi_lt hi, pi_ge (by omega)] at h
  have := hlt _ (mem i hi)
  omega
 ·
  rw [pi_ge (by omega), pi_lt hj] at h
  have := hlt _ (mem j hj)
  omega
 rw [pi_ge (by omega), pi_ge (by omega)] at h
 omega
def callEff (old : List Nat) (base : Nat) (res : AV) (m : Nat) (H' : List (Option AO)) : Eff :=
 ⟨some (res.ren (pi old base)), (List.range H'.length).map (fun j => (pi old base j, (hl H' j).map (AO.ren (pi old base)))), (List.range (H'.length - m)).map (base + ·)⟩
theorem run_enter {P : Program} {f : FuncId} {fn : Func} {c : Code} (hf : P.funcs[f]? = some fn) (hname : (fn.name == "runtime.NumGoroutine") = false) (hb : fn.body = some c) (args : Array Value) (w : World) :
  (callFunc f args).run P w = .ok (.enter f args) w := by
 simp [callFunc, program, Sem.run, Bind.bind, Sem.bind, hf, hb, pure]
 intro h
 simp [h] at hname
theorem AO.ren_at {π : Nat → Nat} {ρ2 ρ : Env} {i b : Nat} {ob : AO} (hb : ρ2.blk i = some b → ρ.blk (π i) = some b) (ht : ∀ v, ρ2.tip i = some v → ρ.tip (π i) = some v) (h : ob.at_ ρ2 i b) : (ob.ren π).at_ ρ (π i) b := by
 cases ob with
 | cells => exact hb h
 | map => exact hb h
 | tip => exact ⟨h.choose, ht _ h.choose_spec⟩
theorem AO.ren_wr {π : Nat → Nat} {ρ2 ρ : Env} {i b o : Nat} {ob : AO} (hb : ρ2.blk i = some b → ρ.blk (π i) = some b) (ht : ∀ v, ρ2.tip i = some v → ρ.tip (π i) = some v) (h : ob.wr ρ2 i b o) : (ob.ren π).wr ρ (π i) b o := by
 cases ob with
 | cells => exact hb h
 | map => exact hb h
 | tip => exact ⟨h.choose, ht _ h.choose_spec.1, h.choose_spec.2⟩
theorem ORel.ren {N N' : Nat → Nat → Prop} {ρ2 ρ : Env} {w : World} {π : Nat → Nat} {i : Nat} {ob : AO} (hb : ∀ i b, ρ2.blk i = some b → ρ.blk (π i) = some b) (ht : ∀ i v, ρ2.tip i = some v → ρ.tip (π i) = some v)
  (hN : ∀ b o, N b o → N' b o) (h : ORel N ρ2 w i ob) : ORel N' ρ w (π i) (ob.ren π) := by
 cases ob with
 | cells T cs =>
  obtain ⟨b, arr, h1, h2, h3, h4⟩ := h
  refine ⟨b, arr, hb _ _ h1, h2, by rw [renL_len]; exact h3, fun j c x hc hx => ?_⟩
  obtain ⟨c0, h0, rfl⟩ := renL_get hc
  exact ⟨((h4 j c0 x h0 hx).1.ren hb ht).mono hN (Env.le_refl _) (fun _ _ _ => rfl), (h4 j c0 x h0 hx).2⟩
 | tip E sz n =>
  rcases h with ⟨h1, h2⟩ | ⟨g, cap, cur, h1, h2⟩
  · exact .inl ⟨ht _ _ h1, h2⟩
  exact .inr ⟨g, cap, cur, ht _ _ h1, h2⟩
 | map es =>
  obtain ⟨b, arr, clk, h1, h2⟩ := h
  exact ⟨b, arr, clk, hb _ _ h1, h2⟩
theorem call_sat {P : Program} {G : List (Nat × Array Value)} {f : FuncId} {args : List AV} {H H' : List (Option AO)} {res : AV} (F : FC P G f args H res H') {old : List Nat} {base : Nat} (hol : old.length = H.length) (hnd : old.Nodup) (hlt : ∀ x ∈ old, x < base)
  {A : Amb} {ρ : Env} {σ : AS} {a : Act} {w : World} (hG : A.G = G) (hs : Sat A ρ σ a w) (hp : HpOk σ (hpl (pi old base) old H)) (hnu : NuOk σ (callEff old base res H.length H').nu) {d : Option Tmp} (hd : ∀ t, d = some t → t < σ.n)
  {vs : Array Value} {ys : List AV} (hsz : vs.size = ys.length) (hys : ∀ (i : Nat) (y : AV) (x : Value), ys[i]? = some y → vs[i]? = some x → VRel (Nh A σ.h ρ w) ρ w y x) (hwk : WkL ys (args.map (AV.ren (pi old base)))) :
  Calls P f vs w fun e w' => ∃ v ρ', e = .returned v ∧ Sat A ρ' (σ.eff d (callEff old base res H.length H')) (a.put d v) w' := by
 have hinj := pi_inj hnd hlt
 have hmm := F.len
 have hpiH : ∀ i, i < H.length → pi old base i = old.getD i 0 := fun i hi => pi_lt (by omega)
 have hpiN : ∀ j, H.length ≤ j → pi old base j = base + (j - H.length) := fun j hj => by rw [pi_ge (by omega), hol]
 have hent : ∀ i ob, hl H i = some ob → σ.h (pi old base i) = some (ob.ren (pi old base)) := fun i ob hi => by
  rw [hpiH i (hl_some hi).1]
  exact hpl_get hp hol (hl_some hi).2
 have hfresh : ∀ j, H.length ≤ j → j < H'.length → σ.u (pi old base j) = false := fun j h1 h2 => by
  refine hnu.mem _ ?_
  rw [hpiN j h1]
  exact List.mem_map.2 ⟨j - H.length, by simp; omega, rfl⟩
 let ρ2 : Env := ⟨fun i => if i < H.length then ρ.blk (pi old base i) else none, fun i => if i < H.length then ρ.tip (pi old base i) else none⟩
 have hb2 : ∀ i b, ρ2.blk i = some b → i < H.length ∧ ρ.blk (pi old base i) = some b := fun i b h => by
  have h' : (if i < H.length then ρ.blk (pi old base i) else none) = some b := h
  split at h'
  · exact ⟨‹_›, h'⟩
  cases h'
 have ht2 : ∀ i b, ρ2.tip i = some b → i < H.length ∧ ρ.tip (pi old base i) = some b := fun i b h => by
  have h' : (if i < H.length then ρ.tip (pi old base i) else none) = some b := h
  split at h'
  · exact ⟨‹_›, h'⟩
  cases h'
 have hub : ∀ i b, blt H.length i = true → ρ.blk (pi old base i) = some b → ρ2.blk i = some b := fun i b hi h => by
  show (if i < H.length then ρ.blk (pi old base i) else none) = some b
  rw [if_pos (blt_iff.1 hi)]; exact h
 have hut : ∀ i b, blt H.length i = true → ρ.tip (pi old base i) = some b → ρ2.tip i = some b := fun i b hi h => by
  show (if i < H.length then ρ.tip (pi old base i) else none) = some b
  rw [if_pos (blt_iff.1 hi)]; exact h
 let A2 : Amb := ⟨w, Nh A σ.h ρ w, fun b o => ∃ i ob, hl H i = some ob ∧ ob.wr ρ2 i b o, fun b => ∃ i ob, hl H i = some ob ∧ ob.at_ ρ2 i b, H.length, G, ρ2⟩
 have hwr2 : ∀ i ob b o, hl H i = some ob → ob.wr ρ2 i b o → ∃ oj, σ.h (pi old base i) = some oj ∧ oj.wr ρ (pi old base i) b o := fun i ob b o hi h =>
  ⟨_, hent i ob hi, AO.ren_wr (fun h => (hb2 _ _ h).2) (fun v h => (ht2 _ _ h).2) h⟩
 have hat2 : ∀ i ob b, hl H i = some ob → ob.at_ ρ2 i b → ∃ oj, σ.h (pi old base i) = some oj ∧ oj.at_ ρ (pi old base i) b := fun i ob b hi h =>
  ⟨_, hent i ob hi, AO.ren_at (fun h => (hb2 _ _ h).2) (fun v h => (ht2 _ _ h).2) h⟩
 have hN2 : ∀ b o, Nh A σ.h ρ w b o → Nh A2 (hl H) ρ2 w b o := fun b o hn =>
  ⟨hn.1, .inl hn, fun i ob hi hw => by obtain ⟨oj, hj, hwj⟩ := hwr2 i ob b o hi hw; exact hn.2.2 _ oj hj hwj⟩
 have hV2 : ∀ (v : AV) (x : Value), v.bel (blt H.length) → VRel (Nh A σ.h ρ w) ρ w (v.ren (pi old base)) x → VRel (Nh A2 (hl H) ρ2 w) ρ2 w v x := fun v x hbl h =>
  VRel.mono hN2 (Env.le_refl ρ2) (fun _ _ _ => rfl) (h.unren (u := blt H.length) hub hut v rfl hbl)
 have HS2 : HSat A2 ρ2 (hl H) (blt H.length) w := by
  refine ⟨rfl, rfl, rfl, Nat.le_refl _, fun _ _ _ => rfl, fun _ _ _ => rfl, fun b o h => h.1, ?_, ?_, ?_, fun i b h => (hb2 i b h).1, fun i b h => (ht2 i b h).1, fun i hi => ⟨blt_iff.2 hi, rfl, rfl⟩, fun i b h => blt_iff.2 (hb2 i b h).1, fun i b h => blt_iff.2 (ht2 i b h).1, ?_,
   fun i ob b o hi hw => .inl ⟨i, ob, hi, hw⟩, fun i ob b hi hw => .inl ⟨i, ob, hi, hw⟩, ?_⟩
  ·
   rintro b o hn ⟨i, ob, hi, hw⟩
   obtain ⟨oj, hj, hwj⟩ := hwr2 i ob b o hi hw
   exact hn.2.2 _ oj hj hwj
  ·
   rintro b o ⟨i, ob, hi, hw⟩
   exact ⟨i, ob, hi, AO.at_of_wr hw⟩
  ·
   intro x hx
   have hx : x ∈ A.G := by rw [hG]; exact hx
   obtain ⟨⟨T, h1⟩, h2⟩ := hs.mem.tabs x hx
   have hlt' := (Array.getElem?_eq_some_iff.1 h1).1
   refine ⟨⟨T, (hs.mem.block _ hlt' h2).trans h1⟩, ?_⟩
   rintro ⟨i, ob, hi, hw⟩
   obtain ⟨oj, hj, hwj⟩ := hat2 i ob _ hi hw
   rcases hs.mem.ownB _ oj _ hj hwj with h | h
   · exact h2 h
   omega
  ·
   intro i ob hi
   have hσ := hs.mem.heap _ _ (hent i ob hi)
   have hbl := belH_get F.belH (hl_some hi).2
   have hi' : blt H.length i = true := blt_iff.2 (hl_some hi).1
   cases ob with
   | cells T cs =>
    obtain ⟨b, arr, h1, h2, h3, h4⟩ := hσ
    refine ⟨b, arr, hub i b hi' h1, h2, by rw [renL_len] at h3; exact h3, fun j c x hc hx => ?_⟩
    have := h4 j (c.ren _) x (by rw [renL_eq, List.getElem?_map, hc]; rfl) hx
    exact ⟨hV2 c x (belL_get hbl hc) this.1, this.2⟩
   | tip E sz n =>
    rcases hσ with ⟨h1, h2⟩ | ⟨g, cap, cur, h1, h2⟩
    · exact .inl ⟨hut i _ hi' h1, h2⟩
    exact .inr ⟨g, cap, cur, hut i _ hi' h1, h2⟩
   | map es =>
    obtain ⟨b, arr, clk, h1, h2⟩ := hσ
    exact ⟨b, arr, clk, hub i b hi' h1, h2⟩
  intro i j oi oj b hi hj h1 h2
  obtain ⟨_, k1, k2⟩ := hat2 i oi b hi h1
  obtain ⟨_, k3, k4⟩ := hat2 j oj b hj h2
  exact hinj _ _ (hs.mem.sep _ _ _ _ b k1 k3 k2 k4)
 have hargs : ∀ (i : Nat) (c : AV) (x : Value), args[i]? = some c → vs[i]? = some x → VRel (Nh A2 (hl H) ρ2 w) ρ2 w c x := by
  intro i c x hc hx
  obtain ⟨y, hy, hk⟩ := hwk.get (i := i) (z := c.ren (pi old base)) (by rw [List.getElem?_map, hc]; rfl)
  exact hV2 c x (belL_get F.belA hc) ((hys i y x hy hx).wk hk)
 have hlen : vs.size = args.length := by rw [hsz, hwk.len, List.length_map]
 refine (F.call A2 vs rfl rfl HS2 (fun _ h => h) hlen hargs).mono ?_
 rintro e w' ⟨v, ρ3, rfl, HS3, hres⟩
 let ρ' : Env := ⟨fun x => if base ≤ x ∧ x < base + (H'.length - H.length) then ρ3.blk (x - base + H.length) else ρ.blk x, fun x => if base ≤ x ∧ x < base + (H'.length - H.length) then ρ3.tip (x - base + H.length) else ρ.tip x⟩
 have hnewu : ∀ x, base ≤ x → x < base + (H'.length - H.length) → σ.u x = false := fun x h1 h2 => by
  have := hfresh (x - base + H.length) (by omega) (by omega)
  rw [hpiN _ (by omega)] at this
  rwa [show base + (x - base + H.length - H.length) = x by omega] at this
 have hold : ∀ x, σ.u x = true → ρ'.blk x = ρ.blk x ∧ ρ'.tip x = ρ.tip x := by
  intro x hx
  have hn : ¬ (base ≤ x ∧ x < base + (H'.length - H.length)) := by
   rintro ⟨h1, h2⟩
   rw [hnewu x h1 h2] at hx
   cases hx
  exact ⟨by show (if _ then _ else _) = _; rw [if_neg hn], by show (if _ then _ else _) = _; rw [if_neg hn]⟩
 have hle : ρ.le ρ' := ⟨fun i b h => by rw [(hold i (hs.mem.usedB i b h)).1]; exact h, fun i b h => by rw [(hold i (hs.mem.usedT i b h)).2]; exact h⟩
 have hb3 : ∀ j b, ρ3.blk j = some b → ρ'.blk (pi old base j) = some b := fun j b h => by
  have hj : j < H'.length := blt_iff.1 (HS3.usedB j b h)
  by_cases hjm : j < H.length
  ·
   rw [(HS3.fix j hjm).2.1] at h
   exact hle.1 _ _ (hb2 j b h).2
  show (if base ≤ pi old base j ∧ pi old base j < base + (H'.length - H.length) then ρ3.blk (pi old base j - base + H.length) else _) = _
  rw [hpiN j (by omega), if_pos ⟨by omega, by omega⟩, show base + (j - H.length) - base + H.length = j by omega]
  exact h
 have ht3 : ∀ j b, ρ3.tip j = some b → ρ'.tip (pi old base j) = some b := fun j b h => by
  have hj : j < H'.length := blt_iff.1 (HS3.usedT j b h)
  by_cases hjm : j < H.length
  ·
   rw [(HS3.fix j hjm).2.2] at h
   exact hle.2 _ _ (ht2 j b h).2
  show (if base ≤ pi old base j ∧ pi old base j < base + (H'.length - H.length) then ρ3.tip (pi old base j - base + H.length) else _) = _
  rw [hpiN j (by omega), if_pos ⟨by omega, by omega⟩, show base + (j - H.length) - base + H.length = j by omega]
  exact h
 let e2 := callEff old base res H.length H'
 have hcase : ∀ x ob, (σ.eff d e2).h x = some ob → (∃ j oj, j < H'.length ∧ x = pi old base j ∧ hl H' j = some oj ∧ ob = oj.ren (pi old base)) ∨ ((∀ j, j < H'.length → pi old base j ≠ x) ∧ σ.h x = some ob) := by
  intro x ob h
  by_cases hx : ∃ j, j < H'.length ∧ pi old base j = x
  ·
   obtain ⟨j, hj, rfl⟩ := hx
   have h' : chs σ.h ((List.range H'.length).map fun j => (pi old base j, (hl H' j).map (AO.ren (pi old base)))) (pi old base j) = some ob := h
   rw [chs_map_in hinj _ _ _ _ hj] at h'
   cases hh : hl H' j with
   | none => rw [hh] at h'; cases h'
   | some oj => rw [hh] at h'; cases h'; exact .inl ⟨j, oj, hj, rfl, hh, rfl⟩
  have hx' : ∀ j, j < H'.length → pi old base j ≠ x := fun j hj he => hx ⟨j, hj, he⟩
  have h' : chs σ.h ((List.range H'.length).map fun j => (pi old base j, (hl H' j).map (AO.ren (pi old base)))) x = some ob := h
  rw [chs_map_out _ _ hx'] at h'
  exact .inr ⟨hx', h'⟩
 have hrestat : ∀ x ob b, (∀ j, j < H'.length → pi old base j ≠ x) → σ.h x = some ob → ob.at_ ρ x b → ¬ A2.B b := by
  rintro x ob b hx hσ hat ⟨i, oi, hi, hwi⟩
  obtain ⟨oj, hj, hwj⟩ := hat2 i oi b hi hwi
  exact hx i (by have := (hl_some hi).1; omega) (hs.mem.sep _ _ _ _ b hj hσ hwj hat)
 have hat3 : ∀ (j : Nat) (oj : AO) (b : Nat), hl H' j = some oj → (oj.ren (pi old base)).at_ ρ' (pi old base j) b → oj.at_ ρ3 j b := by
  intro j oj b hj h
  have ho := HS3.heap j oj hj
  cases oj with
  | cells T cs =>
   obtain ⟨b', arr, h1, -⟩ := ho
   have h' : ρ'.blk (pi old base j) = some b := h
   rw [hb3 j b' h1] at h'
   cases h'
   exact h1
  | tip E sz n =>
   obtain ⟨cap, h⟩ := h
   rcases ho with ⟨h1, -⟩ | ⟨g, cap', cur, h1, -⟩ <;> rw [ht3 j _ h1] at h <;> cases h
   exact ⟨cap, h1⟩
  | map es =>
   obtain ⟨b', arr, clk, h1, -⟩ := ho
   have h' : ρ'.blk (pi old base j) = some b := h
   rw [hb3 j b' h1] at h'
   cases h'
   exact h1
 have hwr3 : ∀ (j : Nat) (oj : AO) (b o : Nat), hl H' j = some oj → (oj.ren (pi old base)).wr ρ' (pi old base j) b o → oj.wr ρ3 j b o := by
  intro j oj b o hj h
  have ho := HS3.heap j oj hj
  cases oj with
  | cells T cs => exact hat3 j (.cells T cs) b hj h
  | tip E sz n =>
   obtain ⟨cap, h, hoo⟩ := h
   rcases ho with ⟨h1, -⟩ | ⟨g, cap', cur, h1, -⟩ <;> rw [ht3 j _ h1] at h <;> cases h
   exact ⟨cap, h1, hoo⟩
  | map es => exact hat3 j (.map es) b hj h
 have hNN : ∀ b o, Nh A2 (hl H') ρ3 w' b o → Nh A (σ.eff d e2).h ρ' w' b o := by
  intro b o hn
  refine ⟨hn.1, ?_, ?_⟩
  ·
   rcases hn.2.1 with h | ⟨i, ob, hi, hw⟩ | h
   · exact h.2.1
   ·
    obtain ⟨oj, hj, hwj⟩ := hwr2 i ob b o hi hw
    exact (hs.mem.own _ oj b o hj hwj).elim (fun h => .inr (.inl h)) (fun h => .inr (.inr h))
   have := hs.mem.size
   have h' : w.heap.size ≤ b := h
   exact .inr (.inr (by omega))
  intro x ob hx hw
  rcases hcase x ob hx with ⟨j, oj, hj, rfl, hoj, rfl⟩ | ⟨hx', hσ⟩
  · exact hn.2.2 j oj hoj (hwr3 j oj b o hoj hw)
  have hw' := (hs.mem.heap x ob hσ).wr_back hle hw
  rcases hn.2.1 with h | ⟨i, oi, hi, hwi⟩ | h
  · exact h.2.2 x ob hσ hw'
  · exact hrestat x ob b hx' hσ (AO.at_of_wr hw') ⟨i, oi, hi, AO.at_of_wr hwi⟩
  have := (hs.mem.heap x ob hσ).lt (AO.at_of_wr hw')
  have h' : w.heap.size ≤ b := h
  omega
 obtain ⟨HN, hVV⟩ := hs.mem.next (ρ' := ρ') (h' := (σ.eff d e2).h) (u' := (σ.eff d e2).u) (w' := w') HS3.os HS3.tape HS3.output HS3.size
  (fun x hx => ⟨by show nuU σ.u _ x = true; rw [nuU_eq, hx]; rfl, hold x hx⟩)
  (fun x b h => by
   show nuU σ.u (List.map (base + ·) (List.range (H'.length - H.length))) x = true
   rw [nuU_eq]
   by_cases hx : base ≤ x ∧ x < base + (H'.length - H.length)
   ·
    have : x ∈ List.map (base + ·) (List.range (H'.length - H.length)) := List.mem_map.2 ⟨x - base, by simp; omega, by omega⟩
    simp only [List.contains_eq_mem, this, decide_true, Bool.or_true]
   have h' : (if base ≤ x ∧ x < base + (H'.length - H.length) then ρ3.blk (x - base + H.length) else ρ.blk x) = some b := h
   rw [if_neg hx] at h'
   rw [hs.mem.usedB x b h']; rfl)
  (fun x b h => by
   show nuU σ.u (List.map (base + ·) (List.range (H'.length - H.length))) x = true
   rw [nuU_eq]
   by_cases hx : base ≤ x ∧ x < base + (H'.length - H.length)
   ·
    have : x ∈ List.map (base + ·) (List.range (H'.length - H.length)) := List.mem_map.2 ⟨x - base, by simp; omega, by omega⟩
    simp only [List.contains_eq_mem, this, decide_true, Bool.or_true]
   have h' : (if base ≤ x ∧ x < base + (H'.length - H.length) then ρ3.tip (x - base + H.length) else ρ.tip x) = some b := h
   rw [if_neg hx] at h'
   rw [hs.mem.usedT x b h']; rfl)
  (fun b hb hnat => HS3.block b hb (by rintro ⟨i, ob, hi, hw⟩; obtain ⟨oj, hj, hwj⟩ := hat2 i ob b hi hw; exact hnat _ oj hj hwj))
  (fun b o hn => HS3.keep b o hn)
  (fun x ob b o hx hw => by
   rcases hcase x ob hx with ⟨j, oj, hj, rfl, hoj, rfl⟩ | ⟨hx', hσ⟩
   ·
    rcases HS3.own j oj b o hoj (hwr3 j oj b o hoj hw) with ⟨i, oi, hi, hwi⟩ | h
    ·
     obtain ⟨ok, hk, hwk⟩ := hwr2 i oi b o hi hwi
     exact .inl ⟨_, ok, hk, hwk⟩
    exact .inr h
   exact .inl ⟨x, ob, hσ, (hs.mem.heap x ob hσ).wr_back hle hw⟩)
  (fun x ob b hx hw => by
   rcases hcase x ob hx with ⟨j, oj, hj, rfl, hoj, rfl⟩ | ⟨hx', hσ⟩
   ·
    rcases HS3.ownB j oj b hoj (hat3 j oj b hoj hw) with ⟨i, oi, hi, hwi⟩ | h
    ·
     obtain ⟨ok, hk, hwk⟩ := hat2 i oi b hi hwi
     exact .inl ⟨_, ok, hk, hwk⟩
    exact .inr h
   exact .inl ⟨x, ob, hσ, (hs.mem.heap x ob hσ).at_back hle hw⟩)
  (fun x y ox oy b hx hy h1 h2 => by
   have far : ∀ (j : Nat) (oj : AO) (z : Nat) (oz : AO), hl H' j = some oj → oj.at_ ρ3 j b → (∀ j, j < H'.length → pi old base j ≠ z) → σ.h z = some oz → oz.at_ ρ z b → False := by
    intro j oj z oz hoj hat hz hσ hatz
    rcases HS3.ownB j oj b hoj hat with h | h
    · exact hrestat z oz b hz hσ hatz h
    have := (hs.mem.heap z oz hσ).lt hatz
    have h' : w.heap.size ≤ b := h
    omega
   rcases hcase x ox hx with ⟨j, oj, hj, rfl, hoj, rfl⟩ | ⟨hx', hσ⟩ <;> rcases hcase y oy hy with ⟨k, ok, hk, rfl, hok, rfl⟩ | ⟨hy', hσ'⟩
   · rw [HS3.sep j k oj ok b hoj hok (hat3 j oj b hoj h1) (hat3 k ok b hok h2)]
   · exact (far j oj y oy hoj (hat3 j oj b hoj h1) hy' hσ' ((hs.mem.heap y oy hσ').at_back hle h2)).elim
   · exact (far k ok x ox hok (hat3 k ok b hok h2) hx' hσ ((hs.mem.heap x ox hσ).at_back hle h1)).elim
   exact hs.mem.sep x y ox oy b hσ hσ' ((hs.mem.heap x ox hσ).at_back hle h1) ((hs.mem.heap y oy hσ').at_back hle h2))
  (fun hVV x ob hx => by
   rcases hcase x ob hx with ⟨j, oj, hj, rfl, hoj, rfl⟩ | ⟨hx', hσ⟩
   · exact (HS3.heap j oj hoj).ren hb3 ht3 hNN
   exact (hs.mem.heap x ob hσ).keep hle hVV (fun b hb => HS3.block b ((hs.mem.heap x ob hσ).lt hb) (hrestat x ob b hx' hσ hb)))
 refine ⟨v, ρ', rfl, hs.put hd HN hVV ?_⟩
 intro v' hv'
 cases hv'
 exact (hres.ren hb3 ht3).mono hNN (Env.le_refl _) (fun _ _ _ => rfl)
theorem OpS.call {P : Program} {G : List (Nat × Array Value)} {f : FuncId} {args : List AV} {H H' : List (Option AO)} {res : AV} (F : FC P G f args H res H') (old : List Nat) (base : Nat) (hol : old.length = H.length) (hnd : old.Nodup) (hlt : ∀ x ∈ old, x < base)
  {xs : List Operand} {ys : List AV} (ho : xs.length = ys.length) (hwk : WkL ys (args.map (AV.ren (pi old base)))) {dst : Option Tmp} {ats : Array TypeId} {ty : TypeId} {pos : String} {aft : Array Edge} {gd : Option (Nat × Bool)} :
  OpS P G ⟨dst, .call ⟨.value (.func f), xs.toArray, ats⟩, ty, pos, aft, gd⟩ (xs.zip ys) (hpl (pi old base) old H) (callEff old base res H.length H') := by
 constructor
 intro A ρ σ a w K Q hG h1 h2 h3 hd hs hK
 obtain ⟨fn, c, hf, hname, hb⟩ := F.enter
 have hrun : (execOp a.eval ⟨dst, .call ⟨.value (.func f), xs.toArray, ats⟩, ty, pos, aft, gd⟩).run P w = .ok (.enter f (xs.map a.eval).toArray) w := by
  have := run_enter hf hname hb (xs.map a.eval).toArray w
  show (callFunc f (#[] ++ xs.toArray.map a.eval ++ #[])).run P w = _
  simpa using this
 unfold Oper.wp
 rw [hrun, Oper.upon_enter]
 refine (call_sat F hol hnd hlt hG hs h2 h3 hd (vs := (xs.map a.eval).toArray) (ys := ys) (by simp [ho]) ?_ hwk).mono ?_
 ·
  intro i y x hy hx
  rw [List.getElem?_toArray, List.getElem?_map] at hx
  cases hxi : xs[i]? with
  | none => rw [hxi] at hx; cases hx
  | some o => rw [hxi] at hx; cases hx; exact ev_ops hs h1 i o y hxi hy
 rintro e w' ⟨v, ρ', rfl, hs'⟩
 exact hK _ _ ρ' hs'
theorem VRel.raw {N : Nat → Nat → Prop} {ρ : Env} {w : World} {x y : Value} (h : VRel N ρ w (.v x) y) : y = x := by cases h; rfl
theorem runv {P : Program} {s : Sem Value} {v : Value} {w w' : World} (h : s.run P w = .ok v w') : (do pure (Next.value (← s)) : Sem Next).run P w = .ok (.value v) w' := by
 rw [Sem.run_bind, h]; rfl
theorem runu {P : Program} {s : Sem Unit} {w w' : World} (h : s.run P w = .ok () w') : (do s; pure Next.skip : Sem Next).run P w = .ok .skip w' := by
 rw [Sem.run_bind, h]; rfl
theorem exec_b1 (ev : Operand → Value) (b : Builtin) (x : Operand) (ats : Array TypeId) {dst : Option Tmp} {ty : TypeId} {pos : String} {aft : Array Edge} {gd : Option (Nat × Bool)} :
  ∃ cs, execOp ev ⟨dst, .call ⟨.builtin b, #[x], ats⟩, ty, pos, aft, gd⟩ = builtin b ats ty cs #[ev x] := ⟨_, by
 show (do let d ← (pure { target := .builtin b ats ty _, args := #[x].map ev } : Sem Deferred); invoke d.target d.args) = _
 simp only [List.map_toArray, List.map_cons, List.map_nil]
 rfl⟩
theorem exec_b2 (ev : Operand → Value) (b : Builtin) (x y : Operand) (ats : Array TypeId) {dst : Option Tmp} {ty : TypeId} {pos : String} {aft : Array Edge} {gd : Option (Nat × Bool)} :
  ∃ cs, execOp ev ⟨dst, .call ⟨.builtin b, #[x, y], ats⟩, ty, pos, aft, gd⟩ = builtin b ats ty cs #[ev x, ev y] := ⟨_, by
 show (do let d ← (pure { target := .builtin b ats ty _, args := #[x, y].map ev } : Sem Deferred); invoke d.target d.args) = _
 simp only [List.map_toArray, List.map_cons, List.map_nil]
 rfl⟩
section
variable {P : Program} {G : List (Nat × Array Value)} {dst : Option Tmp} {ty : TypeId} {pos : String} {aft : Array Edge} {gd : Option (Nat × Bool)}
theorem OpS.move {x : Operand} {v : AV} : OpS P G ⟨dst, .move x, ty, pos, aft, gd⟩ [(x, v)] [] ⟨some v, [], []⟩ :=
 OpS.still fun _ _ _ a _ _ h _ hs => ⟨a.eval x, rfl, hs.ev h.1⟩
theorem OpS.assign {x : Operand} {v : AV} : OpS P G ⟨dst, .assign x, ty, pos, aft, gd⟩ [(x, v)] [] ⟨some v, [], []⟩ :=
 OpS.still fun _ _ _ a _ _ h _ hs => ⟨a.eval x, rfl, hs.ev h.1⟩
theorem OpS.raw1 {o : Oper} {x : Operand} {vx v : Value} (h : ∀ (a : Act) (w : World), a.eval x = vx → (execOp a.eval o).run P w = .ok (.value v) w) : OpS P G o [(x, .v vx)] [] ⟨some (.v v), [], []⟩ :=
 OpS.still fun _ _ _ a w _ h1 _ hs => ⟨v, h a w (hs.ev h1.1).raw, .v v⟩
theorem OpS.raw2 {o : Oper} {x y : Operand} {vx vy v : Value} (h : ∀ (a : Act) (w : World), a.eval x = vx → a.eval y = vy → (execOp a.eval o).run P w = .ok (.value v) w) : OpS P G o [(x, .v vx), (y, .v vy)] [] ⟨some (.v v), [], []⟩ :=
 OpS.still fun _ _ _ a w _ h1 _ hs => ⟨v, h a w (hs.ev h1.1).raw (hs.ev h1.2.1).raw, .v v⟩
theorem OpS.raw3 {o : Oper} {x y z : Operand} {vx vy vz v : Value} (h : ∀ (a : Act) (w : World), a.eval x = vx → a.eval y = vy → a.eval z = vz → (execOp a.eval o).run P w = .ok (.value v) w) :
  OpS P G o [(x, .v vx), (y, .v vy), (z, .v vz)] [] ⟨some (.v v), [], []⟩ :=
 OpS.still fun _ _ _ a w _ h1 _ hs => ⟨v, h a w (hs.ev h1.1).raw (hs.ev h1.2.1).raw (hs.ev h1.2.2.1).raw, .v v⟩
def intV : BinOp → IntKind → Int → Int → Option Value
 | .add, k, a, b => some (.int k (k.wrap (a + b)))
 | .sub, k, a, b => some (.int k (k.wrap (a - b)))
 | .mul, k, a, b => some (.int k (k.wrap (a * b)))
 | .eql, _, a, b => some (.bool (a == b))
 | .neq, _, a, b => some (.bool (a != b))
 | .lss, _, a, b => some (.bool (decide (a < b)))
 | .leq, _, a, b => some (.bool (decide (a ≤ b)))
 | .gtr, _, a, b => some (.bool (decide (a > b)))
 | .geq, _, a, b => some (.bool (decide (a ≥ b)))
 | _, _, _, _ => none
theorem OpS.int {op : BinOp} {t t' : TypeId} {x y : Operand} {k : IntKind} {a b : Int} {v v' : Value} (hv : intV op k a b = some v) (he : v = v') :
  OpS P G ⟨dst, .binOp op t x y t', ty, pos, aft, gd⟩ [(x, .v (.int k a)), (y, .v (.int k b))] [] ⟨some (.v v'), [], []⟩ := by
 subst he
 refine OpS.raw2 fun a' w hx hy => ?_
 show (do pure (Next.value (← (do eqGuard op t x y (a'.eval x) (a'.eval y); binOp op t (a'.eval x) (a'.eval y)))) : Sem Next).run P w = _
 refine runv ?_
 rw [hx, hy]
 cases op <;> simp only [intV, Option.some.injEq, reduceCtorEq] at hv <;> subst hv <;> simp [eqGuard, binOp, Op.intArith, Op.intCmp, Sem.run_bind, Sem.run_pure, Result.andThen_ok]
theorem wr64 {n : Int} (h : -9223372036854775808 ≤ n ∧ n < 9223372036854775808) : Value.int .i64 (IntKind.i64.wrap n) = .int .i64 n := by
 rw [IntKind.wrap_i64]; congr 1; omega
theorem OpS.strAdd {t t' : TypeId} {x y : Operand} {a b : List UInt8} (hl : a.length + b.length ≤ 9223372036854775807) :
  OpS P G ⟨dst, .binOp .add t x y t', ty, pos, aft, gd⟩ [(x, .v (.string (B a))), (y, .v (.string (B b)))] [] ⟨some (.v (.string (B (a ++ b)))), [], []⟩ := by
 refine OpS.raw2 fun a' w hx hy => ?_
 show (do pure (Next.value (← (do eqGuard _ t x y (a'.eval x) (a'.eval y); binOp _ t (a'.eval x) (a'.eval y)))) : Sem Next).run P w = _
 refine runv ?_
 rw [hx, hy]
 simp [eqGuard, binOp, Op.stringOp, Sem.run_bind, Sem.run_pure, Result.andThen_ok, B_append, B_size]
 omega
theorem OpS.strEql {t t' : TypeId} {x y : Operand} {a b : List UInt8} :
  OpS P G ⟨dst, .binOp .eql t x y t', ty, pos, aft, gd⟩ [(x, .v (.string (B a))), (y, .v (.string (B b)))] [] ⟨some (.v (.bool (decide (a = b)))), [], []⟩ := by
 refine OpS.raw2 fun a' w hx hy => ?_
 show (do pure (Next.value (← (do eqGuard _ t x y (a'.eval x) (a'.eval y); binOp _ t (a'.eval x) (a'.eval y)))) : Sem Next).run P w = _
 refine runv ?_
 rw [hx, hy]
 simp only [eqGuard, binOp, Op.stringOp, Sem.run_bind, Sem.run_pure, Result.andThen_ok, Bool.not_true, Bool.false_eq_true, if_false]
 simp [Sem.run_pure, Result.andThen_ok]
 rw [Bool.eq_iff_iff]
 simp [B_toList]
theorem OpS.strNeq {t t' : TypeId} {x y : Operand} {a b : List UInt8} :
  OpS P G ⟨dst, .binOp .neq t x y t', ty, pos, aft, gd⟩ [(x, .v (.string (B a))), (y, .v (.string (B b)))] [] ⟨some (.v (.bool (!decide (a = b)))), [], []⟩ := by
 refine OpS.raw2 fun a' w hx hy => ?_
 show (do pure (Next.value (← (do eqGuard _ t x y (a'.eval x) (a'.eval y); binOp _ t (a'.eval x) (a'.eval y)))) : Sem Next).run P w = _
 refine runv ?_
 rw [hx, hy]
 simp only [eqGuard, binOp, Op.stringOp, Sem.run_bind, Sem.run_pure, Result.andThen_ok, Bool.not_true, Bool.false_eq_true, if_false]
 simp [Sem.run_pure, Result.andThen_ok]
 rw [Bool.eq_iff_iff]
 simp [B_toList]
theorem OpS.not {t : TypeId} {x : Operand} {a : Bool} : OpS P G ⟨dst, .unOp .not t x, ty, pos, aft, gd⟩ [(x, .v (.bool a))] [] ⟨some (.v (.bool (!a))), [], []⟩ := by
 refine OpS.raw1 fun a' w hx => ?_
 show (do pure (Next.value (← (Op.unary .not (a'.eval x)))) : Sem Next).run P w = _
 refine runv ?_
 rw [hx]
 rfl
theorem OpS.pickR {c x y : Operand} {t : Bool} {vx vy : Value} : OpS P G ⟨dst, .pick c x y, ty, pos, aft, gd⟩ [(c, .v (.bool t)), (x, .v vx), (y, .v vy)] [] ⟨some (.v (if t then vx else vy)), [], []⟩ := by
 refine OpS.raw3 fun a' w hc hx hy => ?_
 show (do pure (Next.value (if ← asBool (a'.eval c) then a'.eval x else a'.eval y)) : Sem Next).run P w = _
 rw [hc, hx, hy]
 cases t <;> rfl
theorem OpS.pickT {c x y : Operand} {vx : AV} : OpS P G ⟨dst, .pick c x y, ty, pos, aft, gd⟩ [(c, .v (.bool true)), (x, vx)] [] ⟨some vx, [], []⟩ := by
 refine OpS.still fun _ _ _ a w _ h _ hs => ⟨a.eval x, ?_, hs.ev h.2.1⟩
 show (do pure (Next.value (if ← asBool (a.eval c) then a.eval x else a.eval y)) : Sem Next).run P w = _
 rw [(hs.ev h.1).raw]; rfl
theorem OpS.pickF {c x y : Operand} {vy : AV} : OpS P G ⟨dst, .pick c x y, ty, pos, aft, gd⟩ [(c, .v (.bool false)), (y, vy)] [] ⟨some vy, [], []⟩ := by
 refine OpS.still fun _ _ _ a w _ h _ hs => ⟨a.eval y, ?_, hs.ev h.2.1⟩
 show (do pure (Next.value (if ← asBool (a.eval c) then a.eval x else a.eval y)) : Sem Next).run P w = _
 rw [(hs.ev h.1).raw]; rfl
theorem OpS.conv {src d : TypeId} {x : Operand} {k k' : IntKind} {n : Int} {v : Value} (hs : P.underlying src = some (.int k')) (hu : P.underlying d = some (.int k)) (he : Value.int k (k.wrap n) = v) :
  OpS P G ⟨dst, .convert src d x, ty, pos, aft, gd⟩ [(x, .v (.int k' n))] [] ⟨some (.v v), [], []⟩ := by
 subst he
 refine OpS.raw1 fun a' w hx => ?_
 show (do pure (Next.value (← convert src d (a'.eval x))) : Sem Next).run P w = _
 refine runv ?_
 rw [hx]
 simp [convert, run_underlying hs, run_underlying hu, Sem.run_bind, Conv.intToInt]
theorem OpS.lenS {tx : TypeId} {x : Operand} {l : List UInt8} (hu : P.underlying tx = some .string) :
  OpS P G ⟨dst, .call ⟨.builtin .len, #[x], #[tx]⟩, ty, pos, aft, gd⟩ [(x, .v (.string (B l)))] [] ⟨some (.v (.int .i64 (l.length : Int))), [], []⟩ := by
 refine OpS.raw1 fun a' w hx => ?_
 obtain ⟨cs, he⟩ := exec_b1 a'.eval .len x #[tx] (dst := dst) (ty := ty) (pos := pos) (aft := aft) (gd := gd)
 rw [he]
 refine runv (s := Builtin.len_ #[tx] ty #[a'.eval x]) ?_
 rw [hx]
 simp [Builtin.len_, run_underlying hu, Sem.run_bind, goInt, B_size]
theorem OpS.len {tx e : TypeId} {x : Operand} {o : Option Nat} {n : Nat} {cs : List AV} (hu : P.underlying tx = some (.slice e)) :
  OpS P G ⟨dst, .call ⟨.builtin .len, #[x], #[tx]⟩, ty, pos, aft, gd⟩ [(x, .sl o n cs)] [] ⟨some (.v (.int .i64 (n : Int))), [], []⟩ := by
 refine OpS.still fun A ρ σ a w _ h _ hs => ⟨_, ?_, .v _⟩
 have hx := hs.ev h.1
 obtain ⟨cs, he⟩ := exec_b1 a.eval .len x #[tx] (dst := dst) (ty := ty) (pos := pos) (aft := aft) (gd := gd)
 rw [he]
 refine runv (s := Builtin.len_ #[tx] ty #[a.eval x]) ?_
 generalize a.eval x = y at hx ⊢
 cases hx
 simp [Builtin.len_, run_underlying hu, Sem.run_bind, goInt]
theorem OpS.indexS {tx : TypeId} {x i : Operand} {l : List UInt8} {k : IntKind} {n : Int} {j : Nat} (hu : P.underlying tx = some .string) (hj : n.toNat = j) (h0 : 0 ≤ n) (h1 : n < (l.length : Int)) :
  OpS P G ⟨dst, .index tx x i, ty, pos, aft, gd⟩ [(x, .v (.string (B l))), (i, .v (.int k n))] [] ⟨some (.v (.int .u8 (U8 (nth l j)))), [], []⟩ := by
 subst hj
 refine OpS.raw2 fun a' w hx hi => ?_
 show (do pure (Next.value (← Instr.index tx (a'.eval x) (a'.eval i))) : Sem Next).run P w = _
 refine runv ?_
 rw [hx, hi, run_index_B' w tx l k n hu, if_pos ⟨h0, h1⟩]
theorem OpS.sliceS {tx : TypeId} {x i j : Operand} {l : List UInt8} {k k' : IntKind} {m n : Int} {m' n' : Nat} (hu : P.underlying tx = some .string) (hm : m.toNat = m') (hn : n.toNat = n') (h0 : 0 ≤ m) (h1 : m ≤ n) (h2 : n ≤ (l.length : Int)) :
  OpS P G ⟨dst, .slice tx x (some i) (some j) none, ty, pos, aft, gd⟩ [(x, .v (.string (B l))), (i, .v (.int k m)), (j, .v (.int k' n))] [] ⟨some (.v (.string (B ((l.drop m').take (n' - m'))))), [], []⟩ := by
 subst hm; subst hn
 refine OpS.raw3 fun a' w hx hi hj => ?_
 show (do pure (Next.value (← Instr.sliceAt tx (a'.eval x) (some (a'.eval i)) (some (a'.eval j)) none)) : Sem Next).run P w = _
 refine runv ?_
 rw [hx, hi, hj, run_sliceAt_string w tx _ _ _ _ hu, run_slice_string_if w tx _ k k' m n hu, if_pos ⟨by omega, by rw [B_size]; omega⟩, if_pos ⟨h0, by omega⟩, B_extract]
theorem OpS.sliceSl {tx : TypeId} {x i : Operand} {l : List UInt8} {k : IntKind} {m : Int} {m' : Nat} (hu : P.underlying tx = some .string) (hm : m.toNat = m') (h0 : 0 ≤ m) (h1 : m ≤ (l.length : Int)) :
  OpS P G ⟨dst, .slice tx x (some i) none none, ty, pos, aft, gd⟩ [(x, .v (.string (B l))), (i, .v (.int k m))] [] ⟨some (.v (.string (B (l.drop m')))), [], []⟩ := by
 subst hm
 refine OpS.raw2 fun a' w hx hi => ?_
 show (do pure (Next.value (← Instr.sliceAt tx (a'.eval x) (some (a'.eval i)) none none)) : Sem Next).run P w = _
 refine runv ?_
 rw [hx, hi, run_sliceAt_string w tx _ _ _ _ hu, run_slice_string_l w tx _ hu k m h0 (by rw [B_size]; omega), B_extract, B_size]
 rw [List.take_of_length_le (by simp)]
theorem OpS.sliceSh {tx : TypeId} {x j : Operand} {l : List UInt8} {k : IntKind} {n : Int} {n' : Nat} (hu : P.underlying tx = some .string) (hn : n.toNat = n') (h0 : 0 ≤ n) (h1 : n ≤ (l.length : Int)) :
  OpS P G ⟨dst, .slice tx x none (some j) none, ty, pos, aft, gd⟩ [(x, .v (.string (B l))), (j, .v (.int k n))] [] ⟨some (.v (.string (B (l.take n')))), [], []⟩ := by
 subst hn
 refine OpS.raw2 fun a' w hx hj => ?_
 show (do pure (Next.value (← Instr.sliceAt tx (a'.eval x) none (some (a'.eval j)) none)) : Sem Next).run P w = _
 refine runv ?_
 rw [hx, hj, run_sliceAt_string w tx _ _ _ _ hu, run_slice_string_h w tx _ hu k n h0 (by rw [B_size]; omega), B_extract]
 simp
theorem tnL (j : Nat) : Int.toNat (OfNat.ofNat j : Int) = j := rfl
def el {α : Type} [Inhabited α] (l : List α) (i : Nat) : α := (l[i]?).getD default
theorem OpS.nilCheckP {x : Operand} {id off : Nat} : OpS P G ⟨dst, .nilCheck x, ty, pos, aft, gd⟩ [(x, .ptr id off)] [] ⟨some (.ptr id off), [], []⟩ := by
 refine OpS.still fun A ρ σ a w _ h _ hs => ?_
 have hx := hs.ev h.1
 refine ⟨a.eval x, ?_, hx⟩
 unfold execOp
 dsimp only
 generalize a.eval x = y at hx ⊢
 cases hx
 rfl
theorem OpS.nilCheckS {x : Operand} {cs : List AV} : OpS P G ⟨dst, .nilCheck x, ty, pos, aft, gd⟩ [(x, .sptr cs)] [] ⟨some (.sptr cs), [], []⟩ := by
 refine OpS.still fun A ρ σ a w _ h _ hs => ?_
 have hx := hs.ev h.1
 refine ⟨a.eval x, ?_, hx⟩
 unfold execOp
 dsimp only
 generalize a.eval x = y at hx ⊢
 cases hx
 rfl
theorem OpS.indexAddr {tx e : TypeId} {inf : TypeInfo} {x i : Operand} {o : Option Nat} {n sz : Nat} {cs : List AV} {k : IntKind} {m : Int} (hu : P.underlying tx = some (.slice e)) (hi : P.info? e = some inf) (hz : inf.size = sz) (h0 : 0 ≤ m) (h1 : m < (n : Int))
  (hl : cs.length = n * sz) (hsz : 0 < sz) :
  OpS P G ⟨dst, .indexAddr tx x i, ty, pos, aft, gd⟩ [(x, .sl o n cs), (i, .v (.int k m))] [] ⟨some (.sptr ((cs.drop (m.toNat * sz)).take sz)), [], []⟩ := by
 subst hz
 refine OpS.still fun A ρ σ a w _ h _ hs => ?_
 have hx := hs.ev h.1
 have hi' := (hs.ev h.2.1).raw
 have hmn : m.toNat + 1 ≤ n := by omega
 have hmul : (m.toNat + 1) * inf.size ≤ n * inf.size := Nat.mul_le_mul_right _ hmn
 rw [Nat.add_mul, Nat.one_mul] at hmul
 have hrun : ∀ y, VRel (Nh A σ.h ρ w) ρ w (.sl o n cs) y → ∃ z, (Instr.indexAt tx y (.int k m)).run P w = .ok z w ∧ VRel (Nh A σ.h ρ w) ρ w (.sptr ((cs.drop (m.toNat * inf.size)).take inf.size)) z := by
  intro y hy
  cases hy with
  | sl o n cs ad cap vals hc hcs ho hn hz hm =>
   obtain ⟨h1', b, off, rfl, -⟩ := hc (m.toNat * inf.size) (by omega)
   refine ⟨.pointer (some ((⟨b, off, none⟩ : Addr).add (m.toNat * inf.size))), ?_, ?_⟩
   · simp [Instr.indexAt, asIntOf, run_underlying hu, Sem.run_bind, Sem.run_pure, sizeOf, typeInfo, hi, h0, h1]
   rw [Addr.add_mid]
   refine .sptr _ b (off + m.toNat * inf.size) (fun j => vals (m.toNat * inf.size + j)) (fun j hj => ?_) (fun j c hc' => ?_)
   ·
    have hj' : j < inf.size := by simp at hj; omega
    obtain ⟨-, b', off', he, hx', hN⟩ := hc (m.toNat * inf.size + j) (by omega)
    cases he
    rw [Nat.add_assoc]
    exact ⟨hx', hN⟩
   rw [List.getElem?_take] at hc'
   split at hc'
   ·
    rw [List.getElem?_drop] at hc'
    exact hcs _ c hc'
   cases hc'
 obtain ⟨z, hz, hv⟩ := hrun _ hx
 refine ⟨z, ?_, hv⟩
 show (do pure (Next.value (← Instr.indexAt tx (a.eval x) (a.eval i))) : Sem Next).run P w = _
 refine runv ?_
 rw [hi']
 exact hz
theorem OpS.indexM {α : Type} [Inhabited α] {tx e : TypeId} {inf : TypeInfo} {x i : Operand} {o : Option Nat} {n j : Nat} {f : α → AV} {l : List α} {k : IntKind} {m : Int} (hu : P.underlying tx = some (.slice e)) (hi : P.info? e = some inf) (hz : inf.size = 1) (hj : m.toNat = j)
  (h0 : 0 ≤ m) (h1 : m < (n : Int)) (hl : n = l.length) :
  OpS P G ⟨dst, .indexAddr tx x i, ty, pos, aft, gd⟩ [(x, .sl o n (l.map f)), (i, .v (.int k m))] [] ⟨some (.sptr [f (el l j)]), [], []⟩ := by
 subst hj
 have := OpS.indexAddr (P := P) (G := G) (dst := dst) (ty := ty) (pos := pos) (aft := aft) (gd := gd) (x := x) (i := i) (o := o) (n := n) (cs := l.map f) (k := k) hu hi hz h0 h1 (by simp [hl]) (by decide)
 have hlt : m.toNat < l.length := by omega
 have he : (((l.map f).drop (m.toNat * 1)).take 1) = [f (el l m.toNat)] := by
  rw [Nat.mul_one, List.drop_eq_getElem_cons (by simpa using hlt)]
  simp [el, hlt]
 rw [he] at this
 exact this
theorem OpS.indexAddrA {tx e : TypeId} {inf : TypeInfo} {x i : Operand} {id off n sz : Nat} {k : IntKind} {m : Int} (hu : P.underlying tx = some (.slice e)) (hi : P.info? e = some inf) (hz : inf.size = sz) (h0 : 0 ≤ m) (h1 : m < (n : Int)) :
  OpS P G ⟨dst, .indexAddr tx x i, ty, pos, aft, gd⟩ [(x, .arr id off n), (i, .v (.int k m))] [] ⟨some (.ptr id (off + m.toNat * sz)), [], []⟩ := by
 subst hz
 refine OpS.still fun A ρ σ a w _ h _ hs => ?_
 have hx := hs.ev h.1
 have hi' := (hs.ev h.2.1).raw
 have hrun : ∀ y, VRel (Nh A σ.h ρ w) ρ w (.arr id off n) y → ∃ z, (Instr.indexAt tx y (.int k m)).run P w = .ok z w ∧ VRel (Nh A σ.h ρ w) ρ w (.ptr id (off + m.toNat * inf.size)) z := by
  intro y hy
  cases hy with
  | arr id off n cap b hb hn hm =>
   refine ⟨.pointer (some ((⟨b, off, none⟩ : Addr).add (m.toNat * inf.size))), ?_, ?_⟩
   · simp [Instr.indexAt, asIntOf, run_underlying hu, Sem.run_bind, Sem.run_pure, sizeOf, typeInfo, hi, h0, h1]
   rw [Addr.add_mid]
   exact .ptr id _ b hb
 obtain ⟨z, hz, hv⟩ := hrun _ hx
 refine ⟨z, ?_, hv⟩
 show (do pure (Next.value (← Instr.indexAt tx (a.eval x) (a.eval i))) : Sem Next).run P w = _
 refine runv ?_
 rw [hi']
 exact hz
theorem OpS.indexAddrP {tx e : TypeId} {inf : TypeInfo} {x i : Operand} {id off n sz : Nat} {k : IntKind} {m : Int} (hu : P.underlying tx = some (.array n e)) (hi : P.info? e = some inf) (hz : inf.size = sz) (h0 : 0 ≤ m) (h1 : m < (n : Int)) :
  OpS P G ⟨dst, .indexAddr tx x i, ty, pos, aft, gd⟩ [(x, .ptr id off), (i, .v (.int k m))] [] ⟨some (.ptr id (off + m.toNat * sz)), [], []⟩ := by
 subst hz
 refine OpS.still fun A ρ σ a w _ h _ hs => ?_
 have hx := hs.ev h.1
 have hi' := (hs.ev h.2.1).raw
 have hrun : ∀ y, VRel (Nh A σ.h ρ w) ρ w (.ptr id off) y → ∃ z, (Instr.indexAt tx y (.int k m)).run P w = .ok z w ∧ VRel (Nh A σ.h ρ w) ρ w (.ptr id (off + m.toNat * inf.size)) z := by
  intro y hy
  cases hy with
  | ptr id off b hb =>
   refine ⟨.pointer (some ((⟨b, off, none⟩ : Addr).add (m.toNat * inf.size))), ?_, ?_⟩
   · simp [Instr.indexAt, Instr.sureAddr, asIntOf, run_underlying hu, Sem.run_bind, Sem.run_pure, sizeOf, typeInfo, hi, h0, h1]
   rw [Addr.add_mid]
   exact .ptr id _ b hb
 obtain ⟨z, hz, hv⟩ := hrun _ hx
 refine ⟨z, ?_, hv⟩
 show (do pure (Next.value (← Instr.indexAt tx (a.eval x) (a.eval i))) : Sem Next).run P w = _
 refine runv ?_
 rw [hi']
 exact hz
theorem OpS.indexAddrG {tx e : TypeId} {inf : TypeInfo} {x i : Operand} {g off n sz : Nat} {k : IntKind} {m : Int} (hu : P.underlying tx = some (.array n e)) (hi : P.info? e = some inf) (hz : inf.size = sz) (h0 : 0 ≤ m) (h1 : m < (n : Int)) :
  OpS P G ⟨dst, .indexAddr tx x i, ty, pos, aft, gd⟩ [(x, .v (.pointer (some ⟨g, off, none⟩))), (i, .v (.int k m))] [] ⟨some (.v (.pointer (some ⟨g, off + m.toNat * sz, none⟩))), [], []⟩ := by
 subst hz
 refine OpS.raw2 fun a w hx hi' => ?_
 show (do pure (Next.value (← Instr.indexAt tx (a.eval x) (a.eval i))) : Sem Next).run P w = _
 refine runv ?_
 rw [hx, hi', ← Addr.add_mid]
 simp [Instr.indexAt, Instr.sureAddr, asIntOf, run_underlying hu, Sem.run_bind, Sem.run_pure, sizeOf, typeInfo, hi, h0, h1]
end
end Go.Proofs.YtpnbpcopdckgpaaGreatDoor.E
namespace Go.Proofs.YtpnbpcopdckgpaaGreatDoor.E
open Go Go.RowKit V
def AV.one : AV → Bool
 | .v x => x.oneCell'
 | .agg _ | .tup _ => false
 | _ => true
theorem VRel.oneCell {N : Nat → Nat → Prop} {ρ : Env} {w : World} {c : AV} {x : Value} (h : VRel N ρ w c x) (h1 : c.one = true) : x.oneCell' = true := by
 cases h <;> first | exact h1 | rfl | cases h1
theorem run_storeCells_mk (P : Program) (g o : Nat) (t : TypeId) : ∀ (vs : List Value) (i : Nat) (cur : Array Value) (w : World) (fz : Nat × Nat), Mark cur fz → w.heap[g]? = some (.cells cur t fz) → o + i + vs.length ≤ cur.size → (∀ v ∈ vs, v.oneCell' = true) →
  (storeCells ⟨g, o, none⟩ vs i).run P w = .ok () (w.setRow g (cur.toList.take (o + i) ++ vs ++ cur.toList.drop (o + i + vs.length)).toArray)
 | [], i, cur, w, fz, _, hg, _, _ => by
  simp only [storeCells, List.append_nil, List.length_nil, Nat.add_zero, List.take_append_drop, Array.toArray_toList]
  rw [setRow_self w g cur t fz hg]
  rfl
 | v :: rest, i, cur, w, fz, hm, hg, hl, h1 => by
  have hi : o + i < cur.size := by simp at hl; omega
  have hadd : (⟨g, o, none⟩ : Addr).add i = ⟨g, o + i, none⟩ := by unfold Addr.add; split <;> simp_all
  have hcell : w.cell? ⟨g, o + i, none⟩ = some cur[o + i] := by simp [World.cell?, hg, hi]
  have hfro : w.frozen? ⟨g, o + i, none⟩ = false := hm.frozen hg hi
  have hst : (store ((⟨g, o, none⟩ : Addr).add i) v).run P w = .ok () (w.setRow g (cur.setIfInBounds (o + i) v)) := by
   rw [hadd, run_store P w _ v _ (h1 v (by simp)), hcell]
   simp [hfro, setCell_eq_setRow w g (o + i) cur t fz v hg]
  have ih := run_storeCells_mk P g o t rest (i + 1) (cur.setIfInBounds (o + i) v) (w.setRow g (cur.setIfInBounds (o + i) v)) fz (by unfold Mark; rw [Array.size_setIfInBounds]; exact hm) (setRow_heap w g cur _ t _ hg) (by simp at hl ⊢; omega) (fun x hx => h1 x (by simp [hx]))
  simp only [storeCells, Sem.run_bind, hst, Result.andThen_ok, ih, setRow_setRow]
  congr 3
  have e := list_seg_step cur.toList (o + i) v rest (by simp at hl ⊢; omega)
  simpa [Array.toList_setIfInBounds, Nat.add_assoc] using e
theorem HSat.write {A : Amb} {ρ : Env} {h : Nat → Option AO} {u : Nat → Bool} {w w' : World} (H : HSat A ρ h u w) {id b : Nat} {T : TypeId} {cs cs' : List AV} (hi : h id = some (.cells T cs)) (hb : ρ.blk id = some b)
  (os : w'.os = w.os) (tape : w'.tape = w.tape) (output : w'.output = w.output) (size : w.heap.size ≤ w'.heap.size) (other : ∀ k, k < w.heap.size → k ≠ b → w'.heap[k]? = w.heap[k]?) {arr' : Array Value} {fz : Nat × Nat} (hmk : Mark arr' fz) (hnew : w'.heap[b]? = some (.cells arr' T fz))
  (hlen : cs'.length ≤ arr'.size) (hc : ∀ (j : Nat) (c : AV) (x : Value), cs'[j]? = some c → arr'[j]? = some x → VRel (Nh A h ρ w) ρ w c x ∧ x.oneCell' = true) :
  HSat A ρ (upd h id (some (.cells T cs'))) u w' ∧ ∀ av x, VRel (Nh A h ρ w) ρ w av x → VRel (Nh A (upd h id (some (.cells T cs'))) ρ w') ρ w' av x := by
 have hat : ∀ i ob b', upd h id (some (AO.cells T cs')) i = some ob → ob.at_ ρ i b' → ∃ oj, h i = some oj ∧ oj.at_ ρ i b' := by
  intro i ob b' hi' hat
  rcases upd_eq_some hi' with ⟨rfl, he⟩ | ⟨hne, he⟩
  · cases he; exact ⟨_, hi, hat⟩
  exact ⟨_, he, hat⟩
 refine H.next os tape output size (fun i hu => ⟨hu, rfl, rfl⟩) H.usedB H.usedT ?_ ?_ ?_ ?_ ?_ ?_
 ·
  intro k hk hno
  exact other k hk (fun e => hno id _ hi (by rw [e]; exact hb))
 ·
  intro b' o hn
  refine World.cell?_of_block (w := w) (other b' hn.1 (fun e => hn.2.2 id _ hi (by rw [e]; exact hb)))
 ·
  intro i ob b' o hi' hw
  rcases upd_eq_some hi' with ⟨rfl, he⟩ | ⟨hne, he⟩
  · cases he; exact .inl ⟨_, _, hi, hw⟩
  exact .inl ⟨_, _, he, hw⟩
 ·
  intro i ob b' hi' hw
  obtain ⟨oj, hj, hwj⟩ := hat i ob b' hi' hw
  exact .inl ⟨_, oj, hj, hwj⟩
 ·
  intro i j oi oj b' h1 h2 h3 h4
  obtain ⟨_, k1, k2⟩ := hat i oi b' h1 h3
  obtain ⟨_, k3, k4⟩ := hat j oj b' h2 h4
  exact H.sep i j _ _ b' k1 k3 k2 k4
 intro hV i ob hi'
 rcases upd_eq_some hi' with ⟨rfl, he⟩ | ⟨hne, he⟩
 ·
  cases he
  exact ⟨b, arr', hb, ⟨fz, hmk, hnew⟩, hlen, fun j c x h1 h2 => ⟨hV _ _ (hc j c x h1 h2).1, (hc j c x h1 h2).2⟩⟩
 refine (H.heap i ob he).keep (Env.le_refl ρ) hV fun b' hb' => other b' ((H.heap i ob he).lt hb') ?_
 rintro rfl
 exact hne (H.sep i id ob _ b' he hi hb' hb)
theorem HSat.extend {A : Amb} {ρ ρ' : Env} {h : Nat → Option AO} {u : Nat → Bool} {w w' : World} (H : HSat A ρ h u w) {id : Nat} {ob : AO} (hu : u id = false)
  (hρ : ∀ i, i ≠ id → ρ'.blk i = ρ.blk i ∧ ρ'.tip i = ρ.tip i) (os : w'.os = w.os) (tape : w'.tape = w.tape) (output : w'.output = w.output) (size : w.heap.size ≤ w'.heap.size) (other : ∀ k, k < w.heap.size → w'.heap[k]? = w.heap[k]?)
  (hat : ∀ b, ob.at_ ρ' id b → w.heap.size ≤ b) (ho : (∀ av x, VRel (Nh A h ρ w) ρ w av x → VRel (Nh A (upd h id (some ob)) ρ' w') ρ' w' av x) → ORel (Nh A (upd h id (some ob)) ρ' w') ρ' w' id ob) :
  HSat A ρ' (upd h id (some ob)) (nuU u [id]) w' ∧ ∀ av x, VRel (Nh A h ρ w) ρ w av x → VRel (Nh A (upd h id (some ob)) ρ' w') ρ' w' av x := by
 have hne : ∀ i, u i = true → i ≠ id := fun i hi e => by subst e; rw [hu] at hi; cases hi
 have hle : ρ.le ρ' := ⟨fun i b hb => by rw [(hρ i (hne i (H.usedB i b hb))).1]; exact hb, fun i b hb => by rw [(hρ i (hne i (H.usedT i b hb))).2]; exact hb⟩
 refine H.next os tape output size (fun i hi => ⟨by rw [nuU_eq, hi]; rfl, hρ i (hne i hi)⟩) ?_ ?_ (fun k hk _ => other k hk) (fun b o hn => World.cell?_of_block (w := w) (other b hn.1)) ?_ ?_ ?_ ?_
 ·
  intro i b hb
  rw [nuU_eq]
  by_cases hi : i = id
  · subst hi; simp
  rw [(hρ i hi).1] at hb; rw [H.usedB i b hb]; rfl
 ·
  intro i b hb
  rw [nuU_eq]
  by_cases hi : i = id
  · subst hi; simp
  rw [(hρ i hi).2] at hb; rw [H.usedT i b hb]; rfl
 ·
  intro i oi b o hi hw
  rcases upd_eq_some hi with ⟨rfl, he⟩ | ⟨hn, he⟩
  · cases he; exact .inr (hat b (AO.at_of_wr hw))
  exact .inl ⟨i, oi, he, (H.heap i oi he).wr_back hle hw⟩
 ·
  intro i oi b hi hw
  rcases upd_eq_some hi with ⟨rfl, he⟩ | ⟨hn, he⟩
  · cases he; exact .inr (hat b hw)
  exact .inl ⟨i, oi, he, (H.heap i oi he).at_back hle hw⟩
 ·
  intro i j oi oj b hi hj h1 h2
  rcases upd_eq_some hi with ⟨rfl, he⟩ | ⟨hn, he⟩ <;> rcases upd_eq_some hj with ⟨rfl, he'⟩ | ⟨hn', he'⟩
  · rfl
  ·
   cases he
   have := (H.heap j oj he').lt ((H.heap j oj he').at_back hle h2)
   have := hat b h1
   omega
  ·
   cases he'
   have := (H.heap i oi he).lt ((H.heap i oi he).at_back hle h1)
   have := hat b h2
   omega
  exact H.sep i j oi oj b he he' ((H.heap i oi he).at_back hle h1) ((H.heap j oj he').at_back hle h2)
 intro hV i oi hi
 rcases upd_eq_some hi with ⟨rfl, he⟩ | ⟨hn, he⟩
 · cases he; exact ho hV
 exact (H.heap i oi he).keep hle hV fun b hb => other b ((H.heap i oi he).lt hb)
theorem HSat.grow {A : Amb} {ρ : Env} {h : Nat → Option AO} {u : Nat → Bool} {w w' : World} (H : HSat A ρ h u w) (os : w'.os = w.os) (tape : w'.tape = w.tape) (output : w'.output = w.output) (size : w.heap.size ≤ w'.heap.size)
  (other : ∀ k, k < w.heap.size → w'.heap[k]? = w.heap[k]?) : HSat A ρ h u w' ∧ (∀ av x, VRel (Nh A h ρ w) ρ w av x → VRel (Nh A h ρ w') ρ w' av x) ∧ ∀ b o, w.heap.size ≤ b → b < w'.heap.size → Nh A h ρ w' b o := by
 obtain ⟨h1, h2⟩ := H.next (h' := h) (u' := u) (ρ' := ρ) os tape output size (fun i hi => ⟨hi, rfl, rfl⟩) H.usedB H.usedT (fun k hk _ => other k hk) (fun b o hn => World.cell?_of_block (w := w) (other b hn.1)) (fun i ob b o hi hw => .inl ⟨i, ob, hi, hw⟩)
  (fun i ob b hi hw => .inl ⟨i, ob, hi, hw⟩) H.sep (fun hV i ob hi => (H.heap i ob hi).keep (Env.le_refl ρ) hV fun b hb => other b ((H.heap i ob hi).lt hb))
 refine ⟨h1, h2, fun b o hb hb' => ⟨hb', .inr (.inr (Nat.le_trans H.size hb)), fun i ob hi hw => ?_⟩⟩
 have := (H.heap i ob hi).lt (AO.at_of_wr hw)
 omega
theorem OpS.act {P : Program} {G : List (Nat × Array Value)} {o : Oper} {sl : List (Operand × AV)} {hp : List (Nat × AO)} {e : Eff}
  (h : ∀ (A : Amb) (ρ : Env) (σ : AS) (a : Act) (w : World), A.G = G → SlOk σ sl → HpOk σ hp → NuOk σ e.nu → Sat A ρ σ a w → ∃ x w' ρ', ((execOp a.eval o).run P w = .ok (.value x) w' ∨ ((execOp a.eval o).run P w = .ok .skip w' ∧ x = undef)) ∧
   HSat A ρ' (chs σ.h e.ch) (nuU σ.u e.nu) w' ∧ (∀ av y, VRel (Nh A σ.h ρ w) ρ w av y → VRel (Nh A (chs σ.h e.ch) ρ' w') ρ' w' av y) ∧ ∀ v, e.val = some v → VRel (Nh A (chs σ.h e.ch) ρ' w') ρ' w' v x) : OpS P G o sl hp e := by
 constructor
 intro A ρ σ a w K Q hG h1 h2 h3 hd hs hK
 obtain ⟨x, w', ρ', hr, hH, hV, hx⟩ := h A ρ σ a w hG h1 h2 h3 hs
 have fin := hK _ _ ρ' (hs.put hd (x := x) (e := e) hH hV hx)
 unfold Oper.wp
 rcases hr with hr | ⟨hr, rfl⟩ <;> rw [hr] <;> exact fin
section
variable {P : Program} {G : List (Nat × Array Value)} {dst : Option Tmp} {ty : TypeId} {pos : String} {aft : Array Edge} {gd : Option (Nat × Bool)}
theorem run_isAgg {t : TypeId} {d : TypeDesc} (hu : P.underlying t = some d) (w : World) : (isAgg t).run P w = .ok d.isRow w := by
 unfold isAgg
 rw [Sem.run_bind, run_underlying hu w]
 cases d <;> rfl
theorem run_load1 {t : TypeId} {d : TypeDesc} (hu : P.underlying t = some d) (hd : d.isRow = false) {w : World} {a : Addr} {x : Value} (hc : w.cell? a = some x) : (Instr.loadAt t (.pointer (some a))).run P w = .ok x w := by
 simp [Instr.loadAt, Instr.sureAddr, loadVar, Sem.run_bind, run_isAgg hu, hd, load, Sem.run, hc]
theorem OpS.loadS {t : TypeId} {d : TypeDesc} {x : Operand} {c : AV} (hu : P.underlying t = some d) (hd : d.isRow = false) :
  OpS P G ⟨dst, .load t x, ty, pos, aft, gd⟩ [(x, .sptr [c])] [] ⟨some c, [], []⟩ := by
 refine OpS.still fun A ρ σ a w _ h _ hs => ?_
 have hx := hs.ev h.1
 have hrun : ∀ y, VRel (Nh A σ.h ρ w) ρ w (.sptr [c]) y → ∃ z, (Instr.loadAt t y).run P w = .ok z w ∧ VRel (Nh A σ.h ρ w) ρ w c z := by
  intro y hy
  cases hy with
  | sptr cs b off vals hc hcs => exact ⟨vals 0, run_load1 hu hd (hc 0 (by simp)).1, hcs 0 c rfl⟩
 obtain ⟨z, hz, hv⟩ := hrun _ hx
 exact ⟨z, runv (s := Instr.loadAt t (a.eval x)) hz, hv⟩
theorem OpS.loadSA {t : TypeId} {d : TypeDesc} {x : Operand} {cs : List AV} (hu : P.underlying t = some d) (hd : d.isRow = true) (hi : (P.info? t).map (·.size) = some cs.length) :
  OpS P G ⟨dst, .load t x, ty, pos, aft, gd⟩ [(x, .sptr cs)] [] ⟨some (.agg cs), [], []⟩ := by
 refine OpS.still fun A ρ σ a w _ h _ hs => ?_
 have hx := hs.ev h.1
 have hrun : ∀ y, VRel (Nh A σ.h ρ w) ρ w (.sptr cs) y → ∃ z, (Instr.loadAt t y).run P w = .ok z w ∧ VRel (Nh A σ.h ρ w) ρ w (.agg cs) z := by
  intro y hy
  cases hy with
  | sptr cs b off vals hc hcs =>
   refine ⟨_, run_loadAt_mid w b off t ((List.range cs.length).map vals) d (fun j v hj => ?_) hu hd (by simpa using hi), ?_⟩
   ·
    rw [List.getElem?_map] at hj
    cases hr : (List.range cs.length)[j]? with
    | none => rw [hr] at hj; cases hj
    | some k =>
     rw [hr] at hj
     have hk := List.getElem?_eq_some_iff.1 hr
     obtain ⟨hk1, hk2⟩ := hk
     simp at hk1 hk2
     subst hk2
     cases hj
     exact (hc j hk1).1
   refine .agg cs _ (by simp) (fun i c x hc' hx' => ?_)
   have hi' := (List.getElem?_eq_some_iff.1 hc').1
   have hx2 : x = vals i := by simpa [hi'] using hx'.symm
   rw [hx2]
   exact hcs i c hc'
 obtain ⟨z, hz, hv⟩ := hrun _ hx
 exact ⟨z, runv (s := Instr.loadAt t (a.eval x)) hz, hv⟩
theorem OpS.loadP {t T : TypeId} {d : TypeDesc} {x : Operand} {id off : Nat} {cs : List AV} {c : AV} (hu : P.underlying t = some d) (hd : d.isRow = false) (hc : cs[off]? = some c) :
  OpS P G ⟨dst, .load t x, ty, pos, aft, gd⟩ [(x, .ptr id off)] [(id, .cells T cs)] ⟨some c, [], []⟩ := by
 refine OpS.still fun A ρ σ a w _ h hp hs => ?_
 have hx := hs.ev h.1
 obtain ⟨b, arr, h1, ⟨fz, hmk, h2⟩, h3, h4⟩ := hs.mem.heap id _ hp.1
 have hlt : off < arr.size := by have := (List.getElem?_eq_some_iff.1 hc).1; omega
 have hax : arr[off]? = some arr[off] := Array.getElem?_eq_getElem hlt
 refine ⟨arr[off], ?_, (h4 off c _ hc hax).1⟩
 refine runv (s := Instr.loadAt t (a.eval x)) ?_
 generalize a.eval x = y at hx ⊢
 cases hx with
 | ptr id off b' hb' =>
  rw [h1] at hb'
  cases hb'
  exact run_load1 hu hd (by rw [cell_of_row w b off arr T fz h2]; exact hax)
theorem OpS.loadPA {t T : TypeId} {d : TypeDesc} {inf : TypeInfo} {x : Operand} {id off sz : Nat} {cs : List AV} (hu : P.underlying t = some d) (hd : d.isRow = true) (hi : P.info? t = some inf) (hz : inf.size = sz) (hl : off + sz ≤ cs.length) :
  OpS P G ⟨dst, .load t x, ty, pos, aft, gd⟩ [(x, .ptr id off)] [(id, .cells T cs)] ⟨some (.agg ((cs.drop off).take sz)), [], []⟩ := by
 subst hz
 refine OpS.still fun A ρ σ a w _ h hp hs => ?_
 have hx := hs.ev h.1
 obtain ⟨b, arr, h1, ⟨fz, hmk, h2⟩, h3, h4⟩ := hs.mem.heap id _ hp.1
 refine ⟨.agg ((arr.toList.drop off).take inf.size).toArray, ?_, ?_⟩
 ·
  refine runv (s := Instr.loadAt t (a.eval x)) ?_
  generalize a.eval x = y at hx ⊢
  cases hx with
  | ptr id off b' hb' =>
   rw [h1] at hb'
   cases hb'
   refine run_loadAt_mid w b off t ((arr.toList.drop off).take inf.size) d (fun j v hj => ?_) hu hd ?_
   ·
    rw [cell_of_row w b (off + j) arr T fz h2]
    rw [List.getElem?_take] at hj
    split at hj
    · rw [List.getElem?_drop] at hj; simpa using hj
    cases hj
   rw [hi]; simp; omega
 refine .agg _ _ (by simp; omega) (fun i c y hc hy => ?_)
 rw [List.getElem?_toArray, List.getElem?_take] at hy
 rw [List.getElem?_take] at hc
 split at hc
 ·
  rename_i hlt
  rw [if_pos hlt, List.getElem?_drop] at hy
  rw [List.getElem?_drop] at hc
  exact (h4 _ c y hc (by simpa using hy)).1
 cases hc
theorem OpS.loadG {t : TypeId} {d : TypeDesc} {x : Operand} {g off : Nat} {arr : Array Value} {v : Value} (hu : P.underlying t = some d) (hd : d.isRow = false) (hm : (g, arr) ∈ G) (hv : arr[off]? = some v) :
  OpS P G ⟨dst, .load t x, ty, pos, aft, gd⟩ [(x, .v (.pointer (some ⟨g, off, none⟩)))] [] ⟨some (.v v), [], []⟩ := by
 refine OpS.still fun A ρ σ a w hG h _ hs => ⟨v, ?_, .v v⟩
 refine runv (s := Instr.loadAt t (a.eval x)) ?_
 rw [(hs.ev h.1).raw]
 obtain ⟨⟨T, h1⟩, h2⟩ := hs.mem.tabs _ (by rw [hG]; exact hm)
 have hb := (hs.mem.block g (Array.getElem?_eq_some_iff.1 h1).1 h2).trans h1
 exact run_load1 hu hd (by rw [cell_of_row w g off arr T (0, 0) hb]; exact hv)
theorem OpS.storeP {t T : TypeId} {inf : TypeInfo} {x y : Operand} {id off : Nat} {cs : List AV} {c : AV} (hi : P.info? t = some inf) (hz : inf.size = 1) (h1 : c.one = true) (hl : off < cs.length) :
  OpS P G ⟨dst, .store t x y, ty, pos, aft, gd⟩ [(x, .ptr id off), (y, c)] [(id, .cells T cs)] ⟨none, [(id, some (.cells T (cs.set off c)))], []⟩ := by
 refine OpS.act fun A ρ σ a w _ h hp _ hs => ?_
 have hx := hs.ev h.1
 have hy := hs.ev h.2.1
 obtain ⟨b, arr, k1, ⟨fz, hmk, k2⟩, k3, k4⟩ := hs.mem.heap id _ hp.1
 have h1' := hy.oneCell h1
 have hlt : off < arr.size := by omega
 have hb2 := heap_setCell (i := off) k2 (a.eval y)
 obtain ⟨m1, m2⟩ := hs.mem.write (cs' := cs.set off c) (w' := w.setCell ⟨b, off, none⟩ (a.eval y)) hp.1 k1 rfl rfl rfl (by simp) (fun k _ hk => heap_setCell_ne hk _) (by unfold Mark; rw [Array.size_setIfInBounds]; exact hmk) hb2 (by simp; omega) (fun j c' x' hc hx' => by
  by_cases hj : j = off
  ·
   subst hj
   rw [List.getElem?_set_self hl] at hc
   cases hc
   have hx2 : x' = a.eval y := by simpa [hlt] using hx'.symm
   rw [hx2]
   exact ⟨hy, h1'⟩
  rw [List.getElem?_set_ne (Ne.symm hj)] at hc
  rw [Array.getElem?_setIfInBounds_ne (Ne.symm hj)] at hx'
  exact k4 j c' x' hc hx')
 refine ⟨undef, w.setCell ⟨b, off, none⟩ (a.eval y), ρ, .inr ⟨?_, rfl⟩, m1, m2, fun v hv => by cases hv⟩
 refine runu (s := Instr.storeAt t (a.eval x) (a.eval y)) ?_
 generalize a.eval x = z at hx
 cases hx with
 | ptr id off b' hb' =>
  rw [k1] at hb'
  cases hb'
  have hcell : w.cell? ⟨b, off, none⟩ = some arr[off] := by rw [cell_of_row w b off arr T fz k2]; exact Array.getElem?_eq_getElem hlt
  have hfz := hmk.frozen (j := off) k2 hlt
  generalize a.eval y = v at h1'
  have hcs : v.cells = #[v] := by cases v <;> first | rfl | cases h1'
  have hadd : (⟨b, off, none⟩ : Addr).add 0 = ⟨b, off, none⟩ := rfl
  simp only [Instr.storeAt, Instr.sureAddr, Sem.run_bind, Sem.run_pure, Result.andThen_ok, storeVar, sizeOf, typeInfo, hcs]
  simp [Sem.run_bind, Sem.run_pure, Result.andThen_ok, hi, hz, storeCells, hadd, run_store P w _ v _ h1', hcell, hfz]
end
end Go.Proofs.YtpnbpcopdckgpaaGreatDoor.E
section
namespace Go.Proofs.YtpnbpcopdckgpaaGreatDoor.E
open Go Go.RowKit Go.Proofs.YtpnbpcopdckgpaaGreatDoor.V
section
variable {P : Program} (w : World)
theorem run_append_two (t tx ty e : TypeId) (i : TypeInfo) (z : Value) (size : Nat) (ht : P.underlying t = some (.slice e)) (hi : P.info? e = some i) (hz : i.zero = some z)
  (hsize : i.size = size) (hzs : z.cells.size = size) (hsz : 0 < size)
  (v : Value) (n : Nat) (xs : List Value) (hown : w.ownsRow 0 e size v n xs) (x : Value) (m : Nat) (news : List Value) (hs : Src P size tx x m news w)
  (h63 : n + m ≤ maxLen) (hbytes : (n + m) * i.bytes ≤ 140737488355328) :
  ∃ v' w', (Builtin.append_ #[t, tx] ty #[v, x]).run P w = .ok v' w' ∧ w'.ownsRow 0 e size v' (n + m) (xs ++ news) ∧
   ((v'.ownBlock = v.ownBlock ∧ w.grownBy w' v.ownBlock) ∨ (v'.ownBlock = some w.heap.size ∧ w.grownBy w' none)) := by
 subst hsize
 have hsmall : ((n + m : Nat) : Int) ≤ 9223372036854775807 := by simp only [maxLen] at h63; omega
 have hl := hs.newsLen
 have hlen : (xs ++ news).length = (n + m) * i.size := by rw [List.length_append, hown.1, hl, Nat.add_mul]
 have grown : ∀ (old : Nat), old < n + m →
   (w.drew.alloc (.cells ((xs ++ news).toArray ++ Builtin.zeroCells z.cells (grownCap w (n + m) old e - (n + m))) e)).ownsRow 0 e i.size
    (.slice (some ⟨w.heap.size, 0, none⟩) (n + m) (grownCap w (n + m) old e)) (n + m) (xs ++ news) ∧
   w.grownBy (w.drew.alloc (.cells ((xs ++ news).toArray ++ Builtin.zeroCells z.cells (grownCap w (n + m) old e - (n + m))) e)) none := by
  intro old ho
  have hge := grownCap_ge w (n + m) old e
  have hcm : grownCap w (n + m) old e ≤ maxLen := grownCap_le_maxLen w (n + m) old e h63
  refine ⟨⟨hlen, .inr ⟨w.heap.size, _, _, rfl, Nat.zero_le _, heap_alloc_new w.drew _, hge, hcm, ?_, ?_⟩⟩, ⟨rfl, rfl, rfl, by simp, fun k hk _ => Below.heap_alloc w.drew _ k hk⟩⟩
  ·
   simp only [Array.size_append, List.size_toArray, size_zeroCells, hzs, hlen, ← Nat.add_mul]
   congr 1
   omega
  simp only [Array.toList_append]
  rw [← hlen]
  exact List.take_left
 rcases hown.2 with ⟨rfl, rfl⟩ | ⟨g, cap, cur, rfl, hbg, hg, hnc, hcm, hcs, htake⟩
 ·
  have hx : xs = [] := List.eq_nil_of_length_eq_zero (by simpa using hown.1)
  subst hx
  by_cases hm : m = 0
  ·
   subst hm
   have hn : news = [] := List.eq_nil_of_length_eq_zero (by simpa using hl)
   subst hn
   refine ⟨.slice none 0 0, w, ?_, World.ownsRow_nil w 0 e i.size, .inl ⟨rfl, ⟨rfl, rfl, rfl, Nat.le_refl _, fun _ _ _ => rfl⟩⟩⟩
   rcases hs.kind with ⟨e', hk⟩ | hk <;> simp [Builtin.append_, run_underlying ht, run_underlying hk, sizeOf, typeInfo, hi, hs.len, hs.cells]
  have hold : (Builtin.firstCells i.size 0 (.slice none 0 0)).run P w.drew = .ok ([] : List Value).toArray w.drew := by simp [Builtin.firstCells]
  have hr := run_append_grow_src (P := P) w t tx ty e i z ht hi hz none 0 0 [] hold x m news hs (by omega) (by omega) (growslice_fits (by omega) (by have hb := hbytes; simp only [Nat.zero_add] at hb ⊢; omega))
  have hgr := grown 0 (by omega)
  simp only [Nat.zero_add, List.nil_append] at hgr hr ⊢
  exact ⟨_, _, hr, hgr.1, .inr ⟨rfl, hgr.2⟩⟩
 by_cases hroom : n + m ≤ cap
 ·
  have hfit : n * i.size + news.length ≤ cur.size := by rw [hl, hcs, ← Nat.add_mul]; exact Nat.mul_le_mul_right _ hroom
  have hr := run_append_room_row (P := P) w t tx ty e i ht hi g n cap cur hg x m news hs hroom hfit
  refine ⟨_, _, hr, ⟨hlen, .inr ⟨g, cap, _, rfl, hbg, setRow_heap w g cur _ e _ hg, hroom, hcm, ?_, ?_⟩⟩, .inl ⟨rfl, ⟨rfl, rfl, rfl, by simp, fun k hk hk' => setRow_other w g k _ (fun e => hk' (by simp [Value.ownBlock, e]))⟩⟩⟩
  ·
   simp only [List.size_toArray, List.length_append, List.length_take, List.length_drop, Array.length_toList]
   omega
  rw [htake, ← hlen]
  exact List.take_left
 have holds : ∀ j u, xs[j]? = some u → w.drew.cell? ((⟨g, 0, none⟩ : Addr).add j) = some u := by simpa using hown.cells (g := g) rfl
 have hold : (Builtin.firstCells i.size n (.slice (some ⟨g, 0, none⟩) n cap)).run P w.drew = .ok xs.toArray w.drew := run_firstCells_some w.drew i.size n ⟨g, 0, none⟩ n cap xs hown.1 holds
 have hr := run_append_grow_src (P := P) w t tx ty e i z ht hi hz (some ⟨g, 0, none⟩) n cap xs hold x m news hs (by omega) hsmall (growslice_fits (by omega) hbytes)
 have hgr := grown cap (by omega)
 exact ⟨_, _, hr, hgr.1, .inr ⟨rfl, hgr.2⟩⟩
end
def SrcA (P : Program) (sz : Nat) (tx : TypeId) (y : AV) (m : Nat) (ds : List AV) : Prop :=
 ∀ (N : Nat → Nat → Prop) (ρ : Env) (w : World) (x : Value), VRel N ρ w y x → ∃ news, Src P sz tx x m news w ∧ ∀ (j : Nat) (d : AV) (v : Value), ds[j]? = some d → news[j]? = some v → VRel N ρ w d v
theorem SrcA.sl {P : Program} {sz : Nat} {tx e : TypeId} (hk : P.underlying tx = some (.slice e)) {o : Option Nat} {m : Nat} {ds : List AV} (hl : ds.length = m * sz) : SrcA P sz tx (.sl o m ds) m ds := by
 intro N ρ w x hx
 cases hx with
 | sl o n cs a cap vals hc hcs ho hn hz hm =>
  by_cases h0 : ds.length = 0
  ·
   have hds : ds = [] := List.eq_nil_of_length_eq_zero h0
   subst hds
   refine ⟨[], ?_, fun j d v hj => by simp at hj⟩
   refine ⟨.inl ⟨e, hk⟩, fun w' => by simp [Builtin.lenOf], ?_, ?_, by simpa using hl, fun u hu => by cases hu⟩
   all_goals
    have hl' : m * sz = 0 := by simpa using hl.symm
    cases a with
    | none => simp [Builtin.firstCells]
    | some ad => simp [Builtin.firstCells, hl', loadCells, loadCellsFrom]
  obtain ⟨h1', b, off, rfl, -⟩ := hc 0 (by omega)
  refine ⟨(List.range ds.length).map vals, ?_, fun j d v hj hv => ?_⟩
  ·
   have hcell : ∀ j u, ((List.range ds.length).map vals)[j]? = some u → w.cell? ((⟨b, off, none⟩ : Addr).add j) = some u := by
    intro j u hu
    rw [List.getElem?_map] at hu
    cases hr : (List.range ds.length)[j]? with
    | none => rw [hr] at hu; cases hu
    | some k =>
     rw [hr] at hu
     obtain ⟨hk1, hk2⟩ := List.getElem?_eq_some_iff.1 hr
     simp at hk1 hk2
     subst hk2
     cases hu
     obtain ⟨-, b', off', he, hx', -⟩ := hc j hk1
     cases he
     rw [Addr.add_mid]
     exact hx'
   exact Src.ofSlice w hk ⟨b, off, none⟩ m cap _ (by simp [hl]) hcell (fun u hu => by
    obtain ⟨k, hk1, rfl⟩ := List.mem_map.1 hu
    exact (hc k (by simpa using hk1)).1)
  have hj' := (List.getElem?_eq_some_iff.1 hj).1
  have hx2 : v = vals j := by
   rw [List.getElem?_map, List.getElem?_range hj'] at hv
   simpa using hv.symm
  rw [hx2]
  exact hcs j d hj
theorem SrcA.str {P : Program} {tx : TypeId} (hk : P.underlying tx = some .string) (l : List UInt8) : SrcA P 1 tx (.v (.string (B l))) l.length (l.map fun b => .v (bv b)) := by
 intro N ρ w x hx
 cases hx
 refine ⟨bvs l, Src.text w hk l, fun j d v hj hv => ?_⟩
 rw [List.getElem?_map] at hj
 cases hl : l[j]? with
 | none => rw [hl] at hj; cases hj
 | some b =>
  rw [hl] at hj
  cases hj
  have : v = bv b := by simpa [bvs, hl] using hv.symm
  rw [this]
  exact .v _
theorem SrcA.nil {P : Program} {sz : Nat} {tx e : TypeId} (hk : P.underlying tx = some (.slice e)) : SrcA P sz tx (.v (.slice none 0 0)) 0 [] := by
 intro N ρ w x hx
 cases hx
 exact ⟨[], Src.ofNil w hk 0, fun j d v hj => by simp at hj⟩
section
variable {P : Program} {G : List (Nat × Array Value)} {dst : Option Tmp} {ty : TypeId} {pos : String} {aft : Array Edge} {gd : Option (Nat × Bool)}
theorem grown_cells {w w' : World} {row : Option Nat} (h : w.grownBy w' row) {b o : Nat} (hb : b < w.heap.size) (hn : some b ≠ row) : w'.cell? ⟨b, o, none⟩ = w.cell? ⟨b, o, none⟩ :=
 World.cell?_of_block (w := w) (h.block b hb hn)
theorem append_tip {A : Amb} {ρ : Env} {σ : AS} {w w' : World} {c c' n m sz : Nat} {E : TypeId} {cs ds : List AV} {v v' : Value} {xs news : List Value} (H : HSat A ρ σ.h σ.u w) (hc : σ.h c = some (.tip E sz n)) (hu : σ.u c' = false)
  (hv : VRel (Nh A σ.h ρ w) ρ w (.sl (some c) n cs) v) (hl : cs.length = n * sz) (hxs : w.ownsRow 0 E sz v n xs) (hown : w'.ownsRow 0 E sz v' (n + m) (xs ++ news)) (hnews : news.length = m * sz) (hdl : ds.length = m * sz)
  (hds : ∀ (j : Nat) (d : AV) (x : Value), ds[j]? = some d → news[j]? = some x → VRel (Nh A σ.h ρ w) ρ w d x ∧ x.oneCell' = true) (hmax : n + m ≤ maxLen)
  (hg : (v'.ownBlock = v.ownBlock ∧ w.grownBy w' v.ownBlock) ∨ (v'.ownBlock = some w.heap.size ∧ w.grownBy w' none)) :
  ∃ ρ', HSat A ρ' (upd (upd σ.h c none) c' (some (.tip E sz (n + m)))) (nuU σ.u [c']) w' ∧
   (∀ av y, VRel (Nh A σ.h ρ w) ρ w av y → VRel (Nh A (upd (upd σ.h c none) c' (some (.tip E sz (n + m)))) ρ' w') ρ' w' av y) ∧
   VRel (Nh A (upd (upd σ.h c none) c' (some (.tip E sz (n + m)))) ρ' w') ρ' w' (.sl (some c') (n + m) (cs ++ ds)) v' := by
 have hne : ∀ i, σ.u i = true → i ≠ c' := fun i hi e => by subst e; rw [hu] at hi; cases hi
 have htip : ρ.tip c = some v := by cases hv with | sl o n cs a cap vals hc hcs ho hn hz hm => exact ho c rfl
 have hcc : c ≠ c' := hne c (H.usedT c v htip)
 let ρ' : Env := ⟨ρ.blk, upd ρ.tip c' (some v')⟩
 have hold : ∀ i, i ≠ c' → ρ'.blk i = ρ.blk i ∧ ρ'.tip i = ρ.tip i := fun i hi => ⟨rfl, upd_ne _ _ hi⟩
 have hnew : ρ'.tip c' = some v' := upd_same _ _ _
 have hle : ρ.le ρ' := ⟨fun i b hb => hb, fun i b hb => by rw [(hold i (hne i (H.usedT i b hb))).2]; exact hb⟩
 have hgB : w.os = w'.os ∧ w.tape = w'.tape ∧ w.output = w'.output ∧ w.heap.size ≤ w'.heap.size ∧ ∀ k, k < w.heap.size → some k ≠ v.ownBlock → w'.heap[k]? = w.heap[k]? := by
  rcases hg with ⟨-, h⟩ | ⟨-, h⟩
  · exact ⟨h.os.symm, h.tape.symm, h.output.symm, h.size, h.block⟩
  exact ⟨h.os.symm, h.tape.symm, h.output.symm, h.size, fun k hk _ => h.block k hk (by simp)⟩
 obtain ⟨ho1, ho2, ho3, ho4, ho5⟩ := hgB
 have hvat : ∀ g, v.ownBlock = some g → (AO.tip E sz n).at_ ρ c g ∧ g < w.heap.size := by
  intro g hgv
  rcases hxs.2 with ⟨rfl, -⟩ | ⟨g', cap, cur, rfl, -, hh, -⟩
  · cases hgv
  cases hgv
  exact ⟨⟨cap, htip⟩, (Array.getElem?_eq_some_iff.1 hh).1⟩
 have hatv : ∀ b, (AO.tip E sz n).at_ ρ c b → v.ownBlock = some b := by
  rintro b ⟨cap, h⟩
  rw [htip] at h
  cases h
  rfl
 have hcase : ∀ i ob, upd (upd σ.h c none) c' (some (AO.tip E sz (n + m))) i = some ob → (i = c' ∧ ob = .tip E sz (n + m)) ∨ (i ≠ c' ∧ i ≠ c ∧ σ.h i = some ob) := by
  intro i ob hi
  rcases upd_eq_some hi with ⟨rfl, h⟩ | ⟨h1, h⟩
  · cases h; exact .inl ⟨rfl, rfl⟩
  rcases upd_eq_some h with ⟨h2, h3⟩ | ⟨h2, h3⟩
  · cases h3
  exact .inr ⟨h1, h2, h3⟩
 have hat' : ∀ b, (AO.tip E sz (n + m)).at_ ρ' c' b → v'.ownBlock = some b := by
  rintro b ⟨cap, h⟩
  rw [hnew] at h
  cases h
  rfl
 have hother : ∀ i ob b, i ≠ c → σ.h i = some ob → ob.at_ ρ i b → some b ≠ v.ownBlock := by
  intro i ob b hi hσ hat he
  exact hi (H.sep i c ob _ b hσ hc hat (hvat b he.symm).1)
 have hcells : ∀ b o, Nh A σ.h ρ w b o → w'.cell? ⟨b, o, none⟩ = w.cell? ⟨b, o, none⟩ := by
  intro b o hn
  by_cases hbv : v.ownBlock = some b
  ·
   have hat := hvat b hbv
   rcases hg with ⟨he, -⟩ | ⟨-, hgr⟩
   ·
    rcases hxs.2 with ⟨rfl, -⟩ | ⟨g, cap, cur, rfl, -, hh, hn1, hn2, hn3, hn4⟩
    · cases hbv
    cases hbv
    have hlt : o < n * sz := by
     rcases Nat.lt_or_ge o (n * sz) with h | h
     · exact h
     exact (hn.2.2 c _ hc ⟨cap, htip, h⟩).elim
    rcases hown.2 with ⟨rfl, -⟩ | ⟨g', cap', cur', rfl, -, hh', hm1, hm2, hm3, hm4⟩
    · cases he
    cases he
    rw [cell_of_row w' _ o cur' E (0, 0) hh', cell_of_row w _ o cur E (0, 0) hh]
    have e1 : cur'[o]? = (xs ++ news)[o]? := by
     rw [← hm4, List.getElem?_take_of_lt (by rw [Nat.add_mul]; omega)]
     simp
    have e2 : cur[o]? = xs[o]? := by
     rw [← hn4, List.getElem?_take_of_lt hlt]
     simp
    rw [e1, e2, List.getElem?_append_left (by rw [hxs.1]; exact hlt)]
   exact grown_cells hgr hn.1 (by simp)
  exact World.cell?_of_block (w := w) (ho5 b hn.1 (fun e => hbv e.symm))
 have hown' : ∀ b, v'.ownBlock = some b → v.ownBlock = some b ∨ b = w.heap.size := by
  intro b hb
  rcases hg with ⟨he, -⟩ | ⟨he, -⟩
  · rw [he] at hb; exact .inl hb
  rw [he] at hb; cases hb; exact .inr rfl
 obtain ⟨HN, hV⟩ := H.next (ρ' := ρ') (h' := upd (upd σ.h c none) c' (some (.tip E sz (n + m)))) (u' := nuU σ.u [c']) (w' := w') ho1.symm ho2.symm ho3.symm ho4
  (fun i hi => ⟨by rw [nuU_eq, hi]; rfl, hold i (hne i hi)⟩)
  (fun i b hb => by rw [nuU_eq, H.usedB i b hb]; rfl)
  (fun i b hb => by
   rw [nuU_eq]
   by_cases hi : i = c'
   · subst hi; simp
   rw [(hold i hi).2] at hb; rw [H.usedT i b hb]; rfl)
  (fun k hk hno => ho5 k hk (fun e => hno c _ hc (hvat k e.symm).1))
  hcells
  (fun i ob b o hi hw => by
   rcases hcase i ob hi with ⟨rfl, rfl⟩ | ⟨h1, h2, hσ⟩
   ·
    obtain ⟨cap, ht, hoo⟩ := hw
    rw [hnew] at ht
    have hb' : v'.ownBlock = some b := by cases ht; rfl
    rcases hown' b hb' with h | h
    ·
     obtain ⟨⟨cap', ht'⟩, -⟩ := hvat b h
     exact .inl ⟨c, _, hc, cap', ht', by rw [Nat.add_mul] at hoo; omega⟩
    exact .inr (by omega)
   exact .inl ⟨i, ob, hσ, (H.heap i ob hσ).wr_back hle hw⟩)
  (fun i ob b hi hw => by
   rcases hcase i ob hi with ⟨rfl, rfl⟩ | ⟨h1, h2, hσ⟩
   ·
    rcases hown' b (hat' b hw) with h | h
    · exact .inl ⟨c, _, hc, (hvat b h).1⟩
    exact .inr (by omega)
   exact .inl ⟨i, ob, hσ, (H.heap i ob hσ).at_back hle hw⟩)
  (fun i j oi oj b hi hj h1 h2 => by
   have far : ∀ k ok, k ≠ c → σ.h k = some ok → ok.at_ ρ k b → v'.ownBlock = some b → False := by
    intro k ok hk hσ hat hb
    rcases hown' b hb with h | h
    · exact hother k ok b hk hσ hat h.symm
    have := (H.heap k ok hσ).lt hat; omega
   rcases hcase i oi hi with ⟨rfl, rfl⟩ | ⟨k1, k2, hσ⟩ <;> rcases hcase j oj hj with ⟨rfl, rfl⟩ | ⟨k3, k4, hσ'⟩
   · rfl
   · exact (far j oj k4 hσ' ((H.heap j oj hσ').at_back hle h2) (hat' b h1)).elim
   · exact (far i oi k2 hσ ((H.heap i oi hσ).at_back hle h1) (hat' b h2)).elim
   exact H.sep i j oi oj b hσ hσ' ((H.heap i oi hσ).at_back hle h1) ((H.heap j oj hσ').at_back hle h2))
  (fun hV i ob hi => by
   rcases hcase i ob hi with ⟨rfl, rfl⟩ | ⟨h1, h2, hσ⟩
   ·
    rcases hown.2 with ⟨rfl, h0⟩ | ⟨g, cap, cur, rfl, -, hh, hn1, hn2, hn3, -⟩
    · exact .inl ⟨hnew, h0⟩
    exact .inr ⟨g, cap, cur, hnew, hh, hn1, hn2, hn3⟩
   exact (H.heap i ob hσ).keep hle hV fun b hb => ho5 b ((H.heap i ob hσ).lt hb) (hother i ob b h2 hσ hb))
 refine ⟨ρ', HN, hV, ?_⟩
 rcases hown.2 with ⟨rfl, h0⟩ | ⟨g, cap, cur, rfl, -, hh, hn1, hn2, hn3, hn4⟩
 ·
  have hz : (cs ++ ds).length = 0 := by rw [List.length_append, hl, hdl, ← Nat.add_mul, h0, Nat.zero_mul]
  have hz' := List.eq_nil_of_length_eq_zero hz
  rw [hz', h0]
  refine .sl _ _ _ _ _ (fun _ => undef) (fun i hi => by simp at hi) (fun i c hc => by simp at hc) (fun k hk => by cases hk; exact hnew) (Nat.le_refl _) (fun _ => rfl) (by unfold maxLen; omega)
 have hlen : (cs ++ ds).length = (n + m) * sz := by rw [List.length_append, hl, hdl, Nat.add_mul]
 have hmul := Nat.mul_le_mul_right sz hn1
 have hcell : ∀ i, i < (n + m) * sz → w'.cell? ⟨g, 0 + i, none⟩ = some ((xs ++ news).getD i undef) := by
  intro i hi
  rw [cell_of_row w' g (0 + i) cur E (0, 0) hh, Nat.zero_add]
  have e1 : cur[i]? = (xs ++ news)[i]? := by
   rw [← hn4, List.getElem?_take_of_lt hi]
   simp
  rw [e1, List.getD_eq_getElem?_getD, List.getElem?_eq_getElem (by rw [hown.1]; exact hi)]
  rfl
 have hval : ∀ i (d : AV), (cs ++ ds)[i]? = some d → VRel (Nh A σ.h ρ w) ρ w d ((xs ++ news).getD i undef) ∧ ((xs ++ news).getD i undef).oneCell' = true := by
  intro i d hd
  have hi := (List.getElem?_eq_some_iff.1 hd).1
  rw [List.length_append] at hi
  by_cases hic : i < cs.length
  ·
   rw [List.getElem?_append_left hic] at hd
   rw [List.getD_eq_getElem?_getD, List.getElem?_append_left (by rw [hxs.1, ← hl]; exact hic)]
   cases hv with
   | sl o n cs a cap' vals hcv hcsv ho hn hz hm =>
    obtain ⟨k1, b, off, rfl, k2, k3⟩ := hcv i hic
    rcases hxs.2 with ⟨he, -⟩ | ⟨g2, cap2, cur2, he, -, hh2, -, -, -, hn42⟩
    · cases he
    cases he
    have hx2 : w.cell? ⟨b, 0 + i, none⟩ = xs[i]? := by
     rw [cell_of_row w b (0 + i) cur2 E (0, 0) hh2, Nat.zero_add, ← hn42, List.getElem?_take_of_lt (by rw [← hl]; exact hic)]
     simp
    rw [k2] at hx2
    rw [← hx2]
    exact ⟨hcsv i d hd, k1⟩
  rw [List.getElem?_append_right (by omega)] at hd
  have hxl : xs.length ≤ i := by rw [hxs.1, ← hl]; omega
  rw [List.getD_eq_getElem?_getD, List.getElem?_append_right hxl]
  have hj : i - xs.length = i - cs.length := by rw [hxs.1, hl]
  rw [hj]
  have hlt : i - cs.length < news.length := by rw [hnews, ← hdl]; omega
  have := hds (i - cs.length) d news[i - cs.length] hd (List.getElem?_eq_getElem hlt)
  rw [List.getElem?_eq_getElem hlt]
  exact this
 refine .sl _ _ _ _ _ (fun i => (xs ++ news).getD i undef) (fun i hi => ?_) (fun i d hd => hV _ _ (hval i d hd).1) (fun k hk => by cases hk; exact hnew) hn1 (fun h => by cases h) hn2
 have hi' : i < (n + m) * sz := by rw [← hlen]; exact hi
 refine ⟨(hval i _ (List.getElem?_eq_getElem hi)).2, g, 0, rfl, hcell i hi', ?_⟩
 refine ⟨(Array.getElem?_eq_some_iff.1 hh).1, ?_, ?_⟩
 ·
  rcases hown' g rfl with h | h
  ·
   by_cases hic : i < cs.length
   ·
    cases hv with
    | sl o n cs a cap' vals hcv hcsv ho hn hz hm =>
     obtain ⟨k1, b, off, rfl, k2, k3⟩ := hcv i hic
     cases h
     rcases hxs.2 with ⟨he, -⟩ | ⟨g2, cap2, cur2, he, -⟩
     · cases he
     cases he; exact k3.2.1
   obtain ⟨⟨cap', ht'⟩, -⟩ := hvat g h
   have := H.own c _ g (0 + i) hc ⟨cap', ht', by rw [← hl]; omega⟩
   exact .inr this
  have := H.size
  exact .inr (.inr (by omega))
 intro k ok hk hw
 rcases hcase k ok hk with ⟨rfl, rfl⟩ | ⟨h1, h2, hσ⟩
 ·
  obtain ⟨cap', ht, hoo⟩ := hw
  omega
 have hw' := AO.at_of_wr ((H.heap k ok hσ).wr_back hle hw)
 rcases hown' g rfl with h | h
 · exact hother k ok g h2 hσ hw' h.symm
 have := (H.heap k ok hσ).lt hw'; omega
theorem OpS.append {E t tx : TypeId} {inf : TypeInfo} {z : Value} {s x : Operand} {c n m sz bb : Nat} {cs ds : List AV} {y : AV} (c' : Nat) (ht : P.underlying t = some (.slice E)) (hi : P.info? E = some inf) (hz : inf.zero = some z) (hsz : inf.size = sz) (hzs : z.cells.size = sz) (h0 : 0 < sz)
  (hs : SrcA P sz tx y m ds) (hl : cs.length = n * sz) (hdl : ds.length = m * sz) (hmax : n + m ≤ maxLen) (hbb : inf.bytes = bb) (hb : (n + m) * bb ≤ 140737488355328) :
  OpS P G ⟨dst, .call ⟨.builtin .append, #[s, x], #[t, tx]⟩, ty, pos, aft, gd⟩ [(s, .sl (some c) n cs), (x, y)] [(c, .tip E sz n)] ⟨some (.sl (some c') (n + m) (cs ++ ds)), [(c, none), (c', some (.tip E sz (n + m)))], [c']⟩ := by
 subst hbb
 refine OpS.act fun A ρ σ a w _ h hp hu hst => ?_
 have hv := hst.ev h.1
 obtain ⟨news, hsrc, hds⟩ := hs _ _ _ _ (hst.ev h.2.1)
 obtain ⟨xs, hxs⟩ : ∃ xs, w.ownsRow 0 E sz (a.eval s) n xs := by
  have htip : ρ.tip c = some (a.eval s) := by
   generalize a.eval s = v at hv
   cases hv with | sl o n cs ad cap vals hc hcs ho hn hz hm => exact ho c rfl
  rcases hst.mem.heap c _ hp.1 with ⟨h1, h2⟩ | ⟨g, cap, cur, h1, h2, h3, h4, h5⟩
  ·
   rw [htip] at h1
   injection h1 with h1
   exact ⟨[], by subst h2; simp, .inl ⟨h1, h2⟩⟩
  rw [htip] at h1
  have he : a.eval s = .slice (some ⟨g, 0, none⟩) n cap := by injection h1
  refine ⟨cur.toList.take (n * sz), ?_, .inr ⟨g, cap, cur, he, Nat.zero_le _, h2, h3, h4, h5, rfl⟩⟩
  have := Nat.mul_le_mul_right sz h3
  simp; omega
 obtain ⟨v', w', hr, hown, hg⟩ := run_append_two (P := P) w t tx ty E inf z sz ht hi hz hsz hzs h0 _ n xs hxs _ m news hsrc hmax hb
 obtain ⟨ρ', k1, k2, k3⟩ := append_tip (σ := σ) hst.mem hp.1 hu.1 hv hl hxs hown hsrc.newsLen hdl (fun j d x hj hx => ⟨hds j d x hj hx, hsrc.one x (List.mem_of_getElem? hx)⟩) hmax hg
 obtain ⟨css, he⟩ := exec_b2 a.eval .append s x #[t, tx] (dst := dst) (ty := ty) (pos := pos) (aft := aft) (gd := gd)
 refine ⟨v', w', ρ', .inl ?_, k1, k2, fun v hv' => by cases hv'; exact k3⟩
 rw [he]
 exact runv (s := Builtin.append_ #[t, tx] ty #[a.eval s, a.eval x]) hr
end
end Go.Proofs.YtpnbpcopdckgpaaGreatDoor.E
end
namespace Go.Proofs.YtpnbpcopdckgpaaGreatDoor.E
open Go Go.RowKit V
def cellsA : AV → List AV
 | .agg cs => cs
 | .v (.agg arr) => arr.toList.map .v
 | x => [x]
theorem cellsA_rel {N : Nat → Nat → Prop} {ρ : Env} {w : World} {y : AV} {x : Value} (h : VRel N ρ w y x) : x.cells.size = (cellsA y).length ∧ ∀ (j : Nat) (c : AV) (v : Value), (cellsA y)[j]? = some c → x.cells[j]? = some v → VRel N ρ w c v := by
  have one : ∀ (y : AV) (x : Value), VRel N ρ w y x → x.cells = #[x] → x.cells.size = [y].length ∧ ∀ (j : Nat) (c : AV) (v : Value), [y][j]? = some c → x.cells[j]? = some v → VRel N ρ w c v := by
    intro y x h hx
    rw [hx]
    refine ⟨rfl, fun j c v hc hv => ?_⟩
    match j with
    | 0 => simp at hc hv; subst hc; subst hv; exact h
    | j + 1 => simp at hc
  cases h with
  | v x =>
    cases x <;> first
      | exact one _ _ (.v _) rfl
      | (refine ⟨by simp [Value.cells, cellsA], fun j c v hc hv => ?_⟩
         simp only [cellsA, List.getElem?_map] at hc
         simp only [Value.cells] at hv
         rw [Array.getElem?_toList, hv] at hc
         cases hc
         exact .v _)
  | agg cs vs hs h => exact ⟨hs, h⟩
  | tup cs vs hs h => exact one _ _ (.tup cs vs hs h) rfl
  | sl o n cs a cap vals hc h ho hn hz hm => exact one _ _ (.sl o n cs a cap vals hc h ho hn hz hm) rfl
  | arr id off n cap b hb hn hm => exact one _ _ (.arr id off n cap b hb hn hm) rfl
  | ptr id off b hb => exact one _ _ (.ptr id off b hb) rfl
  | sptr cs b off vals hc h => exact one _ _ (.sptr cs b off vals hc h) rfl
  | fn f fs cs vs us hs h hs' h' => exact one _ _ (.fn f fs cs vs us hs h hs' h') rfl
  | mp id b hb => exact one _ _ (.mp id b hb) rfl
def splice {α : Type} (l : List α) (off : Nat) (d : List α) : List α := l.take off ++ d ++ l.drop (off + d.length)
theorem splice_len {α : Type} (l : List α) (off : Nat) (d : List α) (h : off + d.length ≤ l.length) : (splice l off d).length = l.length := by simp [splice]; omega
theorem splice_get {α : Type} (l : List α) (off : Nat) (d : List α) (j : Nat) (h : off + d.length ≤ l.length) : (splice l off d)[j]? = if off ≤ j ∧ j < off + d.length then d[j - off]? else l[j]? := by
 unfold splice
 have hlen : (l.take off).length = off := by simp; omega
 by_cases h1 : j < off
 · rw [List.append_assoc, List.getElem?_append_left (by omega), List.getElem?_take_of_lt h1, if_neg (by omega)]
 by_cases h2 : j < off + d.length
 · rw [List.getElem?_append_left (by simp; omega), List.getElem?_append_right (by omega), hlen, if_pos ⟨by omega, h2⟩]
 rw [List.getElem?_append_right (by simp; omega), List.getElem?_drop, if_neg (by omega)]
 congr 1
 simp; omega
theorem foldl_set (d : List Value) : ∀ (off : Nat) (k : Nat) (cells : Array Value), off + k + d.length ≤ cells.size →
  (d.zipIdx k).foldl (fun (cs : Array Value) (p : Value × Nat) => cs.setIfInBounds (off + p.2) p.1) cells = (splice cells.toList (off + k) d).toArray := by
 induction d with
 | nil => intro off k cells _; simp [splice]
 | cons x d ih =>
  intro off k cells h
  simp only [List.length_cons] at h
  rw [List.zipIdx_cons, List.foldl_cons, ih off (k + 1) _ (by simp; omega)]
  apply congrArg
  apply List.ext_getElem?
  intro j
  rw [splice_get _ _ _ _ (by simp; omega), splice_get _ _ _ _ (by simp; omega)]
  simp only [List.length_cons]
  by_cases h1 : j = off + k
  ·
   subst h1
   rw [if_neg (by omega), if_pos ⟨by omega, by omega⟩, Array.getElem?_toList, Array.getElem?_setIfInBounds_self_of_lt (by omega)]
   simp
  by_cases h2 : off + (k + 1) ≤ j ∧ j < off + (k + 1) + d.length
  · rw [if_pos h2, if_pos ⟨by omega, by omega⟩, show j - (off + k) = j - (off + (k + 1)) + 1 by omega, List.getElem?_cons_succ]
  rw [if_neg h2, if_neg (by omega), Array.getElem?_toList, Array.getElem?_toList, Array.getElem?_setIfInBounds_ne (by omega)]
def fillA (place : Nat → Option (Nat × Nat)) (cells : List AV) : List (Nat × AV) → Option (List AV)
 | [] => some cells
 | (i, y) :: rest => match place i with
  | none => none
  | some (off, size) => bif Nat.beq (cellsA y).length size && Nat.ble (off + (cellsA y).length) cells.length then fillA place (splice cells off (cellsA y)) rest else none
theorem fill_rel {N : Nat → Nat → Prop} {ρ : Env} {w : World} {place : Nat → Option (Nat × Nat)} : ∀ (ps : List (Nat × AV)) (vs : List (Nat × Value)) (cs cs' : List AV) (arr : Array Value), fillA place cs ps = some cs' → ps.map (·.1) = vs.map (·.1) →
  (∀ (j : Nat) (p : Nat × AV) (q : Nat × Value), ps[j]? = some p → vs[j]? = some q → VRel N ρ w p.2 q.2) → arr.size = cs.length → (∀ (j : Nat) (c : AV) (v : Value), cs[j]? = some c → arr[j]? = some v → VRel N ρ w c v) →
  ∃ arr', Instr.fill place arr vs = some arr' ∧ arr'.size = cs'.length ∧ ∀ (j : Nat) (c : AV) (v : Value), cs'[j]? = some c → arr'[j]? = some v → VRel N ρ w c v
 | [], [], cs, cs', arr, hf, _, _, hs, hr => by cases hf; exact ⟨arr, rfl, hs, hr⟩
 | (i, y) :: ps, (i', x) :: vs, cs, cs', arr, hf, hk, hv, hs, hr => by
  simp only [List.map_cons, List.cons.injEq] at hk
  obtain ⟨hii, hk⟩ := hk
  subst hii
  simp only [fillA] at hf
  cases hpl : place i with
  | none => rw [hpl] at hf; cases hf
  | some os =>
   obtain ⟨off, size⟩ := os
   rw [hpl] at hf
   dsimp only at hf
   cases hb : Nat.beq (cellsA y).length size && Nat.ble (off + (cellsA y).length) cs.length with
   | false => rw [hb] at hf; cases hf
   | true =>
    rw [hb] at hf
    simp only [Bool.and_eq_true, Nat.beq_eq, Nat.ble_eq] at hb
    obtain ⟨hb1, hb2⟩ := hb
    have hxy : VRel N ρ w y x := hv 0 (i, y) (i, x) rfl rfl
    obtain ⟨k1, k2⟩ := cellsA_rel hxy
    have hsp : x.cells.zipIdx.foldl (fun (cs : Array Value) (p : Value × Nat) => cs.setIfInBounds (off + p.2) p.1) arr = (splice arr.toList off x.cells.toList).toArray := by
     have := foldl_set x.cells.toList off 0 arr (by simp [k1, hs]; omega)
     rw [Nat.add_zero] at this
     rw [← this, ← Array.foldl_toList, Array.toList_zipIdx]
    obtain ⟨arr', m1, m2, m3⟩ := fill_rel ps vs _ cs' (splice arr.toList off x.cells.toList).toArray hf hk (fun j p q hp hq => hv (j + 1) p q (by simpa using hp) (by simpa using hq))
     (by rw [List.size_toArray, splice_len _ _ _ (by simp [k1, hs]; omega), splice_len _ _ _ (by omega)]; simpa using hs) (fun j c v hc hv' => by
      rw [splice_get _ _ _ _ (by omega)] at hc
      rw [List.getElem?_toArray, splice_get _ _ _ _ (by simp [k1, hs]; omega)] at hv'
      simp only [Array.length_toList, k1] at hv'
      split at hc
      ·
       rename_i hin
       rw [if_pos hin] at hv'
       exact k2 _ c v hc (by simpa using hv')
      rename_i hin
      rw [if_neg hin] at hv'
      exact hr j c v hc (by simpa using hv'))
    refine ⟨arr', ?_, m2, m3⟩
    simp only [Instr.fill, hpl]
    rw [if_neg (by simp only [Bool.or_eq_true, decide_eq_true_eq, not_or]; omega)]
    have hsp' : (x.cells.zipIdx.foldl (fun cs (c, j) => cs.setIfInBounds (off + j) c) arr) = (splice arr.toList off x.cells.toList).toArray := hsp
    rw [hsp']
    exact m1
 | [], _ :: _, _, _, _, _, hk, _, _, _ => by simp at hk
 | _ :: _, [], _, _, _, _, hk, _, _, _ => by simp at hk
inductive EvL (σ : AS) : List Operand → List AV → Prop
 | nil : EvL σ [] []
 | cons {x : Operand} {y : AV} {xs : List Operand} {ys : List AV} (h : σ.ev x = some y) (r : EvL σ xs ys) : EvL σ (x :: xs) (y :: ys)
theorem EvL.ok {σ : AS} {xs : List Operand} {ys : List AV} (h : EvL σ xs ys) : SlOk σ (xs.zip ys) ∧ xs.length = ys.length := by
 induction h with
 | nil => exact ⟨trivial, rfl⟩
 | cons h r ih => exact ⟨⟨h, ih.1⟩, by simp [ih.2]⟩
inductive EvP (σ : AS) : List (Nat × Operand) → List AV → Prop
 | nil : EvP σ [] []
 | cons {k : Nat} {x : Operand} {y : AV} {xs : List (Nat × Operand)} {ys : List AV} (h : σ.ev x = some y) (r : EvP σ xs ys) : EvP σ ((k, x) :: xs) (y :: ys)
theorem EvP.ok {σ : AS} {xs : List (Nat × Operand)} {ys : List AV} (h : EvP σ xs ys) : SlOk σ ((xs.map (·.2)).zip ys) ∧ xs.length = ys.length := by
 induction h with
 | nil => exact ⟨trivial, rfl⟩
 | cons h r ih => exact ⟨⟨h, ih.1⟩, by simp [ih.2]⟩
theorem new_slice {A : Amb} {ρ : Env} {h : Nat → Option AO} {u : Nat → Bool} {w w' : World} (H : HSat A ρ h u w) (os : w'.os = w.os) (tape : w'.tape = w.tape) (output : w'.output = w.output) (hsz : w'.heap.size = w.heap.size + 1)
  (other : ∀ k, k < w.heap.size → w'.heap[k]? = w.heap[k]?) {arr : Array Value} {T : TypeId} {fz : Nat × Nat} (hnew : w'.heap[w.heap.size]? = some (.cells arr T fz)) {cs : List AV} {n cap : Nat} (hl : cs.length ≤ arr.size) (hn : n ≤ cap) (hm : cap ≤ maxLen)
  (hc : ∀ (j : Nat) (c : AV) (v : Value), cs[j]? = some c → arr[j]? = some v → VRel (Nh A h ρ w) ρ w c v ∧ v.oneCell' = true) :
  HSat A ρ h u w' ∧ (∀ av x, VRel (Nh A h ρ w) ρ w av x → VRel (Nh A h ρ w') ρ w' av x) ∧ VRel (Nh A h ρ w') ρ w' (.sl none n cs) (.slice (some ⟨w.heap.size, 0, none⟩) n cap) := by
 obtain ⟨h1, h2, h3⟩ := H.grow os tape output (by omega) other
 refine ⟨h1, h2, .sl none n cs _ cap (fun i => arr.getD i undef) (fun i hi => ?_) (fun i c hi => ?_) (fun k hk => by cases hk) hn (fun h => by cases h) hm⟩
 ·
  have hlt : i < arr.size := by omega
  have hv := hc i _ arr[i] (List.getElem?_eq_getElem hi) (Array.getElem?_eq_getElem hlt)
  have hgd : arr.getD i undef = arr[i] := by simp [Array.getD_eq_getD_getElem?, hlt]
  refine ⟨by rw [hgd]; exact hv.2, w.heap.size, 0, rfl, ?_, h3 _ _ (Nat.le_refl _) (by omega)⟩
  rw [cell_of_row w' w.heap.size (0 + i) arr T fz hnew, Nat.zero_add, hgd]
  exact Array.getElem?_eq_getElem hlt
 have hi' := (List.getElem?_eq_some_iff.1 hi).1
 have hlt : i < arr.size := by omega
 have hgd : arr.getD i undef = arr[i] := by simp [Array.getD_eq_getD_getElem?, hlt]
 rw [hgd]
 exact h2 _ _ (hc i c _ hi (Array.getElem?_eq_getElem hlt)).1
theorem new_cellsM {A : Amb} {ρ : Env} {h : Nat → Option AO} {u : Nat → Bool} {w w' : World} (H : HSat A ρ h u w) {id : Nat} (hu : u id = false) (os : w'.os = w.os) (tape : w'.tape = w.tape) (output : w'.output = w.output) (hsz : w'.heap.size = w.heap.size + 1)
  (other : ∀ k, k < w.heap.size → w'.heap[k]? = w.heap[k]?) {arr : Array Value} {T : TypeId} {fz : Nat × Nat} (hmk : Mark arr fz) (hnew : w'.heap[w.heap.size]? = some (.cells arr T fz)) {cs : List AV} (hl : cs.length ≤ arr.size)
  (hc : ∀ (j : Nat) (c : AV) (v : Value), cs[j]? = some c → arr[j]? = some v → VRel (Nh A h ρ w) ρ w c v ∧ v.oneCell' = true) :
  ∃ ρ', HSat A ρ' (upd h id (some (.cells T cs))) (nuU u [id]) w' ∧ (∀ av x, VRel (Nh A h ρ w) ρ w av x → VRel (Nh A (upd h id (some (.cells T cs))) ρ' w') ρ' w' av x) ∧ ρ'.blk id = some w.heap.size := by
 let ρ' : Env := ⟨upd ρ.blk id (some w.heap.size), ρ.tip⟩
 have hid : ρ'.blk id = some w.heap.size := upd_same _ _ _
 obtain ⟨h1, h2⟩ := H.extend (ρ' := ρ') (ob := .cells T cs) (w' := w') hu (fun i hi => ⟨upd_ne _ _ hi, rfl⟩) os tape output (by omega) other (fun b hb => by
  have hb' : ρ'.blk id = some b := hb
  rw [hid] at hb'
  cases hb'
  exact Nat.le_refl _) (fun hV => ⟨_, arr, hid, ⟨_, hmk, hnew⟩, hl, fun j c v h1 h2 => ⟨hV _ _ (hc j c v h1 h2).1, (hc j c v h1 h2).2⟩⟩)
 exact ⟨ρ', h1, h2, hid⟩
theorem new_cells {A : Amb} {ρ : Env} {h : Nat → Option AO} {u : Nat → Bool} {w w' : World} (H : HSat A ρ h u w) {id : Nat} (hu : u id = false) (os : w'.os = w.os) (tape : w'.tape = w.tape) (output : w'.output = w.output) (hsz : w'.heap.size = w.heap.size + 1)
  (other : ∀ k, k < w.heap.size → w'.heap[k]? = w.heap[k]?) {arr : Array Value} {T : TypeId} (hnew : w'.heap[w.heap.size]? = some (.cells arr T (0, 0))) {cs : List AV} (hl : cs.length ≤ arr.size)
  (hc : ∀ (j : Nat) (c : AV) (v : Value), cs[j]? = some c → arr[j]? = some v → VRel (Nh A h ρ w) ρ w c v ∧ v.oneCell' = true) :
  ∃ ρ', HSat A ρ' (upd h id (some (.cells T cs))) (nuU u [id]) w' ∧ (∀ av x, VRel (Nh A h ρ w) ρ w av x → VRel (Nh A (upd h id (some (.cells T cs))) ρ' w') ρ' w' av x) ∧ ρ'.blk id = some w.heap.size :=
 new_cellsM H hu os tape output hsz other (.inl rfl) hnew hl hc
section
variable {P : Program} {G : List (Nat × Array Value)} {dst : Option Tmp} {ty : TypeId} {pos : String} {aft : Array Edge} {gd : Option (Nat × Bool)}
theorem OpS.alloc {T : TypeId} {inf : TypeInfo} {z : Value} (id : Nat) (hi : P.info? T = some inf) (hz : inf.zero = some z) (h1 : (z.cells.toList.all fun v => v.oneCell') = true) :
  OpS P G ⟨dst, .alloc T, ty, pos, aft, gd⟩ [] [] ⟨some (.ptr id 0), [(id, some (.cells T (z.cells.toList.map .v)))], [id]⟩ := by
 refine OpS.act fun A ρ σ a w _ h hp hu hs => ?_
 obtain ⟨ρ', k1, k2, k3⟩ := new_cells (w' := w.alloc (.cells z.cells T)) (T := T) (cs := z.cells.toList.map .v) hs.mem hu.1 rfl rfl rfl (by simp) (fun k hk => Below.heap_alloc w _ k hk) (heap_alloc_new w _) (by simp) (fun j c v hc hv => by
  rw [List.getElem?_map, Array.getElem?_toList, hv] at hc
  cases hc
  exact ⟨.v _, List.all_eq_true.1 h1 v (Array.mem_toList_iff.2 (Array.mem_of_getElem? hv))⟩)
 refine ⟨.pointer (some ⟨w.heap.size, 0, none⟩), w.alloc (.cells z.cells T), ρ', .inl ?_, k1, k2, fun v hv => by cases hv; exact .ptr id 0 _ k3⟩
 refine runv (s := Instr.alloc T true (.tuple #[])) ?_
 simp [Instr.alloc, newVar, newRow, zeroValue, typeInfo, hi, hz, Sem.run_bind, Sem.run_pure, Result.andThen_ok]
theorem OpS.box {T : TypeId} {x : Operand} {y : AV} (id : Nat) (h1 : ((cellsA y).all fun c => c.one) = true) :
  OpS P G ⟨dst, .box T x, ty, pos, aft, gd⟩ [(x, y)] [] ⟨some (.ptr id 0), [(id, some (.cells T (cellsA y)))], [id]⟩ := by
 refine OpS.act fun A ρ σ a w _ h hp hu hs => ?_
 obtain ⟨c1, c2⟩ := cellsA_rel (hs.ev h.1)
 obtain ⟨ρ', k1, k2, k3⟩ := new_cells (w' := w.alloc (.cells (a.eval x).cells T)) (T := T) (cs := cellsA y) hs.mem hu.1 rfl rfl rfl (by simp) (fun k hk => Below.heap_alloc w _ k hk) (heap_alloc_new w _) (by rw [c1]; exact Nat.le_refl _) (fun j c v hc hv =>
  ⟨c2 j c v hc hv, (c2 j c v hc hv).oneCell (List.all_eq_true.1 h1 c (List.mem_of_getElem? hc))⟩)
 refine ⟨.pointer (some ⟨w.heap.size, 0, none⟩), w.alloc (.cells (a.eval x).cells T), ρ', .inl ?_, k1, k2, fun v hv => by cases hv; exact .ptr id 0 _ k3⟩
 refine runv (s := Instr.box T (a.eval x)) ?_
 simp [Instr.box, newVar, newRow, Sem.run_bind, Sem.run_pure, Result.andThen_ok]
end
end Go.Proofs.YtpnbpcopdckgpaaGreatDoor.E
