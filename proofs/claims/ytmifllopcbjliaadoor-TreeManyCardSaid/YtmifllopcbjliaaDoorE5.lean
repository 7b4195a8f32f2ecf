/- A call, by what the function promises. -/
import Derived.Test.YtmifllopcbjliaaDoorE4
namespace Go.Proofs.YtmifllopcbjliaaDoor.E
open Go Go.RowKit Go.Proofs.YtmifllopcbjliaaDoor.V

theorem NuOk.mem {σ : AS} : ∀ {l : List Nat}, NuOk σ l → ∀ i ∈ l, σ.u i = false
  | t :: r, h, i, hi => by
    rcases List.mem_cons.1 hi with rfl | hi
    · exact h.1
    · exact NuOk.mem h.2 i hi
  | [], _, _, hi => by cases hi
theorem chs_append (h : Nat → Option AO) (l : List (Nat × Option AO)) (k : Nat) (x : Option AO) : chs h (l ++ [(k, x)]) = upd (chs h l) k x := by
  simp [chs, List.foldl_append]
theorem chs_map_in {π : Nat → Nat} (hinj : ∀ i j, π i = π j → i = j) (g : Nat → Option AO) (h : Nat → Option AO) : ∀ (n j : Nat), j < n → chs h ((List.range n).map fun j => (π j, g j)) (π j) = g j
  | n + 1, j, hj => by
    rw [List.range_succ, List.map_append]
    show chs h (_ ++ [(π n, g n)]) _ = _
    rw [chs_append]
    by_cases he : j = n
    · subst he; exact upd_same _ _ _
    · rw [upd_ne _ _ (fun e => he (hinj _ _ e))]
      exact chs_map_in hinj g h n j (by omega)
theorem chs_map_out {π : Nat → Nat} (g : Nat → Option AO) (h : Nat → Option AO) {n x : Nat} (hx : ∀ j, j < n → π j ≠ x) : chs h ((List.range n).map fun j => (π j, g j)) x = h x := by
  refine chs_out fun hm => ?_
  rw [List.map_map] at hm
  obtain ⟨j, hj, he⟩ := List.mem_map.1 hm
  exact hx j (by simpa using hj) he

theorem pi_lt {old : List Nat} {base j : Nat} (h : j < old.length) : pi old base j = old.getD j 0 := by
  have : Nat.blt j old.length = true := by rw [Nat.blt_eq]; exact h
  simp [pi, this]
theorem pi_ge {old : List Nat} {base j : Nat} (h : old.length ≤ j) : pi old base j = base + (j - old.length) := by
  have : Nat.blt j old.length = false := by rw [← Bool.not_eq_true, Nat.blt_eq]; omega
  simp [pi, this]
theorem pi_inj {old : List Nat} {base : Nat} (hnd : old.Nodup) (hlt : ∀ x ∈ old, x < base) (i j : Nat) (h : pi old base i = pi old base j) : i = j := by
  have mem : ∀ k, k < old.length → old.getD k 0 ∈ old := fun k hk => by rw [List.getD_eq_getElem?_getD, List.getElem?_eq_getElem hk]; simp
  by_cases hi : i < old.length <;> by_cases hj : j < old.length
  · rw [pi_lt hi, pi_lt hj] at h
    simp only [List.getD_eq_getElem?_getD, List.getElem?_eq_getElem hi, List.getElem?_eq_getElem hj, Option.getD_some] at h
    rcases Nat.lt_trichotomy i j with hij | hij | hij
    · exact absurd h (List.pairwise_iff_getElem.1 hnd i j hi hj hij)
    · exact hij
    · exact absurd h.symm (List.pairwise_iff_getElem.1 hnd j i hj hi hij)
  · rw [pi_lt hi, pi_ge (by omega)] at h
    have := hlt _ (mem i hi)
    omega
  · rw [pi_ge (by omega), pi_lt hj] at h
    have := hlt _ (mem j hj)
    omega
  · rw [pi_ge (by omega), pi_ge (by omega)] at h
    omega

def callEff (old : List Nat) (base : Nat) (res : AV) (m : Nat) (H' : List (Option AO)) : Eff :=
  ⟨some (res.ren (pi old base)), (List.range H'.length).map (fun j => (pi old base j, (hl H' j).map (AO.ren (pi old base)))), (List.range (H'.length - m)).map (base + ·)⟩

theorem run_enter {P : Program} {f : FuncId} {fn : Func} {c : Code} (hf : P.funcs[f]? = some fn) (hname : (fn.name == "runtime.NumGoroutine") = false) (hb : fn.body = some c) (args : Array Value) (w : World) :
    (callFunc f args).run P w = .ok (.enter f args) w := by
  simp [callFunc, program, Sem.run, Bind.bind, Sem.bind, hf, hb, pure]
  intro h
  simp [h] at hname

theorem AO.ren_at {π : Nat → Nat} {ρ2 ρ : Env} {i b : Nat} {ob : AO} (hb : ρ2.blk i = some b → ρ.blk (π i) = some b) (ht : ∀ v, ρ2.tip i = some v → ρ.tip (π i) = some v) (h : ob.at_ ρ2 i b) : (ob.ren π).at_ ρ (π i) b := by
  cases ob with
  | cells => exact hb h
  | tip => exact ⟨h.choose, ht _ h.choose_spec⟩
theorem AO.ren_wr {π : Nat → Nat} {ρ2 ρ : Env} {i b o : Nat} {ob : AO} (hb : ρ2.blk i = some b → ρ.blk (π i) = some b) (ht : ∀ v, ρ2.tip i = some v → ρ.tip (π i) = some v) (h : ob.wr ρ2 i b o) : (ob.ren π).wr ρ (π i) b o := by
  cases ob with
  | cells => exact hb h
  | tip => exact ⟨h.choose, ht _ h.choose_spec.1, h.choose_spec.2⟩
theorem ORel.ren {N N' : Nat → Nat → Prop} {ρ2 ρ : Env} {w : World} {π : Nat → Nat} {i : Nat} {ob : AO} (hb : ∀ i b, ρ2.blk i = some b → ρ.blk (π i) = some b) (ht : ∀ i v, ρ2.tip i = some v → ρ.tip (π i) = some v)
    (hN : ∀ b o, N b o → N' b o) (h : ORel N ρ2 w i ob) : ORel N' ρ w (π i) (ob.ren π) := by
  cases ob with
  | cells T cs =>
    obtain ⟨b, arr, h1, h2, h3, h4⟩ := h
    refine ⟨b, arr, hb _ _ h1, h2, by rw [renL_len]; exact h3, fun j c x hc hx => ?_⟩
    obtain ⟨c0, h0, rfl⟩ := renL_get hc
    exact ⟨((h4 j c0 x h0 hx).1.ren hb ht).mono hN (Env.le_refl _) (fun _ _ _ => rfl), (h4 j c0 x h0 hx).2⟩
  | tip E sz n =>
    rcases h with ⟨h1, h2⟩ | ⟨g, cap, cur, h1, h2⟩
    · exact .inl ⟨ht _ _ h1, h2⟩
    · exact .inr ⟨g, cap, cur, ht _ _ h1, h2⟩

theorem call_sat {P : Program} {G : List (Nat × Array Value)} {f : FuncId} {args : List AV} {H H' : List (Option AO)} {res : AV} (F : FC P G f args H res H') {old : List Nat} {base : Nat} (hol : old.length = H.length) (hnd : old.Nodup) (hlt : ∀ x ∈ old, x < base)
    {A : Amb} {ρ : Env} {σ : AS} {a : Act} {w : World} (hG : A.G = G) (hs : Sat A ρ σ a w) (hp : HpOk σ (hpl (pi old base) old H)) (hnu : NuOk σ (callEff old base res H.length H').nu) {d : Option Tmp} (hd : ∀ t, d = some t → t < σ.n)
    {vs : Array Value} {ys : List AV} (hsz : vs.size = ys.length) (hys : ∀ (i : Nat) (y : AV) (x : Value), ys[i]? = some y → vs[i]? = some x → VRel (Nh A σ.h ρ w) ρ w y x) (hwk : WkL ys (args.map (AV.ren (pi old base)))) :
    Calls P f vs w fun e w' => ∃ v ρ', e = .returned v ∧ Sat A ρ' (σ.eff d (callEff old base res H.length H')) (a.put d v) w' := by
  have hinj := pi_inj hnd hlt
  have hmm := F.len
  have hpiH : ∀ i, i < H.length → pi old base i = old.getD i 0 := fun i hi => pi_lt (by omega)
  have hpiN : ∀ j, H.length ≤ j → pi old base j = base + (j - H.length) := fun j hj => by rw [pi_ge (by omega), hol]
  have hent : ∀ i ob, hl H i = some ob → σ.h (pi old base i) = some (ob.ren (pi old base)) := fun i ob hi => by
    rw [hpiH i (hl_some hi).1]
    exact hpl_get hp hol (hl_some hi).2
  have hfresh : ∀ j, H.length ≤ j → j < H'.length → σ.u (pi old base j) = false := fun j h1 h2 => by
    refine hnu.mem _ ?_
    rw [hpiN j h1]
    exact List.mem_map.2 ⟨j - H.length, by simp; omega, rfl⟩
  /- the callee's view -/
  let ρ2 : Env := ⟨fun i => if i < H.length then ρ.blk (pi old base i) else none, fun i => if i < H.length then ρ.tip (pi old base i) else none⟩
  have hb2 : ∀ i b, ρ2.blk i = some b → i < H.length ∧ ρ.blk (pi old base i) = some b := fun i b h => by
    have h' : (if i < H.length then ρ.blk (pi old base i) else none) = some b := h
    split at h'
    · exact ⟨‹_›, h'⟩
    · cases h'
  have ht2 : ∀ i b, ρ2.tip i = some b → i < H.length ∧ ρ.tip (pi old base i) = some b := fun i b h => by
    have h' : (if i < H.length then ρ.tip (pi old base i) else none) = some b := h
    split at h'
    · exact ⟨‹_›, h'⟩
    · cases h'
  have hub : ∀ i b, blt H.length i = true → ρ.blk (pi old base i) = some b → ρ2.blk i = some b := fun i b hi h => by
    show (if i < H.length then ρ.blk (pi old base i) else none) = some b
    rw [if_pos (blt_iff.1 hi)]; exact h
  have hut : ∀ i b, blt H.length i = true → ρ.tip (pi old base i) = some b → ρ2.tip i = some b := fun i b hi h => by
    show (if i < H.length then ρ.tip (pi old base i) else none) = some b
    rw [if_pos (blt_iff.1 hi)]; exact h
  let A2 : Amb := ⟨w, Nh A σ.h ρ w, fun b o => ∃ i ob, hl H i = some ob ∧ ob.wr ρ2 i b o, fun b => ∃ i ob, hl H i = some ob ∧ ob.at_ ρ2 i b, H.length, G, ρ2⟩
  have hwr2 : ∀ i ob b o, hl H i = some ob → ob.wr ρ2 i b o → ∃ oj, σ.h (pi old base i) = some oj ∧ oj.wr ρ (pi old base i) b o := fun i ob b o hi h =>
    ⟨_, hent i ob hi, AO.ren_wr (fun h => (hb2 _ _ h).2) (fun v h => (ht2 _ _ h).2) h⟩
  have hat2 : ∀ i ob b, hl H i = some ob → ob.at_ ρ2 i b → ∃ oj, σ.h (pi old base i) = some oj ∧ oj.at_ ρ (pi old base i) b := fun i ob b hi h =>
    ⟨_, hent i ob hi, AO.ren_at (fun h => (hb2 _ _ h).2) (fun v h => (ht2 _ _ h).2) h⟩
  have hN2 : ∀ b o, Nh A σ.h ρ w b o → Nh A2 (hl H) ρ2 w b o := fun b o hn =>
    ⟨hn.1, .inl hn, fun i ob hi hw => by obtain ⟨oj, hj, hwj⟩ := hwr2 i ob b o hi hw; exact hn.2.2 _ oj hj hwj⟩
  have hV2 : ∀ (v : AV) (x : Value), v.bel (blt H.length) → VRel (Nh A σ.h ρ w) ρ w (v.ren (pi old base)) x → VRel (Nh A2 (hl H) ρ2 w) ρ2 w v x := fun v x hbl h =>
    VRel.mono hN2 (Env.le_refl ρ2) (fun _ _ _ => rfl) (h.unren (u := blt H.length) hub hut v rfl hbl)
  have HS2 : HSat A2 ρ2 (hl H) (blt H.length) w := by
    refine ⟨rfl, rfl, rfl, Nat.le_refl _, fun _ _ _ => rfl, fun _ _ _ => rfl, fun b o h => h.1, ?_, ?_, ?_, fun i b h => (hb2 i b h).1, fun i b h => (ht2 i b h).1, fun i hi => ⟨blt_iff.2 hi, rfl, rfl⟩, fun i b h => blt_iff.2 (hb2 i b h).1, fun i b h => blt_iff.2 (ht2 i b h).1, ?_,
      fun i ob b o hi hw => .inl ⟨i, ob, hi, hw⟩, fun i ob b hi hw => .inl ⟨i, ob, hi, hw⟩, ?_⟩
    · rintro b o hn ⟨i, ob, hi, hw⟩
      obtain ⟨oj, hj, hwj⟩ := hwr2 i ob b o hi hw
      exact hn.2.2 _ oj hj hwj
    · rintro b o ⟨i, ob, hi, hw⟩
      exact ⟨i, ob, hi, AO.at_of_wr hw⟩
    · intro x hx
      have hx : x ∈ A.G := by rw [hG]; exact hx
      obtain ⟨⟨T, h1⟩, h2⟩ := hs.mem.tabs x hx
      have hlt' := (Array.getElem?_eq_some_iff.1 h1).1
      refine ⟨⟨T, (hs.mem.block _ hlt' h2).trans h1⟩, ?_⟩
      rintro ⟨i, ob, hi, hw⟩
      obtain ⟨oj, hj, hwj⟩ := hat2 i ob _ hi hw
      rcases hs.mem.ownB _ oj _ hj hwj with h | h
      · exact h2 h
      · omega
    · intro i ob hi
      have hσ := hs.mem.heap _ _ (hent i ob hi)
      have hbl := belH_get F.belH (hl_some hi).2
      have hi' : blt H.length i = true := blt_iff.2 (hl_some hi).1
      cases ob with
      | cells T cs =>
        obtain ⟨b, arr, h1, h2, h3, h4⟩ := hσ
        refine ⟨b, arr, hub i b hi' h1, h2, by rw [renL_len] at h3; exact h3, fun j c x hc hx => ?_⟩
        have := h4 j (c.ren _) x (by rw [renL_eq, List.getElem?_map, hc]; rfl) hx
        exact ⟨hV2 c x (belL_get hbl hc) this.1, this.2⟩
      | tip E sz n =>
        rcases hσ with ⟨h1, h2⟩ | ⟨g, cap, cur, h1, h2⟩
        · exact .inl ⟨hut i _ hi' h1, h2⟩
        · exact .inr ⟨g, cap, cur, hut i _ hi' h1, h2⟩
    · intro i j oi oj b hi hj h1 h2
      obtain ⟨_, k1, k2⟩ := hat2 i oi b hi h1
      obtain ⟨_, k3, k4⟩ := hat2 j oj b hj h2
      exact hinj _ _ (hs.mem.sep _ _ _ _ b k1 k3 k2 k4)
  have hargs : ∀ (i : Nat) (c : AV) (x : Value), args[i]? = some c → vs[i]? = some x → VRel (Nh A2 (hl H) ρ2 w) ρ2 w c x := by
    intro i c x hc hx
    obtain ⟨y, hy, hk⟩ := hwk.get (i := i) (z := c.ren (pi old base)) (by rw [List.getElem?_map, hc]; rfl)
    exact hV2 c x (belL_get F.belA hc) ((hys i y x hy hx).wk hk)
  have hlen : vs.size = args.length := by rw [hsz, hwk.len, List.length_map]
  refine (F.call A2 vs rfl rfl HS2 (fun _ h => h) hlen hargs).mono ?_
  rintro e w' ⟨v, ρ3, rfl, HS3, hres⟩
  /- the caller's new view -/
  let ρ' : Env := ⟨fun x => if base ≤ x ∧ x < base + (H'.length - H.length) then ρ3.blk (x - base + H.length) else ρ.blk x, fun x => if base ≤ x ∧ x < base + (H'.length - H.length) then ρ3.tip (x - base + H.length) else ρ.tip x⟩
  have hnewu : ∀ x, base ≤ x → x < base + (H'.length - H.length) → σ.u x = false := fun x h1 h2 => by
    have := hfresh (x - base + H.length) (by omega) (by omega)
    rw [hpiN _ (by omega)] at this
    rwa [show base + (x - base + H.length - H.length) = x by omega] at this
  have hold : ∀ x, σ.u x = true → ρ'.blk x = ρ.blk x ∧ ρ'.tip x = ρ.tip x := by
    intro x hx
    have hn : ¬ (base ≤ x ∧ x < base + (H'.length - H.length)) := by
      rintro ⟨h1, h2⟩
      rw [hnewu x h1 h2] at hx
      cases hx
    exact ⟨by show (if _ then _ else _) = _; rw [if_neg hn], by show (if _ then _ else _) = _; rw [if_neg hn]⟩
  have hle : ρ.le ρ' := ⟨fun i b h => by rw [(hold i (hs.mem.usedB i b h)).1]; exact h, fun i b h => by rw [(hold i (hs.mem.usedT i b h)).2]; exact h⟩
  have hb3 : ∀ j b, ρ3.blk j = some b → ρ'.blk (pi old base j) = some b := fun j b h => by
    have hj : j < H'.length := blt_iff.1 (HS3.usedB j b h)
    by_cases hjm : j < H.length
    · rw [(HS3.fix j hjm).2.1] at h
      exact hle.1 _ _ (hb2 j b h).2
    · show (if base ≤ pi old base j ∧ pi old base j < base + (H'.length - H.length) then ρ3.blk (pi old base j - base + H.length) else _) = _
      rw [hpiN j (by omega), if_pos ⟨by omega, by omega⟩, show base + (j - H.length) - base + H.length = j by omega]
      exact h
  have ht3 : ∀ j b, ρ3.tip j = some b → ρ'.tip (pi old base j) = some b := fun j b h => by
    have hj : j < H'.length := blt_iff.1 (HS3.usedT j b h)
    by_cases hjm : j < H.length
    · rw [(HS3.fix j hjm).2.2] at h
      exact hle.2 _ _ (ht2 j b h).2
    · show (if base ≤ pi old base j ∧ pi old base j < base + (H'.length - H.length) then ρ3.tip (pi old base j - base + H.length) else _) = _
      rw [hpiN j (by omega), if_pos ⟨by omega, by omega⟩, show base + (j - H.length) - base + H.length = j by omega]
      exact h
  let e2 := callEff old base res H.length H'
  /- entries: of the call, or others -/
  have hcase : ∀ x ob, (σ.eff d e2).h x = some ob → (∃ j oj, j < H'.length ∧ x = pi old base j ∧ hl H' j = some oj ∧ ob = oj.ren (pi old base)) ∨ ((∀ j, j < H'.length → pi old base j ≠ x) ∧ σ.h x = some ob) := by
    intro x ob h
    by_cases hx : ∃ j, j < H'.length ∧ pi old base j = x
    · obtain ⟨j, hj, rfl⟩ := hx
      have h' : chs σ.h ((List.range H'.length).map fun j => (pi old base j, (hl H' j).map (AO.ren (pi old base)))) (pi old base j) = some ob := h
      rw [chs_map_in hinj _ _ _ _ hj] at h'
      cases hh : hl H' j with
      | none => rw [hh] at h'; cases h'
      | some oj => rw [hh] at h'; cases h'; exact .inl ⟨j, oj, hj, rfl, hh, rfl⟩
    · have hx' : ∀ j, j < H'.length → pi old base j ≠ x := fun j hj he => hx ⟨j, hj, he⟩
      have h' : chs σ.h ((List.range H'.length).map fun j => (pi old base j, (hl H' j).map (AO.ren (pi old base)))) x = some ob := h
      rw [chs_map_out _ _ hx'] at h'
      exact .inr ⟨hx', h'⟩
  have hrestat : ∀ x ob b, (∀ j, j < H'.length → pi old base j ≠ x) → σ.h x = some ob → ob.at_ ρ x b → ¬ A2.B b := by
    rintro x ob b hx hσ hat ⟨i, oi, hi, hwi⟩
    obtain ⟨oj, hj, hwj⟩ := hat2 i oi b hi hwi
    exact hx i (by have := (hl_some hi).1; omega) (hs.mem.sep _ _ _ _ b hj hσ hwj hat)
  have hat3 : ∀ (j : Nat) (oj : AO) (b : Nat), hl H' j = some oj → (oj.ren (pi old base)).at_ ρ' (pi old base j) b → oj.at_ ρ3 j b := by
    intro j oj b hj h
    have ho := HS3.heap j oj hj
    cases oj with
    | cells T cs =>
      obtain ⟨b', arr, h1, -⟩ := ho
      have h' : ρ'.blk (pi old base j) = some b := h
      rw [hb3 j b' h1] at h'
      cases h'
      exact h1
    | tip E sz n =>
      obtain ⟨cap, h⟩ := h
      rcases ho with ⟨h1, -⟩ | ⟨g, cap', cur, h1, -⟩ <;> rw [ht3 j _ h1] at h <;> cases h
      exact ⟨cap, h1⟩
  have hwr3 : ∀ (j : Nat) (oj : AO) (b o : Nat), hl H' j = some oj → (oj.ren (pi old base)).wr ρ' (pi old base j) b o → oj.wr ρ3 j b o := by
    intro j oj b o hj h
    have ho := HS3.heap j oj hj
    cases oj with
    | cells T cs => exact hat3 j (.cells T cs) b hj h
    | tip E sz n =>
      obtain ⟨cap, h, hoo⟩ := h
      rcases ho with ⟨h1, -⟩ | ⟨g, cap', cur, h1, -⟩ <;> rw [ht3 j _ h1] at h <;> cases h
      exact ⟨cap, h1, hoo⟩
  have hNN : ∀ b o, Nh A2 (hl H') ρ3 w' b o → Nh A (σ.eff d e2).h ρ' w' b o := by
    intro b o hn
    refine ⟨hn.1, ?_, ?_⟩
    · rcases hn.2.1 with h | ⟨i, ob, hi, hw⟩ | h
      · exact h.2.1
      · obtain ⟨oj, hj, hwj⟩ := hwr2 i ob b o hi hw
        exact (hs.mem.own _ oj b o hj hwj).elim (fun h => .inr (.inl h)) (fun h => .inr (.inr h))
      · have := hs.mem.size
        have h' : w.heap.size ≤ b := h
        exact .inr (.inr (by omega))
    · intro x ob hx hw
      rcases hcase x ob hx with ⟨j, oj, hj, rfl, hoj, rfl⟩ | ⟨hx', hσ⟩
      · exact hn.2.2 j oj hoj (hwr3 j oj b o hoj hw)
      · have hw' := (hs.mem.heap x ob hσ).wr_back hle hw
        rcases hn.2.1 with h | ⟨i, oi, hi, hwi⟩ | h
        · exact h.2.2 x ob hσ hw'
        · exact hrestat x ob b hx' hσ (AO.at_of_wr hw') ⟨i, oi, hi, AO.at_of_wr hwi⟩
        · have := (hs.mem.heap x ob hσ).lt (AO.at_of_wr hw')
          have h' : w.heap.size ≤ b := h
          omega
  obtain ⟨HN, hVV⟩ := hs.mem.next (ρ' := ρ') (h' := (σ.eff d e2).h) (u' := (σ.eff d e2).u) (w' := w') HS3.os HS3.tape HS3.output HS3.size
    (fun x hx => ⟨by show nuU σ.u _ x = true; rw [nuU_eq, hx]; rfl, hold x hx⟩)
    (fun x b h => by
      show nuU σ.u (List.map (base + ·) (List.range (H'.length - H.length))) x = true
      rw [nuU_eq]
      by_cases hx : base ≤ x ∧ x < base + (H'.length - H.length)
      · have : x ∈ List.map (base + ·) (List.range (H'.length - H.length)) := List.mem_map.2 ⟨x - base, by simp; omega, by omega⟩
        simp only [List.contains_eq_mem, this, decide_true, Bool.or_true]
      · have h' : (if base ≤ x ∧ x < base + (H'.length - H.length) then ρ3.blk (x - base + H.length) else ρ.blk x) = some b := h
        rw [if_neg hx] at h'
        rw [hs.mem.usedB x b h']; rfl)
    (fun x b h => by
      show nuU σ.u (List.map (base + ·) (List.range (H'.length - H.length))) x = true
      rw [nuU_eq]
      by_cases hx : base ≤ x ∧ x < base + (H'.length - H.length)
      · have : x ∈ List.map (base + ·) (List.range (H'.length - H.length)) := List.mem_map.2 ⟨x - base, by simp; omega, by omega⟩
        simp only [List.contains_eq_mem, this, decide_true, Bool.or_true]
      · have h' : (if base ≤ x ∧ x < base + (H'.length - H.length) then ρ3.tip (x - base + H.length) else ρ.tip x) = some b := h
        rw [if_neg hx] at h'
        rw [hs.mem.usedT x b h']; rfl)
    (fun b hb hnat => HS3.block b hb (by rintro ⟨i, ob, hi, hw⟩; obtain ⟨oj, hj, hwj⟩ := hat2 i ob b hi hw; exact hnat _ oj hj hwj))
    (fun b o hn => HS3.keep b o hn)
    (fun x ob b o hx hw => by
      rcases hcase x ob hx with ⟨j, oj, hj, rfl, hoj, rfl⟩ | ⟨hx', hσ⟩
      · rcases HS3.own j oj b o hoj (hwr3 j oj b o hoj hw) with ⟨i, oi, hi, hwi⟩ | h
        · obtain ⟨ok, hk, hwk⟩ := hwr2 i oi b o hi hwi
          exact .inl ⟨_, ok, hk, hwk⟩
        · exact .inr h
      · exact .inl ⟨x, ob, hσ, (hs.mem.heap x ob hσ).wr_back hle hw⟩)
    (fun x ob b hx hw => by
      rcases hcase x ob hx with ⟨j, oj, hj, rfl, hoj, rfl⟩ | ⟨hx', hσ⟩
      · rcases HS3.ownB j oj b hoj (hat3 j oj b hoj hw) with ⟨i, oi, hi, hwi⟩ | h
        · obtain ⟨ok, hk, hwk⟩ := hat2 i oi b hi hwi
          exact .inl ⟨_, ok, hk, hwk⟩
        · exact .inr h
      · exact .inl ⟨x, ob, hσ, (hs.mem.heap x ob hσ).at_back hle hw⟩)
    (fun x y ox oy b hx hy h1 h2 => by
      have far : ∀ (j : Nat) (oj : AO) (z : Nat) (oz : AO), hl H' j = some oj → oj.at_ ρ3 j b → (∀ j, j < H'.length → pi old base j ≠ z) → σ.h z = some oz → oz.at_ ρ z b → False := by
        intro j oj z oz hoj hat hz hσ hatz
        rcases HS3.ownB j oj b hoj hat with h | h
        · exact hrestat z oz b hz hσ hatz h
        · have := (hs.mem.heap z oz hσ).lt hatz
          have h' : w.heap.size ≤ b := h
          omega
      rcases hcase x ox hx with ⟨j, oj, hj, rfl, hoj, rfl⟩ | ⟨hx', hσ⟩ <;> rcases hcase y oy hy with ⟨k, ok, hk, rfl, hok, rfl⟩ | ⟨hy', hσ'⟩
      · rw [HS3.sep j k oj ok b hoj hok (hat3 j oj b hoj h1) (hat3 k ok b hok h2)]
      · exact (far j oj y oy hoj (hat3 j oj b hoj h1) hy' hσ' ((hs.mem.heap y oy hσ').at_back hle h2)).elim
      · exact (far k ok x ox hok (hat3 k ok b hok h2) hx' hσ ((hs.mem.heap x ox hσ).at_back hle h1)).elim
      · exact hs.mem.sep x y ox oy b hσ hσ' ((hs.mem.heap x ox hσ).at_back hle h1) ((hs.mem.heap y oy hσ').at_back hle h2))
    (fun hVV x ob hx => by
      rcases hcase x ob hx with ⟨j, oj, hj, rfl, hoj, rfl⟩ | ⟨hx', hσ⟩
      · exact (HS3.heap j oj hoj).ren hb3 ht3 hNN
      · exact (hs.mem.heap x ob hσ).keep hle hVV (fun b hb => HS3.block b ((hs.mem.heap x ob hσ).lt hb) (hrestat x ob b hx' hσ hb)))
  refine ⟨v, ρ', rfl, hs.put hd HN hVV ?_⟩
  intro v' hv'
  cases hv'
  exact (hres.ren hb3 ht3).mono hNN (Env.le_refl _) (fun _ _ _ => rfl)

theorem OpS.call {P : Program} {G : List (Nat × Array Value)} {f : FuncId} {args : List AV} {H H' : List (Option AO)} {res : AV} (F : FC P G f args H res H') (old : List Nat) (base : Nat) (hol : old.length = H.length) (hnd : old.Nodup) (hlt : ∀ x ∈ old, x < base)
    {xs : List Operand} {ys : List AV} (ho : xs.length = ys.length) (hwk : WkL ys (args.map (AV.ren (pi old base)))) {dst : Option Tmp} {ats : Array TypeId} {ty : TypeId} {pos : String} {aft : Array Edge} {gd : Option (Nat × Bool)} :
    OpS P G ⟨dst, .call ⟨.value (.func f), xs.toArray, ats⟩, ty, pos, aft, gd⟩ (xs.zip ys) (hpl (pi old base) old H) (callEff old base res H.length H') := by
  constructor
  intro A ρ σ a w K Q hG h1 h2 h3 hd hs hK
  obtain ⟨fn, c, hf, hname, hb⟩ := F.enter
  have hrun : (execOp a.eval ⟨dst, .call ⟨.value (.func f), xs.toArray, ats⟩, ty, pos, aft, gd⟩).run P w = .ok (.enter f (xs.map a.eval).toArray) w := by
    have := run_enter hf hname hb (xs.map a.eval).toArray w
    show (callFunc f (#[] ++ xs.toArray.map a.eval ++ #[])).run P w = _
    simpa using this
  unfold Oper.wp
  rw [hrun, Oper.upon_enter]
  refine (call_sat F hol hnd hlt hG hs h2 h3 hd (vs := (xs.map a.eval).toArray) (ys := ys) (by simp [ho]) ?_ hwk).mono ?_
  · intro i y x hy hx
    rw [List.getElem?_toArray, List.getElem?_map] at hx
    cases hxi : xs[i]? with
    | none => rw [hxi] at hx; cases hx
    | some o => rw [hxi] at hx; cases hx; exact ev_ops hs h1 i o y hxi hy
  · rintro e w' ⟨v, ρ', rfl, hs'⟩
    exact hK _ _ ρ' hs'
end Go.Proofs.YtmifllopcbjliaaDoor.E
