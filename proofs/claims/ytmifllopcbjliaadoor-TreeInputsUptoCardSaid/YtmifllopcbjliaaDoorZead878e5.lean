import Derived.Test.YtmifllopcbjliaaDoorZ7bade255
section
/- What an operation comes to in an abstract state; a region's operations in their order; a drawn region comes to the same in every order. -/
namespace Go.Proofs.YtmifllopcbjliaaDoor.E
open Go Go.RowKit Go.Proofs.YtmifllopcbjliaaDoor.V

structure Eff where
  val : Option AV
  ch : List (Nat × Option AO)
  nu : List Nat

def chs (h : Nat → Option AO) (ch : List (Nat × Option AO)) : Nat → Option AO := ch.foldl (fun h p => upd h p.1 p.2) h
def AS.put (σ : AS) (d : Option Tmp) (x : Option AV) : Nat → Option AV := match d with | some d => upd σ.s d x | none => σ.s
def nuU (u : Nat → Bool) : List Nat → Nat → Bool
  | [] => u
  | nu => fun i => u i || nu.contains i
theorem nuU_eq (u : Nat → Bool) (nu : List Nat) (i : Nat) : nuU u nu i = (u i || nu.contains i) := by cases nu <;> simp [nuU]
def AS.eff (σ : AS) (d : Option Tmp) (e : Eff) : AS := { n := σ.n, s := σ.put d e.val, h := chs σ.h e.ch, u := nuU σ.u e.nu }
def AS.ev (σ : AS) : Operand → Option AV
  | .tmp t => σ.s t
  | .const v => some (.v v)
  | .global g => some (.v (.pointer (some ⟨g, 0, none⟩)))
  | .func f => some (.v (.func (.func f) #[] #[]))
def opT : Operand → List Nat
  | .tmp t => [t]
  | _ => []
theorem ev_same {σ σ' : AS} {x : Operand} (h : ∀ t ∈ opT x, σ'.s t = σ.s t) : σ'.ev x = σ.ev x := by
  cases x with
  | tmp t => exact h t (by simp [opT])
  | _ => rfl

def SlOk (σ : AS) : List (Operand × AV) → Prop
  | [] => True
  | (t, x) :: r => σ.ev t = some x ∧ SlOk σ r
def HpOk (σ : AS) : List (Nat × AO) → Prop
  | [] => True
  | (t, x) :: r => σ.h t = some x ∧ HpOk σ r
def NuOk (σ : AS) : List Nat → Prop
  | [] => True
  | t :: r => σ.u t = false ∧ NuOk σ r

structure OpS (P : Program) (G : List (Nat × Array Value)) (o : Oper) (sl : List (Operand × AV)) (hp : List (Nat × AO)) (e : Eff) : Prop where
  run : ∀ (A : Amb) (ρ : Env) (σ : AS) (a : Act) (w : World) (K : Act → World → Prop) (Q : Exit → Act → World → Prop), A.G = G → SlOk σ sl → HpOk σ hp → NuOk σ e.nu → (∀ d, o.dst = some d → d < σ.n) → Sat A ρ σ a w →
    (∀ a' w' ρ', Sat A ρ' (σ.eff o.dst e) a' w' → K a' w') → o.wp P a w K Q

/-- the guard of an operation -/
def gslot (ops : Array Oper) (o : Oper) : Option Nat := o.guard.bind fun g => (ops[g.1]?).bind (·.dst)
def boolV : Value → Option Bool
  | .bool b => some b
  | _ => none
def GdOk (ops : Array Oper) (o : Oper) (σ : AS) (b : Bool) : Prop :=
  match o.guard with
  | none => b = true
  | some (j, c) => ∃ t x, ((ops[j]?).bind (·.dst)) = some t ∧ σ.s t = some (.v x) ∧ b = (boolV x == some c)

structure St where
  w : Bool
  sl : List (Operand × AV)
  hp : List (Nat × AO)
  e : Eff

def Ok (P : Program) (G : List (Nat × Array Value)) (ops : Array Oper) (o : Oper) (d : St) (σ : AS) : Prop :=
  GdOk ops o σ d.w ∧ (d.w = true → OpS P G o d.sl d.hp d.e ∧ SlOk σ d.sl ∧ HpOk σ d.hp ∧ NuOk σ d.e.nu ∧ ∀ t, o.dst = some t → t < σ.n) ∧ (d.w = false → d.e = ⟨none, [], []⟩ ∨ (d.e = ⟨some (.v undef), [], []⟩ ∧ ∀ t, o.dst = some t → t < σ.n))

def Chain (P : Program) (G : List (Nat × Array Value)) (ops : Array Oper) (K : AS → Prop) : List Oper → List St → AS → Prop
  | [], [], σ => K σ
  | o :: r, d :: ds, σ => Ok P G ops o d σ ∧ Chain P G ops K r ds (σ.eff o.dst d.e)
  | _, _, _ => False

theorem wanted_gd {ops : Array Oper} {o : Oper} {σ : AS} {b : Bool} {A : Amb} {ρ : Env} {a : Act} {w : World} (h : GdOk ops o σ b) (hs : Sat A ρ σ a w) : Region.wanted o (yielded ops a.tmps) = b := by
  unfold GdOk at h
  unfold Region.wanted
  cases hg : o.guard with
  | none => rw [hg] at h; exact h.symm
  | some g =>
    obtain ⟨j, c⟩ := g
    rw [hg] at h
    obtain ⟨t, x, ht, hx, rfl⟩ := h
    obtain ⟨y, hy, hv⟩ := hs.slots t _ hx
    cases hv
    simp only [yielded, ht, Option.bind_some, hy]
    cases x <;> rfl

theorem put_undef2 {A : Amb} {ρ : Env} {σ : AS} {a : Act} {w : World} (hs : Sat A ρ σ a w) (d : Option Tmp) (hd : ∀ t, d = some t → t < σ.n) : Sat A ρ (σ.eff d ⟨some (.v undef), [], []⟩) (a.put d undef) w := by
  refine ⟨?_, ?_, ?_, ?_⟩
  · exact hs.mem
  · intro t v ht
    cases d with
    | none => exact hs.slots t v ht
    | some d =>
      rcases upd_eq_some (f := σ.s) ht with ⟨he, h⟩ | ⟨hne, h⟩
      · cases h
        subst he
        refine ⟨undef, ?_, .v _⟩
        simp only [Act.put]
        rw [Array.getElem?_setIfInBounds_self_of_lt (by rw [hs.nt]; exact hd _ rfl)]
      · obtain ⟨x, hx, hv⟩ := hs.slots t v h
        exact ⟨x, by simp only [Act.put]; rw [Array.getElem?_setIfInBounds_ne (Ne.symm hne)]; exact hx, hv⟩
  · cases d <;> simp [Act.put, AS.eff, hs.nt]
  · cases d <;> exact hs.defers
theorem put_undef {A : Amb} {ρ : Env} {σ : AS} {a : Act} {w : World} (hs : Sat A ρ σ a w) (d : Option Tmp) : Sat A ρ (σ.eff d ⟨none, [], []⟩) (a.put d undef) w := by
  refine ⟨?_, ?_, ?_, ?_⟩
  · exact hs.mem
  · intro t v ht
    cases d with
    | none => exact hs.slots t v ht
    | some d =>
      rcases upd_eq_some (f := σ.s) ht with ⟨_, h⟩ | ⟨hne, h⟩
      · cases h
      · obtain ⟨x, hx, hv⟩ := hs.slots t v h
        exact ⟨x, by simp only [Act.put]; rw [Array.getElem?_setIfInBounds_ne (Ne.symm hne)]; exact hx, hv⟩
  · cases d <;> simp [Act.put, AS.eff, hs.nt]
  · cases d <;> exact hs.defers

/-- one operation of a region -/
theorem Ok.wpOp {P : Program} {G : List (Nat × Array Value)} {ops : Array Oper} {o : Oper} {d : St} {σ : AS} (h : Ok P G ops o d σ) {i : Nat} (hi : ops[i]? = some o) {A : Amb} {ρ : Env} {a : Act} {w : World} (hG : A.G = G)
    (hs : Sat A ρ σ a w) {K : Act → World → Prop} {Q : Exit → Act → World → Prop} (hK : ∀ a' w' ρ', Sat A ρ' (σ.eff o.dst d.e) a' w' → K a' w') : wpOp P ops Q i K a w := by
  obtain ⟨h1, h2, h3⟩ := h
  have hw := wanted_gd h1 hs
  unfold Go.wpOp
  simp only [hi]
  cases hd : d.w with
  | true =>
    rw [hw, hd, if_pos rfl]
    obtain ⟨k1, k2, k3, k4, k5⟩ := h2 hd
    exact .inl (k1.run A ρ σ a w K Q hG k2 k3 k4 k5 hs hK)
  | false =>
    rw [hw, hd, if_neg (by decide)]
    refine hK _ _ ρ ?_
    rcases h3 hd with he | ⟨he, hlt⟩
    · rw [he]
      exact put_undef hs _
    · rw [he]
      exact put_undef2 hs _ hlt

/- the text's order -/
theorem wpOps_chain {P : Program} {G : List (Nat × Array Value)} {ops : Array Oper} {K : AS → Prop} {Q : Exit → Act → World → Prop} {A : Amb} (hG : A.G = G) (hQ : ∀ ρ σ a w, K σ → Sat A ρ σ a w → Q .normal a w) :
    ∀ (l : List Oper) (ds : List St) (k : Nat) (σ : AS) (ρ : Env) (a : Act) (w : World), (∀ j, l[j]? = ops[k + j]?) → Chain P G ops K l ds σ → Sat A ρ σ a w → wpOps P ops Q ((List.range l.length).map (k + ·)) a w
  | [], [], k, σ, ρ, a, w, _, hc, hs => hQ ρ σ a w hc hs
  | o :: l, d :: ds, k, σ, ρ, a, w, hl, hc, hs => by
    have h0 : ops[k]? = some o := by simpa using (hl 0).symm
    rw [List.length_cons, List.range_succ_eq_map, List.map_cons, List.map_map, wpOps_cons]
    refine hc.1.wpOp (by simpa using h0) hG hs fun a' w' ρ' hs' => ?_
    have := wpOps_chain hG hQ l ds (k + 1) _ ρ' a' w' (fun j => by have := hl (j + 1); simpa [Nat.add_assoc, Nat.add_comm 1 j] using this) hc.2 hs'
    have he : (fun x => k + x) ∘ Nat.succ = fun x => k + 1 + x := by funext x; simp; omega
    rw [he]
    exact this
  | [], _ :: _, _, _, _, _, _, _, hc, _ => hc.elim
  | _ :: _, [], _, _, _, _, _, _, hc, _ => hc.elim

theorem wp_region_chain {P : Program} {G : List (Nat × Array Value)} {l : List Oper} {ds : List St} {K : AS → Prop} {Q : Exit → Act → World → Prop} {A : Amb} (hG : A.G = G) (hQ : ∀ ρ σ a w, K σ → Sat A ρ σ a w → Q .normal a w)
    {id : Nat} {σ : AS} {ρ : Env} {a : Act} {w : World} (hc : Chain P G l.toArray K l ds σ) (hs : Sat A ρ σ a w) : (Code.region id l.toArray false).wp P Q a w := by
  refine wp_region ?_
  have := wpOps_chain hG hQ l ds 0 σ ρ a w (fun j => by simp) hc hs
  have he : (fun x => 0 + x) = (fun x : Nat => x) := by funext x; omega
  rw [he, List.map_id'] at this
  simpa using this

/- drawn -/
def inn : Option Nat → List Nat → Bool
  | none, _ => false
  | some x, l => l.contains x
def rds (ops : Array Oper) (o : Oper) (d : St) : List Nat := (gslot ops o).toList ++ d.sl.flatMap fun p => opT p.1
def hws (d : St) : List Nat := d.e.ch.map (·.1) ++ d.e.nu
def meets (a b : List Nat) : Bool := a.any fun x => b.contains x
def conf (ops : Array Oper) (o : Oper) (d : St) (o' : Oper) (d' : St) : Bool :=
  inn o.dst (o'.dst.toList ++ rds ops o' d') || inn o'.dst (rds ops o d) || meets (hws d) (hws d') || meets (hws d) (d'.hp.map (·.1)) || meets (hws d') (d.hp.map (·.1))

structure Apart (ops : Array Oper) (o : Oper) (d : St) (o' : Oper) (d' : St) : Prop where
  dd : ∀ x, o.dst = some x → o'.dst ≠ some x
  dr : ∀ x, o.dst = some x → x ∉ rds ops o' d'
  rd : ∀ x, o'.dst = some x → x ∉ rds ops o d
  ww : ∀ x ∈ hws d, x ∉ hws d'
  wr : ∀ x ∈ hws d, x ∉ d'.hp.map (·.1)
  rw' : ∀ x ∈ hws d', x ∉ d.hp.map (·.1)
theorem meets_false {a b : List Nat} (h : meets a b = false) : ∀ x ∈ a, x ∉ b := by
  intro x hx hb
  have : meets a b = true := List.any_eq_true.2 ⟨x, hx, by simpa using hb⟩
  rw [this] at h; cases h
theorem apart_of_conf {ops : Array Oper} {o o' : Oper} {d d' : St} (h : conf ops o d o' d' = false) : Apart ops o d o' d' := by
  simp only [conf, Bool.or_eq_false_iff] at h
  obtain ⟨⟨⟨⟨h1, h2⟩, h3⟩, h4⟩, h5⟩ := h
  refine ⟨?_, ?_, ?_, meets_false h3, meets_false h4, meets_false h5⟩
  · intro x hx hy
    rw [hx, hy] at h1
    simp [inn] at h1
  · intro x hx hy
    rw [hx] at h1
    simp [inn, hy] at h1
  · intro x hx hy
    rw [hx] at h2
    simp [inn, hy] at h2

theorem chs_out {ch : List (Nat × Option AO)} : ∀ {h : Nat → Option AO} {i : Nat}, i ∉ ch.map (·.1) → chs h ch i = h i := by
  induction ch with
  | nil => intro h i _; rfl
  | cons p r ih =>
    intro h i hi
    simp only [List.map_cons, List.mem_cons, not_or] at hi
    exact (ih (h := upd h p.1 p.2) hi.2).trans (upd_ne _ _ hi.1)
theorem chs_upd {ch : List (Nat × Option AO)} : ∀ {h : Nat → Option AO} {k : Nat} {x : Option AO}, k ∉ ch.map (·.1) → chs (upd h k x) ch = upd (chs h ch) k x := by
  induction ch with
  | nil => intro h k x _; rfl
  | cons p r ih =>
    intro h k x hk
    simp only [List.map_cons, List.mem_cons, not_or] at hk
    show chs (upd (upd h k x) p.1 p.2) r = upd (chs (upd h p.1 p.2) r) k x
    rw [upd_comm _ _ _ hk.1, ih hk.2]
theorem chs_comm {c1 : List (Nat × Option AO)} : ∀ {c2 : List (Nat × Option AO)} {h : Nat → Option AO}, (∀ x ∈ c1.map (·.1), x ∉ c2.map (·.1)) → chs (chs h c1) c2 = chs (chs h c2) c1 := by
  induction c1 with
  | nil => intro c2 h _; rfl
  | cons p r ih =>
    intro c2 h hd
    show chs (chs (upd h p.1 p.2) r) c2 = chs (upd (chs h c2) p.1 p.2) r
    rw [ih (fun x hx => hd x (by simp [hx])), chs_upd (hd p.1 (by simp))]

theorem eff_comm {ops : Array Oper} {o o' : Oper} {d d' : St} (h : Apart ops o d o' d') (σ : AS) : (σ.eff o.dst d.e).eff o'.dst d'.e = (σ.eff o'.dst d'.e).eff o.dst d.e := by
  have h1 : ((σ.eff o.dst d.e).eff o'.dst d'.e).s = ((σ.eff o'.dst d'.e).eff o.dst d.e).s := by
    have := h.dd
    cases h1 : o.dst with
    | none => cases h2 : o'.dst <;> rfl
    | some x =>
      cases h2 : o'.dst with
      | none => rfl
      | some y => exact upd_comm _ _ _ (fun e => this x h1 (by rw [h2, e]))
  have h2 : ((σ.eff o.dst d.e).eff o'.dst d'.e).h = ((σ.eff o'.dst d'.e).eff o.dst d.e).h :=
    chs_comm fun x hx hy => h.ww x (List.mem_append_left _ hx) (List.mem_append_left _ hy)
  have h3 : ((σ.eff o.dst d.e).eff o'.dst d'.e).u = ((σ.eff o'.dst d'.e).eff o.dst d.e).u := by
    funext i
    show nuU (nuU σ.u _) _ i = nuU (nuU σ.u _) _ i
    simp only [nuU_eq]
    cases σ.u i <;> simp [Bool.or_comm]
  have ext : ∀ x y : AS, x.n = y.n → x.s = y.s → x.h = y.h → x.u = y.u → x = y := by
    rintro ⟨_, _, _, _⟩ ⟨_, _, _, _⟩ h h' h'' h'''
    cases h; cases h'; cases h''; cases h'''
    rfl
  exact ext _ _ rfl h1 h2 h3

theorem SlOk.iff {σ σ' : AS} : ∀ {l : List (Operand × AV)}, (∀ t ∈ l.flatMap (fun p => opT p.1), σ'.s t = σ.s t) → (SlOk σ' l ↔ SlOk σ l)
  | [], _ => Iff.rfl
  | (t, x) :: r, h => by
    have h1 : σ'.ev t = σ.ev t := ev_same fun i hi => h i (by rw [List.flatMap_cons]; exact List.mem_append_left _ hi)
    have h2 := SlOk.iff (l := r) fun t ht => h t (by rw [List.flatMap_cons]; exact List.mem_append_right _ ht)
    simp only [SlOk, h1, h2]
theorem HpOk.iff {σ σ' : AS} : ∀ {l : List (Nat × AO)}, (∀ t ∈ l.map (·.1), σ'.h t = σ.h t) → (HpOk σ' l ↔ HpOk σ l)
  | [], _ => Iff.rfl
  | (t, x) :: r, h => by
    have h1 := h t (by simp)
    have h2 := HpOk.iff (l := r) fun t ht => h t (by simp only [List.map_cons, List.mem_cons]; exact .inr ht)
    simp only [HpOk, h1, h2]
theorem NuOk.iff {σ σ' : AS} : ∀ {l : List Nat}, (∀ t ∈ l, σ'.u t = σ.u t) → (NuOk σ' l ↔ NuOk σ l)
  | [], _ => Iff.rfl
  | t :: r, h => by
    have h1 := h t (by simp)
    have h2 := NuOk.iff (l := r) fun t ht => h t (by simp [ht])
    simp only [NuOk, h1, h2]

/-- what holds behind an operation apart from this one held ahead of it -/
theorem Ok.iff {P : Program} {G : List (Nat × Array Value)} {ops : Array Oper} {o o' : Oper} {d d' : St} (h : Apart ops o d o' d') (σ : AS) : Ok P G ops o' d' (σ.eff o.dst d.e) ↔ Ok P G ops o' d' σ := by
  have hs : ∀ t, t ∈ rds ops o' d' → (σ.eff o.dst d.e).s t = σ.s t := by
    intro t ht
    cases hd : o.dst with
    | none => rfl
    | some x => exact upd_ne _ _ (fun e => h.dr x hd (e ▸ ht))
  have hh : ∀ t, t ∉ hws d → (σ.eff o.dst d.e).h t = σ.h t := fun t ht => chs_out fun hm => ht (List.mem_append_left _ hm)
  have hu : ∀ t, t ∉ hws d → (σ.eff o.dst d.e).u t = σ.u t := by
    intro t ht
    have : t ∉ d.e.nu := fun hm => ht (List.mem_append_right _ hm)
    show nuU σ.u d.e.nu t = σ.u t
    simp [nuU_eq, this]
  have hg : GdOk ops o' (σ.eff o.dst d.e) d'.w ↔ GdOk ops o' σ d'.w := by
    unfold GdOk
    cases hgd : o'.guard with
    | none => exact Iff.rfl
    | some g =>
      obtain ⟨j, c⟩ := g
      have : ∀ t, ((ops[j]?).bind (·.dst)) = some t → (σ.eff o.dst d.e).s t = σ.s t := fun t ht => hs t (List.mem_append_left _ (by simp [gslot, hgd, ht]))
      constructor
      · rintro ⟨t, x, h1, h2, h3⟩; exact ⟨t, x, h1, by rw [← this t h1]; exact h2, h3⟩
      · rintro ⟨t, x, h1, h2, h3⟩; exact ⟨t, x, h1, by rw [this t h1]; exact h2, h3⟩
  have a1 : SlOk (σ.eff o.dst d.e) d'.sl ↔ SlOk σ d'.sl := SlOk.iff fun t ht => hs t (List.mem_append_right _ ht)
  have a2 : HpOk (σ.eff o.dst d.e) d'.hp ↔ HpOk σ d'.hp := HpOk.iff fun t ht => hh t fun hm => h.wr t hm ht
  have a3 : NuOk (σ.eff o.dst d.e) d'.e.nu ↔ NuOk σ d'.e.nu := NuOk.iff fun t ht => hu t fun hm => h.ww t hm (List.mem_append_right _ ht)
  unfold Ok
  rw [hg, a1, a2, a3]
  rfl

theorem Apart.symm {ops : Array Oper} {o o' : Oper} {d d' : St} (h : Apart ops o d o' d') : Apart ops o' d' o d :=
  ⟨fun x hx hy => h.dd x hy hx, fun x hx => h.rd x hx, fun x hx => h.dr x hx, fun x hx hy => h.ww x hy hx, h.rw', h.wr⟩

/-- what is left of a region, by its numbers -/
def ChainI (P : Program) (G : List (Nat × Array Value)) (ops : Array Oper) (D : Nat → St) (K : AS → Prop) : List Nat → AS → Prop
  | [], σ => K σ
  | i :: r, σ => ∃ o, ops[i]? = some o ∧ Ok P G ops o (D i) σ ∧ ChainI P G ops D K r (σ.eff o.dst (D i).e)

theorem ChainI.front {P : Program} {G : List (Nat × Array Value)} {ops : Array Oper} {D : Nat → St} {K : AS → Prop} {i : Nat} {o : Oper} (hi : ops[i]? = some o) {post : List Nat} :
    ∀ {pre : List Nat} {σ : AS}, (∀ j ∈ pre, ∀ oj, ops[j]? = some oj → Apart ops oj (D j) o (D i)) → ChainI P G ops D K (pre ++ i :: post) σ → Ok P G ops o (D i) σ ∧ ChainI P G ops D K (pre ++ post) (σ.eff o.dst (D i).e)
  | [], σ, _, h => by
    obtain ⟨o', ho', h1, h2⟩ := h
    rw [hi] at ho'
    cases ho'
    exact ⟨h1, h2⟩
  | j :: pre, σ, hp, h => by
    obtain ⟨oj, hj, h1, h2⟩ := h
    have hap := hp j (by simp) oj hj
    obtain ⟨k1, k2⟩ := ChainI.front hi (fun j hj => hp j (by simp [hj])) h2
    refine ⟨(Ok.iff hap σ).1 k1, oj, hj, (Ok.iff hap.symm σ).2 h1, ?_⟩
    rw [← eff_comm hap]
    exact k2

def ancs (l : List Oper) : List Nat := l.foldl (fun acc o => acc ++ [o.after.toList.foldl (fun s e => bif Region.binds .any e then s ||| 2 ^ e.on ||| acc.getD e.on 0 else s) 0]) []
inductive Anc (ops : Array Oper) : Nat → Nat → Prop
  | one {i j : Nat} {o : Oper} {e : Edge} (h : ops[j]? = some o) (he : e ∈ o.after) (hb : Region.binds .any e = true) (hi : e.on = i) : Anc ops i j
  | more {i k j : Nat} {o : Oper} {e : Edge} (h : ops[j]? = some o) (he : e ∈ o.after) (hb : Region.binds .any e = true) (hi : e.on = k) (ha : Anc ops i k) : Anc ops i j

theorem anc_bits {ops : Array Oper} {j : Nat} {o : Oper} (ho : ops[j]? = some o) {acc : List Nat} (hacc : ∀ k i, (acc.getD k 0).testBit i = true → Anc ops i k) :
    ∀ (es : List Edge) (s : Nat), (∀ e ∈ es, e ∈ o.after) → (∀ i, s.testBit i = true → Anc ops i j) →
      ∀ i, (es.foldl (fun s e => bif Region.binds .any e then s ||| 2 ^ e.on ||| acc.getD e.on 0 else s) s).testBit i = true → Anc ops i j
  | [], s, _, hs, i, h => hs i h
  | e :: es, s, he, hs, i, h => by
    refine anc_bits ho hacc es _ (fun x hx => he x (by simp [hx])) ?_ i h
    intro i hi
    dsimp only at hi
    cases hb : Region.binds .any e with
    | false => rw [hb] at hi; exact hs i hi
    | true =>
      rw [hb] at hi
      simp only [cond_true, Nat.testBit_or, Bool.or_eq_true, Nat.testBit_two_pow] at hi
      rcases hi with (hi | hi) | hi
      · exact hs i hi
      · exact .one ho (he e (by simp)) hb (by simpa using hi)
      · exact .more ho (he e (by simp)) hb rfl (hacc _ i hi)
theorem ancs_go {ops : Array Oper} : ∀ (l : List Oper) (acc : List Nat), (∀ j, l[j]? = ops[acc.length + j]?) → (∀ k i, (acc.getD k 0).testBit i = true → Anc ops i k) →
    ∀ k i, ((l.foldl (fun acc o => acc ++ [o.after.toList.foldl (fun s e => bif Region.binds .any e then s ||| 2 ^ e.on ||| acc.getD e.on 0 else s) 0]) acc).getD k 0).testBit i = true → Anc ops i k
  | [], acc, _, hacc, k, i, h => hacc k i h
  | o :: l, acc, hl, hacc, k, i, h => by
    refine ancs_go l _ (fun j => by have := hl (j + 1); simpa [Nat.add_assoc, Nat.add_comm 1 j] using this) ?_ k i h
    intro k i hk
    by_cases hlt : k < acc.length
    · rw [List.getD_eq_getElem?_getD, List.getElem?_append_left hlt, ← List.getD_eq_getElem?_getD] at hk
      exact hacc k i hk
    · by_cases he : k = acc.length
      · subst he
        rw [List.getD_eq_getElem?_getD, List.getElem?_append_right (Nat.le_refl _)] at hk
        simp only [Nat.sub_self, List.getElem?_cons_zero, Option.getD_some] at hk
        exact anc_bits (by simpa using (hl 0).symm) hacc _ 0 (fun e he => by simpa using he) (fun i hi => by simp at hi) i hk
      · rw [List.getD_eq_getElem?_getD, List.getElem?_eq_none (by simp; omega)] at hk
        simp at hk
theorem ancs_spec {l : List Oper} {k i : Nat} (h : ((ancs l).getD k 0).testBit i = true) : Anc l.toArray i k :=
  ancs_go (ops := l.toArray) l [] (fun j => by simp) (fun k i h => by simp at h) k i h

/-- whatever two operations meet, the one waits for the other -/
def chkRow (ops : Array Oper) (an : Nat) (o : Oper) (d : St) : Nat → List Oper → List St → Bool
  | k, p :: l, q :: ds => (an.testBit k || !conf ops p q o d) && chkRow ops an o d (k + 1) l ds
  | _, _, _ => true
def chkGo (ops : Array Oper) (l : List Oper) (ds : List St) : List Oper → List St → List Nat → Nat → Bool
  | o :: r, d :: rs, an :: ans, k => chkRow ops an o d 0 (l.take k) (ds.take k) && chkGo ops l ds r rs ans (k + 1)
  | _, _, _, _ => true
def chk (l : List Oper) (ds : List St) : Bool := chkGo l.toArray l ds l ds (ancs l) 0

theorem chkRow_spec {ops : Array Oper} {an : Nat} {o : Oper} {d : St} : ∀ {k : Nat} {l : List Oper} {ds : List St}, chkRow ops an o d k l ds = true → ∀ j p q, l[j]? = some p → ds[j]? = some q → an.testBit (k + j) = true ∨ conf ops p q o d = false
  | k, p :: l, q :: ds, h, 0, p', q', hp, hq => by
    simp only [List.getElem?_cons_zero, Option.some.injEq] at hp hq
    subst hp; subst hq
    simp only [chkRow, Bool.and_eq_true, Bool.or_eq_true, Bool.not_eq_true'] at h
    exact h.1
  | k, p :: l, q :: ds, h, j + 1, p', q', hp, hq => by
    simp only [chkRow, Bool.and_eq_true] at h
    have := chkRow_spec h.2 j p' q' (by simpa using hp) (by simpa using hq)
    rw [show k + (j + 1) = k + 1 + j by omega]
    exact this
  | _, [], _, _, _, _, _, hp, _ => by simp at hp
  | _, _ :: _, [], _, _, _, _, _, hq => by simp at hq
theorem chkGo_spec {ops : Array Oper} {l : List Oper} {ds : List St} : ∀ {r : List Oper} {rs : List St} {ans : List Nat} {k : Nat}, chkGo ops l ds r rs ans k = true → ans.length = r.length → ∀ m o d, r[m]? = some o → rs[m]? = some d →
    ∀ j p q, j < k + m → l[j]? = some p → ds[j]? = some q → (ans.getD m 0).testBit j = true ∨ conf ops p q o d = false
  | o :: r, d :: rs, an :: ans, k, h, hn, 0, o', d', ho, hd, j, p, q, hj, hp, hq => by
    simp only [List.getElem?_cons_zero, Option.some.injEq] at ho hd
    subst ho; subst hd
    simp only [chkGo, Bool.and_eq_true] at h
    have := chkRow_spec h.1 j p q (by rw [List.getElem?_take_of_lt (by omega)]; exact hp) (by rw [List.getElem?_take_of_lt (by omega)]; exact hq)
    simpa using this
  | o :: r, d :: rs, an :: ans, k, h, hn, m + 1, o', d', ho, hd, j, p, q, hj, hp, hq => by
    simp only [chkGo, Bool.and_eq_true] at h
    have := chkGo_spec h.2 (by simpa using hn) m o' d' (by simpa using ho) (by simpa using hd) j p q (by omega) hp hq
    simpa using this
  | [], _, _, _, _, _, _, _, _, ho, _, _, _, _, _, _, _ => by simp at ho
  | _ :: _, [], _, _, _, _, _, _, _, _, hd, _, _, _, _, _, _ => by simp at hd
  | _ :: _, _ :: _, [], _, _, hn, _, _, _, _, _, _, _, _, _, _, _ => by simp at hn
theorem ancs_len (l : List Oper) : (ancs l).length = l.length := by
  have : ∀ (l : List Oper) (acc : List Nat), (l.foldl (fun acc o => acc ++ [o.after.toList.foldl (fun s e => bif Region.binds .any e then s ||| 2 ^ e.on ||| acc.getD e.on 0 else s) 0]) acc).length = acc.length + l.length := by
    intro l
    induction l with
    | nil => intro acc; rfl
    | cons o l ih => intro acc; rw [List.foldl_cons, ih]; simp; omega
  simpa [ancs] using this l []

section
variable {P : Program} {G : List (Nat × Array Value)} {l : List Oper} {D : Nat → St} {K : AS → Prop} {Q : Exit → Act → World → Prop} {A : Amb}

/-- what is left, in the text's order -/
def left (listed : Array Bool) (n : Nat) : List Nat := (List.range n).filter fun j => !listed.getD j false

theorem left_set {listed : Array Bool} {n i : Nat} (hn : listed.size = n) (hi : i ∈ left listed n) : ∃ pre post, left listed n = pre ++ i :: post ∧ left (listed.setIfInBounds i true) n = pre ++ post ∧ ∀ j ∈ pre, j < i := by
  have hin : i < n := by simpa using (List.mem_filter.1 hi).1
  obtain ⟨pre, post, he⟩ := List.append_of_mem hi
  have hsorted : (left listed n).Pairwise (· < ·) := (List.pairwise_lt_range (n := n)).filter _
  rw [he] at hsorted
  have h1 := List.pairwise_append.1 hsorted
  have hpre : ∀ j ∈ pre, j < i := fun j hj => h1.2.2 j hj i (by simp)
  have hpost : ∀ j ∈ post, i < j := fun j hj => (List.pairwise_cons.1 h1.2.1).1 j hj
  refine ⟨pre, post, he, ?_, hpre⟩
  have hf : left (listed.setIfInBounds i true) n = (left listed n).filter (fun j => j != i) := by
    unfold left
    rw [List.filter_filter]
    refine List.filter_congr fun j hj => ?_
    have hjn : j < n := by simpa using hj
    by_cases hji : j = i
    · subst hji
      simp [Array.getD_eq_getD_getElem?, hn, hjn]
    · rw [getD_set_ne false (Ne.symm hji)]
      simp [hji]
  rw [hf, he, List.filter_append, List.filter_cons]
  simp only [bne_self_eq_false, Bool.false_eq_true, if_false]
  rw [List.filter_eq_self.2 (fun j hj => by have := hpre j hj; simp; omega), List.filter_eq_self.2 (fun j hj => by have := hpost j hj; simp; omega)]

/-- an operation that waits for nothing any more is apart from all that stand ahead of it -/
theorem any_of_left (hG : A.G = G) (hQ : ∀ ρ σ a w, K σ → Sat A ρ σ a w → Q .normal a w)
    (hed : ∀ (i : Nat) (o : Oper), l[i]? = some o → ∀ e ∈ o.after, Region.binds .any e = true → e.on < i)
    (hchk : ∀ (j i : Nat) (oj oi : Oper), j < i → l[j]? = some oj → l[i]? = some oi → Anc l.toArray j i ∨ Apart l.toArray oj (D j) oi (D i)) :
    ∀ (fuel : Nat) (listed : Array Bool) (σ : AS) (ρ : Env) (a : Act) (w : World), listed.size = l.length →
      (∀ (j : Nat) (o : Oper), listed.getD j false = true → l[j]? = some o → ∀ e ∈ o.after, Region.binds .any e = true → listed.getD e.on false = true) →
      ChainI P G l.toArray D K (left listed l.length) σ → (left listed l.length).length ≤ fuel → Sat A ρ σ a w → wpAny P .any l.toArray Q fuel listed a w := by
  intro fuel
  have hdone : ∀ (listed : Array Bool) (σ : AS) (ρ : Env) (a : Act) (w : World), listed.size = l.length →
      (∀ (j : Nat) (o : Oper), listed.getD j false = true → l[j]? = some o → ∀ e ∈ o.after, Region.binds .any e = true → listed.getD e.on false = true) →
      ChainI P G l.toArray D K (left listed l.length) σ → (left listed l.length) = [] → Sat A ρ σ a w → Q .normal a w := by
    intro listed σ ρ a w hn hcl hch hnil hs
    rw [hnil] at hch
    exact hQ ρ σ a w hch hs
  induction fuel with
  | zero =>
    intro listed σ ρ a w hn hcl hch hf hs
    have hnil : left listed l.length = [] := List.eq_nil_of_length_eq_zero (by omega)
    refine ⟨?_, hdone listed σ ρ a w hn hcl hch hnil hs⟩
    rw [List.eq_nil_iff_forall_not_mem]
    intro i hi
    obtain ⟨h1, h2⟩ := List.mem_filter.1 hi
    have : i ∈ left listed l.length := by
      refine List.mem_filter.2 ⟨by simpa using h1, ?_⟩
      simp only [Bool.and_eq_true] at h2
      have h3 := h2.1
      have hlt : i < listed.size := by simpa [hn] using h1
      simp only [Array.getD_eq_getD_getElem?, Array.getElem?_eq_getElem hlt, Option.getD_some] at h3 ⊢
      exact h3
    rw [hnil] at this
    cases this
  | succ fuel ih =>
    intro listed σ ρ a w hn hcl hch hf hs
    have hready : ∀ i, i ∈ Region.ready .any l.toArray listed → i ∈ left listed l.length ∧ ∃ o, l[i]? = some o ∧ ∀ e ∈ o.after, Region.binds .any e = true → listed.getD e.on false = true := by
      intro i hi
      obtain ⟨h1, h2⟩ := List.mem_filter.1 hi
      simp only [Bool.and_eq_true] at h2
      have hil : i < l.length := by simpa using h1
      have hlt : i < listed.size := by rw [hn]; exact hil
      refine ⟨List.mem_filter.2 ⟨by simpa using hil, ?_⟩, l[i], by simp [hil], ?_⟩
      · have h3 := h2.1
        simp only [Array.getD_eq_getD_getElem?, Array.getElem?_eq_getElem hlt, Option.getD_some] at h3 ⊢
        exact h3
      · have h3 := h2.2
        simp only [List.getElem?_toArray, List.getElem?_eq_getElem hil, Option.map_some, Option.getD_some, Array.all_eq_true'] at h3
        intro e he hb
        have := h3 e he
        simpa [hb] using this
    refine ⟨fun hr => ?_, fun i hi => ?_⟩
    · refine hdone listed σ ρ a w hn hcl hch ?_ hs
      /- nothing is ready: nothing is left -/
      cases hleft : left listed l.length with
      | nil => rfl
      | cons i rest =>
        exfalso
        rw [hleft] at hch
        obtain ⟨o, ho, -⟩ := hch
        have hil : i ∈ left listed l.length := by rw [hleft]; simp
        have hi' := List.mem_filter.1 hil
        have hlt : i < l.length := by simpa using hi'.1
        by_cases hall : ∀ e ∈ o.after, Region.binds .any e = true → listed.getD e.on false = true
        · have : i ∈ Region.ready .any l.toArray listed := by
            refine List.mem_filter.2 ⟨by simpa using hlt, ?_⟩
            have h3 := hi'.2
            have hlt' : i < listed.size := by rw [hn]; exact hlt
            simp only [Array.getD_eq_getD_getElem?, Array.getElem?_eq_getElem hlt', Option.getD_some] at h3
            simp only [Bool.and_eq_true, Array.getD_eq_getD_getElem?, Array.getElem?_eq_getElem hlt', Option.getD_some]
            refine ⟨h3, ?_⟩
            simp only [ho, Option.map_some, Option.getD_some, Array.all_eq_true']
            intro e he
            cases hb : Region.binds .any e with
            | false => rfl
            | true =>
              have := hall e he hb
              simp only [Array.getD_eq_getD_getElem?] at this
              simpa using this
          rw [hr] at this
          cases this
        · refine hall fun e he hb => ?_
          have hlt2 := hed i o (by simpa using ho) e he hb
          cases hc : listed.getD e.on false with
          | true => rfl
          | false =>
            have hm : e.on ∈ left listed l.length := List.mem_filter.2 ⟨by simp; omega, by simp [hc]⟩
            have hsorted : (left listed l.length).Pairwise (· < ·) := (List.pairwise_lt_range (n := l.length)).filter _
            rw [hleft] at hm hsorted
            rcases List.mem_cons.1 hm with h | h
            · omega
            · have := (List.pairwise_cons.1 hsorted).1 _ h
              omega
    · obtain ⟨hil, o, ho, hpre⟩ := hready i hi
      obtain ⟨pre, post, h1, h2, h3⟩ := left_set hn hil
      have hoi : l.toArray[i]? = some o := by simpa using ho
      have hanc : ∀ j, Anc l.toArray j i → listed.getD j false = true := by
        have key : ∀ j k, Anc l.toArray j k → ∀ ok, l[k]? = some ok → (∀ e ∈ ok.after, Region.binds .any e = true → listed.getD e.on false = true) → listed.getD j false = true := by
          intro j k ha
          induction ha with
          | one h he hb hi' =>
            intro ok hok hall
            rw [List.getElem?_toArray, hok] at h
            cases h
            rw [← hi']
            exact hall _ he hb
          | more h he hb hi' ha ih' =>
            intro ok hok hall
            rw [List.getElem?_toArray, hok] at h
            cases h
            have hk := hall _ he hb
            rw [hi'] at hk
            refine (fun (k' : Nat) (hk : listed.getD k' false = true) (ih' : ∀ ok, l[k']? = some ok → (∀ e ∈ ok.after, Region.binds .any e = true → listed.getD e.on false = true) → listed.getD j false = true) => ?_) _ hk ih'
            cases hk2 : l[k']? with
            | none =>
              have : ¬ k' < l.length := by simpa using hk2
              rw [Array.getD_eq_getD_getElem?, Array.getElem?_eq_none (by omega)] at hk
              cases hk
            | some ok2 => exact ih' ok2 hk2 (fun e2 he2 hb2 => hcl k' ok2 hk hk2 e2 he2 hb2)
        intro j ha
        exact key j i ha o ho hpre
      rw [h1] at hch
      obtain ⟨k1, k2⟩ := ChainI.front hoi (fun j hj oj hoj => by
        have hj' : j ∈ left listed l.length := by rw [h1]; simp [hj]
        rcases hchk j i oj o (h3 j hj) (by simpa using hoj) ho with ha | ha
        · have := hanc j ha
          have hjf := (List.mem_filter.1 hj').2
          rw [this] at hjf
          cases hjf
        · exact ha) hch
      refine k1.wpOp hoi hG hs fun a' w' ρ' hs' => ?_
      refine ih (listed.setIfInBounds i true) _ ρ' a' w' (by simpa using hn) ?_ (by rw [h2]; exact k2) ?_ hs'
      · intro j oj hj hoj e he hb
        by_cases hji : j = i
        · subst hji
          rw [ho] at hoj
          cases hoj
          exact getD_set_true (hpre e he hb)
        · rw [getD_set_ne false (Ne.symm hji)] at hj
          exact getD_set_true (hcl j oj hj hoj e he hb)
      · rw [h2]
        rw [h1] at hf
        simp only [List.length_append, List.length_cons] at hf ⊢
        omega
end

def edgesOk : Nat → List Oper → Bool
  | k, o :: l => o.after.toList.all (fun e => !Region.binds .any e || decide (e.on < k)) && edgesOk (k + 1) l
  | _, [] => true
theorem edgesOk_spec : ∀ {k : Nat} {l : List Oper}, edgesOk k l = true → ∀ (i : Nat) (o : Oper), l[i]? = some o → ∀ e ∈ o.after, Region.binds .any e = true → e.on < k + i
  | k, o :: l, h, 0, o', ho, e, he, hb => by
    simp only [List.getElem?_cons_zero, Option.some.injEq] at ho
    subst ho
    simp only [edgesOk, Bool.and_eq_true, List.all_eq_true] at h
    have := h.1 e (by simpa using he)
    simpa [hb] using this
  | k, o :: l, h, i + 1, o', ho, e, he, hb => by
    simp only [edgesOk, Bool.and_eq_true] at h
    have := edgesOk_spec h.2 i o' (by simpa using ho) e he hb
    omega
  | k, [], _, i, o, ho, _, _, _ => by simp at ho

theorem chainI_of {P : Program} {G : List (Nat × Array Value)} {l : List Oper} {K : AS → Prop} {D : Nat → St} : ∀ (r : List Oper) (ds : List St) (k : Nat) (σ : AS), (∀ j, r[j]? = l[k + j]?) → (∀ j d, ds[j]? = some d → D (k + j) = d) →
    Chain P G l.toArray K r ds σ → ChainI P G l.toArray D K ((List.range r.length).map (k + ·)) σ
  | [], [], k, σ, _, _, h => h
  | o :: r, d :: ds, k, σ, hl, hd, h => by
    have h0 : l[k]? = some o := by simpa using (hl 0).symm
    have hD : D k = d := by simpa using hd 0 d rfl
    rw [List.length_cons, List.range_succ_eq_map, List.map_cons, List.map_map]
    refine ⟨o, by simpa using h0, by simpa [hD] using h.1, ?_⟩
    have := chainI_of r ds (k + 1) _ (fun j => by have := hl (j + 1); simpa [Nat.add_assoc, Nat.add_comm 1 j] using this) (fun j d hj => by have := hd (j + 1) d (by simpa using hj); rw [← this]; congr 1; omega) h.2
    have he : (fun x => k + x) ∘ Nat.succ = fun x => k + 1 + x := by funext x; simp; omega
    rw [he]
    simpa [hD] using this
  | [], _ :: _, _, _, _, _, h => h.elim
  | _ :: _, [], _, _, _, _, h => h.elim

theorem chain_len {P : Program} {G : List (Nat × Array Value)} {ops : Array Oper} {K : AS → Prop} : ∀ {l : List Oper} {ds : List St} {σ : AS}, Chain P G ops K l ds σ → ds.length = l.length
  | [], [], _, _ => rfl
  | _ :: _, _ :: _, _, h => by simp [chain_len h.2]
  | [], _ :: _, _, h => h.elim
  | _ :: _, [], _, h => h.elim

theorem wp_region_drawn {P : Program} {G : List (Nat × Array Value)} {l : List Oper} {ds : List St} {K : AS → Prop} {Q : Exit → Act → World → Prop} {A : Amb} (hm : P.follows .mixedOrders = true) (hG : A.G = G)
    (hQ : ∀ ρ σ a w, K σ → Sat A ρ σ a w → Q .normal a w) {id : Nat} {σ : AS} {ρ : Env} {a : Act} {w : World} (hc : Chain P G l.toArray K l ds σ) (hchk : (edgesOk 0 l && chk l ds) = true) (hs : Sat A ρ σ a w) :
    (Code.region id l.toArray true).wp P Q a w := by
  simp only [Bool.and_eq_true] at hchk
  refine wp_region_any hm ?_
  have hs' : Sat A ρ σ a { w with drawn := w.drawn + 1 } := by
    obtain ⟨h1, h2⟩ := hs.mem.same (w' := { w with drawn := w.drawn + 1 }) rfl rfl rfl rfl
    exact ⟨h1, fun t v ht => by obtain ⟨x, hx, hv⟩ := hs.slots t v ht; exact ⟨x, hx, h2 _ _ hv⟩, hs.nt, hs.defers⟩
  have hlen := chain_len hc
  have hleft : left (Array.replicate l.length false) l.length = List.range l.length := by
    unfold left
    rw [List.filter_eq_self]
    intro j hj
    have : j < l.length := by simpa using hj
    simp [Array.getD_eq_getD_getElem?, this]
  have hch : ChainI P G l.toArray (fun j => ds.getD j ⟨true, [], [], ⟨none, [], []⟩⟩) K (List.range l.length) σ := by
    have := chainI_of (P := P) (G := G) (K := K) (D := fun j => ds.getD j ⟨true, [], [], ⟨none, [], []⟩⟩) l ds 0 σ (fun j => by simp) (fun j d hj => by simp [List.getD_eq_getElem?_getD, hj]) hc
    have he : (fun x => 0 + x) = (fun x : Nat => x) := by funext x; omega
    rw [he, List.map_id'] at this
    exact this
  have hsz : l.toArray.size = l.length := by simp
  rw [hsz]
  refine any_of_left (D := fun j => ds.getD j ⟨true, [], [], ⟨none, [], []⟩⟩) hG hQ (fun i o ho e he hb => by simpa using edgesOk_spec hchk.1 i o ho e he hb) ?_ l.length (Array.replicate l.length false) σ ρ a _ (by simp) ?_ (by rw [hleft]; exact hch)
    (by rw [hleft]; simp) hs'
  · intro j i oj oi hji hj hi
    have hil : i < l.length := (List.getElem?_eq_some_iff.1 hi).1
    have hdj : ds[j]? = some (ds.getD j ⟨true, [], [], ⟨none, [], []⟩⟩) := by
      have : j < ds.length := by omega
      simp [List.getD_eq_getElem?_getD, List.getElem?_eq_getElem this]
    have hdi : ds[i]? = some (ds.getD i ⟨true, [], [], ⟨none, [], []⟩⟩) := by
      have : i < ds.length := by omega
      simp [List.getD_eq_getElem?_getD, List.getElem?_eq_getElem this]
    rcases chkGo_spec hchk.2 (ancs_len l) i oi _ hi hdi j oj _ (by omega) hj hdj with h | h
    · exact .inl (ancs_spec h)
    · exact .inr (apart_of_conf h)
  · intro j o hj
    by_cases hjl : j < l.length
    · simp [Array.getD_eq_getD_getElem?, hjl] at hj
    · simp [Array.getD_eq_getD_getElem?, hjl] at hj
end Go.Proofs.YtmifllopcbjliaaDoor.E
end
section
/- Names given anew; what a function promises in abstract words; the rules of the code's forms. -/
namespace Go.Proofs.YtmifllopcbjliaaDoor.E
open Go Go.RowKit Go.Proofs.YtmifllopcbjliaaDoor.V

mutual
def AV.ren (π : Nat → Nat) : AV → AV
  | .v x => .v x
  | .agg cs => .agg (AV.renL π cs)
  | .tup cs => .tup (AV.renL π cs)
  | .sl o n cs => .sl (o.map π) n (AV.renL π cs)
  | .arr id off n => .arr (π id) off n
  | .ptr id off => .ptr (π id) off
  | .sptr cs => .sptr (AV.renL π cs)
  | .fn f fs cs => .fn f (AV.renL π fs) (AV.renL π cs)
def AV.renL (π : Nat → Nat) : List AV → List AV
  | [] => []
  | c :: r => AV.ren π c :: AV.renL π r
end
theorem renL_eq (π : Nat → Nat) : ∀ l, AV.renL π l = l.map (AV.ren π)
  | [] => rfl
  | c :: r => by rw [AV.renL, renL_eq π r]; rfl
theorem renL_len (π : Nat → Nat) (l : List AV) : (AV.renL π l).length = l.length := by rw [renL_eq, List.length_map]
theorem renL_get {π : Nat → Nat} {l : List AV} {i : Nat} {c : AV} (h : (AV.renL π l)[i]? = some c) : ∃ c0, l[i]? = some c0 ∧ c = c0.ren π := by
  rw [renL_eq, List.getElem?_map] at h
  cases h0 : l[i]? with
  | none => rw [h0] at h; cases h
  | some c0 => rw [h0] at h; cases h; exact ⟨c0, rfl, rfl⟩
theorem renL_append (π : Nat → Nat) (a b : List AV) : AV.renL π (a ++ b) = AV.renL π a ++ AV.renL π b := by simp only [renL_eq, List.map_append]
theorem renL_raw (π : Nat → Nat) {α : Type} (f : α → Value) (l : List α) : AV.renL π (l.map fun x => .v (f x)) = l.map fun x => .v (f x) := by
  rw [renL_eq, List.map_map]; rfl
theorem renL_raw' (π : Nat → Nat) (l : List Value) : AV.renL π (l.map .v) = l.map .v := by
  rw [renL_eq, List.map_map]; rfl

mutual
/-- all names are of these -/
def AV.bel (u : Nat → Bool) : AV → Prop
  | .v _ => True
  | .agg cs => AV.belL u cs
  | .tup cs => AV.belL u cs
  | .sl o _ cs => (∀ k, o = some k → u k = true) ∧ AV.belL u cs
  | .arr id _ _ => u id = true
  | .ptr id _ => u id = true
  | .sptr cs => AV.belL u cs
  | .fn _ fs cs => AV.belL u fs ∧ AV.belL u cs
def AV.belL (u : Nat → Bool) : List AV → Prop
  | [] => True
  | c :: r => AV.bel u c ∧ AV.belL u r
end
theorem belL_get {u : Nat → Bool} : ∀ {l : List AV} {i : Nat} {c : AV}, AV.belL u l → l[i]? = some c → c.bel u
  | d :: r, 0, c, h, hc => by simp at hc; subst hc; exact h.1
  | d :: r, i + 1, c, h, hc => belL_get (l := r) (i := i) h.2 (by simpa using hc)
  | [], i, c, h, hc => by simp at hc
theorem belL_raw (u : Nat → Bool) {α : Type} (f : α → Value) : ∀ l : List α, AV.belL u (l.map fun x => .v (f x))
  | [] => trivial
  | _ :: r => ⟨trivial, belL_raw u f r⟩
theorem belL_raw' (u : Nat → Bool) : ∀ l : List Value, AV.belL u (l.map .v)
  | [] => trivial
  | _ :: r => ⟨trivial, belL_raw' u r⟩

theorem VRel.ren {N : Nat → Nat → Prop} {ρ2 ρ : Env} {w : World} {π : Nat → Nat} (hb : ∀ i b, ρ2.blk i = some b → ρ.blk (π i) = some b) (ht : ∀ i v, ρ2.tip i = some v → ρ.tip (π i) = some v)
    {v : AV} {x : Value} (h : VRel N ρ2 w v x) : VRel N ρ w (v.ren π) x := by
  induction h with
  | v x => exact .v x
  | agg cs vs hs _ ih => exact .agg _ vs (by rw [renL_len]; exact hs) fun i c x hc hx => by obtain ⟨c0, h0, rfl⟩ := renL_get hc; exact ih i c0 x h0 hx
  | tup cs vs hs _ ih => exact .tup _ vs (by rw [renL_len]; exact hs) fun i c x hc hx => by obtain ⟨c0, h0, rfl⟩ := renL_get hc; exact ih i c0 x h0 hx
  | sl o n cs a cap vals hc _ ho hn hz hm ih =>
    refine .sl _ n _ a cap vals (fun i hi => hc i (by rw [renL_len] at hi; exact hi)) (fun i c hc => by obtain ⟨c0, h0, rfl⟩ := renL_get hc; exact ih i c0 h0) ?_ hn hz hm
    intro k hk
    cases o with
    | none => cases hk
    | some j => cases hk; exact ht _ _ (ho j rfl)
  | arr id off n cap b hb' hn hm => exact .arr _ off n cap b (hb _ _ hb') hn hm
  | ptr id off b hb' => exact .ptr _ off b (hb _ _ hb')
  | sptr cs b off vals hc _ ih => exact .sptr _ b off vals (fun i hi => hc i (by rw [renL_len] at hi; exact hi)) (fun i c hc => by obtain ⟨c0, h0, rfl⟩ := renL_get hc; exact ih i c0 h0)
  | fn f fs cs vs us hs _ hs' _ ih ih' =>
    exact .fn f _ _ vs us (by rw [renL_len]; exact hs) (fun i c x hc hx => by obtain ⟨c0, h0, rfl⟩ := renL_get hc; exact ih i c0 x h0 hx) (by rw [renL_len]; exact hs') (fun i c x hc hx => by obtain ⟨c0, h0, rfl⟩ := renL_get hc; exact ih' i c0 x h0 hx)

theorem VRel.unren {N : Nat → Nat → Prop} {ρ2 ρ : Env} {w : World} {π : Nat → Nat} {u : Nat → Bool} (hb : ∀ i b, u i = true → ρ.blk (π i) = some b → ρ2.blk i = some b) (ht : ∀ i v, u i = true → ρ.tip (π i) = some v → ρ2.tip i = some v)
    {v : AV} {x : Value} (h : VRel N ρ w v x) : ∀ v', v = v'.ren π → v'.bel u → VRel N ρ2 w v' x := by
  induction h with
  | v x => intro v' hv hbl; cases v' <;> simp only [AV.ren, reduceCtorEq] at hv; cases hv; exact .v x
  | agg cs vs hs _ ih =>
    intro v' hv hbl
    cases v' <;> simp only [AV.ren, reduceCtorEq, AV.agg.injEq] at hv
    subst hv
    exact .agg _ vs (by rw [renL_len] at hs; exact hs) fun i c x hc hx => ih i (c.ren π) x (by rw [renL_eq, List.getElem?_map, hc]; rfl) hx c rfl (belL_get hbl hc)
  | tup cs vs hs _ ih =>
    intro v' hv hbl
    cases v' <;> simp only [AV.ren, reduceCtorEq, AV.tup.injEq] at hv
    subst hv
    exact .tup _ vs (by rw [renL_len] at hs; exact hs) fun i c x hc hx => ih i (c.ren π) x (by rw [renL_eq, List.getElem?_map, hc]; rfl) hx c rfl (belL_get hbl hc)
  | sl o n cs a cap vals hc _ ho hn hz hm ih =>
    intro v' hv hbl
    cases v' <;> simp only [AV.ren, reduceCtorEq, AV.sl.injEq] at hv
    obtain ⟨rfl, rfl, rfl⟩ := hv
    refine .sl _ _ _ a cap vals (fun i hi => hc i (by rw [renL_len]; exact hi)) (fun i c hc => ih i (c.ren π) (by rw [renL_eq, List.getElem?_map, hc]; rfl) c rfl (belL_get hbl.2 hc)) ?_ hn hz hm
    rintro k rfl
    exact ht _ _ (hbl.1 k rfl) (ho _ rfl)
  | arr id off n cap b hb' hn hm =>
    intro v' hv hbl
    cases v' <;> simp only [AV.ren, reduceCtorEq, AV.arr.injEq] at hv
    obtain ⟨rfl, rfl, rfl⟩ := hv
    exact .arr _ _ _ _ b (hb _ _ hbl hb') hn hm
  | ptr id off b hb' =>
    intro v' hv hbl
    cases v' <;> simp only [AV.ren, reduceCtorEq, AV.ptr.injEq] at hv
    obtain ⟨rfl, rfl⟩ := hv
    exact .ptr _ _ b (hb _ _ hbl hb')
  | sptr cs b off vals hc _ ih =>
    intro v' hv hbl
    cases v' <;> simp only [AV.ren, reduceCtorEq, AV.sptr.injEq] at hv
    subst hv
    exact .sptr _ b off vals (fun i hi => hc i (by rw [renL_len]; exact hi)) (fun i c hc => ih i (c.ren π) (by rw [renL_eq, List.getElem?_map, hc]; rfl) c rfl (belL_get hbl hc))
  | fn f fs cs vs us hs _ hs' _ ih ih' =>
    intro v' hv hbl
    cases v' <;> simp only [AV.ren, reduceCtorEq, AV.fn.injEq] at hv
    obtain ⟨rfl, rfl, rfl⟩ := hv
    exact .fn _ _ _ vs us (by rw [renL_len] at hs; exact hs) (fun i c x hc hx => ih i (c.ren π) x (by rw [renL_eq, List.getElem?_map, hc]; rfl) hx c rfl (belL_get hbl.1 hc))
      (by rw [renL_len] at hs'; exact hs') (fun i c x hc hx => ih' i (c.ren π) x (by rw [renL_eq, List.getElem?_map, hc]; rfl) hx c rfl (belL_get hbl.2 hc))

def AO.ren (π : Nat → Nat) : AO → AO
  | .cells T cs => .cells T (AV.renL π cs)
  | .tip E sz n => .tip E sz n
def AO.bel (u : Nat → Bool) : AO → Prop
  | .cells _ cs => AV.belL u cs
  | .tip _ _ _ => True

/-- a slot's value may be told with less -/
inductive AV.wk : AV → AV → Prop
  | rfl (x : AV) : AV.wk x x
  | untip (o : Option Nat) (n : Nat) (cs : List AV) : AV.wk (.sl o n cs) (.sl none n cs)
  | nil : AV.wk (.v (.slice none 0 0)) (.sl none 0 [])
  | func (f : Fn) : AV.wk (.v (.func f #[] #[])) (.fn f [] [])
theorem AV.wk.of_eq {x y : AV} (h : x = y) : AV.wk x y := h ▸ .rfl x
theorem VRel.wk {N : Nat → Nat → Prop} {ρ : Env} {w : World} {v v' : AV} {x : Value} (hk : v.wk v') (h : VRel N ρ w v x) : VRel N ρ w v' x := by
  cases hk with
  | rfl => exact h
  | untip o n cs =>
    cases h with
    | sl o n cs a cap vals hc h ho hn hz hm => exact .sl none n cs a cap vals hc h (fun k hk => by cases hk) hn hz hm
  | nil =>
    cases h
    exact .sl none 0 [] none 0 (fun _ => undef) (fun i hi => by cases hi) (fun i c hc => by simp at hc) (fun k hk => by cases hk) (Nat.le_refl _) (fun _ => rfl) (by unfold maxLen; omega)
  | func f =>
    cases h
    exact .fn f [] [] #[] #[] rfl (fun i c x hc _ => by simp at hc) rfl (fun i c x hc _ => by simp at hc)

/-- one state tells what another one does, its names given anew -/
structure Ent (π : Nat → Nat) (nA : Nat) (σ σ' : AS) : Prop where
  n : σ'.n = σ.n
  arg : ∀ i, i < nA → π i = i ∧ σ'.u i = true
  s : ∀ t v', σ'.s t = some v' → v'.bel σ'.u ∧ ∃ v, σ.s t = some v ∧ v.wk (v'.ren π)
  h : ∀ i o', σ'.h i = some o' → σ'.u i = true ∧ o'.bel σ'.u ∧ σ.h (π i) = some (o'.ren π)
  inj : ∀ i j oi oj, σ'.h i = some oi → σ'.h j = some oj → π i = π j → i = j

theorem Ent.sat {π : Nat → Nat} {σ σ' : AS} {A : Amb} (hE : Ent π A.nA σ σ') {ρ : Env} {a : Act} {w : World} (hs : Sat A ρ σ a w) : ∃ ρ', Sat A ρ' σ' a w := by
  let ρ' : Env := ⟨fun i => if σ'.u i = true then ρ.blk (π i) else none, fun i => if σ'.u i = true then ρ.tip (π i) else none⟩
  have hb : ∀ i b, σ'.u i = true → ρ.blk (π i) = some b → ρ'.blk i = some b := fun i b hu h => by show (if _ then _ else _) = _; rw [if_pos hu]; exact h
  have ht : ∀ i v, σ'.u i = true → ρ.tip (π i) = some v → ρ'.tip i = some v := fun i b hu h => by show (if _ then _ else _) = _; rw [if_pos hu]; exact h
  have hb' : ∀ i b, ρ'.blk i = some b → σ'.u i = true ∧ ρ.blk (π i) = some b := fun i b h => by
    have h' : (if σ'.u i = true then ρ.blk (π i) else none) = some b := h
    split at h'
    · exact ⟨‹_›, h'⟩
    · cases h'
  have ht' : ∀ i b, ρ'.tip i = some b → σ'.u i = true ∧ ρ.tip (π i) = some b := fun i b h => by
    have h' : (if σ'.u i = true then ρ.tip (π i) else none) = some b := h
    split at h'
    · exact ⟨‹_›, h'⟩
    · cases h'
  have hat : ∀ (i : Nat) (ob : AO) (b : Nat), ob.at_ ρ' i b → (ob.ren π).at_ ρ (π i) b := fun i ob b h => by
    cases ob with
    | cells => exact (hb' _ _ h).2
    | tip => exact ⟨h.choose, (ht' _ _ h.choose_spec).2⟩
  have hwr : ∀ (i : Nat) (ob : AO) (b o : Nat), ob.wr ρ' i b o → (ob.ren π).wr ρ (π i) b o := fun i ob b o h => by
    cases ob with
    | cells => exact (hb' _ _ h).2
    | tip => exact ⟨h.choose, (ht' _ _ h.choose_spec.1).2, h.choose_spec.2⟩
  have hN : ∀ b o, Nh A σ.h ρ w b o → Nh A σ'.h ρ' w b o := fun b o ⟨h1, h2, h3⟩ => ⟨h1, h2, fun i ob hi hw => h3 _ _ (hE.h i ob hi).2.2 (hwr i ob b o hw)⟩
  have hV : ∀ (v' : AV) (x : Value), v'.bel σ'.u → VRel (Nh A σ.h ρ w) ρ w (v'.ren π) x → VRel (Nh A σ'.h ρ' w) ρ' w v' x := fun v' x hbl h =>
    VRel.mono hN (Env.le_refl ρ') (fun _ _ _ => rfl) (h.unren (u := σ'.u) hb ht v' rfl hbl)
  refine ⟨ρ', ⟨⟨hs.mem.os, hs.mem.tape, hs.mem.output, hs.mem.size, hs.mem.block, hs.mem.keep, hs.mem.nlt, hs.mem.nw, hs.mem.wb, hs.mem.tabs, hs.mem.domB, hs.mem.domT, ?_, fun i b h => (hb' i b h).1, fun i b h => (ht' i b h).1, ?_, ?_, ?_, ?_⟩, ?_, ?_, hs.defers⟩⟩
  · intro i hi
    obtain ⟨h1, h2⟩ := hE.arg i hi
    obtain ⟨-, h3, h4⟩ := hs.mem.fix i hi
    refine ⟨h2, ?_, ?_⟩
    · show (if σ'.u i = true then ρ.blk (π i) else none) = _
      rw [if_pos h2, h1, h3]
    · show (if σ'.u i = true then ρ.tip (π i) else none) = _
      rw [if_pos h2, h1, h4]
  · intro i ob hi
    obtain ⟨hu, hbl, hσ⟩ := hE.h i ob hi
    have := hs.mem.heap _ _ hσ
    cases ob with
    | cells T cs =>
      obtain ⟨b, arr, h1, h2, h3, h4⟩ := this
      refine ⟨b, arr, hb i b hu h1, h2, by rw [renL_len] at h3; exact h3, fun j c x hc hx => ?_⟩
      have := h4 j (c.ren π) x (by rw [renL_eq, List.getElem?_map, hc]; rfl) hx
      exact ⟨hV c x (belL_get hbl hc) this.1, this.2⟩
    | tip E sz n =>
      rcases this with ⟨h1, h2⟩ | ⟨g, cap, cur, h1, h2⟩
      · exact .inl ⟨ht i _ hu h1, h2⟩
      · exact .inr ⟨g, cap, cur, ht i _ hu h1, h2⟩
  · exact fun i ob b o hi hw => hs.mem.own _ _ b o (hE.h i ob hi).2.2 (hwr i ob b o hw)
  · exact fun i ob b hi hw => hs.mem.ownB _ _ b (hE.h i ob hi).2.2 (hat i ob b hw)
  · exact fun i j oi oj b hi hj h1 h2 => hE.inj i j oi oj hi hj (hs.mem.sep _ _ _ _ b (hE.h i oi hi).2.2 (hE.h j oj hj).2.2 (hat i oi b h1) (hat j oj b h2))
  · intro t v' ht
    obtain ⟨hbl, v, hv, hk⟩ := hE.s t v' ht
    obtain ⟨x, hx, hr⟩ := hs.slots t v hv
    exact ⟨x, hx, hV v' x hbl (hr.wk hk)⟩
  · rw [hs.nt, hE.n]

/-- whoever stands in the one state stands in the other -/
def SEnt (A : Amb) (σ σ' : AS) : Prop := ∀ ρ a w, Sat A ρ σ a w → ∃ ρ', Sat A ρ' σ' a w
theorem Ent.se {π : Nat → Nat} {σ σ' : AS} {A : Amb} (hE : Ent π A.nA σ σ') : SEnt A σ σ' := fun _ _ _ hs => hE.sat hs
theorem SEnt.trans {A : Amb} {σ σ' σ'' : AS} (h : SEnt A σ σ') (k : SEnt A σ' σ'') : SEnt A σ σ'' := fun ρ a w hs => by
  obtain ⟨ρ', hs'⟩ := h ρ a w hs
  exact k ρ' a w hs'

/- the rules -/
structure WP (P : Program) (A : Amb) (c : Code) (Q : Exit → AS → Prop) (σ : AS) : Prop where
  run : ∀ ρ a w, Sat A ρ σ a w → c.wp P (fun e a' w' => ∃ σ' ρ', Q e σ' ∧ Sat A ρ' σ' a' w') a w

section
variable {P : Program} {A : Amb} {Q : Exit → AS → Prop} {σ : AS}
theorem WP.mono {c : Code} {Q' : Exit → AS → Prop} (h : WP P A c Q' σ) (hq : ∀ e σ', Q' e σ' → Q e σ') : WP P A c Q σ :=
  ⟨fun ρ a w hs => wp_mono (h.run ρ a w hs) fun _ _ _ ⟨σ', ρ', q, s⟩ => ⟨σ', ρ', hq _ _ q, s⟩⟩
theorem WP.skip (h : Q .normal σ) : WP P A .skip Q σ := ⟨fun ρ _ _ hs => wp_skip ⟨σ, ρ, h, hs⟩⟩
theorem WP.label {l : Nat} (h : Q .normal σ) : WP P A (.label l) Q σ := ⟨fun ρ _ _ hs => wp_label ⟨σ, ρ, h, hs⟩⟩
theorem WP.exit {i : Nat} (h : Q (.exit i) σ) : WP P A (.exit i) Q σ := ⟨fun ρ _ _ hs => wp_exit ⟨σ, ρ, h, hs⟩⟩
theorem WP.goto {i : Nat} (h : Q (.goto i) σ) : WP P A (.goto i) Q σ := ⟨fun ρ _ _ hs => wp_goto ⟨σ, ρ, h, hs⟩⟩
theorem WP.ret (h : Q .ret σ) : WP P A .ret Q σ := ⟨fun ρ _ _ hs => wp_ret ⟨σ, ρ, h, hs⟩⟩
def thn (K : AS → Prop) (Q : Exit → AS → Prop) : Exit → AS → Prop
  | .normal, σ => K σ
  | e, σ => Q e σ
theorem WP.seq {x y : Code} (h : WP P A x (thn (WP P A y Q) Q) σ) : WP P A (.seq x y) Q σ := by
  constructor
  intro ρ a w hs
  refine wp_seq (wp_mono (h.run ρ a w hs) ?_)
  rintro e a' w' ⟨σ', ρ', q, s⟩
  cases e with
  | normal => exact WP.run q ρ' a' w' s
  | _ => exact ⟨σ', ρ', q, s⟩
/-- in the midst a state that tells less -/
theorem WP.from {c : Code} {σ' : AS} (hE : SEnt A σ σ') (h : WP P A c Q σ') : WP P A c Q σ := by
  constructor
  intro ρ a w hs
  obtain ⟨ρ', hs'⟩ := hE ρ a w hs
  exact h.run ρ' a w hs'
def inBlk (i : Nat) (Q : Exit → AS → Prop) : Exit → AS → Prop
  | .exit j, σ => bif Nat.beq j i then Q .normal σ else Q (.exit j) σ
  | e, σ => Q e σ
theorem WP.block {i : Nat} {c : Code} (h : WP P A c (inBlk i Q) σ) : WP P A (.block i c) Q σ := by
  constructor
  intro ρ a w hs
  refine wp_block (wp_mono (h.run ρ a w hs) ?_)
  rintro e a' w' ⟨σ', ρ', q, s⟩
  cases e with
  | exit j =>
    show if j = i then _ else _
    by_cases hj : j = i
    · subst hj
      rw [if_pos rfl]
      have q' : (bif Nat.beq j j then Q .normal σ' else Q (.exit j) σ') := q
      rw [Nat.beq_refl] at q'
      exact ⟨σ', ρ', q', s⟩
    · rw [if_neg hj]
      have q' : (bif Nat.beq j i then Q .normal σ' else Q (.exit j) σ') := q
      rw [show Nat.beq j i = false by rw [← Bool.not_eq_true, Nat.beq_eq]; exact hj] at q'
      exact ⟨σ', ρ', q', s⟩
  | _ => exact ⟨σ', ρ', q, s⟩
theorem Sat.ev {ρ : Env} {a : Act} {w : World} (hs : Sat A ρ σ a w) {x : Operand} {v : AV} (h : σ.ev x = some v) : VRel (Nh A σ.h ρ w) ρ w v (a.eval x) := by
  cases x with
  | tmp t =>
    obtain ⟨y, hy, hv⟩ := hs.slots t v h
    show VRel _ _ _ v (a.tmps.getD t undef)
    rw [Array.getD_eq_getD_getElem?, hy]
    exact hv
  | const c => cases h; exact .v _
  | global g => cases h; exact .v _
  | func f => cases h; exact .v _
theorem WP.cond {x : Operand} {c d : Code} {t : Bool} (hx : σ.ev x = some (.v (.bool t))) (h1 : t = true → WP P A c Q σ) (h2 : t = false → WP P A d Q σ) : WP P A (.cond x c d) Q σ := by
  constructor
  intro ρ a w hs
  have := hs.ev hx
  have hv : a.eval x = .bool t := by generalize a.eval x = y at this; cases this; rfl
  exact wp_cond_split hv (fun ht => (h1 ht).run ρ a w hs) (fun ht => (h2 ht).run ρ a w hs)
theorem WP.cond_true {x : Operand} {c d : Code} (hx : σ.ev x = some (.v (.bool true))) (h1 : WP P A c Q σ) : WP P A (.cond x c d) Q σ := WP.cond hx (fun _ => h1) (fun h => by cases h)
theorem WP.cond_false {x : Operand} {c d : Code} (hx : σ.ev x = some (.v (.bool false))) (h1 : WP P A d Q σ) : WP P A (.cond x c d) Q σ := WP.cond hx (fun h => by cases h) (fun _ => h1)
theorem WP.region {G : List (Nat × Array Value)} {id : Nat} {l : List Oper} {ds : List St} (hG : A.G = G) (h : Chain P G l.toArray (Q .normal) l ds σ) : WP P A (.region id l.toArray false) Q σ :=
  ⟨fun _ρ _ _ hs => wp_region_chain hG (K := Q .normal) (fun ρ' σ' _ _ q s => ⟨σ', ρ', q, s⟩) h hs⟩
theorem WP.drawn {G : List (Nat × Array Value)} {id : Nat} {l : List Oper} {ds : List St} (hm : P.follows .mixedOrders = true) (hG : A.G = G) (h : Chain P G l.toArray (Q .normal) l ds σ) (hc : (edgesOk 0 l && chk l ds) = true) :
    WP P A (.region id l.toArray true) Q σ :=
  ⟨fun _ρ _ _ hs => wp_region_drawn hm hG (K := Q .normal) (fun ρ' σ' _ _ q s => ⟨σ', ρ', q, s⟩) h hc hs⟩
/-- a loop: what holds at a round's head bears a number that each round lowers -/
def Back (A : Amb) (I : Nat → AS → Prop) (k : Nat) (σ : AS) : Prop := ∃ k' σ', k' < k ∧ SEnt A σ σ' ∧ I k' σ'
theorem WP.loop {c : Code} (I : Nat → AS → Prop) {σ0 : AS} (k0 : Nat) (hE : SEnt A σ σ0) (h0 : I k0 σ0) (round : ∀ k σ, I k σ → WP P A c (thn (Back A I k) Q) σ) : WP P A (.loop c) Q σ := by
  constructor
  intro ρ a w hs
  obtain ⟨ρ0, hs0⟩ := hE ρ a w hs
  refine wp_loop_ghost (fun k a w => ∃ σ ρ, I k σ ∧ Sat A ρ σ a w) k0 ⟨σ0, ρ0, h0, hs0⟩ ?_
  rintro k a w ⟨σ, ρ, hI, hs⟩
  refine wp_mono ((round k σ hI).run ρ a w hs) ?_
  rintro e a' w' ⟨σ', ρ', q, s⟩
  cases e with
  | normal =>
    obtain ⟨k', σ'', hk, hE', hI'⟩ := q
    obtain ⟨ρ'', hs''⟩ := hE' ρ' a' w' s
    exact ⟨k', hk, σ'', ρ'', hI', hs''⟩
  | _ => exact ⟨σ', ρ', q, s⟩
end
end Go.Proofs.YtmifllopcbjliaaDoor.E
end
section
/- What a function promises in abstract words; how it is shown; how a call uses it. -/
namespace Go.Proofs.YtmifllopcbjliaaDoor.E
open Go Go.RowKit Go.Proofs.YtmifllopcbjliaaDoor.V

/-- entries told by a list: the i-th is of name i -/
def hl (H : List (Option AO)) : Nat → Option AO := fun i => (H[i]?).join
theorem hl_some {H : List (Option AO)} {i : Nat} {ob : AO} (h : hl H i = some ob) : i < H.length ∧ H[i]? = some (some ob) := by
  unfold hl at h
  cases hh : H[i]? with
  | none => rw [hh] at h; cases h
  | some x =>
    rw [hh] at h
    cases x with
    | none => cases h
    | some y => cases h; exact ⟨(List.getElem?_eq_some_iff.1 hh).1, rfl⟩
def blt (m : Nat) : Nat → Bool := fun i => Nat.blt i m
theorem blt_iff {m i : Nat} : blt m i = true ↔ i < m := by unfold blt; rw [Nat.blt_eq]

def belH (u : Nat → Bool) : List (Option AO) → Prop
  | [] => True
  | none :: r => belH u r
  | some ob :: r => ob.bel u ∧ belH u r
theorem belH_get {u : Nat → Bool} : ∀ {H : List (Option AO)} {i : Nat} {ob : AO}, belH u H → H[i]? = some (some ob) → ob.bel u
  | none :: r, 0, ob, h, hi => by simp at hi
  | some ob' :: r, 0, ob, h, hi => by simp at hi; subst hi; exact h.1
  | none :: r, i + 1, ob, h, hi => belH_get (H := r) (i := i) h (by simpa using hi)
  | some ob' :: r, i + 1, ob, h, hi => belH_get (H := r) (i := i) h.2 (by simpa using hi)
  | [], i, ob, h, hi => by simp at hi

structure FC (P : Program) (G : List (Nat × Array Value)) (f : FuncId) (args : List AV) (H : List (Option AO)) (res : AV) (H' : List (Option AO)) : Prop where
  enter : ∃ fn c, P.funcs[f]? = some fn ∧ (fn.name == "runtime.NumGoroutine") = false ∧ fn.body = some c
  belA : AV.belL (blt H.length) args
  belH : belH (blt H.length) H
  len : H.length ≤ H'.length
  call : ∀ (A : Amb) (vs : Array Value), A.G = G → A.nA = H.length → HSat A A.ρ (hl H) (blt H.length) A.w → (∀ b, A.B b → ∃ i ob, hl H i = some ob ∧ ob.at_ A.ρ i b) → vs.size = args.length →
    (∀ (i : Nat) (c : AV) (x : Value), args[i]? = some c → vs[i]? = some x → VRel (Nh A (hl H) A.ρ A.w) A.ρ A.w c x) →
    Calls P f vs A.w fun e w' => ∃ v ρ', e = .returned v ∧ HSat A ρ' (hl H') (blt H'.length) w' ∧ VRel (Nh A (hl H') ρ' w') ρ' w' res v

def TsOk (σ : AS) : List (Nat × AV) → Prop
  | [] => True
  | (t, x) :: r => σ.s t = some x ∧ TsOk σ r
def RetV (rs : List Tmp) (res : AV) (σ' : AS) : Prop := match rs with | [t] => σ'.s t = some res | rs => ∃ vs, res = .tup vs ∧ vs.length = rs.length ∧ TsOk σ' (rs.zip vs)
/-- what a body must come to -/
def Ret (A : Amb) (rs : List Tmp) (res : AV) (H' : List (Option AO)) : Exit → AS → Prop
  | .ret, σ | .normal, σ => ∃ σ', SEnt A σ σ' ∧ σ'.h = hl H' ∧ σ'.u = blt H'.length ∧ RetV rs res σ'
  | _, _ => False

def start (n : Nat) (args : List AV) (H : List (Option AO)) : AS := ⟨n, fun t => args[t]?, hl H, blt H.length⟩

theorem run_results (P : Program) (fn : Func) (tmps : Array Value) (w : World) : ∀ (rs : List Tmp), fn.results = (rs.map ResultVar.tmp).toArray →
    (results fn tmps).run P w = .ok (match rs with | [t] => tmps.getD t undef | rs => .tuple (rs.map fun t => tmps.getD t undef).toArray) w := by
  intro rs hr
  have key : ∀ (F : ResultVar → Sem Value), (∀ t, F (.tmp t) = pure (tmps.getD t undef)) → ∀ rs : List Tmp, List.mapM (m := Sem) F (rs.map ResultVar.tmp) = pure (rs.map fun t => tmps.getD t undef) := by
    intro F hF rs
    induction rs with
    | nil => rfl
    | cons t rs ih => rw [List.map_cons, List.mapM_cons, ih, hF]; rfl
  unfold results
  rw [hr, List.mapM_toArray]
  rw [key _ (fun t => rfl)]
  match rs with
  | [] => rfl
  | [t] => rfl
  | t :: u :: r =>
    show Sem.run P (pure (if h : ((t :: u :: r).map fun t => tmps.getD t undef).toArray.size = 1 then _ else _)) w = _
    rw [dif_neg (by simp)]
    rfl

theorem TsOk.get {σ : AS} : ∀ {rs : List Tmp} {vs : List AV}, TsOk σ (rs.zip vs) → ∀ {i : Nat} {t : Tmp} {v : AV}, rs[i]? = some t → vs[i]? = some v → σ.s t = some v
  | t :: rs, v :: vs, h, 0, t', v', ht, hv => by simp at ht hv; subst ht; subst hv; exact h.1
  | t :: rs, v :: vs, h, i + 1, t', v', ht, hv => TsOk.get (rs := rs) (vs := vs) h.2 (i := i) (by simpa using ht) (by simpa using hv)
  | [], _, _, i, _, _, ht, _ => by simp at ht
  | _ :: _, [], _, i, _, _, _, hv => by simp at hv

theorem FC.of_wp {P : Program} {G : List (Nat × Array Value)} {f : FuncId} {fn : Func} {c : Code} {args : List AV} {H H' : List (Option AO)} {res : AV} (rs : List Tmp) (hf : P.funcs[f]? = some fn) (hname : (fn.name == "runtime.NumGoroutine") = false) (hb : fn.body = some c)
    (hn' : Nat.ble args.length fn.ntmps = true) (hr : fn.results = (rs.map ResultVar.tmp).toArray) (belA : AV.belL (blt H.length) args) (bH : E.belH (blt H.length) H) (len : H.length ≤ H'.length)
    (h : ∀ A : Amb, A.G = G → A.nA = H.length → (∀ b, A.B b → ∃ i ob, hl H i = some ob ∧ ob.at_ A.ρ i b) → WP P A c (Ret A rs res H') (start fn.ntmps args H)) : FC P G f args H res H' := by
  have hn : args.length ≤ fn.ntmps := Nat.le_of_ble_eq_true hn'
  refine ⟨⟨fn, c, hf, hname, hb⟩, belA, bH, len, ?_⟩
  intro A vs hG hnA HS hAB hsz hargs
  refine calls_of_wp hf hb ?_
  have hs : Sat A A.ρ (start fn.ntmps args H) { tmps := vs ++ Array.replicate (fn.ntmps - vs.size) undef, defers := [] } A.w := by
    refine ⟨HS, ?_, ?_, rfl⟩
    · intro t v ht
      have ht' : args[t]? = some v := ht
      have hlt := (List.getElem?_eq_some_iff.1 ht').1
      have hx : vs[t]? = some vs[t] := Array.getElem?_eq_getElem (by omega)
      refine ⟨vs[t], ?_, hargs t v _ ht' hx⟩
      rw [Array.getElem?_append_left (by omega)]
      exact hx
    · simp [start]; omega
  refine wp_mono ((h A hG hnA hAB).run A.ρ _ A.w hs) ?_
  rintro e a w' ⟨σ, ρ, hq, hs⟩
  have fin : (∃ σ', SEnt A σ σ' ∧ σ'.h = hl H' ∧ σ'.u = blt H'.length ∧ RetV rs res σ') →
      a.defers = [] ∧ ∃ v, (results fn a.tmps).run P w' = .ok v w' ∧ ∃ v' ρ', Ending.returned v = .returned v' ∧ HSat A ρ' (hl H') (blt H'.length) w' ∧ VRel (Nh A (hl H') ρ' w') ρ' w' res v' := by
    rintro ⟨σ', hE, h1, h2, h3⟩
    obtain ⟨ρ', hs'⟩ := hE ρ a w' hs
    refine ⟨hs.defers, _, run_results P fn a.tmps w' rs hr, _, ρ', rfl, ?_, ?_⟩
    · have := hs'.mem; rw [h1, h2] at this; exact this
    · match rs, h3 with
      | [t], h3 =>
        have := hs'.ev (x := .tmp t) h3
        rw [h1] at this
        exact this
      | [], h3 =>
        obtain ⟨vs, hres, hl, hsl⟩ := h3
        subst hres
        obtain rfl : vs = [] := List.eq_nil_of_length_eq_zero hl
        exact .tup [] _ rfl (fun i c x hc hx => by simp at hc)
      | t :: u :: r, h3 =>
        obtain ⟨vs, hres, hl, hsl⟩ := h3
        subst hres
        refine .tup vs _ (by simp [hl]) (fun i c x hc hx => ?_)
        have hlt : i < (t :: u :: r).length := by rw [← hl]; exact (List.getElem?_eq_some_iff.1 hc).1
        have hget : (t :: u :: r)[i]? = some ((t :: u :: r)[i]) := List.getElem?_eq_getElem hlt
        have := hs'.ev (x := .tmp _) (hsl.get hget hc)
        rw [h1] at this
        have hx' : x = a.eval (.tmp (t :: u :: r)[i]) := by
          rw [List.getElem?_toArray, List.getElem?_map, hget] at hx
          simp at hx
          rw [← hx]
          simp [Act.eval]
        rw [hx']
        exact this
  cases e with
  | ret => exact fin hq
  | normal => exact fin hq
  | _ => exact hq.elim

/- operands -/
theorem ev_ops {A : Amb} {ρ : Env} {σ : AS} {a : Act} {w : World} (hs : Sat A ρ σ a w) : ∀ {xs : List Operand} {ys : List AV}, SlOk σ (xs.zip ys) →
    ∀ (i : Nat) (x : Operand) (y : AV), xs[i]? = some x → ys[i]? = some y → VRel (Nh A σ.h ρ w) ρ w y (a.eval x)
  | x :: xs, y :: ys, h, 0, x', y', hx, hy => by simp at hx hy; subst hx; subst hy; exact hs.ev h.1
  | x :: xs, y :: ys, h, i + 1, x', y', hx, hy => ev_ops hs (xs := xs) (ys := ys) h.2 i x' y' (by simpa using hx) (by simpa using hy)
  | [], _, _, i, _, _, hx, _ => by simp at hx
  | _ :: _, [], _, i, _, _, _, hy => by simp at hy

/-- a value is laid into a slot, and memory is what it has become -/
theorem Sat.put {A : Amb} {ρ ρ' : Env} {σ : AS} {a : Act} {w w' : World} {e : Eff} (hs : Sat A ρ σ a w) {d : Option Tmp} (hd : ∀ t, d = some t → t < σ.n) {x : Value}
    (H : HSat A ρ' (σ.eff d e).h (σ.eff d e).u w') (hV : ∀ av y, VRel (Nh A σ.h ρ w) ρ w av y → VRel (Nh A (σ.eff d e).h ρ' w') ρ' w' av y)
    (hx : ∀ v, e.val = some v → VRel (Nh A (σ.eff d e).h ρ' w') ρ' w' v x) : Sat A ρ' (σ.eff d e) (a.put d x) w' := by
  refine ⟨H, ?_, ?_, ?_⟩
  · intro t v ht
    cases d with
    | none =>
      obtain ⟨y, hy, hv⟩ := hs.slots t v ht
      exact ⟨y, hy, hV _ _ hv⟩
    | some d =>
      rcases upd_eq_some (f := σ.s) ht with ⟨rfl, h⟩ | ⟨hne, h⟩
      · refine ⟨x, ?_, hx v h⟩
        have : t < a.tmps.size := by rw [hs.nt]; exact hd t rfl
        simp [Act.put, this]
      · obtain ⟨y, hy, hv⟩ := hs.slots t v h
        exact ⟨y, by simp only [Act.put]; rw [Array.getElem?_setIfInBounds_ne (Ne.symm hne)]; exact hy, hV _ _ hv⟩
  · cases d <;> simp [Act.put, AS.eff, hs.nt]
  · cases d <;> exact hs.defers

/-- an operation that leaves memory alone and comes to a value -/
theorem OpS.still {P : Program} {G : List (Nat × Array Value)} {o : Oper} {sl : List (Operand × AV)} {hp : List (Nat × AO)} {v : AV}
    (h : ∀ (A : Amb) (ρ : Env) (σ : AS) (a : Act) (w : World), A.G = G → SlOk σ sl → HpOk σ hp → Sat A ρ σ a w → ∃ x, (execOp a.eval o).run P w = .ok (.value x) w ∧ VRel (Nh A σ.h ρ w) ρ w v x) : OpS P G o sl hp ⟨some v, [], []⟩ := by
  constructor
  intro A ρ σ a w K Q hG h1 h2 _ hd hs hK
  obtain ⟨x, hr, hv⟩ := h A ρ σ a w hG h1 h2 hs
  unfold Oper.wp
  rw [hr]
  refine hK _ _ ρ (hs.put hd ?_ (fun _ _ h => h) (fun v' hv' => by cases hv'; exact hv))
  exact hs.mem

/- a call -/
def pi (old : List Nat) (base : Nat) : Nat → Nat := fun j => bif Nat.blt j old.length then old.getD j 0 else base + (j - old.length)
def hpl (π : Nat → Nat) : List Nat → List (Option AO) → List (Nat × AO)
  | o :: os, some ob :: H => (o, ob.ren π) :: hpl π os H
  | _ :: os, none :: H => hpl π os H
  | _, _ => []
theorem hpl_get {π : Nat → Nat} {σ : AS} : ∀ {old : List Nat} {H : List (Option AO)}, HpOk σ (hpl π old H) → old.length = H.length → ∀ {i : Nat} {ob : AO}, H[i]? = some (some ob) → σ.h (old.getD i 0) = some (ob.ren π)
  | o :: os, some ob' :: H, h, hl, 0, ob, hi => by simp at hi; subst hi; exact h.1
  | o :: os, some ob' :: H, h, hl, i + 1, ob, hi => hpl_get (old := os) (H := H) h.2 (by simpa using hl) (i := i) (by simpa using hi)
  | o :: os, none :: H, h, hl, 0, ob, hi => by simp at hi
  | o :: os, none :: H, h, hl, i + 1, ob, hi => hpl_get (old := os) (H := H) h (by simpa using hl) (i := i) (by simpa using hi)
  | _, [], _, _, i, ob, hi => by simp at hi
  | [], _ :: _, _, hl, i, ob, hi => by simp at hl
def WkL : List AV → List AV → Prop
  | y :: ys, z :: zs => y.wk z ∧ WkL ys zs
  | [], [] => True
  | _, _ => False
theorem WkL.get : ∀ {ys zs : List AV}, WkL ys zs → ∀ {i : Nat} {z : AV}, zs[i]? = some z → ∃ y, ys[i]? = some y ∧ y.wk z
  | y :: ys, z :: zs, h, 0, z', hz => by simp at hz; subst hz; exact ⟨y, rfl, h.1⟩
  | y :: ys, z :: zs, h, i + 1, z', hz => by obtain ⟨y', h1, h2⟩ := WkL.get h.2 (i := i) (by simpa using hz); exact ⟨y', by simpa using h1, h2⟩
  | [], [], _, i, z, hz => by simp at hz
  | [], _ :: _, h, _, _, _ => h.elim
  | _ :: _, [], h, _, _, _ => h.elim
theorem WkL.len : ∀ {ys zs : List AV}, WkL ys zs → ys.length = zs.length
  | y :: ys, z :: zs, h => by simp [WkL.len h.2]
  | [], [], _ => rfl
  | [], _ :: _, h => h.elim
  | _ :: _, [], h => h.elim
end Go.Proofs.YtmifllopcbjliaaDoor.E
end
