import Derived.Test.YtcojfnjpcpochaaDoorZbb7870ae
import Derived.RangeFuncFrom
import Derived.RangeFuncLeaves
import Derived.RangeFuncCalls
import Derived.OrdersIn
import Derived.TacticsIn
import Derived.StillTail
import Derived.Test.YtcojfnjpcpochaaDoorZ096d3a98
section
namespace Go.Proofs.YtcojfnjpcpochaaDoor.E
open Go Go.RowKit Go.Proofs.YtcojfnjpcpochaaDoor.V

inductive Wide : Fence → Prop
  | w : Wide Fence.wide
  | rd (l : Nat) : Wide (Fence.wide.inRound l)
theorem Wide.fn {F : Fence} (h : Wide F) (f : FuncId) : F.fn f := by cases h <;> trivial
theorem Wide.depth {F : Fence} (h : Wide F) : F.depth = none := by cases h <;> rfl
theorem Wide.calls {F : Fence} (hF : Wide F) {n : Nat} {P : Program} {f : FuncId} {args : Array Value} {w : World} {R : Ending → World → Prop} (h : Calls P f args w R) : CallsIn F n P f args w R := by
  cases hF with
  | w => exact callsIn_wide.2 h
  | rd l => exact CallsIn.inRound l (callsIn_wide.2 h)
theorem Wide.rows {F : Fence} (hF : Wide F) {n : Nat} {P : Program} {row : String} {args : Array Value} {w : World} {R : Value → World → Prop} (h : Rows P row args w R) : RowsIn F n P row args w R := by
  have h' : RowsIn Fence.wide n P row args w R := fun c cs _ => let ⟨v, w', r, s⟩ := h c cs; ⟨v, w', r, stepsIn_wide.2 s⟩
  cases hF with
  | w => exact h'
  | rd l => exact h'

theorem put_frame {a : Act} {d : Option Tmp} {v : Value} {t : Nat} (h : d ≠ some t) : (a.put d v).tmps[t]? = a.tmps[t]? := by
  cases d with
  | none => rfl
  | some d => exact Array.getElem?_setIfInBounds_ne (fun e => h (by rw [e]))

def bare (a : Act) : Act := { a with defers := [] }
theorem bare_put (a : Act) (d : Option Tmp) (v : Value) : bare (a.put d v) = (bare a).put d v := by cases d <;> rfl
theorem put_defers (a : Act) (d : Option Tmp) (v : Value) : (a.put d v).defers = a.defers := by cases d <;> rfl
theorem bare_of {a : Act} (h : a.defers = []) : bare a = a := by obtain ⟨t, d⟩ := a; cases h; rfl

theorem Oper.wpIn_of_wp {F : Fence} (hF : Wide F) {n : Nat} {P : Program} {o : Oper} {a a2 : Act} (he : a2.eval = a.eval) {w : World} {K K' : Act → World → Prop} {Q : Exit → Act → World → Prop} (hd : ∀ c, o.op ≠ .defer c)
    (h : o.wp P a w K (fun _ _ _ => False)) (hK : ∀ v w', K (a.put o.dst v) w' → K' (a2.put o.dst v) w') (hKd : ∀ d w', ¬ K (({ a with defers := d :: a.defers } : Act).put o.dst undef) w') : o.wpIn F n P a2 w K' Q := by
  unfold Oper.wp at h
  unfold Oper.wpIn
  rw [he]
  refine ⟨fun f _ => hF.fn f, ?_⟩
  rw [Oper.semAt_eq _ _ _ hd]
  generalize (execOp a.eval o).run P w = r at h ⊢
  have hdp : F.depth.isSome = true → 1 ≤ n := fun h => by rw [hF.depth] at h; cases h
  cases r with
  | ok x w' =>
    cases x with
    | value v => exact hK _ _ h
    | skip => exact hK _ _ h
    | defer d => exact (hKd _ _ h).elim
    | enter f args =>
      refine ⟨hdp, (hF.calls h).mono ?_⟩
      rintro e w'' he
      cases e with
      | returned v => exact hK _ _ he
      | panicked c => exact he.elim
      | outgrown => obtain ⟨_, _, hx⟩ := he; exact hx.elim
    | row r args => exact ⟨hdp, (hF.rows h).mono fun v w'' he => hK _ _ he⟩
    | _ => exact h.elim
  | halt x w' => cases x <;> exact h.elim

theorem Ok.wpOpIn {F : Fence} (hF : Wide F) {n : Nat} {P : Program} {G : List (Nat × Array Value)} {ops : Array Oper} {o : Oper} {d : St} {σ : AS} (h : Ok P G ops o d σ) {i : Nat} (hi : ops[i]? = some o) (hdf : ∀ c, o.op ≠ .defer c)
    {A : Amb} {ρ : Env} {a : Act} {w : World} (hG : A.G = G) (hs : Sat A ρ σ (bare a) w) {K : Act → World → Prop} {Q : Exit → Act → World → Prop}
    (hK : ∀ a' w' ρ', Sat A ρ' (σ.eff o.dst d.e) (bare a') w' → a'.defers = a.defers → (∀ t, o.dst ≠ some t → a'.tmps[t]? = a.tmps[t]?) → K a' w') : Go.wpOpIn F n P ops Q i K a w := by
  obtain ⟨h1, h2, h3⟩ := h
  have hw : Region.wanted o (yielded ops a.tmps) = d.w := wanted_gd (a := bare a) h1 hs
  unfold Go.wpOpIn
  simp only [hi]
  cases hd : d.w with
  | true =>
    rw [hw, hd, if_pos rfl]
    obtain ⟨k1, k2, k3, k4, k5⟩ := h2 hd
    refine Oper.wpIn_of_wp hF (a := bare a) (a2 := a) rfl hdf (k1.run A ρ σ (bare a) w (fun a' w' => ∃ ρ', Sat A ρ' (σ.eff o.dst d.e) a' w') _ hG k2 k3 k4 k5 hs (fun a' w' ρ' h => ⟨ρ', h⟩)) (fun v w' ⟨ρ', h⟩ => hK (a.put o.dst v) _ ρ' (by rw [bare_put]; exact h) (put_defers _ _ _) fun t ht => put_frame ht) ?_
    rintro dd w' ⟨ρ', h⟩
    have := h.defers
    cases hdst : o.dst <;> rw [hdst] at this <;> cases this
  | false =>
    rw [hw, hd, if_neg (by decide)]
    refine ⟨fun f _ => hF.fn f, hK (a.put o.dst undef) _ ρ ?_ (put_defers _ _ _) fun t ht => put_frame ht⟩
    rw [bare_put]
    rcases h3 hd with he | ⟨he, hlt⟩
    · rw [he]; exact put_undef hs _
    · rw [he]; exact put_undef2 hs _ hlt

def isDf (o : Oper) : Bool := match o.op with
  | .defer _ => true
  | _ => false
theorem isDf_no {o : Oper} (h : isDf o = false) : ∀ c, o.op ≠ .defer c := fun c e => by
  unfold isDf at h; rw [e] at h; cases h
def noDf (l : List Oper) : Bool := l.all fun o => !isDf o
theorem noDf_at {l : List Oper} (h : noDf l = true) {o : Oper} (ho : o ∈ l) : ∀ c, o.op ≠ .defer c :=
  isDf_no (by have := List.all_eq_true.1 h o ho; simpa using this)
def Frm (l : List Oper) (a a' : Act) : Prop := a'.defers = a.defers ∧ ∀ t, (∀ o ∈ l, o.dst ≠ some t) → a'.tmps[t]? = a.tmps[t]?

section
variable {F : Fence} {n : Nat} {P : Program} {G : List (Nat × Array Value)}
theorem wpOpsIn_chain (hF : Wide F) {l0 : List Oper} (hdf : noDf l0 = true) {K : AS → Prop} {Q : Exit → Act → World → Prop} {A : Amb} (hG : A.G = G) {a0 : Act} (hQ : ∀ ρ σ a w, K σ → Sat A ρ σ (bare a) w → Frm l0 a0 a → Q .normal a w) :
    ∀ (l : List Oper) (ds : List St) (k : Nat) (σ : AS) (ρ : Env) (a : Act) (w : World), (∀ j, l[j]? = l0.toArray[k + j]?) → Chain P G l0.toArray K l ds σ → Sat A ρ σ (bare a) w → Frm l0 a0 a → wpOpsIn F n P l0.toArray Q ((List.range l.length).map (k + ·)) a w
  | [], [], k, σ, ρ, a, w, _, hc, hs, hf => hQ ρ σ a w hc hs hf
  | o :: l, d :: ds, k, σ, ρ, a, w, hl, hc, hs, hf => by
    have h0 : l0.toArray[k]? = some o := by simpa using (hl 0).symm
    have hm : o ∈ l0 := List.mem_of_getElem? (i := k) (by simpa using h0)
    rw [List.length_cons, List.range_succ_eq_map, List.map_cons, List.map_map, wpOpsIn_cons]
    refine hc.1.wpOpIn hF (by simpa using h0) (noDf_at hdf hm) hG hs fun a' w' ρ' hs' hdd hfr => ?_
    have := wpOpsIn_chain hF hdf hG hQ l ds (k + 1) _ ρ' a' w' (fun j => by have := hl (j + 1); simpa [Nat.add_assoc, Nat.add_comm 1 j] using this) hc.2 hs' ⟨hdd.trans hf.1, fun t ht => (hfr t (ht o hm)).trans (hf.2 t ht)⟩
    have he : (fun x => k + x) ∘ Nat.succ = fun x => k + 1 + x := by funext x; simp; omega
    rw [he]
    exact this
  | [], _ :: _, _, _, _, _, _, _, hc, _, _ => hc.elim
  | _ :: _, [], _, _, _, _, _, _, hc, _, _ => hc.elim
theorem wpIn_rg (hF : Wide F) {l : List Oper} (hdf : noDf l = true) {K : AS → Prop} {Q : Exit → Act → World → Prop} {A : Amb} (hG : A.G = G) {id : Nat} {σ : AS} {ρ : Env} {a : Act} {w : World} (hc : Ch P G l false K [] l σ) (hs : Sat A ρ σ (bare a) w)
    (hQ : ∀ ρ σ a' w', K σ → Sat A ρ σ (bare a') w' → Frm l a a' → Q .normal a' w') : (Code.region id l.toArray false).wpIn F n P Q a w := by
  obtain ⟨ds, h1, -⟩ := hc.e
  refine wpIn_region ?_
  have := wpOpsIn_chain (n := n) hF hdf hG hQ l ds 0 σ ρ a w (fun j => by simp) h1 hs ⟨rfl, fun _ _ => rfl⟩
  have he : (fun x => 0 + x) = (fun x : Nat => x) := by funext x; omega
  rw [he, List.map_id'] at this
  simpa using this

theorem left_set' {listed : Array Bool} {n i : Nat} (hn : n ≤ listed.size) (hi : i ∈ left listed n) : ∃ pre post, left listed n = pre ++ i :: post ∧ left (listed.setIfInBounds i true) n = pre ++ post ∧ ∀ j ∈ pre, j < i := by
  have hin : i < n := by simpa using (List.mem_filter.1 hi).1
  obtain ⟨pre, post, he⟩ := List.append_of_mem hi
  have hsorted : (left listed n).Pairwise (· < ·) := (List.pairwise_lt_range (n := n)).filter _
  rw [he] at hsorted
  have h1 := List.pairwise_append.1 hsorted
  have hpre : ∀ j ∈ pre, j < i := fun j hj => h1.2.2 j hj i (by simp)
  have hpost : ∀ j ∈ post, i < j := fun j hj => (List.pairwise_cons.1 h1.2.1).1 j hj
  refine ⟨pre, post, he, ?_, hpre⟩
  have hf : left (listed.setIfInBounds i true) n = (left listed n).filter (fun j => j != i) := by
    unfold left
    rw [List.filter_filter]
    refine List.filter_congr fun j hj => ?_
    have hjn : j < n := by simpa using hj
    by_cases hji : j = i
    · subst hji
      have : j < listed.size := by omega
      simp [Array.getD_eq_getD_getElem?, this]
    · rw [getD_set_ne false (Ne.symm hji)]
      simp [hji]
  rw [hf, he, List.filter_append, List.filter_cons]
  simp only [bne_self_eq_false, Bool.false_eq_true, if_false]
  rw [List.filter_eq_self.2 (fun j hj => by have := hpre j hj; simp; omega), List.filter_eq_self.2 (fun j hj => by have := hpost j hj; simp; omega)]

theorem anc_listed {l : List Oper} {listed : Array Bool} (hn : listed.size = l.length) (hcl : ∀ (j : Nat) (o : Oper), listed.getD j false = true → l[j]? = some o → ∀ e ∈ o.after, Region.binds .any e = true → listed.getD e.on false = true) :
    ∀ j k, Anc l.toArray j k → ∀ ok, l[k]? = some ok → (∀ e ∈ ok.after, Region.binds .any e = true → listed.getD e.on false = true) → listed.getD j false = true := by
  intro j k ha
  induction ha with
  | one h he hb hi' =>
    intro ok hok hall
    rw [List.getElem?_toArray, hok] at h
    cases h
    rw [← hi']
    exact hall _ he hb
  | more h he hb hi' ha ih' =>
    intro ok hok hall
    rw [List.getElem?_toArray, hok] at h
    cases h
    have hk := hall _ he hb
    rw [hi'] at hk
    refine (fun (k' : Nat) (hk : listed.getD k' false = true) (ih' : ∀ ok, l[k']? = some ok → (∀ e ∈ ok.after, Region.binds .any e = true → listed.getD e.on false = true) → listed.getD j false = true) => ?_) _ hk ih'
    cases hk2 : l[k']? with
    | none =>
      have : ¬ k' < l.length := by simpa using hk2
      rw [Array.getD_eq_getD_getElem?, Array.getElem?_eq_none (by omega)] at hk
      cases hk
    | some ok2 => exact ih' ok2 hk2 (fun e2 he2 hb2 => hcl k' ok2 hk hk2 e2 he2 hb2)

theorem getD_false_of {listed : Array Bool} {i : Nat} (h : i < listed.size) {b : Bool} (hb : (!listed.getD i b) = true) : listed.getD i false = false := by
  simp only [Array.getD_eq_getD_getElem?, Array.getElem?_eq_getElem h, Option.getD_some] at hb ⊢
  simpa using hb

theorem chainI_of' {L : List Oper} {K : AS → Prop} {D : Nat → St} : ∀ (r : List Oper) (ds : List St) (k : Nat) (σ : AS), (∀ j, j < r.length → r[j]? = L[k + j]?) → (∀ j d, ds[j]? = some d → D (k + j) = d) →
    Chain P G L.toArray K r ds σ → ChainI P G L.toArray D K ((List.range r.length).map (k + ·)) σ
  | [], [], k, σ, _, _, h => h
  | o :: r, d :: ds, k, σ, hl, hd, h => by
    have h0 : L[k]? = some o := by simpa using (hl 0 (by simp)).symm
    have hD : D k = d := by simpa using hd 0 d rfl
    rw [List.length_cons, List.range_succ_eq_map, List.map_cons, List.map_map]
    refine ⟨o, by simpa using h0, by simpa [hD] using h.1, ?_⟩
    have := chainI_of' r ds (k + 1) _ (fun j hj => by have := hl (j + 1) (by simp; omega); simpa [Nat.add_assoc, Nat.add_comm 1 j] using this) (fun j d hj => by have := hd (j + 1) d (by simpa using hj); rw [← this]; congr 1; omega) h.2
    have he : (fun x => k + x) ∘ Nat.succ = fun x => k + 1 + x := by funext x; simp; omega
    rw [he]
    simpa [hD] using this
  | [], _ :: _, _, _, _, _, h => h.elim
  | _ :: _, [], _, _, _, _, h => h.elim

theorem any_of_leftT (hF : Wide F) {l : List Oper} (hdf : noDf l = true) {D : Nat → St} {K : AS → Prop} {Q : Exit → Act → World → Prop} {A : Amb} (hG : A.G = G) (m : Nat) (hm : m ≤ l.length) {a0 : Act}
    (hH : ∀ listed ρ σ a w, listed.size = l.length → (∀ j, j < m → listed.getD j false = true) → (∀ j, m ≤ j → listed.getD j false = false) → K σ → Sat A ρ σ (bare a) w → Frm l a0 a → wpAnyIn F n P .any l.toArray Q (l.length - m) listed a w)
    (hed : ∀ (i : Nat) (o : Oper), l[i]? = some o → ∀ e ∈ o.after, Region.binds .any e = true → e.on < i)
    (hchk : ∀ (j i : Nat) (oj oi : Oper), j < i → i < m → l[j]? = some oj → l[i]? = some oi → Anc l.toArray j i ∨ Apart l.toArray oj (D j) oi (D i))
    (htl : ∀ i j, m ≤ i → i < l.length → j < m → Anc l.toArray j i) :
    ∀ (fuel : Nat) (listed : Array Bool) (σ : AS) (ρ : Env) (a : Act) (w : World), listed.size = l.length →
      (∀ (j : Nat) (o : Oper), listed.getD j false = true → l[j]? = some o → ∀ e ∈ o.after, Region.binds .any e = true → listed.getD e.on false = true) → (∀ j, m ≤ j → listed.getD j false = false) →
      ChainI P G l.toArray D K (left listed m) σ → fuel = (left listed m).length + (l.length - m) → Sat A ρ σ (bare a) w → Frm l a0 a → wpAnyIn F n P .any l.toArray Q fuel listed a w := by
  intro fuel
  induction fuel with
  | zero =>
    intro listed σ ρ a w hn hcl hto hch hf hs hfr
    have hnil : left listed m = [] := List.eq_nil_of_length_eq_zero (by omega)
    rw [hnil] at hch
    have := hH listed ρ σ a w hn (fun j hj => by
      cases hc : listed.getD j false with
      | true => rfl
      | false =>
        have : j ∈ left listed m := List.mem_filter.2 ⟨by simpa using hj, by simp [hc]⟩
        rw [hnil] at this
        cases this) hto hch hs hfr
    rw [show l.length - m = 0 by omega] at this
    exact this
  | succ fuel ih =>
    intro listed σ ρ a w hn hcl hto hch hf hs hfr
    cases hleft : left listed m with
    | nil =>
      rw [hleft] at hch hf
      have := hH listed ρ σ a w hn (fun j hj => by
        cases hc : listed.getD j false with
        | true => rfl
        | false =>
          have : j ∈ left listed m := List.mem_filter.2 ⟨by simpa using hj, by simp [hc]⟩
          rw [hleft] at this
          cases this) hto hch hs hfr
      rw [hf]
      simpa using this
    | cons i0 rest =>
      have hi0 : i0 ∈ left listed m := by rw [hleft]; simp
      have hi0' := List.mem_filter.1 hi0
      have hi0m : i0 < m := by simpa using hi0'.1
      have hi0f : listed.getD i0 false = false := by simpa using hi0'.2
      have hready : ∀ i, i ∈ Region.ready .any l.toArray listed → i ∈ left listed m ∧ ∃ o, l[i]? = some o ∧ ∀ e ∈ o.after, Region.binds .any e = true → listed.getD e.on false = true := by
        intro i hi
        obtain ⟨h1, h2⟩ := List.mem_filter.1 hi
        simp only [Bool.and_eq_true] at h2
        have hil : i < l.length := by simpa using h1
        have hlt : i < listed.size := by rw [hn]; exact hil
        have hall : ∀ e ∈ l[i].after, Region.binds .any e = true → listed.getD e.on false = true := by
          have h3 := h2.2
          simp only [List.getElem?_toArray, List.getElem?_eq_getElem hil, Option.map_some, Option.getD_some, Array.all_eq_true'] at h3
          intro e he hb
          have := h3 e he
          simpa [hb] using this
        have hfi : listed.getD i false = false := getD_false_of hlt h2.1
        by_cases him : i < m
        · exact ⟨List.mem_filter.2 ⟨by simpa using him, by simp [hfi]⟩, l[i], by simp [hil], hall⟩
        · have := anc_listed hn hcl i0 i (htl i i0 (by omega) hil hi0m) l[i] (by simp [hil]) hall
          rw [hi0f] at this
          cases this
      refine ⟨fun hr => ?_, fun i hi => ?_⟩
      · exfalso
        rw [hleft] at hch
        obtain ⟨o, ho, -⟩ := hch
        have hlt : i0 < l.length := by omega
        by_cases hall : ∀ e ∈ o.after, Region.binds .any e = true → listed.getD e.on false = true
        · have : i0 ∈ Region.ready .any l.toArray listed := by
            refine List.mem_filter.2 ⟨by simpa using hlt, ?_⟩
            have hlt' : i0 < listed.size := by rw [hn]; exact hlt
            have h3 := hi0f
            simp only [Array.getD_eq_getD_getElem?, Array.getElem?_eq_getElem hlt', Option.getD_some] at h3
            simp only [Bool.and_eq_true, Array.getD_eq_getD_getElem?, Array.getElem?_eq_getElem hlt', Option.getD_some]
            refine ⟨by simp [h3], ?_⟩
            simp only [ho, Option.map_some, Option.getD_some, Array.all_eq_true']
            intro e he
            cases hb : Region.binds .any e with
            | false => rfl
            | true =>
              have := hall e he hb
              simp only [Array.getD_eq_getD_getElem?] at this
              simpa using this
          rw [hr] at this
          cases this
        · refine hall fun e he hb => ?_
          have hlt2 := hed i0 o (by simpa using ho) e he hb
          cases hc : listed.getD e.on false with
          | true => rfl
          | false =>
            have hme : e.on ∈ left listed m := List.mem_filter.2 ⟨by simp; omega, by simp [hc]⟩
            have hsorted : (left listed m).Pairwise (· < ·) := (List.pairwise_lt_range (n := m)).filter _
            rw [hleft] at hme hsorted
            rcases List.mem_cons.1 hme with h | h
            · omega
            · have := (List.pairwise_cons.1 hsorted).1 _ h
              omega
      · obtain ⟨hil, o, ho, hpre⟩ := hready i hi
        have him : i < m := by simpa using (List.mem_filter.1 hil).1
        obtain ⟨pre, post, h1, h2, h3⟩ := left_set' (by omega) hil
        have hoi : l.toArray[i]? = some o := by simpa using ho
        have hmo : o ∈ l := List.mem_of_getElem? ho
        rw [h1] at hch
        obtain ⟨k1, k2⟩ := ChainI.front hoi (fun j hj oj hoj => by
          have hj' : j ∈ left listed m := by rw [h1]; simp [hj]
          rcases hchk j i oj o (h3 j hj) him (by simpa using hoj) ho with ha | ha
          · have := anc_listed hn hcl j i ha o ho hpre
            have hjf := (List.mem_filter.1 hj').2
            rw [this] at hjf
            cases hjf
          · exact ha) hch
        refine k1.wpOpIn hF hoi (noDf_at hdf hmo) hG hs fun a' w' ρ' hs' hdd hfr' => ?_
        refine ih (listed.setIfInBounds i true) _ ρ' a' w' (by simpa using hn) ?_ (fun j hj => by rw [getD_set_ne false (by omega)]; exact hto j hj) (by rw [h2]; exact k2) ?_ hs' ⟨hdd.trans hfr.1, fun t ht => (hfr' t (ht o hmo)).trans (hfr.2 t ht)⟩
        · intro j oj hj hoj e he hb
          by_cases hji : j = i
          · subst hji
            rw [ho] at hoj
            cases hoj
            exact getD_set_true (hpre e he hb)
          · rw [getD_set_ne false (Ne.symm hji)] at hj
            exact getD_set_true (hcl j oj hj hoj e he hb)
        · rw [h2]
          rw [h1] at hf
          simp only [List.length_append, List.length_cons] at hf ⊢
          omega

theorem wpAnyIn_seq {md : Region.Mode} {ops : Array Oper} {Q : Exit → Act → World → Prop} : ∀ (l : List Oper) (k : Nat) (listed : Array Bool) (a : Act) (w : World), (∀ j, l[j]? = ops[k + j]?) →
    Region.seqB md ops l.length k listed = true → wpListIn F n P ops Q l a w → wpAnyIn F n P md ops Q l.length listed a w
  | [], _, _, _, _, _, hB, h => ⟨by simpa [Region.seqB] using hB, h⟩
  | o :: l, k, listed, a, w, hl, hB, h => by
    have h0 : ops[k]? = some o := by simpa using (hl 0).symm
    simp only [List.length_cons, Region.seqB, Bool.and_eq_true, decide_eq_true_eq] at hB
    refine ⟨fun h1 => (by rw [hB.1] at h1; cases h1), fun i hi => ?_⟩
    rw [hB.1] at hi
    have hik : i = k := by simpa using hi
    subst hik
    have hw : wpOpIn F n P ops Q i (wpListIn F n P ops Q l) a w := by unfold wpOpIn; simp only [h0]; exact h
    exact wpOpIn_mono (fun a' w' h' => wpAnyIn_seq l (i + 1) _ a' w' (fun j => by have := hl (j + 1); simpa [Nat.add_assoc, Nat.add_comm 1 j] using this) hB.2 h') hw

def anAll (m : Nat) (an : Nat) : Bool := (List.range m).all fun j => an.testBit j
def tailOk (l : List Oper) (m : Nat) : Bool := decide (m ≤ l.length) && ((List.range l.length).all fun i => decide (i < m) || anAll m ((ancs l).getD i 0)) && Region.seqB .any l.toArray (l.length - m) m ((List.range l.length).map fun j => decide (j < m)).toArray
theorem wpIn_rgT (hF : Wide F) {l : List Oper} (m : Nat) (hm : P.follows .mixedOrders = true) (hdf : noDf l = true) (htl : tailOk l m = true) {K : AS → Prop} {Q : Exit → Act → World → Prop} {A : Amb} (hG : A.G = G) {id : Nat} {σ : AS} {ρ : Env} {a : Act} {w : World}
    (hc : Ch P G l true K [] (l.take m) σ) (hs : Sat A ρ σ (bare a) w)
    (hQ : ∀ ρ σ a' w', K σ → Sat A ρ σ (bare a') w' → Frm l a a' → wpListIn F n P l.toArray Q (l.drop m) a' w') : (Code.region id l.toArray true).wpIn F n P Q a w := by
  obtain ⟨ds, hch, hck⟩ := hc.e
  have hchk := hck rfl
  simp only [List.reverse_nil, List.nil_append, Bool.and_eq_true] at hchk
  simp only [tailOk, Bool.and_eq_true, decide_eq_true_eq, List.all_eq_true, Bool.or_eq_true] at htl
  obtain ⟨⟨hml, htl⟩, hseq⟩ := htl
  refine wpIn_region_any hm ?_
  have hs' : Sat A ρ σ (bare a) { w with drawn := w.drawn + 1 } := by
    obtain ⟨h1, h2⟩ := hs.mem.same (w' := { w with drawn := w.drawn + 1 }) rfl rfl rfl rfl
    exact ⟨h1, fun t v ht => by obtain ⟨x, hx, hv⟩ := hs.slots t v ht; exact ⟨x, hx, h2 _ _ hv⟩, hs.nt, hs.defers⟩
  have hlen := chain_len hch
  have htk : (l.take m).length = m := by simp; omega
  have hleft : left (Array.replicate l.length false) m = List.range m := by
    unfold left
    rw [List.filter_eq_self]
    intro j hj
    have : j < m := by simpa using hj
    have : j < l.length := by omega
    simp [Array.getD_eq_getD_getElem?, this]
  have hchI : ChainI P G l.toArray (fun j => ds.getD j ⟨true, [], [], ⟨none, [], []⟩⟩) K (List.range m) σ := by
    have := chainI_of' (P := P) (G := G) (K := K) (L := l) (D := fun j => ds.getD j ⟨true, [], [], ⟨none, [], []⟩⟩) (l.take m) ds 0 σ (fun j hj => by rw [List.getElem?_take_of_lt (by omega)]; simp) (fun j d hj => by simp [List.getD_eq_getElem?_getD, hj]) hch
    have he : (fun x => 0 + x) = (fun x : Nat => x) := by funext x; omega
    rw [he, List.map_id', htk] at this
    exact this
  have hsz : l.toArray.size = l.length := by simp
  rw [hsz]
  refine any_of_leftT (D := fun j => ds.getD j ⟨true, [], [], ⟨none, [], []⟩⟩) hF hdf hG m hml (a0 := a) ?_ (fun i o ho e he hb => by simpa using edgesOk_spec hchk.1 i o ho e he hb) ?_ ?_ l.length (Array.replicate l.length false) σ ρ a _ (by simp) ?_ ?_ (by rw [hleft]; exact hchI)
    (by rw [hleft, List.length_range]; omega) hs' ⟨rfl, fun _ _ => rfl⟩
  · intro listed ρ' σ' a' w' h1 h2 h3 hk hs2 hfr
    have hl : listed = ((List.range l.length).map fun j => decide (j < m)).toArray := by
      refine Array.ext (by simp [h1]) fun i hi hi' => ?_
      have e1 : listed[i] = listed.getD i false := by simp [Array.getD_eq_getD_getElem?, hi]
      rw [e1]
      by_cases him : i < m
      · rw [h2 i him]; simp [him]
      · rw [h3 i (by omega)]; simp [him]
    have := wpAnyIn_seq (F := F) (n := n) (P := P) (md := .any) (Q := Q) (l.drop m) m listed a' w' (fun j => by simp [List.getElem?_drop]) (by rw [List.length_drop, hl]; exact hseq) (hQ ρ' σ' a' w' hk hs2 hfr)
    rwa [List.length_drop] at this
  · intro j i oj oi hji him hj hi
    have hdj : ds[j]? = some (ds.getD j ⟨true, [], [], ⟨none, [], []⟩⟩) := by
      have : j < ds.length := by omega
      simp [List.getD_eq_getElem?_getD, List.getElem?_eq_getElem this]
    have hdi : ds[i]? = some (ds.getD i ⟨true, [], [], ⟨none, [], []⟩⟩) := by
      have : i < ds.length := by omega
      simp [List.getD_eq_getElem?_getD, List.getElem?_eq_getElem this]
    rcases chkGo_spec hchk.2 (ancs_len l) i oi _ hi hdi j oj _ (by omega) hj hdj with h | h
    · exact .inl (ancs_spec h)
    · exact .inr (apart_of_conf h)
  · intro i j hi hil hj
    rcases htl i (by simpa using hil) with h | h
    · have : i < m := by simpa using h
      omega
    · exact ancs_spec (List.all_eq_true.1 h j (by simpa using hj))
  · intro j o hj
    by_cases hjl : j < l.length
    · simp [Array.getD_eq_getD_getElem?, hjl] at hj
    · simp [Array.getD_eq_getD_getElem?, hjl] at hj
  · intro j _
    by_cases hjl : j < l.length <;> simp [Array.getD_eq_getD_getElem?, hjl]
end
end Go.Proofs.YtcojfnjpcpochaaDoor.E
end
section
namespace Go.Proofs.YtcojfnjpcpochaaDoor.E
open Go Go.RowKit Go.Proofs.YtcojfnjpcpochaaDoor.V

def Amb.now (A : Amb) (h : Nat → Option AO) (ρ : Env) (w : World) : Amb :=
  ⟨w, Nh A h ρ w, fun b o => ∃ i ob, h i = some ob ∧ ob.wr ρ i b o, fun b => ∃ i ob, h i = some ob ∧ ob.at_ ρ i b, A.nA, A.G, A.ρ⟩

section
variable {A : Amb} {ρ ρ' : Env} {h h' : Nat → Option AO} {u u' : Nat → Bool} {w w' : World}
theorem Nh.now {b o : Nat} (H : Nh A h ρ w b o) : Nh (A.now h ρ w) h ρ w b o := ⟨H.1, .inl H, H.2.2⟩
theorem HSat.now (H : HSat A ρ h u w) : HSat (A.now h ρ w) ρ h u w := by
  refine ⟨rfl, rfl, rfl, Nat.le_refl _, fun _ _ _ => rfl, fun _ _ _ => rfl, fun b o hn => hn.1, ?_, ?_, ?_, H.domB, H.domT, H.fix, H.usedB, H.usedT, ?_, fun i ob b o hi hw => .inl ⟨i, ob, hi, hw⟩, fun i ob b hi hw => .inl ⟨i, ob, hi, hw⟩, H.sep⟩
  · rintro b o hn ⟨i, ob, hi, hw⟩
    exact hn.2.2 i ob hi hw
  · rintro b o ⟨i, ob, hi, hw⟩
    exact ⟨i, ob, hi, AO.at_of_wr hw⟩
  · intro x hx
    obtain ⟨⟨T, h1⟩, h2⟩ := H.tabs x hx
    have hlt := (Array.getElem?_eq_some_iff.1 h1).1
    refine ⟨⟨T, (H.block _ hlt h2).trans h1⟩, ?_⟩
    rintro ⟨i, ob, hi, hw⟩
    rcases H.ownB i ob _ hi hw with hb | hb
    · exact h2 hb
    · omega
  · intro i ob hi
    exact (H.heap i ob hi).keep (Env.le_refl _) (fun av x hx => hx.mono (fun b o hn => hn.now) (Env.le_refl _) (fun _ _ _ => rfl)) (fun _ _ => rfl)
theorem Nh.back (H : HSat A ρ h u w) {b o : Nat} (hn : Nh (A.now h ρ w) h' ρ' w' b o) : Nh A h' ρ' w' b o := by
  refine ⟨hn.1, ?_, hn.2.2⟩
  rcases hn.2.1 with hx | ⟨i, ob, hi, hw⟩ | hx
  · exact hx.2.1
  · exact .inr (H.own i ob b o hi hw)
  · exact .inr (.inr (Nat.le_trans H.size hx))
theorem HSat.back (H : HSat A ρ h u w) (H' : HSat (A.now h ρ w) ρ' h' u' w') : HSat A ρ' h' u' w' := by
  refine ⟨H'.os.trans H.os, H'.tape.trans H.tape, H'.output.trans H.output, Nat.le_trans H.size H'.size, ?_, ?_, H.nlt, H.nw, H.wb, H.tabs, H.domB, H.domT, H'.fix, H'.usedB, H'.usedT, ?_, ?_, ?_, H'.sep⟩
  · intro b hb hB
    refine (H'.block b (Nat.lt_of_lt_of_le hb H.size) ?_).trans (H.block b hb hB)
    rintro ⟨i, ob, hi, hw⟩
    exact (H.ownB i ob b hi hw).elim hB (fun hle => by omega)
  · intro b o hn
    refine (H'.keep b o ⟨Nat.lt_of_lt_of_le (H.nlt b o hn) H.size, .inl hn, fun i ob hi hw => ?_⟩).trans (H.keep b o hn)
    exact (H.own i ob b o hi hw).elim (H.nw b o hn) (fun hle => by have := H.nlt b o hn; omega)
  · intro i ob hi
    exact (H'.heap i ob hi).keep (Env.le_refl _) (fun av x hx => hx.mono (fun b o hn => hn.back H) (Env.le_refl _) (fun _ _ _ => rfl)) (fun _ _ => rfl)
  · intro i ob b o hi hw
    rcases H'.own i ob b o hi hw with ⟨j, oj, hj, hwj⟩ | hle
    · exact H.own j oj b o hj hwj
    · exact .inr (Nat.le_trans H.size hle)
  · intro i ob b hi hw
    rcases H'.ownB i ob b hi hw with ⟨j, oj, hj, hwj⟩ | hle
    · exact H.ownB j oj b hj hwj
    · exact .inr (Nat.le_trans H.size hle)
theorem Nh.on (H' : HSat (A.now h ρ w) ρ' h' u' w') {b o : Nat} (hn : Nh A h ρ w b o) : Nh A h' ρ' w' b o := by
  refine ⟨Nat.lt_of_lt_of_le hn.1 H'.size, hn.2.1, fun i ob hi hw => ?_⟩
  rcases H'.own i ob b o hi hw with ⟨j, oj, hj, hwj⟩ | hle
  · exact hn.2.2 j oj hj hwj
  · have h1 : w.heap.size ≤ b := hle
    have h2 := hn.1
    omega

theorem VRel.mono2 {N N' : Nat → Nat → Prop} (hN : ∀ b o x, N b o → w.cell? ⟨b, o, none⟩ = some x → N' b o) (hρ : ρ.le ρ') (hw : ∀ b o x, N b o → w.cell? ⟨b, o, none⟩ = some x → w'.cell? ⟨b, o, none⟩ = some x)
    {av : AV} {x : Value} (h : VRel N ρ w av x) : VRel N' ρ' w' av x := by
  induction h with
  | v x => exact .v x
  | agg cs vs hs _ ih => exact .agg cs vs hs ih
  | tup cs vs hs _ ih => exact .tup cs vs hs ih
  | sl o n cs a cap vals hc _ ho hn hz hm ih =>
    exact .sl o n cs a cap vals (fun i hi => by obtain ⟨h1, b, off, ha, hx, hnn⟩ := hc i hi; exact ⟨h1, b, off, ha, hw _ _ _ hnn hx, hN _ _ _ hnn hx⟩) ih (fun k hk => hρ.2 _ _ (ho k hk)) hn hz hm
  | arr id off n cap b hb hn hm => exact .arr id off n cap b (hρ.1 _ _ hb) hn hm
  | ptr id off b hb => exact .ptr id off b (hρ.1 _ _ hb)
  | sptr cs b off vals hc _ ih => exact .sptr cs b off vals (fun i hi => ⟨hw _ _ _ (hc i hi).2 (hc i hi).1, hN _ _ _ (hc i hi).2 (hc i hi).1⟩) ih
  | fn f fs cs vs us hs _ hs' _ ih ih' => exact .fn f fs cs vs us hs ih hs' ih'
theorem ORel.cells {N : Nat → Nat → Prop} {i b : Nat} {ob : AO} (H : ORel N ρ w i ob) (hb : ob.at_ ρ i b) : ∃ o : Obj, w.heap[b]? = some o ∧ o.isCells = true := by
  cases ob with
  | cells T cs =>
    obtain ⟨b', arr, h1, ⟨fz, hmk, h2⟩, -⟩ := H
    have hb' : ρ.blk i = some b := hb
    rw [h1] at hb'
    cases hb'
    exact ⟨_, h2, rfl⟩
  | tip E sz n =>
    obtain ⟨cap, hb⟩ := hb
    rcases H with ⟨h1, -⟩ | ⟨g, cap', cur, h1, h2, -⟩
    · rw [h1] at hb; cases hb
    · rw [h1] at hb
      cases hb
      exact ⟨_, h2, rfl⟩
theorem HSat.grown (H : HSat A ρ h u w) {row : Option Nat} (hg : w.grownBy w' row) (hr : ∀ r, row = some r → A.w.heap.size ≤ r ∧ ∃ o : Obj, w.heap[r]? = some o ∧ o.isCells = false) :
    HSat A ρ h u w' ∧ (∀ av x, VRel (Nh A h ρ w) ρ w av x → VRel (Nh A h ρ w') ρ w' av x) ∧ ∀ b o, Nh A h ρ w b o → Nh A h ρ w' b o := by
  have hr' : ∀ r, row = some r → ∃ o : Obj, w.heap[r]? = some o ∧ o.isCells = false := fun r e => (hr r e).2
  have hN : ∀ b o, Nh A h ρ w b o → Nh A h ρ w' b o := fun b o hn => ⟨Nat.lt_of_lt_of_le hn.1 hg.size, hn.2⟩
  have hV : ∀ av x, VRel (Nh A h ρ w) ρ w av x → VRel (Nh A h ρ w') ρ w' av x := fun av x hx => hx.mono2 (fun b o _ hn _ => hN b o hn) (Env.le_refl _) (fun b o y _ hy => cell_kept hy hg hr')
  have hold : ∀ b, b < A.w.heap.size → w'.heap[b]? = w.heap[b]? := fun b hb => hg.block b (Nat.lt_of_lt_of_le hb H.size) (fun e => by have := (hr b e.symm).1; omega)
  refine ⟨⟨hg.os.trans H.os, hg.tape.trans H.tape, hg.output.trans H.output, Nat.le_trans H.size hg.size, fun b hb hB => (hold b hb).trans (H.block b hb hB), fun b o hn => (World.cell?_of_block (w := w) (hold b (H.nlt b o hn))).trans (H.keep b o hn),
    H.nlt, H.nw, H.wb, H.tabs, H.domB, H.domT, H.fix, H.usedB, H.usedT, fun i ob hi => (H.heap i ob hi).keep (Env.le_refl _) hV (fun b hb => ?_), H.own, H.ownB, H.sep⟩, hV, hN⟩
  obtain ⟨o, ho, hc⟩ := (H.heap i ob hi).cells hb
  exact grownBy_keeps_cells hg hr' ho hc
theorem Sat.grown {σ : AS} {a : Act} (H : Sat A ρ σ a w) {row : Option Nat} (hg : w.grownBy w' row) (hr : ∀ r, row = some r → A.w.heap.size ≤ r ∧ ∃ o : Obj, w.heap[r]? = some o ∧ o.isCells = false) : Sat A ρ σ a w' := by
  obtain ⟨h1, h2, -⟩ := H.mem.grown hg hr
  exact ⟨h1, fun t v ht => by obtain ⟨x, hx, hv⟩ := H.slots t v ht; exact ⟨x, hx, h2 _ _ hv⟩, H.nt, H.defers⟩
end

def KpN (N : Nat → Nat → Prop) (G : List (Nat × Array Value)) (W W' : World) : Prop := (∀ b o, N b o → W'.cell? ⟨b, o, none⟩ = W.cell? ⟨b, o, none⟩) ∧ ∀ x ∈ G, W'.heap[x.1]? = W.heap[x.1]?
structure SeqC (P : Program) (G : List (Nat × Array Value)) (f : FuncId) (caps : List AV) {α : Type} (enc : α → Value) (L : List α) : Prop where
  enter : ∃ fn c, P.funcs[f]? = some fn ∧ (fn.name == "runtime.NumGoroutine") = false ∧ fn.body = some c
  stops : ∀ (n : Nat) (w : World) (N : Nat → Nat → Prop) (ρ : Env) (us : Array Value), (∀ b o, N b o → b < w.heap.size) → (∀ x ∈ G, ∃ T, w.heap[x.1]? = some (.cells x.2 T (0, 0))) → us.size = caps.length →
    (∀ (i : Nat) (c : AV) (x : Value), caps[i]? = some c → us[i]? = some x → VRel N ρ w c x) →
    SeqStopsK Fence.wide n P f us (fun x : α => #[enc x]) (KpN N G) (fun ys => ys = L) (fun pre => pre <+: L) L.length w

def slOff (S : List (Nat × AV)) (p v : Nat) (l : List Oper) : Bool := S.all fun x => !(Nat.beq x.1 p) && !(Nat.beq x.1 v) && l.all fun o => match o.dst with
  | some d => !(Nat.beq d x.1)
  | none => true
theorem slOff_spec {S : List (Nat × AV)} {p v : Nat} {l : List Oper} (h : slOff S p v l = true) {t : Nat} {x : AV} (ht : ls S t = some x) : t ≠ p ∧ t ≠ v ∧ ∀ o ∈ l, o.dst ≠ some t := by
  have := List.all_eq_true.1 h _ (ls_some ht)
  simp only [Bool.and_eq_true, Bool.not_eq_true', List.all_eq_true] at this
  obtain ⟨⟨h1, h2⟩, h3⟩ := this
  refine ⟨fun e => by rw [e] at h1; simp at h1, fun e => by rw [e] at h2; simp at h2, fun o ho e => ?_⟩
  have := h3 o ho
  rw [e] at this
  simp at this

theorem wp_rangeF {P : Program} {G : List (Nat × Array Value)} {A : Amb} {ρ : Env} {a : Act} {w : World} {g : Operand} {p v ia ib ir : Nat} {ty : TypeId} {pos : String} {aft : Array Edge} {l : List Oper} {f : FuncId} {caps : List AV} {α : Type} {enc : α → Value} {L : List α}
    {S : List (Nat × AV)} {m : Nat} {h0 : Nat → Option AO} {u0 : Nat → Bool} (hG : A.G = G) (hs : Sat A ρ ⟨m, ls S, h0, u0⟩ a w) (hg : (⟨m, ls S, h0, u0⟩ : AS).ev g = some (.fn (.func f) [] caps)) (hseq : SeqC P G f caps enc L)
    (H : List α → Nat → Option AO) (U : List α → Nat → Bool) (hH : H [] = h0) (hU : U [] = u0) (hp : p < m) (hv : v < m) (hf : slOff S p v l = true) (hdf : noDf l = true)
    (hbody : ∀ (A' : Amb) (pre : List α) (x : α), A'.G = G → A'.nA = A.nA → pre.length < L.length → Ch P G l false (fun σ' => ∃ σ'', SEnt A' σ' σ'' ∧ σ''.n = m ∧ (∀ t y, ls S t = some y → σ''.s t = some y) ∧ σ''.h = H (pre ++ [x]) ∧ σ''.u = U (pre ++ [x])) [] l
      ⟨m, upd (upd (ls S) p (some (.v (enc x)))) v (some (.v (enc x))), H pre, U pre⟩)
    {Q : Exit → Act → World → Prop} (hQ : ∀ D ρ' W, W.heap[D]? = some (.deferred (some [])) → A.w.heap.size ≤ D → Sat A ρ' ⟨m, ls S, H L, U L⟩ a W → Q .normal { a with defers := { target := .collected D, args := #[] } :: a.defers } W) :
    (Code.rangeFunc g #[p] (.region ia #[⟨some v, .assign (.tmp p), ty, pos, aft, none⟩] false) (.block ib (.region ir l.toArray false))).wp P Q a w := by
  have hgv := hs.ev hg
  obtain ⟨us, hus, hcap, hev⟩ : ∃ us : Array Value, us.size = caps.length ∧ (∀ (i : Nat) (c : AV) (x : Value), caps[i]? = some c → us[i]? = some x → VRel (Nh A h0 ρ w) ρ w c x) ∧ a.eval g = .func (.func f) #[] us := by
    generalize a.eval g = y at hgv
    cases hgv with
    | fn f' fs cs vs us hs1 k1 hs2 k2 =>
      refine ⟨us, hs2, k2, ?_⟩
      obtain rfl := Array.eq_empty_of_size_eq_zero (by simpa using hs1)
      rfl
  have htab : ∀ x ∈ G, (∃ T, w.heap[x.1]? = some (.cells x.2 T (0, 0))) ∧ ∀ i ob, h0 i = some ob → ¬ ob.at_ ρ i x.1 := fun x hx => by
    have := hs.mem.now.tabs x (by show x ∈ A.G; rw [hG]; exact hx)
    exact ⟨this.1, fun i ob hi hb => this.2 ⟨i, ob, hi, hb⟩⟩
  obtain ⟨fn, c, e1, e2, e3⟩ := hseq.enter
  have hst := hseq.stops 2 w (Nh A h0 ρ w) ρ us (fun b o hn => hn.1) (fun x hx => (htab x hx).1) hus hcap
  refine (wpIn_wide (n := 3)).1 ?_
  refine wpIn_rangeFunc_ownF (F := Fence.wide) (n := 3) rfl (by omega) (gf := f) (lb := us) hev trivial (fun args W => run_enter e1 e2 e3 args W) hst ?_ ?_ (Below.refl _ _) (fun _ => rfl)
    (fun pre W => ∃ ρk, Sat A ρk ⟨m, ls S, H pre, U pre⟩ a W ∧ ∀ b o, Nh A h0 ρ w b o → Nh A (H pre) ρk W b o) (fun _ _ _ => False) ?_ (fun _ _ _ _ _ hx _ _ => hx) ⟨ρ, by rw [hH, hU]; exact hs, fun b o hn => by rw [hH]; exact hn⟩
    (fun x => { tmps := (a.tmps.setIfInBounds p (enc x)).setIfInBounds v (enc x), defers := [] }) ?assign ?body ?done (fun _ _ _ _ _ _ hx => hx.elim)
  · intro A' B' C' h1 h2
    exact ⟨fun b o hn => (h2.1 b o hn).trans (h1.1 b o hn), fun x hx => (h2.2 x hx).trans (h1.2 x hx)⟩
  · intro W k o o' hk hl hc _
    have key : ∀ b, b < w.heap.size → (W.putObj k o').heap[b]? = W.heap[b]? := fun b hb => World.putObj_heap_other (by omega)
    refine ⟨fun b o hn => World.cell?_of_block (w := W) (key b hn.1), fun x hx => key _ ?_⟩
    obtain ⟨T, hT⟩ := (htab x hx).1
    exact (Array.getElem?_eq_some_iff.1 hT).1
  · rintro pre W W' row ⟨ρk, hk, hn⟩ hgr hr
    have hr' : ∀ r, row = some r → A.w.heap.size ≤ r ∧ ∃ o : Obj, W.heap[r]? = some o ∧ o.isCells = false := fun r e => ⟨Nat.le_trans hs.mem.size (hr r e).1, (hr r e).2⟩
    exact ⟨ρk, hk.grown hgr hr', fun b o hb => (hk.mem.grown hgr hr').2.2 b o (hn b o hb)⟩
  case assign =>
    intro lp x W K hK
    refine wpIn_region_lit (l := [_]) ?_
    unfold wpListIn
    rw [if_pos (show Region.wanted _ _ = true from rfl)]
    have hpa : p < a.tmps.size := by rw [hs.nt]; exact hp
    refine Oper.wpIn_of_wp (Wide.rd lp) (a := { tmps := a.tmps.setIfInBounds p (enc x), defers := [] }) (K := fun a' w' => a' = { tmps := (a.tmps.setIfInBounds p (enc x)).setIfInBounds v (enc x), defers := [] } ∧ w' = W) (by simp) (fun c h => by cases h) ?_ ?_ ?_
    · have hv' : (Act.eval { tmps := a.tmps.setIfInBounds p (enc x), defers := [] } (.tmp p)) = enc x := by simp [Act.eval, Array.getD_eq_getD_getElem?, hpa]
      show Act.put { tmps := a.tmps.setIfInBounds p (enc x), defers := [] } (some v) (Act.eval { tmps := a.tmps.setIfInBounds p (enc x), defers := [] } (.tmp p)) = _ ∧ W = W
      rw [hv']
      exact ⟨rfl, rfl⟩
    · rintro y w' ⟨hy, rfl⟩
      have : Act.put { tmps := (#[p].zip #[enc x]).foldl (fun t (q, v) => t.setIfInBounds q v) a.tmps, defers := [] } (some v) y = { tmps := (a.tmps.setIfInBounds p (enc x)).setIfInBounds v (enc x), defers := [] } := by
        rw [← hy]; simp
      rw [this]
      exact hK
    · rintro d w' ⟨hy, -⟩
      have := congrArg Act.defers hy
      rw [put_defers] at this
      cases this
  case body =>
    rintro lp pre x W ⟨ρk, hk, hn⟩ hlen
    have hk1 : Sat (A.now (H pre) ρk W) ρk ⟨m, upd (upd (ls S) p (some (.v (enc x)))) v (some (.v (enc x))), H pre, U pre⟩ (bare { tmps := (a.tmps.setIfInBounds p (enc x)).setIfInBounds v (enc x), defers := [] }) W := by
      refine ⟨hk.mem.now, fun t y ht => ?_, by simp [bare, hk.nt], rfl⟩
      rcases upd_eq_some (f := upd (ls S) p (some (.v (enc x)))) (k := v) (x := some (.v (enc x))) ht with ⟨rfl, he⟩ | ⟨hne, he⟩
      · cases he
        exact ⟨enc x, by simp [bare, hs.nt, hv], .v _⟩
      · rcases upd_eq_some (f := ls S) (k := p) (x := some (.v (enc x))) he with ⟨rfl, he2⟩ | ⟨hne', he2⟩
        · cases he2
          exact ⟨enc x, by simp only [bare]; rw [Array.getElem?_setIfInBounds_ne (Ne.symm hne), Array.getElem?_setIfInBounds_self_of_lt (by rw [hs.nt]; exact hp)], .v _⟩
        · obtain ⟨z, hz, hvz⟩ := hk.slots t y he2
          exact ⟨z, by simp only [bare]; rw [Array.getElem?_setIfInBounds_ne (Ne.symm hne), Array.getElem?_setIfInBounds_ne (Ne.symm hne')]; exact hz, hvz.mono (fun b o hb => hb.now) (Env.le_refl _) (fun _ _ _ => rfl)⟩
    refine wpIn_block (wpIn_rg (Wide.rd lp) hdf (A := A.now (H pre) ρk W) hG (hbody (A.now (H pre) ρk W) pre x hG rfl hlen) hk1 ?_)
    rintro ρ1 σ1 a1 W1 ⟨σ2, hE, hn2, hs2, hh2, hu2⟩ hs1 hfr
    obtain ⟨ρ2, hs3⟩ := hE ρ1 _ W1 hs1
    have hm3 := hs3.mem
    rw [hh2, hu2] at hm3
    show KeepsOthers W W1 ∧ KpN (Nh A h0 ρ w) G W W1 ∧ _
    refine ⟨⟨hm3.size, fun k o hko ho => ?_⟩, ⟨fun b o hb => hm3.keep b o (hn b o hb), fun y hy => ?_⟩, ρ2, ⟨hk.mem.back hm3, fun t y ht => ?_, hk.nt, hk.defers⟩, fun b o hb => Nh.on hm3 (hn b o hb)⟩
    · refine (hm3.block k (Array.getElem?_eq_some_iff.1 hko).1 ?_).trans hko
      rintro ⟨i, ob, hi, hb⟩
      obtain ⟨o', ho', hc'⟩ := (hk.mem.heap i ob hi).cells hb
      rw [hko] at ho'
      cases ho'
      rw [ho] at hc'
      cases hc'
    · obtain ⟨⟨T, h1⟩, h2⟩ := hm3.tabs y (by show y ∈ A.G; rw [hG]; exact hy)
      exact hm3.block _ (Array.getElem?_eq_some_iff.1 h1).1 h2
    · obtain ⟨z, hz, hvz⟩ := hs3.slots t y (hs2 t y ht)
      obtain ⟨o1, o2, o3⟩ := slOff_spec hf ht
      refine ⟨z, ?_, ?_⟩
      · have := hfr.2 t o3
        rw [show (bare a1).tmps[t]? = a1.tmps[t]? from rfl, this] at hz
        rw [Array.getElem?_setIfInBounds_ne (Ne.symm o2), Array.getElem?_setIfInBounds_ne (Ne.symm o1)] at hz
        exact hz
      · rw [hh2] at hvz
        exact hvz.mono (fun b o hb => hb.back hk.mem) (Env.le_refl _) (fun _ _ _ => rfl)
  case done =>
    rintro D xs W hD rfl ⟨ρk, hk, -⟩ hDd
    exact hQ D ρk W hDd (Nat.le_trans hs.mem.size hD) hk
end Go.Proofs.YtcojfnjpcpochaaDoor.E
end
section
namespace Go.Proofs.YtcojfnjpcpochaaDoor.E
open Go Go.RowKit Go.Proofs.YtcojfnjpcpochaaDoor.V

theorem chain_mono {P : Program} {G : List (Nat × Array Value)} {ops : Array Oper} {K K' : AS → Prop} (hk : ∀ σ, K σ → K' σ) : ∀ {l : List Oper} {ds : List St} {σ : AS}, Chain P G ops K l ds σ → Chain P G ops K' l ds σ
  | [], [], _, h => hk _ h
  | _ :: _, _ :: _, _, h => ⟨h.1, chain_mono hk h.2⟩
  | [], _ :: _, _, h => h.elim
  | _ :: _, [], _, h => h.elim
def mark (D : Nat) : Deferred := { target := .collected D, args := #[] }
def Marked (A : Amb) (a : Act) (w : World) : Prop := a.defers = [] ∨ ∃ D, a.defers = [mark D] ∧ w.heap[D]? = some (.deferred (some [])) ∧ A.w.heap.size ≤ D
def RetM (A : Amb) (rs : List Tmp) (res : AV) (H' : List (Option AO)) (e : Exit) (a : Act) (w : World) : Prop :=
  (e = .normal ∨ e = .ret) ∧ Marked A a w ∧ ∃ ρ σ, Sat A ρ σ (bare a) w ∧ Ret A rs res H' .ret σ
structure WPM (P : Program) (A : Amb) (rs : List Tmp) (res : AV) (H' : List (Option AO)) (c : Code) (σ : AS) : Prop where
  run : ∀ ρ a w, Sat A ρ σ a w → c.wp P (RetM A rs res H') a w
structure WPS (P : Program) (A : Amb) (rs : List Tmp) (res : AV) (H' : List (Option AO)) (y z : Code) (σ : AS) : Prop where
  run : ∀ ρ a w, Sat A ρ σ a w → y.wp P (Exit.then (z.wp P (RetM A rs res H')) (RetM A rs res H')) a w

theorem retM_of {A : Amb} {rs : List Tmp} {res : AV} {H' : List (Option AO)} {e : Exit} {ρ : Env} {σ : AS} {a : Act} {w : World} (h : Ret A rs res H' e σ) (hs : Sat A ρ σ a w) : RetM A rs res H' e a w := by
  have hb : Sat A ρ σ (bare a) w := by rw [bare_of hs.defers]; exact hs
  cases e with
  | normal => exact ⟨.inl rfl, .inl hs.defers, ρ, σ, hb, h⟩
  | ret => exact ⟨.inr rfl, .inl hs.defers, ρ, σ, hb, h⟩
  | _ => exact h.elim

section
variable {P : Program} {G : List (Nat × Array Value)} {A : Amb} {rs : List Tmp} {res : AV} {H' : List (Option AO)} {σ : AS}
theorem WPM.seq {x y : Code} (h : WP P A x (thn (fun σ' => WPM P A rs res H' y σ') (Ret A rs res H')) σ) : WPM P A rs res H' (.seq x y) σ := by
  constructor
  intro ρ a w hs
  refine wp_seq (wp_mono (h.run ρ a w hs) ?_)
  rintro e a' w' ⟨σ', ρ', q, s⟩
  cases e with
  | normal => exact WPM.run q ρ' a' w' s
  | _ => exact retM_of q s
theorem WPM.seqS {x y z : Code} (h : WP P A x (thn (fun σ' => WPS P A rs res H' y z σ') (Ret A rs res H')) σ) : WPM P A rs res H' (.seq (.seq x y) z) σ := by
  constructor
  intro ρ a w hs
  refine wp_seq (wp_seq (wp_mono (h.run ρ a w hs) ?_))
  rintro e a' w' ⟨σ', ρ', q, s⟩
  cases e with
  | normal => exact WPS.run q ρ' a' w' s
  | _ => exact retM_of q s
theorem wp_endM {ρ : Env} {a : Act} {w : World} {D : Nat} (hs : Sat A ρ σ a w) (hG : A.G = G) (hD : w.heap[D]? = some (.deferred (some []))) (hA : A.w.heap.size ≤ D) {id : Nat} {l : List Oper} (hdf : noDf l = true)
    (hc : ∀ A' : Amb, A'.G = G → A'.nA = A.nA → Ch P G l false (Ret A' rs res H' .ret) [] l σ) : ((Code.region id l.toArray false).seq .ret).wp P (RetM A rs res H') { a with defers := mark D :: a.defers } w := by
  refine wp_seq ((wpIn_wide (n := 0)).1 ?_)
  have hs1 : Sat (A.now σ.h ρ w) ρ σ (bare { a with defers := mark D :: a.defers }) w := by
    have e : bare { a with defers := mark D :: a.defers } = a := bare_of hs.defers ▸ rfl
    rw [e]
    exact ⟨hs.mem.now, fun t v ht => by obtain ⟨x, hx, hv⟩ := hs.slots t v ht; exact ⟨x, hx, hv.mono (fun b o hb => hb.now) (Env.le_refl _) (fun _ _ _ => rfl)⟩, hs.nt, hs.defers⟩
  refine wpIn_rg Wide.w hdf (A := A.now σ.h ρ w) hG (hc (A.now σ.h ρ w) hG rfl) hs1 ?_
  rintro ρ1 σ1 a1 w1 ⟨σ2, hE, h1, h2, h3⟩ hs2 hfr
  show Code.ret.wp P (RetM A rs res H') a1 w1
  obtain ⟨ρ2, hs3⟩ := hE ρ1 _ w1 hs2
  refine wp_ret ⟨.inr rfl, .inr ⟨D, ?_, ?_, hA⟩, ρ2, σ2, ⟨hs.mem.back hs3.mem, fun t v ht => ?_, hs3.nt, rfl⟩, σ2, fun ρ' a' w' h => ⟨ρ', h⟩, h1, h2, h3⟩
  · rw [hfr.1]
    show mark D :: a.defers = _
    rw [hs.defers]
  · refine (hs3.mem.block D (Array.getElem?_eq_some_iff.1 hD).1 ?_).trans hD
    rintro ⟨i, ob, hi, hb⟩
    obtain ⟨o', ho', hc'⟩ := (hs.mem.heap i ob hi).cells hb
    rw [hD] at ho'
    cases ho'
    cases hc'
  · obtain ⟨x, hx, hv⟩ := hs3.slots t v ht
    exact ⟨x, hx, hv.mono (fun b o hb => hb.back hs.mem) (Env.le_refl _) (fun _ _ _ => rfl)⟩

theorem WPS.range {g : Operand} {p v b0 ia ib ir id : Nat} {ty : TypeId} {pos : String} {aft : Array Edge} {l l2 : List Oper} {f : FuncId} {caps : List AV} {α : Type} {enc : α → Value} {L : List α} (hG : A.G = G) {m : Nat} (S : List (Nat × AV)) (H : List α → List (Nat × AO)) (M : Nat)
    (hE : SEnt A σ ⟨m, ls S, lh (H []), blt M⟩) (hg : (⟨m, ls S, lh (H []), blt M⟩ : AS).ev g = some (.fn (.func f) [] caps)) (hseq : SeqC P G f caps enc L)
    (hp : p < m) (hv : v < m) (hf : slOff S p v l = true) (hdf : noDf l = true) (hdf2 : noDf l2 = true)
    (hbody : ∀ (A' : Amb) (pre : List α) (x : α), A'.G = G → A'.nA = A.nA → pre.length < L.length → Ch P G l false (fun σ' => SEnt A' σ' ⟨m, ls S, lh (H (pre ++ [x])), blt M⟩) [] l ⟨m, upd (upd (ls S) p (some (.v (enc x)))) v (some (.v (enc x))), lh (H pre), blt M⟩)
    (hend : ∀ A' : Amb, A'.G = G → A'.nA = A.nA → Ch P G l2 false (Ret A' rs res H' .ret) [] l2 ⟨m, ls S, lh (H L), blt M⟩) :
    WPS P A rs res H' (.block b0 (Code.rangeFunc g #[p] (.region ia #[⟨some v, .assign (.tmp p), ty, pos, aft, none⟩] false) (.block ib (.region ir l.toArray false)))) ((Code.region id l2.toArray false).seq .ret) σ := by
  constructor
  intro ρ a w hs
  obtain ⟨ρ0, hs0⟩ := hE ρ a w hs
  refine wp_block (wp_rangeF hG hs0 hg hseq (fun pre => lh (H pre)) (fun _ => blt M) rfl rfl hp hv hf hdf (fun A' pre x h1 h2 h3 => ?_) fun D ρ' W hD hA hsW => wp_endM hsW hG hD hA hdf2 hend)
  obtain ⟨ds, k1, k2⟩ := (hbody A' pre x h1 h2 h3).e
  exact ⟨ds, chain_mono (fun σ' h => ⟨_, h, rfl, fun _ _ h => h, rfl, rfl⟩) k1, fun h => nomatch h⟩
end

theorem ret_val {A : Amb} {ρ' : Env} {σ' : AS} {a : Act} {w : World} (hs' : Sat A ρ' σ' a w) : ∀ {rs : List Tmp} {res : AV}, RetV rs res σ' →
    VRel (Nh A σ'.h ρ' w) ρ' w res (match rs with | [t] => a.tmps.getD t undef | rs => .tuple (rs.map fun t => a.tmps.getD t undef).toArray)
  | [t], res, h3 => hs'.ev (x := .tmp t) h3
  | [], res, h3 => by
    obtain ⟨vs, hres, hl, hsl⟩ := h3
    subst hres
    obtain rfl : vs = [] := List.eq_nil_of_length_eq_zero hl
    exact .tup [] _ rfl (fun i c x hc hx => by simp at hc)
  | t :: u :: r, res, h3 => by
    obtain ⟨vs, hres, hl, hsl⟩ := h3
    subst hres
    refine .tup vs _ (by simp [hl]) (fun i c x hc hx => ?_)
    have hlt : i < (t :: u :: r).length := by rw [← hl]; exact (List.getElem?_eq_some_iff.1 hc).1
    have hget : (t :: u :: r)[i]? = some ((t :: u :: r)[i]) := List.getElem?_eq_getElem hlt
    have := hs'.ev (x := .tmp _) (hsl.get hget hc)
    have hx' : x = a.eval (.tmp (t :: u :: r)[i]) := by
      rw [List.getElem?_toArray, List.getElem?_map, hget] at hx
      simp at hx
      rw [← hx]
      simp [Act.eval]
    rw [hx']
    exact this

theorem FC.of_wpm {P : Program} {G : List (Nat × Array Value)} {f : FuncId} {fn : Func} {c : Code} {args : List AV} {H H' : List (Option AO)} {res : AV} (rs : List Tmp) (hf : P.funcs[f]? = some fn) (hname : (fn.name == "runtime.NumGoroutine") = false) (hb : fn.body = some c)
    (hn' : Nat.ble args.length fn.ntmps = true) (hr : fn.results = (rs.map ResultVar.tmp).toArray) (belA : AV.belL (blt H.length) args) (bH : E.belH (blt H.length) H) (len : H.length ≤ H'.length)
    (h : ∀ A : Amb, A.G = G → A.nA = H.length → (∀ b, A.B b → ∃ i ob, hl H i = some ob ∧ ob.at_ A.ρ i b) → WPM P A rs res H' c (start fn.ntmps args H)) : FC P G f args H res H' := by
  have hn : args.length ≤ fn.ntmps := Nat.le_of_ble_eq_true hn'
  refine ⟨⟨fn, c, hf, hname, hb⟩, belA, bH, len, ?_⟩
  intro A vs hG hnA HS hAB hsz hargs
  have hs : Sat A A.ρ (start fn.ntmps args H) { tmps := vs ++ Array.replicate (fn.ntmps - vs.size) undef, defers := [] } A.w := by
    refine ⟨HS, ?_, ?_, rfl⟩
    · intro t v ht
      have ht' : args[t]? = some v := ht
      have hlt := (List.getElem?_eq_some_iff.1 ht').1
      have hx : vs[t]? = some vs[t] := Array.getElem?_eq_getElem (by omega)
      refine ⟨vs[t], ?_, hargs t v _ ht' hx⟩
      rw [Array.getElem?_append_left (by omega)]
      exact hx
    · simp [start]; omega
  refine (callsIn_wide (n := 0)).1 (callsIn_of_wp_marks hf hb trivial (wpIn_wide.2 (wp_mono ((h A hG hnA hAB).run A.ρ _ A.w hs) ?_)) rfl)
  rintro e a w' ⟨he, hM, ρ, σ, hs1, σ', hE, h1, h2, h3⟩
  obtain ⟨ρ', hs'⟩ := hE ρ _ w' hs1
  have hv := ret_val hs' h3
  have hm := hs'.mem
  rw [h1] at hv hm
  rw [h2] at hm
  have fin : LeavesInM Fence.wide 0 P fn a.tmps (fun e w' => ∃ v ρ', e = .returned v ∧ HSat A ρ' (hl H') (blt H'.length) w' ∧ VRel (Nh A (hl H') ρ' w') ρ' w' res v) a.defers .returning w' := by
    rcases hM with hd | ⟨D, hd, hD, hA⟩
    · rw [hd]
      exact ⟨_, run_results P fn a.tmps w' rs hr, _, ρ', rfl, hm, hv⟩
    · rw [hd]
      refine ⟨by simp, .inl ⟨D, _, rfl, run_takeDeferred hD, ?_⟩⟩
      obtain ⟨g1, g2, -⟩ := hm.grown (grownBy_putObj' w' D (.deferred none)) (fun r e => by cases e; exact ⟨hA, _, hD, rfl⟩)
      exact ⟨_, run_results P fn a.tmps _ rs hr, _, ρ', rfl, g1, g2 _ _ hv⟩
  rcases he with rfl | rfl
  · exact fin
  · exact fin
end Go.Proofs.YtcojfnjpcpochaaDoor.E
end
section
namespace Go.Proofs.YtcojfnjpcpochaaDoor.E
open Go Go.RowKit Go.Proofs.YtcojfnjpcpochaaDoor.V
attribute [local go_sem] B_size B_append B_extract mk_B B_toList take_drop_len List.length_drop List.length_take sgn32 sgn64 add32 sub32 mul32 add64 sub64 mul64 mul64_8 and32 or32 xor32 and64 or64 xor64 shl32_run shr32_run shl64_run shr64_run not32 not32' xor32_all w_u32_u8 w_u64_u8 w_i64_u8 w_u8_u32 w_u8_u64 w_u32_u64 w_u64_u32 w_u8_u8 w_u32_u32 w_u64_u64
attribute [local go_sem ↓] run_index_B' add32 sub32 mul32 add64 sub64 mul64 mul64_8 and32 or32 xor32 and64 or64 xor64 shl32_run shr32_run shl64_run shr64_run not32 not32' xor32_all w_u32_u8 w_u64_u8 w_i64_u8 w_u8_u32 w_u8_u64 w_u32_u64 w_u64_u32 w_u8_u8 w_u32_u32 w_u64_u64 w_u64_nat w_u32_nat w_u8_nat
set_option maxRecDepth 4000
attribute [local irreducible] sum tag input laidN wstep walkT secretT
section
variable {G : List (Nat × Array Value)}
theorem alwaysC_fc (c at' : Int) : FC Tryd.prog G 73 [.v (.int .i64 c), .sptr [.v (.int .i64 at')]] [] (.v (.int .i64 at')) [] := by
  refine FC.of_wp [3] Tryd.func73 rfl rfl rfl rfl (by first | trivial | (simp; first | done | fail) | exact ⟨trivial, hbel _⟩) (by first | trivial | (simp; first | done | fail) | exact ⟨trivial, hbel _⟩) (by exact Nat.le_of_ble_eq_true rfl) ?_
  intro A hG hnA hAB
  unfold start
  refine WP.rs hG ?_
  refine Ch.asg rfl rfl ?_
  refine Ch.nil ?_
  refine WP.rs hG ?_
  refine Ch.pu gdN (by exact ⟨rfl, trivial⟩) (OpS.loadS rfl rfl) trivial rfl ?_
  refine Ch.asg rfl rfl ?_
  refine Ch.nil ?_
  refine WP.ret (Ret.one rfl (by first | exact .rfl _ | exact .nil | exact .of_eq (by simp; first | done | fail) | exact AV.wk.sh (by simp; first | done | fail) | exact .untip _ _ _) (by first | trivial | simp [AV.bel]) hnA)
theorem always_fc (at' : Int) : FC Tryd.prog G 46 [.v (.int .i64 at')] [] (.fn (.func 73) [] [.sptr [.v (.int .i64 at')]]) [] := by
  refine FC.of_wp [2] Tryd.func46 rfl rfl rfl rfl (by first | trivial | (simp; first | done | fail) | exact ⟨trivial, hbel _⟩) (by first | trivial | (simp; first | done | fail) | exact ⟨trivial, hbel _⟩) (by exact Nat.le_of_ble_eq_true rfl) ?_
  intro A hG hnA hAB
  unfold start
  refine WP.rs hG ?_
  refine Ch.pu gdN (by exact ⟨rfl, trivial⟩) (OpS.boxS) trivial rfl ?_
  refine Ch.asg rfl rfl ?_
  refine Ch.nil ?_
  refine WP.rs hG ?_
  refine Ch.mf gdN (by repeat (first | exact EvL.nil | (apply EvL.cons; exact rfl))) rfl ?_
  refine Ch.asg rfl rfl ?_
  refine Ch.nil ?_
  refine WP.ret (Ret.one rfl (by first | exact .rfl _ | exact .nil | exact .of_eq (by simp; first | done | fail) | exact AV.wk.sh (by simp; first | done | fail) | exact .untip _ _ _) (by first | trivial | simp [AV.bel]) hnA)
theorem signC_fc (c : Nat) (d : List Nat) (hc : c < d.length) : FC Tryd.prog G 49 [.v (.int .i64 (c : Int)), .sptr [.sl none d.length (d.map nA)]] [] (nA (nget d c)) [] := by
  refine FC.of_wp [3] Tryd.func49 rfl rfl rfl rfl (by first | trivial | (simp; first | done | fail) | exact ⟨trivial, hbel _⟩) (by first | trivial | (simp; first | done | fail) | exact ⟨trivial, hbel _⟩) (by exact Nat.le_of_ble_eq_true rfl) ?_
  intro A hG hnA hAB
  unfold start
  refine WP.rs hG ?_
  refine Ch.asg rfl rfl ?_
  refine Ch.nil ?_
  refine WP.rs hG ?_
  refine Ch.pu gdN (by exact ⟨rfl, trivial⟩) (OpS.loadS rfl rfl) trivial rfl ?_
  refine Ch.mv rfl rfl ?_
  refine Ch.pu gdN (by exact ⟨rfl, rfl, trivial⟩) (OpS.indexM rfl rfl rfl (by first | with_reducible exact Int.toNat_natCast _ | with_reducible exact tnLit _ _ | with_reducible exact tnLitA _ _ | with_reducible exact tnL _ | with_reducible exact tnA _ _ | with_reducible exact tnM _ _ | with_reducible exact tnMA _ _ _ | exact rfl) (by omega) (by omega) (by first | rfl | (simp; done) | omega)) trivial rfl ?_
  refine Ch.pu gdN (by exact ⟨rfl, trivial⟩) (OpS.loadS rfl rfl) trivial rfl ?_
  refine Ch.asg rfl rfl ?_
  refine Ch.nil ?_
  refine WP.ret (Ret.one rfl (by first | exact .rfl _ | exact .nil | exact .of_eq (by simp; first | done | fail) | exact AV.wk.sh (by simp; first | done | fail) | exact .untip _ _ _) (by first | trivial | simp [AV.bel]) hnA)
theorem fromD_fc (c : Nat) (d : List Nat) (hc : c < d.length) : FC Tryd.prog G 66 [.v (.int .i64 (c : Int)), .sptr [.sl none d.length (d.map nA)]] [] (nA (nget d c)) [] := by
  refine FC.of_wp [3] Tryd.func66 rfl rfl rfl rfl (by first | trivial | (simp; first | done | fail) | exact ⟨trivial, hbel _⟩) (by first | trivial | (simp; first | done | fail) | exact ⟨trivial, hbel _⟩) (by exact Nat.le_of_ble_eq_true rfl) ?_
  intro A hG hnA hAB
  unfold start
  refine WP.rs hG ?_
  refine Ch.asg rfl rfl ?_
  refine Ch.nil ?_
  refine WP.rs hG ?_
  refine Ch.pu gdN (by exact ⟨rfl, trivial⟩) (OpS.loadS rfl rfl) trivial rfl ?_
  refine Ch.mv rfl rfl ?_
  refine Ch.pu gdN (by exact ⟨rfl, rfl, trivial⟩) (OpS.indexM rfl rfl rfl (by first | with_reducible exact Int.toNat_natCast _ | with_reducible exact tnLit _ _ | with_reducible exact tnLitA _ _ | with_reducible exact tnL _ | with_reducible exact tnA _ _ | with_reducible exact tnM _ _ | with_reducible exact tnMA _ _ _ | exact rfl) (by omega) (by omega) (by first | rfl | (simp; done) | omega)) trivial rfl ?_
  refine Ch.pu gdN (by exact ⟨rfl, trivial⟩) (OpS.loadS rfl rfl) trivial rfl ?_
  refine Ch.asg rfl rfl ?_
  refine Ch.nil ?_
  refine WP.ret (Ret.one rfl (by first | exact .rfl _ | exact .nil | exact .of_eq (by simp; first | done | fail) | exact AV.wk.sh (by simp; first | done | fail) | exact .untip _ _ _) (by first | trivial | simp [AV.bel]) hnA)
theorem fromC_fc (c : Nat) (s : Txw) (hc : c < 10) (hs' : s.length = 160) : FC Tryd.prog G 65 [.v (.int .i64 (c : Int)), .sptr [sA s]] [] (sA ((s.drop (16 * c)).take 16)) [] := by
  refine FC.of_wp [3] Tryd.func65 rfl rfl rfl rfl (by first | trivial | (simp; first | done | fail) | exact ⟨trivial, hbel _⟩) (by first | trivial | (simp; first | done | fail) | exact ⟨trivial, hbel _⟩) (by exact Nat.le_of_ble_eq_true rfl) ?_
  intro A hG hnA hAB
  unfold start
  refine WP.rs hG ?_
  refine Ch.asg rfl rfl ?_
  refine Ch.nil ?_
  refine WP.rs hG ?_
  refine Ch.pu gdN (by exact ⟨rfl, trivial⟩) (OpS.loadS rfl rfl) trivial rfl ?_
  refine Ch.mv rfl rfl ?_
  refine Ch.pu gdN (by exact ⟨rfl, rfl, trivial⟩) (OpS.int rfl (by first | exact wr64 (by omega) | exact rfl)) trivial rfl ?_
  refine Ch.mv rfl rfl ?_
  refine Ch.pu gdN (by exact ⟨rfl, rfl, trivial⟩) (OpS.int rfl (by first | exact wr64 (by omega) | exact rfl)) trivial rfl ?_
  refine Ch.pu gdN (by exact ⟨rfl, rfl, trivial⟩) (OpS.int rfl (by first | exact wr64 (by omega) | exact rfl)) trivial rfl ?_
  refine Ch.pu gdN (by exact ⟨rfl, rfl, rfl, trivial⟩) (OpS.sliceS rfl (m' := 16 * c) (n' := 16 * c + 16) (by omega) (by omega) (by omega) (by omega) (by omega)) trivial rfl ?_
  refine Ch.asg rfl rfl ?_
  refine Ch.nil ?_
  exact WP.ret (Ret.one rfl (.of_eq (by rw [Nat.add_sub_cancel_left]; rfl)) trivial hnA)
theorem secretC_fc (hm : ShaIn G) (c leaf : Int) (s : Txw) (hv : s.length ≤ 140737488355264) : FC Tryd.prog G 70 [.v (.int .i64 c), .sptr [sA s], .sptr [.v (.int .i64 leaf)]] [] (sA (secretT s leaf c)) [] := by
  have hin := in3_len s (laidN leaf) (laidN c) 3
  rw [laidN_length, laidN_length] at hin
  have hval := value_fc hm 3 [s, laidN leaf, laidN c] (by omega)
  rw [← secretT_eq] at hval
  refine FC.of_wp [4] Tryd.func70 rfl rfl rfl rfl (by first | trivial | (simp; first | done | fail) | exact ⟨trivial, hbel _⟩) (by first | trivial | (simp; first | done | fail) | exact ⟨trivial, hbel _⟩) (by exact Nat.le_of_ble_eq_true rfl) ?_
  intro A hG hnA hAB
  unfold start
  refine WP.rs hG ?_
  refine Ch.asg rfl rfl ?_
  refine Ch.nil ?_
  refine WP.rsD (by kernel_rfl) hG ?_
  refine Ch.pu gdN (by exact ⟨rfl, trivial⟩) (OpS.loadS rfl rfl) trivial rfl ?_
  refine Ch.pu gdN (by exact ⟨rfl, trivial⟩) (OpS.loadS rfl rfl) trivial rfl ?_
  refine Ch.callP (laid_fc leaf) gdN (by repeat (first | exact EvL.nil | (apply EvL.cons; exact rfl))) (by exact (And.intro (by first | exact .rfl _ | exact .untip _ _ _ | exact .nil | exact .func _ | exact AV.wk.sh (renL_s _ _) | exact AV.wk.sh (by simp; first | done | fail)) trivial)) (by rfl) rfl ?_
  refine Ch.mv rfl rfl ?_
  refine Ch.callP (laid_fc c) gdN (by repeat (first | exact EvL.nil | (apply EvL.cons; exact rfl))) (by exact (And.intro (by first | exact .rfl _ | exact .untip _ _ _ | exact .nil | exact .func _ | exact AV.wk.sh (renL_s _ _) | exact AV.wk.sh (by simp; first | done | fail)) trivial)) (by rfl) rfl ?_
  refine Ch.pup gdN (by repeat (first | exact EvP.nil | (apply EvP.cons; exact rfl))) (OpS.slice1 (ys := ([s, laidN leaf, laidN c] : List Txw).map sA) rfl rfl rfl rfl rfl rfl (by rfl) rfl (by rfl)) rfl ?_
  refine Ch.callP (hval) gdN (by repeat (first | exact EvL.nil | (apply EvL.cons; exact rfl))) (by exact (And.intro (by first | exact .rfl _ | exact .untip _ _ _ | exact .nil | exact .func _ | exact AV.wk.sh (renL_s _ _) | exact AV.wk.sh (by simp; first | done | fail)) (And.intro (by first | exact .rfl _ | exact .untip _ _ _ | exact .nil | exact .func _ | exact AV.wk.sh (renL_s _ _) | exact AV.wk.sh (by simp; first | done | fail)) trivial))) (by rfl) rfl ?_
  refine Ch.asg rfl rfl ?_
  refine Ch.nilD ?_ (by kernel_rfl)
  refine WP.ret (Ret.one rfl (by first | exact .rfl _ | exact .nil | exact .of_eq (by simp; first | done | fail) | exact AV.wk.sh (by simp; first | done | fail) | exact .untip _ _ _) (by first | trivial | simp [AV.bel]) hnA)
theorem secrets_fc (s : Txw) (leaf : Int) : FC Tryd.prog G 45 [sA s, .v (.int .i64 leaf)] [] (.fn (.func 70) [] [.sptr [sA s], .sptr [.v (.int .i64 leaf)]]) [] := by
  refine FC.of_wp [4] Tryd.func45 rfl rfl rfl rfl (by first | trivial | (simp; first | done | fail) | exact ⟨trivial, hbel _⟩) (by first | trivial | (simp; first | done | fail) | exact ⟨trivial, hbel _⟩) (by exact Nat.le_of_ble_eq_true rfl) ?_
  intro A hG hnA hAB
  unfold start
  refine WP.rs hG ?_
  refine Ch.pu gdN (by exact ⟨rfl, trivial⟩) (OpS.boxS) trivial rfl ?_
  refine Ch.pu gdN (by exact ⟨rfl, trivial⟩) (OpS.boxS) trivial rfl ?_
  refine Ch.asg rfl rfl ?_
  refine Ch.nil ?_
  refine WP.rs hG ?_
  refine Ch.mf gdN (by repeat (first | exact EvL.nil | (apply EvL.cons; exact rfl))) rfl ?_
  refine Ch.asg rfl rfl ?_
  refine Ch.nil ?_
  refine WP.ret (Ret.one rfl (by first | exact .rfl _ | exact .nil | exact .of_eq (by simp; first | done | fail) | exact AV.wk.sh (by simp; first | done | fail) | exact .untip _ _ _) (by first | trivial | simp [AV.bel]) hnA)
theorem walks_fc (f t s : AV) (hf : AV.ren (rn []) f = f) (ht : AV.ren (rn []) t = t) (hs' : AV.ren (rn []) s = s) (bf : f.bel (blt 0)) (bt : t.bel (blt 0)) (bs : s.bel (blt 0)) (cf : cellsA f = [f]) (ct : cellsA t = [t]) (cs : cellsA s = [s]) :
    FC Tryd.prog G 44 [s, f, t] [] (.fn (.func 68) [] [.sptr [f], .sptr [t], .sptr [s]]) [] := by
  refine FC.of_wp [6] Tryd.func44 rfl rfl rfl rfl ⟨bs, bf, bt, trivial⟩ trivial (by exact Nat.le_of_ble_eq_true rfl) ?_
  intro A hG hnA hAB
  unfold start
  refine WP.rs hG ?_
  refine Ch.pu gdN (by exact ⟨rfl, trivial⟩) (OpS.boxS) trivial rfl ?_
  refine Ch.pu gdN (by exact ⟨rfl, trivial⟩) (OpS.boxS) trivial rfl ?_
  refine Ch.pu gdN (by exact ⟨rfl, trivial⟩) (OpS.boxS) trivial rfl ?_
  refine Ch.asg rfl rfl ?_
  refine Ch.nil ?_
  refine WP.rs hG ?_
  refine Ch.mf gdN (by repeat (first | exact EvL.nil | (apply EvL.cons; exact rfl))) rfl ?_
  refine Ch.asg rfl rfl ?_
  refine Ch.nil ?_
  refine WP.ret (Ret.one rfl (.of_eq ?_) ⟨trivial, ⟨bf, trivial⟩, ⟨bt, trivial⟩, ⟨bs, trivial⟩, trivial⟩ hnA)
  show AV.fn _ [] [.sptr (cellsA f), .sptr (cellsA t), .sptr (cellsA s)] = AV.fn _ [] [.sptr [AV.ren (rn []) f], .sptr [AV.ren (rn []) t], .sptr [AV.ren (rn []) s]]
  rw [hf, ht, hs', cf, ct, cs]
end
end Go.Proofs.YtcojfnjpcpochaaDoor.E
end
section
namespace Go.Proofs.YtcojfnjpcpochaaDoor.E
open Go Go.RowKit Go.Proofs.YtcojfnjpcpochaaDoor.V

theorem VRel.noE {N : Nat → Nat → Prop} {ρ ρ' : Env} {w : World} {av : AV} {x : Value} (h : VRel N ρ w av x) : av.bel (blt 0) → VRel N ρ' w av x := by
  have hno : ∀ i, blt 0 i = true → False := fun i hi => by have := blt_iff.1 hi; omega
  induction h with
  | v x => exact fun _ => .v x
  | agg cs vs hs _ ih => exact fun hb => .agg cs vs hs fun i c x hc hx => ih i c x hc hx (belL_get hb hc)
  | tup cs vs hs _ ih => exact fun hb => .tup cs vs hs fun i c x hc hx => ih i c x hc hx (belL_get hb hc)
  | sl o n cs a cap vals hc _ ho hn hz hm ih =>
    exact fun hb => .sl o n cs a cap vals hc (fun i c hc => ih i c hc (belL_get hb.2 hc)) (fun k hk => (hno k (hb.1 k hk)).elim) hn hz hm
  | arr id off n cap b hb hn hm => exact fun hb => (hno _ hb).elim
  | ptr id off b hb => exact fun hb => (hno _ hb).elim
  | sptr cs b off vals hc _ ih => exact fun hb => .sptr cs b off vals hc fun i c hc => ih i c hc (belL_get hb hc)
  | fn f fs cs vs us hs _ hs' _ ih ih' => exact fun hb => .fn f fs cs vs us hs (fun i c x hc hx => ih i c x hc hx (belL_get hb.1 hc)) hs' (fun i c x hc hx => ih' i c x hc hx (belL_get hb.2 hc))

def AW (G : List (Nat × Array Value)) (N : Nat → Nat → Prop) (W : World) : Amb := ⟨W, N, fun _ _ => False, fun _ => False, 0, G, noE⟩
section
variable {G : List (Nat × Array Value)} {N : Nat → Nat → Prop} {W W' : World}
structure Stand (G : List (Nat × Array Value)) (N : Nat → Nat → Prop) (W : World) : Prop where
  lt : ∀ b o, N b o → b < W.heap.size
  tab : ∀ x ∈ G, ∃ T, W.heap[x.1]? = some (.cells x.2 T (0, 0))
theorem AW.hsat (h : Stand G N W) : HSat (AW G N W) noE (hl []) (blt 0) W := by
  have hno : ∀ i ob, hl [] i = some ob → False := fun i ob h => by have := (hl_some h).1; simp at this
  exact ⟨rfl, rfl, rfl, Nat.le_refl _, fun _ _ _ => rfl, fun _ _ _ => rfl, fun b o hb => h.lt b o hb, fun _ _ _ h => h, fun _ _ h => h, fun x hx => ⟨h.tab x hx, fun h => h⟩, (fun _ _ h => by cases h), (fun _ _ h => by cases h), (fun i hi => by cases hi), (fun _ _ h => by cases h), (fun _ _ h => by cases h),
      fun i ob h => (hno i ob h).elim, fun i ob _ _ h => (hno i ob h).elim, fun i ob _ h => (hno i ob h).elim, fun i j oi oj b h => (hno i oi h).elim⟩
def Sl (N : Nat → Nat → Prop) (W : World) (S : List (Nat × AV)) (a : Act) : Prop := ∀ t v, ls S t = some v → ∃ x, a.tmps[t]? = some x ∧ VRel N noE W v x
theorem Sl.sat {S : List (Nat × AV)} {a : Act} (hs : Sl N W S a) (h : Stand G N W) {m : Nat} (hn : a.tmps.size = m) : Sat (AW G N W) noE ⟨m, ls S, hl [], blt 0⟩ (bare a) W := by
  have hno : ∀ i ob, hl [] i = some ob → False := fun i ob h => by have := (hl_some h).1; simp at this
  exact ⟨AW.hsat h, fun t v ht => by obtain ⟨x, hx, hv⟩ := hs t v ht; exact ⟨x, hx, hv.mono (fun b o hb => ⟨h.lt b o hb, .inl hb, fun i ob hi => (hno i ob hi).elim⟩) (Env.le_refl _) (fun _ _ _ => rfl)⟩, hn, rfl⟩
theorem Sl.kept {S : List (Nat × AV)} {a : Act} (hs : Sl N W S a) (hk : KpN N G W W') : Sl N W' S a := fun t v ht => by
  obtain ⟨x, hx, hv⟩ := hs t v ht
  exact ⟨x, hx, hv.mono (fun _ _ h => h) (Env.le_refl _) hk.1⟩
def offL (S : List (Nat × AV)) (l : List Oper) : Bool := S.all fun x => l.all fun o => match o.dst with
  | some d => !(Nat.beq d x.1)
  | none => true
theorem Sl.frm {S : List (Nat × AV)} {a a' : Act} {l : List Oper} (hs : Sl N W S a) (hf : Frm l a a') (h : offL S l = true) : Sl N W S a' := fun t v ht => by
  obtain ⟨x, hx, hv⟩ := hs t v ht
  refine ⟨x, (hf.2 t fun o ho e => ?_).trans hx, hv⟩
  have := List.all_eq_true.1 (List.all_eq_true.1 h _ (ls_some ht)) o ho
  rw [e] at this
  simp at this
theorem Sl.put {S : List (Nat × AV)} {a : Act} (hs : Sl N W S a) {d : Nat} {y : Value} (h : (S.all fun x => !(Nat.beq d x.1)) = true) : Sl N W S (a.put (some d) y) := fun t v ht => by
  obtain ⟨x, hx, hv⟩ := hs t v ht
  refine ⟨x, (put_frame fun e => ?_).trans hx, hv⟩
  cases e
  have := List.all_eq_true.1 h _ (ls_some ht)
  simp at this
theorem Sl.raw {S : List (Nat × AV)} {a : Act} (hs : Sl N W S a) {t : Nat} {x : Value} (h : a.tmps[t]? = some x) : Sl N W ((t, .v x) :: S) a := fun t' v ht => by
  simp only [ls] at ht
  cases hb : Nat.beq t' t with
  | true =>
    rw [hb] at ht
    cases ht
    rw [Nat.beq_eq] at hb
    subst hb
    exact ⟨x, h, .v x⟩
  | false => rw [hb] at ht; exact hs t' v ht
theorem Sl.less {S S' : List (Nat × AV)} {a : Act} (hs : Sl N W S a) (h : ∀ t v, ls S' t = some v → ls S t = some v) : Sl N W S' a := fun t v ht => hs t v (h t v ht)
theorem Sat.rawslot {A : Amb} {ρ : Env} {σ : AS} {a : Act} {w : World} {t : Nat} {x : Value} (hs : Sat A ρ σ (bare a) w) (h : σ.s t = some (.v x)) : a.tmps[t]? = some x := by
  obtain ⟨y, hy, hv⟩ := hs.slots t _ h
  rw [hv.raw] at hy
  exact hy
theorem AW.next {ρ : Env} {h : Nat → Option AO} {u : Nat → Bool} (H : HSat (AW G N W) ρ h u W') : W.grownBy W' none ∧ KpN N G W W' :=
  ⟨⟨H.os, H.tape, H.output, H.size, fun k hk _ => H.block k hk (fun h => h)⟩, H.keep, fun x hx => by
    obtain ⟨⟨T, h1⟩, h2⟩ := H.tabs x hx
    exact H.block _ (Array.getElem?_eq_some_iff.1 h1).1 h2⟩
def Ns (N : Nat → Nat → Prop) (w : World) (b o : Nat) : Prop := N b o ∧ ∃ x, w.cell? ⟨b, o, none⟩ = some x
theorem VRel.ns {ρ : Env} {av : AV} {x : Value} (h : VRel N ρ W av x) : VRel (Ns N W) ρ W av x := h.mono2 (fun b o x hn hx => ⟨hn, x, hx⟩) (Env.le_refl _) (fun _ _ _ _ h => h)
theorem KpN.ns {w : World} (h : KpN N G W W') : KpN (Ns N w) G W W' := ⟨fun b o hn => h.1 b o hn.1, h.2⟩
theorem Stand.next {w : World} (h : Stand G (Ns N w) w) (hk : KpN (Ns N w) G w W) : Stand G (Ns N w) W := by
  refine ⟨fun b o hn => ?_, fun x hx => by rw [hk.2 x hx]; exact h.tab x hx⟩
  obtain ⟨y, hy⟩ := hn.2
  have : W.cell? ⟨b, o, none⟩ = some y := (hk.1 b o hn).trans hy
  obtain ⟨o', ho, -⟩ := cells_of_cell this
  exact (Array.getElem?_eq_some_iff.1 ho).1
theorem KpN.trans {A B C : World} (h1 : KpN N G A B) (h2 : KpN N G B C) : KpN N G A C := ⟨fun b o hn => (h2.1 b o hn).trans (h1.1 b o hn), fun x hx => (h2.2 x hx).trans (h1.2 x hx)⟩
theorem KpN.of_below {w : World} (h : Stand G N w) (hb : Below w.heap.size w W) : KpN N G w W := by
  refine ⟨fun b o hn => hb.cell (p := ⟨b, o, none⟩) (h.lt b o hn), fun x hx => hb.block _ ?_⟩
  obtain ⟨T, hT⟩ := h.tab x hx
  exact (Array.getElem?_eq_some_iff.1 hT).1
structure It (G : List (Nat × Array Value)) (N : Nat → Nat → Prop) (w : World) (J : World → Prop) (m : Nat) (S : List (Nat × AV)) (a : Act) (W : World) : Prop where
  sl : Sl (Ns N w) W S a
  n : a.tmps.size = m
  d : a.defers = []
  j : J W
  kp : KpN (Ns N w) G w W
variable {w : World} {J : World → Prop} {m : Nat} {S : List (Nat × AV)} {a : Act}
theorem It.sat (h : It G N w J m S a W) (hs : Stand G (Ns N w) w) : Sat (AW G (Ns N w) W) noE ⟨m, ls S, hl [], blt 0⟩ (bare a) W := h.sl.sat (hs.next h.kp) h.n
theorem It.go (h : It G N w J m S a W) {ρ : Env} {σ : AS} {a1 : Act} {W1 : World} {l : List Oper} (hs : Sat (AW G (Ns N w) W) ρ σ (bare a1) W1) (hn : σ.n = m) (hf : Frm l a a1) (ho : offL S l = true) (hJ : ∀ A B, J A → A.grownBy B none → J B) : It G N w J m S a1 W1 := by
  obtain ⟨h1, h2⟩ := AW.next hs.mem
  exact ⟨(h.sl.kept h2).frm hf ho, hs.nt.trans hn, hf.1.trans h.d, hJ _ _ h.j h1, h.kp.trans h2⟩
theorem It.yielded' (h : It G N w J m S a W) {J' : World → Prop} (hj : J' W') (hk : KpN N G W W') : It G N w J' m S a W' :=
  ⟨h.sl.kept hk.ns, h.n, h.d, hj, h.kp.trans hk.ns⟩
theorem It.put (h : It G N w J m S a W) {d : Nat} {y : Value} (hd : (S.all fun x => !(Nat.beq d x.1)) = true) : It G N w J m S (a.put (some d) y) W :=
  ⟨h.sl.put hd, by simp [Act.put, h.n], (put_defers _ _ _).trans h.d, h.j, h.kp⟩
theorem It.less (h : It G N w J m S a W) {S' : List (Nat × AV)} (hl : ∀ t v, ls S' t = some v → ls S t = some v) : It G N w J m S' a W := ⟨h.sl.less hl, h.n, h.d, h.j, h.kp⟩
theorem It.raw (h : It G N w J m S a W) {t : Nat} {x : Value} (hx : a.tmps[t]? = some x) : It G N w J m ((t, .v x) :: S) a W := ⟨h.sl.raw hx, h.n, h.d, h.j, h.kp⟩
theorem It.get (h : It G N w J m S a W) {t : Nat} {x : Value} (hx : ls S t = some (.v x)) : a.tmps[t]? = some x := by
  obtain ⟨y, hy, hv⟩ := h.sl t _ hx
  rw [hv.raw] at hy
  exact hy
end
theorem eval_of {a : Act} {t : Nat} {x : Value} (h : a.tmps[t]? = some x) : a.eval (.tmp t) = x := by simp [Act.eval, Array.getD_eq_getD_getElem?, h]

section
variable {F : Fence} {n : Nat} {P : Program} {ops : Array Oper} {Q : Exit → Act → World → Prop} {a : Act} {W : World} {dst : Option Tmp} {ty : TypeId} {pos : String} {aft : Array Edge} {gd : Option (Nat × Bool)}
theorem wpListIn_one {o : Oper} {rest : List Oper} (hg : o.guard = none) (h : o.wpIn F n P a W (wpListIn F n P ops Q rest) Q) : wpListIn F n P ops Q (o :: rest) a W := by
  unfold wpListIn
  rw [if_pos (by simp [Region.wanted, hg])]
  exact h
theorem wpIn_yield {c x : Operand} {ats : Array TypeId} {l : Nat} {v : Value} (hc : a.eval c = .func (.yield l) #[] #[]) (hx : a.eval x = v) {R : Ending → World → Prop} (hy : YieldAt Fence.wide (n - 1) P l #[v] W R) {K : Act → World → Prop}
    (hK : ∀ e W', R e W' → ∃ b, e = .returned (.bool b) ∧ K (a.put dst (.bool b)) W') : Oper.wpIn Fence.wide n P ⟨dst, .call ⟨.value c, #[x], ats⟩, ty, pos, aft, gd⟩ a W K Q := by
  obtain ⟨fn, tm, as', bo, hy, hR⟩ := hy
  refine ⟨fun _ _ => trivial, ?_⟩
  have hrun : ((⟨dst, .call ⟨.value c, #[x], ats⟩, ty, pos, aft, gd⟩ : Oper).semAt Fence.wide.round a.eval).run P W = .ok (.round l fn tm as' bo) W := by
    show (do let d ← Deferred.ofValue (a.eval c) (#[x].map a.eval); invoke d.target d.args : Sem Next).run P W = _
    rw [hc]
    simp only [List.map_toArray, List.map_cons, List.map_nil, hx]
    exact hy
  rw [hrun, Oper.uponIn_round]
  refine ⟨fun h => (by cases h), hR.mono ?_⟩
  rintro e W' he
  obtain ⟨b, rfl, h⟩ := hK e W' he
  exact h
theorem wpIn_not {x : Operand} {t : TypeId} {b : Bool} (hx : a.eval x = .bool b) {K : Act → World → Prop} (h : K (a.put dst (.bool (!b))) W) : Oper.wpIn Fence.wide n P ⟨dst, .unOp .not t x, ty, pos, aft, gd⟩ a W K Q := by
  refine ⟨fun _ _ => trivial, ?_⟩
  have hrun : ((⟨dst, .unOp .not t x, ty, pos, aft, gd⟩ : Oper).semAt Fence.wide.round a.eval).run P W = .ok (.value (.bool (!b))) W := by
    show (do pure (Next.value (← (Op.unary .not (a.eval x)))) : Sem Next).run P W = _
    refine runv ?_
    rw [hx]
    rfl
  rw [hrun, Oper.uponIn_value]
  exact h
end
end Go.Proofs.YtcojfnjpcpochaaDoor.E
end
section
namespace Go.Proofs.YtcojfnjpcpochaaDoor.E
open Go Go.RowKit Go.Proofs.YtcojfnjpcpochaaDoor.V
attribute [local go_sem] B_size B_append B_extract mk_B B_toList take_drop_len List.length_drop List.length_take sgn32 sgn64 add32 sub32 mul32 add64 sub64 mul64 mul64_8 and32 or32 xor32 and64 or64 xor64 shl32_run shr32_run shl64_run shr64_run not32 not32' xor32_all w_u32_u8 w_u64_u8 w_i64_u8 w_u8_u32 w_u8_u64 w_u32_u64 w_u64_u32 w_u8_u8 w_u32_u32 w_u64_u64
attribute [local go_sem ↓] run_index_B' add32 sub32 mul32 add64 sub64 mul64 mul64_8 and32 or32 xor32 and64 or64 xor64 shl32_run shr32_run shl64_run shr64_run not32 not32' xor32_all w_u32_u8 w_u64_u8 w_i64_u8 w_u8_u32 w_u8_u64 w_u32_u64 w_u64_u32 w_u8_u8 w_u32_u32 w_u64_u64 w_u64_nat w_u32_nat w_u8_nat
set_option maxRecDepth 4000
attribute [local irreducible] sum tag input laidN wstep walkT secretT
abbrev Tx16 := { x : Txw // x.length ≤ 16 }
def encT (x : Tx16) : Value := .string (B x.1)
theorem range_map_succ {α : Type} (f : Nat → α) (k : Nat) : (List.range (k + 1)).map f = (List.range k).map f ++ [f k] := by simp [List.range_succ]
theorem WkL.refl : ∀ ys : List AV, WkL ys ys
  | [] => trivial
  | y :: ys => ⟨.rfl y, WkL.refl ys⟩
theorem wkl_caps {π : Nat → Nat} (x : AV) (hx : AV.ren π x = x) {cs : List AV} (h : AV.renL π cs = cs) : WkL ([x] ++ cs) ((x :: cs).map (AV.ren π)) := by
  rw [List.map_cons, hx, ← renL_eq, h]
  exact WkL.refl _
set_option maxHeartbeats 1000000 in
theorem walks_seq {G : List (Nat × Array Value)} (hm : ShaIn G) {fF fT fS : FuncId} {cF cT cS : List AV} {fr to : Nat → Int} {fst : Nat → Txw} {Lf : Nat → Tx16}
    (h1 : ∀ c : Nat, c < 10 → FC Tryd.prog G fF (.v (.int .i64 (c : Int)) :: cF) [] (.v (.int .i64 (fr c))) []) (h2 : ∀ c : Nat, c < 10 → FC Tryd.prog G fT (.v (.int .i64 (c : Int)) :: cT) [] (.v (.int .i64 (to c))) [])
    (h3 : ∀ c : Nat, c < 10 → FC Tryd.prog G fS (.v (.int .i64 (c : Int)) :: cS) [] (sA (fst c)) []) (b1 : ∀ c, -9223372036854775808 ≤ fr c ∧ fr c ≤ 9223372036854775807) (b2 : ∀ c, -9223372036854775808 ≤ to c ∧ to c ≤ 9223372036854775807)
    (b3 : ∀ c, (fst c).length ≤ 140737488355264) (hL : ∀ c : Nat, c < 10 → (Lf c).1 = walkT c (fr c) (to c) (fst c))
    (r1 : AV.renL (pi [] 0) cF = cF) (r2 : AV.renL (pi [] 0) cT = cT) (r3 : AV.renL (pi [] 0) cS = cS) :
    SeqC Tryd.prog G 68 [.sptr [.fn (.func fF) [] cF], .sptr [.fn (.func fT) [] cT], .sptr [.fn (.func fS) [] cS]] encT ((List.range 10).map Lf) := by
  refine ⟨⟨_, _, Tryd.func68, rfl, rfl⟩, ?_⟩
  intro n w N ρ us hN hT hus hcap l J Jx W hW hJ hJx hY h0
  obtain ⟨S0, hS0⟩ : ∃ S0 : List (Nat × AV), S0 = [(0, .v (.func (.yield l) #[] #[])), (1, .sptr [.fn (.func fF) [] cF]), (2, .sptr [.fn (.func fT) [] cT]), (3, .sptr [.fn (.func fS) [] cS])] := ⟨_, rfl⟩
  have bF := (h1 0 (by decide)).belA.2
  have bT := (h2 0 (by decide)).belA.2
  have bS := (h3 0 (by decide)).belA.2
  have hSt : Stand G (Ns N w) w := ⟨fun b o hn => hN b o hn.1, hT⟩
  have hJ' : ∀ pre A B, J pre A → A.grownBy B none → J pre B := fun pre A B hj hg => hJ pre A B none hj hg (fun r e => by cases e)
  obtain ⟨x1, x2, x3, rfl⟩ : ∃ x1 x2 x3, us = #[x1, x2, x3] := by
    have hs : us.size = 3 := hus
    refine ⟨us[0], us[1], us[2], Array.ext (by simp [hs]) fun i hi _ => ?_⟩
    match i, hi with
    | 0, _ => rfl
    | 1, _ => rfl
    | 2, _ => rfl
    | i + 3, hi => omega
  refine callsIn_of_wp Tryd.func68 rfl trivial ?_ rfl
  have hI0 : It G N w (J []) 24 S0 { tmps := (#[.func (.yield l) #[] #[]] ++ #[x1, x2, x3]) ++ Array.replicate (24 - (#[Value.func (.yield l) #[] #[]] ++ #[x1, x2, x3]).size) undef, defers := [] } W := by
    refine ⟨?_, by simp, rfl, h0, KpN.of_below hSt hW⟩
    have hsl : Sl (Ns N w) w S0 { tmps := (#[.func (.yield l) #[] #[]] ++ #[x1, x2, x3]) ++ Array.replicate (24 - (#[Value.func (.yield l) #[] #[]] ++ #[x1, x2, x3]).size) undef, defers := [] } := by
      subst hS0
      intro t v ht
      have hm' := ls_some ht
      simp only [List.mem_cons, Prod.mk.injEq, List.not_mem_nil, or_false] at hm'
      rcases hm' with ⟨rfl, rfl⟩ | ⟨rfl, rfl⟩ | ⟨rfl, rfl⟩ | ⟨rfl, rfl⟩
      · exact ⟨.func (.yield l) #[] #[], by simp, .v _⟩
      · exact ⟨x1, by simp, ((hcap 0 _ x1 rfl rfl).ns).noE ⟨⟨trivial, bF⟩, trivial⟩⟩
      · exact ⟨x2, by simp, ((hcap 1 _ x2 rfl rfl).ns).noE ⟨⟨trivial, bT⟩, trivial⟩⟩
      · exact ⟨x3, by simp, ((hcap 2 _ x3 rfl rfl).ns).noE ⟨⟨trivial, bS⟩, trivial⟩⟩
    exact hsl.kept (KpN.of_below hSt hW)
  refine wpIn_seq (wpIn_rg Wide.w rfl (A := AW G (Ns N w) W) rfl (K := fun σ => σ.n = 24 ∧ σ.s 6 = some (.v (.int .i64 ((0 : Nat) : Int)))) ?_ (hI0.sat hSt) ?_)
  · subst hS0
    refine Ch.mv rfl rfl ?_
    exact Ch.nil ⟨rfl, rfl⟩
  rintro ρ1 σ1 a1 W1 ⟨n1, k1⟩ s1 f1
  have hI1 : It G N w (J []) 24 ((6, .v (.int .i64 ((0 : Nat) : Int))) :: S0) a1 W1 := (hI0.go s1 n1 f1 (by subst hS0; rfl) (hJ' _)).raw (s1.rawslot k1)
  refine wpIn_block (wpIn_loop (fun a W => ∃ k : Nat, k ≤ 10 ∧ It G N w (J ((List.range k).map Lf)) 24 ((6, .v (.int .i64 (k : Int))) :: S0) a W) (fun a _ => 10 - (intOf (a.eval (.tmp 6))).toNat) ⟨0, by decide, hI1⟩ ?_)
  clear hI0 hI1 s1 f1 n1 k1
  rintro a2 W2 ⟨k, hk, hI2⟩
  have e6 : a2.eval (.tmp 6) = .int .i64 (k : Int) := eval_of (hI2.get rfl)
  refine wpIn_seq (wpIn_rg Wide.w rfl (A := AW G (Ns N w) W2) rfl (K := fun σ => σ.n = 24 ∧ σ.s 7 = some (.v (.bool (decide ((k : Int) < 10))))) ?_ (hI2.sat hSt) ?_)
  · subst hS0
    refine Ch.pu gdN (by exact ⟨rfl, rfl, trivial⟩) (OpS.int rfl (by first | exact wr64 (by omega) | exact rfl)) trivial rfl ?_
    exact Ch.nil ⟨rfl, rfl⟩
  rintro ρ3 σ3 a3 W3 ⟨n3, k3⟩ s3 f3
  have hI3 := hI2.go s3 n3 f3 (by subst hS0; rfl) (hJ' _)
  refine wpIn_seq (wpIn_cond (eval_of (s3.rawslot k3)) ?_)
  by_cases hk10 : k < 10
  · have hd : decide ((k : Int) < 10) = true := by simp; omega
    rw [hd]
    refine wpIn_skip ?_
    refine wpIn_seq (wpIn_block (wpIn_seq (wpIn_rg Wide.w rfl (A := AW G (Ns N w) W3) rfl (K := fun σ => σ.n = 24 ∧ σ.s 5 = some (.v (.int .i64 (k : Int)))) ?_ (hI3.sat hSt) ?_)))
    · subst hS0
      refine Ch.mv rfl rfl ?_
      refine Ch.asg rfl rfl ?_
      exact Ch.nil ⟨rfl, rfl⟩
    rintro ρ4 σ4 a4 W4 ⟨n4, k4⟩ s4 f4
    have hI4 := (hI3.go s4 n4 f4 (by subst hS0; rfl) (hJ' _)).raw (s4.rawslot k4)
    have hw := walk_fc hm k (fr k) (to k) (fst k) (b3 k) (b1 k) (b2 k)
    rw [← hL k hk10] at hw
    have g1 := h1 k hk10
    have g2 := h2 k hk10
    have g3 := h3 k hk10
    have w1 := wkl_caps (.v (.int .i64 (k : Int))) rfl r1
    have w2 := wkl_caps (.v (.int .i64 (k : Int))) rfl r2
    have w3 := wkl_caps (.v (.int .i64 (k : Int))) rfl r3
    refine wpIn_seq (wpIn_rgT Wide.w 12 (by kernel_rfl) (by rfl) (by kernel_rfl) (A := AW G (Ns N w) W4) rfl (K := fun σ => σ.n = 24 ∧ σ.s 9 = some (.v (.func (.yield l) #[] #[])) ∧ σ.s 20 = some (.v (encT (Lf k)))) ?_ (hI4.sat hSt) ?_)
    · subst hS0
      refine Ch.mv rfl rfl ?_
      refine Ch.mv rfl rfl ?_
      refine Ch.pu gdN (by exact ⟨rfl, trivial⟩) (OpS.loadS rfl rfl) trivial rfl ?_
      refine Ch.mv rfl rfl ?_
      refine Ch.callF (g1) gdN (EvL.cons rfl (EvL.cons rfl EvL.nil)) (w1) (by rfl) rfl ?_
      refine Ch.pu gdN (by exact ⟨rfl, trivial⟩) (OpS.loadS rfl rfl) trivial rfl ?_
      refine Ch.mv rfl rfl ?_
      refine Ch.callF (g2) gdN (EvL.cons rfl (EvL.cons rfl EvL.nil)) (w2) (by rfl) rfl ?_
      refine Ch.pu gdN (by exact ⟨rfl, trivial⟩) (OpS.loadS rfl rfl) trivial rfl ?_
      refine Ch.mv rfl rfl ?_
      refine Ch.callF (g3) gdN (EvL.cons rfl (EvL.cons rfl EvL.nil)) (w3) (by rfl) rfl ?_
      refine Ch.callP (hw) gdN (by repeat (first | exact EvL.nil | (apply EvL.cons; exact rfl))) (by exact (And.intro (by first | exact .rfl _ | exact .untip _ _ _ | exact .nil | exact .func _ | exact AV.wk.sh (renL_s _ _) | exact AV.wk.sh (by simp; first | done | fail)) (And.intro (by first | exact .rfl _ | exact .untip _ _ _ | exact .nil | exact .func _ | exact AV.wk.sh (renL_s _ _) | exact AV.wk.sh (by simp; first | done | fail)) (And.intro (by first | exact .rfl _ | exact .untip _ _ _ | exact .nil | exact .func _ | exact AV.wk.sh (renL_s _ _) | exact AV.wk.sh (by simp; first | done | fail)) (And.intro (by first | exact .rfl _ | exact .untip _ _ _ | exact .nil | exact .func _ | exact AV.wk.sh (renL_s _ _) | exact AV.wk.sh (by simp; first | done | fail)) trivial))))) (by rfl) rfl ?_
      exact Ch.nilD ⟨rfl, rfl, rfl⟩ (by kernel_rfl)
    rintro ρ5 σ5 a5 W5 ⟨n5, k9, k20⟩ s5 f5
    have hI5 := hI4.go s5 n5 f5 (by subst hS0; rfl) (hJ' _)
    simp only [List.drop_succ_cons, List.drop_zero]
    refine wpListIn_one rfl (wpIn_yield (eval_of (s5.rawslot k9)) (eval_of (s5.rawslot k20)) (hY _ (Lf k) W5 hI5.j (by simpa using hk10)) ?_)
    have hsz : a5.tmps.size = 24 := hI5.n
    rintro e W6 (⟨rfl, hj6, hk6⟩ | ⟨rfl, hj6⟩)
    · refine ⟨true, rfl, wpListIn_one rfl (wpIn_not (b := true) (eval_of (by simp [Act.put, hsz])) ?_)⟩
      rw [← range_map_succ] at hj6
      have hI6 := (((hI5.yielded' (J' := J ((List.range (k + 1)).map Lf)) hj6 hk6).put (d := 21) (y := .bool true) (by subst hS0; rfl)).put (d := 22) (y := .bool (!true)) (by subst hS0; rfl))
      show Code.wpIn _ _ _ (Code.cond _ _ _) _ _ _
      refine wpIn_cond (t := false) (eval_of (by simp [Act.put, hsz])) ?_
      refine wpIn_skip ?_
      show Code.wpIn _ _ _ (Code.region _ _ _) _ _ _
      have hI7 : It G N w (J ((List.range (k + 1)).map Lf)) 24 ((6, .v (.int .i64 (k : Int))) :: S0) _ W6 := hI6.less (by
        intro t v ht
        simp only [ls] at ht ⊢
        cases h5 : Nat.beq t 5 with
        | true =>
          rw [Nat.beq_eq] at h5
          subst h5
          subst hS0
          cases ht
        | false => exact ht)
      refine wpIn_rg Wide.w rfl (A := AW G (Ns N w) W6) rfl (K := fun σ => σ.n = 24 ∧ σ.s 6 = some (.v (.int .i64 (((k + 1 : Nat) : Nat) : Int)))) ?_ (hI7.sat hSt) ?_
      · subst hS0
        refine Ch.pu gdN (by exact ⟨rfl, rfl, trivial⟩) (OpS.int rfl (by first | exact wr64 (by omega) | exact rfl)) trivial rfl ?_
        refine Ch.mv rfl rfl ?_
        exact Ch.nil ⟨rfl, rfl⟩
      rintro ρ8 σ8 a8 W8 ⟨n8, k8⟩ s8 f8
      have hI8 := ((hI7.less (S' := S0) (fun t v ht => by
        simp only [ls]
        cases h6 : Nat.beq t 6 with
        | true =>
          rw [Nat.beq_eq] at h6
          subst h6
          subst hS0
          cases ht
        | false => exact ht)).go s8 n8 f8 (by subst hS0; rfl) (hJ' _)).raw (s8.rawslot k8)
      show (∃ k : Nat, _ ∧ _) ∧ _
      refine ⟨⟨k + 1, by omega, hI8⟩, ?_⟩
      rw [e6, eval_of (s8.rawslot k8)]
      simp only [intOf]
      omega
    · refine ⟨false, rfl, wpListIn_one rfl (wpIn_not (b := false) (eval_of (by simp [Act.put, hsz])) ?_)⟩
      show Code.wpIn _ _ _ (Code.cond _ _ _) _ _ _
      refine wpIn_cond (t := true) (eval_of (by simp [Act.put, hsz])) ?_
      refine wpIn_ret ?_
      refine ⟨(put_defers _ _ _).trans ((put_defers _ _ _).trans hI5.d), _, run_results _ _ _ _ [] rfl, ⟨_, rfl⟩, .inr ⟨_, ?_, hj6⟩⟩
      rw [← range_map_succ]
      obtain ⟨d, hd⟩ : ∃ d, 10 = k + 1 + d := ⟨10 - (k + 1), by omega⟩
      show List.map Lf (List.range (k + 1)) <+: List.map Lf (List.range 10)
      rw [hd, List.range_add (n := k + 1) (m := d), List.map_append]
      exact List.prefix_append _ _
  · obtain rfl : k = 10 := by omega
    have hd : decide (((10 : Nat) : Int) < 10) = false := rfl
    rw [hd]
    refine wpIn_exit ?_
    simp only [Exit.then, Exit.inBlock, ↓reduceIte]
    exact ⟨hI3.d, _, run_results _ _ _ _ [] rfl, ⟨_, rfl⟩, .inl ⟨_, rfl, hI3.j⟩⟩
end Go.Proofs.YtcojfnjpcpochaaDoor.E
end
