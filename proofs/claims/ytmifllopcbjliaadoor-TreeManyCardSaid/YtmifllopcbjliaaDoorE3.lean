/- Names given anew; what a function promises in abstract words; the rules of the code's forms. -/
import Derived.Test.YtmifllopcbjliaaDoorE2
namespace Go.Proofs.YtmifllopcbjliaaDoor.E
open Go Go.RowKit Go.Proofs.YtmifllopcbjliaaDoor.V

mutual
def AV.ren (π : Nat → Nat) : AV → AV
  | .v x => .v x
  | .agg cs => .agg (AV.renL π cs)
  | .tup cs => .tup (AV.renL π cs)
  | .sl o n cs => .sl (o.map π) n (AV.renL π cs)
  | .arr id off n => .arr (π id) off n
  | .ptr id off => .ptr (π id) off
  | .sptr cs => .sptr (AV.renL π cs)
  | .fn f fs cs => .fn f (AV.renL π fs) (AV.renL π cs)
def AV.renL (π : Nat → Nat) : List AV → List AV
  | [] => []
  | c :: r => AV.ren π c :: AV.renL π r
end
theorem renL_eq (π : Nat → Nat) : ∀ l, AV.renL π l = l.map (AV.ren π)
  | [] => rfl
  | c :: r => by rw [AV.renL, renL_eq π r]; rfl
theorem renL_len (π : Nat → Nat) (l : List AV) : (AV.renL π l).length = l.length := by rw [renL_eq, List.length_map]
theorem renL_get {π : Nat → Nat} {l : List AV} {i : Nat} {c : AV} (h : (AV.renL π l)[i]? = some c) : ∃ c0, l[i]? = some c0 ∧ c = c0.ren π := by
  rw [renL_eq, List.getElem?_map] at h
  cases h0 : l[i]? with
  | none => rw [h0] at h; cases h
  | some c0 => rw [h0] at h; cases h; exact ⟨c0, rfl, rfl⟩
theorem renL_append (π : Nat → Nat) (a b : List AV) : AV.renL π (a ++ b) = AV.renL π a ++ AV.renL π b := by simp only [renL_eq, List.map_append]
theorem renL_raw (π : Nat → Nat) {α : Type} (f : α → Value) (l : List α) : AV.renL π (l.map fun x => .v (f x)) = l.map fun x => .v (f x) := by
  rw [renL_eq, List.map_map]; rfl
theorem renL_raw' (π : Nat → Nat) (l : List Value) : AV.renL π (l.map .v) = l.map .v := by
  rw [renL_eq, List.map_map]; rfl

mutual
/-- all names are of these -/
def AV.bel (u : Nat → Bool) : AV → Prop
  | .v _ => True
  | .agg cs => AV.belL u cs
  | .tup cs => AV.belL u cs
  | .sl o _ cs => (∀ k, o = some k → u k = true) ∧ AV.belL u cs
  | .arr id _ _ => u id = true
  | .ptr id _ => u id = true
  | .sptr cs => AV.belL u cs
  | .fn _ fs cs => AV.belL u fs ∧ AV.belL u cs
def AV.belL (u : Nat → Bool) : List AV → Prop
  | [] => True
  | c :: r => AV.bel u c ∧ AV.belL u r
end
theorem belL_get {u : Nat → Bool} : ∀ {l : List AV} {i : Nat} {c : AV}, AV.belL u l → l[i]? = some c → c.bel u
  | d :: r, 0, c, h, hc => by simp at hc; subst hc; exact h.1
  | d :: r, i + 1, c, h, hc => belL_get (l := r) (i := i) h.2 (by simpa using hc)
  | [], i, c, h, hc => by simp at hc
theorem belL_raw (u : Nat → Bool) {α : Type} (f : α → Value) : ∀ l : List α, AV.belL u (l.map fun x => .v (f x))
  | [] => trivial
  | _ :: r => ⟨trivial, belL_raw u f r⟩
theorem belL_raw' (u : Nat → Bool) : ∀ l : List Value, AV.belL u (l.map .v)
  | [] => trivial
  | _ :: r => ⟨trivial, belL_raw' u r⟩

theorem VRel.ren {N : Nat → Nat → Prop} {ρ2 ρ : Env} {w : World} {π : Nat → Nat} (hb : ∀ i b, ρ2.blk i = some b → ρ.blk (π i) = some b) (ht : ∀ i v, ρ2.tip i = some v → ρ.tip (π i) = some v)
    {v : AV} {x : Value} (h : VRel N ρ2 w v x) : VRel N ρ w (v.ren π) x := by
  induction h with
  | v x => exact .v x
  | agg cs vs hs _ ih => exact .agg _ vs (by rw [renL_len]; exact hs) fun i c x hc hx => by obtain ⟨c0, h0, rfl⟩ := renL_get hc; exact ih i c0 x h0 hx
  | tup cs vs hs _ ih => exact .tup _ vs (by rw [renL_len]; exact hs) fun i c x hc hx => by obtain ⟨c0, h0, rfl⟩ := renL_get hc; exact ih i c0 x h0 hx
  | sl o n cs a cap vals hc _ ho hn hz hm ih =>
    refine .sl _ n _ a cap vals (fun i hi => hc i (by rw [renL_len] at hi; exact hi)) (fun i c hc => by obtain ⟨c0, h0, rfl⟩ := renL_get hc; exact ih i c0 h0) ?_ hn hz hm
    intro k hk
    cases o with
    | none => cases hk
    | some j => cases hk; exact ht _ _ (ho j rfl)
  | arr id off n cap b hb' hn hm => exact .arr _ off n cap b (hb _ _ hb') hn hm
  | ptr id off b hb' => exact .ptr _ off b (hb _ _ hb')
  | sptr cs b off vals hc _ ih => exact .sptr _ b off vals (fun i hi => hc i (by rw [renL_len] at hi; exact hi)) (fun i c hc => by obtain ⟨c0, h0, rfl⟩ := renL_get hc; exact ih i c0 h0)
  | fn f fs cs vs us hs _ hs' _ ih ih' =>
    exact .fn f _ _ vs us (by rw [renL_len]; exact hs) (fun i c x hc hx => by obtain ⟨c0, h0, rfl⟩ := renL_get hc; exact ih i c0 x h0 hx) (by rw [renL_len]; exact hs') (fun i c x hc hx => by obtain ⟨c0, h0, rfl⟩ := renL_get hc; exact ih' i c0 x h0 hx)

theorem VRel.unren {N : Nat → Nat → Prop} {ρ2 ρ : Env} {w : World} {π : Nat → Nat} {u : Nat → Bool} (hb : ∀ i b, u i = true → ρ.blk (π i) = some b → ρ2.blk i = some b) (ht : ∀ i v, u i = true → ρ.tip (π i) = some v → ρ2.tip i = some v)
    {v : AV} {x : Value} (h : VRel N ρ w v x) : ∀ v', v = v'.ren π → v'.bel u → VRel N ρ2 w v' x := by
  induction h with
  | v x => intro v' hv hbl; cases v' <;> simp only [AV.ren, reduceCtorEq] at hv; cases hv; exact .v x
  | agg cs vs hs _ ih =>
    intro v' hv hbl
    cases v' <;> simp only [AV.ren, reduceCtorEq, AV.agg.injEq] at hv
    subst hv
    exact .agg _ vs (by rw [renL_len] at hs; exact hs) fun i c x hc hx => ih i (c.ren π) x (by rw [renL_eq, List.getElem?_map, hc]; rfl) hx c rfl (belL_get hbl hc)
  | tup cs vs hs _ ih =>
    intro v' hv hbl
    cases v' <;> simp only [AV.ren, reduceCtorEq, AV.tup.injEq] at hv
    subst hv
    exact .tup _ vs (by rw [renL_len] at hs; exact hs) fun i c x hc hx => ih i (c.ren π) x (by rw [renL_eq, List.getElem?_map, hc]; rfl) hx c rfl (belL_get hbl hc)
  | sl o n cs a cap vals hc _ ho hn hz hm ih =>
    intro v' hv hbl
    cases v' <;> simp only [AV.ren, reduceCtorEq, AV.sl.injEq] at hv
    obtain ⟨rfl, rfl, rfl⟩ := hv
    refine .sl _ _ _ a cap vals (fun i hi => hc i (by rw [renL_len]; exact hi)) (fun i c hc => ih i (c.ren π) (by rw [renL_eq, List.getElem?_map, hc]; rfl) c rfl (belL_get hbl.2 hc)) ?_ hn hz hm
    rintro k rfl
    exact ht _ _ (hbl.1 k rfl) (ho _ rfl)
  | arr id off n cap b hb' hn hm =>
    intro v' hv hbl
    cases v' <;> simp only [AV.ren, reduceCtorEq, AV.arr.injEq] at hv
    obtain ⟨rfl, rfl, rfl⟩ := hv
    exact .arr _ _ _ _ b (hb _ _ hbl hb') hn hm
  | ptr id off b hb' =>
    intro v' hv hbl
    cases v' <;> simp only [AV.ren, reduceCtorEq, AV.ptr.injEq] at hv
    obtain ⟨rfl, rfl⟩ := hv
    exact .ptr _ _ b (hb _ _ hbl hb')
  | sptr cs b off vals hc _ ih =>
    intro v' hv hbl
    cases v' <;> simp only [AV.ren, reduceCtorEq, AV.sptr.injEq] at hv
    subst hv
    exact .sptr _ b off vals (fun i hi => hc i (by rw [renL_len]; exact hi)) (fun i c hc => ih i (c.ren π) (by rw [renL_eq, List.getElem?_map, hc]; rfl) c rfl (belL_get hbl hc))
  | fn f fs cs vs us hs _ hs' _ ih ih' =>
    intro v' hv hbl
    cases v' <;> simp only [AV.ren, reduceCtorEq, AV.fn.injEq] at hv
    obtain ⟨rfl, rfl, rfl⟩ := hv
    exact .fn _ _ _ vs us (by rw [renL_len] at hs; exact hs) (fun i c x hc hx => ih i (c.ren π) x (by rw [renL_eq, List.getElem?_map, hc]; rfl) hx c rfl (belL_get hbl.1 hc))
      (by rw [renL_len] at hs'; exact hs') (fun i c x hc hx => ih' i (c.ren π) x (by rw [renL_eq, List.getElem?_map, hc]; rfl) hx c rfl (belL_get hbl.2 hc))

def AO.ren (π : Nat → Nat) : AO → AO
  | .cells T cs => .cells T (AV.renL π cs)
  | .tip E sz n => .tip E sz n
def AO.bel (u : Nat → Bool) : AO → Prop
  | .cells _ cs => AV.belL u cs
  | .tip _ _ _ => True

/-- a slot's value may be told with less -/
inductive AV.wk : AV → AV → Prop
  | rfl (x : AV) : AV.wk x x
  | untip (o : Option Nat) (n : Nat) (cs : List AV) : AV.wk (.sl o n cs) (.sl none n cs)
  | nil : AV.wk (.v (.slice none 0 0)) (.sl none 0 [])
  | func (f : Fn) : AV.wk (.v (.func f #[] #[])) (.fn f [] [])
theorem AV.wk.of_eq {x y : AV} (h : x = y) : AV.wk x y := h ▸ .rfl x
theorem VRel.wk {N : Nat → Nat → Prop} {ρ : Env} {w : World} {v v' : AV} {x : Value} (hk : v.wk v') (h : VRel N ρ w v x) : VRel N ρ w v' x := by
  cases hk with
  | rfl => exact h
  | untip o n cs =>
    cases h with
    | sl o n cs a cap vals hc h ho hn hz hm => exact .sl none n cs a cap vals hc h (fun k hk => by cases hk) hn hz hm
  | nil =>
    cases h
    exact .sl none 0 [] none 0 (fun _ => undef) (fun i hi => by cases hi) (fun i c hc => by simp at hc) (fun k hk => by cases hk) (Nat.le_refl _) (fun _ => rfl) (by unfold maxLen; omega)
  | func f =>
    cases h
    exact .fn f [] [] #[] #[] rfl (fun i c x hc _ => by simp at hc) rfl (fun i c x hc _ => by simp at hc)

/-- one state tells what another one does, its names given anew -/
structure Ent (π : Nat → Nat) (nA : Nat) (σ σ' : AS) : Prop where
  n : σ'.n = σ.n
  arg : ∀ i, i < nA → π i = i ∧ σ'.u i = true
  s : ∀ t v', σ'.s t = some v' → v'.bel σ'.u ∧ ∃ v, σ.s t = some v ∧ v.wk (v'.ren π)
  h : ∀ i o', σ'.h i = some o' → σ'.u i = true ∧ o'.bel σ'.u ∧ σ.h (π i) = some (o'.ren π)
  inj : ∀ i j oi oj, σ'.h i = some oi → σ'.h j = some oj → π i = π j → i = j

theorem Ent.sat {π : Nat → Nat} {σ σ' : AS} {A : Amb} (hE : Ent π A.nA σ σ') {ρ : Env} {a : Act} {w : World} (hs : Sat A ρ σ a w) : ∃ ρ', Sat A ρ' σ' a w := by
  let ρ' : Env := ⟨fun i => if σ'.u i = true then ρ.blk (π i) else none, fun i => if σ'.u i = true then ρ.tip (π i) else none⟩
  have hb : ∀ i b, σ'.u i = true → ρ.blk (π i) = some b → ρ'.blk i = some b := fun i b hu h => by show (if _ then _ else _) = _; rw [if_pos hu]; exact h
  have ht : ∀ i v, σ'.u i = true → ρ.tip (π i) = some v → ρ'.tip i = some v := fun i b hu h => by show (if _ then _ else _) = _; rw [if_pos hu]; exact h
  have hb' : ∀ i b, ρ'.blk i = some b → σ'.u i = true ∧ ρ.blk (π i) = some b := fun i b h => by
    have h' : (if σ'.u i = true then ρ.blk (π i) else none) = some b := h
    split at h'
    · exact ⟨‹_›, h'⟩
    · cases h'
  have ht' : ∀ i b, ρ'.tip i = some b → σ'.u i = true ∧ ρ.tip (π i) = some b := fun i b h => by
    have h' : (if σ'.u i = true then ρ.tip (π i) else none) = some b := h
    split at h'
    · exact ⟨‹_›, h'⟩
    · cases h'
  have hat : ∀ (i : Nat) (ob : AO) (b : Nat), ob.at_ ρ' i b → (ob.ren π).at_ ρ (π i) b := fun i ob b h => by
    cases ob with
    | cells => exact (hb' _ _ h).2
    | tip => exact ⟨h.choose, (ht' _ _ h.choose_spec).2⟩
  have hwr : ∀ (i : Nat) (ob : AO) (b o : Nat), ob.wr ρ' i b o → (ob.ren π).wr ρ (π i) b o := fun i ob b o h => by
    cases ob with
    | cells => exact (hb' _ _ h).2
    | tip => exact ⟨h.choose, (ht' _ _ h.choose_spec.1).2, h.choose_spec.2⟩
  have hN : ∀ b o, Nh A σ.h ρ w b o → Nh A σ'.h ρ' w b o := fun b o ⟨h1, h2, h3⟩ => ⟨h1, h2, fun i ob hi hw => h3 _ _ (hE.h i ob hi).2.2 (hwr i ob b o hw)⟩
  have hV : ∀ (v' : AV) (x : Value), v'.bel σ'.u → VRel (Nh A σ.h ρ w) ρ w (v'.ren π) x → VRel (Nh A σ'.h ρ' w) ρ' w v' x := fun v' x hbl h =>
    VRel.mono hN (Env.le_refl ρ') (fun _ _ _ => rfl) (h.unren (u := σ'.u) hb ht v' rfl hbl)
  refine ⟨ρ', ⟨⟨hs.mem.os, hs.mem.tape, hs.mem.output, hs.mem.size, hs.mem.block, hs.mem.keep, hs.mem.nlt, hs.mem.nw, hs.mem.wb, hs.mem.tabs, hs.mem.domB, hs.mem.domT, ?_, fun i b h => (hb' i b h).1, fun i b h => (ht' i b h).1, ?_, ?_, ?_, ?_⟩, ?_, ?_, hs.defers⟩⟩
  · intro i hi
    obtain ⟨h1, h2⟩ := hE.arg i hi
    obtain ⟨-, h3, h4⟩ := hs.mem.fix i hi
    refine ⟨h2, ?_, ?_⟩
    · show (if σ'.u i = true then ρ.blk (π i) else none) = _
      rw [if_pos h2, h1, h3]
    · show (if σ'.u i = true then ρ.tip (π i) else none) = _
      rw [if_pos h2, h1, h4]
  · intro i ob hi
    obtain ⟨hu, hbl, hσ⟩ := hE.h i ob hi
    have := hs.mem.heap _ _ hσ
    cases ob with
    | cells T cs =>
      obtain ⟨b, arr, h1, h2, h3, h4⟩ := this
      refine ⟨b, arr, hb i b hu h1, h2, by rw [renL_len] at h3; exact h3, fun j c x hc hx => ?_⟩
      have := h4 j (c.ren π) x (by rw [renL_eq, List.getElem?_map, hc]; rfl) hx
      exact ⟨hV c x (belL_get hbl hc) this.1, this.2⟩
    | tip E sz n =>
      rcases this with ⟨h1, h2⟩ | ⟨g, cap, cur, h1, h2⟩
      · exact .inl ⟨ht i _ hu h1, h2⟩
      · exact .inr ⟨g, cap, cur, ht i _ hu h1, h2⟩
  · exact fun i ob b o hi hw => hs.mem.own _ _ b o (hE.h i ob hi).2.2 (hwr i ob b o hw)
  · exact fun i ob b hi hw => hs.mem.ownB _ _ b (hE.h i ob hi).2.2 (hat i ob b hw)
  · exact fun i j oi oj b hi hj h1 h2 => hE.inj i j oi oj hi hj (hs.mem.sep _ _ _ _ b (hE.h i oi hi).2.2 (hE.h j oj hj).2.2 (hat i oi b h1) (hat j oj b h2))
  · intro t v' ht
    obtain ⟨hbl, v, hv, hk⟩ := hE.s t v' ht
    obtain ⟨x, hx, hr⟩ := hs.slots t v hv
    exact ⟨x, hx, hV v' x hbl (hr.wk hk)⟩
  · rw [hs.nt, hE.n]

/-- whoever stands in the one state stands in the other -/
def SEnt (A : Amb) (σ σ' : AS) : Prop := ∀ ρ a w, Sat A ρ σ a w → ∃ ρ', Sat A ρ' σ' a w
theorem Ent.se {π : Nat → Nat} {σ σ' : AS} {A : Amb} (hE : Ent π A.nA σ σ') : SEnt A σ σ' := fun _ _ _ hs => hE.sat hs
theorem SEnt.trans {A : Amb} {σ σ' σ'' : AS} (h : SEnt A σ σ') (k : SEnt A σ' σ'') : SEnt A σ σ'' := fun ρ a w hs => by
  obtain ⟨ρ', hs'⟩ := h ρ a w hs
  exact k ρ' a w hs'

/- the rules -/
structure WP (P : Program) (A : Amb) (c : Code) (Q : Exit → AS → Prop) (σ : AS) : Prop where
  run : ∀ ρ a w, Sat A ρ σ a w → c.wp P (fun e a' w' => ∃ σ' ρ', Q e σ' ∧ Sat A ρ' σ' a' w') a w

section
variable {P : Program} {A : Amb} {Q : Exit → AS → Prop} {σ : AS}
theorem WP.mono {c : Code} {Q' : Exit → AS → Prop} (h : WP P A c Q' σ) (hq : ∀ e σ', Q' e σ' → Q e σ') : WP P A c Q σ :=
  ⟨fun ρ a w hs => wp_mono (h.run ρ a w hs) fun _ _ _ ⟨σ', ρ', q, s⟩ => ⟨σ', ρ', hq _ _ q, s⟩⟩
theorem WP.skip (h : Q .normal σ) : WP P A .skip Q σ := ⟨fun ρ _ _ hs => wp_skip ⟨σ, ρ, h, hs⟩⟩
theorem WP.label {l : Nat} (h : Q .normal σ) : WP P A (.label l) Q σ := ⟨fun ρ _ _ hs => wp_label ⟨σ, ρ, h, hs⟩⟩
theorem WP.exit {i : Nat} (h : Q (.exit i) σ) : WP P A (.exit i) Q σ := ⟨fun ρ _ _ hs => wp_exit ⟨σ, ρ, h, hs⟩⟩
theorem WP.goto {i : Nat} (h : Q (.goto i) σ) : WP P A (.goto i) Q σ := ⟨fun ρ _ _ hs => wp_goto ⟨σ, ρ, h, hs⟩⟩
theorem WP.ret (h : Q .ret σ) : WP P A .ret Q σ := ⟨fun ρ _ _ hs => wp_ret ⟨σ, ρ, h, hs⟩⟩
def thn (K : AS → Prop) (Q : Exit → AS → Prop) : Exit → AS → Prop
  | .normal, σ => K σ
  | e, σ => Q e σ
theorem WP.seq {x y : Code} (h : WP P A x (thn (WP P A y Q) Q) σ) : WP P A (.seq x y) Q σ := by
  constructor
  intro ρ a w hs
  refine wp_seq (wp_mono (h.run ρ a w hs) ?_)
  rintro e a' w' ⟨σ', ρ', q, s⟩
  cases e with
  | normal => exact WP.run q ρ' a' w' s
  | _ => exact ⟨σ', ρ', q, s⟩
/-- in the midst a state that tells less -/
theorem WP.from {c : Code} {σ' : AS} (hE : SEnt A σ σ') (h : WP P A c Q σ') : WP P A c Q σ := by
  constructor
  intro ρ a w hs
  obtain ⟨ρ', hs'⟩ := hE ρ a w hs
  exact h.run ρ' a w hs'
def inBlk (i : Nat) (Q : Exit → AS → Prop) : Exit → AS → Prop
  | .exit j, σ => bif Nat.beq j i then Q .normal σ else Q (.exit j) σ
  | e, σ => Q e σ
theorem WP.block {i : Nat} {c : Code} (h : WP P A c (inBlk i Q) σ) : WP P A (.block i c) Q σ := by
  constructor
  intro ρ a w hs
  refine wp_block (wp_mono (h.run ρ a w hs) ?_)
  rintro e a' w' ⟨σ', ρ', q, s⟩
  cases e with
  | exit j =>
    show if j = i then _ else _
    by_cases hj : j = i
    · subst hj
      rw [if_pos rfl]
      have q' : (bif Nat.beq j j then Q .normal σ' else Q (.exit j) σ') := q
      rw [Nat.beq_refl] at q'
      exact ⟨σ', ρ', q', s⟩
    · rw [if_neg hj]
      have q' : (bif Nat.beq j i then Q .normal σ' else Q (.exit j) σ') := q
      rw [show Nat.beq j i = false by rw [← Bool.not_eq_true, Nat.beq_eq]; exact hj] at q'
      exact ⟨σ', ρ', q', s⟩
  | _ => exact ⟨σ', ρ', q, s⟩
theorem Sat.ev {ρ : Env} {a : Act} {w : World} (hs : Sat A ρ σ a w) {x : Operand} {v : AV} (h : σ.ev x = some v) : VRel (Nh A σ.h ρ w) ρ w v (a.eval x) := by
  cases x with
  | tmp t =>
    obtain ⟨y, hy, hv⟩ := hs.slots t v h
    show VRel _ _ _ v (a.tmps.getD t undef)
    rw [Array.getD_eq_getD_getElem?, hy]
    exact hv
  | const c => cases h; exact .v _
  | global g => cases h; exact .v _
  | func f => cases h; exact .v _
theorem WP.cond {x : Operand} {c d : Code} {t : Bool} (hx : σ.ev x = some (.v (.bool t))) (h1 : t = true → WP P A c Q σ) (h2 : t = false → WP P A d Q σ) : WP P A (.cond x c d) Q σ := by
  constructor
  intro ρ a w hs
  have := hs.ev hx
  have hv : a.eval x = .bool t := by generalize a.eval x = y at this; cases this; rfl
  exact wp_cond_split hv (fun ht => (h1 ht).run ρ a w hs) (fun ht => (h2 ht).run ρ a w hs)
theorem WP.cond_true {x : Operand} {c d : Code} (hx : σ.ev x = some (.v (.bool true))) (h1 : WP P A c Q σ) : WP P A (.cond x c d) Q σ := WP.cond hx (fun _ => h1) (fun h => by cases h)
theorem WP.cond_false {x : Operand} {c d : Code} (hx : σ.ev x = some (.v (.bool false))) (h1 : WP P A d Q σ) : WP P A (.cond x c d) Q σ := WP.cond hx (fun h => by cases h) (fun _ => h1)
theorem WP.region {G : List (Nat × Array Value)} {id : Nat} {l : List Oper} {ds : List St} (hG : A.G = G) (h : Chain P G l.toArray (Q .normal) l ds σ) : WP P A (.region id l.toArray false) Q σ :=
  ⟨fun _ρ _ _ hs => wp_region_chain hG (K := Q .normal) (fun ρ' σ' _ _ q s => ⟨σ', ρ', q, s⟩) h hs⟩
theorem WP.drawn {G : List (Nat × Array Value)} {id : Nat} {l : List Oper} {ds : List St} (hm : P.follows .mixedOrders = true) (hG : A.G = G) (h : Chain P G l.toArray (Q .normal) l ds σ) (hc : (edgesOk 0 l && chk l ds) = true) :
    WP P A (.region id l.toArray true) Q σ :=
  ⟨fun _ρ _ _ hs => wp_region_drawn hm hG (K := Q .normal) (fun ρ' σ' _ _ q s => ⟨σ', ρ', q, s⟩) h hc hs⟩
/-- a loop: what holds at a round's head bears a number that each round lowers -/
def Back (A : Amb) (I : Nat → AS → Prop) (k : Nat) (σ : AS) : Prop := ∃ k' σ', k' < k ∧ SEnt A σ σ' ∧ I k' σ'
theorem WP.loop {c : Code} (I : Nat → AS → Prop) {σ0 : AS} (k0 : Nat) (hE : SEnt A σ σ0) (h0 : I k0 σ0) (round : ∀ k σ, I k σ → WP P A c (thn (Back A I k) Q) σ) : WP P A (.loop c) Q σ := by
  constructor
  intro ρ a w hs
  obtain ⟨ρ0, hs0⟩ := hE ρ a w hs
  refine wp_loop_ghost (fun k a w => ∃ σ ρ, I k σ ∧ Sat A ρ σ a w) k0 ⟨σ0, ρ0, h0, hs0⟩ ?_
  rintro k a w ⟨σ, ρ, hI, hs⟩
  refine wp_mono ((round k σ hI).run ρ a w hs) ?_
  rintro e a' w' ⟨σ', ρ', q, s⟩
  cases e with
  | normal =>
    obtain ⟨k', σ'', hk, hE', hI'⟩ := q
    obtain ⟨ρ'', hs''⟩ := hE' ρ' a' w' s
    exact ⟨k', hk, σ'', ρ'', hI', hs''⟩
  | _ => exact ⟨σ', ρ', q, s⟩
end
end Go.Proofs.YtmifllopcbjliaaDoor.E
