/- An abstract reading of a play's state: values deep, memory by entries with names; what an operation comes to in it; a region in whatever order it is drawn. -/
import Derived.Test.YtmifllopcbjliaaDoorM
namespace Go.Proofs.YtmifllopcbjliaaDoor.E
open Go Go.RowKit Go.Proofs.YtmifllopcbjliaaDoor.V

/-- abstract values -/
inductive AV where
  | v (x : Value)
  | agg (cs : List AV)
  | tup (vs : List AV)
  | sl (o : Option Nat) (n : Nat) (cs : List AV)
  | arr (id off n : Nat)
  | ptr (id off : Nat)
  | sptr (cs : List AV)
  | fn (f : Fn) (first caps : List AV)

/-- what the names stand for -/
structure Env where
  blk : Nat → Option Nat
  tip : Nat → Option Value

def Env.le (ρ ρ' : Env) : Prop := (∀ i b, ρ.blk i = some b → ρ'.blk i = some b) ∧ ∀ i v, ρ.tip i = some v → ρ'.tip i = some v
theorem Env.le_refl (ρ : Env) : ρ.le ρ := ⟨fun _ _ h => h, fun _ _ h => h⟩
theorem Env.le_trans {a b c : Env} (h : a.le b) (k : b.le c) : a.le c := ⟨fun _ _ x => k.1 _ _ (h.1 _ _ x), fun _ _ x => k.2 _ _ (h.2 _ _ x)⟩

/-- the value is what the abstract one says; N: cells that nobody writes any more -/
inductive VRel (N : Nat → Nat → Prop) (ρ : Env) (w : World) : AV → Value → Prop
  | v (x : Value) : VRel N ρ w (.v x) x
  | agg (cs : List AV) (vs : Array Value) (hs : vs.size = cs.length) (h : ∀ (i : Nat) (c : AV) (x : Value), cs[i]? = some c → vs[i]? = some x → VRel N ρ w c x) : VRel N ρ w (.agg cs) (.agg vs)
  | tup (cs : List AV) (vs : Array Value) (hs : vs.size = cs.length) (h : ∀ (i : Nat) (c : AV) (x : Value), cs[i]? = some c → vs[i]? = some x → VRel N ρ w c x) : VRel N ρ w (.tup cs) (.tuple vs)
  | sl (o : Option Nat) (n : Nat) (cs : List AV) (a : Option Addr) (cap : Nat) (vals : Nat → Value)
      (hc : ∀ i : Nat, i < cs.length → (vals i).oneCell' = true ∧ ∃ b off, a = some ⟨b, off, none⟩ ∧ w.cell? ⟨b, off + i, none⟩ = some (vals i) ∧ N b (off + i))
      (h : ∀ (i : Nat) (c : AV), cs[i]? = some c → VRel N ρ w c (vals i)) (ho : ∀ k, o = some k → ρ.tip k = some (.slice a n cap)) (hn : n ≤ cap) (hz : a = none → n = 0) (hm : cap ≤ maxLen) : VRel N ρ w (.sl o n cs) (.slice a n cap)
  | arr (id off n cap b : Nat) (hb : ρ.blk id = some b) (hn : n ≤ cap) (hm : cap ≤ maxLen) : VRel N ρ w (.arr id off n) (.slice (some ⟨b, off, none⟩) n cap)
  | ptr (id off b : Nat) (hb : ρ.blk id = some b) : VRel N ρ w (.ptr id off) (.pointer (some ⟨b, off, none⟩))
  | sptr (cs : List AV) (b off : Nat) (vals : Nat → Value) (hc : ∀ i : Nat, i < cs.length → w.cell? ⟨b, off + i, none⟩ = some (vals i) ∧ N b (off + i))
      (h : ∀ (i : Nat) (c : AV), cs[i]? = some c → VRel N ρ w c (vals i)) : VRel N ρ w (.sptr cs) (.pointer (some ⟨b, off, none⟩))
  | fn (f : Fn) (fs cs : List AV) (vs us : Array Value) (hs : vs.size = fs.length) (h : ∀ (i : Nat) (c : AV) (x : Value), fs[i]? = some c → vs[i]? = some x → VRel N ρ w c x)
      (hs' : us.size = cs.length) (h' : ∀ (i : Nat) (c : AV) (x : Value), cs[i]? = some c → us[i]? = some x → VRel N ρ w c x) : VRel N ρ w (.fn f fs cs) (.func f vs us)

theorem VRel.mono {N N' : Nat → Nat → Prop} {ρ ρ' : Env} {w w' : World} (hN : ∀ b o, N b o → N' b o) (hρ : ρ.le ρ') (hw : ∀ b o, N b o → w'.cell? ⟨b, o, none⟩ = w.cell? ⟨b, o, none⟩)
    {av : AV} {x : Value} (h : VRel N ρ w av x) : VRel N' ρ' w' av x := by
  induction h with
  | v x => exact .v x
  | agg cs vs hs _ ih => exact .agg cs vs hs ih
  | tup cs vs hs _ ih => exact .tup cs vs hs ih
  | sl o n cs a cap vals hc _ ho hn hz hm ih =>
    exact .sl o n cs a cap vals (fun i hi => by obtain ⟨h1, b, off, ha, hx, hnn⟩ := hc i hi; exact ⟨h1, b, off, ha, (hw _ _ hnn).trans hx, hN _ _ hnn⟩) ih (fun k hk => hρ.2 _ _ (ho k hk)) hn hz hm
  | arr id off n cap b hb hn hm => exact .arr id off n cap b (hρ.1 _ _ hb) hn hm
  | ptr id off b hb => exact .ptr id off b (hρ.1 _ _ hb)
  | sptr cs b off vals hc _ ih => exact .sptr cs b off vals (fun i hi => ⟨(hw _ _ (hc i hi).2).trans (hc i hi).1, hN _ _ (hc i hi).2⟩) ih
  | fn f fs cs vs us hs _ hs' _ ih ih' => exact .fn f fs cs vs us hs ih hs' ih'

/-- entries of memory -/
inductive AO where
  | cells (T : TypeId) (cs : List AV)
  | tip (E : TypeId) (sz n : Nat)

/-- the entry may write that cell -/
def AO.wr (ρ : Env) (i : Nat) : AO → Nat → Nat → Prop
  | .cells _ _, b, _ => ρ.blk i = some b
  | .tip _ sz n, b, o => ∃ cap, ρ.tip i = some (.slice (some ⟨b, 0, none⟩) n cap) ∧ n * sz ≤ o
/-- the entry's block -/
def AO.at_ (ρ : Env) (i : Nat) : AO → Nat → Prop
  | .cells _ _, b => ρ.blk i = some b
  | .tip _ _ n, b => ∃ cap, ρ.tip i = some (.slice (some ⟨b, 0, none⟩) n cap)
theorem AO.at_of_wr {ρ : Env} {i b o : Nat} {ob : AO} (h : ob.wr ρ i b o) : ob.at_ ρ i b := by
  cases ob with
  | cells => exact h
  | tip => exact ⟨h.choose, h.choose_spec.1⟩

def ORel (N : Nat → Nat → Prop) (ρ : Env) (w : World) (i : Nat) : AO → Prop
  | .cells T cs => ∃ b arr, ρ.blk i = some b ∧ w.heap[b]? = some (.cells arr T (0, 0)) ∧ cs.length ≤ arr.size ∧ ∀ (j : Nat) (c : AV) (x : Value), cs[j]? = some c → arr[j]? = some x → VRel N ρ w c x ∧ x.oneCell' = true
  | .tip E sz n => (ρ.tip i = some (.slice none 0 0) ∧ n = 0) ∨ ∃ g cap cur, ρ.tip i = some (.slice (some ⟨g, 0, none⟩) n cap) ∧ w.heap[g]? = some (.cells cur E (0, 0)) ∧ n ≤ cap ∧ cap ≤ maxLen ∧ cur.size = cap * sz
theorem ORel.lt {N : Nat → Nat → Prop} {ρ : Env} {w : World} {i b : Nat} {ob : AO} (h : ORel N ρ w i ob) (hb : ob.at_ ρ i b) : b < w.heap.size := by
  cases ob with
  | cells T cs =>
    obtain ⟨b', arr, h1, h2, -⟩ := h
    have hb' : ρ.blk i = some b := hb
    rw [h1] at hb'
    cases hb'
    exact (Array.getElem?_eq_some_iff.1 h2).1
  | tip E sz n =>
    obtain ⟨cap, hb⟩ := hb
    rcases h with ⟨h1, -⟩ | ⟨g, cap', cur, h1, h2, -⟩
    · rw [h1] at hb; cases hb
    · rw [h1] at hb
      cases hb
      exact (Array.getElem?_eq_some_iff.1 h2).1
theorem AO.at_mono {ρ ρ' : Env} (hρ : ρ.le ρ') {i b : Nat} {ob : AO} (h : ob.at_ ρ i b) : ob.at_ ρ' i b := by
  cases ob with
  | cells => exact hρ.1 _ _ h
  | tip => exact ⟨h.choose, hρ.2 _ _ h.choose_spec⟩
theorem ORel.at_back {N : Nat → Nat → Prop} {ρ ρ' : Env} {w : World} {i b : Nat} {ob : AO} (hρ : ρ.le ρ') (h : ORel N ρ w i ob) (hb : ob.at_ ρ' i b) : ob.at_ ρ i b := by
  cases ob with
  | cells T cs =>
    obtain ⟨b', arr, h1, -⟩ := h
    have hb' : ρ'.blk i = some b := hb
    rw [hρ.1 _ _ h1] at hb'
    cases hb'
    exact h1
  | tip E sz n =>
    obtain ⟨cap, hb⟩ := hb
    rcases h with ⟨h1, -⟩ | ⟨g, cap', cur, h1, -⟩ <;> rw [hρ.2 _ _ h1] at hb <;> cases hb
    exact ⟨cap, h1⟩
theorem ORel.wr_back {N : Nat → Nat → Prop} {ρ ρ' : Env} {w : World} {i b o : Nat} {ob : AO} (hρ : ρ.le ρ') (h : ORel N ρ w i ob) (hb : ob.wr ρ' i b o) : ob.wr ρ i b o := by
  cases ob with
  | cells T cs => exact h.at_back (ob := .cells T cs) hρ hb
  | tip E sz n =>
    obtain ⟨cap, hb, ho⟩ := hb
    rcases h with ⟨h1, -⟩ | ⟨g, cap', cur, h1, -⟩ <;> rw [hρ.2 _ _ h1] at hb <;> cases hb
    exact ⟨cap, h1, ho⟩
theorem ORel.keep {N N' : Nat → Nat → Prop} {ρ ρ' : Env} {w w' : World} {i : Nat} {ob : AO} (h : ORel N ρ w i ob) (hρ : ρ.le ρ') (hV : ∀ av x, VRel N ρ w av x → VRel N' ρ' w' av x)
    (hb : ∀ b, ob.at_ ρ i b → w'.heap[b]? = w.heap[b]?) : ORel N' ρ' w' i ob := by
  cases ob with
  | cells T cs =>
    obtain ⟨b, arr, h1, h2, h3, h4⟩ := h
    exact ⟨b, arr, hρ.1 _ _ h1, (hb b h1).trans h2, h3, fun j c x hc hx => ⟨hV _ _ (h4 j c x hc hx).1, (h4 j c x hc hx).2⟩⟩
  | tip E sz n =>
    rcases h with ⟨h1, h2⟩ | ⟨g, cap, cur, h1, h2, h3⟩
    · exact .inl ⟨hρ.2 _ _ h1, h2⟩
    · exact .inr ⟨g, cap, cur, hρ.2 _ _ h1, (hb g ⟨cap, h1⟩).trans h2, h3⟩

/-- what a play stands in: the world in which it began, cells that nobody writes, cells that it may write, tables, names' meanings -/
structure Amb where
  w : World
  N : Nat → Nat → Prop
  W : Nat → Nat → Prop
  B : Nat → Prop
  nA : Nat
  G : List (Nat × Array Value)
  ρ : Env

def Nh (A : Amb) (h : Nat → Option AO) (ρ : Env) (w : World) (b o : Nat) : Prop :=
  b < w.heap.size ∧ (A.N b o ∨ A.W b o ∨ A.w.heap.size ≤ b) ∧ ∀ i ob, h i = some ob → ¬ ob.wr ρ i b o

structure HSat (A : Amb) (ρ : Env) (h : Nat → Option AO) (u : Nat → Bool) (w : World) : Prop where
  os : w.os = A.w.os
  tape : w.tape = A.w.tape
  output : w.output = A.w.output
  size : A.w.heap.size ≤ w.heap.size
  block : ∀ b, b < A.w.heap.size → ¬ A.B b → w.heap[b]? = A.w.heap[b]?
  keep : ∀ b o, A.N b o → w.cell? ⟨b, o, none⟩ = A.w.cell? ⟨b, o, none⟩
  nlt : ∀ b o, A.N b o → b < A.w.heap.size
  nw : ∀ b o, A.N b o → ¬ A.W b o
  wb : ∀ b o, A.W b o → A.B b
  tabs : ∀ x ∈ A.G, (∃ T, A.w.heap[x.1]? = some (.cells x.2 T (0, 0))) ∧ ¬ A.B x.1
  domB : ∀ i b, A.ρ.blk i = some b → i < A.nA
  domT : ∀ i v, A.ρ.tip i = some v → i < A.nA
  fix : ∀ i, i < A.nA → u i = true ∧ ρ.blk i = A.ρ.blk i ∧ ρ.tip i = A.ρ.tip i
  usedB : ∀ i b, ρ.blk i = some b → u i = true
  usedT : ∀ i v, ρ.tip i = some v → u i = true
  heap : ∀ i ob, h i = some ob → ORel (Nh A h ρ w) ρ w i ob
  own : ∀ i ob b o, h i = some ob → ob.wr ρ i b o → A.W b o ∨ A.w.heap.size ≤ b
  ownB : ∀ i ob b, h i = some ob → ob.at_ ρ i b → A.B b ∨ A.w.heap.size ≤ b
  sep : ∀ i j oi oj b, h i = some oi → h j = some oj → oi.at_ ρ i b → oj.at_ ρ j b → i = j

theorem HSat.le {A : Amb} {ρ : Env} {h : Nat → Option AO} {u : Nat → Bool} {w : World} (H : HSat A ρ h u w) : A.ρ.le ρ :=
  ⟨fun i b hb => by rw [(H.fix i (H.domB i b hb)).2.1]; exact hb, fun i b hb => by rw [(H.fix i (H.domT i b hb)).2.2]; exact hb⟩
/-- the next state of memory -/
theorem HSat.next {A : Amb} {ρ ρ' : Env} {h h' : Nat → Option AO} {u u' : Nat → Bool} {w w' : World} (H : HSat A ρ h u w)
    (os : w'.os = w.os) (tape : w'.tape = w.tape) (output : w'.output = w.output) (size : w.heap.size ≤ w'.heap.size) (fresh : ∀ i, u i = true → u' i = true ∧ ρ'.blk i = ρ.blk i ∧ ρ'.tip i = ρ.tip i)
    (usedB : ∀ i b, ρ'.blk i = some b → u' i = true) (usedT : ∀ i v, ρ'.tip i = some v → u' i = true)
    (block : ∀ b, b < w.heap.size → (∀ i ob, h i = some ob → ¬ ob.at_ ρ i b) → w'.heap[b]? = w.heap[b]?)
    (cells : ∀ b o, Nh A h ρ w b o → w'.cell? ⟨b, o, none⟩ = w.cell? ⟨b, o, none⟩)
    (own : ∀ i ob b o, h' i = some ob → ob.wr ρ' i b o → (∃ j oj, h j = some oj ∧ oj.wr ρ j b o) ∨ w.heap.size ≤ b)
    (ownB : ∀ i ob b, h' i = some ob → ob.at_ ρ' i b → (∃ j oj, h j = some oj ∧ oj.at_ ρ j b) ∨ w.heap.size ≤ b)
    (sep : ∀ i j oi oj b, h' i = some oi → h' j = some oj → oi.at_ ρ' i b → oj.at_ ρ' j b → i = j)
    (heap : (∀ av x, VRel (Nh A h ρ w) ρ w av x → VRel (Nh A h' ρ' w') ρ' w' av x) → ∀ i ob, h' i = some ob → ORel (Nh A h' ρ' w') ρ' w' i ob) :
    HSat A ρ' h' u' w' ∧ ∀ av x, VRel (Nh A h ρ w) ρ w av x → VRel (Nh A h' ρ' w') ρ' w' av x := by
  have hN : ∀ b o, Nh A h ρ w b o → Nh A h' ρ' w' b o := fun b o ⟨h1, h2, h3⟩ =>
    ⟨Nat.lt_of_lt_of_le h1 size, h2, fun i ob hi hw => (own i ob b o hi hw).elim (fun ⟨j, oj, hj, hwj⟩ => h3 j oj hj hwj) (fun hle => by omega)⟩
  have le : ρ.le ρ' := ⟨fun i b hb => by rw [(fresh i (H.usedB i b hb)).2.1]; exact hb, fun i b hb => by rw [(fresh i (H.usedT i b hb)).2.2]; exact hb⟩
  have hV : ∀ av x, VRel (Nh A h ρ w) ρ w av x → VRel (Nh A h' ρ' w') ρ' w' av x := fun av x hx => hx.mono hN le cells
  refine ⟨⟨os.trans H.os, tape.trans H.tape, output.trans H.output, Nat.le_trans H.size size, ?_, ?_, H.nlt, H.nw, H.wb, H.tabs, H.domB, H.domT, ?_, usedB, usedT, heap hV, ?_, ?_, sep⟩, hV⟩
  · intro b hb hw
    refine (block b (Nat.lt_of_lt_of_le hb H.size) (fun i ob hi hwr => ?_)).trans (H.block b hb hw)
    exact (H.ownB i ob b hi hwr).elim hw (fun hle => by omega)
  · intro b o hn
    refine (cells b o ⟨Nat.lt_of_lt_of_le (H.nlt b o hn) H.size, .inl hn, fun i ob hi hwr => ?_⟩).trans (H.keep b o hn)
    exact (H.own i ob b o hi hwr).elim (H.nw b o hn) (fun hle => by have := H.nlt b o hn; omega)
  · intro i hi
    obtain ⟨h1, h2, h3⟩ := H.fix i hi
    obtain ⟨k1, k2, k3⟩ := fresh i h1
    exact ⟨k1, k2.trans h2, k3.trans h3⟩
  · intro i ob b o hi hwr
    rcases own i ob b o hi hwr with ⟨j, oj, hj, hwj⟩ | hle
    · exact H.own j oj b o hj hwj
    · exact .inr (Nat.le_trans H.size hle)
  · intro i ob b hi hwr
    rcases ownB i ob b hi hwr with ⟨j, oj, hj, hwj⟩ | hle
    · exact H.ownB j oj b hj hwj
    · exact .inr (Nat.le_trans H.size hle)

/-- nothing of memory has changed -/
theorem HSat.same {A : Amb} {ρ : Env} {h : Nat → Option AO} {u : Nat → Bool} {w w' : World} (H : HSat A ρ h u w) (os : w'.os = w.os) (tape : w'.tape = w.tape) (output : w'.output = w.output) (hh : w'.heap = w.heap) :
    HSat A ρ h u w' ∧ ∀ av x, VRel (Nh A h ρ w) ρ w av x → VRel (Nh A h ρ w') ρ w' av x := by
  have hc : ∀ a, w'.cell? a = w.cell? a := fun a => by simp only [World.cell?, hh]
  refine H.next os tape output (by rw [hh]; exact Nat.le_refl _) (fun i hi => ⟨hi, rfl, rfl⟩) H.usedB H.usedT (fun b _ _ => by rw [hh]) (fun b o _ => hc _) (fun i ob b o hi hw => .inl ⟨i, ob, hi, hw⟩) (fun i ob b hi hw => .inl ⟨i, ob, hi, hw⟩) H.sep ?_
  intro hV i ob hi
  exact (H.heap i ob hi).keep (Env.le_refl ρ) hV (fun b _ => by rw [hh])

/-- names' slots and entries -/
structure AS where
  n : Nat
  s : Nat → Option AV
  h : Nat → Option AO
  u : Nat → Bool

structure Sat (A : Amb) (ρ : Env) (σ : AS) (a : Act) (w : World) : Prop where
  mem : HSat A ρ σ.h σ.u w
  slots : ∀ t v, σ.s t = some v → ∃ x, a.tmps[t]? = some x ∧ VRel (Nh A σ.h ρ w) ρ w v x
  nt : a.tmps.size = σ.n
  defers : a.defers = []

def upd {α : Type} (f : Nat → Option α) (k : Nat) (x : Option α) : Nat → Option α := fun i => bif Nat.beq i k then x else f i
theorem upd_same {α : Type} (f : Nat → Option α) (k : Nat) (x : Option α) : upd f k x k = x := by simp [upd]
theorem upd_ne {α : Type} (f : Nat → Option α) {k i : Nat} (x : Option α) (h : i ≠ k) : upd f k x i = f i := by
  have : Nat.beq i k = false := by rw [← Bool.not_eq_true, Nat.beq_eq]; exact h
  simp [upd, this]
theorem upd_eq_some {α : Type} {f : Nat → Option α} {k i : Nat} {x : Option α} {y : α} (h : upd f k x i = some y) : (i = k ∧ x = some y) ∨ (i ≠ k ∧ f i = some y) := by
  by_cases hi : i = k
  · subst hi; rw [upd_same] at h; exact .inl ⟨rfl, h⟩
  · rw [upd_ne f x hi] at h; exact .inr ⟨hi, h⟩
theorem upd_comm {α : Type} (f : Nat → Option α) {k j : Nat} (x y : Option α) (h : k ≠ j) : upd (upd f k x) j y = upd (upd f j y) k x := by
  funext i
  by_cases h1 : i = k
  · subst h1; rw [upd_ne _ _ h, upd_same, upd_same]
  · by_cases h2 : i = j
    · subst h2; rw [upd_same, upd_ne _ _ h1, upd_same]
    · rw [upd_ne _ _ h2, upd_ne _ _ h1, upd_ne _ _ h1, upd_ne _ _ h2]
end Go.Proofs.YtmifllopcbjliaaDoor.E
