import Derived.Test.YtmmoadhjlgbmhaaDoorZed87f923
import Derived.Test.YtmmoadhjlgbmhaaDoorProg
import Derived.Test.YtmmoadhjlgbmhaaDoorZ6cf0c1ef
section
/- Functions as values: variables that nobody writes any more, closures, calls of them; nothing as a row to append to. -/
namespace Go.Proofs.YtmmoadhjlgbmhaaDoor.E
open Go Go.RowKit Go.Proofs.YtmmoadhjlgbmhaaDoor.V
section
variable {P : Program} {G : List (Nat × Array Value)} {dst : Option Tmp} {ty : TypeId} {pos : String} {aft : Array Edge} {gd : Option (Nat × Bool)}
/-- a variable with a value that nobody writes any more -/
theorem OpS.boxS {T : TypeId} {x : Operand} {y : AV} : OpS P G ⟨dst, .box T x, ty, pos, aft, gd⟩ [(x, y)] [] ⟨some (.sptr (cellsA y)), [], []⟩ := by
  refine OpS.act fun A ρ σ a w _ h hp hu hs => ?_
  obtain ⟨c1, c2⟩ := cellsA_rel (hs.ev h.1)
  obtain ⟨k1, k2, k3⟩ := hs.mem.grow (w' := w.alloc (.cells (a.eval x).cells T)) rfl rfl rfl (by simp) (fun k hk => Below.heap_alloc w _ k hk)
  refine ⟨.pointer (some ⟨w.heap.size, 0, none⟩), w.alloc (.cells (a.eval x).cells T), ρ, .inl ?_, k1, k2, fun v hv => by
    cases hv
    have hgd : ∀ i, i < (cellsA y).length → (a.eval x).cells[i]? = some ((a.eval x).cells.getD i undef) := fun i hi => by
      have : i < (a.eval x).cells.size := by omega
      simp [Array.getD_eq_getD_getElem?, this]
    refine .sptr (cellsA y) w.heap.size 0 (fun i => (a.eval x).cells.getD i undef) (fun i hi => ⟨?_, k3 _ _ (Nat.le_refl _) (by simp)⟩) (fun i c hc => ?_)
    · rw [cell_of_row _ w.heap.size (0 + i) (a.eval x).cells T (0, 0) (heap_alloc_new w _), Nat.zero_add]
      exact hgd i hi
    · exact k2 _ _ (c2 i c _ hc (hgd i (List.getElem?_eq_some_iff.1 hc).1))⟩
  refine runv (s := Instr.box T (a.eval x)) ?_
  simp [Instr.box, newVar, newRow, Sem.run_bind, Sem.run_pure, Result.andThen_ok]
theorem OpS.makeFunc {fn : Fn} {xs : List Operand} {ys : List AV} (hl : xs.length = ys.length) : OpS P G ⟨dst, .makeFunc fn #[] xs.toArray, ty, pos, aft, gd⟩ (xs.zip ys) [] ⟨some (.fn fn [] ys), [], []⟩ :=
  OpS.still fun A ρ σ a w _ h _ hs => ⟨.func fn #[] (xs.map a.eval).toArray, by
    have e : execOp a.eval ⟨dst, .makeFunc fn #[] xs.toArray, ty, pos, aft, gd⟩ = (do pure (Next.value (← Instr.makeFunc fn (#[].map a.eval) (xs.toArray.map a.eval)))) := rfl
    rw [e]
    refine runv ?_
    simp [Instr.makeFunc], .fn fn [] ys _ _ rfl (fun i c x hc => by simp at hc) (by simp [hl]) (fun i c x hc hx => by
      rw [List.getElem?_toArray, List.getElem?_map] at hx
      cases hxi : xs[i]? with
      | none => rw [hxi] at hx; cases hx
      | some o => rw [hxi] at hx; cases hx; exact ev_ops hs h i o c hxi hc)⟩
/-- a call of a closure -/
theorem OpS.callF {f : FuncId} {args : List AV} {H H' : List (Option AO)} {res : AV} (F : FC P G f args H res H') (old : List Nat) (base : Nat) (hol : old.length = H.length) (hnd : old.Nodup) (hlt : ∀ x ∈ old, x < base)
    {c : Operand} {xs : List Operand} {ys caps : List AV} (ho : xs.length = ys.length) (hwk : WkL (ys ++ caps) (args.map (AV.ren (pi old base)))) {ats : Array TypeId} :
    OpS P G ⟨dst, .call ⟨.value c, xs.toArray, ats⟩, ty, pos, aft, gd⟩ ((c :: xs).zip (.fn (.func f) [] caps :: ys)) (hpl (pi old base) old H) (callEff old base res H.length H') := by
  constructor
  intro A ρ σ a w K Q hG h1 h2 h3 hd hs hK
  obtain ⟨fn, cd, hf, hname, hb⟩ := F.enter
  have hcv := hs.ev h1.1
  obtain ⟨us, hus, hcap, hev⟩ : ∃ us : Array Value, us.size = caps.length ∧ (∀ (i : Nat) (c : AV) (x : Value), caps[i]? = some c → us[i]? = some x → VRel (Nh A σ.h ρ w) ρ w c x) ∧ a.eval c = .func (.func f) #[] us := by
    generalize a.eval c = v at hcv
    cases hcv with
    | fn f' fs cs vs us hs1 k1 hs2 k2 =>
      refine ⟨us, hs2, k2, ?_⟩
      obtain rfl := Array.eq_empty_of_size_eq_zero (by simpa using hs1)
      rfl
  have hrun : (execOp a.eval ⟨dst, .call ⟨.value c, xs.toArray, ats⟩, ty, pos, aft, gd⟩).run P w = .ok (.enter f ((xs.map a.eval).toArray ++ us)) w := by
    have := run_enter hf hname hb ((xs.map a.eval).toArray ++ us) w
    show (do let d ← Deferred.ofValue (a.eval c) (xs.toArray.map a.eval); invoke d.target d.args : Sem Next).run P w = _
    rw [hev]
    show (callFunc f (#[] ++ xs.toArray.map a.eval ++ us)).run P w = _
    simpa using this
  unfold Oper.wp
  rw [hrun, Oper.upon_enter]
  refine (call_sat F hol hnd hlt hG hs h2 h3 hd (vs := (xs.map a.eval).toArray ++ us) (ys := ys ++ caps) (by simp [ho, hus]) ?_ hwk).mono ?_
  · intro i y x hy hx
    by_cases hi : i < ys.length
    · rw [List.getElem?_append_left hi] at hy
      rw [Array.getElem?_append_left (by simp [ho]; exact hi), List.getElem?_toArray, List.getElem?_map] at hx
      cases hxi : xs[i]? with
      | none => rw [hxi] at hx; cases hx
      | some o => rw [hxi] at hx; cases hx; exact ev_ops hs h1.2 i o y hxi hy
    · rw [List.getElem?_append_right (by omega)] at hy
      rw [Array.getElem?_append_right (by simp [ho]; omega)] at hx
      simp only [List.size_toArray, List.length_map, ho] at hx
      exact hcap _ y x hy hx
  · rintro e w' ⟨v, ρ', rfl, hs'⟩
    exact hK _ _ ρ' hs'
end
section
variable {P : Program} {G : List (Nat × Array Value)} {l r : List Oper} {K : AS → Prop} {n : Nat} {s : Nat → Option AV} {h : Nat → Option AO} {u : Nat → Bool} {d : Tmp} {ty : TypeId} {pos : String} {aft : Array Edge} {gd : Option (Nat × Bool)} {D : Bool} {acc : List St}
theorem Ch.mf {fn : Fn} {xs : List Operand} {ys : List AV} (hg : GdOk l.toArray ⟨some d, .makeFunc fn #[] xs.toArray, ty, pos, aft, gd⟩ ⟨n, s, h, u⟩ true) (hev : EvL ⟨n, s, h, u⟩ xs ys) (hd : Nat.blt d n = true)
    (hr : Ch P G l D K (⟨true, xs.zip ys, [], ⟨some (.fn fn [] ys), [], []⟩⟩ :: acc) r ⟨n, upd s d (some (.fn fn [] ys)), h, u⟩) :
    Ch P G l D K acc (⟨some d, .makeFunc fn #[] xs.toArray, ty, pos, aft, gd⟩ :: r) ⟨n, s, h, u⟩ :=
  Ch.pul hg hev (OpS.makeFunc hev.ok.2) hd hr
/-- a call of a closure that only computes -/
theorem Ch.callF {f : FuncId} {args : List AV} {res : AV} (F : FC P G f args [] res []) {c : Operand} {xs : List Operand} {ys caps : List AV} {ats : Array TypeId}
    (hg : GdOk l.toArray ⟨some d, .call ⟨.value c, xs.toArray, ats⟩, ty, pos, aft, gd⟩ ⟨n, s, h, u⟩ true) (hev : EvL ⟨n, s, h, u⟩ (c :: xs) (.fn (.func f) [] caps :: ys)) (hwk : WkL (ys ++ caps) (args.map (AV.ren (pi [] 0)))) {res' : AV} (hres : res.ren (pi [] 0) = res') (hd : Nat.blt d n = true)
    (hr : Ch P G l D K (⟨true, (c :: xs).zip (.fn (.func f) [] caps :: ys), [], ⟨some res', [], []⟩⟩ :: acc) r ⟨n, upd s d (some res'), h, u⟩) :
    Ch P G l D K acc (⟨some d, .call ⟨.value c, xs.toArray, ats⟩, ty, pos, aft, gd⟩ :: r) ⟨n, s, h, u⟩ := by
  subst hres
  have hlen : xs.length = ys.length := by have := hev.ok.2; simpa using this
  exact Ch.cons (st := ⟨true, (c :: xs).zip (.fn (.func f) [] caps :: ys), [], ⟨some (res.ren (pi [] 0)), [], []⟩⟩) ⟨hg, fun _ => ⟨OpS.callF F [] 0 rfl (by simp) (by simp) hlen hwk, hev.ok.1, trivial, trivial, fun t ht => by cases ht; exact Nat.blt_eq.mp hd⟩, fun h => nomatch h⟩ hr
end
/-- an entry is forgotten: its cells are never written again -/
theorem HSat.drop {A : Amb} {ρ : Env} {h : Nat → Option AO} {u : Nat → Bool} {w : World} (H : HSat A ρ h u w) (id : Nat) : HSat A ρ (upd h id none) u w ∧ ∀ av x, VRel (Nh A h ρ w) ρ w av x → VRel (Nh A (upd h id none) ρ w) ρ w av x := by
  have hold : ∀ i ob, upd h id none i = some ob → h i = some ob := fun i ob hi => by
    rcases upd_eq_some hi with ⟨_, he⟩ | ⟨_, he⟩
    · cases he
    · exact he
  exact H.next (w' := w) (ρ' := ρ) (u' := u) rfl rfl rfl (Nat.le_refl _) (fun i hi => ⟨hi, rfl, rfl⟩) H.usedB H.usedT (fun _ _ _ => rfl) (fun _ _ _ => rfl)
    (fun i ob b o hi hw => .inl ⟨i, ob, hold i ob hi, hw⟩) (fun i ob b hi hw => .inl ⟨i, ob, hold i ob hi, hw⟩) (fun i j oi oj b hi hj => H.sep i j oi oj b (hold i oi hi) (hold j oj hj))
    (fun hV i ob hi => (H.heap i ob (hold i ob hi)).keep (Env.le_refl _) hV (fun _ _ => rfl))
/-- what an entry holds, told in other words -/
theorem HSat.recell {A : Amb} {ρ : Env} {h : Nat → Option AO} {u : Nat → Bool} {w : World} (H : HSat A ρ h u w) {id : Nat} {T : TypeId} {cs cs' : List AV} (hid : h id = some (.cells T cs)) (hl : cs'.length ≤ cs.length)
    (hc : ∀ (j : Nat) (c c' : AV) (x : Value), cs[j]? = some c → cs'[j]? = some c' → VRel (Nh A h ρ w) ρ w c x → VRel (Nh A h ρ w) ρ w c' x) :
    HSat A ρ (upd h id (some (.cells T cs'))) u w ∧ ∀ av x, VRel (Nh A h ρ w) ρ w av x → VRel (Nh A (upd h id (some (.cells T cs'))) ρ w) ρ w av x := by
  have hold : ∀ i ob, upd h id (some (.cells T cs')) i = some ob → (i = id ∧ ob = .cells T cs') ∨ (i ≠ id ∧ h i = some ob) := fun i ob hi => by
    rcases upd_eq_some hi with ⟨h1, he⟩ | ⟨h1, he⟩
    · cases he; exact .inl ⟨h1, rfl⟩
    · exact .inr ⟨h1, he⟩
  have old2 : ∀ i ob, upd h id (some (.cells T cs')) i = some ob → ∃ ob', h i = some ob' ∧ (∀ b, ob.at_ ρ i b → ob'.at_ ρ i b) ∧ ∀ b o, ob.wr ρ i b o → ob'.wr ρ i b o := fun i ob hi => by
    rcases hold i ob hi with ⟨rfl, rfl⟩ | ⟨_, he⟩
    · exact ⟨_, hid, fun _ h => h, fun _ _ h => h⟩
    · exact ⟨_, he, fun _ h => h, fun _ _ h => h⟩
  refine H.next (w' := w) (ρ' := ρ) (u' := u) rfl rfl rfl (Nat.le_refl _) (fun i hi => ⟨hi, rfl, rfl⟩) H.usedB H.usedT (fun _ _ _ => rfl) (fun _ _ _ => rfl)
    (fun i ob b o hi hw => by obtain ⟨ob', h1, _, h3⟩ := old2 i ob hi; exact .inl ⟨i, ob', h1, h3 b o hw⟩) (fun i ob b hi hw => by obtain ⟨ob', h1, h2, _⟩ := old2 i ob hi; exact .inl ⟨i, ob', h1, h2 b hw⟩)
    (fun i j oi oj b hi hj h1 h2 => by
      obtain ⟨oi', k1, k2, _⟩ := old2 i oi hi
      obtain ⟨oj', m1, m2, _⟩ := old2 j oj hj
      exact H.sep i j oi' oj' b k1 m1 (k2 b h1) (m2 b h2))
    (fun hV i ob hi => ?_)
  rcases hold i ob hi with ⟨rfl, rfl⟩ | ⟨_, he⟩
  · obtain ⟨b, arr, k1, k2, k3, k4⟩ := H.heap i _ hid
    refine ⟨b, arr, k1, k2, by omega, fun j c' x hc' hx => ?_⟩
    have hj := (List.getElem?_eq_some_iff.1 hc').1
    obtain ⟨c, hcj⟩ : ∃ c, cs[j]? = some c := ⟨_, List.getElem?_eq_getElem (by omega)⟩
    exact ⟨hV _ _ (hc j c c' x hcj hc' (k4 j c x hcj hx).1), (k4 j c x hcj hx).2⟩
  · exact (H.heap i ob he).keep (Env.le_refl _) hV (fun _ _ => rfl)
section
variable {A : Amb} {n : Nat} {s : Nat → Option AV} {h : Nat → Option AO} {u : Nat → Bool}
/-- a variable that nobody writes any more -/
theorem SEnt.frz {t id : Nat} {T : TypeId} {cs : List AV} (hs : s t = some (.ptr id 0)) (hh : h id = some (.cells T cs)) : SEnt A ⟨n, s, h, u⟩ ⟨n, upd s t (some (.sptr cs)), upd h id none, u⟩ := by
  intro ρ a w hst
  obtain ⟨x, hx, hv⟩ := hst.slots t _ hs
  obtain ⟨b', arr, h1, h2, h3, h4⟩ := hst.mem.heap id _ hh
  obtain ⟨m1, m2⟩ := hst.mem.drop id
  refine ⟨ρ, m1, fun t' v' ht' => ?_, hst.nt, hst.defers⟩
  rcases upd_eq_some (f := s) ht' with ⟨rfl, he⟩ | ⟨_, he⟩
  · cases he
    cases hv with
    | ptr _ _ b hb =>
      obtain rfl : b = b' := by rw [hb] at h1; exact Option.some.inj h1
      refine ⟨_, hx, .sptr cs b 0 (fun i => arr.getD i undef) (fun i hi => ⟨?_, ?_⟩) (fun i c hc => ?_)⟩
      · have hlt : i < arr.size := by omega
        rw [cell_of_row w b (0 + i) arr T (0, 0) h2, Nat.zero_add]
        simp [Array.getD_eq_getD_getElem?, hlt]
      · refine ⟨(Array.getElem?_eq_some_iff.1 h2).1, .inr (hst.mem.own id _ b (0 + i) hh hb), fun i' ob hi' hw => ?_⟩
        rcases upd_eq_some (f := h) hi' with ⟨_, he⟩ | ⟨hne, he⟩
        · cases he
        · exact hne (hst.mem.sep i' id ob _ b he hh (AO.at_of_wr hw) hb)
      · have hi := (List.getElem?_eq_some_iff.1 hc).1
        have hlt : i < arr.size := by omega
        exact m2 _ _ (h4 i c _ hc (by simp [Array.getD_eq_getD_getElem?, hlt])).1
  · obtain ⟨y, hy, hw⟩ := hst.slots t' v' he
    exact ⟨y, hy, m2 _ _ hw⟩
/-- nothing, as a row that may be appended to -/
theorem SEnt.nilTip {t : Nat} (c : Nat) (E : TypeId) (sz : Nat) (hs : s t = some (.v (.slice none 0 0))) (hu : u c = false) : SEnt A ⟨n, s, h, u⟩ ⟨n, upd s t (some (.sl (some c) 0 [])), upd h c (some (.tip E sz 0)), nuU u [c]⟩ := by
  intro ρ a w hst
  let ρ' : Env := ⟨ρ.blk, upd ρ.tip c (some (.slice none 0 0))⟩
  have hid : ρ'.tip c = some (.slice none 0 0) := upd_same _ _ _
  obtain ⟨m1, m2⟩ := hst.mem.extend (ρ' := ρ') (ob := .tip E sz 0) (w' := w) hu (fun i hi => ⟨rfl, upd_ne _ _ hi⟩) rfl rfl rfl (Nat.le_refl _) (fun k hk => rfl) (fun b ⟨cap, hb⟩ => by rw [hid] at hb; cases hb) (fun _ => .inl ⟨hid, rfl⟩)
  refine ⟨ρ', m1, fun t' v' ht' => ?_, hst.nt, hst.defers⟩
  rcases upd_eq_some (f := s) ht' with ⟨rfl, he⟩ | ⟨_, he⟩
  · cases he
    obtain ⟨x, hx, hv⟩ := hst.slots t' _ hs
    rw [hv.raw] at hx
    exact ⟨_, hx, .sl _ _ _ _ _ (fun _ => undef) (fun i hi => by cases hi) (fun i c hc => by simp at hc) (fun k hk => by cases hk; exact hid) (Nat.le_refl _) (fun _ => rfl) (by unfold maxLen; omega)⟩
  · obtain ⟨y, hy, hw⟩ := hst.slots t' v' he
    exact ⟨y, hy, m2 _ _ hw⟩
/-- the same, of nothing that lies in an entry -/
theorem SEnt.nilCell {id off : Nat} {T : TypeId} {cs : List AV} (c : Nat) (E : TypeId) (sz : Nat) (hh : h id = some (.cells T cs)) (hc : cs[off]? = some (.v (.slice none 0 0))) (hu : u c = false) (hne : (Nat.beq c id) = false) :
    SEnt A ⟨n, s, h, u⟩ ⟨n, s, upd (upd h c (some (.tip E sz 0))) id (some (.cells T (cs.set off (.sl (some c) 0 [])))), nuU u [c]⟩ := by
  intro ρ a w hst
  have hne' : id ≠ c := fun e => by subst e; simp at hne
  let ρ' : Env := ⟨ρ.blk, upd ρ.tip c (some (.slice none 0 0))⟩
  have hid : ρ'.tip c = some (.slice none 0 0) := upd_same _ _ _
  obtain ⟨m1, m2⟩ := hst.mem.extend (ρ' := ρ') (ob := .tip E sz 0) (w' := w) hu (fun i hi => ⟨rfl, upd_ne _ _ hi⟩) rfl rfl rfl (Nat.le_refl _) (fun k hk => rfl) (fun b ⟨cap, hb⟩ => by rw [hid] at hb; cases hb) (fun _ => .inl ⟨hid, rfl⟩)
  obtain ⟨k1, k2⟩ := m1.recell (id := id) (T := T) (cs := cs) (cs' := cs.set off (.sl (some c) 0 [])) (by rw [upd_ne _ _ hne']; exact hh) (by simp) (fun j x x' y hx hx' hv => by
    by_cases hj : j = off
    · subst hj
      rw [hc] at hx
      cases hx
      have hlt := (List.getElem?_eq_some_iff.1 hc).1
      rw [List.getElem?_set_self hlt] at hx'
      cases hx'
      rw [hv.raw]
      exact .sl _ _ _ _ _ (fun _ => undef) (fun i hi => by cases hi) (fun i c hc => by simp at hc) (fun k hk => by cases hk; exact hid) (Nat.le_refl _) (fun _ => rfl) (by unfold maxLen; omega)
    · rw [List.getElem?_set_ne (fun e => hj e.symm), hx] at hx'
      cases hx'
      exact hv)
  exact ⟨ρ', k1, fun t' v' ht' => by obtain ⟨y, hy, hw⟩ := hst.slots t' v' ht'; exact ⟨y, hy, k2 _ _ (m2 _ _ hw)⟩, hst.nt, hst.defers⟩
end
end Go.Proofs.YtmmoadhjlgbmhaaDoor.E
end
section
/- Calls of functions that change entries; results with entries. -/
namespace Go.Proofs.YtmmoadhjlgbmhaaDoor.E
open Go Go.RowKit Go.Proofs.YtmmoadhjlgbmhaaDoor.V
@[simp] theorem pi_n (b j : Nat) : pi [] b j = b + j := rfl
@[simp] theorem pi_0 (o : Nat) (os : List Nat) (b : Nat) : pi (o :: os) b 0 = o := rfl
@[simp] theorem pi_s (o : Nat) (os : List Nat) (b j : Nat) : pi (o :: os) b (j + 1) = pi os b j := by
  by_cases h : j < os.length
  · rw [pi_lt (by simp; omega), pi_lt h]; rfl
  · rw [pi_ge (by simp; omega), pi_ge (by omega)]
    simp
@[simp] theorem pi_1 (o : Nat) (os : List Nat) (b : Nat) : pi (o :: os) b 1 = pi os b 0 := pi_s o os b 0
@[simp] theorem pi_2 (o : Nat) (os : List Nat) (b : Nat) : pi (o :: os) b 2 = pi os b 1 := pi_s o os b 1
@[simp] theorem pi_3 (o : Nat) (os : List Nat) (b : Nat) : pi (o :: os) b 3 = pi os b 2 := pi_s o os b 2
@[simp] theorem pi_4 (o : Nat) (os : List Nat) (b : Nat) : pi (o :: os) b 4 = pi os b 3 := pi_s o os b 3
/-- what a call makes of the entries: those that were, then new ones -/
def chOld (π : Nat → Nat) : List Nat → List (Option AO) → List (Nat × Option AO)
  | o :: os, x :: H => (o, x.map (AO.ren π)) :: chOld π os H
  | _, _ => []
def chNew (π : Nat → Nat) : Nat → List (Option AO) → List (Nat × Option AO)
  | b, x :: H => (b, x.map (AO.ren π)) :: chNew π (b + 1) H
  | _, [] => []
def nuNew : Nat → List (Option AO) → List Nat
  | b, _ :: H => b :: nuNew (b + 1) H
  | _, [] => []
theorem chNew_eq (π : Nat → Nat) : ∀ (H : List (Option AO)) (k : Nat) (b : Nat), (∀ j, j < H.length → π (k + j) = b + j) → (List.range H.length).map (fun j => (π (k + j), ((H[j]?).join).map (AO.ren π))) = chNew π b H
  | [], _, _, _ => rfl
  | x :: H, k, b, h => by
    rw [List.length_cons, List.range_succ_eq_map, List.map_cons, List.map_map]
    show _ = (b, _) :: chNew π (b + 1) H
    rw [← chNew_eq π H (k + 1) (b + 1) (fun j hj => by have := h (j + 1) (by simp; omega); rw [show k + 1 + j = k + (j + 1) by omega, this]; omega)]
    have h0 := h 0 (by simp)
    simp only [Nat.add_zero] at h0
    rw [Nat.add_zero, h0]
    congr 1
    refine List.map_congr_left fun j _ => ?_
    show (π (k + (j + 1)), _) = (π (k + 1 + j), _)
    rw [show k + (j + 1) = k + 1 + j by omega]
    rfl
theorem chOld_eq (π : Nat → Nat) : ∀ (old : List Nat) (H : List (Option AO)) (k : Nat), old.length ≤ H.length → (∀ j, j < old.length → π (k + j) = old.getD j 0) → (List.range old.length).map (fun j => (π (k + j), ((H[j]?).join).map (AO.ren π))) = chOld π old H
  | [], H, _, _, _ => by cases H <;> rfl
  | o :: os, [], _, h, _ => by simp at h
  | o :: os, x :: H, k, h, hp => by
    rw [List.length_cons, List.range_succ_eq_map, List.map_cons, List.map_map]
    show _ = (o, _) :: chOld π os H
    rw [← chOld_eq π os H (k + 1) (by simpa using h) (fun j hj => by have := hp (j + 1) (by simp; omega); rw [show k + 1 + j = k + (j + 1) by omega, this]; rfl)]
    have h0 := hp 0 (by simp)
    simp only [Nat.add_zero] at h0
    rw [Nat.add_zero, h0]
    congr 1
    refine List.map_congr_left fun j _ => ?_
    show (π (k + (j + 1)), _) = (π (k + 1 + j), _)
    rw [show k + (j + 1) = k + 1 + j by omega]
    rfl
theorem nuNew_eq : ∀ (H : List (Option AO)) (b : Nat), (List.range H.length).map (b + ·) = nuNew b H
  | [], _ => rfl
  | x :: H, b => by
    rw [List.length_cons, List.range_succ_eq_map, List.map_cons, List.map_map]
    show b :: _ = b :: nuNew (b + 1) H
    rw [← nuNew_eq H (b + 1)]
    congr 1
    exact List.map_congr_left fun j _ => by show b + (j + 1) = b + 1 + j; omega
theorem callEff_eq {old : List Nat} {base : Nat} {res : AV} {m : Nat} {H1 H2 : List (Option AO)} (ho : old.length = m) (h1 : H1.length = m) :
    callEff old base res m (H1 ++ H2) = ⟨some (res.ren (pi old base)), chOld (pi old base) old H1 ++ chNew (pi old base) base H2, nuNew base H2⟩ := by
  unfold callEff
  have e1 : (H1 ++ H2).length = m + H2.length := by simp [h1]
  rw [e1, List.range_add, List.map_append, Nat.add_sub_cancel_left, nuNew_eq H2 base]
  congr 2
  · rw [← chOld_eq (pi old base) old H1 0 (by omega) (fun j hj => by rw [Nat.zero_add]; exact pi_lt hj), ho]
    refine List.map_congr_left fun j hj => ?_
    have hj' : j < m := by simpa using hj
    rw [Nat.zero_add]
    unfold hl
    rw [List.getElem?_append_left (by omega)]
  · rw [List.map_map, ← chNew_eq (pi old base) H2 m base (fun j hj => by rw [pi_ge (by omega)]; omega)]
    refine List.map_congr_left fun j hj => ?_
    show (pi old base (m + j), (hl (H1 ++ H2) (m + j)).map _) = _
    unfold hl
    rw [List.getElem?_append_right (by omega), h1, Nat.add_sub_cancel_left]
section
variable {P : Program} {G : List (Nat × Array Value)} {l r : List Oper} {K : AS → Prop} {n : Nat} {s : Nat → Option AV} {h : Nat → Option AO} {u : Nat → Bool} {d : Tmp} {ty : TypeId} {pos : String} {aft : Array Edge} {gd : Option (Nat × Bool)} {D : Bool} {acc : List St}
/-- a call of a function that changes entries: H1 what becomes of them, H2 the new ones -/
theorem Ch.callH {f : FuncId} {args : List AV} {H H1 H2 : List (Option AO)} {res : AV} (F : FC P G f args H res (H1 ++ H2)) (old : List Nat) (base : Nat) {xs : List Operand} {ys : List AV} {ats : Array TypeId} {res' : AV} {hp' : List (Nat × AO)} {ch' : List (Nat × Option AO)} {nu' : List Nat}
    (hg : GdOk l.toArray ⟨some d, .call ⟨.value (.func f), xs.toArray, ats⟩, ty, pos, aft, gd⟩ ⟨n, s, h, u⟩ true) (hev : EvL ⟨n, s, h, u⟩ xs ys) (hwk : WkL ys (args.map (AV.ren (pi old base)))) (hol : Nat.beq old.length H.length = true) (h1l : Nat.beq H1.length H.length = true) (hnd : old.Nodup) (hlt : ∀ x ∈ old, x < base)
    (hres : res.ren (pi old base) = res') (hhp : hpl (pi old base) old H = hp') (hch : chOld (pi old base) old H1 ++ chNew (pi old base) base H2 = ch') (hnu : nuNew base H2 = nu')
    (h2 : HpOk ⟨n, s, h, u⟩ hp') (h3 : NuOk ⟨n, s, h, u⟩ nu') (hd : Nat.blt d n = true)
    (hr : Ch P G l D K (⟨true, xs.zip ys, hp', ⟨some res', ch', nu'⟩⟩ :: acc) r ⟨n, upd s d (some res'), chs h ch', nuU u nu'⟩) :
    Ch P G l D K acc (⟨some d, .call ⟨.value (.func f), xs.toArray, ats⟩, ty, pos, aft, gd⟩ :: r) ⟨n, s, h, u⟩ := by
  subst hres; subst hhp; subst hch; subst hnu
  have hol' := Nat.eq_of_beq_eq_true hol
  have h1l' := Nat.eq_of_beq_eq_true h1l
  have he := callEff_eq (old := old) (base := base) (res := res) (m := H.length) (H1 := H1) (H2 := H2) hol' h1l'
  have := OpS.call F old base hol' hnd hlt hev.ok.2 hwk (dst := some d) (ats := ats) (ty := ty) (pos := pos) (aft := aft) (gd := gd)
  rw [he] at this
  exact Ch.cons (st := ⟨true, xs.zip ys, hpl (pi old base) old H, ⟨some (res.ren (pi old base)), chOld (pi old base) old H1 ++ chNew (pi old base) base H2, nuNew base H2⟩⟩) ⟨hg, fun _ => ⟨this, hev.ok.1, h2, h3, fun t ht => by cases ht; exact Nat.blt_eq.mp hd⟩, fun h => nomatch h⟩ hr
/-- the same, where nothing comes back -/
theorem Ch.callHN {f : FuncId} {args : List AV} {H H1 H2 : List (Option AO)} {res : AV} (F : FC P G f args H res (H1 ++ H2)) (old : List Nat) (base : Nat) {xs : List Operand} {ys : List AV} {ats : Array TypeId} {hp' : List (Nat × AO)} {ch' : List (Nat × Option AO)} {nu' : List Nat}
    (hg : GdOk l.toArray ⟨none, .call ⟨.value (.func f), xs.toArray, ats⟩, ty, pos, aft, gd⟩ ⟨n, s, h, u⟩ true) (hev : EvL ⟨n, s, h, u⟩ xs ys) (hwk : WkL ys (args.map (AV.ren (pi old base)))) (hol : Nat.beq old.length H.length = true) (h1l : Nat.beq H1.length H.length = true) (hnd : old.Nodup) (hlt : ∀ x ∈ old, x < base)
    (hhp : hpl (pi old base) old H = hp') (hch : chOld (pi old base) old H1 ++ chNew (pi old base) base H2 = ch') (hnu : nuNew base H2 = nu')
    (h2 : HpOk ⟨n, s, h, u⟩ hp') (h3 : NuOk ⟨n, s, h, u⟩ nu')
    (hr : Ch P G l D K (⟨true, xs.zip ys, hp', ⟨some (res.ren (pi old base)), ch', nu'⟩⟩ :: acc) r ⟨n, s, chs h ch', nuU u nu'⟩) :
    Ch P G l D K acc (⟨none, .call ⟨.value (.func f), xs.toArray, ats⟩, ty, pos, aft, gd⟩ :: r) ⟨n, s, h, u⟩ := by
  subst hhp; subst hch; subst hnu
  have hol' := Nat.eq_of_beq_eq_true hol
  have h1l' := Nat.eq_of_beq_eq_true h1l
  have he := callEff_eq (old := old) (base := base) (res := res) (m := H.length) (H1 := H1) (H2 := H2) hol' h1l'
  have := OpS.call F old base hol' hnd hlt hev.ok.2 hwk (dst := none) (ats := ats) (ty := ty) (pos := pos) (aft := aft) (gd := gd)
  rw [he] at this
  exact Ch.cons (st := ⟨true, xs.zip ys, hpl (pi old base) old H, ⟨some (res.ren (pi old base)), chOld (pi old base) old H1 ++ chNew (pi old base) base H2, nuNew base H2⟩⟩) ⟨hg, fun _ => ⟨this, hev.ok.1, h2, h3, fun t ht => by cases ht⟩, fun h => nomatch h⟩ hr
end
theorem FC.split {P : Program} {G : List (Nat × Array Value)} {f : FuncId} {args : List AV} {H H' : List (Option AO)} {res : AV} (F : FC P G f args H res H') : FC P G f args H res (H'.take H.length ++ H'.drop H.length) := by
  rw [List.take_append_drop]; exact F
theorem OpS.quoU {P : Program} {G : List (Nat × Array Value)} {t t' : TypeId} {x y : Operand} {a b : Int} (ha : 0 ≤ a) (ha' : a < 18446744073709551616) (hb : 0 < b) {dst : Option Tmp} {ty : TypeId} {pos : String} {aft : Array Edge} {gd : Option (Nat × Bool)} :
    OpS P G ⟨dst, .binOp .quo t x y t', ty, pos, aft, gd⟩ [(x, .v (.int .u64 a)), (y, .v (.int .u64 b))] [] ⟨some (.v (.int .u64 (a / b))), [], []⟩ := by
  refine OpS.binR rfl fun w => ?_
  simp only [binOp, Op.intDiv]
  rw [if_neg (show ¬ b = 0 by omega), Int.tdiv_eq_ediv_of_nonneg ha, IntKind.wrap_u64]
  have h1 := Int.ediv_nonneg ha (Int.le_of_lt hb)
  have h2 : a / b ≤ a := Int.ediv_le_self b ha
  have : (a / b) % 18446744073709551616 = a / b := by omega
  first | (rw [this]; rfl) | rfl
theorem cv_mod (y : Nat) : Value.int .u8 (IntKind.u8.wrap ((y : Int) % 256)) = .int .u8 (U8 (UInt8.ofNat y)) := by
  rw [IntKind.wrap_u8, u8_ofNat]
  congr 1
  omega
@[simp] theorem nbeq (a b : Nat) : Nat.beq a b = (a == b) := by
  rw [Bool.eq_iff_iff]
  constructor
  · intro h; simpa using Nat.eq_of_beq_eq_true h
  · intro h
    obtain rfl : a = b := by simpa using h
    exact Nat.beq_refl a
theorem AV.wk.tip {π : Nat → Nat} {o o' : Option Nat} {n : Nat} {cs cs' : List AV} (ho : o.map π = o') (hc : AV.renL π cs = cs') : AV.wk (.sl o' n cs') (AV.ren π (.sl o n cs)) := by
  subst ho; subst hc; exact .rfl _
theorem HFromL.skip {π : Nat → Nat} {u : Nat → Bool} {h : Nat → Option AO} {k : Nat} {r : List (Option AO)} (hr : HFromL π u h (k + 1) r) : HFromL π u h k (none :: r) := hr
/-- a row that may be appended to, under a new name -/
theorem SEnt.retip {A : Amb} {n : Nat} {s : Nat → Option AV} {h : Nat → Option AO} {u : Nat → Bool} {t c m sz : Nat} {E : TypeId} {cs : List AV} (c' : Nat) (hs : s t = some (.sl (some c) m cs)) (hh : h c = some (.tip E sz m)) (hu : u c' = false) :
    SEnt A ⟨n, s, h, u⟩ ⟨n, upd s t (some (.sl (some c') m cs)), upd (upd h c none) c' (some (.tip E sz m)), nuU u [c']⟩ := by
  intro ρ a w hst
  let ρ' : Env := ⟨ρ.blk, upd ρ.tip c' (ρ.tip c)⟩
  have hne : ∀ i, u i = true → i ≠ c' := fun i hi e => by subst e; rw [hu] at hi; cases hi
  have hnew : ρ'.tip c' = ρ.tip c := upd_same _ _ _
  have hold : ∀ i, i ≠ c' → ρ'.tip i = ρ.tip i := fun i hi => upd_ne _ _ hi
  have hle : ρ.le ρ' := ⟨fun _ _ h => h, fun i v hv => by rw [hold i (hne i (hst.mem.usedT i v hv))]; exact hv⟩
  have hcase : ∀ i ob, upd (upd h c none) c' (some (AO.tip E sz m)) i = some ob → (i = c' ∧ ob = .tip E sz m) ∨ (i ≠ c' ∧ i ≠ c ∧ h i = some ob) := fun i ob hi => by
    rcases upd_eq_some hi with ⟨h1, h2⟩ | ⟨h1, h2⟩
    · cases h2; exact .inl ⟨h1, rfl⟩
    · rcases upd_eq_some h2 with ⟨_, h4⟩ | ⟨h3, h4⟩
      · cases h4
      · exact .inr ⟨h1, h3, h4⟩
  have hat : ∀ i ob b, upd (upd h c none) c' (some (AO.tip E sz m)) i = some ob → ob.at_ ρ' i b → ∃ j oj, h j = some oj ∧ oj.at_ ρ j b ∧ ((i = c' ∧ j = c) ∨ (i ≠ c' ∧ i ≠ c ∧ j = i)) := fun i ob b hi hb => by
    rcases hcase i ob hi with ⟨rfl, rfl⟩ | ⟨h1, h2, h3⟩
    · obtain ⟨cap, hc⟩ := hb
      rw [hnew] at hc
      exact ⟨c, _, hh, ⟨cap, hc⟩, .inl ⟨rfl, rfl⟩⟩
    · exact ⟨i, ob, h3, (hst.mem.heap i ob h3).at_back hle hb, .inr ⟨h1, h2, rfl⟩⟩
  have hwr : ∀ i ob b o, upd (upd h c none) c' (some (AO.tip E sz m)) i = some ob → ob.wr ρ' i b o → ∃ j oj, h j = some oj ∧ oj.wr ρ j b o := fun i ob b o hi hb => by
    rcases hcase i ob hi with ⟨rfl, rfl⟩ | ⟨h1, h2, h3⟩
    · obtain ⟨cap, hc, ho⟩ := hb
      rw [hnew] at hc
      exact ⟨c, _, hh, cap, hc, ho⟩
    · exact ⟨i, ob, h3, (hst.mem.heap i ob h3).wr_back hle hb⟩
  obtain ⟨m1, m2⟩ := hst.mem.next (ρ' := ρ') (h' := upd (upd h c none) c' (some (.tip E sz m))) (u' := nuU u [c']) (w' := w) rfl rfl rfl (Nat.le_refl _)
    (fun i hi => ⟨by rw [nuU_eq, show u i = true from hi]; rfl, rfl, hold i (hne i hi)⟩) (fun i b hb => by rw [nuU_eq, show u i = true from hst.mem.usedB i b hb]; rfl)
    (fun i v hv => by
      by_cases hi : i = c'
      · rw [nuU_eq, hi]; simp
      · have hv' : ρ'.tip i = some v := hv
        rw [hold i hi] at hv'
        rw [nuU_eq, show u i = true from hst.mem.usedT i v hv']; rfl)
    (fun _ _ _ => rfl) (fun _ _ _ => rfl) (fun i ob b o hi hb => .inl (hwr i ob b o hi hb)) (fun i ob b hi hb => by obtain ⟨j, oj, h1, h2, _⟩ := hat i ob b hi hb; exact .inl ⟨j, oj, h1, h2⟩)
    (fun i j oi oj b hi hj h1 h2 => by
      obtain ⟨i', oi', k1, k2, k3⟩ := hat i oi b hi h1
      obtain ⟨j', oj', l1, l2, l3⟩ := hat j oj b hj h2
      have := hst.mem.sep i' j' oi' oj' b k1 l1 k2 l2
      omega)
    (fun hV i ob hi => by
      rcases hcase i ob hi with ⟨rfl, rfl⟩ | ⟨h1, h2, h3⟩
      · rcases hst.mem.heap c _ hh with ⟨k1, k2⟩ | ⟨g, cap, cur, k1, k2, k3, k4, k5⟩
        · exact .inl ⟨by rw [hnew]; exact k1, k2⟩
        · exact .inr ⟨g, cap, cur, by rw [hnew]; exact k1, k2, k3, k4, k5⟩
      · exact (hst.mem.heap i ob h3).keep hle hV (fun _ _ => rfl))
  refine ⟨ρ', m1, fun t' v' ht' => ?_, hst.nt, hst.defers⟩
  rcases upd_eq_some (f := s) ht' with ⟨rfl, he⟩ | ⟨_, he⟩
  · cases he
    obtain ⟨x, hx, hv⟩ := hst.slots t' _ hs
    refine ⟨x, hx, ?_⟩
    have hv' := m2 _ _ hv
    cases hv with
    | sl o n cs ad cap vals hc hcs ho hn hz hm =>
      have ht := ho c rfl
      cases hv' with
      | sl o n cs ad cap vals' hc' hcs' ho' hn' hz' hm' => exact .sl _ _ _ _ _ vals' hc' hcs' (fun k hk => by cases hk; rw [hnew]; exact ht) hn' hz' hm'
  · obtain ⟨y, hy, hw⟩ := hst.slots t' v' he
    exact ⟨y, hy, m2 _ _ hw⟩
theorem OpS.makeB {P : Program} {G : List (Nat × Array Value)} {dst : Option Tmp} {ty : TypeId} {pos : String} {aft : Array Edge} {gd : Option (Nat × Bool)} {t E : TypeId} {inf : TypeInfo} {z : Value} {x y : Operand} {k k' : IntKind} {m : Int} {n bb : Nat} (id : Nat) (hu : P.underlying t = some (.slice E)) (hi : P.info? E = some inf) (hz : inf.zero = some z) (hsz : inf.size = 1) (hzc : z.cells = #[z]) (h1 : z.oneCell' = true) (hm : m = (n : Int))
    (hbb : inf.bytes = bb) (hb : n * bb ≤ 281474976710656) (hn : n ≤ maxLen) :
    OpS P G ⟨dst, .makeSlice t x y, ty, pos, aft, gd⟩ [(x, .v (.int k m)), (y, .v (.int k' m))] [] ⟨some (.arr id 0 n), [(id, some (.cells E (List.replicate n (.v z))))], [id]⟩ := by
  subst hbb
  exact OpS.make id hu hi hz hsz hzc h1 hm hb hn
/-- plain elements: whole numbers -/
def nA (x : Nat) : AV := .v (.int .i64 (x : Int))
@[simp] theorem renL_n (π : Nat → Nat) (l : List Nat) : AV.renL π (l.map nA) = l.map nA := renL_raw π _ l
@[simp] theorem belL_n (u : Nat → Bool) (l : List Nat) : AV.belL u (l.map nA) := belL_raw u _ l
@[simp] theorem ren_n (π : Nat → Nat) (x : Nat) : AV.ren π (nA x) = nA x := rfl
@[simp] theorem bel_n (u : Nat → Bool) (x : Nat) : AV.bel u (nA x) := trivial
attribute [simp] nA chOld chNew nuNew hpl
end Go.Proofs.YtmmoadhjlgbmhaaDoor.E
end
section
/- Facts on this translation's types, and append onto a row of bytes. -/
namespace Go.Proofs.YtmmoadhjlgbmhaaDoor.V
open Go Go.RowKit

theorem u8info : (Tryd.prog.info? 5).map (fun i => (i.zero, i.size, i.bytes)) = some (some (.int .u8 0), 1, 1) := by kernel_rfl
theorem u32size : (Tryd.prog.info? 67).map (·.size) = some 1 := by kernel_rfl
def obytes (w : World) (base : Nat) (v : Value) (l : List UInt8) : Prop := w.ownsRow base 5 1 v l.length (bvs l)
theorem obytes_nil (w : World) (base : Nat) : obytes w base (.slice none 0 0) [] := World.ownsRow_nil w base _ 1
theorem obytes.kept {w w' : World} {base : Nat} {v : Value} {l : List UInt8} (h : obytes w base v l) {S : List Nat} (hf : Fr S w w') (hS : ∀ k, v.ownBlock = some k → k ∉ S) : obytes w' base v l := hf.own h hS

theorem Src.new {w : World} (tx e' : TypeId) (hk : Tryd.prog.underlying tx = some (.slice e')) (cs : Array Value) (e : TypeId) (h1 : ∀ u ∈ cs.toList, u.oneCell' = true) :
    Src Tryd.prog 1 tx (.slice (some ⟨w.heap.size, 0, none⟩) cs.size cs.size) cs.size cs.toList (w.alloc (.cells cs e)) := by
  refine Src.ofSlice _ hk ⟨w.heap.size, 0, none⟩ cs.size cs.size cs.toList (by simp) ?_ h1
  intro j u hu
  have hadd : (⟨w.heap.size, 0, none⟩ : Addr).add j = ⟨w.heap.size, j, none⟩ := by unfold Addr.add; split <;> simp_all
  rw [hadd, World.cell?_alloc_at _ _ _ _ rfl]
  simpa using hu

theorem obytes.src {w : World} {base : Nat} {v : Value} {l : List UInt8} (h : obytes w base v l) : Src Tryd.prog 1 49 v l.length (bvs l) w := by
  rcases h.2 with ⟨rfl, h0⟩ | ⟨g, cap, cur, rfl, hbg, hg, hnc, hcm, hcs, htake⟩
  · obtain rfl : l = [] := List.eq_nil_of_length_eq_zero h0
    exact Src.ofNil w Tryd.underlying49 0
  · exact Src.ofSlice w Tryd.underlying49 ⟨g, 0, none⟩ l.length cap (bvs l) (by simp [bvs_length]) (World.ownsRow.cells h (g := g) rfl) (bvs_one l)
theorem obytes.lt {w : World} {base : Nat} {v : Value} {l : List UInt8} (h : obytes w base v l) : ∀ k, v.ownBlock = some k → base ≤ k ∧ k < w.heap.size := World.ownsRow.lt h
theorem obytes.slice {w : World} {base : Nat} {v : Value} {l : List UInt8} (h : obytes w base v l) : ∃ g cap, v = .slice g l.length cap := by
  rcases h.2 with ⟨hv, h0⟩ | ⟨g, cap, cur, hv, _⟩
  · exact ⟨_, _, by rw [h0]; exact hv⟩
  · exact ⟨_, _, hv⟩

theorem obytes.text {w : World} {base : Nat} {v : Value} {l : List UInt8} (h : obytes w base v l) : (convert 49 9 v).run Tryd.prog w = .ok (.string (B l)) w := by
  rcases h.2 with ⟨rfl, h0⟩ | ⟨g, cap, cur, rfl, hbg, hg, hnc, hcm, hcs, htake⟩
  · obtain rfl : l = [] := List.eq_nil_of_length_eq_zero h0
    exact run_b2s_nil w _ _ 5 Tryd.underlying49 Tryd.underlying5 Tryd.underlying9 0 0
  · exact run_b2s w _ _ 5 Tryd.underlying49 Tryd.underlying5 Tryd.underlying9 ⟨g, 0, none⟩ cap l (World.ownsRow.cells h (g := g) rfl)

theorem wpList_ap_bytes {ops : Array Oper} {rest : List Oper} {o : Oper} {a : Act} {Q : Exit → Act → World → Prop} {w : World} (hgd : o.guard = none) (s x : Operand) (tx : TypeId)
    (ho : o.op = .call { callee := .builtin .append, args := #[s, x], argTypes := #[49, tx] })
    (base : Nat) (v : Value) (l : List UInt8) (hv : a.eval s = v) (hown : obytes w base v l) (xv : Value) (m : List UInt8) (n : Nat) (hx : a.eval x = xv) (hs : Src Tryd.prog 1 tx xv n (bvs m) w)
    (hb : l.length + m.length ≤ 140737488355328) (hbase : base ≤ w.heap.size)
    (h : ∀ v' w', obytes w' base v' (l ++ m) → w.grownBy w' v.ownBlock → (v'.ownBlock = v.ownBlock ∨ v'.ownBlock = some w.heap.size) → wpList Tryd.prog ops Q rest (a.put o.dst v') w') : wpList Tryd.prog ops Q (o :: rest) a w := by
  obtain ⟨i, hi, hz, hs1, hb1⟩ := info_parts u8info
  have hn : n = m.length := by have := hs.newsLen; rw [bvs_length] at this; omega
  subst hn
  refine wpList_plain hgd fun K hK => wp_append_any w s x 49 tx ho base 5 i (.int .u8 0) 1 1 Tryd.underlying49 hi hz hs1 hb1 rfl (by decide) v l.length (bvs l) hv hown xv m.length (bvs m) hx hs
    (by unfold maxLen; omega) (by omega) hbase ?_
  intro v' w' h1 h2 h3
  refine hK _ _ (h v' w' ?_ h2 h3)
  unfold obytes
  rw [List.length_append, bvs_append]
  exact h1
theorem bvs_zeros (m : Nat) : bvs (List.replicate m 0) = List.replicate m (.int .u8 0) := by simp [bvs, bv, U8]
theorem wpList_ap_zeros {ops : Array Oper} {rest : List Oper} {o : Oper} {a : Act} {Q : Exit → Act → World → Prop} {w : World} (hgd : o.guard = none) (s x : Operand)
    (ho : o.op = .call { callee := .builtin .append, args := #[s, x], argTypes := #[49, 3] })
    (base : Nat) (v : Value) (l : List UInt8) (hv : a.eval s = v) (hown : obytes w base v l) (m : Nat) (hx : a.eval x = .int .i64 (m : Int))
    (hb : l.length + m ≤ 140737488355328) (hbase : base ≤ w.heap.size)
    (h : ∀ v' w', obytes w' base v' (l ++ List.replicate m 0) → w.grownBy w' v.ownBlock → (v'.ownBlock = v.ownBlock ∨ v'.ownBlock = some w.heap.size) → wpList Tryd.prog ops Q rest (a.put o.dst v') w') : wpList Tryd.prog ops Q (o :: rest) a w := by
  obtain ⟨i, hi, hz, hs1, hb1⟩ := info_parts u8info
  refine wpList_plain hgd fun K hK => wp_append_zeros s x 49 3 ho base 5 .i64 i (.int .u8 0) 1 Tryd.underlying49 Tryd.underlying3 hi hz hs1 hb1 rfl rfl v l.length (bvs l) hv hown m hx
    (by unfold maxLen; omega) (by omega) hbase ?_
  intro v' w' h1 h2 h3
  refine hK _ _ (h v' w' ?_ h2 h3)
  unfold obytes
  rw [List.length_append, bvs_append, bvs_zeros, List.length_replicate]
  exact h1
end Go.Proofs.YtmmoadhjlgbmhaaDoor.V
end
section
/- A number as so many bytes, the highest first. No program in sight. -/
namespace Go.Proofs.YtmmoadhjlgbmhaaDoor.V
def beP (x : UInt64) (size m : Nat) : List UInt8 := (List.range m).map fun j => UInt8.ofNat (x.toNat / 256 ^ (size - 1 - j))
def beS (x : UInt64) (size : Nat) : List UInt8 := beP x size size
theorem beP_length (x : UInt64) (size m : Nat) : (beP x size m).length = m := by simp [beP]
theorem beS_length (x : UInt64) (size : Nat) : (beS x size).length = size := beP_length _ _ _
theorem beP_0 (x : UInt64) (size : Nat) : beP x size 0 = [] := rfl
theorem beP_succ (x : UInt64) (size m : Nat) : beP x size (m + 1) = beP x size m ++ [UInt8.ofNat (x.toNat / 256 ^ (size - 1 - m))] := by simp [beP, List.range_succ]
theorem beS_cons (x : UInt64) (m : Nat) : beS x (m + 1) = UInt8.ofNat (x.toNat / 256 ^ m) :: beS x m := by
  unfold beS beP
  rw [List.range_succ_eq_map, List.map_cons, List.map_map]
  simp only [Nat.add_sub_cancel, Nat.sub_zero]
  congr 1
  refine List.map_congr_left fun j hj => ?_
  have : j < m := by simpa using hj
  show UInt8.ofNat (x.toNat / 256 ^ (m - (j + 1))) = _
  rw [show m - (j + 1) = m - 1 - j by omega]
theorem sh8 (x : UInt64) (q : Nat) : (shr64 x (8 * q)).toUInt8 = UInt8.ofNat (x.toNat / 256 ^ q) := by
  apply UInt8.toNat_inj.1
  have h : (2 : Nat) ^ (8 * q) = 256 ^ q := by rw [Nat.pow_mul]
  have hx := x.toNat_lt
  have hd : x.toNat / 256 ^ q ≤ x.toNat := Nat.div_le_self _ _
  simp only [shr64, h, UInt64.toNat_toUInt8, UInt64.toNat_ofNat', UInt8.toNat_ofNat']
  omega
/-- noughts, then the last m bytes -/
def rowN (x : UInt64) (many m : Nat) : List UInt8 := List.replicate (many - m) 0 ++ beS x m
theorem rowN_0 (x : UInt64) (many : Nat) : rowN x many 0 = List.replicate many 0 := by simp [rowN, beS, beP]
theorem rowN_all (x : UInt64) (many : Nat) : rowN x many many = beS x many := by simp [rowN]
theorem rowN_length (x : UInt64) (many m : Nat) (h : m ≤ many) : (rowN x many m).length = many := by simp [rowN, beS_length]; omega
theorem rowN_set (x : UInt64) (many m : Nat) (h : m < many) : (rowN x many m).set (many - 1 - m) (UInt8.ofNat (x.toNat / 256 ^ m)) = rowN x many (m + 1) := by
  unfold rowN
  rw [beS_cons]
  obtain ⟨k, hk⟩ : ∃ k, many - m = k + 1 := ⟨many - m - 1, by omega⟩
  rw [hk, show many - (m + 1) = k by omega, show many - 1 - m = k by omega, List.replicate_succ']
  rw [List.append_assoc, List.set_append_right _ _ (by simp)]
  simp
end Go.Proofs.YtmmoadhjlgbmhaaDoor.V
end
section
/- Layer 2's writer, by abstract steps; the document's own. -/
namespace Go.Proofs.YtmmoadhjlgbmhaaDoor.E
open Go Go.RowKit Go.Proofs.YtmmoadhjlgbmhaaDoor.V
attribute [local go_sem] B_size B_append B_extract mk_B B_toList take_drop_len List.length_drop List.length_take sgn32 sgn64 add32 sub32 mul32 add64 sub64 mul64 mul64_8 and32 or32 xor32 and64 or64 xor64 shl32_run shr32_run shl64_run shr64_run not32 not32' xor32_all w_u32_u8 w_u64_u8 w_i64_u8 w_u8_u32 w_u8_u64 w_u32_u64 w_u64_u32 w_u8_u8 w_u32_u32 w_u64_u64
attribute [local go_sem ↓] run_index_B' add32 sub32 mul32 add64 sub64 mul64 mul64_8 and32 or32 xor32 and64 or64 xor64 shl32_run shr32_run shl64_run shr64_run not32 not32' xor32_all w_u32_u8 w_u64_u8 w_i64_u8 w_u8_u32 w_u8_u64 w_u32_u64 w_u64_u32 w_u8_u8 w_u32_u32 w_u64_u64 w_u64_nat w_u32_nat w_u8_nat
theorem lay_fc {G : List (Nat × Array Value)} (l : List UInt8) (x : UInt64) (size : Nat) (hs0 : 0 < size) (hs : size ≤ 8) (hl : l.length ≤ 70368744177664) :
    FC Tryd.prog G 64 [.sl (some 0) l.length (l.map bA), .v (.int .u64 (U64 x)), .v (.int .i64 (size : Int))] [some (.tip 5 1 l.length)] (.sl (some 1) (l.length + size) ((l ++ beS x size).map bA)) [none, some (.tip 5 1 (l.length + size))] := by
  refine FC.of_wp [6] Tryd.func64 rfl rfl rfl rfl ⟨⟨fun k hk => by cases hk; rfl, belL_b _ _⟩, trivial, trivial, trivial⟩ ⟨trivial, trivial⟩ (by exact Nat.le_of_ble_eq_true rfl) ?_
  intro A hG hnA hAB
  unfold start
  refine WP.from (SEnt.retip (t := 0) (c := 0) 1 rfl rfl rfl) ?_
  refine WP.rs hG ?_
  refine Ch.pu gdN (by exact ⟨rfl, trivial⟩) (OpS.assign) (by first | exact trivial | exact ⟨rfl, trivial⟩) rfl ?_
  refine Ch.nil ?_
  refine WP.seq ?_
  refine WP.rs hG ?_
  refine Ch.pu gdN (by exact ⟨rfl, trivial⟩) (OpS.move) (by first | exact trivial | exact ⟨rfl, trivial⟩) rfl ?_
  refine Ch.pu gdN (by exact ⟨rfl, rfl, trivial⟩) (OpS.int rfl (by first | exact wr64 (by omega) | exact rfl)) (by first | exact trivial | exact ⟨rfl, trivial⟩) rfl ?_
  refine Ch.pu gdN (by exact ⟨rfl, rfl, trivial⟩) (OpS.int rfl (by first | exact wr64 (by omega) | exact rfl)) (by first | exact trivial | exact ⟨rfl, trivial⟩) rfl ?_
  refine Ch.pu gdN (by exact ⟨rfl, trivial⟩) (OpS.assign) (by first | exact trivial | exact ⟨rfl, trivial⟩) rfl ?_
  refine Ch.nil ?_
  refine WP.block ?_
  refine WP.loop (fun k σ => ∃ (m : Nat) (at' : Int), (m + k = size ∧ at' = 8 * ((size : Int) - 1 - (m : Int))) ∧ σ = ⟨23, ls [(0, .sl (some 1) (l.length + m) ((l ++ beP x size m).map bA)), (1, .v (.int .u64 (U64 x))), (7, .v (.int .i64 at'))], lh [(1, .tip 5 1 (l.length + m))], blt 2⟩) (size) (Ent.of [] ?_ ?_ ?_ ?_).se ⟨0, 8 * ((size : Int) - 1), ⟨by omega, by omega⟩, rfl⟩ ?_
  · exact (fun i hi => by rw [hnA] at hi; simp only [List.length_cons, List.length_nil] at hi ⊢; first | exact absurd hi (Nat.not_lt_zero _) | (revert i; decide))
  · (repeat (first | exact trivial | (refine And.intro ⟨(by first | trivial | (simp; first | done | fail) | exact ⟨trivial, hbel _⟩), _, rfl, (by first | exact .rfl _ | exact .nil | exact .of_eq (by simp [beP_0]; first | done | fail) | exact AV.wk.sh (by simp [beP_0]; first | done | fail) | exact .untip _ _ _)⟩ ?_)))
  · (repeat (first | exact trivial | (refine And.intro ⟨rfl, (by first | trivial | (simp; first | done | fail) | exact ⟨trivial, hbel _⟩), (by first | rfl | (simp [beP_0]; first | done | fail))⟩ ?_)))
  · simp [rn]
  · rintro k σ ⟨m, at', ⟨hm, hat⟩, rfl⟩
    have hbs := beP_succ x size m
    have hbl := beP_length x size m
    have hsh := sh8 x (size - 1 - m)
    refine WP.seq ?_
    refine WP.rs hG ?_
    refine Ch.pu gdN (by exact ⟨rfl, trivial⟩) (OpS.move) (by first | exact trivial | exact ⟨rfl, trivial⟩) rfl ?_
    refine Ch.pu gdN (by exact ⟨rfl, rfl, trivial⟩) (OpS.int rfl (by first | exact wr64 (by omega) | exact rfl)) (by first | exact trivial | exact ⟨rfl, trivial⟩) rfl ?_
    refine Ch.nil ?_
    refine WP.cond rfl ?_ ?_
    · intro ht
      have ht' := of_decide_eq_true ht
      refine WP.skip ?_
      refine WP.seq ?_
      refine WP.block ?_
      refine WP.rg hG ?_
      refine Ch.pu gdN (by exact ⟨rfl, trivial⟩) (OpS.move) (by first | exact trivial | exact ⟨rfl, trivial⟩) rfl ?_
      refine Ch.pu gdN (by exact ⟨rfl, trivial⟩) (OpS.move) (by first | exact trivial | exact ⟨rfl, trivial⟩) rfl ?_
      refine Ch.pu gdN (by exact ⟨rfl, trivial⟩) (OpS.move) (by first | exact trivial | exact ⟨rfl, trivial⟩) rfl ?_
      refine Ch.pu gdN (by exact ⟨rfl, rfl, trivial⟩) (OpS.shr_u64 (j := 8 * (size - 1 - m)) (by omega) (by omega)) (by first | exact trivial | exact ⟨rfl, trivial⟩) rfl ?_
      refine Ch.pu gdN (by exact ⟨rfl, trivial⟩) (OpS.conv rfl rfl (by first | exact cv_u32_u8 _ | exact cv_u64_u8 _ | exact cv_i64_u8 _ | exact cv_u8_u32 _ | exact cv_u8_u64 _ | exact cv_u32_u64 _ | exact cv_u64_u32 _ | exact cv_u8_u8 _ | exact cv_u32_u32 _ | exact cv_u64_u64 _ | exact wr64 (by omega) | exact cv_u64_nat _ | exact cv_u32_nat _ | exact cv_u8_nat _ | exact rfl)) (by first | exact trivial | exact ⟨rfl, trivial⟩) rfl ?_
      refine Ch.pup gdN (by repeat (first | exact EvP.nil | (apply EvP.cons; exact rfl))) (OpS.slice1 rfl rfl rfl rfl rfl rfl (by rfl) rfl (by rfl)) rfl ?_
      refine Ch.al gdN (by exact ⟨rfl, rfl, trivial⟩) (OpS.append (sz := 1) (bb := 1) 2 rfl rfl rfl rfl rfl (by decide) (SrcA.sl rfl (by simp)) (by first | (simp; done) | (simp; assumption)) (by simp) (by unfold maxLen; omega) rfl (by omega)) (by first | exact trivial | exact ⟨rfl, trivial⟩) (by first | exact trivial | exact ⟨rfl, trivial⟩ | exact ⟨rfl, rfl, trivial⟩) rfl ?_
      refine Ch.pu gdN (by exact ⟨rfl, trivial⟩) (OpS.assign) (by first | exact trivial | exact ⟨rfl, trivial⟩) rfl ?_
      refine Ch.nil ?_
      refine WP.rg hG ?_
      refine Ch.pu gdN (by exact ⟨rfl, trivial⟩) (OpS.move) (by first | exact trivial | exact ⟨rfl, trivial⟩) rfl ?_
      refine Ch.pu gdN (by exact ⟨rfl, rfl, trivial⟩) (OpS.int rfl (by first | exact wr64 (by omega) | exact rfl)) (by first | exact trivial | exact ⟨rfl, trivial⟩) rfl ?_
      refine Ch.pu gdN (by exact ⟨rfl, trivial⟩) (OpS.assign) (by first | exact trivial | exact ⟨rfl, trivial⟩) rfl ?_
      refine Ch.nil ?_
      refine ⟨k - 1, _, by omega, (Ent.of [0, 2] ?_ ?_ ?_ ?_).se, m + 1, at' - 8, ⟨by omega, by omega⟩, rfl⟩
      · exact (fun i hi => by rw [hnA] at hi; simp only [List.length_cons, List.length_nil] at hi ⊢; first | exact absurd hi (Nat.not_lt_zero _) | (revert i; decide))
      · (repeat (first | exact trivial | (refine And.intro ⟨(by first | trivial | (simp; first | done | fail) | exact ⟨trivial, hbel _⟩), _, rfl, (by first | exact .rfl _ | exact .nil | exact .of_eq (by simp [hbs, hsh, Nat.add_assoc]; first | done | fail) | exact AV.wk.sh (by simp [hbs, hsh, Nat.add_assoc]; first | done | fail) | exact .untip _ _ _)⟩ ?_)))
      · (repeat (first | exact trivial | (refine And.intro ⟨rfl, (by first | trivial | (simp; first | done | fail) | exact ⟨trivial, hbel _⟩), (by first | rfl | (simp [hbs, hsh, Nat.add_assoc]; first | done | fail))⟩ ?_)))
      · simp [rn]
    · intro ht
      have ht' := of_decide_eq_false ht
      obtain rfl : m = size := by omega
      refine WP.exit ?_
      refine WP.rs hG ?_
      refine Ch.pu gdN (by exact ⟨rfl, trivial⟩) (OpS.move) (by first | exact trivial | exact ⟨rfl, trivial⟩) rfl ?_
      refine Ch.pu gdN (by exact ⟨rfl, trivial⟩) (OpS.assign) (by first | exact trivial | exact ⟨rfl, trivial⟩) rfl ?_
      refine Ch.nil ?_
      refine WP.ret ?_
      refine (Ret.of (rs := [6]) (vs := [.sl (some 1) (l.length + m) ((l ++ beS x m).map bA)]) (H' := [none, some (.tip 5 1 (l.length + m))]) (res := .sl (some 1) (l.length + m) ((l ++ beS x m).map bA)) [0, 1] ?_ ?_ rfl ?_ (by simp only [List.length_cons, List.length_nil]; decide) ?_).1
      · exact (fun i hi => by rw [hnA] at hi; simp only [List.length_cons, List.length_nil] at hi ⊢; first | exact absurd hi (Nat.not_lt_zero _) | (revert i; decide))
      · (repeat (first | exact trivial | (refine And.intro ⟨(by first | trivial | (simp; first | done | fail) | exact ⟨trivial, hbel _⟩), _, rfl, (by first | exact .rfl _ | exact .nil | exact .of_eq (by simp [beS]; first | done | fail) | exact AV.wk.sh (by simp [beS]; first | done | fail) | exact .untip _ _ _)⟩ ?_)))
      · (repeat (first | exact trivial | refine HFromL.skip ?_ | (refine And.intro ⟨(by first | trivial | (simp; first | done | fail) | exact ⟨trivial, hbel _⟩), (by first | rfl | (simp [beS]; first | done | fail) | (conv => rhs; simp only [AO.ren, AV.ren, AV.renL, Option.map_some, beS]) <;> rfl)⟩ ?_)))
      · rfl

/-- a writer that holds these bytes: an entry, and the row -/
abbrev wrH (l : List UInt8) : List (Option AO) := [some (.cells 78 [.sl (some 1) l.length (l.map bA)]), some (.tip 5 1 l.length)]
theorem newWriter_fc0 {G : List (Nat × Array Value)} : FC Tryd.prog G 48 [] [] (.ptr 0 0) [some (.cells 78 [.v (.slice none 0 0)])] := by
  refine FC.of_wp [0] Tryd.func48 rfl rfl rfl rfl (by first | trivial | (simp; first | done | fail) | exact ⟨trivial, hbel _⟩) (by first | trivial | (simp; first | done | fail) | exact ⟨trivial, hbel _⟩) (by exact Nat.le_of_ble_eq_true rfl) ?_
  intro A hG hnA hAB
  unfold start
  refine WP.rs hG ?_
  refine Ch.pu gdN (by exact ⟨rfl, trivial⟩) (OpS.assign) (by first | exact trivial | exact ⟨rfl, trivial⟩) rfl ?_
  refine Ch.nil ?_
  refine WP.rs hG ?_
  refine Ch.pup gdN (by repeat (first | exact EvP.nil | (apply EvP.cons; exact rfl))) (OpS.build (cs := [.v (.slice none 0 0)]) rfl rfl rfl rfl rfl (by rfl)) rfl ?_
  refine Ch.al gdN (by exact ⟨rfl, trivial⟩) (OpS.box 0 rfl) (by first | exact trivial | exact ⟨rfl, trivial⟩) (by first | exact trivial | exact ⟨rfl, trivial⟩ | exact ⟨rfl, rfl, trivial⟩) rfl ?_
  refine Ch.pu gdN (by exact ⟨rfl, trivial⟩) (OpS.assign) (by first | exact trivial | exact ⟨rfl, trivial⟩) rfl ?_
  refine Ch.nil ?_
  refine WP.ret ?_
  refine (Ret.of (rs := [0]) (vs := [.ptr 0 0]) (H' := [some (.cells 78 [.v (.slice none 0 0)])]) (res := .ptr 0 0) [0] ?_ ?_ rfl ?_ (by simp only [List.length_cons, List.length_nil]; decide) ?_).1
  · exact (fun i hi => by rw [hnA] at hi; simp only [List.length_cons, List.length_nil] at hi ⊢; first | exact absurd hi (Nat.not_lt_zero _) | (revert i; decide))
  · (repeat (first | exact trivial | (refine And.intro ⟨(by first | trivial | (simp; first | done | fail) | exact ⟨trivial, hbel _⟩), _, rfl, (by first | exact .rfl _ | exact .nil | exact .of_eq (by simp; first | done | fail) | exact AV.wk.sh (by simp; first | done | fail) | exact .untip _ _ _)⟩ ?_)))
  · (repeat (first | exact trivial | refine HFromL.skip ?_ | (refine And.intro ⟨(by first | trivial | (simp; first | done | fail) | exact ⟨trivial, hbel _⟩), (by first | rfl | (simp; first | done | fail))⟩ ?_)))
  · rfl
theorem newWriter_fc {G : List (Nat × Array Value)} : FC Tryd.prog G 48 [] [] (.ptr 0 0) (wrH []) :=
  newWriter_fc0.conv (Nat.zero_le _) fun A hA _ _ => by
    refine (SEnt.nilCell (id := 0) (off := 0) 1 5 1 rfl rfl rfl rfl).trans (Ent.se (π := rn []) ⟨rfl, fun i hi => ?_, fun t v ht => ?_, fun i o hi => ?_, fun i j oi oj _ _ h => h⟩)
    · rw [hA] at hi; exact absurd hi (Nat.not_lt_zero _)
    · have hm := ls_some ht
      simp only [List.mem_singleton, Prod.mk.injEq] at hm
      obtain ⟨rfl, rfl⟩ := hm
      exact ⟨rfl, _, rfl, .rfl _⟩
    · match i, hi with
      | 0, hi => cases hi; exact ⟨rfl, ⟨⟨fun k hk => by cases hk; rfl, trivial⟩, trivial⟩, rfl⟩
      | 1, hi => cases hi; exact ⟨rfl, trivial, rfl⟩
      | _ + 2, hi => cases hi
theorem wNum_fc {G : List (Nat × Array Value)} (l : List UInt8) (x : UInt64) (hl : l.length ≤ 70368744177664) :
    FC Tryd.prog G 49 [.ptr 0 0, .v (.int .u64 (U64 x))] (wrH l) (.tup []) [some (.cells 78 [.sl (some 2) (l ++ beS x 8).length ((l ++ beS x 8).map bA)]), none, some (.tip 5 1 (l ++ beS x 8).length)] := by
  have hbl := beS_length x 8
  refine FC.of_wp [] Tryd.func49 rfl rfl rfl rfl ⟨rfl, trivial, trivial⟩ ⟨⟨⟨fun k hk => by cases hk; rfl, belL_b _ _⟩, trivial⟩, trivial, trivial⟩ (by exact Nat.le_of_ble_eq_true rfl) ?_
  intro A hG hnA hAB
  unfold start
  refine WP.rg hG ?_
  refine Ch.pu gdN (by exact ⟨rfl, trivial⟩) (OpS.move) (by first | exact trivial | exact ⟨rfl, trivial⟩) rfl ?_
  refine Ch.pu gdN (by exact ⟨rfl, trivial⟩) (OpS.move) (by first | exact trivial | exact ⟨rfl, trivial⟩) rfl ?_
  refine Ch.pu gdN (by exact ⟨rfl, trivial⟩) (OpS.nilCheckP) (by first | exact trivial | exact ⟨rfl, trivial⟩) rfl ?_
  refine Ch.pu gdN (by exact ⟨rfl, trivial⟩) (OpS.fieldAddr rfl rfl rfl rfl) (by first | exact trivial | exact ⟨rfl, trivial⟩) rfl ?_
  refine Ch.pu gdN (by exact ⟨rfl, trivial⟩) (OpS.loadP rfl rfl rfl) (by first | exact trivial | exact ⟨rfl, trivial⟩) rfl ?_
  refine Ch.pu gdN (by exact ⟨rfl, trivial⟩) (OpS.move) (by first | exact trivial | exact ⟨rfl, trivial⟩) rfl ?_
  refine Ch.callH (FC.split (lay_fc l x 8 (by decide) (by decide) hl)) [1] 2 gdN (by repeat (first | exact EvL.nil | (apply EvL.cons; exact rfl))) (by exact (And.intro (by first | exact .rfl _ | exact .untip _ _ _ | exact .nil | exact .func _ | exact AV.wk.sh (renL_s _ _) | exact AV.wk.tip rfl (by first | exact renL_b _ _ | exact renL_s _ _ | exact renL_i _ _ | exact renL_w _ _) | exact AV.wk.sh (by simp; first | done | fail)) (And.intro (by first | exact .rfl _ | exact .untip _ _ _ | exact .nil | exact .func _ | exact AV.wk.sh (renL_s _ _) | exact AV.wk.tip rfl (by first | exact renL_b _ _ | exact renL_s _ _ | exact renL_i _ _ | exact renL_w _ _) | exact AV.wk.sh (by simp; first | done | fail)) (And.intro (by first | exact .rfl _ | exact .untip _ _ _ | exact .nil | exact .func _ | exact AV.wk.sh (renL_s _ _) | exact AV.wk.tip rfl (by first | exact renL_b _ _ | exact renL_s _ _ | exact renL_i _ _ | exact renL_w _ _) | exact AV.wk.sh (by simp; first | done | fail)) trivial)))) rfl rfl (by decide) (by decide) (by first | ((conv => lhs; simp only [AV.ren, AV.renL, AO.ren, renL_b, renL_s, renL_w, renL_i, renL_append, ren_b, ren_s, ren_w, ren_i, pi_n, pi_0, pi_s, pi_1, pi_2, pi_3, pi_4, chOld, chNew, nuNew, hpl, Option.map_some, Option.map_none, List.length_cons, List.length_nil, List.take_succ_cons, List.take_zero, List.take_nil, List.drop_succ_cons, List.drop_zero, List.drop_nil, List.cons_append, List.nil_append, Nat.zero_add, Nat.add_zero, Nat.reduceAdd]); all_goals rfl) | rfl) (by first | ((conv => lhs; simp only [AV.ren, AV.renL, AO.ren, renL_b, renL_s, renL_w, renL_i, renL_append, ren_b, ren_s, ren_w, ren_i, pi_n, pi_0, pi_s, pi_1, pi_2, pi_3, pi_4, chOld, chNew, nuNew, hpl, Option.map_some, Option.map_none, List.length_cons, List.length_nil, List.take_succ_cons, List.take_zero, List.take_nil, List.drop_succ_cons, List.drop_zero, List.drop_nil, List.cons_append, List.nil_append, Nat.zero_add, Nat.add_zero, Nat.reduceAdd]); all_goals rfl) | rfl) (by first | ((conv => lhs; simp only [AV.ren, AV.renL, AO.ren, renL_b, renL_s, renL_w, renL_i, renL_append, ren_b, ren_s, ren_w, ren_i, pi_n, pi_0, pi_s, pi_1, pi_2, pi_3, pi_4, chOld, chNew, nuNew, hpl, Option.map_some, Option.map_none, List.length_cons, List.length_nil, List.take_succ_cons, List.take_zero, List.take_nil, List.drop_succ_cons, List.drop_zero, List.drop_nil, List.cons_append, List.nil_append, Nat.zero_add, Nat.add_zero, Nat.reduceAdd]); all_goals rfl) | rfl) (by first | ((conv => lhs; simp only [AV.ren, AV.renL, AO.ren, renL_b, renL_s, renL_w, renL_i, renL_append, ren_b, ren_s, ren_w, ren_i, pi_n, pi_0, pi_s, pi_1, pi_2, pi_3, pi_4, chOld, chNew, nuNew, hpl, Option.map_some, Option.map_none, List.length_cons, List.length_nil, List.take_succ_cons, List.take_zero, List.take_nil, List.drop_succ_cons, List.drop_zero, List.drop_nil, List.cons_append, List.nil_append, Nat.zero_add, Nat.add_zero, Nat.reduceAdd]); all_goals rfl) | rfl) (by first | exact trivial | exact ⟨rfl, trivial⟩ | exact ⟨rfl, rfl, trivial⟩ | exact ⟨rfl, rfl, rfl, trivial⟩ | exact ⟨rfl, rfl, rfl, rfl, trivial⟩) (by first | exact trivial | exact ⟨rfl, trivial⟩ | exact ⟨rfl, rfl, trivial⟩ | exact ⟨rfl, rfl, rfl, trivial⟩ | exact ⟨rfl, rfl, rfl, rfl, trivial⟩) rfl ?_
  refine Ch.pu gdN (by exact ⟨rfl, trivial⟩) (OpS.nilCheckP) (by first | exact trivial | exact ⟨rfl, trivial⟩) rfl ?_
  refine Ch.pu gdN (by exact ⟨rfl, trivial⟩) (OpS.fieldAddr rfl rfl rfl rfl) (by first | exact trivial | exact ⟨rfl, trivial⟩) rfl ?_
  refine Ch.wr gdN (by exact ⟨rfl, rfl, trivial⟩) (OpS.storeP (cs := [.sl (some 1) l.length (l.map bA)]) rfl rfl rfl (by simp)) (by first | exact trivial | exact ⟨rfl, trivial⟩) (by first | exact trivial | exact ⟨rfl, trivial⟩ | exact ⟨rfl, rfl, trivial⟩) ?_
  refine Ch.nil ?_
  refine (Ret.of (rs := []) (vs := []) (H' := [some (.cells 78 [.sl (some 2) (l ++ beS x 8).length ((l ++ beS x 8).map bA)]), none, some (.tip 5 1 (l ++ beS x 8).length)]) (res := .tup []) [0, 1, 2] ?_ ?_ rfl ?_ (by simp only [List.length_cons, List.length_nil]; decide) ?_).2
  · exact (fun i hi => by rw [hnA] at hi; simp only [List.length_cons, List.length_nil] at hi ⊢; first | exact absurd hi (Nat.not_lt_zero _) | (revert i; decide))
  · (repeat (first | exact trivial | (refine And.intro ⟨(by first | trivial | (simp; first | done | fail) | exact ⟨trivial, hbel _⟩), _, rfl, (by first | exact .rfl _ | exact .nil | exact .of_eq (by simp [hbl]; first | done | fail) | exact AV.wk.sh (by simp [hbl]; first | done | fail) | exact .untip _ _ _)⟩ ?_)))
  · (repeat (first | exact trivial | refine HFromL.skip ?_ | (refine And.intro ⟨(by first | trivial | (simp; first | done | fail) | exact ⟨trivial, hbel _⟩), (by first | rfl | (simp [hbl]; first | done | fail) | (conv => rhs; simp only [AO.ren, AV.ren, AV.renL, Option.map_some, hbl]) <;> rfl)⟩ ?_)))
  · exact ⟨_, rfl, rfl, by simp [ls, TsOk, List.zip, List.zipWith]⟩
theorem wBytes_fc {G : List (Nat × Array Value)} (l : List UInt8) : FC Tryd.prog G 50 [.ptr 0 0] (wrH l) (sA l) (wrH l) := by
  refine FC.of_wp [2] Tryd.func50 rfl rfl rfl rfl ⟨rfl, trivial⟩ ⟨⟨⟨fun k hk => by cases hk; rfl, belL_b _ _⟩, trivial⟩, trivial, trivial⟩ (by exact Nat.le_of_ble_eq_true rfl) ?_
  intro A hG hnA hAB
  unfold start
  refine WP.rs hG ?_
  refine Ch.pu gdN (by exact ⟨rfl, trivial⟩) (OpS.assign) (by first | exact trivial | exact ⟨rfl, trivial⟩) rfl ?_
  refine Ch.nil ?_
  refine WP.rs hG ?_
  refine Ch.pu gdN (by exact ⟨rfl, trivial⟩) (OpS.move) (by first | exact trivial | exact ⟨rfl, trivial⟩) rfl ?_
  refine Ch.pu gdN (by exact ⟨rfl, trivial⟩) (OpS.nilCheckP) (by first | exact trivial | exact ⟨rfl, trivial⟩) rfl ?_
  refine Ch.pu gdN (by exact ⟨rfl, trivial⟩) (OpS.fieldAddr rfl rfl rfl rfl) (by first | exact trivial | exact ⟨rfl, trivial⟩) rfl ?_
  refine Ch.pu gdN (by exact ⟨rfl, trivial⟩) (OpS.loadP rfl rfl rfl) (by first | exact trivial | exact ⟨rfl, trivial⟩) rfl ?_
  refine Ch.pu gdN (by exact ⟨rfl, trivial⟩) (OpS.b2s rfl rfl rfl (by first | rfl | (simp; done) | omega)) (by first | exact trivial | exact ⟨rfl, trivial⟩) rfl ?_
  refine Ch.pu gdN (by exact ⟨rfl, trivial⟩) (OpS.assign) (by first | exact trivial | exact ⟨rfl, trivial⟩) rfl ?_
  refine Ch.nil ?_
  refine WP.ret ?_
  refine (Ret.of (rs := [2]) (vs := [sA l]) (H' := wrH l) (res := sA l) [0, 1] ?_ ?_ rfl ?_ (by simp only [List.length_cons, List.length_nil]; decide) ?_).1
  · exact (fun i hi => by rw [hnA] at hi; simp only [List.length_cons, List.length_nil] at hi ⊢; first | exact absurd hi (Nat.not_lt_zero _) | (revert i; decide))
  · (repeat (first | exact trivial | (refine And.intro ⟨(by first | trivial | (simp; first | done | fail) | exact ⟨trivial, hbel _⟩), _, rfl, (by first | exact .rfl _ | exact .nil | exact .of_eq (by simp; first | done | fail) | exact AV.wk.sh (by simp; first | done | fail) | exact .untip _ _ _)⟩ ?_)))
  · (repeat (first | exact trivial | refine HFromL.skip ?_ | (refine And.intro ⟨(by first | trivial | (simp; first | done | fail) | exact ⟨trivial, hbel _⟩), (by first | rfl | (simp; first | done | fail))⟩ ?_)))
  · rfl
end Go.Proofs.YtmmoadhjlgbmhaaDoor.E
end
section
/- The document's own writer of layer 2, by abstract steps. -/
namespace Go.Proofs.YtmmoadhjlgbmhaaDoor.E
open Go Go.RowKit Go.Proofs.YtmmoadhjlgbmhaaDoor.V
attribute [local go_sem] B_size B_append B_extract mk_B B_toList take_drop_len List.length_drop List.length_take sgn32 sgn64 add32 sub32 mul32 add64 sub64 mul64 mul64_8 and32 or32 xor32 and64 or64 xor64 shl32_run shr32_run shl64_run shr64_run not32 not32' xor32_all w_u32_u8 w_u64_u8 w_i64_u8 w_u8_u32 w_u8_u64 w_u32_u64 w_u64_u32 w_u8_u8 w_u32_u32 w_u64_u64
attribute [local go_sem ↓] run_index_B' add32 sub32 mul32 add64 sub64 mul64 mul64_8 and32 or32 xor32 and64 or64 xor64 shl32_run shr32_run shl64_run shr64_run not32 not32' xor32_all w_u32_u8 w_u64_u8 w_i64_u8 w_u8_u32 w_u8_u64 w_u32_u64 w_u64_u32 w_u8_u8 w_u32_u32 w_u64_u64 w_u64_nat w_u32_nat w_u8_nat
theorem u64q (x : UInt64) (m : Nat) : ((x.toNat / 256 ^ m : Nat) : Int) / 256 = ((x.toNat / 256 ^ (m + 1) : Nat) : Int) := by
  rw [Nat.pow_succ, ← Nat.div_div_eq_div_mul]
  omega
theorem rowN_cells (x : UInt64) (many : Nat) : (((rowN x many many).map bA).drop 0).take many = (beS x many).map bA := by
  rw [rowN_all, List.drop_zero, List.take_of_length_le (by simp [beS_length])]
theorem rowN_start (x : UInt64) (many : Nat) : List.replicate many (.v (.int .u8 0) : AV) = (rowN x many 0).map bA := by
  rw [rowN_0, List.map_replicate]
  rfl
theorem setA (l : List UInt8) (i : Nat) (b : UInt8) : (l.map bA).set i (.v (.int .u8 (U8 b))) = (l.set i b).map bA := by
  rw [List.map_set]
  rfl
theorem number_fc {G : List (Nat × Array Value)} (x : UInt64) (many : Nat) (h8 : many ≤ 8) :
    FC Tryd.prog G 65 [.v (.int .u64 (U64 x)), .v (.int .i64 (many : Int))] [] (sA (beS x many)) [] := by
  have hx := x.toNat_lt
  refine FC.of_wp [4] Tryd.func65 rfl rfl rfl rfl (by first | trivial | (simp; first | done | fail) | exact ⟨trivial, hbel _⟩) (by first | trivial | (simp; first | done | fail) | exact ⟨trivial, hbel _⟩) (by exact Nat.le_of_ble_eq_true rfl) ?_
  intro A hG hnA hAB
  unfold start
  refine WP.rs hG ?_
  refine Ch.pu gdN (by exact ⟨rfl, trivial⟩) (OpS.assign) (by first | exact trivial | exact ⟨rfl, trivial⟩) rfl ?_
  refine Ch.nil ?_
  refine WP.rs hG ?_
  refine Ch.pu gdN (by exact ⟨rfl, trivial⟩) (OpS.move) (by first | exact trivial | exact ⟨rfl, trivial⟩) rfl ?_
  refine Ch.al gdN (by exact ⟨rfl, rfl, trivial⟩) (OpS.makeB (n := many) (bb := 1) 0 rfl rfl rfl rfl rfl rfl rfl rfl (by omega) (by unfold maxLen; omega)) (by first | exact trivial | exact ⟨rfl, trivial⟩) (by first | exact trivial | exact ⟨rfl, trivial⟩ | exact ⟨rfl, rfl, trivial⟩) rfl ?_
  refine Ch.pu gdN (by exact ⟨rfl, trivial⟩) (OpS.assign) (by first | exact trivial | exact ⟨rfl, trivial⟩) rfl ?_
  refine Ch.nil ?_
  refine WP.seq ?_
  refine WP.rs hG ?_
  refine Ch.pu gdN (by exact ⟨rfl, trivial⟩) (OpS.move) (by first | exact trivial | exact ⟨rfl, trivial⟩) rfl ?_
  refine Ch.pu gdN (by exact ⟨rfl, rfl, trivial⟩) (OpS.int rfl (by first | exact wr64 (by omega) | exact rfl)) (by first | exact trivial | exact ⟨rfl, trivial⟩) rfl ?_
  refine Ch.pu gdN (by exact ⟨rfl, trivial⟩) (OpS.assign) (by first | exact trivial | exact ⟨rfl, trivial⟩) rfl ?_
  refine Ch.nil ?_
  refine WP.block ?_
  refine WP.loop (fun k σ => ∃ (m y : Nat) (i : Int), (m + k = many ∧ i = (many : Int) - 1 - m ∧ y = x.toNat / 256 ^ m) ∧ σ = ⟨25, ls [(0, .v (.int .u64 (y : Int))), (5, .arr 0 0 many), (6, .v (.int .i64 i))], lh [(0, .cells 5 ((rowN x many m).map bA))], blt 1⟩) (many) (Ent.of [] ?_ ?_ ?_ ?_).se ⟨0, x.toNat, (many : Int) - 1, ⟨by omega, by omega, by simp⟩, rfl⟩ ?_
  · exact (fun i hi => by rw [hnA] at hi; simp only [List.length_cons, List.length_nil] at hi ⊢; first | exact absurd hi (Nat.not_lt_zero _) | (revert i; decide))
  · (repeat (first | exact trivial | (refine And.intro ⟨(by first | trivial | (simp; first | done | fail) | exact ⟨trivial, hbel _⟩), _, rfl, (by first | exact .rfl _ | exact .nil | exact .of_eq (by simp [rowN_start x]; first | done | fail) | exact AV.wk.sh (by simp [rowN_start x]; first | done | fail) | exact .untip _ _ _)⟩ ?_)))
  · (repeat (first | exact trivial | (refine And.intro ⟨rfl, (by first | trivial | (simp; first | done | fail) | exact ⟨trivial, hbel _⟩), (by first | rfl | (simp [rowN_start x]; first | done | fail))⟩ ?_)))
  · simp [rn]
  · rintro k σ ⟨m, y, i, ⟨hm, hi, hy⟩, rfl⟩
    have hy2 : y ≤ x.toNat := by rw [hy]; exact Nat.div_le_self _ _
    have hrl := rowN_length x many m (by omega)
    refine WP.seq ?_
    refine WP.rs hG ?_
    refine Ch.pu gdN (by exact ⟨rfl, trivial⟩) (OpS.move) (by first | exact trivial | exact ⟨rfl, trivial⟩) rfl ?_
    refine Ch.pu gdN (by exact ⟨rfl, rfl, trivial⟩) (OpS.int rfl (by first | exact wr64 (by omega) | exact rfl)) (by first | exact trivial | exact ⟨rfl, trivial⟩) rfl ?_
    refine Ch.nil ?_
    refine WP.cond rfl ?_ ?_
    · intro ht
      have ht' := of_decide_eq_true ht
      have hrs := rowN_set x many m (by omega)
      have hit : i.toNat = many - 1 - m := by omega
      rw [← hy, ← hit] at hrs
      refine WP.skip ?_
      refine WP.seq ?_
      refine WP.block ?_
      refine WP.rs hG ?_
      refine Ch.pu gdN (by exact ⟨rfl, trivial⟩) (OpS.move) (by first | exact trivial | exact ⟨rfl, trivial⟩) rfl ?_
      refine Ch.pu gdN (by exact ⟨rfl, trivial⟩) (OpS.move) (by first | exact trivial | exact ⟨rfl, trivial⟩) rfl ?_
      refine Ch.pu gdN (by exact ⟨rfl, trivial⟩) (OpS.move) (by first | exact trivial | exact ⟨rfl, trivial⟩) rfl ?_
      refine Ch.pu gdN (by exact ⟨rfl, rfl, trivial⟩) (OpS.rem (by omega) (by omega)) (by first | exact trivial | exact ⟨rfl, trivial⟩) rfl ?_
      refine Ch.pu gdN (by exact ⟨rfl, trivial⟩) (OpS.conv (k := .u8) rfl rfl (cv_mod y)) (by first | exact trivial | exact ⟨rfl, trivial⟩) rfl ?_
      refine Ch.pu gdN (by exact ⟨rfl, rfl, trivial⟩) (OpS.indexAddrA (sz := 1) rfl rfl rfl (by omega) (by omega)) (by first | exact trivial | exact ⟨rfl, trivial⟩) rfl ?_
      refine Ch.wr gdN (by exact ⟨rfl, rfl, trivial⟩) (OpS.storeP (cs := (rowN x many m).map bA) rfl rfl rfl (by rw [List.length_map, hrl]; omega)) (by first | exact trivial | exact ⟨rfl, trivial⟩) (by first | exact trivial | exact ⟨rfl, trivial⟩ | exact ⟨rfl, rfl, trivial⟩) ?_
      refine Ch.nil ?_
      refine WP.rg hG ?_
      refine Ch.pu gdN (by exact ⟨rfl, trivial⟩) (OpS.move) (by first | exact trivial | exact ⟨rfl, trivial⟩) rfl ?_
      refine Ch.pu gdN (by exact ⟨rfl, rfl, trivial⟩) (OpS.quoU (by omega) (by omega) (by omega)) (by first | exact trivial | exact ⟨rfl, trivial⟩) rfl ?_
      refine Ch.pu gdN (by exact ⟨rfl, trivial⟩) (OpS.assign) (by first | exact trivial | exact ⟨rfl, trivial⟩) rfl ?_
      refine Ch.nil ?_
      refine WP.rg hG ?_
      refine Ch.pu gdN (by exact ⟨rfl, trivial⟩) (OpS.move) (by first | exact trivial | exact ⟨rfl, trivial⟩) rfl ?_
      refine Ch.pu gdN (by exact ⟨rfl, rfl, trivial⟩) (OpS.int rfl (by first | exact wr64 (by omega) | exact rfl)) (by first | exact trivial | exact ⟨rfl, trivial⟩) rfl ?_
      refine Ch.pu gdN (by exact ⟨rfl, trivial⟩) (OpS.assign) (by first | exact trivial | exact ⟨rfl, trivial⟩) rfl ?_
      refine Ch.nil ?_
      refine ⟨k - 1, _, by omega, (Ent.of [0] ?_ ?_ ?_ ?_).se, m + 1, y / 256, i - 1, ⟨by omega, by omega, by rw [hy, Nat.pow_succ, ← Nat.div_div_eq_div_mul]⟩, rfl⟩
      · exact (fun i hi => by rw [hnA] at hi; simp only [List.length_cons, List.length_nil] at hi ⊢; first | exact absurd hi (Nat.not_lt_zero _) | (revert i; decide))
      · (repeat (first | exact trivial | (refine And.intro ⟨(by first | trivial | (simp; first | done | fail) | exact ⟨trivial, hbel _⟩), _, rfl, (by first | exact .rfl _ | exact .nil | exact .of_eq (by simp [setA, hrs]; first | done | fail) | exact AV.wk.sh (by simp [setA, hrs]; first | done | fail) | exact .untip _ _ _)⟩ ?_)))
      · (repeat (first | exact trivial | (refine And.intro ⟨rfl, (by first | trivial | (simp; first | done | fail) | exact ⟨trivial, hbel _⟩), (by first | rfl | (simp [setA, hrs]; first | done | fail))⟩ ?_)))
      · simp [rn]
    · intro ht
      have ht' := of_decide_eq_false ht
      obtain rfl : m = many := by omega
      refine WP.exit ?_
      refine WP.rs hG ?_
      refine Ch.pu gdN (by exact ⟨rfl, trivial⟩) (OpS.move) (by first | exact trivial | exact ⟨rfl, trivial⟩) rfl ?_
      refine Ch.pu gdN (by exact ⟨rfl, trivial⟩) (OpS.b2sA (l := beS x m) rfl rfl rfl (beS_length x m).symm (rowN_cells x m)) (by first | exact trivial | exact ⟨rfl, trivial⟩) rfl ?_
      refine Ch.pu gdN (by exact ⟨rfl, trivial⟩) (OpS.assign) (by first | exact trivial | exact ⟨rfl, trivial⟩) rfl ?_
      refine Ch.nil ?_
      refine WP.ret (Ret.one rfl (by first | exact .rfl _ | exact .nil | exact .of_eq (by simp; first | done | fail) | exact AV.wk.sh (by simp; first | done | fail) | exact .untip _ _ _) (by first | trivial | simp [AV.bel]) hnA)
abbrev rwH (l : List UInt8) : List (Option AO) := [some (.cells 81 [sA l])]
theorem rnewWriter_fc {G : List (Nat × Array Value)} : FC Tryd.prog G 51 [] [] (.ptr 0 0) (rwH []) := by
  refine FC.of_wp [0] Tryd.func51 rfl rfl rfl rfl (by first | trivial | (simp; first | done | fail) | exact ⟨trivial, hbel _⟩) (by first | trivial | (simp; first | done | fail) | exact ⟨trivial, hbel _⟩) (by exact Nat.le_of_ble_eq_true rfl) ?_
  intro A hG hnA hAB
  unfold start
  refine WP.rs hG ?_
  refine Ch.pu gdN (by exact ⟨rfl, trivial⟩) (OpS.assign) (by first | exact trivial | exact ⟨rfl, trivial⟩) rfl ?_
  refine Ch.nil ?_
  refine WP.rs hG ?_
  refine Ch.pup gdN (by repeat (first | exact EvP.nil | (apply EvP.cons; exact rfl))) (OpS.build (cs := [sA []]) rfl rfl rfl rfl rfl (by rfl)) rfl ?_
  refine Ch.al gdN (by exact ⟨rfl, trivial⟩) (OpS.box 0 rfl) (by first | exact trivial | exact ⟨rfl, trivial⟩) (by first | exact trivial | exact ⟨rfl, trivial⟩ | exact ⟨rfl, rfl, trivial⟩) rfl ?_
  refine Ch.pu gdN (by exact ⟨rfl, trivial⟩) (OpS.assign) (by first | exact trivial | exact ⟨rfl, trivial⟩) rfl ?_
  refine Ch.nil ?_
  refine WP.ret ?_
  refine (Ret.of (rs := [0]) (vs := [.ptr 0 0]) (H' := rwH []) (res := .ptr 0 0) [0] ?_ ?_ rfl ?_ (by simp only [List.length_cons, List.length_nil]; decide) ?_).1
  · exact (fun i hi => by rw [hnA] at hi; simp only [List.length_cons, List.length_nil] at hi ⊢; first | exact absurd hi (Nat.not_lt_zero _) | (revert i; decide))
  · (repeat (first | exact trivial | (refine And.intro ⟨(by first | trivial | (simp; first | done | fail) | exact ⟨trivial, hbel _⟩), _, rfl, (by first | exact .rfl _ | exact .nil | exact .of_eq (by simp; first | done | fail) | exact AV.wk.sh (by simp; first | done | fail) | exact .untip _ _ _)⟩ ?_)))
  · (repeat (first | exact trivial | refine HFromL.skip ?_ | (refine And.intro ⟨(by first | trivial | (simp; first | done | fail) | exact ⟨trivial, hbel _⟩), (by first | rfl | (simp; first | done | fail))⟩ ?_)))
  · rfl
theorem rwNum_fc {G : List (Nat × Array Value)} (l : List UInt8) (x : UInt64) (hl : l.length ≤ 70368744177664) :
    FC Tryd.prog G 52 [.ptr 0 0, .v (.int .u64 (U64 x))] (rwH l) (.tup []) (rwH (l ++ beS x 8)) := by
  have hbl := beS_length x 8
  refine FC.of_wp [] Tryd.func52 rfl rfl rfl rfl ⟨rfl, trivial, trivial⟩ ⟨⟨trivial, trivial⟩, trivial⟩ (by exact Nat.le_of_ble_eq_true rfl) ?_
  intro A hG hnA hAB
  unfold start
  refine WP.rgD (by kernel_rfl) hG ?_
  refine Ch.pu gdN (by exact ⟨rfl, trivial⟩) (OpS.move) (by first | exact trivial | exact ⟨rfl, trivial⟩) rfl ?_
  refine Ch.pu gdN (by exact ⟨rfl, trivial⟩) (OpS.move) (by first | exact trivial | exact ⟨rfl, trivial⟩) rfl ?_
  refine Ch.pu gdN (by exact ⟨rfl, trivial⟩) (OpS.nilCheckP) (by first | exact trivial | exact ⟨rfl, trivial⟩) rfl ?_
  refine Ch.pu gdN (by exact ⟨rfl, trivial⟩) (OpS.fieldAddr rfl rfl rfl rfl) (by first | exact trivial | exact ⟨rfl, trivial⟩) rfl ?_
  refine Ch.pu gdN (by exact ⟨rfl, trivial⟩) (OpS.loadP rfl rfl rfl) (by first | exact trivial | exact ⟨rfl, trivial⟩) rfl ?_
  refine Ch.pu gdN (by exact ⟨rfl, trivial⟩) (OpS.move) (by first | exact trivial | exact ⟨rfl, trivial⟩) rfl ?_
  refine Ch.callP (number_fc x 8 (by decide)) gdN (by repeat (first | exact EvL.nil | (apply EvL.cons; exact rfl))) (by exact (And.intro (by first | exact .rfl _ | exact .untip _ _ _ | exact .nil | exact .func _ | exact AV.wk.sh (renL_s _ _) | exact AV.wk.sh (by simp; first | done | fail)) (And.intro (by first | exact .rfl _ | exact .untip _ _ _ | exact .nil | exact .func _ | exact AV.wk.sh (renL_s _ _) | exact AV.wk.sh (by simp; first | done | fail)) trivial))) (by rfl) rfl ?_
  refine Ch.pu gdN (by exact ⟨rfl, rfl, trivial⟩) (OpS.strAdd (by omega)) (by first | exact trivial | exact ⟨rfl, trivial⟩) rfl ?_
  refine Ch.pu gdN (by exact ⟨rfl, trivial⟩) (OpS.nilCheckP) (by first | exact trivial | exact ⟨rfl, trivial⟩) rfl ?_
  refine Ch.pu gdN (by exact ⟨rfl, trivial⟩) (OpS.fieldAddr rfl rfl rfl rfl) (by first | exact trivial | exact ⟨rfl, trivial⟩) rfl ?_
  refine Ch.wr gdN (by exact ⟨rfl, rfl, trivial⟩) (OpS.storeP (cs := [sA l]) rfl rfl rfl (by simp)) (by first | exact trivial | exact ⟨rfl, trivial⟩) (by first | exact trivial | exact ⟨rfl, trivial⟩ | exact ⟨rfl, rfl, trivial⟩) ?_
  refine Ch.nilD ?_ (by kernel_rfl)
  refine (Ret.of (rs := []) (vs := []) (H' := rwH (l ++ beS x 8)) (res := .tup []) [0] ?_ ?_ rfl ?_ (by simp only [List.length_cons, List.length_nil]; decide) ?_).2
  · exact (fun i hi => by rw [hnA] at hi; simp only [List.length_cons, List.length_nil] at hi ⊢; first | exact absurd hi (Nat.not_lt_zero _) | (revert i; decide))
  · (repeat (first | exact trivial | (refine And.intro ⟨(by first | trivial | (simp; first | done | fail) | exact ⟨trivial, hbel _⟩), _, rfl, (by first | exact .rfl _ | exact .nil | exact .of_eq (by simp; first | done | fail) | exact AV.wk.sh (by simp; first | done | fail) | exact .untip _ _ _)⟩ ?_)))
  · (repeat (first | exact trivial | refine HFromL.skip ?_ | (refine And.intro ⟨(by first | trivial | (simp; first | done | fail) | exact ⟨trivial, hbel _⟩), (by first | rfl | (simp; first | done | fail))⟩ ?_)))
  · exact ⟨_, rfl, rfl, by simp [ls, TsOk, List.zip, List.zipWith]⟩
theorem rwBytes_fc {G : List (Nat × Array Value)} (l : List UInt8) : FC Tryd.prog G 53 [.ptr 0 0] (rwH l) (sA l) (rwH l) := by
  refine FC.of_wp [2] Tryd.func53 rfl rfl rfl rfl ⟨rfl, trivial⟩ ⟨⟨trivial, trivial⟩, trivial⟩ (by exact Nat.le_of_ble_eq_true rfl) ?_
  intro A hG hnA hAB
  unfold start
  refine WP.rs hG ?_
  refine Ch.pu gdN (by exact ⟨rfl, trivial⟩) (OpS.assign) (by first | exact trivial | exact ⟨rfl, trivial⟩) rfl ?_
  refine Ch.nil ?_
  refine WP.rs hG ?_
  refine Ch.pu gdN (by exact ⟨rfl, trivial⟩) (OpS.move) (by first | exact trivial | exact ⟨rfl, trivial⟩) rfl ?_
  refine Ch.pu gdN (by exact ⟨rfl, trivial⟩) (OpS.nilCheckP) (by first | exact trivial | exact ⟨rfl, trivial⟩) rfl ?_
  refine Ch.pu gdN (by exact ⟨rfl, trivial⟩) (OpS.fieldAddr rfl rfl rfl rfl) (by first | exact trivial | exact ⟨rfl, trivial⟩) rfl ?_
  refine Ch.pu gdN (by exact ⟨rfl, trivial⟩) (OpS.loadP rfl rfl rfl) (by first | exact trivial | exact ⟨rfl, trivial⟩) rfl ?_
  refine Ch.pu gdN (by exact ⟨rfl, trivial⟩) (OpS.assign) (by first | exact trivial | exact ⟨rfl, trivial⟩) rfl ?_
  refine Ch.nil ?_
  refine WP.ret ?_
  refine (Ret.of (rs := [2]) (vs := [sA l]) (H' := rwH l) (res := sA l) [0] ?_ ?_ rfl ?_ (by simp only [List.length_cons, List.length_nil]; decide) ?_).1
  · exact (fun i hi => by rw [hnA] at hi; simp only [List.length_cons, List.length_nil] at hi ⊢; first | exact absurd hi (Nat.not_lt_zero _) | (revert i; decide))
  · (repeat (first | exact trivial | (refine And.intro ⟨(by first | trivial | (simp; first | done | fail) | exact ⟨trivial, hbel _⟩), _, rfl, (by first | exact .rfl _ | exact .nil | exact .of_eq (by simp; first | done | fail) | exact AV.wk.sh (by simp; first | done | fail) | exact .untip _ _ _)⟩ ?_)))
  · (repeat (first | exact trivial | refine HFromL.skip ?_ | (refine And.intro ⟨(by first | trivial | (simp; first | done | fail) | exact ⟨trivial, hbel _⟩), (by first | rfl | (simp; first | done | fail))⟩ ?_)))
  · rfl
end Go.Proofs.YtmmoadhjlgbmhaaDoor.E
end
