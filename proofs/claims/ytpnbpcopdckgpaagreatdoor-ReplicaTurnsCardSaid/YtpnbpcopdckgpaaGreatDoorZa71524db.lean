import Derived.Test.YtpnbpcopdckgpaaGreatDoorZc1451e67
import Derived.Lib.ConvBytes
section
namespace Go.Proofs.YtpnbpcopdckgpaaGreatDoor.E
open Go Go.RowKit Go.Proofs.YtpnbpcopdckgpaaGreatDoor.V
section
variable {P : Program} {G : List (Nat × Array Value)} {dst : Option Tmp} {ty : TypeId} {pos : String} {aft : Array Edge} {gd : Option (Nat × Bool)}
theorem OpS.boxS {T : TypeId} {x : Operand} {y : AV} : OpS P G ⟨dst, .box T x, ty, pos, aft, gd⟩ [(x, y)] [] ⟨some (.sptr (cellsA y)), [], []⟩ := by
 refine OpS.act fun A ρ σ a w _ h hp hu hs => ?_
 obtain ⟨c1, c2⟩ := cellsA_rel (hs.ev h.1)
 obtain ⟨k1, k2, k3⟩ := hs.mem.grow (w' := w.alloc (.cells (a.eval x).cells T)) rfl rfl rfl (by simp) (fun k hk => Below.heap_alloc w _ k hk)
 refine ⟨.pointer (some ⟨w.heap.size, 0, none⟩), w.alloc (.cells (a.eval x).cells T), ρ, .inl ?_, k1, k2, fun v hv => by
  cases hv
  have hgd : ∀ i, i < (cellsA y).length → (a.eval x).cells[i]? = some ((a.eval x).cells.getD i undef) := fun i hi => by
   have : i < (a.eval x).cells.size := by omega
   simp [Array.getD_eq_getD_getElem?, this]
  refine .sptr (cellsA y) w.heap.size 0 (fun i => (a.eval x).cells.getD i undef) (fun i hi => ⟨?_, k3 _ _ (Nat.le_refl _) (by simp)⟩) (fun i c hc => ?_)
  ·
   rw [cell_of_row _ w.heap.size (0 + i) (a.eval x).cells T (0, 0) (heap_alloc_new w _), Nat.zero_add]
   exact hgd i hi
  exact k2 _ _ (c2 i c _ hc (hgd i (List.getElem?_eq_some_iff.1 hc).1))⟩
 refine runv (s := Instr.box T (a.eval x)) ?_
 simp [Instr.box, newVar, newRow, Sem.run_bind, Sem.run_pure, Result.andThen_ok]
theorem OpS.makeFunc {fn : Fn} {xs : List Operand} {ys : List AV} (hl : xs.length = ys.length) : OpS P G ⟨dst, .makeFunc fn #[] xs.toArray, ty, pos, aft, gd⟩ (xs.zip ys) [] ⟨some (.fn fn [] ys), [], []⟩ :=
 OpS.still fun A ρ σ a w _ h _ hs => ⟨.func fn #[] (xs.map a.eval).toArray, by
  have e : execOp a.eval ⟨dst, .makeFunc fn #[] xs.toArray, ty, pos, aft, gd⟩ = (do pure (Next.value (← Instr.makeFunc fn (#[].map a.eval) (xs.toArray.map a.eval)))) := rfl
  rw [e]
  refine runv ?_
  simp [Instr.makeFunc], .fn fn [] ys _ _ rfl (fun i c x hc => by simp at hc) (by simp [hl]) (fun i c x hc hx => by
   rw [List.getElem?_toArray, List.getElem?_map] at hx
   cases hxi : xs[i]? with
   | none => rw [hxi] at hx; cases hx
   | some o => rw [hxi] at hx; cases hx; exact ev_ops hs h i o c hxi hc)⟩
theorem OpS.callF {f : FuncId} {args : List AV} {H H' : List (Option AO)} {res : AV} (F : FC P G f args H res H') (old : List Nat) (base : Nat) (hol : old.length = H.length) (hnd : old.Nodup) (hlt : ∀ x ∈ old, x < base)
  {c : Operand} {xs : List Operand} {ys caps : List AV} (ho : xs.length = ys.length) (hwk : WkL (ys ++ caps) (args.map (AV.ren (pi old base)))) {ats : Array TypeId} :
  OpS P G ⟨dst, .call ⟨.value c, xs.toArray, ats⟩, ty, pos, aft, gd⟩ ((c :: xs).zip (.fn (.func f) [] caps :: ys)) (hpl (pi old base) old H) (callEff old base res H.length H') := by
 constructor
 intro A ρ σ a w K Q hG h1 h2 h3 hd hs hK
 obtain ⟨fn, cd, hf, hname, hb⟩ := F.enter
 have hcv := hs.ev h1.1
 obtain ⟨us, hus, hcap, hev⟩ : ∃ us : Array Value, us.size = caps.length ∧ (∀ (i : Nat) (c : AV) (x : Value), caps[i]? = some c → us[i]? = some x → VRel (Nh A σ.h ρ w) ρ w c x) ∧ a.eval c = .func (.func f) #[] us := by
  generalize a.eval c = v at hcv
  cases hcv with
  | fn f' fs cs vs us hs1 k1 hs2 k2 =>
   refine ⟨us, hs2, k2, ?_⟩
   obtain rfl := Array.eq_empty_of_size_eq_zero (by simpa using hs1)
   rfl
 have hrun : (execOp a.eval ⟨dst, .call ⟨.value c, xs.toArray, ats⟩, ty, pos, aft, gd⟩).run P w = .ok (.enter f ((xs.map a.eval).toArray ++ us)) w := by
  have := run_enter hf hname hb ((xs.map a.eval).toArray ++ us) w
  show (do let d ← Deferred.ofValue (a.eval c) (xs.toArray.map a.eval); invoke d.target d.args : Sem Next).run P w = _
  rw [hev]
  show (callFunc f (#[] ++ xs.toArray.map a.eval ++ us)).run P w = _
  simpa using this
 unfold Oper.wp
 rw [hrun, Oper.upon_enter]
 refine (call_sat F hol hnd hlt hG hs h2 h3 hd (vs := (xs.map a.eval).toArray ++ us) (ys := ys ++ caps) (by simp [ho, hus]) ?_ hwk).mono ?_
 ·
  intro i y x hy hx
  by_cases hi : i < ys.length
  ·
   rw [List.getElem?_append_left hi] at hy
   rw [Array.getElem?_append_left (by simp [ho]; exact hi), List.getElem?_toArray, List.getElem?_map] at hx
   cases hxi : xs[i]? with
   | none => rw [hxi] at hx; cases hx
   | some o => rw [hxi] at hx; cases hx; exact ev_ops hs h1.2 i o y hxi hy
  rw [List.getElem?_append_right (by omega)] at hy
  rw [Array.getElem?_append_right (by simp [ho]; omega)] at hx
  simp only [List.size_toArray, List.length_map, ho] at hx
  exact hcap _ y x hy hx
 rintro e w' ⟨v, ρ', rfl, hs'⟩
 exact hK _ _ ρ' hs'
end
section
variable {P : Program} {G : List (Nat × Array Value)} {l r : List Oper} {K : AS → Prop} {n : Nat} {s : Nat → Option AV} {h : Nat → Option AO} {u : Nat → Bool} {d : Tmp} {ty : TypeId} {pos : String} {aft : Array Edge} {gd : Option (Nat × Bool)} {D : Bool} {acc : List St}
theorem Ch.mf {fn : Fn} {xs : List Operand} {ys : List AV} (hg : GdOk l.toArray ⟨some d, .makeFunc fn #[] xs.toArray, ty, pos, aft, gd⟩ ⟨n, s, h, u⟩ true) (hev : EvL ⟨n, s, h, u⟩ xs ys) (hd : Nat.blt d n = true)
  (hr : Ch P G l D K (⟨true, xs.zip ys, [], ⟨some (.fn fn [] ys), [], []⟩⟩ :: acc) r ⟨n, upd s d (some (.fn fn [] ys)), h, u⟩) :
  Ch P G l D K acc (⟨some d, .makeFunc fn #[] xs.toArray, ty, pos, aft, gd⟩ :: r) ⟨n, s, h, u⟩ :=
 Ch.pul hg hev (OpS.makeFunc hev.ok.2) hd hr
theorem Ch.callF {f : FuncId} {args : List AV} {res : AV} (F : FC P G f args [] res []) {c : Operand} {xs : List Operand} {ys caps : List AV} {ats : Array TypeId}
  (hg : GdOk l.toArray ⟨some d, .call ⟨.value c, xs.toArray, ats⟩, ty, pos, aft, gd⟩ ⟨n, s, h, u⟩ true) (hev : EvL ⟨n, s, h, u⟩ (c :: xs) (.fn (.func f) [] caps :: ys)) (hwk : WkL (ys ++ caps) (args.map (AV.ren (pi [] 0)))) {res' : AV} (hres : res.ren (pi [] 0) = res') (hd : Nat.blt d n = true)
  (hr : Ch P G l D K (⟨true, (c :: xs).zip (.fn (.func f) [] caps :: ys), [], ⟨some res', [], []⟩⟩ :: acc) r ⟨n, upd s d (some res'), h, u⟩) :
  Ch P G l D K acc (⟨some d, .call ⟨.value c, xs.toArray, ats⟩, ty, pos, aft, gd⟩ :: r) ⟨n, s, h, u⟩ := by
 subst hres
 have hlen : xs.length = ys.length := by have := hev.ok.2; simpa using this
 exact Ch.cons (st := ⟨true, (c :: xs).zip (.fn (.func f) [] caps :: ys), [], ⟨some (res.ren (pi [] 0)), [], []⟩⟩) ⟨hg, fun _ => ⟨OpS.callF F [] 0 rfl (by simp) (by simp) hlen hwk, hev.ok.1, trivial, trivial, fun t ht => by cases ht; exact Nat.blt_eq.mp hd⟩, fun h => nomatch h⟩ hr
end
theorem HSat.drop {A : Amb} {ρ : Env} {h : Nat → Option AO} {u : Nat → Bool} {w : World} (H : HSat A ρ h u w) (id : Nat) : HSat A ρ (upd h id none) u w ∧ ∀ av x, VRel (Nh A h ρ w) ρ w av x → VRel (Nh A (upd h id none) ρ w) ρ w av x := by
 have hold : ∀ i ob, upd h id none i = some ob → h i = some ob := fun i ob hi => by
  rcases upd_eq_some hi with ⟨_, he⟩ | ⟨_, he⟩
  · cases he
  exact he
 exact H.next (w' := w) (ρ' := ρ) (u' := u) rfl rfl rfl (Nat.le_refl _) (fun i hi => ⟨hi, rfl, rfl⟩) H.usedB H.usedT (fun _ _ _ => rfl) (fun _ _ _ => rfl)
  (fun i ob b o hi hw => .inl ⟨i, ob, hold i ob hi, hw⟩) (fun i ob b hi hw => .inl ⟨i, ob, hold i ob hi, hw⟩) (fun i j oi oj b hi hj => H.sep i j oi oj b (hold i oi hi) (hold j oj hj))
  (fun hV i ob hi => (H.heap i ob (hold i ob hi)).keep (Env.le_refl _) hV (fun _ _ => rfl))
theorem HSat.recell {A : Amb} {ρ : Env} {h : Nat → Option AO} {u : Nat → Bool} {w : World} (H : HSat A ρ h u w) {id : Nat} {T : TypeId} {cs cs' : List AV} (hid : h id = some (.cells T cs)) (hl : cs'.length ≤ cs.length)
  (hc : ∀ (j : Nat) (c c' : AV) (x : Value), cs[j]? = some c → cs'[j]? = some c' → VRel (Nh A h ρ w) ρ w c x → VRel (Nh A h ρ w) ρ w c' x) :
  HSat A ρ (upd h id (some (.cells T cs'))) u w ∧ ∀ av x, VRel (Nh A h ρ w) ρ w av x → VRel (Nh A (upd h id (some (.cells T cs'))) ρ w) ρ w av x := by
 have hold : ∀ i ob, upd h id (some (.cells T cs')) i = some ob → (i = id ∧ ob = .cells T cs') ∨ (i ≠ id ∧ h i = some ob) := fun i ob hi => by
  rcases upd_eq_some hi with ⟨h1, he⟩ | ⟨h1, he⟩
  · cases he; exact .inl ⟨h1, rfl⟩
  exact .inr ⟨h1, he⟩
 have old2 : ∀ i ob, upd h id (some (.cells T cs')) i = some ob → ∃ ob', h i = some ob' ∧ (∀ b, ob.at_ ρ i b → ob'.at_ ρ i b) ∧ ∀ b o, ob.wr ρ i b o → ob'.wr ρ i b o := fun i ob hi => by
  rcases hold i ob hi with ⟨rfl, rfl⟩ | ⟨_, he⟩
  · exact ⟨_, hid, fun _ h => h, fun _ _ h => h⟩
  exact ⟨_, he, fun _ h => h, fun _ _ h => h⟩
 refine H.next (w' := w) (ρ' := ρ) (u' := u) rfl rfl rfl (Nat.le_refl _) (fun i hi => ⟨hi, rfl, rfl⟩) H.usedB H.usedT (fun _ _ _ => rfl) (fun _ _ _ => rfl)
  (fun i ob b o hi hw => by obtain ⟨ob', h1, _, h3⟩ := old2 i ob hi; exact .inl ⟨i, ob', h1, h3 b o hw⟩) (fun i ob b hi hw => by obtain ⟨ob', h1, h2, _⟩ := old2 i ob hi; exact .inl ⟨i, ob', h1, h2 b hw⟩)
  (fun i j oi oj b hi hj h1 h2 => by
   obtain ⟨oi', k1, k2, _⟩ := old2 i oi hi
   obtain ⟨oj', m1, m2, _⟩ := old2 j oj hj
   exact H.sep i j oi' oj' b k1 m1 (k2 b h1) (m2 b h2))
  (fun hV i ob hi => ?_)
 rcases hold i ob hi with ⟨rfl, rfl⟩ | ⟨_, he⟩
 ·
  obtain ⟨b, arr, k1, k2, k3, k4⟩ := H.heap i _ hid
  refine ⟨b, arr, k1, k2, by omega, fun j c' x hc' hx => ?_⟩
  have hj := (List.getElem?_eq_some_iff.1 hc').1
  obtain ⟨c, hcj⟩ : ∃ c, cs[j]? = some c := ⟨_, List.getElem?_eq_getElem (by omega)⟩
  exact ⟨hV _ _ (hc j c c' x hcj hc' (k4 j c x hcj hx).1), (k4 j c x hcj hx).2⟩
 exact (H.heap i ob he).keep (Env.le_refl _) hV (fun _ _ => rfl)
section
variable {A : Amb} {n : Nat} {s : Nat → Option AV} {h : Nat → Option AO} {u : Nat → Bool}
theorem SEnt.frz {t id : Nat} {T : TypeId} {cs : List AV} (hs : s t = some (.ptr id 0)) (hh : h id = some (.cells T cs)) : SEnt A ⟨n, s, h, u⟩ ⟨n, upd s t (some (.sptr cs)), upd h id none, u⟩ := by
 intro ρ a w hst
 obtain ⟨x, hx, hv⟩ := hst.slots t _ hs
 obtain ⟨b', arr, h1, ⟨fz, hmk, h2⟩, h3, h4⟩ := hst.mem.heap id _ hh
 obtain ⟨m1, m2⟩ := hst.mem.drop id
 refine ⟨ρ, m1, fun t' v' ht' => ?_, hst.nt, hst.defers⟩
 rcases upd_eq_some (f := s) ht' with ⟨rfl, he⟩ | ⟨_, he⟩
 ·
  cases he
  cases hv with
  | ptr _ _ b hb =>
   obtain rfl : b = b' := by rw [hb] at h1; exact Option.some.inj h1
   refine ⟨_, hx, .sptr cs b 0 (fun i => arr.getD i undef) (fun i hi => ⟨?_, ?_⟩) (fun i c hc => ?_)⟩
   ·
    have hlt : i < arr.size := by omega
    rw [cell_of_row w b (0 + i) arr T fz h2, Nat.zero_add]
    simp [Array.getD_eq_getD_getElem?, hlt]
   ·
    refine ⟨(Array.getElem?_eq_some_iff.1 h2).1, .inr (hst.mem.own id _ b (0 + i) hh hb), fun i' ob hi' hw => ?_⟩
    rcases upd_eq_some (f := h) hi' with ⟨_, he⟩ | ⟨hne, he⟩
    · cases he
    exact hne (hst.mem.sep i' id ob _ b he hh (AO.at_of_wr hw) hb)
   have hi := (List.getElem?_eq_some_iff.1 hc).1
   have hlt : i < arr.size := by omega
   exact m2 _ _ (h4 i c _ hc (by simp [Array.getD_eq_getD_getElem?, hlt])).1
 obtain ⟨y, hy, hw⟩ := hst.slots t' v' he
 exact ⟨y, hy, m2 _ _ hw⟩
theorem SEnt.nilTip {t : Nat} (c : Nat) (E : TypeId) (sz : Nat) (hs : s t = some (.v (.slice none 0 0))) (hu : u c = false) : SEnt A ⟨n, s, h, u⟩ ⟨n, upd s t (some (.sl (some c) 0 [])), upd h c (some (.tip E sz 0)), nuU u [c]⟩ := by
 intro ρ a w hst
 let ρ' : Env := ⟨ρ.blk, upd ρ.tip c (some (.slice none 0 0))⟩
 have hid : ρ'.tip c = some (.slice none 0 0) := upd_same _ _ _
 obtain ⟨m1, m2⟩ := hst.mem.extend (ρ' := ρ') (ob := .tip E sz 0) (w' := w) hu (fun i hi => ⟨rfl, upd_ne _ _ hi⟩) rfl rfl rfl (Nat.le_refl _) (fun k hk => rfl) (fun b ⟨cap, hb⟩ => by rw [hid] at hb; cases hb) (fun _ => .inl ⟨hid, rfl⟩)
 refine ⟨ρ', m1, fun t' v' ht' => ?_, hst.nt, hst.defers⟩
 rcases upd_eq_some (f := s) ht' with ⟨rfl, he⟩ | ⟨_, he⟩
 ·
  cases he
  obtain ⟨x, hx, hv⟩ := hst.slots t' _ hs
  rw [hv.raw] at hx
  exact ⟨_, hx, .sl _ _ _ _ _ (fun _ => undef) (fun i hi => by cases hi) (fun i c hc => by simp at hc) (fun k hk => by cases hk; exact hid) (Nat.le_refl _) (fun _ => rfl) (by unfold maxLen; omega)⟩
 obtain ⟨y, hy, hw⟩ := hst.slots t' v' he
 exact ⟨y, hy, m2 _ _ hw⟩
theorem SEnt.nilCell {id off : Nat} {T : TypeId} {cs : List AV} (c : Nat) (E : TypeId) (sz : Nat) (hh : h id = some (.cells T cs)) (hc : cs[off]? = some (.v (.slice none 0 0))) (hu : u c = false) (hne : (Nat.beq c id) = false) :
  SEnt A ⟨n, s, h, u⟩ ⟨n, s, upd (upd h c (some (.tip E sz 0))) id (some (.cells T (cs.set off (.sl (some c) 0 [])))), nuU u [c]⟩ := by
 intro ρ a w hst
 have hne' : id ≠ c := fun e => by subst e; simp at hne
 let ρ' : Env := ⟨ρ.blk, upd ρ.tip c (some (.slice none 0 0))⟩
 have hid : ρ'.tip c = some (.slice none 0 0) := upd_same _ _ _
 obtain ⟨m1, m2⟩ := hst.mem.extend (ρ' := ρ') (ob := .tip E sz 0) (w' := w) hu (fun i hi => ⟨rfl, upd_ne _ _ hi⟩) rfl rfl rfl (Nat.le_refl _) (fun k hk => rfl) (fun b ⟨cap, hb⟩ => by rw [hid] at hb; cases hb) (fun _ => .inl ⟨hid, rfl⟩)
 obtain ⟨k1, k2⟩ := m1.recell (id := id) (T := T) (cs := cs) (cs' := cs.set off (.sl (some c) 0 [])) (by rw [upd_ne _ _ hne']; exact hh) (by simp) (fun j x x' y hx hx' hv => by
  by_cases hj : j = off
  ·
   subst hj
   rw [hc] at hx
   cases hx
   have hlt := (List.getElem?_eq_some_iff.1 hc).1
   rw [List.getElem?_set_self hlt] at hx'
   cases hx'
   rw [hv.raw]
   exact .sl _ _ _ _ _ (fun _ => undef) (fun i hi => by cases hi) (fun i c hc => by simp at hc) (fun k hk => by cases hk; exact hid) (Nat.le_refl _) (fun _ => rfl) (by unfold maxLen; omega)
  rw [List.getElem?_set_ne (fun e => hj e.symm), hx] at hx'
  cases hx'
  exact hv)
 exact ⟨ρ', k1, fun t' v' ht' => by obtain ⟨y, hy, hw⟩ := hst.slots t' v' ht'; exact ⟨y, hy, k2 _ _ (m2 _ _ hw)⟩, hst.nt, hst.defers⟩
end
end Go.Proofs.YtpnbpcopdckgpaaGreatDoor.E
end
section
namespace Go.Proofs.YtpnbpcopdckgpaaGreatDoor.E
open Go Go.RowKit Go.Proofs.YtpnbpcopdckgpaaGreatDoor.V
@[simp] theorem pi_n (b j : Nat) : pi [] b j = b + j := rfl
@[simp] theorem pi_0 (o : Nat) (os : List Nat) (b : Nat) : pi (o :: os) b 0 = o := rfl
@[simp] theorem pi_s (o : Nat) (os : List Nat) (b j : Nat) : pi (o :: os) b (j + 1) = pi os b j := by
 by_cases h : j < os.length
 · rw [pi_lt (by simp; omega), pi_lt h]; rfl
 rw [pi_ge (by simp; omega), pi_ge (by omega)]
 simp
@[simp] theorem pi_1 (o : Nat) (os : List Nat) (b : Nat) : pi (o :: os) b 1 = pi os b 0 := pi_s o os b 0
@[simp] theorem pi_2 (o : Nat) (os : List Nat) (b : Nat) : pi (o :: os) b 2 = pi os b 1 := pi_s o os b 1
@[simp] theorem pi_3 (o : Nat) (os : List Nat) (b : Nat) : pi (o :: os) b 3 = pi os b 2 := pi_s o os b 2
@[simp] theorem pi_4 (o : Nat) (os : List Nat) (b : Nat) : pi (o :: os) b 4 = pi os b 3 := pi_s o os b 3
def chOld (π : Nat → Nat) : List Nat → List (Option AO) → List (Nat × Option AO)
 | o :: os, x :: H => (o, x.map (AO.ren π)) :: chOld π os H
 | _, _ => []
def chNew (π : Nat → Nat) : Nat → List (Option AO) → List (Nat × Option AO)
 | b, x :: H => (b, x.map (AO.ren π)) :: chNew π (b + 1) H
 | _, [] => []
def nuNew : Nat → List (Option AO) → List Nat
 | b, _ :: H => b :: nuNew (b + 1) H
 | _, [] => []
theorem chNew_eq (π : Nat → Nat) : ∀ (H : List (Option AO)) (k : Nat) (b : Nat), (∀ j, j < H.length → π (k + j) = b + j) → (List.range H.length).map (fun j => (π (k + j), ((H[j]?).join).map (AO.ren π))) = chNew π b H
 | [], _, _, _ => rfl
 | x :: H, k, b, h => by
  rw [List.length_cons, List.range_succ_eq_map, List.map_cons, List.map_map]
  show _ = (b, _) :: chNew π (b + 1) H
  rw [← chNew_eq π H (k + 1) (b + 1) (fun j hj => by have := h (j + 1) (by simp; omega); rw [show k + 1 + j = k + (j + 1) by omega, this]; omega)]
  have h0 := h 0 (by simp)
  simp only [Nat.add_zero] at h0
  rw [Nat.add_zero, h0]
  congr 1
  refine List.map_congr_left fun j _ => ?_
  show (π (k + (j + 1)), _) = (π (k + 1 + j), _)
  rw [show k + (j + 1) = k + 1 + j by omega]
  rfl
theorem chOld_eq (π : Nat → Nat) : ∀ (old : List Nat) (H : List (Option AO)) (k : Nat), old.length ≤ H.length → (∀ j, j < old.length → π (k + j) = old.getD j 0) → (List.range old.length).map (fun j => (π (k + j), ((H[j]?).join).map (AO.ren π))) = chOld π old H
 | [], H, _, _, _ => by cases H <;> rfl
 | o :: os, [], _, h, _ => by simp at h
 | o :: os, x :: H, k, h, hp => by
  rw [List.length_cons, List.range_succ_eq_map, List.map_cons, List.map_map]
  show _ = (o, _) :: chOld π os H
  rw [← chOld_eq π os H (k + 1) (by simpa using h) (fun j hj => by have := hp (j + 1) (by simp; omega); rw [show k + 1 + j = k + (j + 1) by omega, this]; rfl)]
  have h0 := hp 0 (by simp)
  simp only [Nat.add_zero] at h0
  rw [Nat.add_zero, h0]
  congr 1
  refine List.map_congr_left fun j _ => ?_
  show (π (k + (j + 1)), _) = (π (k + 1 + j), _)
  rw [show k + (j + 1) = k + 1 + j by omega]
  rfl
theorem nuNew_eq : ∀ (H : List (Option AO)) (b : Nat), (List.range H.length).map (b + ·) = nuNew b H
 | [], _ => rfl
 | x :: H, b => by
  rw [List.length_cons, List.range_succ_eq_map, List.map_cons, List.map_map]
  show b :: _ = b :: nuNew (b + 1) H
  rw [← nuNew_eq H (b + 1)]
  congr 1
  exact List.map_congr_left fun j _ => by show b + (j + 1) = b + 1 + j; omega
theorem callEff_eq {old : List Nat} {base : Nat} {res : AV} {m : Nat} {H1 H2 : List (Option AO)} (ho : old.length = m) (h1 : H1.length = m) :
  callEff old base res m (H1 ++ H2) = ⟨some (res.ren (pi old base)), chOld (pi old base) old H1 ++ chNew (pi old base) base H2, nuNew base H2⟩ := by
 unfold callEff
 have e1 : (H1 ++ H2).length = m + H2.length := by simp [h1]
 rw [e1, List.range_add, List.map_append, Nat.add_sub_cancel_left, nuNew_eq H2 base]
 congr 2
 ·
  rw [← chOld_eq (pi old base) old H1 0 (by omega) (fun j hj => by rw [Nat.zero_add]; exact pi_lt hj), ho]
  refine List.map_congr_left fun j hj => ?_
  have hj' : j < m := by simpa using hj
  rw [Nat.zero_add]
  unfold hl
  rw [List.getElem?_append_left (by omega)]
 rw [List.map_map, ← chNew_eq (pi old base) H2 m base (fun j hj => by rw [pi_ge (by omega)]; omega)]
 refine List.map_congr_left fun j hj => ?_
 show (pi old base (m + j), (hl (H1 ++ H2) (m + j)).map _) = _
 unfold hl
 rw [List.getElem?_append_right (by omega), h1, Nat.add_sub_cancel_left]
section
variable {P : Program} {G : List (Nat × Array Value)} {l r : List Oper} {K : AS → Prop} {n : Nat} {s : Nat → Option AV} {h : Nat → Option AO} {u : Nat → Bool} {d : Tmp} {ty : TypeId} {pos : String} {aft : Array Edge} {gd : Option (Nat × Bool)} {D : Bool} {acc : List St}
theorem Ch.callH {f : FuncId} {args : List AV} {H H1 H2 : List (Option AO)} {res : AV} (F : FC P G f args H res (H1 ++ H2)) (old : List Nat) (base : Nat) {xs : List Operand} {ys : List AV} {ats : Array TypeId} {res' : AV} {hp' : List (Nat × AO)} {ch' : List (Nat × Option AO)} {nu' : List Nat}
  (hg : GdOk l.toArray ⟨some d, .call ⟨.value (.func f), xs.toArray, ats⟩, ty, pos, aft, gd⟩ ⟨n, s, h, u⟩ true) (hev : EvL ⟨n, s, h, u⟩ xs ys) (hwk : WkL ys (args.map (AV.ren (pi old base)))) (hol : Nat.beq old.length H.length = true) (h1l : Nat.beq H1.length H.length = true) (hnd : old.Nodup) (hlt : ∀ x ∈ old, x < base)
  (hres : res.ren (pi old base) = res') (hhp : hpl (pi old base) old H = hp') (hch : chOld (pi old base) old H1 ++ chNew (pi old base) base H2 = ch') (hnu : nuNew base H2 = nu')
  (h2 : HpOk ⟨n, s, h, u⟩ hp') (h3 : NuOk ⟨n, s, h, u⟩ nu') (hd : Nat.blt d n = true)
  (hr : Ch P G l D K (⟨true, xs.zip ys, hp', ⟨some res', ch', nu'⟩⟩ :: acc) r ⟨n, upd s d (some res'), chs h ch', nuU u nu'⟩) :
  Ch P G l D K acc (⟨some d, .call ⟨.value (.func f), xs.toArray, ats⟩, ty, pos, aft, gd⟩ :: r) ⟨n, s, h, u⟩ := by
 subst hres; subst hhp; subst hch; subst hnu
 have hol' := Nat.eq_of_beq_eq_true hol
 have h1l' := Nat.eq_of_beq_eq_true h1l
 have he := callEff_eq (old := old) (base := base) (res := res) (m := H.length) (H1 := H1) (H2 := H2) hol' h1l'
 have := OpS.call F old base hol' hnd hlt hev.ok.2 hwk (dst := some d) (ats := ats) (ty := ty) (pos := pos) (aft := aft) (gd := gd)
 rw [he] at this
 exact Ch.cons (st := ⟨true, xs.zip ys, hpl (pi old base) old H, ⟨some (res.ren (pi old base)), chOld (pi old base) old H1 ++ chNew (pi old base) base H2, nuNew base H2⟩⟩) ⟨hg, fun _ => ⟨this, hev.ok.1, h2, h3, fun t ht => by cases ht; exact Nat.blt_eq.mp hd⟩, fun h => nomatch h⟩ hr
end
theorem FC.split {P : Program} {G : List (Nat × Array Value)} {f : FuncId} {args : List AV} {H H' : List (Option AO)} {res : AV} (F : FC P G f args H res H') : FC P G f args H res (H'.take H.length ++ H'.drop H.length) := by
 rw [List.take_append_drop]; exact F
theorem OpS.quoU {P : Program} {G : List (Nat × Array Value)} {t t' : TypeId} {x y : Operand} {a b : Int} (ha : 0 ≤ a) (ha' : a < 18446744073709551616) (hb : 0 < b) {dst : Option Tmp} {ty : TypeId} {pos : String} {aft : Array Edge} {gd : Option (Nat × Bool)} :
  OpS P G ⟨dst, .binOp .quo t x y t', ty, pos, aft, gd⟩ [(x, .v (.int .u64 a)), (y, .v (.int .u64 b))] [] ⟨some (.v (.int .u64 (a / b))), [], []⟩ := by
 refine OpS.binR rfl fun w => ?_
 simp only [binOp, Op.intDiv]
 rw [if_neg (show ¬ b = 0 by omega), Int.tdiv_eq_ediv_of_nonneg ha, IntKind.wrap_u64]
 have h1 := Int.ediv_nonneg ha (Int.le_of_lt hb)
 have h2 : a / b ≤ a := Int.ediv_le_self b ha
 have : (a / b) % 18446744073709551616 = a / b := by omega
 first | (rw [this]; rfl) | rfl
theorem cv_mod (y : Nat) : Value.int .u8 (IntKind.u8.wrap ((y : Int) % 256)) = .int .u8 (U8 (UInt8.ofNat y)) := by
 rw [IntKind.wrap_u8, u8_ofNat]
 congr 1
 omega
@[simp] theorem nbeq (a b : Nat) : Nat.beq a b = (a == b) := by
 rw [Bool.eq_iff_iff]
 constructor
 · intro h; simpa using Nat.eq_of_beq_eq_true h
 intro h
 obtain rfl : a = b := by simpa using h
 exact Nat.beq_refl a
theorem AV.wk.tip {π : Nat → Nat} {o o' : Option Nat} {n : Nat} {cs cs' : List AV} (ho : o.map π = o') (hc : AV.renL π cs = cs') : AV.wk (.sl o' n cs') (AV.ren π (.sl o n cs)) := by
 subst ho; subst hc; exact .rfl _
theorem HFromL.skip {π : Nat → Nat} {u : Nat → Bool} {h : Nat → Option AO} {k : Nat} {r : List (Option AO)} (hr : HFromL π u h (k + 1) r) : HFromL π u h k (none :: r) := hr
theorem SEnt.retip {A : Amb} {n : Nat} {s : Nat → Option AV} {h : Nat → Option AO} {u : Nat → Bool} {t c m sz : Nat} {E : TypeId} {cs : List AV} (c' : Nat) (hs : s t = some (.sl (some c) m cs)) (hh : h c = some (.tip E sz m)) (hu : u c' = false) :
  SEnt A ⟨n, s, h, u⟩ ⟨n, upd s t (some (.sl (some c') m cs)), upd (upd h c none) c' (some (.tip E sz m)), nuU u [c']⟩ := by
 intro ρ a w hst
 let ρ' : Env := ⟨ρ.blk, upd ρ.tip c' (ρ.tip c)⟩
 have hne : ∀ i, u i = true → i ≠ c' := fun i hi e => by subst e; rw [hu] at hi; cases hi
 have hnew : ρ'.tip c' = ρ.tip c := upd_same _ _ _
 have hold : ∀ i, i ≠ c' → ρ'.tip i = ρ.tip i := fun i hi => upd_ne _ _ hi
 have hle : ρ.le ρ' := ⟨fun _ _ h => h, fun i v hv => by rw [hold i (hne i (hst.mem.usedT i v hv))]; exact hv⟩
 have hcase : ∀ i ob, upd (upd h c none) c' (some (AO.tip E sz m)) i = some ob → (i = c' ∧ ob = .tip E sz m) ∨ (i ≠ c' ∧ i ≠ c ∧ h i = some ob) := fun i ob hi => by
  rcases upd_eq_some hi with ⟨h1, h2⟩ | ⟨h1, h2⟩
  · cases h2; exact .inl ⟨h1, rfl⟩
  rcases upd_eq_some h2 with ⟨_, h4⟩ | ⟨h3, h4⟩
  · cases h4
  exact .inr ⟨h1, h3, h4⟩
 have hat : ∀ i ob b, upd (upd h c none) c' (some (AO.tip E sz m)) i = some ob → ob.at_ ρ' i b → ∃ j oj, h j = some oj ∧ oj.at_ ρ j b ∧ ((i = c' ∧ j = c) ∨ (i ≠ c' ∧ i ≠ c ∧ j = i)) := fun i ob b hi hb => by
  rcases hcase i ob hi with ⟨rfl, rfl⟩ | ⟨h1, h2, h3⟩
  ·
   obtain ⟨cap, hc⟩ := hb
   rw [hnew] at hc
   exact ⟨c, _, hh, ⟨cap, hc⟩, .inl ⟨rfl, rfl⟩⟩
  exact ⟨i, ob, h3, (hst.mem.heap i ob h3).at_back hle hb, .inr ⟨h1, h2, rfl⟩⟩
 have hwr : ∀ i ob b o, upd (upd h c none) c' (some (AO.tip E sz m)) i = some ob → ob.wr ρ' i b o → ∃ j oj, h j = some oj ∧ oj.wr ρ j b o := fun i ob b o hi hb => by
  rcases hcase i ob hi with ⟨rfl, rfl⟩ | ⟨h1, h2, h3⟩
  ·
   obtain ⟨cap, hc, ho⟩ := hb
   rw [hnew] at hc
   exact ⟨c, _, hh, cap, hc, ho⟩
  exact ⟨i, ob, h3, (hst.mem.heap i ob h3).wr_back hle hb⟩
 obtain ⟨m1, m2⟩ := hst.mem.next (ρ' := ρ') (h' := upd (upd h c none) c' (some (.tip E sz m))) (u' := nuU u [c']) (w' := w) rfl rfl rfl (Nat.le_refl _)
  (fun i hi => ⟨by rw [nuU_eq, show u i = true from hi]; rfl, rfl, hold i (hne i hi)⟩) (fun i b hb => by rw [nuU_eq, show u i = true from hst.mem.usedB i b hb]; rfl)
  (fun i v hv => by
   by_cases hi : i = c'
   · rw [nuU_eq, hi]; simp
   have hv' : ρ'.tip i = some v := hv
   rw [hold i hi] at hv'
   rw [nuU_eq, show u i = true from hst.mem.usedT i v hv']; rfl)
  (fun _ _ _ => rfl) (fun _ _ _ => rfl) (fun i ob b o hi hb => .inl (hwr i ob b o hi hb)) (fun i ob b hi hb => by obtain ⟨j, oj, h1, h2, _⟩ := hat i ob b hi hb; exact .inl ⟨j, oj, h1, h2⟩)
  (fun i j oi oj b hi hj h1 h2 => by
   obtain ⟨i', oi', k1, k2, k3⟩ := hat i oi b hi h1
   obtain ⟨j', oj', l1, l2, l3⟩ := hat j oj b hj h2
   have := hst.mem.sep i' j' oi' oj' b k1 l1 k2 l2
   omega)
  (fun hV i ob hi => by
   rcases hcase i ob hi with ⟨rfl, rfl⟩ | ⟨h1, h2, h3⟩
   ·
    rcases hst.mem.heap c _ hh with ⟨k1, k2⟩ | ⟨g, cap, cur, k1, k2, k3, k4, k5⟩
    · exact .inl ⟨by rw [hnew]; exact k1, k2⟩
    exact .inr ⟨g, cap, cur, by rw [hnew]; exact k1, k2, k3, k4, k5⟩
   exact (hst.mem.heap i ob h3).keep hle hV (fun _ _ => rfl))
 refine ⟨ρ', m1, fun t' v' ht' => ?_, hst.nt, hst.defers⟩
 rcases upd_eq_some (f := s) ht' with ⟨rfl, he⟩ | ⟨_, he⟩
 ·
  cases he
  obtain ⟨x, hx, hv⟩ := hst.slots t' _ hs
  refine ⟨x, hx, ?_⟩
  have hv' := m2 _ _ hv
  cases hv with
  | sl o n cs ad cap vals hc hcs ho hn hz hm =>
   have ht := ho c rfl
   cases hv' with
   | sl o n cs ad cap vals' hc' hcs' ho' hn' hz' hm' => exact .sl _ _ _ _ _ vals' hc' hcs' (fun k hk => by cases hk; rw [hnew]; exact ht) hn' hz' hm'
 obtain ⟨y, hy, hw⟩ := hst.slots t' v' he
 exact ⟨y, hy, m2 _ _ hw⟩
theorem OpS.makeB {P : Program} {G : List (Nat × Array Value)} {dst : Option Tmp} {ty : TypeId} {pos : String} {aft : Array Edge} {gd : Option (Nat × Bool)} {t E : TypeId} {inf : TypeInfo} {z : Value} {x y : Operand} {k k' : IntKind} {m : Int} {n bb : Nat} (id : Nat) (hu : P.underlying t = some (.slice E)) (hi : P.info? E = some inf) (hz : inf.zero = some z) (hsz : inf.size = 1) (hzc : z.cells = #[z]) (h1 : z.oneCell' = true) (hm : m = (n : Int))
  (hbb : inf.bytes = bb) (hb : n * bb ≤ 281474976710656) (hn : n ≤ maxLen) :
  OpS P G ⟨dst, .makeSlice t x y, ty, pos, aft, gd⟩ [(x, .v (.int k m)), (y, .v (.int k' m))] [] ⟨some (.arr id 0 n), [(id, some (.cells E (List.replicate n (.v z))))], [id]⟩ := by
 subst hbb
 exact OpS.make id hu hi hz hsz hzc h1 hm hb hn
def nA (x : Nat) : AV := .v (.int .i64 (x : Int))
@[simp] theorem renL_n (π : Nat → Nat) (l : List Nat) : AV.renL π (l.map nA) = l.map nA := renL_raw π _ l
@[simp] theorem belL_n (u : Nat → Bool) (l : List Nat) : AV.belL u (l.map nA) := belL_raw u _ l
@[simp] theorem ren_n (π : Nat → Nat) (x : Nat) : AV.ren π (nA x) = nA x := rfl
@[simp] theorem bel_n (u : Nat → Bool) (x : Nat) : AV.bel u (nA x) := trivial
attribute [simp] nA chOld chNew nuNew hpl
end Go.Proofs.YtpnbpcopdckgpaaGreatDoor.E
namespace Go.Proofs.YtpnbpcopdckgpaaGreatDoor.E
open Go Go.RowKit Go.Proofs.YtpnbpcopdckgpaaGreatDoor.V
def okN : List Nat → Nat → Bool
 | [], _ => true
 | o :: os, b => Nat.blt o b && (!os.contains o && okN os b)
theorem okN_of : ∀ {os : List Nat} {b : Nat}, okN os b = true → os.Nodup ∧ ∀ x ∈ os, x < b
 | [], _, _ => ⟨List.nodup_nil, fun x hx => by cases hx⟩
 | o :: os, b, h => by
  unfold okN at h
  simp only [Bool.and_eq_true, Bool.not_eq_true'] at h
  obtain ⟨h1, h2, h3⟩ := h
  obtain ⟨k1, k2⟩ := okN_of h3
  have h4 : o ∉ os := fun hm => by
   have := List.contains_iff_mem.2 hm
   rw [this] at h2
   cases h2
  refine ⟨List.nodup_cons.2 ⟨h4, k1⟩, fun x hx => ?_⟩
  rcases List.mem_cons.1 hx with rfl | hx
  · exact Nat.blt_eq.mp h1
  exact k2 x hx
def okH (old : List Nat) (base : Nat) (H H1 : List (Option AO)) : Bool := Nat.beq old.length H.length && (Nat.beq H1.length H.length && okN old base)
theorem okH_of {old : List Nat} {base : Nat} {H H1 : List (Option AO)} (h : okH old base H H1 = true) : Nat.beq old.length H.length = true ∧ Nat.beq H1.length H.length = true ∧ old.Nodup ∧ ∀ x ∈ old, x < base := by
 unfold okH at h
 simp only [Bool.and_eq_true] at h
 exact ⟨h.1, h.2.1, okN_of h.2.2⟩
section
variable {P : Program} {G : List (Nat × Array Value)} {l r : List Oper} {K : AS → Prop} {n : Nat} {s : Nat → Option AV} {h : Nat → Option AO} {u : Nat → Bool} {d : Tmp} {ty : TypeId} {pos : String} {aft : Array Edge} {gd : Option (Nat × Bool)} {D : Bool} {acc : List St}
theorem Ch.cH {f : FuncId} {args : List AV} {H H' : List (Option AO)} {res : AV} (F : FC P G f args H res H') (old : List Nat) (base : Nat) {xs : List Operand} {ys : List AV} {ats : Array TypeId} {res' : AV} {hp' : List (Nat × AO)} {ch' : List (Nat × Option AO)} {nu' : List Nat}
  (hg : GdOk l.toArray ⟨some d, .call ⟨.value (.func f), xs.toArray, ats⟩, ty, pos, aft, gd⟩ ⟨n, s, h, u⟩ true) (hev : EvL ⟨n, s, h, u⟩ xs ys) (hwk : WkL ys (args.map (AV.ren (pi old base)))) (h0 : okH old base H (H'.take H.length) = true)
  (hN : res.ren (pi old base) = res' ∧ hpl (pi old base) old H = hp' ∧ chOld (pi old base) old (H'.take H.length) ++ chNew (pi old base) base (H'.drop H.length) = ch' ∧ nuNew base (H'.drop H.length) = nu')
  (h2 : HpOk ⟨n, s, h, u⟩ hp') (h3 : NuOk ⟨n, s, h, u⟩ nu') (hd : Nat.blt d n = true)
  (hr : Ch P G l D K (⟨true, xs.zip ys, hp', ⟨some res', ch', nu'⟩⟩ :: acc) r ⟨n, upd s d (some res'), chs h ch', nuU u nu'⟩) :
  Ch P G l D K acc (⟨some d, .call ⟨.value (.func f), xs.toArray, ats⟩, ty, pos, aft, gd⟩ :: r) ⟨n, s, h, u⟩ :=
 Ch.callH F.split old base hg hev hwk (okH_of h0).1 (okH_of h0).2.1 (okH_of h0).2.2.1 (okH_of h0).2.2.2 hN.1 hN.2.1 hN.2.2.1 hN.2.2.2 h2 h3 hd hr
end
theorem nrmA :
  (∀ (π : Nat → Nat) (x : Value), AV.ren π (.v x) = .v x) ∧
  (∀ (π : Nat → Nat) (cs : List AV), AV.ren π (.agg cs) = .agg (AV.renL π cs)) ∧
  (∀ (π : Nat → Nat) (cs : List AV), AV.ren π (.tup cs) = .tup (AV.renL π cs)) ∧
  (∀ (π : Nat → Nat) (o : Option Nat) (n : Nat) (cs : List AV), AV.ren π (.sl o n cs) = .sl (o.map π) n (AV.renL π cs)) ∧
  (∀ (π : Nat → Nat) (i o n : Nat), AV.ren π (.arr i o n) = .arr (π i) o n) ∧
  (∀ (π : Nat → Nat) (i o : Nat), AV.ren π (.ptr i o) = .ptr (π i) o) ∧
  (∀ (π : Nat → Nat) (cs : List AV), AV.ren π (.sptr cs) = .sptr (AV.renL π cs)) ∧
  (∀ (π : Nat → Nat) (f : Fn) (a b : List AV), AV.ren π (.fn f a b) = .fn f (AV.renL π a) (AV.renL π b)) ∧
  (∀ (π : Nat → Nat) (i : Nat), AV.ren π (.mp i) = .mp (π i)) ∧
  (∀ (π : Nat → Nat), AV.renL π [] = []) ∧
  (∀ (π : Nat → Nat) (c : AV) (r : List AV), AV.renL π (c :: r) = AV.ren π c :: AV.renL π r) ∧
  (∀ (π : Nat → Nat) (T : TypeId) (cs : List AV), AO.ren π (.cells T cs) = .cells T (AV.renL π cs)) ∧
  (∀ (π : Nat → Nat) (T : TypeId) (z n : Nat), AO.ren π (.tip T z n) = .tip T z n) ∧
  (∀ (π : Nat → Nat) (es : List (Value × Value)), AO.ren π (.map es) = .map es) ∧
  (∀ (π : Nat → Nat) (l : List UInt8), AV.renL π (l.map bA) = l.map bA) ∧
  (∀ (π : Nat → Nat) (l : List (List UInt8)), AV.renL π (l.map sA) = l.map sA) ∧
  (∀ (π : Nat → Nat) (l : List UInt32), AV.renL π (l.map wA) = l.map wA) ∧
  (∀ (π : Nat → Nat) (l : List Int), AV.renL π (l.map iA) = l.map iA) ∧
  (∀ (π : Nat → Nat) (a b : List AV), AV.renL π (a ++ b) = AV.renL π a ++ AV.renL π b) ∧
  (∀ (b j : Nat), pi [] b j = b + j) ∧
  (∀ (o : Nat) (os : List Nat) (b : Nat), pi (o :: os) b 0 = o) ∧
  (∀ (o : Nat) (os : List Nat) (b j : Nat), pi (o :: os) b (j + 1) = pi os b j) ∧
  (∀ (o : Nat) (os : List Nat) (b : Nat), pi (o :: os) b 1 = pi os b 0) ∧
  (∀ (o : Nat) (os : List Nat) (b : Nat), pi (o :: os) b 2 = pi os b 1) ∧
  (∀ (o : Nat) (os : List Nat) (b : Nat), pi (o :: os) b 3 = pi os b 2) ∧
  (∀ (o : Nat) (os : List Nat) (b : Nat), pi (o :: os) b 4 = pi os b 3) ∧
  (∀ (π : Nat → Nat) (o : Nat) (os : List Nat) (x : Option AO) (H : List (Option AO)), chOld π (o :: os) (x :: H) = (o, x.map (AO.ren π)) :: chOld π os H) ∧
  (∀ (π : Nat → Nat) (H : List (Option AO)), chOld π [] H = []) ∧
  (∀ (π : Nat → Nat) (os : List Nat), chOld π os [] = []) ∧
  (∀ (π : Nat → Nat) (b : Nat) (x : Option AO) (H : List (Option AO)), chNew π b (x :: H) = (b, x.map (AO.ren π)) :: chNew π (b + 1) H) ∧
  (∀ (π : Nat → Nat) (b : Nat), chNew π b [] = []) ∧
  (∀ (b : Nat) (x : Option AO) (H : List (Option AO)), nuNew b (x :: H) = b :: nuNew (b + 1) H) ∧
  (∀ (b : Nat), nuNew b [] = []) ∧
  (∀ (π : Nat → Nat) (o : Nat) (os : List Nat) (x : AO) (H : List (Option AO)), hpl π (o :: os) (some x :: H) = (o, x.ren π) :: hpl π os H) ∧
  (∀ (π : Nat → Nat) (o : Nat) (os : List Nat) (H : List (Option AO)), hpl π (o :: os) (none :: H) = hpl π os H) ∧
  (∀ (π : Nat → Nat) (H : List (Option AO)), hpl π [] H = []) ∧
  (∀ (π : Nat → Nat) (os : List Nat), hpl π os [] = []) ∧
  (∀ {α β : Type} (f : α → β) (a : α), (some a).map f = some (f a)) ∧
  (∀ {α β : Type} (f : α → β), (none : Option α).map f = none) ∧
  (∀ {α : Type} (a : α) (l : List α), (a :: l).length = l.length + 1) ∧
  (∀ {α : Type}, ([] : List α).length = 0) ∧
  (∀ {α : Type} (a : α) (l : List α) (i : Nat), (a :: l).take (i + 1) = a :: l.take i) ∧
  (∀ {α : Type} (l : List α), l.take 0 = []) ∧
  (∀ {α : Type} (i : Nat), ([] : List α).take i = []) ∧
  (∀ {α : Type} (a : α) (l : List α) (i : Nat), (a :: l).drop (i + 1) = l.drop i) ∧
  (∀ {α : Type} (l : List α), l.drop 0 = l) ∧
  (∀ {α : Type} (i : Nat), ([] : List α).drop i = []) ∧
  (∀ {α : Type} (a : α) (l m : List α), a :: l ++ m = a :: (l ++ m)) ∧
  (∀ {α : Type} (l : List α), [] ++ l = l) ∧
  (∀ (n : Nat), 0 + n = n) ∧
  (∀ (n : Nat), n + 0 = n) :=
 ⟨fun _ _ => rfl, fun _ _ => rfl, fun _ _ => rfl, fun _ _ _ _ => rfl, fun _ _ _ _ => rfl, fun _ _ _ => rfl, fun _ _ => rfl, fun _ _ _ _ => rfl, fun _ _ => rfl, fun _ => rfl, fun _ _ _ => rfl, fun _ _ _ => rfl, fun _ _ _ _ => rfl, fun _ _ => rfl, renL_b, renL_s, renL_w, renL_i, renL_append, pi_n, pi_0, pi_s, pi_1, pi_2, pi_3, pi_4, fun _ _ _ _ _ => rfl, fun _ H => by cases H <;> rfl, fun _ os => by cases os <;> rfl, fun _ _ _ _ => rfl, fun _ _ => rfl, fun _ _ _ => rfl, fun _ => rfl, fun _ _ _ _ _ => rfl, fun _ _ _ _ => rfl, fun _ H => by cases H <;> rfl, fun _ os => by cases os <;> rfl, fun _ _ => rfl, fun _ => rfl, fun _ _ => rfl, rfl, fun _ _ _ => rfl, fun _ => List.take_zero, fun _ => List.take_nil, fun _ _ _ => rfl, fun _ => List.drop_zero, fun _ => List.drop_nil, fun _ _ _ => rfl, fun _ => rfl, Nat.zero_add, Nat.add_zero⟩
end Go.Proofs.YtpnbpcopdckgpaaGreatDoor.E
end
section
namespace Go.Proofs.YtpnbpcopdckgpaaGreatDoor.E
open Go Go.RowKit Go.Proofs.YtpnbpcopdckgpaaGreatDoor.V
section
variable {P : Program} {G : List (Nat × Array Value)} {dst : Option Tmp} {ty : TypeId} {pos : String} {aft : Array Edge} {gd : Option (Nat × Bool)} {t t' e : TypeId} {x y : Operand}
theorem run_eqPtr1 (w : World) (ad : Addr) (hu : P.underlying t = some (.pointer e)) : (binOp .eql t (.pointer (some ad)) (.pointer none)).run P w = .ok (.bool false) w := by
 have key : ∀ d, (Op.equalIn (d + 1) t (.pointer (some ad)) (.pointer none)).run P w = .ok false w := fun d => by simp [Op.equalIn, run_underlying hu, Sem.run_bind, Sem.run_pure, Result.andThen_ok]
 show (do pure (Value.bool (← Op.equalIn (9999 + 1) t (.pointer (some ad)) (.pointer none))) : Sem Value).run P w = _
 rw [Sem.run_bind, key]
 rfl
theorem run_nePtr1 (w : World) (ad : Addr) (hu : P.underlying t = some (.pointer e)) : (binOp .neq t (.pointer (some ad)) (.pointer none)).run P w = .ok (.bool true) w := by
 have key : ∀ d, (Op.equalIn (d + 1) t (.pointer (some ad)) (.pointer none)).run P w = .ok false w := fun d => by simp [Op.equalIn, run_underlying hu, Sem.run_bind, Sem.run_pure, Result.andThen_ok]
 show (do pure (Value.bool (!(← Op.equalIn (9999 + 1) t (.pointer (some ad)) (.pointer none)))) : Sem Value).run P w = _
 rw [Sem.run_bind, key]
 rfl
theorem run_nePtr0 (w : World) (hu : P.underlying t = some (.pointer e)) : (binOp .neq t (.pointer none) (.pointer none)).run P w = .ok (.bool false) w := by
 have key : ∀ d, (Op.equalIn (d + 1) t (.pointer none) (.pointer none)).run P w = .ok true w := fun d => by simp [Op.equalIn, run_underlying hu, Sem.run_bind, Sem.run_pure, Result.andThen_ok]
 show (do pure (Value.bool (!(← Op.equalIn (9999 + 1) t (.pointer none) (.pointer none)))) : Sem Value).run P w = _
 rw [Sem.run_bind, key]
 rfl
inductive Pts : AV → Prop
 | p (id off : Nat) : Pts (.ptr id off)
 | s (cs : List AV) : Pts (.sptr cs)
theorem Pts.val {N : Nat → Nat → Prop} {ρ : Env} {w : World} {c : AV} {v : Value} (h : Pts c) (hv : VRel N ρ w c v) : ∃ a, v = .pointer (some a) := by
 cases h with
 | p id off => cases hv; exact ⟨_, rfl⟩
 | s cs => cases hv; exact ⟨_, rfl⟩
theorem OpS.eqNil {c : AV} (hp : Pts c) (hu : P.underlying t = some (.pointer e)) : OpS P G ⟨dst, .binOp .eql t x y t', ty, pos, aft, gd⟩ [(x, c), (y, .v (.pointer none))] [] ⟨some (.v (.bool false)), [], []⟩ :=
 OpS.still fun A ρ σ a w _ h _ hs => by
  obtain ⟨ad, hx⟩ := hp.val (hs.ev h.1)
  refine ⟨_, ?_, .v _⟩
  show (do pure (Next.value (← (do eqGuard .eql t x y (a.eval x) (a.eval y); binOp .eql t (a.eval x) (a.eval y)))) : Sem Next).run P w = _
  refine runv ?_
  rw [hx, (hs.ev h.2.1).raw]
  have := run_eqPtr1 (P := P) w ad hu
  simpa [eqGuard, Sem.run_bind, Sem.run_pure, Result.andThen_ok] using this
theorem OpS.neNil {c : AV} (hp : Pts c) (hu : P.underlying t = some (.pointer e)) : OpS P G ⟨dst, .binOp .neq t x y t', ty, pos, aft, gd⟩ [(x, c), (y, .v (.pointer none))] [] ⟨some (.v (.bool true)), [], []⟩ :=
 OpS.still fun A ρ σ a w _ h _ hs => by
  obtain ⟨ad, hx⟩ := hp.val (hs.ev h.1)
  refine ⟨_, ?_, .v _⟩
  show (do pure (Next.value (← (do eqGuard .neq t x y (a.eval x) (a.eval y); binOp .neq t (a.eval x) (a.eval y)))) : Sem Next).run P w = _
  refine runv ?_
  rw [hx, (hs.ev h.2.1).raw]
  have := run_nePtr1 (P := P) w ad hu
  simpa [eqGuard, Sem.run_bind, Sem.run_pure, Result.andThen_ok] using this
theorem OpS.neNilN (hu : P.underlying t = some (.pointer e)) : OpS P G ⟨dst, .binOp .neq t x y t', ty, pos, aft, gd⟩ [(x, .v (.pointer none)), (y, .v (.pointer none))] [] ⟨some (.v (.bool false)), [], []⟩ :=
 OpS.still fun A ρ σ a w _ h _ hs => by
  refine ⟨_, ?_, .v _⟩
  show (do pure (Next.value (← (do eqGuard .neq t x y (a.eval x) (a.eval y); binOp .neq t (a.eval x) (a.eval y)))) : Sem Next).run P w = _
  refine runv ?_
  rw [(hs.ev h.1).raw, (hs.ev h.2.1).raw]
  have := run_nePtr0 (P := P) w hu
  simpa [eqGuard, Sem.run_bind, Sem.run_pure, Result.andThen_ok] using this
end
end Go.Proofs.YtpnbpcopdckgpaaGreatDoor.E
end
section
namespace Go.Proofs.YtpnbpcopdckgpaaGreatDoor.E
open Go Go.RowKit Go.Proofs.YtpnbpcopdckgpaaGreatDoor.V
section
variable {P : Program} {G : List (Nat × Array Value)} {dst : Option Tmp} {ty : TypeId} {pos : String} {aft : Array Edge} {gd : Option (Nat × Bool)}
theorem OpS.s2b {src d e : TypeId} {x : Operand} {l : List UInt8} (hs : P.underlying src = some .string) (hd : P.underlying d = some (.slice e)) (he : P.underlying e = some (.int .u8)) (hl : l.length ≤ maxLen) :
  OpS P G ⟨dst, .convert src d x, ty, pos, aft, gd⟩ [(x, .v (.string (B l)))] [] ⟨some (.sl none l.length (l.map fun b => .v (bv b))), [], []⟩ := by
 refine OpS.act fun A ρ σ a w _ h hp hu hst => ?_
 have hz : (B l).size = l.length := by simp [B, ByteArray.size]
 have hr := Lib.run_convert_string_bytes (P := P) w src d e (B l) hs hd he
 rw [hz] at hr
 have hge := grownCap_ge w l.length 0 e
 have hsz : (Lib.bytesCells w e (B l)).size = grownCap w l.length 0 e := by
  simp only [Lib.bytesCells, Array.size_append, Array.size_map, Array.size_replicate, hz]
  have : (B l).data.size = l.length := hz
  rw [this]
  omega
 obtain ⟨k1, k2, k3⟩ := new_slice (w' := Lib.bytesWorld w e (B l)) (cs := l.map fun b => AV.v (bv b)) (n := l.length) (cap := grownCap w l.length 0 e) hst.mem rfl rfl rfl (Lib.bytesWorld_size w e (B l)) (fun k hk => Lib.bytesWorld_at_old w e (B l) k hk) (Lib.bytesWorld_at_new w e (B l))
  (by rw [hsz, List.length_map]; exact hge) hge (grownCap_le_maxLen w _ 0 e hl) (fun j c v hc hv => by
   have hjl : j < l.length := by have := (List.getElem?_eq_some_iff.1 hc).1; simpa using this
   have e1 : (Lib.bytesCells w e (B l))[j]? = some (bv l[j]) := by
    unfold Lib.bytesCells
    rw [Array.getElem?_append_left (by rw [Array.size_map]; exact Nat.lt_of_lt_of_eq hjl hz.symm)]
    simp [B, bv, U8, hjl]
   rw [e1] at hv
   cases hv
   rw [List.getElem?_map, List.getElem?_eq_getElem hjl] at hc
   cases hc
   exact ⟨.v _, rfl⟩)
 refine ⟨_, _, ρ, .inl ?_, k1, k2, fun v hv => by cases hv; exact k3⟩
 refine runv (s := convert src d (a.eval x)) ?_
 rw [(hst.ev h.1).raw]
 exact hr
end
end Go.Proofs.YtpnbpcopdckgpaaGreatDoor.E
end
section
namespace Go.Proofs.YtpnbpcopdckgpaaGreatDoor.E
open Go Go.RowKit Go.Proofs.YtpnbpcopdckgpaaGreatDoor.V
section
variable {P : Program} {G : List (Nat × Array Value)} {dst : Option Tmp} {ty : TypeId} {pos : String} {aft : Array Edge} {gd : Option (Nat × Bool)}
theorem OpS.storePA {t T : TypeId} {inf : TypeInfo} {x y : Operand} {id off : Nat} {cs : List AV} {c : AV} (hi : P.info? t = some inf) (hz : inf.size = (cellsA c).length) (h1 : ((cellsA c).all fun d => d.one) = true) (hl : off + (cellsA c).length ≤ cs.length) :
  OpS P G ⟨dst, .store t x y, ty, pos, aft, gd⟩ [(x, .ptr id off), (y, c)] [(id, .cells T cs)] ⟨none, [(id, some (.cells T (splice cs off (cellsA c))))], []⟩ := by
 refine OpS.act fun A ρ σ a w _ h hp _ hs => ?_
 have hx := hs.ev h.1
 obtain ⟨c1, c2⟩ := cellsA_rel (hs.ev h.2.1)
 obtain ⟨b, arr, k1, ⟨fz, hmk, k2⟩, k3, k4⟩ := hs.mem.heap id _ hp.1
 have hlen : (a.eval y).cells.toList.length = (cellsA c).length := by rw [Array.length_toList]; exact c1
 have h1' : ∀ v ∈ (a.eval y).cells.toList, v.oneCell' = true := by
  intro v hv
  obtain ⟨j, hj⟩ := List.mem_iff_getElem?.1 hv
  have hjl : j < (cellsA c).length := by rw [← hlen]; exact (List.getElem?_eq_some_iff.1 hj).1
  exact (c2 j _ v (List.getElem?_eq_getElem hjl) (by simpa using hj)).oneCell (List.all_eq_true.1 h1 _ (List.getElem_mem hjl))
 have hst := run_storeCells_mk P b off T (a.eval y).cells.toList 0 arr w fz hmk k2 (by rw [hlen]; omega) h1'
 obtain ⟨m1, m2⟩ := hs.mem.write (cs' := splice cs off (cellsA c)) (w' := w.setRow b (arr.toList.take off ++ (a.eval y).cells.toList ++ arr.toList.drop (off + (a.eval y).cells.toList.length)).toArray) hp.1 k1 rfl rfl rfl (by simp) (fun k _ hk => setRow_other w b k _ hk)
  (by unfold Mark; rw [show ((arr.toList.take off ++ (a.eval y).cells.toList ++ arr.toList.drop (off + (a.eval y).cells.toList.length)).toArray).size = arr.size by simp only [List.size_toArray, List.length_append, List.length_take, List.length_drop, hlen, Array.length_toList]; omega]; exact hmk) (setRow_heap w b arr _ T fz k2) (by
   rw [splice_len _ _ _ hl]
   simp only [List.size_toArray, List.length_append, List.length_take, List.length_drop, hlen, Array.length_toList]; omega) (fun j d v hc hv => by
  have hv' : (splice arr.toList off (a.eval y).cells.toList)[j]? = some v := by simpa [splice] using hv
  rw [splice_get _ _ _ _ hl] at hc
  rw [splice_get _ _ _ _ (by rw [hlen]; have := Array.length_toList (xs := arr); omega)] at hv'
  rw [hlen] at hv'
  split at hc
  ·
   rename_i hin
   rw [if_pos hin] at hv'
   have hv2 : (a.eval y).cells[j - off]? = some v := by simpa using hv'
   exact ⟨c2 _ d v hc hv2, h1' v (List.mem_of_getElem? hv')⟩
  rename_i hin
  rw [if_neg hin] at hv'
  exact k4 j d v hc (by simpa using hv'))
 refine ⟨undef, _, ρ, .inr ⟨?_, rfl⟩, m1, m2, fun v hv => by cases hv⟩
 refine runu (s := Instr.storeAt t (a.eval x) (a.eval y)) ?_
 generalize a.eval x = z at hx
 cases hx with
 | ptr id off b' hb' =>
  rw [k1] at hb'
  cases hb'
  rw [Nat.add_zero] at hst
  simp only [Instr.storeAt, Instr.sureAddr, Sem.run_bind, Sem.run_pure, Result.andThen_ok, storeVar, sizeOf, typeInfo]
  simp [Sem.run_bind, Sem.run_pure, Result.andThen_ok, hi, hz, c1, hst]
end
end Go.Proofs.YtpnbpcopdckgpaaGreatDoor.E
end
section
namespace Go.Proofs.YtpnbpcopdckgpaaGreatDoor.E
open Go Go.RowKit Go.Proofs.YtpnbpcopdckgpaaGreatDoor.V
section
variable {P : Program} {G : List (Nat × Array Value)} {l r : List Oper} {K : AS → Prop} {n : Nat} {s : Nat → Option AV} {h : Nat → Option AO} {u : Nat → Bool} {d : Tmp} {ty : TypeId} {pos : String} {aft : Array Edge} {gd : Option (Nat × Bool)} {D : Bool} {acc : List St}
end
section
variable {P : Program} {G : List (Nat × Array Value)} {dst : Option Tmp} {ty : TypeId} {pos : String} {aft : Array Edge} {gd : Option (Nat × Bool)}
theorem pow_small {j : Nat} (h : j ≤ 40) : 2 ^ j ≤ 1099511627776 := Nat.pow_le_pow_right (n := 2) (by decide) h
theorem wr_i64 (q : Nat) (h : q ≤ 1099511627776) : IntKind.i64.wrap (q : Int) = (q : Int) := by rw [IntKind.wrap_i64]; omega
theorem wr_u64 (q : Nat) (h : q ≤ 1099511627776) : IntKind.u64.wrap (q : Int) = (q : Int) := by rw [IntKind.wrap_u64]; omega
theorem shift1 {k k' : IntKind} {j : Nat} (h : j ≤ 40) (hb : k.bits = 64) (hw : k.wrap ((2 ^ j : Nat) : Int) = ((2 ^ j : Nat) : Int)) : Op.shift .shl k 1 k' (j : Int) = pure (.int k ((2 ^ j : Nat) : Int)) := by
 unfold Op.shift
 rw [if_neg (by omega)]
 have e : (1 : Int) * 2 ^ (min (j : Int).toNat k.bits) = ((2 ^ j : Nat) : Int) := by
  rw [Int.one_mul, Int.toNat_natCast, hb, Nat.min_eq_left (by omega), Int.natCast_pow]
  rfl
 simp only [e, hw]
theorem OpS.shl1 {t t' : TypeId} {x y : Operand} {k' : IntKind} {j : Nat} (h : j ≤ 40) :
  OpS P G ⟨dst, .binOp .shl t x y t', ty, pos, aft, gd⟩ [(x, .v (.int .i64 1)), (y, .v (.int k' (j : Int)))] [] ⟨some (.v (.int .i64 ((2 ^ j : Nat) : Int))), [], []⟩ := by
 refine OpS.binR rfl fun w => ?_
 have hp := pow_small h
 show (Op.shift .shl .i64 1 k' (j : Int)).run P w = _
 rw [shift1 h rfl (wr_i64 _ hp)]
 rfl
theorem OpS.shl1u {t t' : TypeId} {x y : Operand} {k' : IntKind} {j : Nat} (h : j ≤ 40) :
  OpS P G ⟨dst, .binOp .shl t x y t', ty, pos, aft, gd⟩ [(x, .v (.int .u64 1)), (y, .v (.int k' (j : Int)))] [] ⟨some (.v (.int .u64 ((2 ^ j : Nat) : Int))), [], []⟩ := by
 refine OpS.binR rfl fun w => ?_
 have hp := pow_small h
 show (Op.shift .shl .u64 1 k' (j : Int)).run P w = _
 rw [shift1 h rfl (wr_u64 _ hp)]
 rfl
end
section
variable {A : Amb} {n : Nat} {s : Nat → Option AV} {h : Nat → Option AO} {u : Nat → Bool}
end
end Go.Proofs.YtpnbpcopdckgpaaGreatDoor.E
end
