/- Steps through a region, one operation at a time. -/
import Derived.Test.YtmifllopcbjliaaDoorE10
namespace Go.Proofs.YtmifllopcbjliaaDoor.E
open Go Go.RowKit Go.Proofs.YtmifllopcbjliaaDoor.V

theorem AV.wk.sh {π : Nat → Nat} {o : Option Nat} {n : Nat} {cs cs' : List AV} (h : AV.renL π cs' = cs) : AV.wk (.sl o n cs) (AV.ren π (.sl none n cs')) := by
  subst h
  exact .untip _ _ _
theorem tnLit (a n : Nat) : ((a : Int) - @OfNat.ofNat Int n instOfNat).toNat = a - n := by
  show ((a : Int) - (n : Int)).toNat = _
  omega
theorem tnLitA (a n : Nat) : ((a : Int) + @OfNat.ofNat Int n instOfNat).toNat = a + n := by
  show ((a : Int) + (n : Int)).toNat = _
  omega
section
variable {P : Program} {G : List (Nat × Array Value)} {l r : List Oper} {ds : List St} {K : AS → Prop} {n : Nat} {s : Nat → Option AV} {h : Nat → Option AO} {u : Nat → Bool} {d : Tmp} {op : Op} {ty : TypeId} {pos : String} {aft : Array Edge} {gd : Option (Nat × Bool)}
  {sl : List (Operand × AV)} {hp : List (Nat × AO)} {dst : Option Tmp} {σ : AS}

theorem gdN {d : Option Tmp} : GdOk l.toArray ⟨d, op, ty, pos, aft, none⟩ σ true := rfl
theorem gdT {d : Option Tmp} {j t : Nat} {c : Bool} (hj : (l[j]?).bind (·.dst) = some t) (hs : σ.s t = some (.v (.bool c))) : GdOk l.toArray ⟨d, op, ty, pos, aft, some (j, c)⟩ σ true :=
  ⟨t, .bool c, by simpa using hj, hs, by simp [boolV]⟩
theorem gdU {d : Option Tmp} {j t : Nat} {c : Bool} (hj : (l[j]?).bind (·.dst) = some t) (hs : σ.s t = some (.v undef)) : GdOk l.toArray ⟨d, op, ty, pos, aft, some (j, c)⟩ σ false :=
  ⟨t, undef, by simpa using hj, hs, rfl⟩
theorem gdF {d : Option Tmp} {j t : Nat} {c x : Bool} (hj : (l[j]?).bind (·.dst) = some t) (hs : σ.s t = some (.v (.bool x))) (hc : (x == c) = false) : GdOk l.toArray ⟨d, op, ty, pos, aft, some (j, c)⟩ σ false :=
  ⟨t, .bool x, by simpa using hj, hs, by cases x <;> cases c <;> first | rfl | cases hc⟩

/-- what is left of a region, and what has been done of it -/
structure Ch (P : Program) (G : List (Nat × Array Value)) (l : List Oper) (D : Bool) (K : AS → Prop) (acc : List St) (r : List Oper) (σ : AS) : Prop where
  e : ∃ ds, Chain P G l.toArray K r ds σ ∧ (D = true → (edgesOk 0 l && chk l (acc.reverse ++ ds)) = true)
theorem Ch.cons {D : Bool} {acc : List St} {o : Oper} {st : St} (ho : Ok P G l.toArray o st σ) (hr : Ch P G l D K (st :: acc) r (σ.eff o.dst st.e)) : Ch P G l D K acc (o :: r) σ := by
  obtain ⟨ds, h1, h2⟩ := hr.e
  exact ⟨⟨st :: ds, ⟨ho, h1⟩, fun hD => by have := h2 hD; rw [List.reverse_cons, List.append_assoc] at this; exact this⟩⟩
theorem Ch.nil {acc : List St} (hk : K σ) : Ch P G l false K acc [] σ := ⟨⟨[], hk, fun h => nomatch h⟩⟩
theorem Ch.nilD {acc : List St} (hk : K σ) (hc : (edgesOk 0 l && chk l acc.reverse) = true) : Ch P G l true K acc [] σ := ⟨⟨[], hk, fun _ => by rw [List.append_nil]; exact hc⟩⟩
variable {D : Bool} {acc : List St}
theorem Ch.sk (hg : GdOk l.toArray ⟨some d, op, ty, pos, aft, gd⟩ ⟨n, s, h, u⟩ false) (hr : Ch P G l D K (⟨false, [], [], ⟨none, [], []⟩⟩ :: acc) r ⟨n, upd s d none, h, u⟩) :
    Ch P G l D K acc (⟨some d, op, ty, pos, aft, gd⟩ :: r) ⟨n, s, h, u⟩ :=
  Ch.cons (st := ⟨false, [], [], ⟨none, [], []⟩⟩) ⟨hg, (fun h => nomatch h), fun _ => .inl rfl⟩ hr
theorem Ch.skU (hg : GdOk l.toArray ⟨some d, op, ty, pos, aft, gd⟩ ⟨n, s, h, u⟩ false) (hd : Nat.blt d n = true) (hr : Ch P G l D K (⟨false, [], [], ⟨some (.v undef), [], []⟩⟩ :: acc) r ⟨n, upd s d (some (.v undef)), h, u⟩) :
    Ch P G l D K acc (⟨some d, op, ty, pos, aft, gd⟩ :: r) ⟨n, s, h, u⟩ :=
  Ch.cons (st := ⟨false, [], [], ⟨some (.v undef), [], []⟩⟩) ⟨hg, (fun h => nomatch h), fun _ => .inr ⟨rfl, fun t ht => by cases ht; exact Nat.blt_eq.mp hd⟩⟩ hr
theorem Ch.skN (hg : GdOk l.toArray ⟨none, op, ty, pos, aft, gd⟩ ⟨n, s, h, u⟩ false) (hr : Ch P G l D K (⟨false, [], [], ⟨none, [], []⟩⟩ :: acc) r ⟨n, s, h, u⟩) :
    Ch P G l D K acc (⟨none, op, ty, pos, aft, gd⟩ :: r) ⟨n, s, h, u⟩ :=
  Ch.cons (st := ⟨false, [], [], ⟨none, [], []⟩⟩) ⟨hg, (fun h => nomatch h), fun _ => .inl rfl⟩ hr
/-- a value in a slot, memory as it was -/
theorem Ch.pu {v : AV} (hg : GdOk l.toArray ⟨some d, op, ty, pos, aft, gd⟩ ⟨n, s, h, u⟩ true) (h1 : SlOk ⟨n, s, h, u⟩ sl) (hs : OpS P G ⟨some d, op, ty, pos, aft, gd⟩ sl hp ⟨some v, [], []⟩) (h2 : HpOk ⟨n, s, h, u⟩ hp) (hd : Nat.blt d n = true)
    (hr : Ch P G l D K (⟨true, sl, hp, ⟨some v, [], []⟩⟩ :: acc) r ⟨n, upd s d (some v), h, u⟩) : Ch P G l D K acc (⟨some d, op, ty, pos, aft, gd⟩ :: r) ⟨n, s, h, u⟩ :=
  Ch.cons (st := ⟨true, sl, hp, ⟨some v, [], []⟩⟩) ⟨hg, fun _ => ⟨hs, h1, h2, trivial, fun t ht => by cases ht; exact Nat.blt_eq.mp hd⟩, fun h => nomatch h⟩ hr
/-- a value in a slot, entries anew -/
theorem Ch.al {v : AV} {ch : List (Nat × Option AO)} {nu : List Nat} (hg : GdOk l.toArray ⟨some d, op, ty, pos, aft, gd⟩ ⟨n, s, h, u⟩ true) (h1 : SlOk ⟨n, s, h, u⟩ sl) (hs : OpS P G ⟨some d, op, ty, pos, aft, gd⟩ sl hp ⟨some v, ch, nu⟩) (h2 : HpOk ⟨n, s, h, u⟩ hp)
    (h3 : NuOk ⟨n, s, h, u⟩ nu) (hd : Nat.blt d n = true) (hr : Ch P G l D K (⟨true, sl, hp, ⟨some v, ch, nu⟩⟩ :: acc) r ⟨n, upd s d (some v), chs h ch, nuU u nu⟩) : Ch P G l D K acc (⟨some d, op, ty, pos, aft, gd⟩ :: r) ⟨n, s, h, u⟩ :=
  Ch.cons (st := ⟨true, sl, hp, ⟨some v, ch, nu⟩⟩) ⟨hg, fun _ => ⟨hs, h1, h2, h3, fun t ht => by cases ht; exact Nat.blt_eq.mp hd⟩, fun h => nomatch h⟩ hr
/-- operands of a list -/
theorem Ch.pul {v : AV} {xs : List Operand} {ys : List AV} (hg : GdOk l.toArray ⟨some d, op, ty, pos, aft, gd⟩ ⟨n, s, h, u⟩ true) (h1 : EvL ⟨n, s, h, u⟩ xs ys) (hs : OpS P G ⟨some d, op, ty, pos, aft, gd⟩ (xs.zip ys) [] ⟨some v, [], []⟩) (hd : Nat.blt d n = true)
    (hr : Ch P G l D K (⟨true, xs.zip ys, [], ⟨some v, [], []⟩⟩ :: acc) r ⟨n, upd s d (some v), h, u⟩) : Ch P G l D K acc (⟨some d, op, ty, pos, aft, gd⟩ :: r) ⟨n, s, h, u⟩ :=
  Ch.pu hg h1.ok.1 hs trivial hd hr
theorem Ch.all {v : AV} {ch : List (Nat × Option AO)} {nu : List Nat} {xs : List Operand} {ys : List AV} (hg : GdOk l.toArray ⟨some d, op, ty, pos, aft, gd⟩ ⟨n, s, h, u⟩ true) (h1 : EvL ⟨n, s, h, u⟩ xs ys) (hs : OpS P G ⟨some d, op, ty, pos, aft, gd⟩ (xs.zip ys) [] ⟨some v, ch, nu⟩)
    (h3 : NuOk ⟨n, s, h, u⟩ nu) (hd : Nat.blt d n = true) (hr : Ch P G l D K (⟨true, xs.zip ys, [], ⟨some v, ch, nu⟩⟩ :: acc) r ⟨n, upd s d (some v), chs h ch, nuU u nu⟩) : Ch P G l D K acc (⟨some d, op, ty, pos, aft, gd⟩ :: r) ⟨n, s, h, u⟩ :=
  Ch.al hg h1.ok.1 hs trivial h3 hd hr
/-- operands of parts -/
theorem Ch.pup {v : AV} {xs : List (Nat × Operand)} {ys : List AV} (hg : GdOk l.toArray ⟨some d, op, ty, pos, aft, gd⟩ ⟨n, s, h, u⟩ true) (h1 : EvP ⟨n, s, h, u⟩ xs ys) (hs : OpS P G ⟨some d, op, ty, pos, aft, gd⟩ ((xs.map (·.2)).zip ys) [] ⟨some v, [], []⟩) (hd : Nat.blt d n = true)
    (hr : Ch P G l D K (⟨true, (xs.map (·.2)).zip ys, [], ⟨some v, [], []⟩⟩ :: acc) r ⟨n, upd s d (some v), h, u⟩) : Ch P G l D K acc (⟨some d, op, ty, pos, aft, gd⟩ :: r) ⟨n, s, h, u⟩ :=
  Ch.pu hg h1.ok.1 hs trivial hd hr
theorem Ch.alp {v : AV} {ch : List (Nat × Option AO)} {nu : List Nat} {xs : List (Nat × Operand)} {ys : List AV} (hg : GdOk l.toArray ⟨some d, op, ty, pos, aft, gd⟩ ⟨n, s, h, u⟩ true) (h1 : EvP ⟨n, s, h, u⟩ xs ys) (hs : OpS P G ⟨some d, op, ty, pos, aft, gd⟩ ((xs.map (·.2)).zip ys) [] ⟨some v, ch, nu⟩)
    (h3 : NuOk ⟨n, s, h, u⟩ nu) (hd : Nat.blt d n = true) (hr : Ch P G l D K (⟨true, (xs.map (·.2)).zip ys, [], ⟨some v, ch, nu⟩⟩ :: acc) r ⟨n, upd s d (some v), chs h ch, nuU u nu⟩) : Ch P G l D K acc (⟨some d, op, ty, pos, aft, gd⟩ :: r) ⟨n, s, h, u⟩ :=
  Ch.al hg h1.ok.1 hs trivial h3 hd hr
/-- entries anew, no slot -/
theorem Ch.wr {x : Option AV} {ch : List (Nat × Option AO)} {nu : List Nat} (hg : GdOk l.toArray ⟨none, op, ty, pos, aft, gd⟩ ⟨n, s, h, u⟩ true) (h1 : SlOk ⟨n, s, h, u⟩ sl) (hs : OpS P G ⟨none, op, ty, pos, aft, gd⟩ sl hp ⟨x, ch, nu⟩) (h2 : HpOk ⟨n, s, h, u⟩ hp)
    (h3 : NuOk ⟨n, s, h, u⟩ nu) (hr : Ch P G l D K (⟨true, sl, hp, ⟨x, ch, nu⟩⟩ :: acc) r ⟨n, s, chs h ch, nuU u nu⟩) : Ch P G l D K acc (⟨none, op, ty, pos, aft, gd⟩ :: r) ⟨n, s, h, u⟩ :=
  Ch.cons (st := ⟨true, sl, hp, ⟨x, ch, nu⟩⟩) ⟨hg, fun _ => ⟨hs, h1, h2, h3, fun t ht => by cases ht⟩, fun h => nomatch h⟩ hr

/-- a call -/
theorem Ch.call {f : FuncId} {args : List AV} {H H' : List (Option AO)} {res : AV} (F : FC P G f args H res H') (old : List Nat) (base : Nat) {xs : List Operand} {ys : List AV} {ats : Array TypeId}
    (hg : GdOk l.toArray ⟨some d, .call ⟨.value (.func f), xs.toArray, ats⟩, ty, pos, aft, gd⟩ ⟨n, s, h, u⟩ true) (hev : EvL ⟨n, s, h, u⟩ xs ys) (hwk : WkL ys (args.map (AV.ren (pi old base)))) (hol : old.length = H.length) (hnd : old.Nodup) (hlt : ∀ x ∈ old, x < base)
    (h2 : HpOk ⟨n, s, h, u⟩ (hpl (pi old base) old H)) (h3 : NuOk ⟨n, s, h, u⟩ (callEff old base res H.length H').nu) (hd : Nat.blt d n = true)
    (hr : Ch P G l D K (⟨true, xs.zip ys, hpl (pi old base) old H, callEff old base res H.length H'⟩ :: acc) r ⟨n, upd s d (some (res.ren (pi old base))), chs h (callEff old base res H.length H').ch, nuU u (callEff old base res H.length H').nu⟩) :
    Ch P G l D K acc (⟨some d, .call ⟨.value (.func f), xs.toArray, ats⟩, ty, pos, aft, gd⟩ :: r) ⟨n, s, h, u⟩ :=
  Ch.cons (st := ⟨true, xs.zip ys, hpl (pi old base) old H, callEff old base res H.length H'⟩) ⟨hg, fun _ => ⟨OpS.call F old base hol hnd hlt hev.ok.2 hwk, hev.ok.1, h2, h3, fun t ht => by cases ht; exact Nat.blt_eq.mp hd⟩, fun h => nomatch h⟩ hr
/-- a call of a function that only computes -/
theorem Ch.callP {f : FuncId} {args : List AV} {res : AV} (F : FC P G f args [] res []) {xs : List Operand} {ys : List AV} {ats : Array TypeId}
    (hg : GdOk l.toArray ⟨some d, .call ⟨.value (.func f), xs.toArray, ats⟩, ty, pos, aft, gd⟩ ⟨n, s, h, u⟩ true) (hev : EvL ⟨n, s, h, u⟩ xs ys) (hwk : WkL ys (args.map (AV.ren (pi [] 0)))) {res' : AV} (hres : res.ren (pi [] 0) = res') (hd : Nat.blt d n = true)
    (hr : Ch P G l D K (⟨true, xs.zip ys, [], ⟨some res', [], []⟩⟩ :: acc) r ⟨n, upd s d (some res'), h, u⟩) :
    Ch P G l D K acc (⟨some d, .call ⟨.value (.func f), xs.toArray, ats⟩, ty, pos, aft, gd⟩ :: r) ⟨n, s, h, u⟩ := by
  subst hres
  exact Ch.cons (st := ⟨true, xs.zip ys, [], ⟨some (res.ren (pi [] 0)), [], []⟩⟩) ⟨hg, fun _ => ⟨OpS.call F [] 0 rfl (by simp) (by simp) hev.ok.2 hwk, hev.ok.1, trivial, trivial, fun t ht => by cases ht; exact Nat.blt_eq.mp hd⟩, fun h => nomatch h⟩ hr

/-- nothing yet, to be appended to -/
theorem OpS.assignTip {P : Program} {G : List (Nat × Array Value)} {x : Operand} (c : Nat) (E : TypeId) (sz : Nat) :
    OpS P G ⟨dst, .assign x, ty, pos, aft, gd⟩ [(x, .v (.slice none 0 0))] [] ⟨some (.sl (some c) 0 []), [(c, some (.tip E sz 0))], [c]⟩ := by
  refine OpS.act fun A ρ σ a w _ h _ hu hs => ?_
  let ρ' : Env := ⟨ρ.blk, upd ρ.tip c (some (.slice none 0 0))⟩
  have hid : ρ'.tip c = some (.slice none 0 0) := upd_same _ _ _
  obtain ⟨m1, m2⟩ := hs.mem.extend (ρ' := ρ') (ob := .tip E sz 0) (w' := w) hu.1 (fun i hi => ⟨rfl, upd_ne _ _ hi⟩) rfl rfl rfl (Nat.le_refl _) (fun k hk => rfl) (fun b ⟨cap, hb⟩ => by rw [hid] at hb; cases hb) (fun _ => .inl ⟨hid, rfl⟩)
  refine ⟨.slice none 0 0, w, ρ', .inl ?_, m1, m2, fun v hv => by
    cases hv
    exact .sl _ _ _ _ _ (fun _ => undef) (fun i hi => by cases hi) (fun i c hc => by simp at hc) (fun k hk => by cases hk; exact hid) (Nat.le_refl _) (fun _ => rfl) (by unfold maxLen; omega)⟩
  show (pure (Next.value (a.eval x)) : Sem Next).run P w = _
  rw [(hs.ev h.1).raw]
  rfl
end

section
variable {P : Program} {G : List (Nat × Array Value)} {l r : List Oper} {K : AS → Prop} {D : Bool} {acc : List St} {dst : Option Tmp} {ty : TypeId} {pos : String} {aft : Array Edge} {gd : Option (Nat × Bool)} {σ : AS}
  {op' : BinOp} {uo : UnOp} {t t' : TypeId} {x y z : Operand} {o1 o2 o3 : Option Operand} {i : Nat} {b : Builtin} {as a1 a2 : Array Operand} {ats : Array TypeId} {ps : Array (Nat × Operand)} {fn : Fn}
theorem Ch.kBin (h : Ch P G l D K acc (⟨dst, .binOp op' t x y t', ty, pos, aft, gd⟩ :: r) σ) : Ch P G l D K acc (⟨dst, .binOp op' t x y t', ty, pos, aft, gd⟩ :: r) σ := h
theorem Ch.kCv (h : Ch P G l D K acc (⟨dst, .convert t t' x, ty, pos, aft, gd⟩ :: r) σ) : Ch P G l D K acc (⟨dst, .convert t t' x, ty, pos, aft, gd⟩ :: r) σ := h
theorem Ch.kIx (h : Ch P G l D K acc (⟨dst, .index t x y, ty, pos, aft, gd⟩ :: r) σ) : Ch P G l D K acc (⟨dst, .index t x y, ty, pos, aft, gd⟩ :: r) σ := h
theorem Ch.kIa (h : Ch P G l D K acc (⟨dst, .indexAddr t x y, ty, pos, aft, gd⟩ :: r) σ) : Ch P G l D K acc (⟨dst, .indexAddr t x y, ty, pos, aft, gd⟩ :: r) σ := h
theorem Ch.kLd (h : Ch P G l D K acc (⟨dst, .load t x, ty, pos, aft, gd⟩ :: r) σ) : Ch P G l D K acc (⟨dst, .load t x, ty, pos, aft, gd⟩ :: r) σ := h
theorem Ch.kSt (h : Ch P G l D K acc (⟨dst, .store t x y, ty, pos, aft, gd⟩ :: r) σ) : Ch P G l D K acc (⟨dst, .store t x y, ty, pos, aft, gd⟩ :: r) σ := h
theorem Ch.kSl (h : Ch P G l D K acc (⟨dst, .slice t x o1 o2 o3, ty, pos, aft, gd⟩ :: r) σ) : Ch P G l D K acc (⟨dst, .slice t x o1 o2 o3, ty, pos, aft, gd⟩ :: r) σ := h
theorem Ch.kNc (h : Ch P G l D K acc (⟨dst, .nilCheck x, ty, pos, aft, gd⟩ :: r) σ) : Ch P G l D K acc (⟨dst, .nilCheck x, ty, pos, aft, gd⟩ :: r) σ := h
theorem Ch.kFa (h : Ch P G l D K acc (⟨dst, .fieldAddr t x i, ty, pos, aft, gd⟩ :: r) σ) : Ch P G l D K acc (⟨dst, .fieldAddr t x i, ty, pos, aft, gd⟩ :: r) σ := h
theorem Ch.kFd (h : Ch P G l D K acc (⟨dst, .field t x i, ty, pos, aft, gd⟩ :: r) σ) : Ch P G l D K acc (⟨dst, .field t x i, ty, pos, aft, gd⟩ :: r) σ := h
theorem Ch.kEx (h : Ch P G l D K acc (⟨dst, .extract x i, ty, pos, aft, gd⟩ :: r) σ) : Ch P G l D K acc (⟨dst, .extract x i, ty, pos, aft, gd⟩ :: r) σ := h
theorem Ch.kPk (h : Ch P G l D K acc (⟨dst, .pick x y z, ty, pos, aft, gd⟩ :: r) σ) : Ch P G l D K acc (⟨dst, .pick x y z, ty, pos, aft, gd⟩ :: r) σ := h
theorem Ch.kUn (h : Ch P G l D K acc (⟨dst, .unOp uo t x, ty, pos, aft, gd⟩ :: r) σ) : Ch P G l D K acc (⟨dst, .unOp uo t x, ty, pos, aft, gd⟩ :: r) σ := h
theorem Ch.kCb (h : Ch P G l D K acc (⟨dst, .call ⟨.builtin b, as, ats⟩, ty, pos, aft, gd⟩ :: r) σ) : Ch P G l D K acc (⟨dst, .call ⟨.builtin b, as, ats⟩, ty, pos, aft, gd⟩ :: r) σ := h
theorem Ch.kCv2 (h : Ch P G l D K acc (⟨dst, .call ⟨.value x, as, ats⟩, ty, pos, aft, gd⟩ :: r) σ) : Ch P G l D K acc (⟨dst, .call ⟨.value x, as, ats⟩, ty, pos, aft, gd⟩ :: r) σ := h
theorem Ch.kBs (h : Ch P G l D K acc (⟨dst, .buildSlice t i ps, ty, pos, aft, gd⟩ :: r) σ) : Ch P G l D K acc (⟨dst, .buildSlice t i ps, ty, pos, aft, gd⟩ :: r) σ := h
theorem Ch.kBd (h : Ch P G l D K acc (⟨dst, .build t ps, ty, pos, aft, gd⟩ :: r) σ) : Ch P G l D K acc (⟨dst, .build t ps, ty, pos, aft, gd⟩ :: r) σ := h
theorem Ch.kBx (h : Ch P G l D K acc (⟨dst, .box t x, ty, pos, aft, gd⟩ :: r) σ) : Ch P G l D K acc (⟨dst, .box t x, ty, pos, aft, gd⟩ :: r) σ := h
theorem Ch.kAl (h : Ch P G l D K acc (⟨dst, .alloc t, ty, pos, aft, gd⟩ :: r) σ) : Ch P G l D K acc (⟨dst, .alloc t, ty, pos, aft, gd⟩ :: r) σ := h
theorem Ch.kMf (h : Ch P G l D K acc (⟨dst, .makeFunc fn a1 a2, ty, pos, aft, gd⟩ :: r) σ) : Ch P G l D K acc (⟨dst, .makeFunc fn a1 a2, ty, pos, aft, gd⟩ :: r) σ := h
theorem Ch.kMs (h : Ch P G l D K acc (⟨dst, .makeSlice t x y, ty, pos, aft, gd⟩ :: r) σ) : Ch P G l D K acc (⟨dst, .makeSlice t x y, ty, pos, aft, gd⟩ :: r) σ := h
theorem Ch.kAs (h : Ch P G l D K acc (⟨dst, .assign x, ty, pos, aft, gd⟩ :: r) σ) : Ch P G l D K acc (⟨dst, .assign x, ty, pos, aft, gd⟩ :: r) σ := h
end

theorem WP.rg {P : Program} {G : List (Nat × Array Value)} {A : Amb} {Q : Exit → AS → Prop} {σ : AS} {id : Nat} {l : List Oper} (hG : A.G = G) (h : Ch P G l false (Q .normal) [] l σ) : WP P A (.region id l.toArray false) Q σ := by
  obtain ⟨ds, h1, -⟩ := h.e
  exact WP.region hG h1
theorem WP.rgD {P : Program} {G : List (Nat × Array Value)} {A : Amb} {Q : Exit → AS → Prop} {σ : AS} {id : Nat} {l : List Oper} (hm : P.follows .mixedOrders = true) (hG : A.G = G) (h : Ch P G l true (Q .normal) [] l σ) : WP P A (.region id l.toArray true) Q σ := by
  obtain ⟨ds, h1, h2⟩ := h.e
  exact WP.drawn hm hG h1 (h2 rfl)
theorem WP.rs {P : Program} {G : List (Nat × Array Value)} {A : Amb} {Q : Exit → AS → Prop} {σ : AS} {id : Nat} {l : List Oper} {y : Code} (hG : A.G = G) (h : Ch P G l false (WP P A y Q) [] l σ) : WP P A (.seq (.region id l.toArray false) y) Q σ :=
  WP.seq (WP.rg hG h)
theorem WP.rsD {P : Program} {G : List (Nat × Array Value)} {A : Amb} {Q : Exit → AS → Prop} {σ : AS} {id : Nat} {l : List Oper} {y : Code} (hm : P.follows .mixedOrders = true) (hG : A.G = G) (h : Ch P G l true (WP P A y Q) [] l σ) : WP P A (.seq (.region id l.toArray true) y) Q σ :=
  WP.seq (WP.rgD hm hG h)

/-- the same state, told with less: slots, entries as they are, names used -/
theorem Ent.id {nA : Nat} {σ σ' : AS} (hn : σ'.n = σ.n) (ha : ∀ i, i < nA → σ'.u i = true) (hs : ∀ t v', σ'.s t = some v' → v'.bel σ'.u ∧ ∃ v, σ.s t = some v ∧ v.wk (v'.ren id)) (hh : ∀ i o', σ'.h i = some o' → σ'.u i = true ∧ o'.bel σ'.u ∧ σ.h i = some (o'.ren id)) : Ent id nA σ σ' :=
  ⟨hn, fun i hi => ⟨rfl, ha i hi⟩, hs, hh, fun _ _ _ _ _ _ h => h⟩

/-- slots told by a list -/
def ls : List (Nat × AV) → Nat → Option AV
  | [] => fun _ => none
  | (t, v) :: r => fun i => bif Nat.beq i t then some v else ls r i
theorem ls_some {l : List (Nat × AV)} {t : Nat} {v : AV} (h : ls l t = some v) : (t, v) ∈ l := by
  induction l with
  | nil => cases h
  | cons p r ih =>
    obtain ⟨k, x⟩ := p
    simp only [ls] at h
    cases hb : Nat.beq t k with
    | true => rw [hb] at h; rw [Nat.beq_eq] at hb; cases h; subst hb; simp
    | false => rw [hb] at h; exact List.mem_cons_of_mem _ (ih h)
def lh : List (Nat × AO) → Nat → Option AO
  | [] => fun _ => none
  | (t, v) :: r => fun i => bif Nat.beq i t then some v else lh r i
theorem lh_some {l : List (Nat × AO)} {t : Nat} {v : AO} (h : lh l t = some v) : (t, v) ∈ l := by
  induction l with
  | nil => cases h
  | cons p r ih =>
    obtain ⟨k, x⟩ := p
    simp only [lh] at h
    cases hb : Nat.beq t k with
    | true => rw [hb] at h; rw [Nat.beq_eq] at hb; cases h; subst hb; simp
    | false => rw [hb] at h; exact List.mem_cons_of_mem _ (ih h)
/-- what each slot and each entry of a list must come from -/
def SFrom (π : Nat → Nat) (u : Nat → Bool) (s : Nat → Option AV) : List (Nat × AV) → Prop
  | [] => True
  | (t, v') :: r => (v'.bel u ∧ ∃ v, s t = some v ∧ v.wk (v'.ren π)) ∧ SFrom π u s r
def HFrom (π : Nat → Nat) (u : Nat → Bool) (h : Nat → Option AO) : List (Nat × AO) → Prop
  | [] => True
  | (t, o') :: r => (u t = true ∧ o'.bel u ∧ h (π t) = some (o'.ren π)) ∧ HFrom π u h r
theorem SFrom.get {π : Nat → Nat} {u : Nat → Bool} {s : Nat → Option AV} : ∀ {l : List (Nat × AV)}, SFrom π u s l → ∀ p ∈ l, p.2.bel u ∧ ∃ v, s p.1 = some v ∧ v.wk (p.2.ren π)
  | (t, v) :: r, h, p, hp => by
    rcases List.mem_cons.1 hp with rfl | hp
    · exact h.1
    · exact SFrom.get h.2 p hp
theorem HFrom.get {π : Nat → Nat} {u : Nat → Bool} {s : Nat → Option AO} : ∀ {l : List (Nat × AO)}, HFrom π u s l → ∀ p ∈ l, u p.1 = true ∧ p.2.bel u ∧ s (π p.1) = some (p.2.ren π)
  | (t, v) :: r, h, p, hp => by
    rcases List.mem_cons.1 hp with rfl | hp
    · exact h.1
    · exact HFrom.get h.2 p hp
/-- names that may be given anew: the k-th one is that of the list -/
def rn (l : List Nat) : Nat → Nat := fun i => l.getD i i
theorem Ent.of {nA n m : Nat} {s : Nat → Option AV} {h : Nat → Option AO} {u : Nat → Bool} {l : List (Nat × AV)} {lo : List (Nat × AO)} (rs : List Nat) (ha : ∀ i, i < nA → rn rs i = i ∧ blt m i = true) (hs : SFrom (rn rs) (blt m) s l) (hh : HFrom (rn rs) (blt m) h lo)
    (hinj : ((lo.map fun p => rn rs p.1)).Nodup) : Ent (rn rs) nA ⟨n, s, h, u⟩ ⟨n, ls l, lh lo, blt m⟩ := by
  refine ⟨rfl, ha, fun t v' ht => hs.get _ (ls_some ht), fun i o' hi => hh.get _ (lh_some hi), ?_⟩
  intro i j oi oj hi hj he
  have h1 := lh_some hi
  have h2 := lh_some hj
  have key : ∀ (lo : List (Nat × AO)), ((lo.map fun p => rn rs p.1)).Nodup → ∀ i oi j oj, (i, oi) ∈ lo → (j, oj) ∈ lo → rn rs i = rn rs j → i = j := by
    intro lo
    induction lo with
    | nil => intro _ i oi j oj h; cases h
    | cons p r ih =>
      intro hnd i oi j oj h1 h2 he
      simp only [List.map_cons, List.nodup_cons, List.mem_map, not_exists, not_and] at hnd
      rcases List.mem_cons.1 h1 with h1 | h1 <;> rcases List.mem_cons.1 h2 with h2 | h2
      · rw [← h2] at h1; cases h1; rfl
      · exact absurd (by rw [← h1]; exact he.symm) (hnd.1 _ h2)
      · exact absurd (by rw [← h2]; exact he) (hnd.1 _ h1)
      · exact ih hnd.2 i oi j oj h1 h2 he
  exact key lo hinj i oi j oj h1 h2 he

def HFromL (π : Nat → Nat) (u : Nat → Bool) (h : Nat → Option AO) : Nat → List (Option AO) → Prop
  | _, [] => True
  | k, none :: r => HFromL π u h (k + 1) r
  | k, some o' :: r => (o'.bel u ∧ h (π k) = some (o'.ren π)) ∧ HFromL π u h (k + 1) r
theorem HFromL.get {π : Nat → Nat} {u : Nat → Bool} {h : Nat → Option AO} : ∀ {k : Nat} {H : List (Option AO)}, HFromL π u h k H → ∀ {i : Nat} {o' : AO}, H[i]? = some (some o') → o'.bel u ∧ h (π (k + i)) = some (o'.ren π)
  | k, some o :: r, hh, 0, o', hi => by simp at hi; subst hi; exact hh.1
  | k, none :: r, hh, 0, o', hi => by simp at hi
  | k, some o :: r, hh, i + 1, o', hi => by have := HFromL.get hh.2 (i := i) (o' := o') (by simpa using hi); rw [show k + (i + 1) = k + 1 + i by omega]; exact this
  | k, none :: r, hh, i + 1, o', hi => by have := HFromL.get (k := k + 1) (H := r) hh (i := i) (o' := o') (by simpa using hi); rw [show k + (i + 1) = k + 1 + i by omega]; exact this
  | k, [], _, i, o', hi => by simp at hi
theorem Ret.of {A : Amb} {n : Nat} {s : Nat → Option AV} {h : Nat → Option AO} {u : Nat → Bool} {rs : List Tmp} {vs : List AV} {res : AV} {H' : List (Option AO)} (pm : List Nat) (ha : ∀ i, i < A.nA → rn pm i = i ∧ blt H'.length i = true) (hs : SFrom (rn pm) (blt H'.length) s (rs.zip vs)) (hl' : vs.length = rs.length)
    (hh : HFromL (rn pm) (blt H'.length) h 0 H') (hinj : ((List.range H'.length).map (rn pm)).Nodup) (hr : RetV rs res ⟨n, ls (rs.zip vs), hl H', blt H'.length⟩) :
    Ret A rs res H' .ret ⟨n, s, h, u⟩ ∧ Ret A rs res H' .normal ⟨n, s, h, u⟩ := by
  have : ∃ σ', SEnt A ⟨n, s, h, u⟩ σ' ∧ σ'.h = hl H' ∧ σ'.u = blt H'.length ∧ RetV rs res σ' := by
    refine ⟨⟨n, ls (rs.zip vs), hl H', blt H'.length⟩, Ent.se (π := rn pm) ⟨rfl, ha, fun t v' ht => hs.get _ (ls_some ht), fun i o' hi => ?_, ?_⟩, rfl, rfl, hr⟩
    · obtain ⟨h1, h2⟩ := hl_some hi
      have := hh.get h2
      rw [Nat.zero_add] at this
      exact ⟨blt_iff.2 h1, this⟩
    · intro i j oi oj hi hj he
      have hi' := (hl_some hi).1
      have hj' := (hl_some hj).1
      rcases Nat.lt_trichotomy i j with hij | hij | hij
      · have := List.pairwise_iff_getElem.1 hinj i j (by simpa using hi') (by simpa using hj') hij
        simp at this
        exact absurd he this
      · exact hij
      · have := List.pairwise_iff_getElem.1 hinj j i (by simpa using hj') (by simpa using hi') hij
        simp at this
        exact absurd he.symm this
  exact ⟨this, this⟩
theorem Ret.one {A : Amb} {n : Nat} {s : Nat → Option AV} {h : Nat → Option AO} {u : Nat → Bool} {t : Tmp} {v res : AV} (hs : s t = some v) (hk : v.wk (res.ren (rn []))) (hb : res.bel (blt 0)) (hA : A.nA = 0) : Ret A [t] res [] .ret ⟨n, s, h, u⟩ :=
  (Ret.of (rs := [t]) (vs := [res]) (H' := []) (res := res) [] (fun i hi => by rw [hA] at hi; omega) ⟨⟨hb, v, hs, hk⟩, trivial⟩ rfl trivial (by simp) (show ls [(t, res)] t = some res by simp [ls])).1
end Go.Proofs.YtmifllopcbjliaaDoor.E
