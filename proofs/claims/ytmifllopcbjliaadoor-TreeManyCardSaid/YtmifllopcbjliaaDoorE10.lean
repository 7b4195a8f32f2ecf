/- Literals, parts, texts and bytes, made slices, closures. -/
import Derived.Test.YtmifllopcbjliaaDoorE9
namespace Go.Proofs.YtmifllopcbjliaaDoor.E
open Go Go.RowKit Go.Proofs.YtmifllopcbjliaaDoor.V

theorem all_one {cs : List AV} {arr : Array Value} {N : Nat → Nat → Prop} {ρ : Env} {w : World} (h1 : (cs.all fun c => c.one) = true) (h : ∀ (j : Nat) (c : AV) (v : Value), cs[j]? = some c → arr[j]? = some v → VRel N ρ w c v) (j : Nat) (c : AV) (v : Value)
    (hc : cs[j]? = some c) (hv : arr[j]? = some v) : VRel N ρ w c v ∧ v.oneCell' = true :=
  ⟨h j c v hc hv, (h j c v hc hv).oneCell (List.all_eq_true.1 h1 c (List.mem_of_getElem? hc))⟩

theorem parts_rel {A : Amb} {ρ : Env} {σ : AS} {a : Act} {w : World} (hs : Sat A ρ σ a w) {ps : List (Nat × Operand)} {ys : List AV} (h : SlOk σ ((ps.map (·.2)).zip ys)) (hl : ps.length = ys.length) :
    ∀ (j : Nat) (p : Nat × AV) (q : Nat × Value), ((ps.map (·.1)).zip ys)[j]? = some p → (ps.map fun p => (p.1, a.eval p.2))[j]? = some q → VRel (Nh A σ.h ρ w) ρ w p.2 q.2 := by
  intro j p q hp hq
  rw [List.getElem?_map] at hq
  cases hj : ps[j]? with
  | none => rw [hj] at hq; cases hq
  | some r =>
    rw [hj] at hq
    cases hq
    have hjl : j < ys.length := by rw [← hl]; exact (List.getElem?_eq_some_iff.1 hj).1
    rw [List.getElem?_zip_eq_some] at hp
    exact ev_ops hs h j r.2 p.2 (by rw [List.getElem?_map, hj]; rfl) hp.2

def placesOf (P : Program) (fs : Array Field) : Nat → Option (Nat × Nat) := fun i => (fs[i]?).map fun f => (f.offset, ((P.info? f.type).map (·.size)).getD 0)

section
variable {P : Program} {G : List (Nat × Array Value)} {dst : Option Tmp} {ty : TypeId} {pos : String} {aft : Array Edge} {gd : Option (Nat × Bool)}

theorem run_places (fs : Array Field) (w : World) (h : ∀ f ∈ fs.toList, (P.info? f.type).isSome = true) :
    (fs.mapM fun f => (do pure (f.offset, ← sizeOf f.type) : Sem (Nat × Nat))).run P w = .ok (fs.map fun f => (f.offset, ((P.info? f.type).map (·.size)).getD 0)) w := by
  have key : ∀ l : List Field, (∀ f ∈ l, (P.info? f.type).isSome = true) → (List.mapM (m := Sem) (fun f : Field => (do pure (f.offset, ← sizeOf f.type) : Sem (Nat × Nat))) l).run P w = .ok (l.map fun f => (f.offset, ((P.info? f.type).map (·.size)).getD 0)) w := by
    intro l
    induction l with
    | nil => intro _; rfl
    | cons f l ih =>
      intro hl
      obtain ⟨i, hi⟩ := Option.isSome_iff_exists.1 (hl f (by simp))
      rw [List.mapM_cons, Sem.run_bind]
      have h1 : ((do pure (f.offset, ← sizeOf f.type) : Sem (Nat × Nat))).run P w = .ok (f.offset, i.size) w := by
        simp [sizeOf, typeInfo, hi, Sem.run_bind, Sem.run_pure, Result.andThen_ok]
      rw [h1, Result.andThen_ok, Sem.run_bind, ih (fun f hf => hl f (by simp [hf])), Result.andThen_ok]
      simp [hi, Sem.run_pure]
  cases fs with
  | mk l =>
    have hk := key l (by simpa using h)
    rw [show (⟨l⟩ : Array Field) = l.toArray from rfl, List.mapM_toArray]
    rw [show ∀ m : Sem (List (Nat × Nat)), (List.toArray <$> m) = (m >>= fun x => pure x.toArray) from fun _ => rfl, Sem.run_bind, hk, Result.andThen_ok]
    simp [Sem.run_pure]

/-- a struct, put together -/
theorem OpS.build {T : TypeId} {fs : Array Field} {inf : TypeInfo} {z : Value} {ps : List (Nat × Operand)} {ys cs : List AV} (hu : P.underlying T = some (.struct fs)) (hi : P.info? T = some inf) (hz : inf.zero = some z) (hfs : (fs.toList.all fun f => (P.info? f.type).isSome) = true)
    (hl : ps.length = ys.length) (hf : fillA (placesOf P fs) (z.cells.toList.map .v) ((ps.map (·.1)).zip ys) = some cs) :
    OpS P G ⟨dst, .build T ps.toArray, ty, pos, aft, gd⟩ ((ps.map (·.2)).zip ys) [] ⟨some (.agg cs), [], []⟩ := by
  refine OpS.still fun A ρ σ a w _ h _ hs => ?_
  obtain ⟨arr', h1, h2, h3⟩ := fill_rel (N := Nh A σ.h ρ w) (ρ := ρ) (w := w) ((ps.map (·.1)).zip ys) (ps.map fun p => (p.1, a.eval p.2)) _ cs z.cells hf
    (by rw [List.map_fst_zip (by simp [hl])]; simp) (parts_rel hs h hl) (by simp) (fun j c v hc hv => by
      rw [List.getElem?_map, Array.getElem?_toList, hv] at hc
      cases hc
      exact .v _)
  refine ⟨.agg arr', ?_, .agg cs arr' h2 h3⟩
  show (do pure (Next.value (← Instr.build T (ps.toArray.map fun (i, x) => (i, a.eval x)))) : Sem Next).run P w = _
  refine runv ?_
  have hpl : (fun i => (fs.map fun f => (f.offset, ((P.info? f.type).map (·.size)).getD 0))[i]?) = placesOf P fs := by funext i; simp [placesOf]
  simp only [Instr.build, Sem.run_bind, zeroValue, typeInfo, hi, hz, run_underlying hu, Sem.run_pure, Result.andThen_ok, run_program]
  simp only [run_places fs w (fun f hf => List.all_eq_true.1 hfs f hf), Result.andThen_ok, hpl]
  simp only [List.map_toArray, h1]
  rfl
def zl (z : Value) (k : Nat) : List Value := (List.range k).map fun i => z.cells[i % z.cells.size]!
theorem run_buildSlice {t E : TypeId} {inf : TypeInfo} {z : Value} {n : Nat} {vs : Array (Nat × Value)} {arr' : Array Value} (hu : P.underlying t = some (.slice E)) (hi : P.info? E = some inf) (hz : inf.zero = some z) (h0 : 0 < n * inf.size) (hn : n * inf.size ≤ 65536)
    (hf : Instr.fill (fun i => some (i * inf.size, inf.size)) (zl z (n * inf.size)).toArray vs.toList = some arr') (w : World) :
    (Instr.buildSlice t n vs).run P w = .ok (.slice (some ⟨w.heap.size, 0, none⟩) n n) (w.alloc (.cells arr' E)) := by
  have h1 : ¬ n * inf.size > 2 ^ 24 := by omega
  have h2 : ¬ n * inf.size = 0 := by omega
  have hzz : (Array.range (n * inf.size)).map (fun x => z.cells[x % z.cells.size]!) = (zl z (n * inf.size)).toArray := by rw [← Array.toList_inj]; simp [zl, Array.toList_range]
  simp only [Instr.buildSlice, Sem.run_bind, run_underlying hu, Result.andThen_ok, sizeOf, typeInfo, hi, Sem.run_pure, h1, h2, if_false, zeroValue, hz, run_program, hzz, hf]
  simp [newRow, Sem.run_bind, Sem.run_pure, Result.andThen_ok]
/-- a slice, put together: nobody writes it -/
theorem OpS.buildSlice {t E : TypeId} {inf : TypeInfo} {z : Value} {n sz : Nat} {ps : List (Nat × Operand)} {ys cs : List AV} (hu : P.underlying t = some (.slice E)) (hi : P.info? E = some inf) (hz : inf.zero = some z) (hsz : inf.size = sz) (h0 : 0 < n * sz) (hn : n * sz ≤ 65536)
    (hl : ps.length = ys.length) (hf : fillA (fun i => some (i * sz, sz)) ((zl z (n * sz)).map .v) ((ps.map (·.1)).zip ys) = some cs) (h1 : (cs.all fun c => c.one) = true) (hm : n ≤ maxLen) :
    OpS P G ⟨dst, .buildSlice t n ps.toArray, ty, pos, aft, gd⟩ ((ps.map (·.2)).zip ys) [] ⟨some (.sl none n cs), [], []⟩ := by
  subst hsz
  refine OpS.act fun A ρ σ a w _ h _ _ hs => ?_
  obtain ⟨arr', k1, k2, k3⟩ := fill_rel (N := Nh A σ.h ρ w) (ρ := ρ) (w := w) ((ps.map (·.1)).zip ys) (ps.map fun p => (p.1, a.eval p.2)) _ cs (zl z (n * inf.size)).toArray hf
    (by rw [List.map_fst_zip (by simp [hl])]; simp) (parts_rel hs h hl) (by simp) (fun j c v hc hv => by
      rw [List.getElem?_toArray] at hv
      rw [List.getElem?_map, hv] at hc
      cases hc
      exact .v _)
  obtain ⟨m1, m2, m3⟩ := new_slice (w' := w.alloc (.cells arr' E)) hs.mem rfl rfl rfl (by simp) (fun k hk => Below.heap_alloc w _ k hk) (heap_alloc_new w _) (cs := cs) (n := n) (cap := n) (by rw [k2]; exact Nat.le_refl _) (Nat.le_refl _) hm (all_one h1 k3)
  refine ⟨_, w.alloc (.cells arr' E), ρ, .inl ?_, m1, m2, fun v hv => by cases hv; exact m3⟩
  show (do pure (Next.value (← Instr.buildSlice t n (ps.toArray.map fun (i, x) => (i, a.eval x)))) : Sem Next).run P w = _
  refine runv ?_
  refine run_buildSlice hu hi hz h0 hn ?_ w
  simpa using k1
/-- a slice, put together: the play may append to it -/
theorem OpS.buildSliceT {t E : TypeId} {inf : TypeInfo} {z : Value} {n sz : Nat} {ps : List (Nat × Operand)} {ys cs : List AV} (id : Nat) (hu : P.underlying t = some (.slice E)) (hi : P.info? E = some inf) (hz : inf.zero = some z) (hsz : inf.size = sz) (h0 : 0 < n * sz) (hn : n * sz ≤ 65536)
    (hl : ps.length = ys.length) (hf : fillA (fun i => some (i * sz, sz)) ((zl z (n * sz)).map .v) ((ps.map (·.1)).zip ys) = some cs) (h1 : (cs.all fun c => c.one) = true) (hm : n ≤ maxLen) (hcl : cs.length = n * sz) :
    OpS P G ⟨dst, .buildSlice t n ps.toArray, ty, pos, aft, gd⟩ ((ps.map (·.2)).zip ys) [] ⟨some (.sl (some id) n cs), [(id, some (.tip E sz n))], [id]⟩ := by
  subst hsz
  refine OpS.act fun A ρ σ a w _ h _ hnu hs => ?_
  obtain ⟨arr', k1, k2, k3⟩ := fill_rel (N := Nh A σ.h ρ w) (ρ := ρ) (w := w) ((ps.map (·.1)).zip ys) (ps.map fun p => (p.1, a.eval p.2)) _ cs (zl z (n * inf.size)).toArray hf
    (by rw [List.map_fst_zip (by simp [hl])]; simp) (parts_rel hs h hl) (by simp) (fun j c v hc hv => by
      rw [List.getElem?_toArray] at hv
      rw [List.getElem?_map, hv] at hc
      cases hc
      exact .v _)
  let ρ' : Env := ⟨ρ.blk, upd ρ.tip id (some (.slice (some ⟨w.heap.size, 0, none⟩) n n))⟩
  have hid : ρ'.tip id = some (.slice (some ⟨w.heap.size, 0, none⟩) n n) := upd_same _ _ _
  obtain ⟨m1, m2⟩ := hs.mem.extend (ρ' := ρ') (ob := .tip E inf.size n) (w' := w.alloc (.cells arr' E)) hnu.1 (fun i hi => ⟨rfl, upd_ne _ _ hi⟩) rfl rfl rfl (by simp) (fun k hk => Below.heap_alloc w _ k hk)
    (fun b ⟨cap, hb⟩ => by rw [hid] at hb; cases hb; exact Nat.le_refl _) (fun _ => .inr ⟨w.heap.size, n, arr', hid, heap_alloc_new w _, Nat.le_refl _, hm, by rw [k2, hcl]⟩)
  refine ⟨_, w.alloc (.cells arr' E), ρ', .inl ?_, m1, m2, fun v hv => by
    cases hv
    refine .sl _ _ _ _ n (fun i => arr'.getD i undef) (fun i hi => ?_) (fun i c hi => ?_) (fun k hk => by cases hk; exact hid) (Nat.le_refl _) (fun h => by cases h) hm
    · have hlt : i < arr'.size := by omega
      have hv := all_one h1 k3 i _ arr'[i] (List.getElem?_eq_getElem hi) (Array.getElem?_eq_getElem hlt)
      have hgd : arr'.getD i undef = arr'[i] := by simp [Array.getD_eq_getD_getElem?, hlt]
      refine ⟨by rw [hgd]; exact hv.2, w.heap.size, 0, rfl, ?_, by simp, .inr (.inr hs.mem.size), fun k ob hk hw => ?_⟩
      · rw [cell_of_row _ w.heap.size (0 + i) arr' E (0, 0) (heap_alloc_new w _), Nat.zero_add, hgd]
        exact Array.getElem?_eq_getElem hlt
      · rcases upd_eq_some hk with ⟨rfl, he⟩ | ⟨hne, he⟩
        · cases he
          obtain ⟨cap, _, hoo⟩ := hw
          omega
        · have hle : ρ.le ρ' := ⟨fun _ _ h => h, fun i v hv => by
            have : i ≠ id := fun e => by subst e; have := hs.mem.usedT i v hv; rw [hnu.1] at this; cases this
            rw [show ρ'.tip i = ρ.tip i from upd_ne _ _ this]; exact hv⟩
          have := (hs.mem.heap k ob he).lt (AO.at_of_wr ((hs.mem.heap k ob he).wr_back hle hw))
          omega
    · have hi' := (List.getElem?_eq_some_iff.1 hi).1
      have hlt : i < arr'.size := by omega
      have hgd : arr'.getD i undef = arr'[i] := by simp [Array.getD_eq_getD_getElem?, hlt]
      rw [hgd]
      exact m2 _ _ (k3 i c _ hi (Array.getElem?_eq_getElem hlt))⟩
  show (do pure (Next.value (← Instr.buildSlice t n (ps.toArray.map fun (i, x) => (i, a.eval x)))) : Sem Next).run P w = _
  refine runv ?_
  refine run_buildSlice hu hi hz h0 hn ?_ w
  simpa using k1

theorem fillA_id : ∀ (ys : List AV) (k : Nat) (pre init : List AV), (ys.all fun y => (match cellsA y with | [_] => true | _ => false) && y.one) = true → pre.length = k → init.length = ys.length →
    fillA (fun i => some (i * 1, 1)) (pre ++ init) ((List.range' k ys.length).zip ys) = some (pre ++ ys)
  | [], k, pre, init, _, _, hi => by
    have : init = [] := List.eq_nil_of_length_eq_zero hi
    subst this
    simp [fillA]
  | y :: ys, k, pre, init, h, hp, hi => by
    simp only [List.all_cons, Bool.and_eq_true] at h
    have hc : cellsA y = [y] := by
      cases y with
      | v x => cases x <;> first | rfl | (exact absurd h.1.2 (by simp [AV.one, Value.oneCell']))
      | agg cs => exact absurd h.1.2 (by simp [AV.one])
      | _ => rfl
    cases init with
    | nil => simp at hi
    | cons z init =>
      rw [List.length_cons, List.range'_succ, List.zip_cons_cons]
      simp only [fillA, hc]
      have hb : (Nat.beq [y].length 1 && Nat.ble (k * 1 + [y].length) (pre ++ z :: init).length) = true := by
        simp only [Bool.and_eq_true, Nat.beq_eq, Nat.ble_eq]
        simp; omega
      rw [hb]
      simp only [cond_true]
      have hs : splice (pre ++ z :: init) (k * 1) [y] = (pre ++ [y]) ++ init := by
        unfold splice
        rw [Nat.mul_one, ← hp]
        simp
      rw [hs, fillA_id ys (k + 1) (pre ++ [y]) init h.2 (by simp [hp]) (by simpa using hi)]
      simp
/-- a slice of one-cell elements, put together: nobody writes it -/
theorem OpS.slice1 {t E : TypeId} {inf : TypeInfo} {z : Value} {n : Nat} {ps : List (Nat × Operand)} {ys : List AV} (hu : P.underlying t = some (.slice E)) (hi : P.info? E = some inf) (hz : inf.zero = some z) (hsz : inf.size = 1) (h0 : Nat.blt 0 n = true) (hn : Nat.ble n 65536 = true)
    (hl : Nat.beq ys.length n = true) (hps : ps.map (·.1) = List.range' 0 n) (h1 : (ys.all fun y => (match cellsA y with | [_] => true | _ => false) && y.one) = true) :
    OpS P G ⟨dst, .buildSlice t n ps.toArray, ty, pos, aft, gd⟩ ((ps.map (·.2)).zip ys) [] ⟨some (.sl none n ys), [], []⟩ := by
  rw [Nat.beq_eq] at hl
  rw [Nat.blt_eq] at h0
  rw [Nat.ble_eq] at hn
  have hpl : ps.length = n := by have := congrArg List.length hps; simpa using this
  refine OpS.buildSlice hu hi hz hsz (by omega) (by omega) (by omega) ?_ ?_ (by unfold maxLen; omega)
  · have := fillA_id ys 0 [] ((zl z (n * 1)).map .v) h1 rfl (by simp [zl, hl])
    rw [hps, ← hl]
    rw [← hl] at this
    simpa using this
  · rw [List.all_eq_true] at h1 ⊢
    intro y hy
    have := h1 y hy
    simp only [Bool.and_eq_true] at this
    exact this.2
theorem OpS.slice1T {t E : TypeId} {inf : TypeInfo} {z : Value} {n : Nat} {ps : List (Nat × Operand)} {ys : List AV} (id : Nat) (hu : P.underlying t = some (.slice E)) (hi : P.info? E = some inf) (hz : inf.zero = some z) (hsz : inf.size = 1) (h0 : Nat.blt 0 n = true) (hn : Nat.ble n 65536 = true)
    (hl : Nat.beq ys.length n = true) (hps : ps.map (·.1) = List.range' 0 n) (h1 : (ys.all fun y => (match cellsA y with | [_] => true | _ => false) && y.one) = true) :
    OpS P G ⟨dst, .buildSlice t n ps.toArray, ty, pos, aft, gd⟩ ((ps.map (·.2)).zip ys) [] ⟨some (.sl (some id) n ys), [(id, some (.tip E 1 n))], [id]⟩ := by
  rw [Nat.beq_eq] at hl
  rw [Nat.blt_eq] at h0
  rw [Nat.ble_eq] at hn
  have hpl : ps.length = n := by have := congrArg List.length hps; simpa using this
  refine OpS.buildSliceT id hu hi hz hsz (by omega) (by omega) (by omega) ?_ ?_ (by unfold maxLen; omega) (by omega)
  · have := fillA_id ys 0 [] ((zl z (n * 1)).map .v) h1 rfl (by simp [zl, hl])
    rw [hps, ← hl]
    rw [← hl] at this
    simpa using this
  · rw [List.all_eq_true] at h1 ⊢
    intro y hy
    have := h1 y hy
    simp only [Bool.and_eq_true] at this
    exact this.2

def noEq : BinOp → Bool
  | .eql | .neq => false
  | _ => true
/- by the walk's own simplifier -/
theorem OpS.binR {op : BinOp} {t t' : TypeId} {x y : Operand} {vx vy v : Value} (hg : noEq op = true) (h : ∀ w, (binOp op t vx vy).run P w = .ok v w) :
    OpS P G ⟨dst, .binOp op t x y t', ty, pos, aft, gd⟩ [(x, .v vx), (y, .v vy)] [] ⟨some (.v v), [], []⟩ := by
  refine OpS.raw2 fun a' w hx hy => ?_
  show (do pure (Next.value (← (do eqGuard op t x y (a'.eval x) (a'.eval y); binOp op t (a'.eval x) (a'.eval y)))) : Sem Next).run P w = _
  refine runv ?_
  rw [hx, hy, Sem.run_bind]
  have : (eqGuard op t x y vx vy).run P w = .ok () w := by cases op <;> first | rfl | cases hg
  rw [this, Result.andThen_ok]
  exact h w
theorem OpS.unR {op : UnOp} {t : TypeId} {x : Operand} {vx v : Value} (h : ∀ w, (Op.unary op vx).run P w = .ok v w) : OpS P G ⟨dst, .unOp op t x, ty, pos, aft, gd⟩ [(x, .v vx)] [] ⟨some (.v v), [], []⟩ := by
  refine OpS.raw1 fun a' w hx => ?_
  show (do pure (Next.value (← (Op.unary op (a'.eval x)))) : Sem Next).run P w = _
  refine runv ?_
  rw [hx]
  exact h w
theorem OpS.convR {src d : TypeId} {x : Operand} {vx v : Value} (h : ∀ w, (convert src d vx).run P w = .ok v w) : OpS P G ⟨dst, .convert src d x, ty, pos, aft, gd⟩ [(x, .v vx)] [] ⟨some (.v v), [], []⟩ := by
  refine OpS.raw1 fun a' w hx => ?_
  show (do pure (Next.value (← (convert src d (a'.eval x)))) : Sem Next).run P w = _
  refine runv ?_
  rw [hx]
  exact h w

theorem OpS.add_u32 {t t' : TypeId} {x y : Operand} {a b : UInt32} : OpS P G ⟨dst, .binOp .add t x y t', ty, pos, aft, gd⟩ [(x, .v (.int .u32 (U32 a))), (y, .v (.int .u32 (U32 b)))] [] ⟨some (.v (.int .u32 (U32 (a + b)))), [], []⟩ :=
  OpS.binR rfl fun w => by
    show (Op.intArith .add .u32 (U32 a) (U32 b)).run P w = _
    rw [add32]; rfl
theorem OpS.sub_u32 {t t' : TypeId} {x y : Operand} {a b : UInt32} : OpS P G ⟨dst, .binOp .sub t x y t', ty, pos, aft, gd⟩ [(x, .v (.int .u32 (U32 a))), (y, .v (.int .u32 (U32 b)))] [] ⟨some (.v (.int .u32 (U32 (a - b)))), [], []⟩ :=
  OpS.binR rfl fun w => by
    show (Op.intArith .sub .u32 (U32 a) (U32 b)).run P w = _
    rw [sub32]; rfl
theorem OpS.mul_u32 {t t' : TypeId} {x y : Operand} {a b : UInt32} : OpS P G ⟨dst, .binOp .mul t x y t', ty, pos, aft, gd⟩ [(x, .v (.int .u32 (U32 a))), (y, .v (.int .u32 (U32 b)))] [] ⟨some (.v (.int .u32 (U32 (a * b)))), [], []⟩ :=
  OpS.binR rfl fun w => by
    show (Op.intArith .mul .u32 (U32 a) (U32 b)).run P w = _
    rw [mul32]; rfl
theorem OpS.and_u32 {t t' : TypeId} {x y : Operand} {a b : UInt32} : OpS P G ⟨dst, .binOp .and t x y t', ty, pos, aft, gd⟩ [(x, .v (.int .u32 (U32 a))), (y, .v (.int .u32 (U32 b)))] [] ⟨some (.v (.int .u32 (U32 (a &&& b)))), [], []⟩ :=
  OpS.binR rfl fun w => by
    show (Op.intBits .and .u32 (U32 a) (U32 b)).run P w = _
    rw [intBits_and, and32]; rfl
theorem OpS.or_u32 {t t' : TypeId} {x y : Operand} {a b : UInt32} : OpS P G ⟨dst, .binOp .or t x y t', ty, pos, aft, gd⟩ [(x, .v (.int .u32 (U32 a))), (y, .v (.int .u32 (U32 b)))] [] ⟨some (.v (.int .u32 (U32 (a ||| b)))), [], []⟩ :=
  OpS.binR rfl fun w => by
    show (Op.intBits .or .u32 (U32 a) (U32 b)).run P w = _
    rw [intBits_or, or32]; rfl
theorem OpS.xor_u32 {t t' : TypeId} {x y : Operand} {a b : UInt32} : OpS P G ⟨dst, .binOp .xor t x y t', ty, pos, aft, gd⟩ [(x, .v (.int .u32 (U32 a))), (y, .v (.int .u32 (U32 b)))] [] ⟨some (.v (.int .u32 (U32 (a ^^^ b)))), [], []⟩ :=
  OpS.binR rfl fun w => by
    show (Op.intBits .xor .u32 (U32 a) (U32 b)).run P w = _
    rw [intBits_xor, xor32]; rfl
theorem OpS.shl_u32 {t t' : TypeId} {x y : Operand} {a : UInt32} {k' : IntKind} {m : Int} {j : Nat} (h : 0 ≤ m) (hj : m.toNat = j) : OpS P G ⟨dst, .binOp .shl t x y t', ty, pos, aft, gd⟩ [(x, .v (.int .u32 (U32 a))), (y, .v (.int k' m))] [] ⟨some (.v (.int .u32 (U32 (shl32 a j)))), [], []⟩ := by
  subst hj
  refine OpS.binR rfl fun w => ?_
  show (Op.shift .shl .u32 (U32 a) k' m).run P w = _
  rw [shl32_run a k' m h]; rfl
theorem OpS.shr_u32 {t t' : TypeId} {x y : Operand} {a : UInt32} {k' : IntKind} {m : Int} {j : Nat} (h : 0 ≤ m) (hj : m.toNat = j) : OpS P G ⟨dst, .binOp .shr t x y t', ty, pos, aft, gd⟩ [(x, .v (.int .u32 (U32 a))), (y, .v (.int k' m))] [] ⟨some (.v (.int .u32 (U32 (shr32 a j)))), [], []⟩ := by
  subst hj
  refine OpS.binR rfl fun w => ?_
  show (Op.shift .shr .u32 (U32 a) k' m).run P w = _
  rw [shr32_run a k' m h]; rfl
theorem OpS.add_u64 {t t' : TypeId} {x y : Operand} {a b : UInt64} : OpS P G ⟨dst, .binOp .add t x y t', ty, pos, aft, gd⟩ [(x, .v (.int .u64 (U64 a))), (y, .v (.int .u64 (U64 b)))] [] ⟨some (.v (.int .u64 (U64 (a + b)))), [], []⟩ :=
  OpS.binR rfl fun w => by
    show (Op.intArith .add .u64 (U64 a) (U64 b)).run P w = _
    rw [add64]; rfl
theorem OpS.sub_u64 {t t' : TypeId} {x y : Operand} {a b : UInt64} : OpS P G ⟨dst, .binOp .sub t x y t', ty, pos, aft, gd⟩ [(x, .v (.int .u64 (U64 a))), (y, .v (.int .u64 (U64 b)))] [] ⟨some (.v (.int .u64 (U64 (a - b)))), [], []⟩ :=
  OpS.binR rfl fun w => by
    show (Op.intArith .sub .u64 (U64 a) (U64 b)).run P w = _
    rw [sub64]; rfl
theorem OpS.mul_u64 {t t' : TypeId} {x y : Operand} {a b : UInt64} : OpS P G ⟨dst, .binOp .mul t x y t', ty, pos, aft, gd⟩ [(x, .v (.int .u64 (U64 a))), (y, .v (.int .u64 (U64 b)))] [] ⟨some (.v (.int .u64 (U64 (a * b)))), [], []⟩ :=
  OpS.binR rfl fun w => by
    show (Op.intArith .mul .u64 (U64 a) (U64 b)).run P w = _
    rw [mul64]; rfl
theorem OpS.and_u64 {t t' : TypeId} {x y : Operand} {a b : UInt64} : OpS P G ⟨dst, .binOp .and t x y t', ty, pos, aft, gd⟩ [(x, .v (.int .u64 (U64 a))), (y, .v (.int .u64 (U64 b)))] [] ⟨some (.v (.int .u64 (U64 (a &&& b)))), [], []⟩ :=
  OpS.binR rfl fun w => by
    show (Op.intBits .and .u64 (U64 a) (U64 b)).run P w = _
    rw [intBits_and, and64]; rfl
theorem OpS.or_u64 {t t' : TypeId} {x y : Operand} {a b : UInt64} : OpS P G ⟨dst, .binOp .or t x y t', ty, pos, aft, gd⟩ [(x, .v (.int .u64 (U64 a))), (y, .v (.int .u64 (U64 b)))] [] ⟨some (.v (.int .u64 (U64 (a ||| b)))), [], []⟩ :=
  OpS.binR rfl fun w => by
    show (Op.intBits .or .u64 (U64 a) (U64 b)).run P w = _
    rw [intBits_or, or64]; rfl
theorem OpS.xor_u64 {t t' : TypeId} {x y : Operand} {a b : UInt64} : OpS P G ⟨dst, .binOp .xor t x y t', ty, pos, aft, gd⟩ [(x, .v (.int .u64 (U64 a))), (y, .v (.int .u64 (U64 b)))] [] ⟨some (.v (.int .u64 (U64 (a ^^^ b)))), [], []⟩ :=
  OpS.binR rfl fun w => by
    show (Op.intBits .xor .u64 (U64 a) (U64 b)).run P w = _
    rw [intBits_xor, xor64]; rfl
theorem OpS.shl_u64 {t t' : TypeId} {x y : Operand} {a : UInt64} {k' : IntKind} {m : Int} {j : Nat} (h : 0 ≤ m) (hj : m.toNat = j) : OpS P G ⟨dst, .binOp .shl t x y t', ty, pos, aft, gd⟩ [(x, .v (.int .u64 (U64 a))), (y, .v (.int k' m))] [] ⟨some (.v (.int .u64 (U64 (shl64 a j)))), [], []⟩ := by
  subst hj
  refine OpS.binR rfl fun w => ?_
  show (Op.shift .shl .u64 (U64 a) k' m).run P w = _
  rw [shl64_run a k' m h]; rfl
theorem OpS.shr_u64 {t t' : TypeId} {x y : Operand} {a : UInt64} {k' : IntKind} {m : Int} {j : Nat} (h : 0 ≤ m) (hj : m.toNat = j) : OpS P G ⟨dst, .binOp .shr t x y t', ty, pos, aft, gd⟩ [(x, .v (.int .u64 (U64 a))), (y, .v (.int k' m))] [] ⟨some (.v (.int .u64 (U64 (shr64 a j)))), [], []⟩ := by
  subst hj
  refine OpS.binR rfl fun w => ?_
  show (Op.shift .shr .u64 (U64 a) k' m).run P w = _
  rw [shr64_run a k' m h]; rfl
theorem cv_u32_u8 (x : UInt8) : Value.int .u32 (IntKind.u32.wrap (U8 x)) = .int .u32 (U32 x.toUInt32) := by rw [w_u32_u8]
theorem cv_u64_u8 (x : UInt8) : Value.int .u64 (IntKind.u64.wrap (U8 x)) = .int .u64 (U64 x.toUInt64) := by rw [w_u64_u8]
theorem cv_i64_u8 (x : UInt8) : Value.int .i64 (IntKind.i64.wrap (U8 x)) = .int .i64 (U8 x) := by rw [w_i64_u8]
theorem cv_u8_u32 (x : UInt32) : Value.int .u8 (IntKind.u8.wrap (U32 x)) = .int .u8 (U8 x.toUInt8) := by rw [w_u8_u32]
theorem cv_u8_u64 (x : UInt64) : Value.int .u8 (IntKind.u8.wrap (U64 x)) = .int .u8 (U8 x.toUInt8) := by rw [w_u8_u64]
theorem cv_u32_u64 (x : UInt64) : Value.int .u32 (IntKind.u32.wrap (U64 x)) = .int .u32 (U32 x.toUInt32) := by rw [w_u32_u64]
theorem cv_u64_u32 (x : UInt32) : Value.int .u64 (IntKind.u64.wrap (U32 x)) = .int .u64 (U64 x.toUInt64) := by rw [w_u64_u32]
theorem cv_u8_u8 (x : UInt8) : Value.int .u8 (IntKind.u8.wrap (U8 x)) = .int .u8 (U8 x) := by rw [w_u8_u8]
theorem cv_u32_u32 (x : UInt32) : Value.int .u32 (IntKind.u32.wrap (U32 x)) = .int .u32 (U32 x) := by rw [w_u32_u32]
theorem cv_u64_u64 (x : UInt64) : Value.int .u64 (IntKind.u64.wrap (U64 x)) = .int .u64 (U64 x) := by rw [w_u64_u64]
theorem cv_u64_nat (n : Nat) : Value.int .u64 (IntKind.u64.wrap (n : Int)) = .int .u64 (U64 (UInt64.ofNat n)) := by rw [w_u64_nat]
theorem cv_u32_nat (n : Nat) : Value.int .u32 (IntKind.u32.wrap (n : Int)) = .int .u32 (U32 (UInt32.ofNat n)) := by rw [w_u32_nat]
theorem cv_u8_nat (n : Nat) : Value.int .u8 (IntKind.u8.wrap (n : Int)) = .int .u8 (U8 (UInt8.ofNat n)) := by rw [w_u8_nat]
theorem cv_i64_64 (x : UInt64) (h : x.toNat < 9223372036854775808) : Value.int .i64 (IntKind.i64.wrap (U64 x)) = .int .i64 (U64 x) := by unfold U64; exact wr64 (by omega)

/-- bytes as a text -/
theorem b2s_rel {N : Nat → Nat → Prop} {ρ : Env} {w : World} {src d e : TypeId} (hs : P.underlying src = some (.slice e)) (he : P.underlying e = some (.int .u8)) (hd : P.underlying d = some .string) {o : Option Nat} {l : List UInt8} {x : Value}
    (h : VRel N ρ w (.sl o l.length (l.map fun b => .v (bv b))) x) : (convert src d x).run P w = .ok (.string (B l)) w := by
  generalize hcs : (l.map fun b => AV.v (bv b)) = cs at h
  generalize hn : l.length = n at h
  cases h with
  | sl o n cs a cap vals hc hcv ho hn' hz hm =>
    subst hcs
    subst hn
    by_cases h0 : l.length = 0
    · have hl : l = [] := List.eq_nil_of_length_eq_zero h0
      subst hl
      cases a with
      | none => exact run_b2s_nil w src d e hs he hd _ _
      | some ad => exact run_b2s w src d e hs he hd ad cap [] (fun j v hj => by simp [bvs] at hj)
    · obtain ⟨_, b, off, rfl, -⟩ := hc 0 (by simp; omega)
      refine run_b2s w src d e hs he hd _ cap l (fun j v hj => ?_)
      rw [Addr.add_mid]
      have hjl : j < l.length := by have := (List.getElem?_eq_some_iff.1 hj).1; simpa [bvs] using this
      obtain ⟨_, b', off', he', hx, _⟩ := hc j (by simpa using hjl)
      cases he'
      rw [hx]
      have hv := hcv j (.v (bv l[j])) (by simp [hjl])
      have : vals j = bv l[j] := hv.raw
      rw [this]
      simpa [bvs, hjl] using hj
theorem OpS.b2s {src d e : TypeId} {x : Operand} {o : Option Nat} {n : Nat} {l : List UInt8} (hs : P.underlying src = some (.slice e)) (he : P.underlying e = some (.int .u8)) (hd : P.underlying d = some .string) (hn : n = l.length) :
    OpS P G ⟨dst, .convert src d x, ty, pos, aft, gd⟩ [(x, .sl o n (l.map fun b => .v (bv b)))] [] ⟨some (.v (.string (B l))), [], []⟩ := by
  subst hn
  refine OpS.still fun A ρ σ a w _ h _ hst => ⟨_, ?_, .v _⟩
  exact runv (s := convert src d (a.eval x)) (b2s_rel hs he hd (hst.ev h.1))

/-- a component of several results -/
theorem OpS.extract {x : Operand} {i : Nat} {vs : List AV} {c : AV} (hc : vs[i]? = some c) : OpS P G ⟨dst, .extract x i, ty, pos, aft, gd⟩ [(x, .tup vs)] [] ⟨some c, [], []⟩ := by
  refine OpS.still fun A ρ σ a w _ h _ hs => ?_
  have hx := hs.ev h.1
  have hrun : ∀ y, VRel (Nh A σ.h ρ w) ρ w (.tup vs) y → ∃ z, (Instr.extract y i).run P w = .ok z w ∧ VRel (Nh A σ.h ρ w) ρ w c z := by
    intro y hy
    cases hy with
    | tup cs us hs h =>
      have hlt : i < us.size := by rw [hs]; exact (List.getElem?_eq_some_iff.1 hc).1
      refine ⟨us[i], ?_, h i c _ hc (Array.getElem?_eq_getElem hlt)⟩
      simp [Instr.extract, Array.getElem?_eq_getElem hlt]
  obtain ⟨z, hz, hv⟩ := hrun _ hx
  exact ⟨z, runv (s := Instr.extract (a.eval x) i) hz, hv⟩
/-- a struct's part -/
theorem OpS.field {t : TypeId} {fs : Array Field} {fd : Field} {d : TypeDesc} {x : Operand} {i : Nat} {cs : List AV} {c : AV} (hu : P.underlying t = some (.struct fs)) (hf : fs[i]? = some fd) (hd : P.underlying fd.type = some d) (hr : d.isRow = false) (hc : cs[fd.offset]? = some c) :
    OpS P G ⟨dst, .field t x i, ty, pos, aft, gd⟩ [(x, .agg cs)] [] ⟨some c, [], []⟩ := by
  refine OpS.still fun A ρ σ a w _ h _ hs => ?_
  have hx := hs.ev h.1
  have hrun : ∀ y, VRel (Nh A σ.h ρ w) ρ w (.agg cs) y → ∃ z, (Instr.field t y i).run P w = .ok z w ∧ VRel (Nh A σ.h ρ w) ρ w c z := by
    intro y hy
    cases hy with
    | agg cs us hs h =>
      have hlt : fd.offset < us.size := by rw [hs]; exact (List.getElem?_eq_some_iff.1 hc).1
      refine ⟨us[fd.offset], ?_, h _ c _ hc (Array.getElem?_eq_getElem hlt)⟩
      simp [Instr.field, run_underlying hu, hf, part, Sem.run_bind, run_isAgg hd, hr, asAgg, Array.getElem?_eq_getElem hlt]
  obtain ⟨z, hz, hv⟩ := hrun _ hx
  exact ⟨z, runv (s := Instr.field t (a.eval x) i) hz, hv⟩
theorem OpS.fieldAddr {t : TypeId} {fs : Array Field} {fd : Field} {inf : TypeInfo} {x : Operand} {i id off : Nat} (hu : P.underlying t = some (.struct fs)) (hf : fs[i]? = some fd) (hi : P.info? fd.type = some inf) (hz : (inf.size == 0) = false) :
    OpS P G ⟨dst, .fieldAddr t x i, ty, pos, aft, gd⟩ [(x, .ptr id off)] [] ⟨some (.ptr id (off + fd.offset)), [], []⟩ := by
  refine OpS.still fun A ρ σ a w _ h _ hs => ?_
  have hx := hs.ev h.1
  have hz' : ¬ inf.size = 0 := by simpa using hz
  have hrun : ∀ y, VRel (Nh A σ.h ρ w) ρ w (.ptr id off) y → ∃ z, (Instr.fieldAt t y i).run P w = .ok z w ∧ VRel (Nh A σ.h ρ w) ρ w (.ptr id (off + fd.offset)) z := by
    intro y hy
    cases hy with
    | ptr id off b hb =>
      refine ⟨.pointer (some ((⟨b, off, none⟩ : Addr).add fd.offset)), ?_, by rw [Addr.add_mid]; exact .ptr id _ b hb⟩
      simp [Instr.fieldAt, run_underlying hu, hf, Sem.run_bind, Instr.sureAddr, fieldPlace, sizeOf, typeInfo, hi, hz']
  obtain ⟨z, hz, hv⟩ := hrun _ hx
  exact ⟨z, runv (s := Instr.fieldAt t (a.eval x) i) hz, hv⟩
end

/- plain elements -/
def wA (x : UInt32) : AV := .v (.int .u32 (U32 x))
def bA (x : UInt8) : AV := .v (bv x)
def sA (x : List UInt8) : AV := .v (.string (B x))
def iA (x : Int) : AV := .v (.int .i64 x)
theorem renL_w (π : Nat → Nat) (l : List UInt32) : AV.renL π (l.map wA) = l.map wA := renL_raw π _ l
theorem renL_b (π : Nat → Nat) (l : List UInt8) : AV.renL π (l.map bA) = l.map bA := renL_raw π _ l
theorem renL_s (π : Nat → Nat) (l : List (List UInt8)) : AV.renL π (l.map sA) = l.map sA := renL_raw π _ l
theorem renL_i (π : Nat → Nat) (l : List Int) : AV.renL π (l.map iA) = l.map iA := renL_raw π _ l
theorem ren_w (π : Nat → Nat) (x : UInt32) : AV.ren π (wA x) = wA x := rfl
theorem ren_b (π : Nat → Nat) (x : UInt8) : AV.ren π (bA x) = bA x := rfl
theorem ren_s (π : Nat → Nat) (x : List UInt8) : AV.ren π (sA x) = sA x := rfl
theorem ren_i (π : Nat → Nat) (x : Int) : AV.ren π (iA x) = iA x := rfl
theorem belL_w (u : Nat → Bool) (l : List UInt32) : AV.belL u (l.map wA) := belL_raw u _ l
theorem belL_b (u : Nat → Bool) (l : List UInt8) : AV.belL u (l.map bA) := belL_raw u _ l
theorem belL_s (u : Nat → Bool) (l : List (List UInt8)) : AV.belL u (l.map sA) := belL_raw u _ l
theorem belL_i (u : Nat → Bool) (l : List Int) : AV.belL u (l.map iA) := belL_raw u _ l
theorem bel_w (u : Nat → Bool) (x : UInt32) : AV.bel u (wA x) := trivial
theorem bel_b (u : Nat → Bool) (x : UInt8) : AV.bel u (bA x) := trivial
theorem bel_s (u : Nat → Bool) (x : List UInt8) : AV.bel u (sA x) := trivial
theorem bel_i (u : Nat → Bool) (x : Int) : AV.bel u (iA x) := trivial
end Go.Proofs.YtmifllopcbjliaaDoor.E
