import Derived.Test.YtpnbpcopdckgpaaGreatDoorZ0fc50fca
import Derived.Laws.OwnMore
import Derived.Laws.Small
import Derived.Laws.Slices
namespace Go.Proofs.YtpnbpcopdckgpaaGreatDoor.E
open Go Go.RowKit V
theorem all_one {cs : List AV} {arr : Array Value} {N : Nat → Nat → Prop} {ρ : Env} {w : World} (h1 : (cs.all fun c => c.one) = true) (h : ∀ (j : Nat) (c : AV) (v : Value), cs[j]? = some c → arr[j]? = some v → VRel N ρ w c v) (j : Nat) (c : AV) (v : Value)
  (hc : cs[j]? = some c) (hv : arr[j]? = some v) : VRel N ρ w c v ∧ v.oneCell' = true :=
 ⟨h j c v hc hv, (h j c v hc hv).oneCell (List.all_eq_true.1 h1 c (List.mem_of_getElem? hc))⟩
theorem parts_rel {A : Amb} {ρ : Env} {σ : AS} {a : Act} {w : World} (hs : Sat A ρ σ a w) {ps : List (Nat × Operand)} {ys : List AV} (h : SlOk σ ((ps.map (·.2)).zip ys)) (hl : ps.length = ys.length) :
  ∀ (j : Nat) (p : Nat × AV) (q : Nat × Value), ((ps.map (·.1)).zip ys)[j]? = some p → (ps.map fun p => (p.1, a.eval p.2))[j]? = some q → VRel (Nh A σ.h ρ w) ρ w p.2 q.2 := by
 intro j p q hp hq
 rw [List.getElem?_map] at hq
 cases hj : ps[j]? with
 | none => rw [hj] at hq; cases hq
 | some r =>
  rw [hj] at hq
  cases hq
  have hjl : j < ys.length := by rw [← hl]; exact (List.getElem?_eq_some_iff.1 hj).1
  rw [List.getElem?_zip_eq_some] at hp
  exact ev_ops hs h j r.2 p.2 (by rw [List.getElem?_map, hj]; rfl) hp.2
def placesOf (P : Program) (fs : Array Field) : Nat → Option (Nat × Nat) := fun i => (fs[i]?).map fun f => (f.offset, ((P.info? f.type).map (·.size)).getD 0)
section
variable {P : Program} {G : List (Nat × Array Value)} {dst : Option Tmp} {ty : TypeId} {pos : String} {aft : Array Edge} {gd : Option (Nat × Bool)}
theorem run_places (fs : Array Field) (w : World) (h : ∀ f ∈ fs.toList, (P.info? f.type).isSome = true) :
  (fs.mapM fun f => (do pure (f.offset, ← sizeOf f.type) : Sem (Nat × Nat))).run P w = .ok (fs.map fun f => (f.offset, ((P.info? f.type).map (·.size)).getD 0)) w := by
 have key : ∀ l : List Field, (∀ f ∈ l, (P.info? f.type).isSome = true) → (List.mapM (m := Sem) (fun f : Field => (do pure (f.offset, ← sizeOf f.type) : Sem (Nat × Nat))) l).run P w = .ok (l.map fun f => (f.offset, ((P.info? f.type).map (·.size)).getD 0)) w := by
  intro l
  induction l with
  | nil => intro _; rfl
  | cons f l ih =>
   intro hl
   obtain ⟨i, hi⟩ := Option.isSome_iff_exists.1 (hl f (by simp))
   rw [List.mapM_cons, Sem.run_bind]
   have h1 : ((do pure (f.offset, ← sizeOf f.type) : Sem (Nat × Nat))).run P w = .ok (f.offset, i.size) w := by
    simp [sizeOf, typeInfo, hi, Sem.run_bind, Sem.run_pure, Result.andThen_ok]
   rw [h1, Result.andThen_ok, Sem.run_bind, ih (fun f hf => hl f (by simp [hf])), Result.andThen_ok]
   simp [hi, Sem.run_pure]
 cases fs with
 | mk l =>
  have hk := key l (by simpa using h)
  rw [show (⟨l⟩ : Array Field) = l.toArray from rfl, List.mapM_toArray]
  rw [show ∀ m : Sem (List (Nat × Nat)), (List.toArray <$> m) = (m >>= fun x => pure x.toArray) from fun _ => rfl, Sem.run_bind, hk, Result.andThen_ok]
  simp [Sem.run_pure]
theorem OpS.build {T : TypeId} {fs : Array Field} {inf : TypeInfo} {z : Value} {ps : List (Nat × Operand)} {ys cs : List AV} (hu : P.underlying T = some (.struct fs)) (hi : P.info? T = some inf) (hz : inf.zero = some z) (hfs : (fs.toList.all fun f => (P.info? f.type).isSome) = true)
  (hl : ps.length = ys.length) (hf : fillA (placesOf P fs) (z.cells.toList.map .v) ((ps.map (·.1)).zip ys) = some cs) :
  OpS P G ⟨dst, .build T ps.toArray, ty, pos, aft, gd⟩ ((ps.map (·.2)).zip ys) [] ⟨some (.agg cs), [], []⟩ := by
 refine OpS.still fun A ρ σ a w _ h _ hs => ?_
 obtain ⟨arr', h1, h2, h3⟩ := fill_rel (N := Nh A σ.h ρ w) (ρ := ρ) (w := w) ((ps.map (·.1)).zip ys) (ps.map fun p => (p.1, a.eval p.2)) _ cs z.cells hf
  (by rw [List.map_fst_zip (by simp [hl])]; simp) (parts_rel hs h hl) (by simp) (fun j c v hc hv => by
   rw [List.getElem?_map, Array.getElem?_toList, hv] at hc
   cases hc
   exact .v _)
 refine ⟨.agg arr', ?_, .agg cs arr' h2 h3⟩
 show (do pure (Next.value (← Instr.build T (ps.toArray.map fun (i, x) => (i, a.eval x)))) : Sem Next).run P w = _
 refine runv ?_
 have hpl : (fun i => (fs.map fun f => (f.offset, ((P.info? f.type).map (·.size)).getD 0))[i]?) = placesOf P fs := by funext i; simp [placesOf]
 simp only [Instr.build, Sem.run_bind, zeroValue, typeInfo, hi, hz, run_underlying hu, Sem.run_pure, Result.andThen_ok, run_program]
 simp only [run_places fs w (fun f hf => List.all_eq_true.1 hfs f hf), Result.andThen_ok, hpl]
 simp only [List.map_toArray, h1]
 rfl
def zl (z : Value) (k : Nat) : List Value := (List.range k).map fun i => z.cells[i % z.cells.size]!
theorem run_buildSlice {t E : TypeId} {inf : TypeInfo} {z : Value} {n : Nat} {vs : Array (Nat × Value)} {arr' : Array Value} (hu : P.underlying t = some (.slice E)) (hi : P.info? E = some inf) (hz : inf.zero = some z) (h0 : 0 < n * inf.size) (hn : n * inf.size ≤ 65536)
  (hf : Instr.fill (fun i => some (i * inf.size, inf.size)) (zl z (n * inf.size)).toArray vs.toList = some arr') (w : World) :
  (Instr.buildSlice t n vs).run P w = .ok (.slice (some ⟨w.heap.size, 0, none⟩) n n) (w.alloc (.cells arr' E)) := by
 have h1 : ¬ n * inf.size > 2 ^ 24 := by omega
 have h2 : ¬ n * inf.size = 0 := by omega
 have hzz : (Array.range (n * inf.size)).map (fun x => z.cells[x % z.cells.size]!) = (zl z (n * inf.size)).toArray := by rw [← Array.toList_inj]; simp [zl, Array.toList_range]
 simp only [Instr.buildSlice, Sem.run_bind, run_underlying hu, Result.andThen_ok, sizeOf, typeInfo, hi, Sem.run_pure, h1, h2, if_false, zeroValue, hz, run_program, hzz, hf]
 simp [newRow, Sem.run_bind, Sem.run_pure, Result.andThen_ok]
theorem OpS.buildSlice {t E : TypeId} {inf : TypeInfo} {z : Value} {n sz : Nat} {ps : List (Nat × Operand)} {ys cs : List AV} (hu : P.underlying t = some (.slice E)) (hi : P.info? E = some inf) (hz : inf.zero = some z) (hsz : inf.size = sz) (h0 : 0 < n * sz) (hn : n * sz ≤ 65536)
  (hl : ps.length = ys.length) (hf : fillA (fun i => some (i * sz, sz)) ((zl z (n * sz)).map .v) ((ps.map (·.1)).zip ys) = some cs) (h1 : (cs.all fun c => c.one) = true) (hm : n ≤ maxLen) :
  OpS P G ⟨dst, .buildSlice t n ps.toArray, ty, pos, aft, gd⟩ ((ps.map (·.2)).zip ys) [] ⟨some (.sl none n cs), [], []⟩ := by
 subst hsz
 refine OpS.act fun A ρ σ a w _ h _ _ hs => ?_
 obtain ⟨arr', k1, k2, k3⟩ := fill_rel (N := Nh A σ.h ρ w) (ρ := ρ) (w := w) ((ps.map (·.1)).zip ys) (ps.map fun p => (p.1, a.eval p.2)) _ cs (zl z (n * inf.size)).toArray hf
  (by rw [List.map_fst_zip (by simp [hl])]; simp) (parts_rel hs h hl) (by simp) (fun j c v hc hv => by
   rw [List.getElem?_toArray] at hv
   rw [List.getElem?_map, hv] at hc
   cases hc
   exact .v _)
 obtain ⟨m1, m2, m3⟩ := new_slice (w' := w.alloc (.cells arr' E)) hs.mem rfl rfl rfl (by simp) (fun k hk => Below.heap_alloc w _ k hk) (heap_alloc_new w _) (cs := cs) (n := n) (cap := n) (by rw [k2]; exact Nat.le_refl _) (Nat.le_refl _) hm (all_one h1 k3)
 refine ⟨_, w.alloc (.cells arr' E), ρ, .inl ?_, m1, m2, fun v hv => by cases hv; exact m3⟩
 show (do pure (Next.value (← Instr.buildSlice t n (ps.toArray.map fun (i, x) => (i, a.eval x)))) : Sem Next).run P w = _
 refine runv ?_
 refine run_buildSlice hu hi hz h0 hn ?_ w
 simpa using k1
theorem OpS.buildSliceT {t E : TypeId} {inf : TypeInfo} {z : Value} {n sz : Nat} {ps : List (Nat × Operand)} {ys cs : List AV} (id : Nat) (hu : P.underlying t = some (.slice E)) (hi : P.info? E = some inf) (hz : inf.zero = some z) (hsz : inf.size = sz) (h0 : 0 < n * sz) (hn : n * sz ≤ 65536)
  (hl : ps.length = ys.length) (hf : fillA (fun i => some (i * sz, sz)) ((zl z (n * sz)).map .v) ((ps.map (·.1)).zip ys) = some cs) (h1 : (cs.all fun c => c.one) = true) (hm : n ≤ maxLen) (hcl : cs.length = n * sz) :
  OpS P G ⟨dst, .buildSlice t n ps.toArray, ty, pos, aft, gd⟩ ((ps.map (·.2)).zip ys) [] ⟨some (.sl (some id) n cs), [(id, some (.tip E sz n))], [id]⟩ := by
 subst hsz
 refine OpS.act fun A ρ σ a w _ h _ hnu hs => ?_
 obtain ⟨arr', k1, k2, k3⟩ := fill_rel (N := Nh A σ.h ρ w) (ρ := ρ) (w := w) ((ps.map (·.1)).zip ys) (ps.map fun p => (p.1, a.eval p.2)) _ cs (zl z (n * inf.size)).toArray hf
  (by rw [List.map_fst_zip (by simp [hl])]; simp) (parts_rel hs h hl) (by simp) (fun j c v hc hv => by
   rw [List.getElem?_toArray] at hv
   rw [List.getElem?_map, hv] at hc
   cases hc
   exact .v _)
 let ρ' : Env := ⟨ρ.blk, upd ρ.tip id (some (.slice (some ⟨w.heap.size, 0, none⟩) n n))⟩
 have hid : ρ'.tip id = some (.slice (some ⟨w.heap.size, 0, none⟩) n n) := upd_same _ _ _
 obtain ⟨m1, m2⟩ := hs.mem.extend (ρ' := ρ') (ob := .tip E inf.size n) (w' := w.alloc (.cells arr' E)) hnu.1 (fun i hi => ⟨rfl, upd_ne _ _ hi⟩) rfl rfl rfl (by simp) (fun k hk => Below.heap_alloc w _ k hk)
  (fun b ⟨cap, hb⟩ => by rw [hid] at hb; cases hb; exact Nat.le_refl _) (fun _ => .inr ⟨w.heap.size, n, arr', hid, heap_alloc_new w _, Nat.le_refl _, hm, by rw [k2, hcl]⟩)
 refine ⟨_, w.alloc (.cells arr' E), ρ', .inl ?_, m1, m2, fun v hv => by
  cases hv
  refine .sl _ _ _ _ n (fun i => arr'.getD i undef) (fun i hi => ?_) (fun i c hi => ?_) (fun k hk => by cases hk; exact hid) (Nat.le_refl _) (fun h => by cases h) hm
  ·
   have hlt : i < arr'.size := by omega
   have hv := all_one h1 k3 i _ arr'[i] (List.getElem?_eq_getElem hi) (Array.getElem?_eq_getElem hlt)
   have hgd : arr'.getD i undef = arr'[i] := by simp [Array.getD_eq_getD_getElem?, hlt]
   refine ⟨by rw [hgd]; exact hv.2, w.heap.size, 0, rfl, ?_, by simp, .inr (.inr hs.mem.size), fun k ob hk hw => ?_⟩
   ·
    rw [cell_of_row _ w.heap.size (0 + i) arr' E (0, 0) (heap_alloc_new w _), Nat.zero_add, hgd]
    exact Array.getElem?_eq_getElem hlt
   rcases upd_eq_some hk with ⟨rfl, he⟩ | ⟨hne, he⟩
   ·
    cases he
    obtain ⟨cap, _, hoo⟩ := hw
    omega
   have hle : ρ.le ρ' := ⟨fun _ _ h => h, fun i v hv => by
    have : i ≠ id := fun e => by subst e; have := hs.mem.usedT i v hv; rw [hnu.1] at this; cases this
    rw [show ρ'.tip i = ρ.tip i from upd_ne _ _ this]; exact hv⟩
   have := (hs.mem.heap k ob he).lt (AO.at_of_wr ((hs.mem.heap k ob he).wr_back hle hw))
   omega
  have hi' := (List.getElem?_eq_some_iff.1 hi).1
  have hlt : i < arr'.size := by omega
  have hgd : arr'.getD i undef = arr'[i] := by simp [Array.getD_eq_getD_getElem?, hlt]
  rw [hgd]
  exact m2 _ _ (k3 i c _ hi (Array.getElem?_eq_getElem hlt))⟩
 show (do pure (Next.value (← Instr.buildSlice t n (ps.toArray.map fun (i, x) => (i, a.eval x)))) : Sem Next).run P w = _
 refine runv ?_
 refine run_buildSlice hu hi hz h0 hn ?_ w
 simpa using k1
theorem fillA_id : ∀ (ys : List AV) (k : Nat) (pre init : List AV), (ys.all fun y => (match cellsA y with | [_] => true | _ => false) && y.one) = true → pre.length = k → init.length = ys.length →
  fillA (fun i => some (i * 1, 1)) (pre ++ init) ((List.range' k ys.length).zip ys) = some (pre ++ ys)
 | [], k, pre, init, _, _, hi => by
  have : init = [] := List.eq_nil_of_length_eq_zero hi
  subst this
  simp [fillA]
 | y :: ys, k, pre, init, h, hp, hi => by
  simp only [List.all_cons, Bool.and_eq_true] at h
  have hc : cellsA y = [y] := by
   cases y with
   | v x => cases x <;> first | rfl | (exact absurd h.1.2 (by simp [AV.one, Value.oneCell']))
   | agg cs => exact absurd h.1.2 (by simp [AV.one])
   | _ => rfl
  cases init with
  | nil => simp at hi
  | cons z init =>
   rw [List.length_cons, List.range'_succ, List.zip_cons_cons]
   simp only [fillA, hc]
   have hb : (Nat.beq [y].length 1 && Nat.ble (k * 1 + [y].length) (pre ++ z :: init).length) = true := by
    simp only [Bool.and_eq_true, Nat.beq_eq, Nat.ble_eq]
    simp; omega
   rw [hb]
   simp only [cond_true]
   have hs : splice (pre ++ z :: init) (k * 1) [y] = (pre ++ [y]) ++ init := by
    unfold splice
    rw [Nat.mul_one, ← hp]
    simp
   rw [hs, fillA_id ys (k + 1) (pre ++ [y]) init h.2 (by simp [hp]) (by simpa using hi)]
   simp
theorem OpS.slice1 {t E : TypeId} {inf : TypeInfo} {z : Value} {n : Nat} {ps : List (Nat × Operand)} {ys : List AV} (hu : P.underlying t = some (.slice E)) (hi : P.info? E = some inf) (hz : inf.zero = some z) (hsz : inf.size = 1) (h0 : Nat.blt 0 n = true) (hn : Nat.ble n 65536 = true)
  (hl : Nat.beq ys.length n = true) (hps : ps.map (·.1) = List.range' 0 n) (h1 : (ys.all fun y => (match cellsA y with | [_] => true | _ => false) && y.one) = true) :
  OpS P G ⟨dst, .buildSlice t n ps.toArray, ty, pos, aft, gd⟩ ((ps.map (·.2)).zip ys) [] ⟨some (.sl none n ys), [], []⟩ := by
 rw [Nat.beq_eq] at hl
 rw [Nat.blt_eq] at h0
 rw [Nat.ble_eq] at hn
 have hpl : ps.length = n := by have := congrArg List.length hps; simpa using this
 refine OpS.buildSlice hu hi hz hsz (by omega) (by omega) (by omega) ?_ ?_ (by unfold maxLen; omega)
 ·
  have := fillA_id ys 0 [] ((zl z (n * 1)).map .v) h1 rfl (by simp [zl, hl])
  rw [hps, ← hl]
  rw [← hl] at this
  simpa using this
 rw [List.all_eq_true] at h1 ⊢
 intro y hy
 have := h1 y hy
 simp only [Bool.and_eq_true] at this
 exact this.2
theorem OpS.slice1T {t E : TypeId} {inf : TypeInfo} {z : Value} {n : Nat} {ps : List (Nat × Operand)} {ys : List AV} (id : Nat) (hu : P.underlying t = some (.slice E)) (hi : P.info? E = some inf) (hz : inf.zero = some z) (hsz : inf.size = 1) (h0 : Nat.blt 0 n = true) (hn : Nat.ble n 65536 = true)
  (hl : Nat.beq ys.length n = true) (hps : ps.map (·.1) = List.range' 0 n) (h1 : (ys.all fun y => (match cellsA y with | [_] => true | _ => false) && y.one) = true) :
  OpS P G ⟨dst, .buildSlice t n ps.toArray, ty, pos, aft, gd⟩ ((ps.map (·.2)).zip ys) [] ⟨some (.sl (some id) n ys), [(id, some (.tip E 1 n))], [id]⟩ := by
 rw [Nat.beq_eq] at hl
 rw [Nat.blt_eq] at h0
 rw [Nat.ble_eq] at hn
 have hpl : ps.length = n := by have := congrArg List.length hps; simpa using this
 refine OpS.buildSliceT id hu hi hz hsz (by omega) (by omega) (by omega) ?_ ?_ (by unfold maxLen; omega) (by omega)
 ·
  have := fillA_id ys 0 [] ((zl z (n * 1)).map .v) h1 rfl (by simp [zl, hl])
  rw [hps, ← hl]
  rw [← hl] at this
  simpa using this
 rw [List.all_eq_true] at h1 ⊢
 intro y hy
 have := h1 y hy
 simp only [Bool.and_eq_true] at this
 exact this.2
def noEq : BinOp → Bool
 | .eql | .neq => false
 | _ => true
theorem OpS.binR {op : BinOp} {t t' : TypeId} {x y : Operand} {vx vy v : Value} (hg : noEq op = true) (h : ∀ w, (binOp op t vx vy).run P w = .ok v w) :
  OpS P G ⟨dst, .binOp op t x y t', ty, pos, aft, gd⟩ [(x, .v vx), (y, .v vy)] [] ⟨some (.v v), [], []⟩ := by
 refine OpS.raw2 fun a' w hx hy => ?_
 show (do pure (Next.value (← (do eqGuard op t x y (a'.eval x) (a'.eval y); binOp op t (a'.eval x) (a'.eval y)))) : Sem Next).run P w = _
 refine runv ?_
 rw [hx, hy, Sem.run_bind]
 have : (eqGuard op t x y vx vy).run P w = .ok () w := by cases op <;> first | rfl | cases hg
 rw [this, Result.andThen_ok]
 exact h w
theorem OpS.unR {op : UnOp} {t : TypeId} {x : Operand} {vx v : Value} (h : ∀ w, (Op.unary op vx).run P w = .ok v w) : OpS P G ⟨dst, .unOp op t x, ty, pos, aft, gd⟩ [(x, .v vx)] [] ⟨some (.v v), [], []⟩ := by
 refine OpS.raw1 fun a' w hx => ?_
 show (do pure (Next.value (← (Op.unary op (a'.eval x)))) : Sem Next).run P w = _
 refine runv ?_
 rw [hx]
 exact h w
theorem OpS.add_u32 {t t' : TypeId} {x y : Operand} {a b : UInt32} : OpS P G ⟨dst, .binOp .add t x y t', ty, pos, aft, gd⟩ [(x, .v (.int .u32 (U32 a))), (y, .v (.int .u32 (U32 b)))] [] ⟨some (.v (.int .u32 (U32 (a + b)))), [], []⟩ :=
 OpS.binR rfl fun w => by
  show (Op.intArith .add .u32 (U32 a) (U32 b)).run P w = _
  rw [add32]; rfl
theorem OpS.and_u32 {t t' : TypeId} {x y : Operand} {a b : UInt32} : OpS P G ⟨dst, .binOp .and t x y t', ty, pos, aft, gd⟩ [(x, .v (.int .u32 (U32 a))), (y, .v (.int .u32 (U32 b)))] [] ⟨some (.v (.int .u32 (U32 (a &&& b)))), [], []⟩ :=
 OpS.binR rfl fun w => by
  show (Op.intBits .and .u32 (U32 a) (U32 b)).run P w = _
  rw [intBits_and, and32]; rfl
theorem OpS.or_u32 {t t' : TypeId} {x y : Operand} {a b : UInt32} : OpS P G ⟨dst, .binOp .or t x y t', ty, pos, aft, gd⟩ [(x, .v (.int .u32 (U32 a))), (y, .v (.int .u32 (U32 b)))] [] ⟨some (.v (.int .u32 (U32 (a ||| b)))), [], []⟩ :=
 OpS.binR rfl fun w => by
  show (Op.intBits .or .u32 (U32 a) (U32 b)).run P w = _
  rw [intBits_or, or32]; rfl
theorem OpS.xor_u32 {t t' : TypeId} {x y : Operand} {a b : UInt32} : OpS P G ⟨dst, .binOp .xor t x y t', ty, pos, aft, gd⟩ [(x, .v (.int .u32 (U32 a))), (y, .v (.int .u32 (U32 b)))] [] ⟨some (.v (.int .u32 (U32 (a ^^^ b)))), [], []⟩ :=
 OpS.binR rfl fun w => by
  show (Op.intBits .xor .u32 (U32 a) (U32 b)).run P w = _
  rw [intBits_xor, xor32]; rfl
theorem OpS.shl_u32 {t t' : TypeId} {x y : Operand} {a : UInt32} {k' : IntKind} {m : Int} {j : Nat} (h : 0 ≤ m) (hj : m.toNat = j) : OpS P G ⟨dst, .binOp .shl t x y t', ty, pos, aft, gd⟩ [(x, .v (.int .u32 (U32 a))), (y, .v (.int k' m))] [] ⟨some (.v (.int .u32 (U32 (shl32 a j)))), [], []⟩ := by
 subst hj
 refine OpS.binR rfl fun w => ?_
 show (Op.shift .shl .u32 (U32 a) k' m).run P w = _
 rw [shl32_run a k' m h]; rfl
theorem OpS.shr_u32 {t t' : TypeId} {x y : Operand} {a : UInt32} {k' : IntKind} {m : Int} {j : Nat} (h : 0 ≤ m) (hj : m.toNat = j) : OpS P G ⟨dst, .binOp .shr t x y t', ty, pos, aft, gd⟩ [(x, .v (.int .u32 (U32 a))), (y, .v (.int k' m))] [] ⟨some (.v (.int .u32 (U32 (shr32 a j)))), [], []⟩ := by
 subst hj
 refine OpS.binR rfl fun w => ?_
 show (Op.shift .shr .u32 (U32 a) k' m).run P w = _
 rw [shr32_run a k' m h]; rfl
theorem OpS.add_u64 {t t' : TypeId} {x y : Operand} {a b : UInt64} : OpS P G ⟨dst, .binOp .add t x y t', ty, pos, aft, gd⟩ [(x, .v (.int .u64 (U64 a))), (y, .v (.int .u64 (U64 b)))] [] ⟨some (.v (.int .u64 (U64 (a + b)))), [], []⟩ :=
 OpS.binR rfl fun w => by
  show (Op.intArith .add .u64 (U64 a) (U64 b)).run P w = _
  rw [add64]; rfl
theorem OpS.and_u64 {t t' : TypeId} {x y : Operand} {a b : UInt64} : OpS P G ⟨dst, .binOp .and t x y t', ty, pos, aft, gd⟩ [(x, .v (.int .u64 (U64 a))), (y, .v (.int .u64 (U64 b)))] [] ⟨some (.v (.int .u64 (U64 (a &&& b)))), [], []⟩ :=
 OpS.binR rfl fun w => by
  show (Op.intBits .and .u64 (U64 a) (U64 b)).run P w = _
  rw [intBits_and, and64]; rfl
theorem OpS.or_u64 {t t' : TypeId} {x y : Operand} {a b : UInt64} : OpS P G ⟨dst, .binOp .or t x y t', ty, pos, aft, gd⟩ [(x, .v (.int .u64 (U64 a))), (y, .v (.int .u64 (U64 b)))] [] ⟨some (.v (.int .u64 (U64 (a ||| b)))), [], []⟩ :=
 OpS.binR rfl fun w => by
  show (Op.intBits .or .u64 (U64 a) (U64 b)).run P w = _
  rw [intBits_or, or64]; rfl
theorem OpS.shl_u64 {t t' : TypeId} {x y : Operand} {a : UInt64} {k' : IntKind} {m : Int} {j : Nat} (h : 0 ≤ m) (hj : m.toNat = j) : OpS P G ⟨dst, .binOp .shl t x y t', ty, pos, aft, gd⟩ [(x, .v (.int .u64 (U64 a))), (y, .v (.int k' m))] [] ⟨some (.v (.int .u64 (U64 (shl64 a j)))), [], []⟩ := by
 subst hj
 refine OpS.binR rfl fun w => ?_
 show (Op.shift .shl .u64 (U64 a) k' m).run P w = _
 rw [shl64_run a k' m h]; rfl
theorem OpS.shr_u64 {t t' : TypeId} {x y : Operand} {a : UInt64} {k' : IntKind} {m : Int} {j : Nat} (h : 0 ≤ m) (hj : m.toNat = j) : OpS P G ⟨dst, .binOp .shr t x y t', ty, pos, aft, gd⟩ [(x, .v (.int .u64 (U64 a))), (y, .v (.int k' m))] [] ⟨some (.v (.int .u64 (U64 (shr64 a j)))), [], []⟩ := by
 subst hj
 refine OpS.binR rfl fun w => ?_
 show (Op.shift .shr .u64 (U64 a) k' m).run P w = _
 rw [shr64_run a k' m h]; rfl
theorem cv_u32_u8 (x : UInt8) : Value.int .u32 (IntKind.u32.wrap (U8 x)) = .int .u32 (U32 x.toUInt32) := by rw [w_u32_u8]
theorem cv_u64_u8 (x : UInt8) : Value.int .u64 (IntKind.u64.wrap (U8 x)) = .int .u64 (U64 x.toUInt64) := by rw [w_u64_u8]
theorem cv_i64_u8 (x : UInt8) : Value.int .i64 (IntKind.i64.wrap (U8 x)) = .int .i64 (U8 x) := by rw [w_i64_u8]
theorem cv_u8_u32 (x : UInt32) : Value.int .u8 (IntKind.u8.wrap (U32 x)) = .int .u8 (U8 x.toUInt8) := by rw [w_u8_u32]
theorem cv_u8_u64 (x : UInt64) : Value.int .u8 (IntKind.u8.wrap (U64 x)) = .int .u8 (U8 x.toUInt8) := by rw [w_u8_u64]
theorem cv_u64_nat (n : Nat) : Value.int .u64 (IntKind.u64.wrap (n : Int)) = .int .u64 (U64 (UInt64.ofNat n)) := by rw [w_u64_nat]
theorem cv_u8_nat (n : Nat) : Value.int .u8 (IntKind.u8.wrap (n : Int)) = .int .u8 (U8 (UInt8.ofNat n)) := by rw [w_u8_nat]
theorem cv_i64_64 (x : UInt64) (h : x.toNat < 9223372036854775808) : Value.int .i64 (IntKind.i64.wrap (U64 x)) = .int .i64 (U64 x) := by unfold U64; exact wr64 (by omega)
theorem b2s_rel {N : Nat → Nat → Prop} {ρ : Env} {w : World} {src d e : TypeId} (hs : P.underlying src = some (.slice e)) (he : P.underlying e = some (.int .u8)) (hd : P.underlying d = some .string) {o : Option Nat} {l : List UInt8} {x : Value}
  (h : VRel N ρ w (.sl o l.length (l.map fun b => .v (bv b))) x) : (convert src d x).run P w = .ok (.string (B l)) w := by
 generalize hcs : (l.map fun b => AV.v (bv b)) = cs at h
 generalize hn : l.length = n at h
 cases h with
 | sl o n cs a cap vals hc hcv ho hn' hz hm =>
  subst hcs
  subst hn
  by_cases h0 : l.length = 0
  ·
   have hl : l = [] := List.eq_nil_of_length_eq_zero h0
   subst hl
   cases a with
   | none => exact run_b2s_nil w src d e hs he hd _ _
   | some ad => exact run_b2s w src d e hs he hd ad cap [] (fun j v hj => by simp [bvs] at hj)
  obtain ⟨_, b, off, rfl, -⟩ := hc 0 (by simp; omega)
  refine run_b2s w src d e hs he hd _ cap l (fun j v hj => ?_)
  rw [Addr.add_mid]
  have hjl : j < l.length := by have := (List.getElem?_eq_some_iff.1 hj).1; simpa [bvs] using this
  obtain ⟨_, b', off', he', hx, _⟩ := hc j (by simpa using hjl)
  cases he'
  rw [hx]
  have hv := hcv j (.v (bv l[j])) (by simp [hjl])
  have : vals j = bv l[j] := hv.raw
  rw [this]
  simpa [bvs, hjl] using hj
theorem OpS.b2s {src d e : TypeId} {x : Operand} {o : Option Nat} {n : Nat} {l : List UInt8} (hs : P.underlying src = some (.slice e)) (he : P.underlying e = some (.int .u8)) (hd : P.underlying d = some .string) (hn : n = l.length) :
  OpS P G ⟨dst, .convert src d x, ty, pos, aft, gd⟩ [(x, .sl o n (l.map fun b => .v (bv b)))] [] ⟨some (.v (.string (B l))), [], []⟩ := by
 subst hn
 refine OpS.still fun A ρ σ a w _ h _ hst => ⟨_, ?_, .v _⟩
 exact runv (s := convert src d (a.eval x)) (b2s_rel hs he hd (hst.ev h.1))
theorem OpS.extract {x : Operand} {i : Nat} {vs : List AV} {c : AV} (hc : vs[i]? = some c) : OpS P G ⟨dst, .extract x i, ty, pos, aft, gd⟩ [(x, .tup vs)] [] ⟨some c, [], []⟩ := by
 refine OpS.still fun A ρ σ a w _ h _ hs => ?_
 have hx := hs.ev h.1
 have hrun : ∀ y, VRel (Nh A σ.h ρ w) ρ w (.tup vs) y → ∃ z, (Instr.extract y i).run P w = .ok z w ∧ VRel (Nh A σ.h ρ w) ρ w c z := by
  intro y hy
  cases hy with
  | tup cs us hs h =>
   have hlt : i < us.size := by rw [hs]; exact (List.getElem?_eq_some_iff.1 hc).1
   refine ⟨us[i], ?_, h i c _ hc (Array.getElem?_eq_getElem hlt)⟩
   simp [Instr.extract, Array.getElem?_eq_getElem hlt]
 obtain ⟨z, hz, hv⟩ := hrun _ hx
 exact ⟨z, runv (s := Instr.extract (a.eval x) i) hz, hv⟩
theorem OpS.fieldAddr {t : TypeId} {fs : Array Field} {fd : Field} {inf : TypeInfo} {x : Operand} {i id off : Nat} (hu : P.underlying t = some (.struct fs)) (hf : fs[i]? = some fd) (hi : P.info? fd.type = some inf) (hz : (inf.size == 0) = false) :
  OpS P G ⟨dst, .fieldAddr t x i, ty, pos, aft, gd⟩ [(x, .ptr id off)] [] ⟨some (.ptr id (off + fd.offset)), [], []⟩ := by
 refine OpS.still fun A ρ σ a w _ h _ hs => ?_
 have hx := hs.ev h.1
 have hz' : ¬ inf.size = 0 := by simpa using hz
 have hrun : ∀ y, VRel (Nh A σ.h ρ w) ρ w (.ptr id off) y → ∃ z, (Instr.fieldAt t y i).run P w = .ok z w ∧ VRel (Nh A σ.h ρ w) ρ w (.ptr id (off + fd.offset)) z := by
  intro y hy
  cases hy with
  | ptr id off b hb =>
   refine ⟨.pointer (some ((⟨b, off, none⟩ : Addr).add fd.offset)), ?_, by rw [Addr.add_mid]; exact .ptr id _ b hb⟩
   simp [Instr.fieldAt, run_underlying hu, hf, Sem.run_bind, Instr.sureAddr, fieldPlace, sizeOf, typeInfo, hi, hz']
 obtain ⟨z, hz, hv⟩ := hrun _ hx
 exact ⟨z, runv (s := Instr.fieldAt t (a.eval x) i) hz, hv⟩
end
def wA (x : UInt32) : AV := .v (.int .u32 (U32 x))
def bA (x : UInt8) : AV := .v (bv x)
def sA (x : List UInt8) : AV := .v (.string (B x))
def iA (x : Int) : AV := .v (.int .i64 x)
theorem renL_w (π : Nat → Nat) (l : List UInt32) : AV.renL π (l.map wA) = l.map wA := renL_raw π _ l
theorem renL_b (π : Nat → Nat) (l : List UInt8) : AV.renL π (l.map bA) = l.map bA := renL_raw π _ l
theorem renL_s (π : Nat → Nat) (l : List (List UInt8)) : AV.renL π (l.map sA) = l.map sA := renL_raw π _ l
theorem renL_i (π : Nat → Nat) (l : List Int) : AV.renL π (l.map iA) = l.map iA := renL_raw π _ l
theorem ren_w (π : Nat → Nat) (x : UInt32) : AV.ren π (wA x) = wA x := rfl
theorem ren_b (π : Nat → Nat) (x : UInt8) : AV.ren π (bA x) = bA x := rfl
theorem ren_s (π : Nat → Nat) (x : List UInt8) : AV.ren π (sA x) = sA x := rfl
theorem ren_i (π : Nat → Nat) (x : Int) : AV.ren π (iA x) = iA x := rfl
theorem belL_w (u : Nat → Bool) (l : List UInt32) : AV.belL u (l.map wA) := belL_raw u _ l
theorem belL_b (u : Nat → Bool) (l : List UInt8) : AV.belL u (l.map bA) := belL_raw u _ l
theorem belL_s (u : Nat → Bool) (l : List (List UInt8)) : AV.belL u (l.map sA) := belL_raw u _ l
theorem belL_i (u : Nat → Bool) (l : List Int) : AV.belL u (l.map iA) := belL_raw u _ l
theorem bel_w (u : Nat → Bool) (x : UInt32) : AV.bel u (wA x) := trivial
theorem bel_b (u : Nat → Bool) (x : UInt8) : AV.bel u (bA x) := trivial
theorem bel_s (u : Nat → Bool) (x : List UInt8) : AV.bel u (sA x) := trivial
theorem bel_i (u : Nat → Bool) (x : Int) : AV.bel u (iA x) := trivial
end Go.Proofs.YtpnbpcopdckgpaaGreatDoor.E
section
namespace Go.Proofs.YtpnbpcopdckgpaaGreatDoor.E
open Go Go.RowKit Go.Proofs.YtpnbpcopdckgpaaGreatDoor.V
theorem AV.wk.sh {π : Nat → Nat} {o : Option Nat} {n : Nat} {cs cs' : List AV} (h : AV.renL π cs' = cs) : AV.wk (.sl o n cs) (AV.ren π (.sl none n cs')) := by
 subst h
 exact .untip _ _ _
theorem tnLit (a n : Nat) : ((a : Int) - @OfNat.ofNat Int n instOfNat).toNat = a - n := by
 show ((a : Int) - (n : Int)).toNat = _
 omega
theorem tnLitA (a n : Nat) : ((a : Int) + @OfNat.ofNat Int n instOfNat).toNat = a + n := by
 show ((a : Int) + (n : Int)).toNat = _
 omega
section
variable {P : Program} {G : List (Nat × Array Value)} {l r : List Oper} {ds : List St} {K : AS → Prop} {n : Nat} {s : Nat → Option AV} {h : Nat → Option AO} {u : Nat → Bool} {d : Tmp} {op : Op} {ty : TypeId} {pos : String} {aft : Array Edge} {gd : Option (Nat × Bool)}
 {sl : List (Operand × AV)} {hp : List (Nat × AO)} {dst : Option Tmp} {σ : AS}
theorem gdN {d : Option Tmp} : GdOk l.toArray ⟨d, op, ty, pos, aft, none⟩ σ true := rfl
theorem gdT {d : Option Tmp} {j t : Nat} {c : Bool} (hj : (l[j]?).bind (·.dst) = some t) (hs : σ.s t = some (.v (.bool c))) : GdOk l.toArray ⟨d, op, ty, pos, aft, some (j, c)⟩ σ true :=
 ⟨t, .bool c, by simpa using hj, hs, by simp [boolV]⟩
theorem gdF {d : Option Tmp} {j t : Nat} {c x : Bool} (hj : (l[j]?).bind (·.dst) = some t) (hs : σ.s t = some (.v (.bool x))) (hc : (x == c) = false) : GdOk l.toArray ⟨d, op, ty, pos, aft, some (j, c)⟩ σ false :=
 ⟨t, .bool x, by simpa using hj, hs, by cases x <;> cases c <;> first | rfl | cases hc⟩
structure Ch (P : Program) (G : List (Nat × Array Value)) (l : List Oper) (D : Bool) (K : AS → Prop) (acc : List St) (r : List Oper) (σ : AS) : Prop where
 e : ∃ ds, Chain P G l.toArray K r ds σ ∧ (D = true → (edgesOk 0 l && chk l (acc.reverse ++ ds)) = true)
theorem Ch.cons {D : Bool} {acc : List St} {o : Oper} {st : St} (ho : Ok P G l.toArray o st σ) (hr : Ch P G l D K (st :: acc) r (σ.eff o.dst st.e)) : Ch P G l D K acc (o :: r) σ := by
 obtain ⟨ds, h1, h2⟩ := hr.e
 exact ⟨⟨st :: ds, ⟨ho, h1⟩, fun hD => by have := h2 hD; rw [List.reverse_cons, List.append_assoc] at this; exact this⟩⟩
theorem Ch.nil {acc : List St} (hk : K σ) : Ch P G l false K acc [] σ := ⟨⟨[], hk, fun h => nomatch h⟩⟩
theorem Ch.nilD {acc : List St} (hk : K σ) (hc : (edgesOk 0 l && chk l acc.reverse) = true) : Ch P G l true K acc [] σ := ⟨⟨[], hk, fun _ => by rw [List.append_nil]; exact hc⟩⟩
variable {D : Bool} {acc : List St}
theorem Ch.skU (hg : GdOk l.toArray ⟨some d, op, ty, pos, aft, gd⟩ ⟨n, s, h, u⟩ false) (hd : Nat.blt d n = true) (hr : Ch P G l D K (⟨false, [], [], ⟨some (.v undef), [], []⟩⟩ :: acc) r ⟨n, upd s d (some (.v undef)), h, u⟩) :
  Ch P G l D K acc (⟨some d, op, ty, pos, aft, gd⟩ :: r) ⟨n, s, h, u⟩ :=
 Ch.cons (st := ⟨false, [], [], ⟨some (.v undef), [], []⟩⟩) ⟨hg, (fun h => nomatch h), fun _ => .inr ⟨rfl, fun t ht => by cases ht; exact Nat.blt_eq.mp hd⟩⟩ hr
theorem Ch.pu {v : AV} (hg : GdOk l.toArray ⟨some d, op, ty, pos, aft, gd⟩ ⟨n, s, h, u⟩ true) (h1 : SlOk ⟨n, s, h, u⟩ sl) (hs : OpS P G ⟨some d, op, ty, pos, aft, gd⟩ sl hp ⟨some v, [], []⟩) (h2 : HpOk ⟨n, s, h, u⟩ hp) (hd : Nat.blt d n = true)
  (hr : Ch P G l D K (⟨true, sl, hp, ⟨some v, [], []⟩⟩ :: acc) r ⟨n, upd s d (some v), h, u⟩) : Ch P G l D K acc (⟨some d, op, ty, pos, aft, gd⟩ :: r) ⟨n, s, h, u⟩ :=
 Ch.cons (st := ⟨true, sl, hp, ⟨some v, [], []⟩⟩) ⟨hg, fun _ => ⟨hs, h1, h2, trivial, fun t ht => by cases ht; exact Nat.blt_eq.mp hd⟩, fun h => nomatch h⟩ hr
theorem Ch.al {v : AV} {ch : List (Nat × Option AO)} {nu : List Nat} (hg : GdOk l.toArray ⟨some d, op, ty, pos, aft, gd⟩ ⟨n, s, h, u⟩ true) (h1 : SlOk ⟨n, s, h, u⟩ sl) (hs : OpS P G ⟨some d, op, ty, pos, aft, gd⟩ sl hp ⟨some v, ch, nu⟩) (h2 : HpOk ⟨n, s, h, u⟩ hp)
  (h3 : NuOk ⟨n, s, h, u⟩ nu) (hd : Nat.blt d n = true) (hr : Ch P G l D K (⟨true, sl, hp, ⟨some v, ch, nu⟩⟩ :: acc) r ⟨n, upd s d (some v), chs h ch, nuU u nu⟩) : Ch P G l D K acc (⟨some d, op, ty, pos, aft, gd⟩ :: r) ⟨n, s, h, u⟩ :=
 Ch.cons (st := ⟨true, sl, hp, ⟨some v, ch, nu⟩⟩) ⟨hg, fun _ => ⟨hs, h1, h2, h3, fun t ht => by cases ht; exact Nat.blt_eq.mp hd⟩, fun h => nomatch h⟩ hr
theorem Ch.pul {v : AV} {xs : List Operand} {ys : List AV} (hg : GdOk l.toArray ⟨some d, op, ty, pos, aft, gd⟩ ⟨n, s, h, u⟩ true) (h1 : EvL ⟨n, s, h, u⟩ xs ys) (hs : OpS P G ⟨some d, op, ty, pos, aft, gd⟩ (xs.zip ys) [] ⟨some v, [], []⟩) (hd : Nat.blt d n = true)
  (hr : Ch P G l D K (⟨true, xs.zip ys, [], ⟨some v, [], []⟩⟩ :: acc) r ⟨n, upd s d (some v), h, u⟩) : Ch P G l D K acc (⟨some d, op, ty, pos, aft, gd⟩ :: r) ⟨n, s, h, u⟩ :=
 Ch.pu hg h1.ok.1 hs trivial hd hr
theorem Ch.all {v : AV} {ch : List (Nat × Option AO)} {nu : List Nat} {xs : List Operand} {ys : List AV} (hg : GdOk l.toArray ⟨some d, op, ty, pos, aft, gd⟩ ⟨n, s, h, u⟩ true) (h1 : EvL ⟨n, s, h, u⟩ xs ys) (hs : OpS P G ⟨some d, op, ty, pos, aft, gd⟩ (xs.zip ys) [] ⟨some v, ch, nu⟩)
  (h3 : NuOk ⟨n, s, h, u⟩ nu) (hd : Nat.blt d n = true) (hr : Ch P G l D K (⟨true, xs.zip ys, [], ⟨some v, ch, nu⟩⟩ :: acc) r ⟨n, upd s d (some v), chs h ch, nuU u nu⟩) : Ch P G l D K acc (⟨some d, op, ty, pos, aft, gd⟩ :: r) ⟨n, s, h, u⟩ :=
 Ch.al hg h1.ok.1 hs trivial h3 hd hr
theorem Ch.pup {v : AV} {xs : List (Nat × Operand)} {ys : List AV} (hg : GdOk l.toArray ⟨some d, op, ty, pos, aft, gd⟩ ⟨n, s, h, u⟩ true) (h1 : EvP ⟨n, s, h, u⟩ xs ys) (hs : OpS P G ⟨some d, op, ty, pos, aft, gd⟩ ((xs.map (·.2)).zip ys) [] ⟨some v, [], []⟩) (hd : Nat.blt d n = true)
  (hr : Ch P G l D K (⟨true, (xs.map (·.2)).zip ys, [], ⟨some v, [], []⟩⟩ :: acc) r ⟨n, upd s d (some v), h, u⟩) : Ch P G l D K acc (⟨some d, op, ty, pos, aft, gd⟩ :: r) ⟨n, s, h, u⟩ :=
 Ch.pu hg h1.ok.1 hs trivial hd hr
theorem Ch.alp {v : AV} {ch : List (Nat × Option AO)} {nu : List Nat} {xs : List (Nat × Operand)} {ys : List AV} (hg : GdOk l.toArray ⟨some d, op, ty, pos, aft, gd⟩ ⟨n, s, h, u⟩ true) (h1 : EvP ⟨n, s, h, u⟩ xs ys) (hs : OpS P G ⟨some d, op, ty, pos, aft, gd⟩ ((xs.map (·.2)).zip ys) [] ⟨some v, ch, nu⟩)
  (h3 : NuOk ⟨n, s, h, u⟩ nu) (hd : Nat.blt d n = true) (hr : Ch P G l D K (⟨true, (xs.map (·.2)).zip ys, [], ⟨some v, ch, nu⟩⟩ :: acc) r ⟨n, upd s d (some v), chs h ch, nuU u nu⟩) : Ch P G l D K acc (⟨some d, op, ty, pos, aft, gd⟩ :: r) ⟨n, s, h, u⟩ :=
 Ch.al hg h1.ok.1 hs trivial h3 hd hr
theorem Ch.wr {x : Option AV} {ch : List (Nat × Option AO)} {nu : List Nat} (hg : GdOk l.toArray ⟨none, op, ty, pos, aft, gd⟩ ⟨n, s, h, u⟩ true) (h1 : SlOk ⟨n, s, h, u⟩ sl) (hs : OpS P G ⟨none, op, ty, pos, aft, gd⟩ sl hp ⟨x, ch, nu⟩) (h2 : HpOk ⟨n, s, h, u⟩ hp)
  (h3 : NuOk ⟨n, s, h, u⟩ nu) (hr : Ch P G l D K (⟨true, sl, hp, ⟨x, ch, nu⟩⟩ :: acc) r ⟨n, s, chs h ch, nuU u nu⟩) : Ch P G l D K acc (⟨none, op, ty, pos, aft, gd⟩ :: r) ⟨n, s, h, u⟩ :=
 Ch.cons (st := ⟨true, sl, hp, ⟨x, ch, nu⟩⟩) ⟨hg, fun _ => ⟨hs, h1, h2, h3, fun t ht => by cases ht⟩, fun h => nomatch h⟩ hr
theorem Ch.call {f : FuncId} {args : List AV} {H H' : List (Option AO)} {res : AV} (F : FC P G f args H res H') (old : List Nat) (base : Nat) {xs : List Operand} {ys : List AV} {ats : Array TypeId}
  (hg : GdOk l.toArray ⟨some d, .call ⟨.value (.func f), xs.toArray, ats⟩, ty, pos, aft, gd⟩ ⟨n, s, h, u⟩ true) (hev : EvL ⟨n, s, h, u⟩ xs ys) (hwk : WkL ys (args.map (AV.ren (pi old base)))) (hol : old.length = H.length) (hnd : old.Nodup) (hlt : ∀ x ∈ old, x < base)
  (h2 : HpOk ⟨n, s, h, u⟩ (hpl (pi old base) old H)) (h3 : NuOk ⟨n, s, h, u⟩ (callEff old base res H.length H').nu) (hd : Nat.blt d n = true)
  (hr : Ch P G l D K (⟨true, xs.zip ys, hpl (pi old base) old H, callEff old base res H.length H'⟩ :: acc) r ⟨n, upd s d (some (res.ren (pi old base))), chs h (callEff old base res H.length H').ch, nuU u (callEff old base res H.length H').nu⟩) :
  Ch P G l D K acc (⟨some d, .call ⟨.value (.func f), xs.toArray, ats⟩, ty, pos, aft, gd⟩ :: r) ⟨n, s, h, u⟩ :=
 Ch.cons (st := ⟨true, xs.zip ys, hpl (pi old base) old H, callEff old base res H.length H'⟩) ⟨hg, fun _ => ⟨OpS.call F old base hol hnd hlt hev.ok.2 hwk, hev.ok.1, h2, h3, fun t ht => by cases ht; exact Nat.blt_eq.mp hd⟩, fun h => nomatch h⟩ hr
theorem Ch.callP {f : FuncId} {args : List AV} {res : AV} (F : FC P G f args [] res []) {xs : List Operand} {ys : List AV} {ats : Array TypeId}
  (hg : GdOk l.toArray ⟨some d, .call ⟨.value (.func f), xs.toArray, ats⟩, ty, pos, aft, gd⟩ ⟨n, s, h, u⟩ true) (hev : EvL ⟨n, s, h, u⟩ xs ys) (hwk : WkL ys (args.map (AV.ren (pi [] 0)))) {res' : AV} (hres : res.ren (pi [] 0) = res') (hd : Nat.blt d n = true)
  (hr : Ch P G l D K (⟨true, xs.zip ys, [], ⟨some res', [], []⟩⟩ :: acc) r ⟨n, upd s d (some res'), h, u⟩) :
  Ch P G l D K acc (⟨some d, .call ⟨.value (.func f), xs.toArray, ats⟩, ty, pos, aft, gd⟩ :: r) ⟨n, s, h, u⟩ := by
 subst hres
 exact Ch.cons (st := ⟨true, xs.zip ys, [], ⟨some (res.ren (pi [] 0)), [], []⟩⟩) ⟨hg, fun _ => ⟨OpS.call F [] 0 rfl (by simp) (by simp) hev.ok.2 hwk, hev.ok.1, trivial, trivial, fun t ht => by cases ht; exact Nat.blt_eq.mp hd⟩, fun h => nomatch h⟩ hr
theorem OpS.assignTip {P : Program} {G : List (Nat × Array Value)} {x : Operand} (c : Nat) (E : TypeId) (sz : Nat) :
  OpS P G ⟨dst, .assign x, ty, pos, aft, gd⟩ [(x, .v (.slice none 0 0))] [] ⟨some (.sl (some c) 0 []), [(c, some (.tip E sz 0))], [c]⟩ := by
 refine OpS.act fun A ρ σ a w _ h _ hu hs => ?_
 let ρ' : Env := ⟨ρ.blk, upd ρ.tip c (some (.slice none 0 0))⟩
 have hid : ρ'.tip c = some (.slice none 0 0) := upd_same _ _ _
 obtain ⟨m1, m2⟩ := hs.mem.extend (ρ' := ρ') (ob := .tip E sz 0) (w' := w) hu.1 (fun i hi => ⟨rfl, upd_ne _ _ hi⟩) rfl rfl rfl (Nat.le_refl _) (fun k hk => rfl) (fun b ⟨cap, hb⟩ => by rw [hid] at hb; cases hb) (fun _ => .inl ⟨hid, rfl⟩)
 refine ⟨.slice none 0 0, w, ρ', .inl ?_, m1, m2, fun v hv => by
  cases hv
  exact .sl _ _ _ _ _ (fun _ => undef) (fun i hi => by cases hi) (fun i c hc => by simp at hc) (fun k hk => by cases hk; exact hid) (Nat.le_refl _) (fun _ => rfl) (by unfold maxLen; omega)⟩
 show (pure (Next.value (a.eval x)) : Sem Next).run P w = _
 rw [(hs.ev h.1).raw]
 rfl
end
section
variable {P : Program} {G : List (Nat × Array Value)} {l r : List Oper} {K : AS → Prop} {D : Bool} {acc : List St} {dst : Option Tmp} {ty : TypeId} {pos : String} {aft : Array Edge} {gd : Option (Nat × Bool)} {σ : AS}
 {op' : BinOp} {uo : UnOp} {t t' : TypeId} {x y z : Operand} {o1 o2 o3 : Option Operand} {i : Nat} {b : Builtin} {as a1 a2 : Array Operand} {ats : Array TypeId} {ps : Array (Nat × Operand)} {fn : Fn}
end
theorem WP.rg {P : Program} {G : List (Nat × Array Value)} {A : Amb} {Q : Exit → AS → Prop} {σ : AS} {id : Nat} {l : List Oper} (hG : A.G = G) (h : Ch P G l false (Q .normal) [] l σ) : WP P A (.region id l.toArray false) Q σ := by
 obtain ⟨ds, h1, -⟩ := h.e
 exact WP.region hG h1
theorem WP.rgD {P : Program} {G : List (Nat × Array Value)} {A : Amb} {Q : Exit → AS → Prop} {σ : AS} {id : Nat} {l : List Oper} (hm : P.follows .mixedOrders = true) (hG : A.G = G) (h : Ch P G l true (Q .normal) [] l σ) : WP P A (.region id l.toArray true) Q σ := by
 obtain ⟨ds, h1, h2⟩ := h.e
 exact WP.drawn hm hG h1 (h2 rfl)
theorem WP.rs {P : Program} {G : List (Nat × Array Value)} {A : Amb} {Q : Exit → AS → Prop} {σ : AS} {id : Nat} {l : List Oper} {y : Code} (hG : A.G = G) (h : Ch P G l false (WP P A y Q) [] l σ) : WP P A (.seq (.region id l.toArray false) y) Q σ :=
 WP.seq (WP.rg hG h)
theorem WP.rsD {P : Program} {G : List (Nat × Array Value)} {A : Amb} {Q : Exit → AS → Prop} {σ : AS} {id : Nat} {l : List Oper} {y : Code} (hm : P.follows .mixedOrders = true) (hG : A.G = G) (h : Ch P G l true (WP P A y Q) [] l σ) : WP P A (.seq (.region id l.toArray true) y) Q σ :=
 WP.seq (WP.rgD hm hG h)
theorem Ent.id {nA : Nat} {σ σ' : AS} (hn : σ'.n = σ.n) (ha : ∀ i, i < nA → σ'.u i = true) (hs : ∀ t v', σ'.s t = some v' → v'.bel σ'.u ∧ ∃ v, σ.s t = some v ∧ v.wk (v'.ren id)) (hh : ∀ i o', σ'.h i = some o' → σ'.u i = true ∧ o'.bel σ'.u ∧ σ.h i = some (o'.ren id)) : Ent id nA σ σ' :=
 ⟨hn, fun i hi => ⟨rfl, ha i hi⟩, hs, hh, fun _ _ _ _ _ _ h => h⟩
def ls : List (Nat × AV) → Nat → Option AV
 | [] => fun _ => none
 | (t, v) :: r => fun i => bif Nat.beq i t then some v else ls r i
theorem ls_some {l : List (Nat × AV)} {t : Nat} {v : AV} (h : ls l t = some v) : (t, v) ∈ l := by
 induction l with
 | nil => cases h
 | cons p r ih =>
  obtain ⟨k, x⟩ := p
  simp only [ls] at h
  cases hb : Nat.beq t k with
  | true => rw [hb] at h; rw [Nat.beq_eq] at hb; cases h; subst hb; simp
  | false => rw [hb] at h; exact List.mem_cons_of_mem _ (ih h)
def lh : List (Nat × AO) → Nat → Option AO
 | [] => fun _ => none
 | (t, v) :: r => fun i => bif Nat.beq i t then some v else lh r i
theorem lh_some {l : List (Nat × AO)} {t : Nat} {v : AO} (h : lh l t = some v) : (t, v) ∈ l := by
 induction l with
 | nil => cases h
 | cons p r ih =>
  obtain ⟨k, x⟩ := p
  simp only [lh] at h
  cases hb : Nat.beq t k with
  | true => rw [hb] at h; rw [Nat.beq_eq] at hb; cases h; subst hb; simp
  | false => rw [hb] at h; exact List.mem_cons_of_mem _ (ih h)
def SFrom (π : Nat → Nat) (u : Nat → Bool) (s : Nat → Option AV) : List (Nat × AV) → Prop
 | [] => True
 | (t, v') :: r => (v'.bel u ∧ ∃ v, s t = some v ∧ v.wk (v'.ren π)) ∧ SFrom π u s r
def HFrom (π : Nat → Nat) (u : Nat → Bool) (h : Nat → Option AO) : List (Nat × AO) → Prop
 | [] => True
 | (t, o') :: r => (u t = true ∧ o'.bel u ∧ h (π t) = some (o'.ren π)) ∧ HFrom π u h r
theorem SFrom.get {π : Nat → Nat} {u : Nat → Bool} {s : Nat → Option AV} : ∀ {l : List (Nat × AV)}, SFrom π u s l → ∀ p ∈ l, p.2.bel u ∧ ∃ v, s p.1 = some v ∧ v.wk (p.2.ren π)
 | (t, v) :: r, h, p, hp => by
  rcases List.mem_cons.1 hp with rfl | hp
  · exact h.1
  exact SFrom.get h.2 p hp
theorem HFrom.get {π : Nat → Nat} {u : Nat → Bool} {s : Nat → Option AO} : ∀ {l : List (Nat × AO)}, HFrom π u s l → ∀ p ∈ l, u p.1 = true ∧ p.2.bel u ∧ s (π p.1) = some (p.2.ren π)
 | (t, v) :: r, h, p, hp => by
  rcases List.mem_cons.1 hp with rfl | hp
  · exact h.1
  exact HFrom.get h.2 p hp
def rn (l : List Nat) : Nat → Nat := fun i => l.getD i i
theorem Ent.of {nA n m : Nat} {s : Nat → Option AV} {h : Nat → Option AO} {u : Nat → Bool} {l : List (Nat × AV)} {lo : List (Nat × AO)} (rs : List Nat) (ha : ∀ i, i < nA → rn rs i = i ∧ blt m i = true) (hs : SFrom (rn rs) (blt m) s l) (hh : HFrom (rn rs) (blt m) h lo)
  (hinj : ((lo.map fun p => rn rs p.1)).Nodup) : Ent (rn rs) nA ⟨n, s, h, u⟩ ⟨n, ls l, lh lo, blt m⟩ := by
 refine ⟨rfl, ha, fun t v' ht => hs.get _ (ls_some ht), fun i o' hi => hh.get _ (lh_some hi), ?_⟩
 intro i j oi oj hi hj he
 have h1 := lh_some hi
 have h2 := lh_some hj
 have key : ∀ (lo : List (Nat × AO)), ((lo.map fun p => rn rs p.1)).Nodup → ∀ i oi j oj, (i, oi) ∈ lo → (j, oj) ∈ lo → rn rs i = rn rs j → i = j := by
  intro lo
  induction lo with
  | nil => intro _ i oi j oj h; cases h
  | cons p r ih =>
   intro hnd i oi j oj h1 h2 he
   simp only [List.map_cons, List.nodup_cons, List.mem_map, not_exists, not_and] at hnd
   rcases List.mem_cons.1 h1 with h1 | h1 <;> rcases List.mem_cons.1 h2 with h2 | h2
   · rw [← h2] at h1; cases h1; rfl
   · exact absurd (by rw [← h1]; exact he.symm) (hnd.1 _ h2)
   · exact absurd (by rw [← h2]; exact he) (hnd.1 _ h1)
   exact ih hnd.2 i oi j oj h1 h2 he
 exact key lo hinj i oi j oj h1 h2 he
def HFromL (π : Nat → Nat) (u : Nat → Bool) (h : Nat → Option AO) : Nat → List (Option AO) → Prop
 | _, [] => True
 | k, none :: r => HFromL π u h (k + 1) r
 | k, some o' :: r => (o'.bel u ∧ h (π k) = some (o'.ren π)) ∧ HFromL π u h (k + 1) r
theorem HFromL.get {π : Nat → Nat} {u : Nat → Bool} {h : Nat → Option AO} : ∀ {k : Nat} {H : List (Option AO)}, HFromL π u h k H → ∀ {i : Nat} {o' : AO}, H[i]? = some (some o') → o'.bel u ∧ h (π (k + i)) = some (o'.ren π)
 | k, some o :: r, hh, 0, o', hi => by simp at hi; subst hi; exact hh.1
 | k, none :: r, hh, 0, o', hi => by simp at hi
 | k, some o :: r, hh, i + 1, o', hi => by have := HFromL.get hh.2 (i := i) (o' := o') (by simpa using hi); rw [show k + (i + 1) = k + 1 + i by omega]; exact this
 | k, none :: r, hh, i + 1, o', hi => by have := HFromL.get (k := k + 1) (H := r) hh (i := i) (o' := o') (by simpa using hi); rw [show k + (i + 1) = k + 1 + i by omega]; exact this
 | k, [], _, i, o', hi => by simp at hi
theorem Ret.of {A : Amb} {n : Nat} {s : Nat → Option AV} {h : Nat → Option AO} {u : Nat → Bool} {rs : List Tmp} {vs : List AV} {res : AV} {H' : List (Option AO)} (pm : List Nat) (ha : ∀ i, i < A.nA → rn pm i = i ∧ blt H'.length i = true) (hs : SFrom (rn pm) (blt H'.length) s (rs.zip vs)) (hl' : vs.length = rs.length)
  (hh : HFromL (rn pm) (blt H'.length) h 0 H') (hinj : ((List.range H'.length).map (rn pm)).Nodup) (hr : RetV rs res ⟨n, ls (rs.zip vs), hl H', blt H'.length⟩) :
  Ret A rs res H' .ret ⟨n, s, h, u⟩ ∧ Ret A rs res H' .normal ⟨n, s, h, u⟩ := by
 have : ∃ σ', SEnt A ⟨n, s, h, u⟩ σ' ∧ σ'.h = hl H' ∧ σ'.u = blt H'.length ∧ RetV rs res σ' := by
  refine ⟨⟨n, ls (rs.zip vs), hl H', blt H'.length⟩, Ent.se (π := rn pm) ⟨rfl, ha, fun t v' ht => hs.get _ (ls_some ht), fun i o' hi => ?_, ?_⟩, rfl, rfl, hr⟩
  ·
   obtain ⟨h1, h2⟩ := hl_some hi
   have := hh.get h2
   rw [Nat.zero_add] at this
   exact ⟨blt_iff.2 h1, this⟩
  intro i j oi oj hi hj he
  have hi' := (hl_some hi).1
  have hj' := (hl_some hj).1
  rcases Nat.lt_trichotomy i j with hij | hij | hij
  ·
   have := List.pairwise_iff_getElem.1 hinj i j (by simpa using hi') (by simpa using hj') hij
   simp at this
   exact absurd he this
  · exact hij
  have := List.pairwise_iff_getElem.1 hinj j i (by simpa using hj') (by simpa using hi') hij
  simp at this
  exact absurd he.symm this
 exact ⟨this, this⟩
theorem Ret.one {A : Amb} {n : Nat} {s : Nat → Option AV} {h : Nat → Option AO} {u : Nat → Bool} {t : Tmp} {v res : AV} (hs : s t = some v) (hk : v.wk (res.ren (rn []))) (hb : res.bel (blt 0)) (hA : A.nA = 0) : Ret A [t] res [] .ret ⟨n, s, h, u⟩ :=
 (Ret.of (rs := [t]) (vs := [res]) (H' := []) (res := res) [] (fun i hi => by rw [hA] at hi; omega) ⟨⟨hb, v, hs, hk⟩, trivial⟩ rfl trivial (by simp) (show ls [(t, res)] t = some res by simp [ls])).1
end Go.Proofs.YtpnbpcopdckgpaaGreatDoor.E
namespace Go.Proofs.YtpnbpcopdckgpaaGreatDoor.E
open Go Go.RowKit Go.Proofs.YtpnbpcopdckgpaaGreatDoor.V
section
variable {P : Program} {G : List (Nat × Array Value)} {l : List Oper} {D : Bool} {K : AS → Prop} {acc : List St} {r : List Oper} {d : Tmp} {x y z : Operand} {op : Op} {ty : TypeId} {pos : String} {aft : Array Edge} {n : Nat} {s : Nat → Option AV} {h : Nat → Option AO} {u : Nat → Bool} {v a b c : AV} {i : Nat} {e : AO}
theorem Ch.mv (h1 : (⟨n, s, h, u⟩ : AS).ev x = some v) (hd : Nat.blt d n = true) (hr : Ch P G l D K (⟨true, [(x, v)], [], ⟨some v, [], []⟩⟩ :: acc) r ⟨n, upd s d (some v), h, u⟩) : Ch P G l D K acc (⟨some d, .move x, ty, pos, aft, none⟩ :: r) ⟨n, s, h, u⟩ :=
 Ch.pu (sl := [(x, v)]) (hp := []) gdN (show _ ∧ True from ⟨h1, trivial⟩) OpS.move trivial hd hr
theorem Ch.asg (h1 : (⟨n, s, h, u⟩ : AS).ev x = some v) (hd : Nat.blt d n = true) (hr : Ch P G l D K (⟨true, [(x, v)], [], ⟨some v, [], []⟩⟩ :: acc) r ⟨n, upd s d (some v), h, u⟩) : Ch P G l D K acc (⟨some d, .assign x, ty, pos, aft, none⟩ :: r) ⟨n, s, h, u⟩ :=
 Ch.pu (sl := [(x, v)]) (hp := []) gdN (show _ ∧ True from ⟨h1, trivial⟩) OpS.assign trivial hd hr
theorem Ch.p1 (h1 : (⟨n, s, h, u⟩ : AS).ev x = some a) (ho : OpS P G ⟨some d, op, ty, pos, aft, none⟩ [(x, a)] [] ⟨some v, [], []⟩) (hd : Nat.blt d n = true) (hr : Ch P G l D K (⟨true, [(x, a)], [], ⟨some v, [], []⟩⟩ :: acc) r ⟨n, upd s d (some v), h, u⟩) : Ch P G l D K acc (⟨some d, op, ty, pos, aft, none⟩ :: r) ⟨n, s, h, u⟩ :=
 Ch.pu (sl := [(x, a)]) (hp := []) gdN (show _ ∧ True from ⟨h1, trivial⟩) ho trivial hd hr
theorem Ch.p2 (h1 : (⟨n, s, h, u⟩ : AS).ev x = some a) (h2 : (⟨n, s, h, u⟩ : AS).ev y = some b) (ho : OpS P G ⟨some d, op, ty, pos, aft, none⟩ [(x, a), (y, b)] [] ⟨some v, [], []⟩) (hd : Nat.blt d n = true) (hr : Ch P G l D K (⟨true, [(x, a), (y, b)], [], ⟨some v, [], []⟩⟩ :: acc) r ⟨n, upd s d (some v), h, u⟩) : Ch P G l D K acc (⟨some d, op, ty, pos, aft, none⟩ :: r) ⟨n, s, h, u⟩ :=
 Ch.pu (sl := [(x, a), (y, b)]) (hp := []) gdN (show _ ∧ _ ∧ True from ⟨h1, h2, trivial⟩) ho trivial hd hr
theorem Ch.p3 (h1 : (⟨n, s, h, u⟩ : AS).ev x = some a) (h2 : (⟨n, s, h, u⟩ : AS).ev y = some b) (h3 : (⟨n, s, h, u⟩ : AS).ev z = some c) (ho : OpS P G ⟨some d, op, ty, pos, aft, none⟩ [(x, a), (y, b), (z, c)] [] ⟨some v, [], []⟩) (hd : Nat.blt d n = true) (hr : Ch P G l D K (⟨true, [(x, a), (y, b), (z, c)], [], ⟨some v, [], []⟩⟩ :: acc) r ⟨n, upd s d (some v), h, u⟩) : Ch P G l D K acc (⟨some d, op, ty, pos, aft, none⟩ :: r) ⟨n, s, h, u⟩ :=
 Ch.pu (sl := [(x, a), (y, b), (z, c)]) (hp := []) gdN (show _ ∧ _ ∧ _ ∧ True from ⟨h1, h2, h3, trivial⟩) ho trivial hd hr
theorem Ch.q1 (h1 : (⟨n, s, h, u⟩ : AS).ev x = some a) (ho : OpS P G ⟨some d, op, ty, pos, aft, none⟩ [(x, a)] [(i, e)] ⟨some v, [], []⟩) (he : h i = some e) (hd : Nat.blt d n = true) (hr : Ch P G l D K (⟨true, [(x, a)], [(i, e)], ⟨some v, [], []⟩⟩ :: acc) r ⟨n, upd s d (some v), h, u⟩) : Ch P G l D K acc (⟨some d, op, ty, pos, aft, none⟩ :: r) ⟨n, s, h, u⟩ :=
 Ch.pu (sl := [(x, a)]) (hp := [(i, e)]) gdN (show _ ∧ True from ⟨h1, trivial⟩) ho (show _ ∧ True from ⟨he, trivial⟩) hd hr
theorem Ch.q2 (h1 : (⟨n, s, h, u⟩ : AS).ev x = some a) (h2 : (⟨n, s, h, u⟩ : AS).ev y = some b) (ho : OpS P G ⟨some d, op, ty, pos, aft, none⟩ [(x, a), (y, b)] [(i, e)] ⟨some v, [], []⟩) (he : h i = some e) (hd : Nat.blt d n = true) (hr : Ch P G l D K (⟨true, [(x, a), (y, b)], [(i, e)], ⟨some v, [], []⟩⟩ :: acc) r ⟨n, upd s d (some v), h, u⟩) : Ch P G l D K acc (⟨some d, op, ty, pos, aft, none⟩ :: r) ⟨n, s, h, u⟩ :=
 Ch.pu (sl := [(x, a), (y, b)]) (hp := [(i, e)]) gdN (show _ ∧ _ ∧ True from ⟨h1, h2, trivial⟩) ho (show _ ∧ True from ⟨he, trivial⟩) hd hr
variable {j t : Nat} {q : Bool}
theorem Ch.gm (hj : (l[j]?).bind (·.dst) = some t) (hs : s t = some (.v (.bool q))) (h1 : (⟨n, s, h, u⟩ : AS).ev x = some v) (hd : Nat.blt d n = true) (hr : Ch P G l D K (⟨true, [(x, v)], [], ⟨some v, [], []⟩⟩ :: acc) r ⟨n, upd s d (some v), h, u⟩) : Ch P G l D K acc (⟨some d, .move x, ty, pos, aft, some (j, q)⟩ :: r) ⟨n, s, h, u⟩ :=
 Ch.pu (sl := [(x, v)]) (hp := []) (gdT hj hs) (show _ ∧ True from ⟨h1, trivial⟩) OpS.move trivial hd hr
theorem Ch.g1 (hj : (l[j]?).bind (·.dst) = some t) (hs : s t = some (.v (.bool q))) (h1 : (⟨n, s, h, u⟩ : AS).ev x = some a) (ho : OpS P G ⟨some d, op, ty, pos, aft, some (j, q)⟩ [(x, a)] [] ⟨some v, [], []⟩) (hd : Nat.blt d n = true) (hr : Ch P G l D K (⟨true, [(x, a)], [], ⟨some v, [], []⟩⟩ :: acc) r ⟨n, upd s d (some v), h, u⟩) : Ch P G l D K acc (⟨some d, op, ty, pos, aft, some (j, q)⟩ :: r) ⟨n, s, h, u⟩ :=
 Ch.pu (sl := [(x, a)]) (hp := []) (gdT hj hs) (show _ ∧ True from ⟨h1, trivial⟩) ho trivial hd hr
theorem Ch.g2 (hj : (l[j]?).bind (·.dst) = some t) (hs : s t = some (.v (.bool q))) (h1 : (⟨n, s, h, u⟩ : AS).ev x = some a) (h2 : (⟨n, s, h, u⟩ : AS).ev y = some b) (ho : OpS P G ⟨some d, op, ty, pos, aft, some (j, q)⟩ [(x, a), (y, b)] [] ⟨some v, [], []⟩) (hd : Nat.blt d n = true) (hr : Ch P G l D K (⟨true, [(x, a), (y, b)], [], ⟨some v, [], []⟩⟩ :: acc) r ⟨n, upd s d (some v), h, u⟩) : Ch P G l D K acc (⟨some d, op, ty, pos, aft, some (j, q)⟩ :: r) ⟨n, s, h, u⟩ :=
 Ch.pu (sl := [(x, a), (y, b)]) (hp := []) (gdT hj hs) (show _ ∧ _ ∧ True from ⟨h1, h2, trivial⟩) ho trivial hd hr
theorem Ch.g3 (hj : (l[j]?).bind (·.dst) = some t) (hs : s t = some (.v (.bool q))) (h1 : (⟨n, s, h, u⟩ : AS).ev x = some a) (h2 : (⟨n, s, h, u⟩ : AS).ev y = some b) (h3 : (⟨n, s, h, u⟩ : AS).ev z = some c) (ho : OpS P G ⟨some d, op, ty, pos, aft, some (j, q)⟩ [(x, a), (y, b), (z, c)] [] ⟨some v, [], []⟩) (hd : Nat.blt d n = true) (hr : Ch P G l D K (⟨true, [(x, a), (y, b), (z, c)], [], ⟨some v, [], []⟩⟩ :: acc) r ⟨n, upd s d (some v), h, u⟩) : Ch P G l D K acc (⟨some d, op, ty, pos, aft, some (j, q)⟩ :: r) ⟨n, s, h, u⟩ :=
 Ch.pu (sl := [(x, a), (y, b), (z, c)]) (hp := []) (gdT hj hs) (show _ ∧ _ ∧ _ ∧ True from ⟨h1, h2, h3, trivial⟩) ho trivial hd hr
end
section
variable {P : Program} {G : List (Nat × Array Value)} {l : List Oper} {D : Bool} {K : AS → Prop} {acc : List St} {r : List Oper} {d : Tmp} {x y : Operand} {op : Op} {ty : TypeId} {pos : String} {aft : Array Edge} {n : Nat} {s : Nat → Option AV} {h : Nat → Option AO} {u : Nat → Bool} {v a b : AV} {i k : Nat} {e : AO} {o : Option AV} {ch : List (Nat × Option AO)}
theorem Ch.ws (h1 : (⟨n, s, h, u⟩ : AS).ev x = some a) (h2 : (⟨n, s, h, u⟩ : AS).ev y = some b) (ho : OpS P G ⟨none, op, ty, pos, aft, none⟩ [(x, a), (y, b)] [(i, e)] ⟨o, ch, []⟩) (he : h i = some e) (hr : Ch P G l D K (⟨true, [(x, a), (y, b)], [(i, e)], ⟨o, ch, []⟩⟩ :: acc) r ⟨n, s, chs h ch, nuU u []⟩) : Ch P G l D K acc (⟨none, op, ty, pos, aft, none⟩ :: r) ⟨n, s, h, u⟩ :=
 Ch.wr (sl := [(x, a), (y, b)]) (hp := [(i, e)]) gdN (show _ ∧ _ ∧ True from ⟨h1, h2, trivial⟩) ho (show _ ∧ True from ⟨he, trivial⟩) trivial hr
theorem Ch.a0 (ho : OpS P G ⟨some d, op, ty, pos, aft, none⟩ [] [] ⟨some v, ch, [k]⟩) (hk : u k = false) (hd : Nat.blt d n = true) (hr : Ch P G l D K (⟨true, [], [], ⟨some v, ch, [k]⟩⟩ :: acc) r ⟨n, upd s d (some v), chs h ch, nuU u [k]⟩) : Ch P G l D K acc (⟨some d, op, ty, pos, aft, none⟩ :: r) ⟨n, s, h, u⟩ :=
 Ch.al (sl := []) (hp := []) gdN trivial ho trivial (show _ ∧ True from ⟨hk, trivial⟩) hd hr
theorem Ch.a1 (h1 : (⟨n, s, h, u⟩ : AS).ev x = some a) (ho : OpS P G ⟨some d, op, ty, pos, aft, none⟩ [(x, a)] [] ⟨some v, ch, [k]⟩) (hk : u k = false) (hd : Nat.blt d n = true) (hr : Ch P G l D K (⟨true, [(x, a)], [], ⟨some v, ch, [k]⟩⟩ :: acc) r ⟨n, upd s d (some v), chs h ch, nuU u [k]⟩) : Ch P G l D K acc (⟨some d, op, ty, pos, aft, none⟩ :: r) ⟨n, s, h, u⟩ :=
 Ch.al (sl := [(x, a)]) (hp := []) gdN (show _ ∧ True from ⟨h1, trivial⟩) ho trivial (show _ ∧ True from ⟨hk, trivial⟩) hd hr
theorem Ch.a2 (h1 : (⟨n, s, h, u⟩ : AS).ev x = some a) (h2 : (⟨n, s, h, u⟩ : AS).ev y = some b) (ho : OpS P G ⟨some d, op, ty, pos, aft, none⟩ [(x, a), (y, b)] [(i, e)] ⟨some v, ch, [k]⟩) (he : h i = some e) (hk : u k = false) (hd : Nat.blt d n = true) (hr : Ch P G l D K (⟨true, [(x, a), (y, b)], [(i, e)], ⟨some v, ch, [k]⟩⟩ :: acc) r ⟨n, upd s d (some v), chs h ch, nuU u [k]⟩) : Ch P G l D K acc (⟨some d, op, ty, pos, aft, none⟩ :: r) ⟨n, s, h, u⟩ :=
 Ch.al (sl := [(x, a), (y, b)]) (hp := [(i, e)]) gdN (show _ ∧ _ ∧ True from ⟨h1, h2, trivial⟩) ho (show _ ∧ True from ⟨he, trivial⟩) (show _ ∧ True from ⟨hk, trivial⟩) hd hr
def naOk (rs : List Nat) (m k : Nat) : Bool := (List.range k).all fun i => Nat.beq (rn rs i) i && blt m i
def ndOk : List Nat → Bool
 | [] => true
 | a :: l => (l.all fun b => !Nat.beq a b) && ndOk l
theorem nd_of : ∀ {l : List Nat}, ndOk l = true → l.Nodup
 | [], _ => List.nodup_nil
 | a :: l, h => by
  unfold ndOk at h
  simp only [Bool.and_eq_true] at h
  refine List.nodup_cons.2 ⟨fun hm => ?_, nd_of h.2⟩
  have := List.all_eq_true.1 h.1 a hm
  simp only [Nat.beq_refl, Bool.not_true] at this
  cases this
theorem na_of {nA m k : Nat} {rs : List Nat} (h : nA = k) (hb : naOk rs m k = true) : ∀ i, i < nA → rn rs i = i ∧ blt m i = true := fun i hi => by
 subst h
 have := List.all_eq_true.1 hb i (List.mem_range.2 hi)
 simp only [Bool.and_eq_true] at this
 exact ⟨Nat.eq_of_beq_eq_true this.1, this.2⟩
end
section
variable {P : Program} {G : List (Nat × Array Value)} {dst : Option Tmp} {ty : TypeId} {pos : String} {aft : Array Edge} {gd : Option (Nat × Bool)} {t t' : TypeId} {x y : Operand} {k : IntKind} {a b : Int}
theorem OpS.lssT (h : a < b) : OpS P G ⟨dst, .binOp .lss t x y t', ty, pos, aft, gd⟩ [(x, .v (.int k a)), (y, .v (.int k b))] [] ⟨some (.v (.bool true)), [], []⟩ := OpS.int rfl (congrArg Value.bool (decide_eq_true h))
theorem OpS.lssF (h : ¬ a < b) : OpS P G ⟨dst, .binOp .lss t x y t', ty, pos, aft, gd⟩ [(x, .v (.int k a)), (y, .v (.int k b))] [] ⟨some (.v (.bool false)), [], []⟩ := OpS.int rfl (congrArg Value.bool (decide_eq_false h))
theorem OpS.leqT (h : a ≤ b) : OpS P G ⟨dst, .binOp .leq t x y t', ty, pos, aft, gd⟩ [(x, .v (.int k a)), (y, .v (.int k b))] [] ⟨some (.v (.bool true)), [], []⟩ := OpS.int rfl (congrArg Value.bool (decide_eq_true h))
theorem OpS.leqF (h : ¬ a ≤ b) : OpS P G ⟨dst, .binOp .leq t x y t', ty, pos, aft, gd⟩ [(x, .v (.int k a)), (y, .v (.int k b))] [] ⟨some (.v (.bool false)), [], []⟩ := OpS.int rfl (congrArg Value.bool (decide_eq_false h))
theorem OpS.gtrT (h : a > b) : OpS P G ⟨dst, .binOp .gtr t x y t', ty, pos, aft, gd⟩ [(x, .v (.int k a)), (y, .v (.int k b))] [] ⟨some (.v (.bool true)), [], []⟩ := OpS.int rfl (congrArg Value.bool (decide_eq_true h))
theorem OpS.gtrF (h : ¬ a > b) : OpS P G ⟨dst, .binOp .gtr t x y t', ty, pos, aft, gd⟩ [(x, .v (.int k a)), (y, .v (.int k b))] [] ⟨some (.v (.bool false)), [], []⟩ := OpS.int rfl (congrArg Value.bool (decide_eq_false h))
theorem OpS.geqT (h : a ≥ b) : OpS P G ⟨dst, .binOp .geq t x y t', ty, pos, aft, gd⟩ [(x, .v (.int k a)), (y, .v (.int k b))] [] ⟨some (.v (.bool true)), [], []⟩ := OpS.int rfl (congrArg Value.bool (decide_eq_true h))
theorem OpS.geqF (h : ¬ a ≥ b) : OpS P G ⟨dst, .binOp .geq t x y t', ty, pos, aft, gd⟩ [(x, .v (.int k a)), (y, .v (.int k b))] [] ⟨some (.v (.bool false)), [], []⟩ := OpS.int rfl (congrArg Value.bool (decide_eq_false h))
theorem OpS.eqlT (h : a = b) : OpS P G ⟨dst, .binOp .eql t x y t', ty, pos, aft, gd⟩ [(x, .v (.int k a)), (y, .v (.int k b))] [] ⟨some (.v (.bool true)), [], []⟩ := OpS.int rfl (congrArg Value.bool (beq_iff_eq.2 h))
theorem OpS.eqlF (h : a ≠ b) : OpS P G ⟨dst, .binOp .eql t x y t', ty, pos, aft, gd⟩ [(x, .v (.int k a)), (y, .v (.int k b))] [] ⟨some (.v (.bool false)), [], []⟩ := OpS.int rfl (congrArg Value.bool (beq_eq_false_iff_ne.2 h))
theorem OpS.neqT (h : a ≠ b) : OpS P G ⟨dst, .binOp .neq t x y t', ty, pos, aft, gd⟩ [(x, .v (.int k a)), (y, .v (.int k b))] [] ⟨some (.v (.bool true)), [], []⟩ := OpS.int rfl (congrArg Value.bool (bne_iff_ne.2 h))
theorem OpS.neqF (h : a = b) : OpS P G ⟨dst, .binOp .neq t x y t', ty, pos, aft, gd⟩ [(x, .v (.int k a)), (y, .v (.int k b))] [] ⟨some (.v (.bool false)), [], []⟩ := OpS.int rfl (congrArg Value.bool (bne_eq_false_iff_eq.2 h))
theorem OpS.inc (m : Nat) (he : a + b = (m : Int) + 1) (h : (m : Int) + 1 ≤ 9223372036854775807) : OpS P G ⟨dst, .binOp .add t x y t', ty, pos, aft, gd⟩ [(x, .v (.int .i64 a)), (y, .v (.int .i64 b))] [] ⟨some (.v (.int .i64 ((m + 1 : Nat) : Int))), [], []⟩ := OpS.int rfl (by rw [he, wr64 (by omega)]; exact congrArg (Value.int .i64) (by omega))
end
theorem WkL.n : WkL [] [] := trivial
theorem WkL.c {a b : AV} {ys zs : List AV} (h : a.wk b) (hr : WkL ys zs) : WkL (a :: ys) (b :: zs) := ⟨h, hr⟩
end Go.Proofs.YtpnbpcopdckgpaaGreatDoor.E
end
namespace Go.Proofs.YtpnbpcopdckgpaaGreatDoor.E
open Go Go.RowKit V
theorem madeCells_one (z : Value) (m : Nat) : (madeCells #[z] m).toList = List.replicate m z := by
 apply List.ext_getElem?
 intro j
 by_cases hj : j < m
 · simp [madeCells, hj, Nat.mod_one]
 simp [madeCells, hj]
section
variable {P : Program} {G : List (Nat × Array Value)} {dst : Option Tmp} {ty : TypeId} {pos : String} {aft : Array Edge} {gd : Option (Nat × Bool)}
theorem OpS.make {t E : TypeId} {inf : TypeInfo} {z : Value} {x y : Operand} {k k' : IntKind} {m : Int} {n : Nat} (id : Nat) (hu : P.underlying t = some (.slice E)) (hi : P.info? E = some inf) (hz : inf.zero = some z) (hsz : inf.size = 1) (hzc : z.cells = #[z]) (h1 : z.oneCell' = true) (hm : m = (n : Int))
  (hb : n * inf.bytes ≤ 281474976710656) (hn : n ≤ maxLen) :
  OpS P G ⟨dst, .makeSlice t x y, ty, pos, aft, gd⟩ [(x, .v (.int k m)), (y, .v (.int k' m))] [] ⟨some (.arr id 0 n), [(id, some (.cells E (List.replicate n (.v z))))], [id]⟩ := by
 subst hm
 refine OpS.act fun A ρ σ a w _ h hp hu' hs => ?_
 have hl : (madeCells z.cells (n * inf.size)).toList = List.replicate n z := by rw [hzc, hsz, Nat.mul_one, madeCells_one]
 obtain ⟨ρ', k1, k2, k3⟩ := new_cells (w' := w.alloc (.cells (madeCells z.cells (n * inf.size)) E)) (T := E) (cs := List.replicate n (.v z)) hs.mem hu'.1 rfl rfl rfl (by simp) (fun k hk => Below.heap_alloc w _ k hk) (heap_alloc_new w _)
  (by rw [List.length_replicate, ← Array.length_toList, hl, List.length_replicate]; exact Nat.le_refl _) (fun j c v hc hv => by
  rw [← Array.getElem?_toList, hl] at hv
  rw [List.getElem?_replicate] at hc hv
  split at hc
  ·
   rw [if_pos ‹_›] at hv
   cases hc; cases hv
   exact ⟨.v _, h1⟩
  cases hc)
 have hn' : ((n : Int)) ≤ 9223372036854775807 := by unfold maxLen at hn; omega
 have hb' : (inf.bytes : Int) * (n : Int) ≤ 281474976710656 := by
  have h : ((n * inf.bytes : Nat) : Int) ≤ 281474976710656 := by omega
  rw [Int.mul_comm]
  rwa [Int.natCast_mul] at h
 have hr := run_make (P := P) w t E inf z hu hi hz k k' (n : Int) (n : Int) (by omega) (Int.le_refl _) hb' hn'
 simp only [Int.toNat_natCast] at hr
 refine ⟨_, _, ρ', .inl ?_, k1, k2, fun v hv => by cases hv; exact .arr id 0 n n _ k3 (Nat.le_refl _) hn⟩
 refine runv (s := Instr.makeSlice t (a.eval x) (a.eval y)) ?_
 rw [(hs.ev h.1).raw, (hs.ev h.2.1).raw]
 exact hr
theorem OpS.b2sA {src d e : TypeId} {x : Operand} {id off n : Nat} {T : TypeId} {cs : List AV} {l : List UInt8} (hs : P.underlying src = some (.slice e)) (he : P.underlying e = some (.int .u8)) (hd : P.underlying d = some .string) (hn : n = l.length) (hl : (cs.drop off).take n = l.map bA) :
  OpS P G ⟨dst, .convert src d x, ty, pos, aft, gd⟩ [(x, .arr id off n)] [(id, .cells T cs)] ⟨some (.v (.string (B l))), [], []⟩ := by
 subst hn
 refine OpS.still fun A ρ σ a w _ h hp hst => ⟨_, ?_, .v _⟩
 refine runv (s := convert src d (a.eval x)) ?_
 have hx := hst.ev h.1
 obtain ⟨b, arr, k1, ⟨fz, hmk, k2⟩, k3, k4⟩ := hst.mem.heap id _ hp.1
 generalize a.eval x = y at hx ⊢
 cases hx with
 | arr id off n cap b' hb hn hm =>
  rw [k1] at hb
  cases hb
  refine run_b2s w src d e hs he hd _ cap l (fun j v hj => ?_)
  have hjl : j < l.length := by have := (List.getElem?_eq_some_iff.1 hj).1; simpa [bvs] using this
  have hc : cs[off + j]? = some (bA l[j]) := by
   have := congrArg (fun x => x[j]?) hl
   simp only [List.getElem?_take_of_lt hjl, List.getElem?_drop, List.getElem?_map, List.getElem?_eq_getElem hjl] at this
   exact this
  have hlt : off + j < arr.size := by have := (List.getElem?_eq_some_iff.1 hc).1; omega
  have := (k4 (off + j) _ arr[off + j] hc (Array.getElem?_eq_getElem hlt)).1.raw
  rw [Addr.add_mid, cell_of_row w b (off + j) arr T fz k2, Array.getElem?_eq_getElem hlt, this]
  simpa [bvs, hjl] using hj
end
theorem SEnt.thaw {A : Amb} {σ : AS} {t c n sz k m : Nat} {E : TypeId} {cs : List AV} (hs : σ.s t = some (.sl (some c) n cs)) (hc : σ.h c = some (.tip E sz n)) (hl : cs.length = n * sz) (h0 : 0 < n * sz) (hraw : ∀ x ∈ cs, ∃ v, x = .v v) (hk : A.nA ≤ k) (hm : k < m) (hAB : ∀ b, ¬ A.B b) :
  SEnt A σ ⟨σ.n, ls [(t, .arr k 0 n)], lh [(k, .cells E cs)], blt m⟩ := by
 intro ρ a w hst
 obtain ⟨x, hx, hv⟩ := hst.slots t _ hs
 have ho := hst.mem.heap c _ hc
 cases hv with
 | sl o n cs ad cap vals hcv hcs htip hn hz hmx =>
  have ht := htip c rfl
  rcases ho with ⟨h1, h2⟩ | ⟨g, cap', cur, h1, h2, h3, h4, h5⟩
  · subst h2; simp at h0
  rw [ht] at h1
  cases h1
  let ρ' : Env := ⟨fun i => if i < A.nA then ρ.blk i else if i = k then some g else none, fun i => if i < A.nA then ρ.tip i else none⟩
  have hkb : ρ'.blk k = some g := by show (if k < A.nA then _ else if k = k then some g else none) = _; rw [if_neg (by omega), if_pos rfl]
  have hown := hst.mem.ownB c _ g hc ⟨cap, ht⟩
  have hcell : ∀ i, i < cs.length → cur[i]? = some (vals i) := fun i hi => by
   obtain ⟨_, b, off, he, hx', _⟩ := hcv i hi
   cases he
   rw [cell_of_row w g (0 + i) cur E (0, 0) h2, Nat.zero_add] at hx'
   exact hx'
  refine ⟨ρ', ⟨⟨hst.mem.os, hst.mem.tape, hst.mem.output, hst.mem.size, hst.mem.block, hst.mem.keep, hst.mem.nlt, hst.mem.nw, hst.mem.wb, hst.mem.tabs, hst.mem.domB, hst.mem.domT, ?_, ?_, ?_, ?_, ?_, ?_, ?_⟩, ?_, hst.nt, hst.defers⟩⟩
  ·
   intro i hi
   refine ⟨blt_iff.2 (by omega), ?_, ?_⟩
   · show (if i < A.nA then ρ.blk i else _) = _; rw [if_pos hi]; exact (hst.mem.fix i hi).2.1
   show (if i < A.nA then ρ.tip i else _) = _; rw [if_pos hi]; exact (hst.mem.fix i hi).2.2
  ·
   intro i b hb
   have hb' : (if i < A.nA then ρ.blk i else if i = k then some g else none) = some b := hb
   refine blt_iff.2 ?_
   split at hb'
   · omega
   split at hb'
   · omega
   cases hb'
  ·
   intro i b hb
   have hb' : (if i < A.nA then ρ.tip i else none) = some b := hb
   refine blt_iff.2 ?_
   split at hb'
   · omega
   cases hb'
  ·
   intro i ob hi
   have hm' := lh_some hi
   simp only [List.mem_singleton, Prod.mk.injEq] at hm'
   obtain ⟨rfl, rfl⟩ := hm'
   refine ⟨g, cur, hkb, ⟨_, .inl rfl, h2⟩, ?_, fun j c' y hc' hy => ?_⟩
   · rw [hl, h5]; exact Nat.mul_le_mul_right _ h3
   have hj := (List.getElem?_eq_some_iff.1 hc').1
   have hy' : y = vals j := by rw [hcell j hj] at hy; injection hy with hy; exact hy.symm
   subst hy'
   obtain ⟨v, rfl⟩ := hraw c' (List.mem_of_getElem? hc')
   have := (hcs j _ hc').raw
   rw [this]
   have h1' := (hcv j hj).1
   rw [this] at h1'
   exact ⟨.v v, h1'⟩
  ·
   intro i ob b o hi hw
   have hm' := lh_some hi
   simp only [List.mem_singleton, Prod.mk.injEq] at hm'
   obtain ⟨rfl, rfl⟩ := hm'
   have hw' : ρ'.blk i = some b := hw
   rw [hkb] at hw'
   cases hw'
   exact .inr (hown.resolve_left (hAB _))
  ·
   intro i ob b hi hw
   have hm' := lh_some hi
   simp only [List.mem_singleton, Prod.mk.injEq] at hm'
   obtain ⟨rfl, rfl⟩ := hm'
   have hw' : ρ'.blk i = some b := hw
   rw [hkb] at hw'
   cases hw'
   exact hown
  ·
   intro i j oi oj b hi hj _ _
   have h1' := lh_some hi
   have h2' := lh_some hj
   simp only [List.mem_singleton, Prod.mk.injEq] at h1' h2'
   rw [h1'.1, h2'.1]
  intro t' v' ht'
  have hm' := ls_some ht'
  simp only [List.mem_singleton, Prod.mk.injEq] at hm'
  obtain ⟨rfl, rfl⟩ := hm'
  exact ⟨_, hx, .arr k 0 n cap g hkb hn hmx⟩
end Go.Proofs.YtpnbpcopdckgpaaGreatDoor.E
namespace Go.Proofs.YtpnbpcopdckgpaaGreatDoor.E
open Go Go.RowKit V
theorem HSat.fr {A : Amb} {h : Nat → Option AO} {u : Nat → Bool} {ρ : Env} {w w' : World} (H : HSat A ρ h u w) (hf : Fr [] w w') : HSat A ρ h u w' ∧ (∀ av x, VRel (Nh A h ρ w) ρ w av x → VRel (Nh A h ρ w') ρ w' av x) ∧ ∀ b o, w.heap.size ≤ b → b < w'.heap.size → Nh A h ρ w' b o :=
 H.grow hf.os hf.tape hf.output hf.size (fun k hk => hf.block k hk (by simp))
theorem FC.of_calls {P : Program} {G : List (Nat × Array Value)} {f : FuncId} {fn : Func} {c : Code} {args : List AV} {r : Value} (hf : P.funcs[f]? = some fn) (hname : (fn.name == "runtime.NumGoroutine") = false) (hb : fn.body = some c) (belA : AV.belL (blt 0) args)
  (h : ∀ (A : Amb) (vs : Array Value), A.G = G → HSat A A.ρ (hl []) (blt 0) A.w → vs.size = args.length → (∀ (i : Nat) (c : AV) (x : Value), args[i]? = some c → vs[i]? = some x → VRel (Nh A (hl []) A.ρ A.w) A.ρ A.w c x) →
   Calls P f vs A.w fun e w' => e = .returned r ∧ Fr [] A.w w') : FC P G f args [] (.v r) [] := by
 refine ⟨⟨fn, c, hf, hname, hb⟩, belA, trivial, Nat.le_refl _, ?_⟩
 intro A vs hG hnA HS hAB hsz hargs
 refine (h A vs hG HS hsz hargs).mono ?_
 rintro e w' ⟨rfl, hfr⟩
 exact ⟨r, A.ρ, rfl, (HS.fr hfr).1, .v r⟩
theorem tab_of {A : Amb} {h : Nat → Option AO} {u : Nat → Bool} {ρ : Env} {w : World} (H : HSat A ρ h u w) {G : List (Nat × Array Value)} (hG : A.G = G) {g : Nat} {arr : Array Value} (hm : (g, arr) ∈ G) : ∃ T, w.heap[g]? = some (.cells arr T (0, 0)) := by
 obtain ⟨⟨T, h1⟩, h2⟩ := H.tabs _ (by rw [hG]; exact hm)
 exact ⟨T, (H.block g (Array.getElem?_eq_some_iff.1 h1).1 h2).trans h1⟩
def allN (w : World) : Nat → Nat → Prop := fun b _ => b < w.heap.size
def noE : Env := ⟨fun _ => none, fun _ => none⟩
theorem FC.calls {P : Program} {G : List (Nat × Array Value)} {f : FuncId} {args : List AV} {r : Value} (F : FC P G f args [] (.v r) []) (w : World) (hT : ∀ x ∈ G, ∃ T, w.heap[x.1]? = some (.cells x.2 T (0, 0))) (vs : Array Value) (hsz : vs.size = args.length)
  (hargs : ∀ (i : Nat) (c : AV) (x : Value), args[i]? = some c → vs[i]? = some x → VRel (allN w) noE w c x) : Calls P f vs w fun e w' => e = .returned r ∧ Fr [] w w' := by
 let A : Amb := ⟨w, allN w, fun _ _ => False, fun _ => False, 0, G, noE⟩
 have hno : ∀ i ob, hl [] i = some ob → False := fun i ob h => by have := (hl_some h).1; simp at this
 have HS : HSat A noE (hl []) (blt 0) w :=
  ⟨rfl, rfl, rfl, Nat.le_refl _, fun _ _ _ => rfl, fun _ _ _ => rfl, fun _ _ h => h, fun _ _ _ h => h, fun _ _ h => h, fun x hx => ⟨hT x hx, fun h => h⟩, (fun _ _ h => by cases h), (fun _ _ h => by cases h), (fun i hi => by cases hi), (fun _ _ h => by cases h), (fun _ _ h => by cases h),
   fun i ob h => (hno i ob h).elim, fun i ob _ _ h => (hno i ob h).elim, fun i ob _ h => (hno i ob h).elim, fun i j oi oj b h => (hno i oi h).elim⟩
 refine (F.call A vs rfl rfl HS (fun _ h => h.elim) hsz (fun i c x hc hx => (hargs i c x hc hx).mono (fun b o hb => ⟨hb, .inl hb, fun i ob h => (hno i ob h).elim⟩) (Env.le_refl _) (fun _ _ _ => rfl))).mono ?_
 rintro e w' ⟨v, ρ', rfl, HS', hv⟩
 refine ⟨by rw [hv.raw], ⟨HS'.os, HS'.tape, HS'.output, HS'.size, fun k hk _ => HS'.block k hk (fun h => h)⟩⟩
theorem FC.conv {P : Program} {G : List (Nat × Array Value)} {f : FuncId} {args : List AV} {H H' H'' : List (Option AO)} {res res' : AV} (F : FC P G f args H res H') (hlen : H.length ≤ H''.length)
  (h : ∀ A : Amb, A.nA = H.length → A.G = G → (∀ b, A.B b → ∃ i ob, hl H i = some ob ∧ ob.at_ A.ρ i b) → SEnt A ⟨1, ls [(0, res)], hl H', blt H'.length⟩ ⟨1, ls [(0, res')], hl H'', blt H''.length⟩) : FC P G f args H res' H'' := by
 refine ⟨F.enter, F.belA, F.belH, hlen, ?_⟩
 intro A vs hG hnA HS hAB hsz hargs
 refine (F.call A vs hG hnA HS hAB hsz hargs).mono ?_
 rintro e w' ⟨v, ρ', rfl, HS', hv⟩
 have hst : Sat A ρ' ⟨1, ls [(0, res)], hl H', blt H'.length⟩ ⟨#[v], []⟩ w' := by
  refine ⟨HS', ?_, rfl, rfl⟩
  intro t x hx
  have := ls_some hx
  simp at this
  obtain ⟨rfl, rfl⟩ := this
  exact ⟨v, rfl, hv⟩
 obtain ⟨ρ'', hs'⟩ := h A hnA hG hAB _ _ _ hst
 obtain ⟨x, hx, hv'⟩ := hs'.slots 0 res' rfl
 cases hx
 exact ⟨v, ρ'', rfl, hs'.mem, hv'⟩
theorem hl_one (x : AO) : hl [some x] = lh [(0, x)] := by
 funext i
 cases i with
 | zero => rfl
 | succ i => rfl
theorem FC.thaw {P : Program} {G : List (Nat × Array Value)} {f : FuncId} {args : List AV} {n sz : Nat} {E : TypeId} {cs : List AV} (F : FC P G f args [] (.sl (some 0) n cs) [some (.tip E sz n)]) (hc : cs.length = n * sz) (h0 : 0 < n * sz) (hraw : ∀ x ∈ cs, ∃ v, x = .v v) :
  FC P G f args [] (.arr 0 0 n) [some (.cells E cs)] := by
 refine F.conv (Nat.zero_le _) fun A hnA _ hAB => ?_
 rw [hl_one, hl_one]
 exact SEnt.thaw (σ := ⟨1, ls [(0, .sl (some 0) n cs)], lh [(0, .tip E sz n)], _⟩) rfl rfl hc h0 hraw (by rw [hnA]; exact Nat.zero_le _) (Nat.lt_succ_self 0) (fun b hb => by obtain ⟨i, ob, h, -⟩ := hAB b hb; have := (hl_some h).1; simp at this)
theorem FC.shut {P : Program} {G : List (Nat × Array Value)} {f : FuncId} {args : List AV} {n : Nat} {o : Option Nat} {cs : List AV} {H' : List (Option AO)} (F : FC P G f args [] (.sl o n cs) H') (hb : AV.belL (blt 0) cs) (hr : AV.renL (rn []) cs = cs) : FC P G f args [] (.sl none n cs) [] := by
 refine F.conv (Nat.le_refl _) fun A hnA _ hAB => ?_
 refine (Ent.of (l := [(0, .sl none n cs)]) (lo := []) (m := 0) [] (fun i hi => by rw [hnA] at hi; cases hi) ⟨⟨⟨by simp, hb⟩, _, rfl, by
  have : AV.ren (rn []) (.sl none n cs) = .sl none n cs := by simp [AV.ren, hr]
  rw [this]; exact .untip _ _ _⟩, trivial⟩ trivial (by simp)).se
theorem SEnt.freeze {A : Amb} {σ : AS} {t c n m : Nat} {E : TypeId} {cs : List AV} (hs : σ.s t = some (.arr c 0 n)) (hc : σ.h c = some (.cells E cs)) (hl : cs.length = n) (hraw : ∀ x ∈ cs, ∃ v, x = .v v) (hk : A.nA ≤ m) :
  SEnt A σ ⟨σ.n, ls [(t, .sl none n cs)], lh [], blt m⟩ := by
 intro ρ a w hst
 obtain ⟨x, hx, hv⟩ := hst.slots t _ hs
 obtain ⟨b', arr, h1, ⟨fz, hmk, h2⟩, h3, h4⟩ := hst.mem.heap c _ hc
 cases hv with
 | arr _ _ _ cap b hb hn hmx =>
  obtain rfl : b = b' := by rw [hb] at h1; exact Option.some.inj h1
  let ρ' : Env := ⟨fun i => if i < A.nA then ρ.blk i else none, fun i => if i < A.nA then ρ.tip i else none⟩
  refine ⟨ρ', ⟨⟨hst.mem.os, hst.mem.tape, hst.mem.output, hst.mem.size, hst.mem.block, hst.mem.keep, hst.mem.nlt, hst.mem.nw, hst.mem.wb, hst.mem.tabs, hst.mem.domB, hst.mem.domT, ?_, ?_, ?_, ?_, ?_, ?_, ?_⟩, ?_, hst.nt, hst.defers⟩⟩
  ·
   intro i hi
   refine ⟨blt_iff.2 (by omega), ?_, ?_⟩
   · show (if i < A.nA then ρ.blk i else _) = _; rw [if_pos hi]; exact (hst.mem.fix i hi).2.1
   show (if i < A.nA then ρ.tip i else _) = _; rw [if_pos hi]; exact (hst.mem.fix i hi).2.2
  ·
   intro i b hb
   have hb' : (if i < A.nA then ρ.blk i else none) = some b := hb
   refine blt_iff.2 ?_
   split at hb'
   · omega
   cases hb'
  ·
   intro i b hb
   have hb' : (if i < A.nA then ρ.tip i else none) = some b := hb
   refine blt_iff.2 ?_
   split at hb'
   · omega
   cases hb'
  · intro i ob hi; cases hi
  · intro i ob b o hi; cases hi
  · intro i ob b hi; cases hi
  · intro i j oi oj b hi; cases hi
  intro t' v' ht'
  have hm' := ls_some ht'
  simp only [List.mem_singleton, Prod.mk.injEq] at hm'
  obtain ⟨rfl, rfl⟩ := hm'
  refine ⟨_, hx, .sl none n cs (some ⟨b, 0, none⟩) cap (fun i => arr.getD i undef) (fun i hi => ?_) (fun i c' hc' => ?_) (fun k hk => by cases hk) hn (fun h => by cases h) hmx⟩
  ·
   have hlt : i < arr.size := by omega
   have hg : arr[i]? = some (arr.getD i undef) := by simp [Array.getD, hlt]
   obtain ⟨c', hc'⟩ : ∃ c', cs[i]? = some c' := ⟨_, List.getElem?_eq_getElem hi⟩
   refine ⟨(h4 i c' _ hc' hg).2, b, 0, rfl, ?_, (Array.getElem?_eq_some_iff.1 h2).1, ?_, fun i ob h => by cases h⟩
   · rw [cell_of_row w b (0 + i) arr E fz h2, Nat.zero_add]; exact hg
   exact .inr (hst.mem.own c _ b (0 + i) hc hb)
  have hi := (List.getElem?_eq_some_iff.1 hc').1
  have hlt : i < arr.size := by omega
  have hg : arr[i]? = some (arr.getD i undef) := by simp [Array.getD, hlt]
  obtain ⟨v, rfl⟩ := hraw c' (List.mem_of_getElem? hc')
  have := (h4 i _ _ hc' hg).1.raw
  show VRel _ _ _ _ (arr.getD i undef)
  rw [this]
  exact .v v
theorem OpS.rem {P : Program} {G : List (Nat × Array Value)} {t t' : TypeId} {x y : Operand} {k : IntKind} {a b : Int} (ha : 0 ≤ a) (hb : 0 < b) {dst : Option Tmp} {ty : TypeId} {pos : String} {aft : Array Edge} {gd : Option (Nat × Bool)} :
  OpS P G ⟨dst, .binOp .rem t x y t', ty, pos, aft, gd⟩ [(x, .v (.int k a)), (y, .v (.int k b))] [] ⟨some (.v (.int k (a % b))), [], []⟩ := by
 refine OpS.binR rfl fun w => ?_
 simp only [binOp, Op.intDiv]
 rw [if_neg (show ¬ b = 0 by omega), Int.tmod_eq_emod_of_nonneg ha, if_neg (show ¬ (k ≠ k) by simp)]
 rfl
theorem OpS.quo {P : Program} {G : List (Nat × Array Value)} {t t' : TypeId} {x y : Operand} {a b : Int} (ha : 0 ≤ a) (ha' : a < 9223372036854775808) (hb : 0 < b) {dst : Option Tmp} {ty : TypeId} {pos : String} {aft : Array Edge} {gd : Option (Nat × Bool)} :
  OpS P G ⟨dst, .binOp .quo t x y t', ty, pos, aft, gd⟩ [(x, .v (.int .i64 a)), (y, .v (.int .i64 b))] [] ⟨some (.v (.int .i64 (a / b))), [], []⟩ := by
 refine OpS.binR rfl fun w => ?_
 simp only [binOp, Op.intDiv]
 rw [if_neg (show ¬ b = 0 by omega), Int.tdiv_eq_ediv_of_nonneg ha, IntKind.wrap_i64]
 have h1 := Int.ediv_nonneg ha (Int.le_of_lt hb)
 have h2 : a / b ≤ a := Int.ediv_le_self b ha
 have : (a / b + 9223372036854775808) % 18446744073709551616 - 9223372036854775808 = a / b := by omega
 first | (rw [this]; rfl) | rfl
theorem Ret.row {A : Amb} {n : Nat} {s : Nat → Option AV} {h : Nat → Option AO} {u : Nat → Bool} {t : Tmp} {v res : AV} {ob : AO} (i : Nat) (hs : s t = some v) (hk : v.wk (res.ren (rn [i]))) (hb : res.bel (blt 1)) (hh : h i = some (ob.ren (rn [i]))) (ho : ob.bel (blt 1)) (hA : A.nA = 0) : Ret A [t] res [some ob] .ret ⟨n, s, h, u⟩ :=
 (Ret.of (rs := [t]) (vs := [res]) (H' := [some ob]) (res := res) [i] (fun j hj => by rw [hA] at hj; cases hj) ⟨⟨hb, v, hs, hk⟩, trivial⟩ rfl ⟨⟨ho, hh⟩, trivial⟩ (by simp) (show ls [(t, res)] t = some res by simp [ls])).1
section
variable {P : Program} {G : List (Nat × Array Value)} {l r : List Oper} {K : AS → Prop} {n : Nat} {s : Nat → Option AV} {h : Nat → Option AO} {u : Nat → Bool} {d : Tmp} {ty : TypeId} {pos : String} {aft : Array Edge} {gd : Option (Nat × Bool)} {D : Bool} {acc : List St}
theorem pi_nil (b j : Nat) : pi [] b j = b + j := rfl
theorem Ch.callN {f : FuncId} {args : List AV} {res : AV} {ob : AO} (b : Nat) (F : FC P G f args [] res [some ob]) {xs : List Operand} {ys : List AV} {ats : Array TypeId}
  (hg : GdOk l.toArray ⟨some d, .call ⟨.value (.func f), xs.toArray, ats⟩, ty, pos, aft, gd⟩ ⟨n, s, h, u⟩ true) (hev : EvL ⟨n, s, h, u⟩ xs ys) (hwk : WkL ys (args.map (AV.ren (pi [] b)))) {res' : AV} {ob' : AO} (hres : res.ren (pi [] b) = res') (hob : ob.ren (pi [] b) = ob') (h3 : NuOk ⟨n, s, h, u⟩ [b]) (hd : Nat.blt d n = true)
  (hr : Ch P G l D K (⟨true, xs.zip ys, [], ⟨some res', [(b, some ob')], [b]⟩⟩ :: acc) r ⟨n, upd s d (some res'), chs h [(b, some ob')], nuU u [b]⟩) :
  Ch P G l D K acc (⟨some d, .call ⟨.value (.func f), xs.toArray, ats⟩, ty, pos, aft, gd⟩ :: r) ⟨n, s, h, u⟩ := by
 subst hres
 subst hob
 exact Ch.call F [] b hg hev hwk rfl (by simp) (by simp) trivial h3 hd hr
theorem Ch.callT {f : FuncId} {args : List AV} {E : TypeId} {sz m k : Nat} {cs : List AV} (b : Nat) (F : FC P G f args [] (.sl (some 0) m cs) [some (.tip E sz k)]) {xs : List Operand} {ys : List AV} {ats : Array TypeId}
  (hg : GdOk l.toArray ⟨some d, .call ⟨.value (.func f), xs.toArray, ats⟩, ty, pos, aft, gd⟩ ⟨n, s, h, u⟩ true) (hev : EvL ⟨n, s, h, u⟩ xs ys) (hwk : WkL ys (args.map (AV.ren (pi [] b)))) (hc : AV.renL (pi [] b) cs = cs) (h3 : NuOk ⟨n, s, h, u⟩ [b]) (hd : Nat.blt d n = true)
  (hr : Ch P G l D K (⟨true, xs.zip ys, [], ⟨some (.sl (some b) m cs), [(b, some (.tip E sz k))], [b]⟩⟩ :: acc) r ⟨n, upd s d (some (.sl (some b) m cs)), chs h [(b, some (.tip E sz k))], nuU u [b]⟩) :
  Ch P G l D K acc (⟨some d, .call ⟨.value (.func f), xs.toArray, ats⟩, ty, pos, aft, gd⟩ :: r) ⟨n, s, h, u⟩ :=
 Ch.callN b F hg hev hwk (by simp [AV.ren, hc, pi_nil]) (by simp [AO.ren]) h3 hd hr
theorem Ch.callA {f : FuncId} {args : List AV} {E : TypeId} {m : Nat} {cs : List AV} (b : Nat) (F : FC P G f args [] (.arr 0 0 m) [some (.cells E cs)]) {xs : List Operand} {ys : List AV} {ats : Array TypeId}
  (hg : GdOk l.toArray ⟨some d, .call ⟨.value (.func f), xs.toArray, ats⟩, ty, pos, aft, gd⟩ ⟨n, s, h, u⟩ true) (hev : EvL ⟨n, s, h, u⟩ xs ys) (hwk : WkL ys (args.map (AV.ren (pi [] b)))) (hc : AV.renL (pi [] b) cs = cs) (h3 : NuOk ⟨n, s, h, u⟩ [b]) (hd : Nat.blt d n = true)
  (hr : Ch P G l D K (⟨true, xs.zip ys, [], ⟨some (.arr b 0 m), [(b, some (.cells E cs))], [b]⟩⟩ :: acc) r ⟨n, upd s d (some (.arr b 0 m)), chs h [(b, some (.cells E cs))], nuU u [b]⟩) :
  Ch P G l D K acc (⟨some d, .call ⟨.value (.func f), xs.toArray, ats⟩, ty, pos, aft, gd⟩ :: r) ⟨n, s, h, u⟩ :=
 Ch.callN b F hg hev hwk (by simp [AV.ren, pi_nil]) (by simp [AO.ren, hc]) h3 hd hr
end
attribute [simp] AV.ren AV.renL renL_append renL_w renL_b renL_s renL_i ren_w ren_b ren_s ren_i rn wA bA sA iA bv AV.bel AV.belL belL_w belL_b belL_s belL_i bel_w bel_b bel_s bel_i AO.bel AO.ren belH blt chs upd lh hl
end Go.Proofs.YtpnbpcopdckgpaaGreatDoor.E
namespace Go.Proofs.YtpnbpcopdckgpaaGreatDoor.E
open Go Go.RowKit V
theorem VRel.part {N : Nat → Nat → Prop} {ρ : Env} {w : World} {o : Option Nat} {n : Nat} {cs : List AV} {a : Option Addr} {n' cap : Nat} (h : VRel N ρ w (.sl o n cs) (.slice a n' cap)) {l m : Nat} (sz : Nat) (h1 : l ≤ m) (h2 : m ≤ n) :
  VRel N ρ w (.sl none (m - l) ((cs.drop (l * sz)).take ((m - l) * sz))) (sliced a l m cap sz) := by
 cases h with
 | sl o n cs a cap vals hc hcs ho hn hz hm =>
  unfold sliced
  by_cases hl : cap = l
  ·
   have h0 : m - l = 0 := by omega
   rw [h0, Nat.zero_mul, List.take_zero]
   refine .sl _ _ _ _ _ vals (fun i hi => by cases hi) (fun i c hc' => by simp at hc') (fun k hk => by cases hk) (by omega) (fun _ => rfl) (by omega)
  rw [if_neg hl]
  refine .sl _ _ _ _ _ (fun i => vals (l * sz + i)) (fun i hi => ?_) (fun i c hc' => ?_) (fun k hk => by cases hk) (by omega) (fun ha => ?_) (by omega)
  ·
   have hi' : l * sz + i < cs.length := by simp at hi; omega
   obtain ⟨k1, b, off, rfl, k2, k3⟩ := hc _ hi'
   refine ⟨k1, b, off + l * sz, by simp [Addr.add_mid], ?_, ?_⟩
   · rw [Nat.add_assoc]; exact k2
   rw [Nat.add_assoc]; exact k3
  ·
   rw [List.getElem?_take] at hc'
   split at hc'
   ·
    rw [List.getElem?_drop] at hc'
    exact hcs _ _ hc'
   cases hc'
  cases a with
  | none => have := hz rfl; omega
  | some a => cases ha
theorem VRel.isSl {N : Nat → Nat → Prop} {ρ : Env} {w : World} {o : Option Nat} {n : Nat} {cs : List AV} {x : Value} (h : VRel N ρ w (.sl o n cs) x) : ∃ a cap, x = .slice a n cap ∧ n ≤ cap := by
 cases h with
 | sl o n cs a cap vals hc hcs ho hn hz hm => exact ⟨a, cap, rfl, hn⟩
section
variable {P : Program} {G : List (Nat × Array Value)} {dst : Option Tmp} {ty : TypeId} {pos : String} {aft : Array Edge} {gd : Option (Nat × Bool)}
theorem run_sizeOf {e : TypeId} {inf : TypeInfo} (hi : P.info? e = some inf) (w : World) : (sizeOf e).run P w = .ok inf.size w := by
 simp [sizeOf, typeInfo, hi, Sem.run_bind, Sem.run_pure]
theorem elem_of {t e : TypeId} (hu : P.underlying t = some (.slice e)) : P.elem t = e := by
 simp [Program.elem, hu]
theorem OpS.slH {t e : TypeId} {inf : TypeInfo} {x j : Operand} {o : Option Nat} {n sz : Nat} {cs : List AV} {k : IntKind} {b : Int} {m : Nat} (hu : P.underlying t = some (.slice e)) (hi : P.info? e = some inf) (hz : inf.size = sz) (hb : b.toNat = m) (h0 : 0 ≤ b) (h1 : b ≤ (n : Int)) :
  OpS P G ⟨dst, .slice t x none (some j) none, ty, pos, aft, gd⟩ [(x, .sl o n cs), (j, .v (.int k b))] [] ⟨some (.sl none m (cs.take (m * sz))), [], []⟩ := by
 subst hb; subst hz
 refine OpS.still fun A ρ σ a' w _ h _ hs => ?_
 have hx := hs.ev h.1
 obtain ⟨ad, cap, he, hc⟩ := hx.isSl
 rw [he] at hx
 refine ⟨sliced ad 0 b.toNat cap inf.size, ?_, ?_⟩
 ·
  refine runv (s := Instr.sliceAt t (a'.eval x) none (some (a'.eval j)) none) ?_
  rw [he, (hs.ev h.2.1).raw]
  have hu' : P.underlying t = some (.slice (P.elem t)) := by rw [elem_of hu]; exact hu
  rw [run_sliceAt_slice w t _ _ _ _ hu', run_slice_h w t ad n cap hu' k b h0 (by omega), elem_of hu, run_sizeOf hi]
  rfl
 have := hx.part (l := 0) (m := b.toNat) inf.size (by omega) (by omega)
 simpa using this
theorem natb_eq (a b : Nat) : Value.bool (((a : Int)) == ((b : Nat) : Int)) = Value.bool (decide (a = b)) := by
 congr 1
 rw [Bool.eq_iff_iff]
 simp
 omega
theorem OpS.maxI {x y : Operand} {ats : Array TypeId} {k k' : IntKind} {a b c : Int} (hc : (if b > a then b else a) = c) :
  OpS P G ⟨dst, .call ⟨.builtin .max, #[x, y], ats⟩, ty, pos, aft, gd⟩ [(x, .v (.int k a)), (y, .v (.int k' b))] [] ⟨some (.v (.int k c)), [], []⟩ := by
 subst hc
 refine OpS.still fun A ρ σ a' w _ h _ hs => ⟨_, ?_, .v _⟩
 obtain ⟨cs, he⟩ := exec_b2 a'.eval .max x y ats (dst := dst) (ty := ty) (pos := pos) (aft := aft) (gd := gd)
 rw [he]
 refine runv (s := Builtin.max_ ats ty #[a'.eval x, a'.eval y]) ?_
 rw [(hs.ev h.1).raw, (hs.ev h.2.1).raw]
 exact run_max_int2 w ats ty k k' a b
theorem OpS.minI {x y : Operand} {ats : Array TypeId} {k k' : IntKind} {a b c : Int} (hc : (if b < a then b else a) = c) :
  OpS P G ⟨dst, .call ⟨.builtin .min, #[x, y], ats⟩, ty, pos, aft, gd⟩ [(x, .v (.int k a)), (y, .v (.int k' b))] [] ⟨some (.v (.int k c)), [], []⟩ := by
 subst hc
 refine OpS.still fun A ρ σ a' w _ h _ hs => ⟨_, ?_, .v _⟩
 obtain ⟨cs, he⟩ := exec_b2 a'.eval .min x y ats (dst := dst) (ty := ty) (pos := pos) (aft := aft) (gd := gd)
 rw [he]
 refine runv (s := Builtin.min_ ats ty #[a'.eval x, a'.eval y]) ?_
 rw [(hs.ev h.1).raw, (hs.ev h.2.1).raw]
 exact run_min_int2 w ats ty k k' a b
theorem bits_nat (f : Nat → Nat → Nat) (g : BitVec 64 → BitVec 64 → BitVec 64) (hg : ∀ x y, (g x y).toNat = f x.toNat y.toNat) (hf : ∀ a b : Nat, a < 2 ^ 63 → b < 2 ^ 63 → f a b < 2 ^ 63) (a b : Nat) (ha : a < 2 ^ 63) (hb : b < 2 ^ 63) :
  IntKind.i64.wrap ((g (BitVec.ofInt 64 (a : Int)) (BitVec.ofInt 64 (b : Int))).toNat : Int) = ((f a b : Nat) : Int) := by
 have e : ∀ n : Nat, n < 2 ^ 63 → (BitVec.ofInt 64 (n : Int)).toNat = n := fun n hn => by
  rw [BitVec.toNat_ofInt]
  omega
 rw [hg, e a ha, e b hb]
 have := wr64 (n := ((f a b : Nat) : Int)) (by have := hf a b ha hb; omega)
 injection this
theorem OpS.xorN {t t' : TypeId} {x y : Operand} {a b : Nat} (ha : a < 2 ^ 63) (hb : b < 2 ^ 63) :
  OpS P G ⟨dst, .binOp .xor t x y t', ty, pos, aft, gd⟩ [(x, .v (.int .i64 (a : Int))), (y, .v (.int .i64 (b : Int)))] [] ⟨some (.v (.int .i64 ((a ^^^ b : Nat) : Int))), [], []⟩ :=
 OpS.binR rfl fun w => by
  show (Op.intBits .xor .i64 (a : Int) (b : Int)).run P w = _
  unfold Op.intBits
  show Result.ok (Value.int .i64 (IntKind.i64.wrap ((BitVec.ofInt 64 (a : Int) ^^^ BitVec.ofInt 64 (b : Int)).toNat : Int))) w = _
  rw [bits_nat (· ^^^ ·) (· ^^^ ·) (fun x y => BitVec.toNat_xor x y) (fun a b ha hb => Nat.xor_lt_two_pow ha hb) a b ha hb]
theorem OpS.andN {t t' : TypeId} {x y : Operand} {a b : Nat} (ha : a < 2 ^ 63) (hb : b < 2 ^ 63) :
  OpS P G ⟨dst, .binOp .and t x y t', ty, pos, aft, gd⟩ [(x, .v (.int .i64 (a : Int))), (y, .v (.int .i64 (b : Int)))] [] ⟨some (.v (.int .i64 ((a &&& b : Nat) : Int))), [], []⟩ :=
 OpS.binR rfl fun w => by
  show (Op.intBits .and .i64 (a : Int) (b : Int)).run P w = _
  unfold Op.intBits
  show Result.ok (Value.int .i64 (IntKind.i64.wrap ((BitVec.ofInt 64 (a : Int) &&& BitVec.ofInt 64 (b : Int)).toNat : Int))) w = _
  rw [bits_nat (· &&& ·) (· &&& ·) (fun x y => BitVec.toNat_and x y) (fun a b ha hb => Nat.and_lt_two_pow a hb) a b ha hb]
theorem OpS.strEqB {t t' : TypeId} {x y : Operand} {a b : List UInt8} {c : Bool} (h : decide (a = b) = c) :
  OpS P G ⟨dst, .binOp .eql t x y t', ty, pos, aft, gd⟩ [(x, .v (.string (B a))), (y, .v (.string (B b)))] [] ⟨some (.v (.bool c)), [], []⟩ := by
 subst h
 exact OpS.strEql
theorem OpS.strNeB {t t' : TypeId} {x y : Operand} {a b : List UInt8} {c : Bool} (h : (!decide (a = b)) = c) :
  OpS P G ⟨dst, .binOp .neq t x y t', ty, pos, aft, gd⟩ [(x, .v (.string (B a))), (y, .v (.string (B b)))] [] ⟨some (.v (.bool c)), [], []⟩ := by
 subst h
 exact OpS.strNeq
theorem OpS.negI {t : TypeId} {x : Operand} {a b : Int} (hb : b = -a) (h : -9223372036854775808 ≤ b ∧ b < 9223372036854775808) :
  OpS P G ⟨dst, .unOp .neg t x, ty, pos, aft, gd⟩ [(x, .v (.int .i64 a))] [] ⟨some (.v (.int .i64 b)), [], []⟩ :=
 OpS.unR fun w => by
  subst hb
  have e : (-a) = 0 - a := by omega
  show Result.ok (Value.int .i64 (IntKind.i64.wrap (0 - a))) w = _
  rw [e] at h ⊢
  rw [wr64 h]
theorem OpS.makeTip {t E : TypeId} {inf : TypeInfo} {z : Value} {x y : Operand} {k k' : IntKind} {m c : Int} {n sz bb : Nat} (id : Nat) (hu : P.underlying t = some (.slice E)) (hi : P.info? E = some inf) (hz : inf.zero = some z) (hsz : inf.size = sz) (hm : m = 0) (hc : c = (n : Int))
  (hbb : inf.bytes = bb) (hb : n * bb ≤ 281474976710656) (hn : n ≤ maxLen) :
  OpS P G ⟨dst, .makeSlice t x y, ty, pos, aft, gd⟩ [(x, .v (.int k m)), (y, .v (.int k' c))] [] ⟨some (.sl (some id) 0 []), [(id, some (.tip E sz 0))], [id]⟩ := by
 subst hm; subst hc; subst hsz; subst hbb
 refine OpS.act fun A ρ σ a w _ h hp hnu hs => ?_
 have hn' : ((n : Int)) ≤ 9223372036854775807 := by unfold maxLen at hn; omega
 have hb' : (inf.bytes : Int) * (n : Int) ≤ 281474976710656 := by
  have h : ((n * inf.bytes : Nat) : Int) ≤ 281474976710656 := by omega
  rw [Int.mul_comm]
  rwa [Int.natCast_mul] at h
 have hr := run_make (P := P) w t E inf z hu hi hz k k' 0 (n : Int) (by omega) (by omega) hb' hn'
 simp only [Int.toNat_natCast] at hr
 let ρ' : Env := ⟨ρ.blk, upd ρ.tip id (some (.slice (some ⟨w.heap.size, 0, none⟩) 0 n))⟩
 have hid : ρ'.tip id = some (.slice (some ⟨w.heap.size, 0, none⟩) 0 n) := upd_same _ _ _
 obtain ⟨m1, m2⟩ := hs.mem.extend (ρ' := ρ') (ob := .tip E inf.size 0) (w' := w.alloc (.cells (madeCells z.cells (n * inf.size)) E)) hnu.1 (fun i hi => ⟨rfl, upd_ne _ _ hi⟩) rfl rfl rfl (by simp) (fun k hk => Below.heap_alloc w _ k hk)
  (fun b ⟨cap, hb⟩ => by rw [hid] at hb; cases hb; exact Nat.le_refl _) (fun _ => .inr ⟨w.heap.size, n, _, hid, heap_alloc_new w _, Nat.zero_le _, hn, by simp [madeCells]⟩)
 refine ⟨_, _, ρ', .inl ?_, m1, m2, fun v hv => by
  cases hv
  exact .sl _ _ _ _ n (fun _ => undef) (fun i hi => by cases hi) (fun i c hc => by simp at hc) (fun k hk => by cases hk; exact hid) (Nat.zero_le _) (fun h => by cases h) hn⟩
 refine runv (s := Instr.makeSlice t (a.eval x) (a.eval y)) ?_
 rw [(hs.ev h.1).raw, (hs.ev h.2.1).raw]
 exact hr
theorem OpS.makeS {t E : TypeId} {inf : TypeInfo} {z : Value} {x y : Operand} {k k' : IntKind} {m : Int} {n bb : Nat} {cs : List AV} (hu : P.underlying t = some (.slice E)) (hi : P.info? E = some inf) (hz : inf.zero = some z) (hsz : inf.size = 1) (hzc : z.cells = #[z]) (h1 : z.oneCell' = true) (hm : m = (n : Int))
  (hcs : List.replicate n (.v z) = cs) (hbb : inf.bytes = bb) (hb : n * bb ≤ 281474976710656) (hn : n ≤ maxLen) :
  OpS P G ⟨dst, .makeSlice t x y, ty, pos, aft, gd⟩ [(x, .v (.int k m)), (y, .v (.int k' m))] [] ⟨some (.sl none n cs), [], []⟩ := by
 subst hm; subst hcs; subst hbb
 refine OpS.act fun A ρ σ a w _ h hp hu' hs => ?_
 have hl : (madeCells z.cells (n * inf.size)).toList = List.replicate n z := by rw [hzc, hsz, Nat.mul_one, madeCells_one]
 obtain ⟨k1, k2, k3⟩ := new_slice (w' := w.alloc (.cells (madeCells z.cells (n * inf.size)) E)) (T := E) (fz := (0, 0)) (cs := List.replicate n (.v z)) (n := n) (cap := n) hs.mem rfl rfl rfl (by simp) (fun k hk => Below.heap_alloc w _ k hk) (heap_alloc_new w _)
  (by rw [List.length_replicate, ← Array.length_toList, hl, List.length_replicate]; exact Nat.le_refl _) (Nat.le_refl _) hn (fun j c v hc hv => by
  rw [← Array.getElem?_toList, hl] at hv
  rw [List.getElem?_replicate] at hc hv
  split at hc
  ·
   rw [if_pos ‹_›] at hv
   cases hc; cases hv
   exact ⟨.v _, h1⟩
  cases hc)
 have hn' : ((n : Int)) ≤ 9223372036854775807 := by unfold maxLen at hn; omega
 have hb' : (inf.bytes : Int) * (n : Int) ≤ 281474976710656 := by
  have h : ((n * inf.bytes : Nat) : Int) ≤ 281474976710656 := by omega
  rw [Int.mul_comm]
  rwa [Int.natCast_mul] at h
 have hr := run_make (P := P) w t E inf z hu hi hz k k' (n : Int) (n : Int) (by omega) (Int.le_refl _) hb' hn'
 simp only [Int.toNat_natCast] at hr
 refine ⟨_, _, ρ, .inl ?_, k1, k2, fun v hv => by cases hv; exact k3⟩
 refine runv (s := Instr.makeSlice t (a.eval x) (a.eval y)) ?_
 rw [(hs.ev h.1).raw, (hs.ev h.2.1).raw]
 exact hr
theorem OpS.callD {f : FuncId} {args : List AV} {H H' : List (Option AO)} {res : AV} (F : FC P G f args H res H') (old : List Nat) (base : Nat) (hol : old.length = H.length) (hnd : old.Nodup) (hlt : ∀ x ∈ old, x < base)
  {c : Operand} {xs : List Operand} {ys : List AV} (ho : xs.length = ys.length) (hwk : WkL ys (args.map (AV.ren (pi old base)))) {ats : Array TypeId} :
  OpS P G ⟨dst, .call ⟨.value c, xs.toArray, ats⟩, ty, pos, aft, gd⟩ ((c :: xs).zip (.v (.func (.func f) #[] #[]) :: ys)) (hpl (pi old base) old H) (callEff old base res H.length H') := by
 constructor
 intro A ρ σ a w K Q hG h1 h2 h3 hd hs hK
 obtain ⟨fn, cd, hf, hname, hb⟩ := F.enter
 have hcv : a.eval c = .func (.func f) #[] #[] := (hs.ev h1.1).raw
 have hrun : (execOp a.eval ⟨dst, .call ⟨.value c, xs.toArray, ats⟩, ty, pos, aft, gd⟩).run P w = .ok (.enter f (xs.map a.eval).toArray) w := by
  have := run_enter hf hname hb (xs.map a.eval).toArray w
  show (do let d ← Deferred.ofValue (a.eval c) (xs.toArray.map a.eval); invoke d.target d.args : Sem Next).run P w = _
  rw [hcv]
  show (callFunc f (#[] ++ xs.toArray.map a.eval ++ #[])).run P w = _
  simpa using this
 unfold Oper.wp
 rw [hrun, Oper.upon_enter]
 refine (call_sat F hol hnd hlt hG hs h2 h3 hd (vs := (xs.map a.eval).toArray) (ys := ys) (by simp [ho]) ?_ hwk).mono ?_
 ·
  intro i y x hy hx
  rw [List.getElem?_toArray, List.getElem?_map] at hx
  cases hxi : xs[i]? with
  | none => rw [hxi] at hx; cases hx
  | some o => rw [hxi] at hx; cases hx; exact ev_ops hs h1.2 i o y hxi hy
 rintro e w' ⟨v, ρ', rfl, hs'⟩
 exact hK _ _ ρ' hs'
end
section
variable {P : Program} {G : List (Nat × Array Value)} {l r : List Oper} {K : AS → Prop} {n : Nat} {s : Nat → Option AV} {h : Nat → Option AO} {u : Nat → Bool} {d : Tmp} {ty : TypeId} {pos : String} {aft : Array Edge} {gd : Option (Nat × Bool)} {D : Bool} {acc : List St}
theorem Ch.callS {f : FuncId} {args : List AV} {m : Nat} {cs : List AV} (F : FC P G f args [] (.sl none m cs) []) {xs : List Operand} {ys : List AV} {ats : Array TypeId}
  (hg : GdOk l.toArray ⟨some d, .call ⟨.value (.func f), xs.toArray, ats⟩, ty, pos, aft, gd⟩ ⟨n, s, h, u⟩ true) (hev : EvL ⟨n, s, h, u⟩ xs ys) (hwk : WkL ys (args.map (AV.ren (pi [] 0)))) (hc : AV.renL (pi [] 0) cs = cs) (hd : Nat.blt d n = true)
  (hr : Ch P G l D K (⟨true, xs.zip ys, [], ⟨some (.sl none m cs), [], []⟩⟩ :: acc) r ⟨n, upd s d (some (.sl none m cs)), h, u⟩) :
  Ch P G l D K acc (⟨some d, .call ⟨.value (.func f), xs.toArray, ats⟩, ty, pos, aft, gd⟩ :: r) ⟨n, s, h, u⟩ :=
 Ch.callP F hg hev hwk (res' := .sl none m cs) (by simp [AV.ren, hc]) hd hr
theorem Ch.callD {f : FuncId} {args : List AV} {res : AV} (F : FC P G f args [] res []) {c : Operand} {xs : List Operand} {ys : List AV} {ats : Array TypeId}
  (hg : GdOk l.toArray ⟨some d, .call ⟨.value c, xs.toArray, ats⟩, ty, pos, aft, gd⟩ ⟨n, s, h, u⟩ true) (hev : EvL ⟨n, s, h, u⟩ (c :: xs) (.v (.func (.func f) #[] #[]) :: ys)) (hwk : WkL ys (args.map (AV.ren (pi [] 0)))) {res' : AV} (hres : res.ren (pi [] 0) = res') (hd : Nat.blt d n = true)
  (hr : Ch P G l D K (⟨true, (c :: xs).zip (.v (.func (.func f) #[] #[]) :: ys), [], ⟨some res', [], []⟩⟩ :: acc) r ⟨n, upd s d (some res'), h, u⟩) :
  Ch P G l D K acc (⟨some d, .call ⟨.value c, xs.toArray, ats⟩, ty, pos, aft, gd⟩ :: r) ⟨n, s, h, u⟩ := by
 subst hres
 have hlen : xs.length = ys.length := by have := hev.ok.2; simpa using this
 exact Ch.cons (st := ⟨true, (c :: xs).zip (.v (.func (.func f) #[] #[]) :: ys), [], ⟨some (res.ren (pi [] 0)), [], []⟩⟩) ⟨hg, fun _ => ⟨OpS.callD F [] 0 rfl (by simp) (by simp) hlen hwk, hev.ok.1, trivial, trivial, fun t ht => by cases ht; exact Nat.blt_eq.mp hd⟩, fun h => nomatch h⟩ hr
end
theorem belL_append (u : Nat → Bool) : ∀ a b : List AV, AV.belL u (a ++ b) ↔ AV.belL u a ∧ AV.belL u b
 | [], b => by simp [AV.belL]
 | x :: a, b => by
  show AV.bel u x ∧ AV.belL u (a ++ b) ↔ (AV.bel u x ∧ AV.belL u a) ∧ AV.belL u b
  rw [belL_append u a b, and_assoc]
attribute [simp] belL_append
theorem WP.seqJ {P : Program} {A : Amb} {Q : Exit → AS → Prop} {σ : AS} {x y : Code} (J : AS → Prop) (h1 : WP P A x (thn (fun σ => ∃ σ', SEnt A σ σ' ∧ J σ') Q) σ) (h2 : ∀ σ, J σ → WP P A y Q σ) : WP P A (.seq x y) Q σ :=
 WP.seq (h1.mono fun e σ' h => by
  cases e with
  | normal => obtain ⟨σ2, hs, hj⟩ := h; exact WP.from hs (h2 σ2 hj)
  | _ => exact h)
theorem Ret.two {A : Amb} {n : Nat} {s : Nat → Option AV} {h : Nat → Option AO} {u : Nat → Bool} {t1 t2 : Tmp} {v1 v2 r1 r2 : AV} (h1 : s t1 = some v1) (h2 : s t2 = some v2) (k1 : v1.wk (r1.ren (rn []))) (k2 : v2.wk (r2.ren (rn []))) (b1 : r1.bel (blt 0)) (b2 : r2.bel (blt 0))
  (hne : (Nat.beq t2 t1) = false) (hA : A.nA = 0) : Ret A [t1, t2] (.tup [r1, r2]) [] .ret ⟨n, s, h, u⟩ :=
 (Ret.of (rs := [t1, t2]) (vs := [r1, r2]) (H' := []) (res := .tup [r1, r2]) [] (fun i hi => by rw [hA] at hi; omega) ⟨⟨b1, v1, h1, k1⟩, ⟨b2, v2, h2, k2⟩, trivial⟩ rfl trivial (by simp)
  (show RetV [t1, t2] (.tup [r1, r2]) _ from ⟨[r1, r2], rfl, rfl, by simp [ls, TsOk, List.zip, List.zipWith, hne]⟩)).1
end Go.Proofs.YtpnbpcopdckgpaaGreatDoor.E
