import Derived.Test.YtjmbendppcildaaZ30241bae
import Derived.Deep.MidRow
import Derived.Laws.OwnMore
section
/- What operations come to that only read, or only compute. -/
namespace Go.Proofs.Ytjmbendppcildaa.E
open Go Go.RowKit Go.Proofs.Ytjmbendppcildaa.V

theorem VRel.raw {N : Nat → Nat → Prop} {ρ : Env} {w : World} {x y : Value} (h : VRel N ρ w (.v x) y) : y = x := by cases h; rfl
theorem runv {P : Program} {s : Sem Value} {v : Value} {w w' : World} (h : s.run P w = .ok v w') : (do pure (Next.value (← s)) : Sem Next).run P w = .ok (.value v) w' := by
  rw [Sem.run_bind, h]; rfl
theorem runu {P : Program} {s : Sem Unit} {w w' : World} (h : s.run P w = .ok () w') : (do s; pure Next.skip : Sem Next).run P w = .ok .skip w' := by
  rw [Sem.run_bind, h]; rfl

theorem exec_b1 (ev : Operand → Value) (b : Builtin) (x : Operand) (ats : Array TypeId) {dst : Option Tmp} {ty : TypeId} {pos : String} {aft : Array Edge} {gd : Option (Nat × Bool)} :
    ∃ cs, execOp ev ⟨dst, .call ⟨.builtin b, #[x], ats⟩, ty, pos, aft, gd⟩ = builtin b ats ty cs #[ev x] := ⟨_, by
  show (do let d ← (pure { target := .builtin b ats ty _, args := #[x].map ev } : Sem Deferred); invoke d.target d.args) = _
  simp only [List.map_toArray, List.map_cons, List.map_nil]
  rfl⟩
theorem exec_b2 (ev : Operand → Value) (b : Builtin) (x y : Operand) (ats : Array TypeId) {dst : Option Tmp} {ty : TypeId} {pos : String} {aft : Array Edge} {gd : Option (Nat × Bool)} :
    ∃ cs, execOp ev ⟨dst, .call ⟨.builtin b, #[x, y], ats⟩, ty, pos, aft, gd⟩ = builtin b ats ty cs #[ev x, ev y] := ⟨_, by
  show (do let d ← (pure { target := .builtin b ats ty _, args := #[x, y].map ev } : Sem Deferred); invoke d.target d.args) = _
  simp only [List.map_toArray, List.map_cons, List.map_nil]
  rfl⟩

section
variable {P : Program} {G : List (Nat × Array Value)} {dst : Option Tmp} {ty : TypeId} {pos : String} {aft : Array Edge} {gd : Option (Nat × Bool)}

theorem OpS.move {x : Operand} {v : AV} : OpS P G ⟨dst, .move x, ty, pos, aft, gd⟩ [(x, v)] [] ⟨some v, [], []⟩ :=
  OpS.still fun _ _ _ a _ _ h _ hs => ⟨a.eval x, rfl, hs.ev h.1⟩
theorem OpS.assign {x : Operand} {v : AV} : OpS P G ⟨dst, .assign x, ty, pos, aft, gd⟩ [(x, v)] [] ⟨some v, [], []⟩ :=
  OpS.still fun _ _ _ a _ _ h _ hs => ⟨a.eval x, rfl, hs.ev h.1⟩
/-- a slot's value, told with less -/
theorem OpS.moveWk {x : Operand} {v v' : AV} (hk : v.wk v') : OpS P G ⟨dst, .move x, ty, pos, aft, gd⟩ [(x, v)] [] ⟨some v', [], []⟩ :=
  OpS.still fun _ _ _ a _ _ h _ hs => ⟨a.eval x, rfl, (hs.ev h.1).wk hk⟩
theorem OpS.assignWk {x : Operand} {v v' : AV} (hk : v.wk v') : OpS P G ⟨dst, .assign x, ty, pos, aft, gd⟩ [(x, v)] [] ⟨some v', [], []⟩ :=
  OpS.still fun _ _ _ a _ _ h _ hs => ⟨a.eval x, rfl, (hs.ev h.1).wk hk⟩

/- operations on plain values: by the walk's own simplifier -/
theorem OpS.raw0 {o : Oper} {v : Value} (h : ∀ (a : Act) (w : World), (execOp a.eval o).run P w = .ok (.value v) w) : OpS P G o [] [] ⟨some (.v v), [], []⟩ :=
  OpS.still fun _ _ _ a w _ _ _ _ => ⟨v, h a w, .v v⟩
theorem OpS.raw1 {o : Oper} {x : Operand} {vx v : Value} (h : ∀ (a : Act) (w : World), a.eval x = vx → (execOp a.eval o).run P w = .ok (.value v) w) : OpS P G o [(x, .v vx)] [] ⟨some (.v v), [], []⟩ :=
  OpS.still fun _ _ _ a w _ h1 _ hs => ⟨v, h a w (hs.ev h1.1).raw, .v v⟩
theorem OpS.raw2 {o : Oper} {x y : Operand} {vx vy v : Value} (h : ∀ (a : Act) (w : World), a.eval x = vx → a.eval y = vy → (execOp a.eval o).run P w = .ok (.value v) w) : OpS P G o [(x, .v vx), (y, .v vy)] [] ⟨some (.v v), [], []⟩ :=
  OpS.still fun _ _ _ a w _ h1 _ hs => ⟨v, h a w (hs.ev h1.1).raw (hs.ev h1.2.1).raw, .v v⟩
theorem OpS.raw3 {o : Oper} {x y z : Operand} {vx vy vz v : Value} (h : ∀ (a : Act) (w : World), a.eval x = vx → a.eval y = vy → a.eval z = vz → (execOp a.eval o).run P w = .ok (.value v) w) :
    OpS P G o [(x, .v vx), (y, .v vy), (z, .v vz)] [] ⟨some (.v v), [], []⟩ :=
  OpS.still fun _ _ _ a w _ h1 _ hs => ⟨v, h a w (hs.ev h1.1).raw (hs.ev h1.2.1).raw (hs.ev h1.2.2.1).raw, .v v⟩

/- whole numbers: the common ones, at once -/
def intV : BinOp → IntKind → Int → Int → Option Value
  | .add, k, a, b => some (.int k (k.wrap (a + b)))
  | .sub, k, a, b => some (.int k (k.wrap (a - b)))
  | .mul, k, a, b => some (.int k (k.wrap (a * b)))
  | .eql, _, a, b => some (.bool (a == b))
  | .neq, _, a, b => some (.bool (a != b))
  | .lss, _, a, b => some (.bool (decide (a < b)))
  | .leq, _, a, b => some (.bool (decide (a ≤ b)))
  | .gtr, _, a, b => some (.bool (decide (a > b)))
  | .geq, _, a, b => some (.bool (decide (a ≥ b)))
  | _, _, _, _ => none
theorem OpS.int {op : BinOp} {t t' : TypeId} {x y : Operand} {k : IntKind} {a b : Int} {v v' : Value} (hv : intV op k a b = some v) (he : v = v') :
    OpS P G ⟨dst, .binOp op t x y t', ty, pos, aft, gd⟩ [(x, .v (.int k a)), (y, .v (.int k b))] [] ⟨some (.v v'), [], []⟩ := by
  subst he
  refine OpS.raw2 fun a' w hx hy => ?_
  show (do pure (Next.value (← (do eqGuard op t x y (a'.eval x) (a'.eval y); binOp op t (a'.eval x) (a'.eval y)))) : Sem Next).run P w = _
  refine runv ?_
  rw [hx, hy]
  cases op <;> simp only [intV, Option.some.injEq, reduceCtorEq] at hv <;> subst hv <;> simp [eqGuard, binOp, Op.intArith, Op.intCmp, Sem.run_bind, Sem.run_pure, Result.andThen_ok]
theorem wr64 {n : Int} (h : -9223372036854775808 ≤ n ∧ n < 9223372036854775808) : Value.int .i64 (IntKind.i64.wrap n) = .int .i64 n := by
  rw [IntKind.wrap_i64]; congr 1; omega
theorem OpS.strAdd {t t' : TypeId} {x y : Operand} {a b : List UInt8} (hl : a.length + b.length ≤ 9223372036854775807) :
    OpS P G ⟨dst, .binOp .add t x y t', ty, pos, aft, gd⟩ [(x, .v (.string (B a))), (y, .v (.string (B b)))] [] ⟨some (.v (.string (B (a ++ b)))), [], []⟩ := by
  refine OpS.raw2 fun a' w hx hy => ?_
  show (do pure (Next.value (← (do eqGuard _ t x y (a'.eval x) (a'.eval y); binOp _ t (a'.eval x) (a'.eval y)))) : Sem Next).run P w = _
  refine runv ?_
  rw [hx, hy]
  simp [eqGuard, binOp, Op.stringOp, Sem.run_bind, Sem.run_pure, Result.andThen_ok, B_append, B_size]
  omega
theorem OpS.strEql {t t' : TypeId} {x y : Operand} {a b : List UInt8} :
    OpS P G ⟨dst, .binOp .eql t x y t', ty, pos, aft, gd⟩ [(x, .v (.string (B a))), (y, .v (.string (B b)))] [] ⟨some (.v (.bool (decide (a = b)))), [], []⟩ := by
  refine OpS.raw2 fun a' w hx hy => ?_
  show (do pure (Next.value (← (do eqGuard _ t x y (a'.eval x) (a'.eval y); binOp _ t (a'.eval x) (a'.eval y)))) : Sem Next).run P w = _
  refine runv ?_
  rw [hx, hy]
  simp only [eqGuard, binOp, Op.stringOp, Sem.run_bind, Sem.run_pure, Result.andThen_ok, Bool.not_true, Bool.false_eq_true, if_false]
  simp [Sem.run_pure, Result.andThen_ok]
  rw [Bool.eq_iff_iff]
  simp [B_toList]
theorem OpS.strNeq {t t' : TypeId} {x y : Operand} {a b : List UInt8} :
    OpS P G ⟨dst, .binOp .neq t x y t', ty, pos, aft, gd⟩ [(x, .v (.string (B a))), (y, .v (.string (B b)))] [] ⟨some (.v (.bool (!decide (a = b)))), [], []⟩ := by
  refine OpS.raw2 fun a' w hx hy => ?_
  show (do pure (Next.value (← (do eqGuard _ t x y (a'.eval x) (a'.eval y); binOp _ t (a'.eval x) (a'.eval y)))) : Sem Next).run P w = _
  refine runv ?_
  rw [hx, hy]
  simp only [eqGuard, binOp, Op.stringOp, Sem.run_bind, Sem.run_pure, Result.andThen_ok, Bool.not_true, Bool.false_eq_true, if_false]
  simp [Sem.run_pure, Result.andThen_ok]
  rw [Bool.eq_iff_iff]
  simp [B_toList]
theorem OpS.boolEql {t t' : TypeId} {x y : Operand} {a b : Bool} (hu : P.underlying t = some .bool) :
    OpS P G ⟨dst, .binOp .eql t x y t', ty, pos, aft, gd⟩ [(x, .v (.bool a)), (y, .v (.bool b))] [] ⟨some (.v (.bool (a == b))), [], []⟩ := by
  refine OpS.raw2 fun a' w hx hy => ?_
  show (do pure (Next.value (← (do eqGuard _ t x y (a'.eval x) (a'.eval y); binOp _ t (a'.eval x) (a'.eval y)))) : Sem Next).run P w = _
  refine runv ?_
  rw [hx, hy]
  simp [eqGuard, Sem.run_bind, Sem.run_pure, Result.andThen_ok, run_eql_bool w t a b hu]
theorem OpS.boolNeq {t t' : TypeId} {x y : Operand} {a b : Bool} (hu : P.underlying t = some .bool) :
    OpS P G ⟨dst, .binOp .neq t x y t', ty, pos, aft, gd⟩ [(x, .v (.bool a)), (y, .v (.bool b))] [] ⟨some (.v (.bool (a != b))), [], []⟩ := by
  refine OpS.raw2 fun a' w hx hy => ?_
  show (do pure (Next.value (← (do eqGuard _ t x y (a'.eval x) (a'.eval y); binOp _ t (a'.eval x) (a'.eval y)))) : Sem Next).run P w = _
  refine runv ?_
  rw [hx, hy]
  have key : ∀ d, (Op.equalIn (d + 1) t (.bool a) (.bool b)).run P w = .ok (a == b) w := fun d => by simp [Op.equalIn, run_underlying hu, Sem.run_bind, Sem.run_pure, Result.andThen_ok]
  show (do pure (Value.bool (!(← Op.equalIn (9999 + 1) t (.bool a) (.bool b)))) : Sem Value).run P w = _
  rw [Sem.run_bind, key]
  rfl
theorem OpS.not {t : TypeId} {x : Operand} {a : Bool} : OpS P G ⟨dst, .unOp .not t x, ty, pos, aft, gd⟩ [(x, .v (.bool a))] [] ⟨some (.v (.bool (!a))), [], []⟩ := by
  refine OpS.raw1 fun a' w hx => ?_
  show (do pure (Next.value (← (Op.unary .not (a'.eval x)))) : Sem Next).run P w = _
  refine runv ?_
  rw [hx]
  rfl
theorem OpS.pickR {c x y : Operand} {t : Bool} {vx vy : Value} : OpS P G ⟨dst, .pick c x y, ty, pos, aft, gd⟩ [(c, .v (.bool t)), (x, .v vx), (y, .v vy)] [] ⟨some (.v (if t then vx else vy)), [], []⟩ := by
  refine OpS.raw3 fun a' w hc hx hy => ?_
  show (do pure (Next.value (if ← asBool (a'.eval c) then a'.eval x else a'.eval y)) : Sem Next).run P w = _
  rw [hc, hx, hy]
  cases t <;> rfl
theorem OpS.pickT {c x y : Operand} {vx : AV} : OpS P G ⟨dst, .pick c x y, ty, pos, aft, gd⟩ [(c, .v (.bool true)), (x, vx)] [] ⟨some vx, [], []⟩ := by
  refine OpS.still fun _ _ _ a w _ h _ hs => ⟨a.eval x, ?_, hs.ev h.2.1⟩
  show (do pure (Next.value (if ← asBool (a.eval c) then a.eval x else a.eval y)) : Sem Next).run P w = _
  rw [(hs.ev h.1).raw]; rfl
theorem OpS.pickF {c x y : Operand} {vy : AV} : OpS P G ⟨dst, .pick c x y, ty, pos, aft, gd⟩ [(c, .v (.bool false)), (y, vy)] [] ⟨some vy, [], []⟩ := by
  refine OpS.still fun _ _ _ a w _ h _ hs => ⟨a.eval y, ?_, hs.ev h.2.1⟩
  show (do pure (Next.value (if ← asBool (a.eval c) then a.eval x else a.eval y)) : Sem Next).run P w = _
  rw [(hs.ev h.1).raw]; rfl
theorem OpS.conv {src d : TypeId} {x : Operand} {k k' : IntKind} {n : Int} {v : Value} (hs : P.underlying src = some (.int k')) (hu : P.underlying d = some (.int k)) (he : Value.int k (k.wrap n) = v) :
    OpS P G ⟨dst, .convert src d x, ty, pos, aft, gd⟩ [(x, .v (.int k' n))] [] ⟨some (.v v), [], []⟩ := by
  subst he
  refine OpS.raw1 fun a' w hx => ?_
  show (do pure (Next.value (← convert src d (a'.eval x))) : Sem Next).run P w = _
  refine runv ?_
  rw [hx]
  simp [convert, run_underlying hs, run_underlying hu, Sem.run_bind, Conv.intToInt]

/- len -/
theorem OpS.lenS {tx : TypeId} {x : Operand} {l : List UInt8} (hu : P.underlying tx = some .string) :
    OpS P G ⟨dst, .call ⟨.builtin .len, #[x], #[tx]⟩, ty, pos, aft, gd⟩ [(x, .v (.string (B l)))] [] ⟨some (.v (.int .i64 (l.length : Int))), [], []⟩ := by
  refine OpS.raw1 fun a' w hx => ?_
  obtain ⟨cs, he⟩ := exec_b1 a'.eval .len x #[tx] (dst := dst) (ty := ty) (pos := pos) (aft := aft) (gd := gd)
  rw [he]
  refine runv (s := Builtin.len_ #[tx] ty #[a'.eval x]) ?_
  rw [hx]
  simp [Builtin.len_, run_underlying hu, Sem.run_bind, goInt, B_size]
theorem OpS.len {tx e : TypeId} {x : Operand} {o : Option Nat} {n : Nat} {cs : List AV} (hu : P.underlying tx = some (.slice e)) :
    OpS P G ⟨dst, .call ⟨.builtin .len, #[x], #[tx]⟩, ty, pos, aft, gd⟩ [(x, .sl o n cs)] [] ⟨some (.v (.int .i64 (n : Int))), [], []⟩ := by
  refine OpS.still fun A ρ σ a w _ h _ hs => ⟨_, ?_, .v _⟩
  have hx := hs.ev h.1
  obtain ⟨cs, he⟩ := exec_b1 a.eval .len x #[tx] (dst := dst) (ty := ty) (pos := pos) (aft := aft) (gd := gd)
  rw [he]
  refine runv (s := Builtin.len_ #[tx] ty #[a.eval x]) ?_
  generalize a.eval x = y at hx ⊢
  cases hx
  simp [Builtin.len_, run_underlying hu, Sem.run_bind, goInt]
theorem OpS.lenA {tx e : TypeId} {x : Operand} {id off n : Nat} (hu : P.underlying tx = some (.slice e)) :
    OpS P G ⟨dst, .call ⟨.builtin .len, #[x], #[tx]⟩, ty, pos, aft, gd⟩ [(x, .arr id off n)] [] ⟨some (.v (.int .i64 (n : Int))), [], []⟩ := by
  refine OpS.still fun A ρ σ a w _ h _ hs => ⟨_, ?_, .v _⟩
  have hx := hs.ev h.1
  obtain ⟨cs, he⟩ := exec_b1 a.eval .len x #[tx] (dst := dst) (ty := ty) (pos := pos) (aft := aft) (gd := gd)
  rw [he]
  refine runv (s := Builtin.len_ #[tx] ty #[a.eval x]) ?_
  generalize a.eval x = y at hx ⊢
  cases hx
  simp [Builtin.len_, run_underlying hu, Sem.run_bind, goInt]
theorem OpS.lenN {tx e : TypeId} {x : Operand} (hu : P.underlying tx = some (.slice e)) :
    OpS P G ⟨dst, .call ⟨.builtin .len, #[x], #[tx]⟩, ty, pos, aft, gd⟩ [(x, .v (.slice none 0 0))] [] ⟨some (.v (.int .i64 0)), [], []⟩ := by
  refine OpS.raw1 fun a' w hx => ?_
  obtain ⟨cs, he⟩ := exec_b1 a'.eval .len x #[tx] (dst := dst) (ty := ty) (pos := pos) (aft := aft) (gd := gd)
  rw [he]
  refine runv (s := Builtin.len_ #[tx] ty #[a'.eval x]) ?_
  rw [hx]
  simp [Builtin.len_, run_underlying hu, Sem.run_bind, goInt]

/- a string's byte, and a string's part -/
theorem OpS.indexS {tx : TypeId} {x i : Operand} {l : List UInt8} {k : IntKind} {n : Int} {j : Nat} (hu : P.underlying tx = some .string) (hj : n.toNat = j) (h0 : 0 ≤ n) (h1 : n < (l.length : Int)) :
    OpS P G ⟨dst, .index tx x i, ty, pos, aft, gd⟩ [(x, .v (.string (B l))), (i, .v (.int k n))] [] ⟨some (.v (.int .u8 (U8 (nth l j)))), [], []⟩ := by
  subst hj
  refine OpS.raw2 fun a' w hx hi => ?_
  show (do pure (Next.value (← Instr.index tx (a'.eval x) (a'.eval i))) : Sem Next).run P w = _
  refine runv ?_
  rw [hx, hi, run_index_B' w tx l k n hu, if_pos ⟨h0, h1⟩]
theorem OpS.sliceS {tx : TypeId} {x i j : Operand} {l : List UInt8} {k k' : IntKind} {m n : Int} {m' n' : Nat} (hu : P.underlying tx = some .string) (hm : m.toNat = m') (hn : n.toNat = n') (h0 : 0 ≤ m) (h1 : m ≤ n) (h2 : n ≤ (l.length : Int)) :
    OpS P G ⟨dst, .slice tx x (some i) (some j) none, ty, pos, aft, gd⟩ [(x, .v (.string (B l))), (i, .v (.int k m)), (j, .v (.int k' n))] [] ⟨some (.v (.string (B ((l.drop m').take (n' - m'))))), [], []⟩ := by
  subst hm; subst hn
  refine OpS.raw3 fun a' w hx hi hj => ?_
  show (do pure (Next.value (← Instr.sliceAt tx (a'.eval x) (some (a'.eval i)) (some (a'.eval j)) none)) : Sem Next).run P w = _
  refine runv ?_
  rw [hx, hi, hj, run_sliceAt_string w tx _ _ _ _ hu, run_slice_string_if w tx _ k k' m n hu, if_pos ⟨by omega, by rw [B_size]; omega⟩, if_pos ⟨h0, by omega⟩, B_extract]
theorem OpS.sliceSl {tx : TypeId} {x i : Operand} {l : List UInt8} {k : IntKind} {m : Int} {m' : Nat} (hu : P.underlying tx = some .string) (hm : m.toNat = m') (h0 : 0 ≤ m) (h1 : m ≤ (l.length : Int)) :
    OpS P G ⟨dst, .slice tx x (some i) none none, ty, pos, aft, gd⟩ [(x, .v (.string (B l))), (i, .v (.int k m))] [] ⟨some (.v (.string (B (l.drop m')))), [], []⟩ := by
  subst hm
  refine OpS.raw2 fun a' w hx hi => ?_
  show (do pure (Next.value (← Instr.sliceAt tx (a'.eval x) (some (a'.eval i)) none none)) : Sem Next).run P w = _
  refine runv ?_
  rw [hx, hi, run_sliceAt_string w tx _ _ _ _ hu, run_slice_string_l w tx _ hu k m h0 (by rw [B_size]; omega), B_extract, B_size]
  rw [List.take_of_length_le (by simp)]
theorem OpS.sliceSh {tx : TypeId} {x j : Operand} {l : List UInt8} {k : IntKind} {n : Int} {n' : Nat} (hu : P.underlying tx = some .string) (hn : n.toNat = n') (h0 : 0 ≤ n) (h1 : n ≤ (l.length : Int)) :
    OpS P G ⟨dst, .slice tx x none (some j) none, ty, pos, aft, gd⟩ [(x, .v (.string (B l))), (j, .v (.int k n))] [] ⟨some (.v (.string (B (l.take n')))), [], []⟩ := by
  subst hn
  refine OpS.raw2 fun a' w hx hj => ?_
  show (do pure (Next.value (← Instr.sliceAt tx (a'.eval x) none (some (a'.eval j)) none)) : Sem Next).run P w = _
  refine runv ?_
  rw [hx, hj, run_sliceAt_string w tx _ _ _ _ hu, run_slice_string_h w tx _ hu k n h0 (by rw [B_size]; omega), B_extract]
  simp

theorem tnL (j : Nat) : Int.toNat (OfNat.ofNat j : Int) = j := rfl
theorem tnA (i j : Nat) : Int.toNat ((i : Int) + (OfNat.ofNat j : Int)) = i + j := rfl
theorem tnM (i j : Nat) : Int.toNat ((OfNat.ofNat j : Int) * (i : Int)) = j * i := rfl
theorem tnMA (i j k : Nat) : Int.toNat ((OfNat.ofNat j : Int) * (i : Int) + (OfNat.ofNat k : Int)) = j * i + k := rfl
/-- a list's element -/
def el {α : Type} [Inhabited α] (l : List α) (i : Nat) : α := (l[i]?).getD default
theorem el_get {α : Type} [Inhabited α] {l : List α} {i : Nat} (h : i < l.length) : l[i]? = some (el l i) := by simp [el, h]
/- places -/
theorem OpS.nilCheckP {x : Operand} {id off : Nat} : OpS P G ⟨dst, .nilCheck x, ty, pos, aft, gd⟩ [(x, .ptr id off)] [] ⟨some (.ptr id off), [], []⟩ := by
  refine OpS.still fun A ρ σ a w _ h _ hs => ?_
  have hx := hs.ev h.1
  refine ⟨a.eval x, ?_, hx⟩
  unfold execOp
  dsimp only
  generalize a.eval x = y at hx ⊢
  cases hx
  rfl
theorem OpS.nilCheckS {x : Operand} {cs : List AV} : OpS P G ⟨dst, .nilCheck x, ty, pos, aft, gd⟩ [(x, .sptr cs)] [] ⟨some (.sptr cs), [], []⟩ := by
  refine OpS.still fun A ρ σ a w _ h _ hs => ?_
  have hx := hs.ev h.1
  refine ⟨a.eval x, ?_, hx⟩
  unfold execOp
  dsimp only
  generalize a.eval x = y at hx ⊢
  cases hx
  rfl
theorem OpS.nilCheckG {x : Operand} {g o : Nat} : OpS P G ⟨dst, .nilCheck x, ty, pos, aft, gd⟩ [(x, .v (.pointer (some ⟨g, o, none⟩)))] [] ⟨some (.v (.pointer (some ⟨g, o, none⟩))), [], []⟩ := by
  refine OpS.raw1 fun a w hx => ?_
  unfold execOp
  dsimp only
  rw [hx]
  rfl
/-- the place of a slice's element -/
theorem OpS.indexAddr {tx e : TypeId} {inf : TypeInfo} {x i : Operand} {o : Option Nat} {n sz : Nat} {cs : List AV} {k : IntKind} {m : Int} (hu : P.underlying tx = some (.slice e)) (hi : P.info? e = some inf) (hz : inf.size = sz) (h0 : 0 ≤ m) (h1 : m < (n : Int))
    (hl : cs.length = n * sz) (hsz : 0 < sz) :
    OpS P G ⟨dst, .indexAddr tx x i, ty, pos, aft, gd⟩ [(x, .sl o n cs), (i, .v (.int k m))] [] ⟨some (.sptr ((cs.drop (m.toNat * sz)).take sz)), [], []⟩ := by
  subst hz
  refine OpS.still fun A ρ σ a w _ h _ hs => ?_
  have hx := hs.ev h.1
  have hi' := (hs.ev h.2.1).raw
  have hmn : m.toNat + 1 ≤ n := by omega
  have hmul : (m.toNat + 1) * inf.size ≤ n * inf.size := Nat.mul_le_mul_right _ hmn
  rw [Nat.add_mul, Nat.one_mul] at hmul
  have hrun : ∀ y, VRel (Nh A σ.h ρ w) ρ w (.sl o n cs) y → ∃ z, (Instr.indexAt tx y (.int k m)).run P w = .ok z w ∧ VRel (Nh A σ.h ρ w) ρ w (.sptr ((cs.drop (m.toNat * inf.size)).take inf.size)) z := by
    intro y hy
    cases hy with
    | sl o n cs ad cap vals hc hcs ho hn hz hm =>
      obtain ⟨h1', b, off, rfl, -⟩ := hc (m.toNat * inf.size) (by omega)
      refine ⟨.pointer (some ((⟨b, off, none⟩ : Addr).add (m.toNat * inf.size))), ?_, ?_⟩
      · simp [Instr.indexAt, asIntOf, run_underlying hu, Sem.run_bind, Sem.run_pure, sizeOf, typeInfo, hi, h0, h1]
      · rw [Addr.add_mid]
        refine .sptr _ b (off + m.toNat * inf.size) (fun j => vals (m.toNat * inf.size + j)) (fun j hj => ?_) (fun j c hc' => ?_)
        · have hj' : j < inf.size := by simp at hj; omega
          obtain ⟨-, b', off', he, hx', hN⟩ := hc (m.toNat * inf.size + j) (by omega)
          cases he
          rw [Nat.add_assoc]
          exact ⟨hx', hN⟩
        · rw [List.getElem?_take] at hc'
          split at hc'
          · rw [List.getElem?_drop] at hc'
            exact hcs _ c hc'
          · cases hc'
  obtain ⟨z, hz, hv⟩ := hrun _ hx
  refine ⟨z, ?_, hv⟩
  show (do pure (Next.value (← Instr.indexAt tx (a.eval x) (a.eval i))) : Sem Next).run P w = _
  refine runv ?_
  rw [hi']
  exact hz
/-- an element of one cell -/
theorem OpS.indexM {α : Type} [Inhabited α] {tx e : TypeId} {inf : TypeInfo} {x i : Operand} {o : Option Nat} {n j : Nat} {f : α → AV} {l : List α} {k : IntKind} {m : Int} (hu : P.underlying tx = some (.slice e)) (hi : P.info? e = some inf) (hz : inf.size = 1) (hj : m.toNat = j)
    (h0 : 0 ≤ m) (h1 : m < (n : Int)) (hl : n = l.length) :
    OpS P G ⟨dst, .indexAddr tx x i, ty, pos, aft, gd⟩ [(x, .sl o n (l.map f)), (i, .v (.int k m))] [] ⟨some (.sptr [f (el l j)]), [], []⟩ := by
  subst hj
  have := OpS.indexAddr (P := P) (G := G) (dst := dst) (ty := ty) (pos := pos) (aft := aft) (gd := gd) (x := x) (i := i) (o := o) (n := n) (cs := l.map f) (k := k) hu hi hz h0 h1 (by simp [hl]) (by decide)
  have hlt : m.toNat < l.length := by omega
  have he : (((l.map f).drop (m.toNat * 1)).take 1) = [f (el l m.toNat)] := by
    rw [Nat.mul_one, List.drop_eq_getElem_cons (by simpa using hlt)]
    simp [el, hlt]
  rw [he] at this
  exact this
/-- the place of an element of a row that may be written -/
theorem OpS.indexAddrA {tx e : TypeId} {inf : TypeInfo} {x i : Operand} {id off n sz : Nat} {k : IntKind} {m : Int} (hu : P.underlying tx = some (.slice e)) (hi : P.info? e = some inf) (hz : inf.size = sz) (h0 : 0 ≤ m) (h1 : m < (n : Int)) :
    OpS P G ⟨dst, .indexAddr tx x i, ty, pos, aft, gd⟩ [(x, .arr id off n), (i, .v (.int k m))] [] ⟨some (.ptr id (off + m.toNat * sz)), [], []⟩ := by
  subst hz
  refine OpS.still fun A ρ σ a w _ h _ hs => ?_
  have hx := hs.ev h.1
  have hi' := (hs.ev h.2.1).raw
  have hrun : ∀ y, VRel (Nh A σ.h ρ w) ρ w (.arr id off n) y → ∃ z, (Instr.indexAt tx y (.int k m)).run P w = .ok z w ∧ VRel (Nh A σ.h ρ w) ρ w (.ptr id (off + m.toNat * inf.size)) z := by
    intro y hy
    cases hy with
    | arr id off n cap b hb hn hm =>
      refine ⟨.pointer (some ((⟨b, off, none⟩ : Addr).add (m.toNat * inf.size))), ?_, ?_⟩
      · simp [Instr.indexAt, asIntOf, run_underlying hu, Sem.run_bind, Sem.run_pure, sizeOf, typeInfo, hi, h0, h1]
      · rw [Addr.add_mid]
        exact .ptr id _ b hb
  obtain ⟨z, hz, hv⟩ := hrun _ hx
  refine ⟨z, ?_, hv⟩
  show (do pure (Next.value (← Instr.indexAt tx (a.eval x) (a.eval i))) : Sem Next).run P w = _
  refine runv ?_
  rw [hi']
  exact hz
/-- the place of an array's element -/
theorem OpS.indexAddrP {tx e : TypeId} {inf : TypeInfo} {x i : Operand} {id off n sz : Nat} {k : IntKind} {m : Int} (hu : P.underlying tx = some (.array n e)) (hi : P.info? e = some inf) (hz : inf.size = sz) (h0 : 0 ≤ m) (h1 : m < (n : Int)) :
    OpS P G ⟨dst, .indexAddr tx x i, ty, pos, aft, gd⟩ [(x, .ptr id off), (i, .v (.int k m))] [] ⟨some (.ptr id (off + m.toNat * sz)), [], []⟩ := by
  subst hz
  refine OpS.still fun A ρ σ a w _ h _ hs => ?_
  have hx := hs.ev h.1
  have hi' := (hs.ev h.2.1).raw
  have hrun : ∀ y, VRel (Nh A σ.h ρ w) ρ w (.ptr id off) y → ∃ z, (Instr.indexAt tx y (.int k m)).run P w = .ok z w ∧ VRel (Nh A σ.h ρ w) ρ w (.ptr id (off + m.toNat * inf.size)) z := by
    intro y hy
    cases hy with
    | ptr id off b hb =>
      refine ⟨.pointer (some ((⟨b, off, none⟩ : Addr).add (m.toNat * inf.size))), ?_, ?_⟩
      · simp [Instr.indexAt, Instr.sureAddr, asIntOf, run_underlying hu, Sem.run_bind, Sem.run_pure, sizeOf, typeInfo, hi, h0, h1]
      · rw [Addr.add_mid]
        exact .ptr id _ b hb
  obtain ⟨z, hz, hv⟩ := hrun _ hx
  refine ⟨z, ?_, hv⟩
  show (do pure (Next.value (← Instr.indexAt tx (a.eval x) (a.eval i))) : Sem Next).run P w = _
  refine runv ?_
  rw [hi']
  exact hz
theorem OpS.indexAddrG {tx e : TypeId} {inf : TypeInfo} {x i : Operand} {g off n sz : Nat} {k : IntKind} {m : Int} (hu : P.underlying tx = some (.array n e)) (hi : P.info? e = some inf) (hz : inf.size = sz) (h0 : 0 ≤ m) (h1 : m < (n : Int)) :
    OpS P G ⟨dst, .indexAddr tx x i, ty, pos, aft, gd⟩ [(x, .v (.pointer (some ⟨g, off, none⟩))), (i, .v (.int k m))] [] ⟨some (.v (.pointer (some ⟨g, off + m.toNat * sz, none⟩))), [], []⟩ := by
  subst hz
  refine OpS.raw2 fun a w hx hi' => ?_
  show (do pure (Next.value (← Instr.indexAt tx (a.eval x) (a.eval i))) : Sem Next).run P w = _
  refine runv ?_
  rw [hx, hi', ← Addr.add_mid]
  simp [Instr.indexAt, Instr.sureAddr, asIntOf, run_underlying hu, Sem.run_bind, Sem.run_pure, sizeOf, typeInfo, hi, h0, h1]
end
end Go.Proofs.Ytjmbendppcildaa.E
end
section
/- Loads; parts; what is written into an entry; a new entry. -/
namespace Go.Proofs.Ytjmbendppcildaa.E
open Go Go.RowKit Go.Proofs.Ytjmbendppcildaa.V

def AV.one : AV → Bool
  | .v x => x.oneCell'
  | .agg _ | .tup _ => false
  | _ => true
theorem VRel.oneCell {N : Nat → Nat → Prop} {ρ : Env} {w : World} {c : AV} {x : Value} (h : VRel N ρ w c x) (h1 : c.one = true) : x.oneCell' = true := by
  cases h <;> first | exact h1 | rfl | cases h1

theorem run_storeCells_mk (P : Program) (g o : Nat) (t : TypeId) : ∀ (vs : List Value) (i : Nat) (cur : Array Value) (w : World) (fz : Nat × Nat), Mark cur fz → w.heap[g]? = some (.cells cur t fz) → o + i + vs.length ≤ cur.size → (∀ v ∈ vs, v.oneCell' = true) →
    (storeCells ⟨g, o, none⟩ vs i).run P w = .ok () (w.setRow g (cur.toList.take (o + i) ++ vs ++ cur.toList.drop (o + i + vs.length)).toArray)
  | [], i, cur, w, fz, _, hg, _, _ => by
    simp only [storeCells, List.append_nil, List.length_nil, Nat.add_zero, List.take_append_drop, Array.toArray_toList]
    rw [setRow_self w g cur t fz hg]
    rfl
  | v :: rest, i, cur, w, fz, hm, hg, hl, h1 => by
    have hi : o + i < cur.size := by simp at hl; omega
    have hadd : (⟨g, o, none⟩ : Addr).add i = ⟨g, o + i, none⟩ := by unfold Addr.add; split <;> simp_all
    have hcell : w.cell? ⟨g, o + i, none⟩ = some cur[o + i] := by simp [World.cell?, hg, hi]
    have hfro : w.frozen? ⟨g, o + i, none⟩ = false := hm.frozen hg hi
    have hst : (store ((⟨g, o, none⟩ : Addr).add i) v).run P w = .ok () (w.setRow g (cur.setIfInBounds (o + i) v)) := by
      rw [hadd, run_store P w _ v _ (h1 v (by simp)), hcell]
      simp [hfro, setCell_eq_setRow w g (o + i) cur t fz v hg]
    have ih := run_storeCells_mk P g o t rest (i + 1) (cur.setIfInBounds (o + i) v) (w.setRow g (cur.setIfInBounds (o + i) v)) fz (by unfold Mark; rw [Array.size_setIfInBounds]; exact hm) (setRow_heap w g cur _ t _ hg) (by simp at hl ⊢; omega) (fun x hx => h1 x (by simp [hx]))
    simp only [storeCells, Sem.run_bind, hst, Result.andThen_ok, ih, setRow_setRow]
    congr 3
    have e := list_seg_step cur.toList (o + i) v rest (by simp at hl ⊢; omega)
    simpa [Array.toList_setIfInBounds, Nat.add_assoc] using e
/-- an entry's content is written anew -/
theorem HSat.write {A : Amb} {ρ : Env} {h : Nat → Option AO} {u : Nat → Bool} {w w' : World} (H : HSat A ρ h u w) {id b : Nat} {T : TypeId} {cs cs' : List AV} (hi : h id = some (.cells T cs)) (hb : ρ.blk id = some b)
    (os : w'.os = w.os) (tape : w'.tape = w.tape) (output : w'.output = w.output) (size : w.heap.size ≤ w'.heap.size) (other : ∀ k, k < w.heap.size → k ≠ b → w'.heap[k]? = w.heap[k]?) {arr' : Array Value} {fz : Nat × Nat} (hmk : Mark arr' fz) (hnew : w'.heap[b]? = some (.cells arr' T fz))
    (hlen : cs'.length ≤ arr'.size) (hc : ∀ (j : Nat) (c : AV) (x : Value), cs'[j]? = some c → arr'[j]? = some x → VRel (Nh A h ρ w) ρ w c x ∧ x.oneCell' = true) :
    HSat A ρ (upd h id (some (.cells T cs'))) u w' ∧ ∀ av x, VRel (Nh A h ρ w) ρ w av x → VRel (Nh A (upd h id (some (.cells T cs'))) ρ w') ρ w' av x := by
  have hat : ∀ i ob b', upd h id (some (AO.cells T cs')) i = some ob → ob.at_ ρ i b' → ∃ oj, h i = some oj ∧ oj.at_ ρ i b' := by
    intro i ob b' hi' hat
    rcases upd_eq_some hi' with ⟨rfl, he⟩ | ⟨hne, he⟩
    · cases he; exact ⟨_, hi, hat⟩
    · exact ⟨_, he, hat⟩
  refine H.next os tape output size (fun i hu => ⟨hu, rfl, rfl⟩) H.usedB H.usedT ?_ ?_ ?_ ?_ ?_ ?_
  · intro k hk hno
    exact other k hk (fun e => hno id _ hi (by rw [e]; exact hb))
  · intro b' o hn
    refine World.cell?_of_block (w := w) (other b' hn.1 (fun e => hn.2.2 id _ hi (by rw [e]; exact hb)))
  · intro i ob b' o hi' hw
    rcases upd_eq_some hi' with ⟨rfl, he⟩ | ⟨hne, he⟩
    · cases he; exact .inl ⟨_, _, hi, hw⟩
    · exact .inl ⟨_, _, he, hw⟩
  · intro i ob b' hi' hw
    obtain ⟨oj, hj, hwj⟩ := hat i ob b' hi' hw
    exact .inl ⟨_, oj, hj, hwj⟩
  · intro i j oi oj b' h1 h2 h3 h4
    obtain ⟨_, k1, k2⟩ := hat i oi b' h1 h3
    obtain ⟨_, k3, k4⟩ := hat j oj b' h2 h4
    exact H.sep i j _ _ b' k1 k3 k2 k4
  · intro hV i ob hi'
    rcases upd_eq_some hi' with ⟨rfl, he⟩ | ⟨hne, he⟩
    · cases he
      exact ⟨b, arr', hb, ⟨fz, hmk, hnew⟩, hlen, fun j c x h1 h2 => ⟨hV _ _ (hc j c x h1 h2).1, (hc j c x h1 h2).2⟩⟩
    · refine (H.heap i ob he).keep (Env.le_refl ρ) hV fun b' hb' => other b' ((H.heap i ob he).lt hb') ?_
      rintro rfl
      exact hne (H.sep i id ob _ b' he hi hb' hb)

/-- a new entry, on a new block -/
theorem HSat.extend {A : Amb} {ρ ρ' : Env} {h : Nat → Option AO} {u : Nat → Bool} {w w' : World} (H : HSat A ρ h u w) {id : Nat} {ob : AO} (hu : u id = false)
    (hρ : ∀ i, i ≠ id → ρ'.blk i = ρ.blk i ∧ ρ'.tip i = ρ.tip i) (os : w'.os = w.os) (tape : w'.tape = w.tape) (output : w'.output = w.output) (size : w.heap.size ≤ w'.heap.size) (other : ∀ k, k < w.heap.size → w'.heap[k]? = w.heap[k]?)
    (hat : ∀ b, ob.at_ ρ' id b → w.heap.size ≤ b) (ho : (∀ av x, VRel (Nh A h ρ w) ρ w av x → VRel (Nh A (upd h id (some ob)) ρ' w') ρ' w' av x) → ORel (Nh A (upd h id (some ob)) ρ' w') ρ' w' id ob) :
    HSat A ρ' (upd h id (some ob)) (nuU u [id]) w' ∧ ∀ av x, VRel (Nh A h ρ w) ρ w av x → VRel (Nh A (upd h id (some ob)) ρ' w') ρ' w' av x := by
  have hne : ∀ i, u i = true → i ≠ id := fun i hi e => by subst e; rw [hu] at hi; cases hi
  have hle : ρ.le ρ' := ⟨fun i b hb => by rw [(hρ i (hne i (H.usedB i b hb))).1]; exact hb, fun i b hb => by rw [(hρ i (hne i (H.usedT i b hb))).2]; exact hb⟩
  refine H.next os tape output size (fun i hi => ⟨by rw [nuU_eq, hi]; rfl, hρ i (hne i hi)⟩) ?_ ?_ (fun k hk _ => other k hk) (fun b o hn => World.cell?_of_block (w := w) (other b hn.1)) ?_ ?_ ?_ ?_
  · intro i b hb
    rw [nuU_eq]
    by_cases hi : i = id
    · subst hi; simp
    · rw [(hρ i hi).1] at hb; rw [H.usedB i b hb]; rfl
  · intro i b hb
    rw [nuU_eq]
    by_cases hi : i = id
    · subst hi; simp
    · rw [(hρ i hi).2] at hb; rw [H.usedT i b hb]; rfl
  · intro i oi b o hi hw
    rcases upd_eq_some hi with ⟨rfl, he⟩ | ⟨hn, he⟩
    · cases he; exact .inr (hat b (AO.at_of_wr hw))
    · exact .inl ⟨i, oi, he, (H.heap i oi he).wr_back hle hw⟩
  · intro i oi b hi hw
    rcases upd_eq_some hi with ⟨rfl, he⟩ | ⟨hn, he⟩
    · cases he; exact .inr (hat b hw)
    · exact .inl ⟨i, oi, he, (H.heap i oi he).at_back hle hw⟩
  · intro i j oi oj b hi hj h1 h2
    rcases upd_eq_some hi with ⟨rfl, he⟩ | ⟨hn, he⟩ <;> rcases upd_eq_some hj with ⟨rfl, he'⟩ | ⟨hn', he'⟩
    · rfl
    · cases he
      have := (H.heap j oj he').lt ((H.heap j oj he').at_back hle h2)
      have := hat b h1
      omega
    · cases he'
      have := (H.heap i oi he).lt ((H.heap i oi he).at_back hle h1)
      have := hat b h2
      omega
    · exact H.sep i j oi oj b he he' ((H.heap i oi he).at_back hle h1) ((H.heap j oj he').at_back hle h2)
  · intro hV i oi hi
    rcases upd_eq_some hi with ⟨rfl, he⟩ | ⟨hn, he⟩
    · cases he; exact ho hV
    · exact (H.heap i oi he).keep hle hV fun b hb => other b ((H.heap i oi he).lt hb)

/-- blocks that nobody ever writes come into being -/
theorem HSat.grow {A : Amb} {ρ : Env} {h : Nat → Option AO} {u : Nat → Bool} {w w' : World} (H : HSat A ρ h u w) (os : w'.os = w.os) (tape : w'.tape = w.tape) (output : w'.output = w.output) (size : w.heap.size ≤ w'.heap.size)
    (other : ∀ k, k < w.heap.size → w'.heap[k]? = w.heap[k]?) : HSat A ρ h u w' ∧ (∀ av x, VRel (Nh A h ρ w) ρ w av x → VRel (Nh A h ρ w') ρ w' av x) ∧ ∀ b o, w.heap.size ≤ b → b < w'.heap.size → Nh A h ρ w' b o := by
  obtain ⟨h1, h2⟩ := H.next (h' := h) (u' := u) (ρ' := ρ) os tape output size (fun i hi => ⟨hi, rfl, rfl⟩) H.usedB H.usedT (fun k hk _ => other k hk) (fun b o hn => World.cell?_of_block (w := w) (other b hn.1)) (fun i ob b o hi hw => .inl ⟨i, ob, hi, hw⟩)
    (fun i ob b hi hw => .inl ⟨i, ob, hi, hw⟩) H.sep (fun hV i ob hi => (H.heap i ob hi).keep (Env.le_refl ρ) hV fun b hb => other b ((H.heap i ob hi).lt hb))
  refine ⟨h1, h2, fun b o hb hb' => ⟨hb', .inr (.inr (Nat.le_trans H.size hb)), fun i ob hi hw => ?_⟩⟩
  have := (H.heap i ob hi).lt (AO.at_of_wr hw)
  omega

/-- an operation that writes: what the next state is -/
theorem OpS.act {P : Program} {G : List (Nat × Array Value)} {o : Oper} {sl : List (Operand × AV)} {hp : List (Nat × AO)} {e : Eff}
    (h : ∀ (A : Amb) (ρ : Env) (σ : AS) (a : Act) (w : World), A.G = G → SlOk σ sl → HpOk σ hp → NuOk σ e.nu → Sat A ρ σ a w → ∃ x w' ρ', ((execOp a.eval o).run P w = .ok (.value x) w' ∨ ((execOp a.eval o).run P w = .ok .skip w' ∧ x = undef)) ∧
      HSat A ρ' (chs σ.h e.ch) (nuU σ.u e.nu) w' ∧ (∀ av y, VRel (Nh A σ.h ρ w) ρ w av y → VRel (Nh A (chs σ.h e.ch) ρ' w') ρ' w' av y) ∧ ∀ v, e.val = some v → VRel (Nh A (chs σ.h e.ch) ρ' w') ρ' w' v x) : OpS P G o sl hp e := by
  constructor
  intro A ρ σ a w K Q hG h1 h2 h3 hd hs hK
  obtain ⟨x, w', ρ', hr, hH, hV, hx⟩ := h A ρ σ a w hG h1 h2 h3 hs
  have fin := hK _ _ ρ' (hs.put hd (x := x) (e := e) hH hV hx)
  unfold Oper.wp
  rcases hr with hr | ⟨hr, rfl⟩ <;> rw [hr] <;> exact fin

section
variable {P : Program} {G : List (Nat × Array Value)} {dst : Option Tmp} {ty : TypeId} {pos : String} {aft : Array Edge} {gd : Option (Nat × Bool)}

theorem run_isAgg {t : TypeId} {d : TypeDesc} (hu : P.underlying t = some d) (w : World) : (isAgg t).run P w = .ok d.isRow w := by
  unfold isAgg
  rw [Sem.run_bind, run_underlying hu w]
  cases d <;> rfl
theorem run_load1 {t : TypeId} {d : TypeDesc} (hu : P.underlying t = some d) (hd : d.isRow = false) {w : World} {a : Addr} {x : Value} (hc : w.cell? a = some x) : (Instr.loadAt t (.pointer (some a))).run P w = .ok x w := by
  simp [Instr.loadAt, Instr.sureAddr, loadVar, Sem.run_bind, run_isAgg hu, hd, load, Sem.run, hc]

/-- load: an element of a row that nobody writes -/
theorem OpS.loadS {t : TypeId} {d : TypeDesc} {x : Operand} {c : AV} (hu : P.underlying t = some d) (hd : d.isRow = false) :
    OpS P G ⟨dst, .load t x, ty, pos, aft, gd⟩ [(x, .sptr [c])] [] ⟨some c, [], []⟩ := by
  refine OpS.still fun A ρ σ a w _ h _ hs => ?_
  have hx := hs.ev h.1
  have hrun : ∀ y, VRel (Nh A σ.h ρ w) ρ w (.sptr [c]) y → ∃ z, (Instr.loadAt t y).run P w = .ok z w ∧ VRel (Nh A σ.h ρ w) ρ w c z := by
    intro y hy
    cases hy with
    | sptr cs b off vals hc hcs => exact ⟨vals 0, run_load1 hu hd (hc 0 (by simp)).1, hcs 0 c rfl⟩
  obtain ⟨z, hz, hv⟩ := hrun _ hx
  exact ⟨z, runv (s := Instr.loadAt t (a.eval x)) hz, hv⟩
theorem OpS.loadSA {t : TypeId} {d : TypeDesc} {x : Operand} {cs : List AV} (hu : P.underlying t = some d) (hd : d.isRow = true) (hi : (P.info? t).map (·.size) = some cs.length) :
    OpS P G ⟨dst, .load t x, ty, pos, aft, gd⟩ [(x, .sptr cs)] [] ⟨some (.agg cs), [], []⟩ := by
  refine OpS.still fun A ρ σ a w _ h _ hs => ?_
  have hx := hs.ev h.1
  have hrun : ∀ y, VRel (Nh A σ.h ρ w) ρ w (.sptr cs) y → ∃ z, (Instr.loadAt t y).run P w = .ok z w ∧ VRel (Nh A σ.h ρ w) ρ w (.agg cs) z := by
    intro y hy
    cases hy with
    | sptr cs b off vals hc hcs =>
      refine ⟨_, run_loadAt_mid w b off t ((List.range cs.length).map vals) d (fun j v hj => ?_) hu hd (by simpa using hi), ?_⟩
      · rw [List.getElem?_map] at hj
        cases hr : (List.range cs.length)[j]? with
        | none => rw [hr] at hj; cases hj
        | some k =>
          rw [hr] at hj
          have hk := List.getElem?_eq_some_iff.1 hr
          obtain ⟨hk1, hk2⟩ := hk
          simp at hk1 hk2
          subst hk2
          cases hj
          exact (hc j hk1).1
      · refine .agg cs _ (by simp) (fun i c x hc' hx' => ?_)
        have hi' := (List.getElem?_eq_some_iff.1 hc').1
        have hx2 : x = vals i := by simpa [hi'] using hx'.symm
        rw [hx2]
        exact hcs i c hc'
  obtain ⟨z, hz, hv⟩ := hrun _ hx
  exact ⟨z, runv (s := Instr.loadAt t (a.eval x)) hz, hv⟩
/-- load: a cell of an entry -/
theorem OpS.loadP {t T : TypeId} {d : TypeDesc} {x : Operand} {id off : Nat} {cs : List AV} {c : AV} (hu : P.underlying t = some d) (hd : d.isRow = false) (hc : cs[off]? = some c) :
    OpS P G ⟨dst, .load t x, ty, pos, aft, gd⟩ [(x, .ptr id off)] [(id, .cells T cs)] ⟨some c, [], []⟩ := by
  refine OpS.still fun A ρ σ a w _ h hp hs => ?_
  have hx := hs.ev h.1
  obtain ⟨b, arr, h1, ⟨fz, hmk, h2⟩, h3, h4⟩ := hs.mem.heap id _ hp.1
  have hlt : off < arr.size := by have := (List.getElem?_eq_some_iff.1 hc).1; omega
  have hax : arr[off]? = some arr[off] := Array.getElem?_eq_getElem hlt
  refine ⟨arr[off], ?_, (h4 off c _ hc hax).1⟩
  refine runv (s := Instr.loadAt t (a.eval x)) ?_
  generalize a.eval x = y at hx ⊢
  cases hx with
  | ptr id off b' hb' =>
    rw [h1] at hb'
    cases hb'
    exact run_load1 hu hd (by rw [cell_of_row w b off arr T fz h2]; exact hax)
theorem OpS.loadPA {t T : TypeId} {d : TypeDesc} {inf : TypeInfo} {x : Operand} {id off sz : Nat} {cs : List AV} (hu : P.underlying t = some d) (hd : d.isRow = true) (hi : P.info? t = some inf) (hz : inf.size = sz) (hl : off + sz ≤ cs.length) :
    OpS P G ⟨dst, .load t x, ty, pos, aft, gd⟩ [(x, .ptr id off)] [(id, .cells T cs)] ⟨some (.agg ((cs.drop off).take sz)), [], []⟩ := by
  subst hz
  refine OpS.still fun A ρ σ a w _ h hp hs => ?_
  have hx := hs.ev h.1
  obtain ⟨b, arr, h1, ⟨fz, hmk, h2⟩, h3, h4⟩ := hs.mem.heap id _ hp.1
  refine ⟨.agg ((arr.toList.drop off).take inf.size).toArray, ?_, ?_⟩
  · refine runv (s := Instr.loadAt t (a.eval x)) ?_
    generalize a.eval x = y at hx ⊢
    cases hx with
    | ptr id off b' hb' =>
      rw [h1] at hb'
      cases hb'
      refine run_loadAt_mid w b off t ((arr.toList.drop off).take inf.size) d (fun j v hj => ?_) hu hd ?_
      · rw [cell_of_row w b (off + j) arr T fz h2]
        rw [List.getElem?_take] at hj
        split at hj
        · rw [List.getElem?_drop] at hj; simpa using hj
        · cases hj
      · rw [hi]; simp; omega
  · refine .agg _ _ (by simp; omega) (fun i c y hc hy => ?_)
    rw [List.getElem?_toArray, List.getElem?_take] at hy
    rw [List.getElem?_take] at hc
    split at hc
    · rename_i hlt
      rw [if_pos hlt, List.getElem?_drop] at hy
      rw [List.getElem?_drop] at hc
      exact (h4 _ c y hc (by simpa using hy)).1
    · cases hc
/-- load: out of a table -/
theorem OpS.loadG {t : TypeId} {d : TypeDesc} {x : Operand} {g off : Nat} {arr : Array Value} {v : Value} (hu : P.underlying t = some d) (hd : d.isRow = false) (hm : (g, arr) ∈ G) (hv : arr[off]? = some v) :
    OpS P G ⟨dst, .load t x, ty, pos, aft, gd⟩ [(x, .v (.pointer (some ⟨g, off, none⟩)))] [] ⟨some (.v v), [], []⟩ := by
  refine OpS.still fun A ρ σ a w hG h _ hs => ⟨v, ?_, .v v⟩
  refine runv (s := Instr.loadAt t (a.eval x)) ?_
  rw [(hs.ev h.1).raw]
  obtain ⟨⟨T, h1⟩, h2⟩ := hs.mem.tabs _ (by rw [hG]; exact hm)
  have hb := (hs.mem.block g (Array.getElem?_eq_some_iff.1 h1).1 h2).trans h1
  exact run_load1 hu hd (by rw [cell_of_row w g off arr T (0, 0) hb]; exact hv)
theorem OpS.loadGA {t : TypeId} {d : TypeDesc} {inf : TypeInfo} {x : Operand} {g : Nat} {arr : Array Value} (hu : P.underlying t = some d) (hd : d.isRow = true) (hm : (g, arr) ∈ G) (hi : P.info? t = some inf) (hz : inf.size = arr.size) :
    OpS P G ⟨dst, .load t x, ty, pos, aft, gd⟩ [(x, .v (.pointer (some ⟨g, 0, none⟩)))] [] ⟨some (.v (.agg arr)), [], []⟩ := by
  refine OpS.still fun A ρ σ a w hG h _ hs => ⟨_, ?_, .v _⟩
  refine runv (s := Instr.loadAt t (a.eval x)) ?_
  rw [(hs.ev h.1).raw]
  obtain ⟨⟨T, h1⟩, h2⟩ := hs.mem.tabs _ (by rw [hG]; exact hm)
  have hb := (hs.mem.block g (Array.getElem?_eq_some_iff.1 h1).1 h2).trans h1
  have := run_loadAt_mid w g 0 t arr.toList d (fun j v hj => by rw [cell_of_row w g (0 + j) arr T (0, 0) hb]; simpa using hj) hu hd (by rw [hi]; simp [hz])
  simpa using this

/-- store: one cell of an entry -/
theorem OpS.storeP {t T : TypeId} {inf : TypeInfo} {x y : Operand} {id off : Nat} {cs : List AV} {c : AV} (hi : P.info? t = some inf) (hz : inf.size = 1) (h1 : c.one = true) (hl : off < cs.length) :
    OpS P G ⟨dst, .store t x y, ty, pos, aft, gd⟩ [(x, .ptr id off), (y, c)] [(id, .cells T cs)] ⟨none, [(id, some (.cells T (cs.set off c)))], []⟩ := by
  refine OpS.act fun A ρ σ a w _ h hp _ hs => ?_
  have hx := hs.ev h.1
  have hy := hs.ev h.2.1
  obtain ⟨b, arr, k1, ⟨fz, hmk, k2⟩, k3, k4⟩ := hs.mem.heap id _ hp.1
  have h1' := hy.oneCell h1
  have hlt : off < arr.size := by omega
  have hb2 := heap_setCell (i := off) k2 (a.eval y)
  obtain ⟨m1, m2⟩ := hs.mem.write (cs' := cs.set off c) (w' := w.setCell ⟨b, off, none⟩ (a.eval y)) hp.1 k1 rfl rfl rfl (by simp) (fun k _ hk => heap_setCell_ne hk _) (by unfold Mark; rw [Array.size_setIfInBounds]; exact hmk) hb2 (by simp; omega) (fun j c' x' hc hx' => by
    by_cases hj : j = off
    · subst hj
      rw [List.getElem?_set_self hl] at hc
      cases hc
      have hx2 : x' = a.eval y := by simpa [hlt] using hx'.symm
      rw [hx2]
      exact ⟨hy, h1'⟩
    · rw [List.getElem?_set_ne (Ne.symm hj)] at hc
      rw [Array.getElem?_setIfInBounds_ne (Ne.symm hj)] at hx'
      exact k4 j c' x' hc hx')
  refine ⟨undef, w.setCell ⟨b, off, none⟩ (a.eval y), ρ, .inr ⟨?_, rfl⟩, m1, m2, fun v hv => by cases hv⟩
  refine runu (s := Instr.storeAt t (a.eval x) (a.eval y)) ?_
  generalize a.eval x = z at hx
  cases hx with
  | ptr id off b' hb' =>
    rw [k1] at hb'
    cases hb'
    have hcell : w.cell? ⟨b, off, none⟩ = some arr[off] := by rw [cell_of_row w b off arr T fz k2]; exact Array.getElem?_eq_getElem hlt
    have hfz := hmk.frozen (j := off) k2 hlt
    generalize a.eval y = v at h1'
    have hcs : v.cells = #[v] := by cases v <;> first | rfl | cases h1'
    have hadd : (⟨b, off, none⟩ : Addr).add 0 = ⟨b, off, none⟩ := rfl
    simp only [Instr.storeAt, Instr.sureAddr, Sem.run_bind, Sem.run_pure, Result.andThen_ok, storeVar, sizeOf, typeInfo, hcs]
    simp [Sem.run_bind, Sem.run_pure, Result.andThen_ok, hi, hz, storeCells, hadd, run_store P w _ v _ h1', hcell, hfz]
end
end Go.Proofs.Ytjmbendppcildaa.E
end
section
/- append, onto a row of the play's own: what it comes to in abstract words. -/
namespace Go.Proofs.Ytjmbendppcildaa.E
open Go Go.RowKit Go.Proofs.Ytjmbendppcildaa.V

section
variable {P : Program} (w : World)
/-- append onto a row of the play's own: in place, or into a new block -/
theorem run_append_two (t tx ty e : TypeId) (i : TypeInfo) (z : Value) (size : Nat) (ht : P.underlying t = some (.slice e)) (hi : P.info? e = some i) (hz : i.zero = some z)
    (hsize : i.size = size) (hzs : z.cells.size = size) (hsz : 0 < size)
    (v : Value) (n : Nat) (xs : List Value) (hown : w.ownsRow 0 e size v n xs) (x : Value) (m : Nat) (news : List Value) (hs : Src P size tx x m news w)
    (h63 : n + m ≤ maxLen) (hbytes : (n + m) * i.bytes ≤ 140737488355328) :
    ∃ v' w', (Builtin.append_ #[t, tx] ty #[v, x]).run P w = .ok v' w' ∧ w'.ownsRow 0 e size v' (n + m) (xs ++ news) ∧
      ((v'.ownBlock = v.ownBlock ∧ w.grownBy w' v.ownBlock) ∨ (v'.ownBlock = some w.heap.size ∧ w.grownBy w' none)) := by
  subst hsize
  have hsmall : ((n + m : Nat) : Int) ≤ 9223372036854775807 := by simp only [maxLen] at h63; omega
  have hl := hs.newsLen
  have hlen : (xs ++ news).length = (n + m) * i.size := by rw [List.length_append, hown.1, hl, Nat.add_mul]
  have grown : ∀ (old : Nat), old < n + m →
      (w.drew.alloc (.cells ((xs ++ news).toArray ++ Builtin.zeroCells z.cells (grownCap w (n + m) old e - (n + m))) e)).ownsRow 0 e i.size
        (.slice (some ⟨w.heap.size, 0, none⟩) (n + m) (grownCap w (n + m) old e)) (n + m) (xs ++ news) ∧
      w.grownBy (w.drew.alloc (.cells ((xs ++ news).toArray ++ Builtin.zeroCells z.cells (grownCap w (n + m) old e - (n + m))) e)) none := by
    intro old ho
    have hge := grownCap_ge w (n + m) old e
    have hcm : grownCap w (n + m) old e ≤ maxLen := grownCap_le_maxLen w (n + m) old e h63
    refine ⟨⟨hlen, .inr ⟨w.heap.size, _, _, rfl, Nat.zero_le _, heap_alloc_new w.drew _, hge, hcm, ?_, ?_⟩⟩, ⟨rfl, rfl, rfl, by simp, fun k hk _ => Below.heap_alloc w.drew _ k hk⟩⟩
    · simp only [Array.size_append, List.size_toArray, size_zeroCells, hzs, hlen, ← Nat.add_mul]
      congr 1
      omega
    · simp only [Array.toList_append]
      rw [← hlen]
      exact List.take_left
  rcases hown.2 with ⟨rfl, rfl⟩ | ⟨g, cap, cur, rfl, hbg, hg, hnc, hcm, hcs, htake⟩
  · have hx : xs = [] := List.eq_nil_of_length_eq_zero (by simpa using hown.1)
    subst hx
    by_cases hm : m = 0
    · subst hm
      have hn : news = [] := List.eq_nil_of_length_eq_zero (by simpa using hl)
      subst hn
      refine ⟨.slice none 0 0, w, ?_, World.ownsRow_nil w 0 e i.size, .inl ⟨rfl, ⟨rfl, rfl, rfl, Nat.le_refl _, fun _ _ _ => rfl⟩⟩⟩
      rcases hs.kind with ⟨e', hk⟩ | hk <;> simp [Builtin.append_, run_underlying ht, run_underlying hk, sizeOf, typeInfo, hi, hs.len, hs.cells]
    · have hold : (Builtin.firstCells i.size 0 (.slice none 0 0)).run P w.drew = .ok ([] : List Value).toArray w.drew := by simp [Builtin.firstCells]
      have hr := run_append_grow_src (P := P) w t tx ty e i z ht hi hz none 0 0 [] hold x m news hs (by omega) (by omega) (growslice_fits (by omega) (by have hb := hbytes; simp only [Nat.zero_add] at hb ⊢; omega))
      have hgr := grown 0 (by omega)
      simp only [Nat.zero_add, List.nil_append] at hgr hr ⊢
      exact ⟨_, _, hr, hgr.1, .inr ⟨rfl, hgr.2⟩⟩
  · by_cases hroom : n + m ≤ cap
    · have hfit : n * i.size + news.length ≤ cur.size := by rw [hl, hcs, ← Nat.add_mul]; exact Nat.mul_le_mul_right _ hroom
      have hr := run_append_room_row (P := P) w t tx ty e i ht hi g n cap cur hg x m news hs hroom hfit
      refine ⟨_, _, hr, ⟨hlen, .inr ⟨g, cap, _, rfl, hbg, setRow_heap w g cur _ e _ hg, hroom, hcm, ?_, ?_⟩⟩, .inl ⟨rfl, ⟨rfl, rfl, rfl, by simp, fun k hk hk' => setRow_other w g k _ (fun e => hk' (by simp [Value.ownBlock, e]))⟩⟩⟩
      · simp only [List.size_toArray, List.length_append, List.length_take, List.length_drop, Array.length_toList]
        omega
      · rw [htake, ← hlen]
        exact List.take_left
    · have holds : ∀ j u, xs[j]? = some u → w.drew.cell? ((⟨g, 0, none⟩ : Addr).add j) = some u := by simpa using hown.cells (g := g) rfl
      have hold : (Builtin.firstCells i.size n (.slice (some ⟨g, 0, none⟩) n cap)).run P w.drew = .ok xs.toArray w.drew := run_firstCells_some w.drew i.size n ⟨g, 0, none⟩ n cap xs hown.1 holds
      have hr := run_append_grow_src (P := P) w t tx ty e i z ht hi hz (some ⟨g, 0, none⟩) n cap xs hold x m news hs (by omega) hsmall (growslice_fits (by omega) hbytes)
      have hgr := grown cap (by omega)
      exact ⟨_, _, hr, hgr.1, .inr ⟨rfl, hgr.2⟩⟩
end

/-- what an abstract value gives as a source of cells -/
def SrcA (P : Program) (sz : Nat) (tx : TypeId) (y : AV) (m : Nat) (ds : List AV) : Prop :=
  ∀ (N : Nat → Nat → Prop) (ρ : Env) (w : World) (x : Value), VRel N ρ w y x → ∃ news, Src P sz tx x m news w ∧ ∀ (j : Nat) (d : AV) (v : Value), ds[j]? = some d → news[j]? = some v → VRel N ρ w d v

theorem SrcA.sl {P : Program} {sz : Nat} {tx e : TypeId} (hk : P.underlying tx = some (.slice e)) {o : Option Nat} {m : Nat} {ds : List AV} (hl : ds.length = m * sz) : SrcA P sz tx (.sl o m ds) m ds := by
  intro N ρ w x hx
  cases hx with
  | sl o n cs a cap vals hc hcs ho hn hz hm =>
    by_cases h0 : ds.length = 0
    · have hds : ds = [] := List.eq_nil_of_length_eq_zero h0
      subst hds
      refine ⟨[], ?_, fun j d v hj => by simp at hj⟩
      refine ⟨.inl ⟨e, hk⟩, fun w' => by simp [Builtin.lenOf], ?_, ?_, by simpa using hl, fun u hu => by cases hu⟩
      all_goals
        have hl' : m * sz = 0 := by simpa using hl.symm
        cases a with
        | none => simp [Builtin.firstCells]
        | some ad => simp [Builtin.firstCells, hl', loadCells, loadCellsFrom]
    · obtain ⟨h1', b, off, rfl, -⟩ := hc 0 (by omega)
      refine ⟨(List.range ds.length).map vals, ?_, fun j d v hj hv => ?_⟩
      · have hcell : ∀ j u, ((List.range ds.length).map vals)[j]? = some u → w.cell? ((⟨b, off, none⟩ : Addr).add j) = some u := by
          intro j u hu
          rw [List.getElem?_map] at hu
          cases hr : (List.range ds.length)[j]? with
          | none => rw [hr] at hu; cases hu
          | some k =>
            rw [hr] at hu
            obtain ⟨hk1, hk2⟩ := List.getElem?_eq_some_iff.1 hr
            simp at hk1 hk2
            subst hk2
            cases hu
            obtain ⟨-, b', off', he, hx', -⟩ := hc j hk1
            cases he
            rw [Addr.add_mid]
            exact hx'
        exact Src.ofSlice w hk ⟨b, off, none⟩ m cap _ (by simp [hl]) hcell (fun u hu => by
          obtain ⟨k, hk1, rfl⟩ := List.mem_map.1 hu
          exact (hc k (by simpa using hk1)).1)
      · have hj' := (List.getElem?_eq_some_iff.1 hj).1
        have hx2 : v = vals j := by
          rw [List.getElem?_map, List.getElem?_range hj'] at hv
          simpa using hv.symm
        rw [hx2]
        exact hcs j d hj
theorem SrcA.str {P : Program} {tx : TypeId} (hk : P.underlying tx = some .string) (l : List UInt8) : SrcA P 1 tx (.v (.string (B l))) l.length (l.map fun b => .v (bv b)) := by
  intro N ρ w x hx
  cases hx
  refine ⟨bvs l, Src.text w hk l, fun j d v hj hv => ?_⟩
  rw [List.getElem?_map] at hj
  cases hl : l[j]? with
  | none => rw [hl] at hj; cases hj
  | some b =>
    rw [hl] at hj
    cases hj
    have : v = bv b := by simpa [bvs, hl] using hv.symm
    rw [this]
    exact .v _
theorem SrcA.nil {P : Program} {sz : Nat} {tx e : TypeId} (hk : P.underlying tx = some (.slice e)) : SrcA P sz tx (.v (.slice none 0 0)) 0 [] := by
  intro N ρ w x hx
  cases hx
  exact ⟨[], Src.ofNil w hk 0, fun j d v hj => by simp at hj⟩

section
variable {P : Program} {G : List (Nat × Array Value)} {dst : Option Tmp} {ty : TypeId} {pos : String} {aft : Array Edge} {gd : Option (Nat × Bool)}

theorem grown_cells {w w' : World} {row : Option Nat} (h : w.grownBy w' row) {b o : Nat} (hb : b < w.heap.size) (hn : some b ≠ row) : w'.cell? ⟨b, o, none⟩ = w.cell? ⟨b, o, none⟩ :=
  World.cell?_of_block (w := w) (h.block b hb hn)

/-- the heart: a tip is appended to -/
theorem append_tip {A : Amb} {ρ : Env} {σ : AS} {w w' : World} {c c' n m sz : Nat} {E : TypeId} {cs ds : List AV} {v v' : Value} {xs news : List Value} (H : HSat A ρ σ.h σ.u w) (hc : σ.h c = some (.tip E sz n)) (hu : σ.u c' = false)
    (hv : VRel (Nh A σ.h ρ w) ρ w (.sl (some c) n cs) v) (hl : cs.length = n * sz) (hxs : w.ownsRow 0 E sz v n xs) (hown : w'.ownsRow 0 E sz v' (n + m) (xs ++ news)) (hnews : news.length = m * sz) (hdl : ds.length = m * sz)
    (hds : ∀ (j : Nat) (d : AV) (x : Value), ds[j]? = some d → news[j]? = some x → VRel (Nh A σ.h ρ w) ρ w d x ∧ x.oneCell' = true) (hmax : n + m ≤ maxLen)
    (hg : (v'.ownBlock = v.ownBlock ∧ w.grownBy w' v.ownBlock) ∨ (v'.ownBlock = some w.heap.size ∧ w.grownBy w' none)) :
    ∃ ρ', HSat A ρ' (upd (upd σ.h c none) c' (some (.tip E sz (n + m)))) (nuU σ.u [c']) w' ∧
      (∀ av y, VRel (Nh A σ.h ρ w) ρ w av y → VRel (Nh A (upd (upd σ.h c none) c' (some (.tip E sz (n + m)))) ρ' w') ρ' w' av y) ∧
      VRel (Nh A (upd (upd σ.h c none) c' (some (.tip E sz (n + m)))) ρ' w') ρ' w' (.sl (some c') (n + m) (cs ++ ds)) v' := by
  have hne : ∀ i, σ.u i = true → i ≠ c' := fun i hi e => by subst e; rw [hu] at hi; cases hi
  have htip : ρ.tip c = some v := by cases hv with | sl o n cs a cap vals hc hcs ho hn hz hm => exact ho c rfl
  have hcc : c ≠ c' := hne c (H.usedT c v htip)
  let ρ' : Env := ⟨ρ.blk, upd ρ.tip c' (some v')⟩
  have hold : ∀ i, i ≠ c' → ρ'.blk i = ρ.blk i ∧ ρ'.tip i = ρ.tip i := fun i hi => ⟨rfl, upd_ne _ _ hi⟩
  have hnew : ρ'.tip c' = some v' := upd_same _ _ _
  have hle : ρ.le ρ' := ⟨fun i b hb => hb, fun i b hb => by rw [(hold i (hne i (H.usedT i b hb))).2]; exact hb⟩
  have hgB : w.os = w'.os ∧ w.tape = w'.tape ∧ w.output = w'.output ∧ w.heap.size ≤ w'.heap.size ∧ ∀ k, k < w.heap.size → some k ≠ v.ownBlock → w'.heap[k]? = w.heap[k]? := by
    rcases hg with ⟨-, h⟩ | ⟨-, h⟩
    · exact ⟨h.os.symm, h.tape.symm, h.output.symm, h.size, h.block⟩
    · exact ⟨h.os.symm, h.tape.symm, h.output.symm, h.size, fun k hk _ => h.block k hk (by simp)⟩
  obtain ⟨ho1, ho2, ho3, ho4, ho5⟩ := hgB
  /- the block of the row that was -/
  have hvat : ∀ g, v.ownBlock = some g → (AO.tip E sz n).at_ ρ c g ∧ g < w.heap.size := by
    intro g hgv
    rcases hxs.2 with ⟨rfl, -⟩ | ⟨g', cap, cur, rfl, -, hh, -⟩
    · cases hgv
    · cases hgv
      exact ⟨⟨cap, htip⟩, (Array.getElem?_eq_some_iff.1 hh).1⟩
  have hatv : ∀ b, (AO.tip E sz n).at_ ρ c b → v.ownBlock = some b := by
    rintro b ⟨cap, h⟩
    rw [htip] at h
    cases h
    rfl
  have hcase : ∀ i ob, upd (upd σ.h c none) c' (some (AO.tip E sz (n + m))) i = some ob → (i = c' ∧ ob = .tip E sz (n + m)) ∨ (i ≠ c' ∧ i ≠ c ∧ σ.h i = some ob) := by
    intro i ob hi
    rcases upd_eq_some hi with ⟨rfl, h⟩ | ⟨h1, h⟩
    · cases h; exact .inl ⟨rfl, rfl⟩
    · rcases upd_eq_some h with ⟨h2, h3⟩ | ⟨h2, h3⟩
      · cases h3
      · exact .inr ⟨h1, h2, h3⟩
  have hat' : ∀ b, (AO.tip E sz (n + m)).at_ ρ' c' b → v'.ownBlock = some b := by
    rintro b ⟨cap, h⟩
    rw [hnew] at h
    cases h
    rfl
  have hother : ∀ i ob b, i ≠ c → σ.h i = some ob → ob.at_ ρ i b → some b ≠ v.ownBlock := by
    intro i ob b hi hσ hat he
    exact hi (H.sep i c ob _ b hσ hc hat (hvat b he.symm).1)
  /- cells ahead of the tip stand -/
  have hcells : ∀ b o, Nh A σ.h ρ w b o → w'.cell? ⟨b, o, none⟩ = w.cell? ⟨b, o, none⟩ := by
    intro b o hn
    by_cases hbv : v.ownBlock = some b
    · have hat := hvat b hbv
      rcases hg with ⟨he, -⟩ | ⟨-, hgr⟩
      · rcases hxs.2 with ⟨rfl, -⟩ | ⟨g, cap, cur, rfl, -, hh, hn1, hn2, hn3, hn4⟩
        · cases hbv
        · cases hbv
          have hlt : o < n * sz := by
            rcases Nat.lt_or_ge o (n * sz) with h | h
            · exact h
            · exact (hn.2.2 c _ hc ⟨cap, htip, h⟩).elim
          rcases hown.2 with ⟨rfl, -⟩ | ⟨g', cap', cur', rfl, -, hh', hm1, hm2, hm3, hm4⟩
          · cases he
          · cases he
            rw [cell_of_row w' _ o cur' E (0, 0) hh', cell_of_row w _ o cur E (0, 0) hh]
            have e1 : cur'[o]? = (xs ++ news)[o]? := by
              rw [← hm4, List.getElem?_take_of_lt (by rw [Nat.add_mul]; omega)]
              simp
            have e2 : cur[o]? = xs[o]? := by
              rw [← hn4, List.getElem?_take_of_lt hlt]
              simp
            rw [e1, e2, List.getElem?_append_left (by rw [hxs.1]; exact hlt)]
      · exact grown_cells hgr hn.1 (by simp)
    · exact World.cell?_of_block (w := w) (ho5 b hn.1 (fun e => hbv e.symm))
  have hown' : ∀ b, v'.ownBlock = some b → v.ownBlock = some b ∨ b = w.heap.size := by
    intro b hb
    rcases hg with ⟨he, -⟩ | ⟨he, -⟩
    · rw [he] at hb; exact .inl hb
    · rw [he] at hb; cases hb; exact .inr rfl
  obtain ⟨HN, hV⟩ := H.next (ρ' := ρ') (h' := upd (upd σ.h c none) c' (some (.tip E sz (n + m)))) (u' := nuU σ.u [c']) (w' := w') ho1.symm ho2.symm ho3.symm ho4
    (fun i hi => ⟨by rw [nuU_eq, hi]; rfl, hold i (hne i hi)⟩)
    (fun i b hb => by rw [nuU_eq, H.usedB i b hb]; rfl)
    (fun i b hb => by
      rw [nuU_eq]
      by_cases hi : i = c'
      · subst hi; simp
      · rw [(hold i hi).2] at hb; rw [H.usedT i b hb]; rfl)
    (fun k hk hno => ho5 k hk (fun e => hno c _ hc (hvat k e.symm).1))
    hcells
    (fun i ob b o hi hw => by
      rcases hcase i ob hi with ⟨rfl, rfl⟩ | ⟨h1, h2, hσ⟩
      · obtain ⟨cap, ht, hoo⟩ := hw
        rw [hnew] at ht
        have hb' : v'.ownBlock = some b := by cases ht; rfl
        rcases hown' b hb' with h | h
        · obtain ⟨⟨cap', ht'⟩, -⟩ := hvat b h
          exact .inl ⟨c, _, hc, cap', ht', by rw [Nat.add_mul] at hoo; omega⟩
        · exact .inr (by omega)
      · exact .inl ⟨i, ob, hσ, (H.heap i ob hσ).wr_back hle hw⟩)
    (fun i ob b hi hw => by
      rcases hcase i ob hi with ⟨rfl, rfl⟩ | ⟨h1, h2, hσ⟩
      · rcases hown' b (hat' b hw) with h | h
        · exact .inl ⟨c, _, hc, (hvat b h).1⟩
        · exact .inr (by omega)
      · exact .inl ⟨i, ob, hσ, (H.heap i ob hσ).at_back hle hw⟩)
    (fun i j oi oj b hi hj h1 h2 => by
      have far : ∀ k ok, k ≠ c → σ.h k = some ok → ok.at_ ρ k b → v'.ownBlock = some b → False := by
        intro k ok hk hσ hat hb
        rcases hown' b hb with h | h
        · exact hother k ok b hk hσ hat h.symm
        · have := (H.heap k ok hσ).lt hat; omega
      rcases hcase i oi hi with ⟨rfl, rfl⟩ | ⟨k1, k2, hσ⟩ <;> rcases hcase j oj hj with ⟨rfl, rfl⟩ | ⟨k3, k4, hσ'⟩
      · rfl
      · exact (far j oj k4 hσ' ((H.heap j oj hσ').at_back hle h2) (hat' b h1)).elim
      · exact (far i oi k2 hσ ((H.heap i oi hσ).at_back hle h1) (hat' b h2)).elim
      · exact H.sep i j oi oj b hσ hσ' ((H.heap i oi hσ).at_back hle h1) ((H.heap j oj hσ').at_back hle h2))
    (fun hV i ob hi => by
      rcases hcase i ob hi with ⟨rfl, rfl⟩ | ⟨h1, h2, hσ⟩
      · rcases hown.2 with ⟨rfl, h0⟩ | ⟨g, cap, cur, rfl, -, hh, hn1, hn2, hn3, -⟩
        · exact .inl ⟨hnew, h0⟩
        · exact .inr ⟨g, cap, cur, hnew, hh, hn1, hn2, hn3⟩
      · exact (H.heap i ob hσ).keep hle hV fun b hb => ho5 b ((H.heap i ob hσ).lt hb) (hother i ob b h2 hσ hb))
  refine ⟨ρ', HN, hV, ?_⟩
  rcases hown.2 with ⟨rfl, h0⟩ | ⟨g, cap, cur, rfl, -, hh, hn1, hn2, hn3, hn4⟩
  · have hz : (cs ++ ds).length = 0 := by rw [List.length_append, hl, hdl, ← Nat.add_mul, h0, Nat.zero_mul]
    have hz' := List.eq_nil_of_length_eq_zero hz
    rw [hz', h0]
    refine .sl _ _ _ _ _ (fun _ => undef) (fun i hi => by simp at hi) (fun i c hc => by simp at hc) (fun k hk => by cases hk; exact hnew) (Nat.le_refl _) (fun _ => rfl) (by unfold maxLen; omega)
  · have hlen : (cs ++ ds).length = (n + m) * sz := by rw [List.length_append, hl, hdl, Nat.add_mul]
    have hmul := Nat.mul_le_mul_right sz hn1
    have hcell : ∀ i, i < (n + m) * sz → w'.cell? ⟨g, 0 + i, none⟩ = some ((xs ++ news).getD i undef) := by
      intro i hi
      rw [cell_of_row w' g (0 + i) cur E (0, 0) hh, Nat.zero_add]
      have e1 : cur[i]? = (xs ++ news)[i]? := by
        rw [← hn4, List.getElem?_take_of_lt hi]
        simp
      rw [e1, List.getD_eq_getElem?_getD, List.getElem?_eq_getElem (by rw [hown.1]; exact hi)]
      rfl
    have hval : ∀ i (d : AV), (cs ++ ds)[i]? = some d → VRel (Nh A σ.h ρ w) ρ w d ((xs ++ news).getD i undef) ∧ ((xs ++ news).getD i undef).oneCell' = true := by
      intro i d hd
      have hi := (List.getElem?_eq_some_iff.1 hd).1
      rw [List.length_append] at hi
      by_cases hic : i < cs.length
      · rw [List.getElem?_append_left hic] at hd
        rw [List.getD_eq_getElem?_getD, List.getElem?_append_left (by rw [hxs.1, ← hl]; exact hic)]
        cases hv with
        | sl o n cs a cap' vals hcv hcsv ho hn hz hm =>
          obtain ⟨k1, b, off, rfl, k2, k3⟩ := hcv i hic
          rcases hxs.2 with ⟨he, -⟩ | ⟨g2, cap2, cur2, he, -, hh2, -, -, -, hn42⟩
          · cases he
          · cases he
            have hx2 : w.cell? ⟨b, 0 + i, none⟩ = xs[i]? := by
              rw [cell_of_row w b (0 + i) cur2 E (0, 0) hh2, Nat.zero_add, ← hn42, List.getElem?_take_of_lt (by rw [← hl]; exact hic)]
              simp
            rw [k2] at hx2
            rw [← hx2]
            exact ⟨hcsv i d hd, k1⟩
      · rw [List.getElem?_append_right (by omega)] at hd
        have hxl : xs.length ≤ i := by rw [hxs.1, ← hl]; omega
        rw [List.getD_eq_getElem?_getD, List.getElem?_append_right hxl]
        have hj : i - xs.length = i - cs.length := by rw [hxs.1, hl]
        rw [hj]
        have hlt : i - cs.length < news.length := by rw [hnews, ← hdl]; omega
        have := hds (i - cs.length) d news[i - cs.length] hd (List.getElem?_eq_getElem hlt)
        rw [List.getElem?_eq_getElem hlt]
        exact this
    refine .sl _ _ _ _ _ (fun i => (xs ++ news).getD i undef) (fun i hi => ?_) (fun i d hd => hV _ _ (hval i d hd).1) (fun k hk => by cases hk; exact hnew) hn1 (fun h => by cases h) hn2
    have hi' : i < (n + m) * sz := by rw [← hlen]; exact hi
    refine ⟨(hval i _ (List.getElem?_eq_getElem hi)).2, g, 0, rfl, hcell i hi', ?_⟩
    refine ⟨(Array.getElem?_eq_some_iff.1 hh).1, ?_, ?_⟩
    · rcases hown' g rfl with h | h
      · by_cases hic : i < cs.length
        · cases hv with
          | sl o n cs a cap' vals hcv hcsv ho hn hz hm =>
            obtain ⟨k1, b, off, rfl, k2, k3⟩ := hcv i hic
            cases h
            rcases hxs.2 with ⟨he, -⟩ | ⟨g2, cap2, cur2, he, -⟩
            · cases he
            · cases he; exact k3.2.1
        · obtain ⟨⟨cap', ht'⟩, -⟩ := hvat g h
          have := H.own c _ g (0 + i) hc ⟨cap', ht', by rw [← hl]; omega⟩
          exact .inr this
      · have := H.size
        exact .inr (.inr (by omega))
    · intro k ok hk hw
      rcases hcase k ok hk with ⟨rfl, rfl⟩ | ⟨h1, h2, hσ⟩
      · obtain ⟨cap', ht, hoo⟩ := hw
        omega
      · have hw' := AO.at_of_wr ((H.heap k ok hσ).wr_back hle hw)
        rcases hown' g rfl with h | h
        · exact hother k ok g h2 hσ hw' h.symm
        · have := (H.heap k ok hσ).lt hw'; omega

theorem OpS.append {E t tx : TypeId} {inf : TypeInfo} {z : Value} {s x : Operand} {c n m sz bb : Nat} {cs ds : List AV} {y : AV} (c' : Nat) (ht : P.underlying t = some (.slice E)) (hi : P.info? E = some inf) (hz : inf.zero = some z) (hsz : inf.size = sz) (hzs : z.cells.size = sz) (h0 : 0 < sz)
    (hs : SrcA P sz tx y m ds) (hl : cs.length = n * sz) (hdl : ds.length = m * sz) (hmax : n + m ≤ maxLen) (hbb : inf.bytes = bb) (hb : (n + m) * bb ≤ 140737488355328) :
    OpS P G ⟨dst, .call ⟨.builtin .append, #[s, x], #[t, tx]⟩, ty, pos, aft, gd⟩ [(s, .sl (some c) n cs), (x, y)] [(c, .tip E sz n)] ⟨some (.sl (some c') (n + m) (cs ++ ds)), [(c, none), (c', some (.tip E sz (n + m)))], [c']⟩ := by
  subst hbb
  refine OpS.act fun A ρ σ a w _ h hp hu hst => ?_
  have hv := hst.ev h.1
  obtain ⟨news, hsrc, hds⟩ := hs _ _ _ _ (hst.ev h.2.1)
  obtain ⟨xs, hxs⟩ : ∃ xs, w.ownsRow 0 E sz (a.eval s) n xs := by
    have htip : ρ.tip c = some (a.eval s) := by
      generalize a.eval s = v at hv
      cases hv with | sl o n cs ad cap vals hc hcs ho hn hz hm => exact ho c rfl
    rcases hst.mem.heap c _ hp.1 with ⟨h1, h2⟩ | ⟨g, cap, cur, h1, h2, h3, h4, h5⟩
    · rw [htip] at h1
      injection h1 with h1
      exact ⟨[], by subst h2; simp, .inl ⟨h1, h2⟩⟩
    · rw [htip] at h1
      have he : a.eval s = .slice (some ⟨g, 0, none⟩) n cap := by injection h1
      refine ⟨cur.toList.take (n * sz), ?_, .inr ⟨g, cap, cur, he, Nat.zero_le _, h2, h3, h4, h5, rfl⟩⟩
      have := Nat.mul_le_mul_right sz h3
      simp; omega
  obtain ⟨v', w', hr, hown, hg⟩ := run_append_two (P := P) w t tx ty E inf z sz ht hi hz hsz hzs h0 _ n xs hxs _ m news hsrc hmax hb
  obtain ⟨ρ', k1, k2, k3⟩ := append_tip (σ := σ) hst.mem hp.1 hu.1 hv hl hxs hown hsrc.newsLen hdl (fun j d x hj hx => ⟨hds j d x hj hx, hsrc.one x (List.mem_of_getElem? hx)⟩) hmax hg
  obtain ⟨css, he⟩ := exec_b2 a.eval .append s x #[t, tx] (dst := dst) (ty := ty) (pos := pos) (aft := aft) (gd := gd)
  refine ⟨v', w', ρ', .inl ?_, k1, k2, fun v hv' => by cases hv'; exact k3⟩
  rw [he]
  exact runv (s := Builtin.append_ #[t, tx] ty #[a.eval s, a.eval x]) hr
end
end Go.Proofs.Ytjmbendppcildaa.E
end
section
/- New memory: variables, literals, made slices; parts of structs; texts and bytes; closures. -/
namespace Go.Proofs.Ytjmbendppcildaa.E
open Go Go.RowKit Go.Proofs.Ytjmbendppcildaa.V

/-- the cells of a value -/
def cellsA : AV → List AV
  | .agg cs => cs
  | .v (.agg arr) => arr.toList.map .v
  | x => [x]
theorem cellsA_rel {N : Nat → Nat → Prop} {ρ : Env} {w : World} {y : AV} {x : Value} (h : VRel N ρ w y x) : x.cells.size = (cellsA y).length ∧ ∀ (j : Nat) (c : AV) (v : Value), (cellsA y)[j]? = some c → x.cells[j]? = some v → VRel N ρ w c v := by
  have one : ∀ (y : AV) (x : Value), VRel N ρ w y x → x.cells = #[x] → x.cells.size = [y].length ∧ ∀ (j : Nat) (c : AV) (v : Value), [y][j]? = some c → x.cells[j]? = some v → VRel N ρ w c v := by
    intro y x h hx
    rw [hx]
    refine ⟨rfl, fun j c v hc hv => ?_⟩
    match j with
    | 0 => simp at hc hv; subst hc; subst hv; exact h
    | j + 1 => simp at hc
  cases h with
  | v x =>
    cases x <;> first
      | exact one _ _ (.v _) rfl
      | (refine ⟨by simp [Value.cells, cellsA], fun j c v hc hv => ?_⟩
         simp only [cellsA, List.getElem?_map] at hc
         simp only [Value.cells] at hv
         rw [Array.getElem?_toList, hv] at hc
         cases hc
         exact .v _)
  | agg cs vs hs h => exact ⟨hs, h⟩
  | tup cs vs hs h => exact one _ _ (.tup cs vs hs h) rfl
  | sl o n cs a cap vals hc h ho hn hz hm => exact one _ _ (.sl o n cs a cap vals hc h ho hn hz hm) rfl
  | arr id off n cap b hb hn hm => exact one _ _ (.arr id off n cap b hb hn hm) rfl
  | ptr id off b hb => exact one _ _ (.ptr id off b hb) rfl
  | sptr cs b off vals hc h => exact one _ _ (.sptr cs b off vals hc h) rfl
  | fn f fs cs vs us hs h hs' h' => exact one _ _ (.fn f fs cs vs us hs h hs' h') rfl

def splice {α : Type} (l : List α) (off : Nat) (d : List α) : List α := l.take off ++ d ++ l.drop (off + d.length)
theorem splice_len {α : Type} (l : List α) (off : Nat) (d : List α) (h : off + d.length ≤ l.length) : (splice l off d).length = l.length := by simp [splice]; omega
theorem splice_get {α : Type} (l : List α) (off : Nat) (d : List α) (j : Nat) (h : off + d.length ≤ l.length) : (splice l off d)[j]? = if off ≤ j ∧ j < off + d.length then d[j - off]? else l[j]? := by
  unfold splice
  have hlen : (l.take off).length = off := by simp; omega
  by_cases h1 : j < off
  · rw [List.append_assoc, List.getElem?_append_left (by omega), List.getElem?_take_of_lt h1, if_neg (by omega)]
  · by_cases h2 : j < off + d.length
    · rw [List.getElem?_append_left (by simp; omega), List.getElem?_append_right (by omega), hlen, if_pos ⟨by omega, h2⟩]
    · rw [List.getElem?_append_right (by simp; omega), List.getElem?_drop, if_neg (by omega)]
      congr 1
      simp; omega

theorem foldl_set (d : List Value) : ∀ (off : Nat) (k : Nat) (cells : Array Value), off + k + d.length ≤ cells.size →
    (d.zipIdx k).foldl (fun (cs : Array Value) (p : Value × Nat) => cs.setIfInBounds (off + p.2) p.1) cells = (splice cells.toList (off + k) d).toArray := by
  induction d with
  | nil => intro off k cells _; simp [splice]
  | cons x d ih =>
    intro off k cells h
    simp only [List.length_cons] at h
    rw [List.zipIdx_cons, List.foldl_cons, ih off (k + 1) _ (by simp; omega)]
    apply congrArg
    apply List.ext_getElem?
    intro j
    rw [splice_get _ _ _ _ (by simp; omega), splice_get _ _ _ _ (by simp; omega)]
    simp only [List.length_cons]
    by_cases h1 : j = off + k
    · subst h1
      rw [if_neg (by omega), if_pos ⟨by omega, by omega⟩, Array.getElem?_toList, Array.getElem?_setIfInBounds_self_of_lt (by omega)]
      simp
    · by_cases h2 : off + (k + 1) ≤ j ∧ j < off + (k + 1) + d.length
      · rw [if_pos h2, if_pos ⟨by omega, by omega⟩, show j - (off + k) = j - (off + (k + 1)) + 1 by omega, List.getElem?_cons_succ]
      · rw [if_neg h2, if_neg (by omega), Array.getElem?_toList, Array.getElem?_toList, Array.getElem?_setIfInBounds_ne (by omega)]

/-- parts laid over noughts -/
def fillA (place : Nat → Option (Nat × Nat)) (cells : List AV) : List (Nat × AV) → Option (List AV)
  | [] => some cells
  | (i, y) :: rest => match place i with
    | none => none
    | some (off, size) => bif Nat.beq (cellsA y).length size && Nat.ble (off + (cellsA y).length) cells.length then fillA place (splice cells off (cellsA y)) rest else none
theorem fill_rel {N : Nat → Nat → Prop} {ρ : Env} {w : World} {place : Nat → Option (Nat × Nat)} : ∀ (ps : List (Nat × AV)) (vs : List (Nat × Value)) (cs cs' : List AV) (arr : Array Value), fillA place cs ps = some cs' → ps.map (·.1) = vs.map (·.1) →
    (∀ (j : Nat) (p : Nat × AV) (q : Nat × Value), ps[j]? = some p → vs[j]? = some q → VRel N ρ w p.2 q.2) → arr.size = cs.length → (∀ (j : Nat) (c : AV) (v : Value), cs[j]? = some c → arr[j]? = some v → VRel N ρ w c v) →
    ∃ arr', Instr.fill place arr vs = some arr' ∧ arr'.size = cs'.length ∧ ∀ (j : Nat) (c : AV) (v : Value), cs'[j]? = some c → arr'[j]? = some v → VRel N ρ w c v
  | [], [], cs, cs', arr, hf, _, _, hs, hr => by cases hf; exact ⟨arr, rfl, hs, hr⟩
  | (i, y) :: ps, (i', x) :: vs, cs, cs', arr, hf, hk, hv, hs, hr => by
    simp only [List.map_cons, List.cons.injEq] at hk
    obtain ⟨hii, hk⟩ := hk
    subst hii
    simp only [fillA] at hf
    cases hpl : place i with
    | none => rw [hpl] at hf; cases hf
    | some os =>
      obtain ⟨off, size⟩ := os
      rw [hpl] at hf
      dsimp only at hf
      cases hb : Nat.beq (cellsA y).length size && Nat.ble (off + (cellsA y).length) cs.length with
      | false => rw [hb] at hf; cases hf
      | true =>
        rw [hb] at hf
        simp only [Bool.and_eq_true, Nat.beq_eq, Nat.ble_eq] at hb
        obtain ⟨hb1, hb2⟩ := hb
        have hxy : VRel N ρ w y x := hv 0 (i, y) (i, x) rfl rfl
        obtain ⟨k1, k2⟩ := cellsA_rel hxy
        have hsp : x.cells.zipIdx.foldl (fun (cs : Array Value) (p : Value × Nat) => cs.setIfInBounds (off + p.2) p.1) arr = (splice arr.toList off x.cells.toList).toArray := by
          have := foldl_set x.cells.toList off 0 arr (by simp [k1, hs]; omega)
          rw [Nat.add_zero] at this
          rw [← this, ← Array.foldl_toList, Array.toList_zipIdx]
        obtain ⟨arr', m1, m2, m3⟩ := fill_rel ps vs _ cs' (splice arr.toList off x.cells.toList).toArray hf hk (fun j p q hp hq => hv (j + 1) p q (by simpa using hp) (by simpa using hq))
          (by rw [List.size_toArray, splice_len _ _ _ (by simp [k1, hs]; omega), splice_len _ _ _ (by omega)]; simpa using hs) (fun j c v hc hv' => by
            rw [splice_get _ _ _ _ (by omega)] at hc
            rw [List.getElem?_toArray, splice_get _ _ _ _ (by simp [k1, hs]; omega)] at hv'
            simp only [Array.length_toList, k1] at hv'
            split at hc
            · rename_i hin
              rw [if_pos hin] at hv'
              exact k2 _ c v hc (by simpa using hv')
            · rename_i hin
              rw [if_neg hin] at hv'
              exact hr j c v hc (by simpa using hv'))
        refine ⟨arr', ?_, m2, m3⟩
        simp only [Instr.fill, hpl]
        rw [if_neg (by simp only [Bool.or_eq_true, decide_eq_true_eq, not_or]; omega)]
        have hsp' : (x.cells.zipIdx.foldl (fun cs (c, j) => cs.setIfInBounds (off + j) c) arr) = (splice arr.toList off x.cells.toList).toArray := hsp
        rw [hsp']
        exact m1
  | [], _ :: _, _, _, _, _, hk, _, _, _ => by simp at hk
  | _ :: _, [], _, _, _, _, hk, _, _, _ => by simp at hk

/-- operands' values, one by one -/
inductive EvL (σ : AS) : List Operand → List AV → Prop
  | nil : EvL σ [] []
  | cons {x : Operand} {y : AV} {xs : List Operand} {ys : List AV} (h : σ.ev x = some y) (r : EvL σ xs ys) : EvL σ (x :: xs) (y :: ys)
theorem EvL.ok {σ : AS} {xs : List Operand} {ys : List AV} (h : EvL σ xs ys) : SlOk σ (xs.zip ys) ∧ xs.length = ys.length := by
  induction h with
  | nil => exact ⟨trivial, rfl⟩
  | cons h r ih => exact ⟨⟨h, ih.1⟩, by simp [ih.2]⟩

inductive EvP (σ : AS) : List (Nat × Operand) → List AV → Prop
  | nil : EvP σ [] []
  | cons {k : Nat} {x : Operand} {y : AV} {xs : List (Nat × Operand)} {ys : List AV} (h : σ.ev x = some y) (r : EvP σ xs ys) : EvP σ ((k, x) :: xs) (y :: ys)
theorem EvP.ok {σ : AS} {xs : List (Nat × Operand)} {ys : List AV} (h : EvP σ xs ys) : SlOk σ ((xs.map (·.2)).zip ys) ∧ xs.length = ys.length := by
  induction h with
  | nil => exact ⟨trivial, rfl⟩
  | cons h r ih => exact ⟨⟨h, ih.1⟩, by simp [ih.2]⟩

/-- a new block that nobody writes, seen as a slice -/
theorem new_slice {A : Amb} {ρ : Env} {h : Nat → Option AO} {u : Nat → Bool} {w w' : World} (H : HSat A ρ h u w) (os : w'.os = w.os) (tape : w'.tape = w.tape) (output : w'.output = w.output) (hsz : w'.heap.size = w.heap.size + 1)
    (other : ∀ k, k < w.heap.size → w'.heap[k]? = w.heap[k]?) {arr : Array Value} {T : TypeId} {fz : Nat × Nat} (hnew : w'.heap[w.heap.size]? = some (.cells arr T fz)) {cs : List AV} {n cap : Nat} (hl : cs.length ≤ arr.size) (hn : n ≤ cap) (hm : cap ≤ maxLen)
    (hc : ∀ (j : Nat) (c : AV) (v : Value), cs[j]? = some c → arr[j]? = some v → VRel (Nh A h ρ w) ρ w c v ∧ v.oneCell' = true) :
    HSat A ρ h u w' ∧ (∀ av x, VRel (Nh A h ρ w) ρ w av x → VRel (Nh A h ρ w') ρ w' av x) ∧ VRel (Nh A h ρ w') ρ w' (.sl none n cs) (.slice (some ⟨w.heap.size, 0, none⟩) n cap) := by
  obtain ⟨h1, h2, h3⟩ := H.grow os tape output (by omega) other
  refine ⟨h1, h2, .sl none n cs _ cap (fun i => arr.getD i undef) (fun i hi => ?_) (fun i c hi => ?_) (fun k hk => by cases hk) hn (fun h => by cases h) hm⟩
  · have hlt : i < arr.size := by omega
    have hv := hc i _ arr[i] (List.getElem?_eq_getElem hi) (Array.getElem?_eq_getElem hlt)
    have hgd : arr.getD i undef = arr[i] := by simp [Array.getD_eq_getD_getElem?, hlt]
    refine ⟨by rw [hgd]; exact hv.2, w.heap.size, 0, rfl, ?_, h3 _ _ (Nat.le_refl _) (by omega)⟩
    rw [cell_of_row w' w.heap.size (0 + i) arr T fz hnew, Nat.zero_add, hgd]
    exact Array.getElem?_eq_getElem hlt
  · have hi' := (List.getElem?_eq_some_iff.1 hi).1
    have hlt : i < arr.size := by omega
    have hgd : arr.getD i undef = arr[i] := by simp [Array.getD_eq_getD_getElem?, hlt]
    rw [hgd]
    exact h2 _ _ (hc i c _ hi (Array.getElem?_eq_getElem hlt)).1

/-- a new block with a name -/
theorem new_cellsM {A : Amb} {ρ : Env} {h : Nat → Option AO} {u : Nat → Bool} {w w' : World} (H : HSat A ρ h u w) {id : Nat} (hu : u id = false) (os : w'.os = w.os) (tape : w'.tape = w.tape) (output : w'.output = w.output) (hsz : w'.heap.size = w.heap.size + 1)
    (other : ∀ k, k < w.heap.size → w'.heap[k]? = w.heap[k]?) {arr : Array Value} {T : TypeId} {fz : Nat × Nat} (hmk : Mark arr fz) (hnew : w'.heap[w.heap.size]? = some (.cells arr T fz)) {cs : List AV} (hl : cs.length ≤ arr.size)
    (hc : ∀ (j : Nat) (c : AV) (v : Value), cs[j]? = some c → arr[j]? = some v → VRel (Nh A h ρ w) ρ w c v ∧ v.oneCell' = true) :
    ∃ ρ', HSat A ρ' (upd h id (some (.cells T cs))) (nuU u [id]) w' ∧ (∀ av x, VRel (Nh A h ρ w) ρ w av x → VRel (Nh A (upd h id (some (.cells T cs))) ρ' w') ρ' w' av x) ∧ ρ'.blk id = some w.heap.size := by
  let ρ' : Env := ⟨upd ρ.blk id (some w.heap.size), ρ.tip⟩
  have hid : ρ'.blk id = some w.heap.size := upd_same _ _ _
  obtain ⟨h1, h2⟩ := H.extend (ρ' := ρ') (ob := .cells T cs) (w' := w') hu (fun i hi => ⟨upd_ne _ _ hi, rfl⟩) os tape output (by omega) other (fun b hb => by
    have hb' : ρ'.blk id = some b := hb
    rw [hid] at hb'
    cases hb'
    exact Nat.le_refl _) (fun hV => ⟨_, arr, hid, ⟨_, hmk, hnew⟩, hl, fun j c v h1 h2 => ⟨hV _ _ (hc j c v h1 h2).1, (hc j c v h1 h2).2⟩⟩)
  exact ⟨ρ', h1, h2, hid⟩

/-- a new block with a name -/
theorem new_cells {A : Amb} {ρ : Env} {h : Nat → Option AO} {u : Nat → Bool} {w w' : World} (H : HSat A ρ h u w) {id : Nat} (hu : u id = false) (os : w'.os = w.os) (tape : w'.tape = w.tape) (output : w'.output = w.output) (hsz : w'.heap.size = w.heap.size + 1)
    (other : ∀ k, k < w.heap.size → w'.heap[k]? = w.heap[k]?) {arr : Array Value} {T : TypeId} (hnew : w'.heap[w.heap.size]? = some (.cells arr T (0, 0))) {cs : List AV} (hl : cs.length ≤ arr.size)
    (hc : ∀ (j : Nat) (c : AV) (v : Value), cs[j]? = some c → arr[j]? = some v → VRel (Nh A h ρ w) ρ w c v ∧ v.oneCell' = true) :
    ∃ ρ', HSat A ρ' (upd h id (some (.cells T cs))) (nuU u [id]) w' ∧ (∀ av x, VRel (Nh A h ρ w) ρ w av x → VRel (Nh A (upd h id (some (.cells T cs))) ρ' w') ρ' w' av x) ∧ ρ'.blk id = some w.heap.size :=
  new_cellsM H hu os tape output hsz other (.inl rfl) hnew hl hc

section
variable {P : Program} {G : List (Nat × Array Value)} {dst : Option Tmp} {ty : TypeId} {pos : String} {aft : Array Edge} {gd : Option (Nat × Bool)}

/-- a variable, at its type's nought -/
theorem OpS.alloc {T : TypeId} {inf : TypeInfo} {z : Value} (id : Nat) (hi : P.info? T = some inf) (hz : inf.zero = some z) (h1 : (z.cells.toList.all fun v => v.oneCell') = true) :
    OpS P G ⟨dst, .alloc T, ty, pos, aft, gd⟩ [] [] ⟨some (.ptr id 0), [(id, some (.cells T (z.cells.toList.map .v)))], [id]⟩ := by
  refine OpS.act fun A ρ σ a w _ h hp hu hs => ?_
  obtain ⟨ρ', k1, k2, k3⟩ := new_cells (w' := w.alloc (.cells z.cells T)) (T := T) (cs := z.cells.toList.map .v) hs.mem hu.1 rfl rfl rfl (by simp) (fun k hk => Below.heap_alloc w _ k hk) (heap_alloc_new w _) (by simp) (fun j c v hc hv => by
    rw [List.getElem?_map, Array.getElem?_toList, hv] at hc
    cases hc
    exact ⟨.v _, List.all_eq_true.1 h1 v (Array.mem_toList_iff.2 (Array.mem_of_getElem? hv))⟩)
  refine ⟨.pointer (some ⟨w.heap.size, 0, none⟩), w.alloc (.cells z.cells T), ρ', .inl ?_, k1, k2, fun v hv => by cases hv; exact .ptr id 0 _ k3⟩
  refine runv (s := Instr.alloc T true (.tuple #[])) ?_
  simp [Instr.alloc, newVar, newRow, zeroValue, typeInfo, hi, hz, Sem.run_bind, Sem.run_pure, Result.andThen_ok]
/-- a variable with a value -/
theorem OpS.box {T : TypeId} {x : Operand} {y : AV} (id : Nat) (h1 : ((cellsA y).all fun c => c.one) = true) :
    OpS P G ⟨dst, .box T x, ty, pos, aft, gd⟩ [(x, y)] [] ⟨some (.ptr id 0), [(id, some (.cells T (cellsA y)))], [id]⟩ := by
  refine OpS.act fun A ρ σ a w _ h hp hu hs => ?_
  obtain ⟨c1, c2⟩ := cellsA_rel (hs.ev h.1)
  obtain ⟨ρ', k1, k2, k3⟩ := new_cells (w' := w.alloc (.cells (a.eval x).cells T)) (T := T) (cs := cellsA y) hs.mem hu.1 rfl rfl rfl (by simp) (fun k hk => Below.heap_alloc w _ k hk) (heap_alloc_new w _) (by rw [c1]; exact Nat.le_refl _) (fun j c v hc hv =>
    ⟨c2 j c v hc hv, (c2 j c v hc hv).oneCell (List.all_eq_true.1 h1 c (List.mem_of_getElem? hc))⟩)
  refine ⟨.pointer (some ⟨w.heap.size, 0, none⟩), w.alloc (.cells (a.eval x).cells T), ρ', .inl ?_, k1, k2, fun v hv => by cases hv; exact .ptr id 0 _ k3⟩
  refine runv (s := Instr.box T (a.eval x)) ?_
  simp [Instr.box, newVar, newRow, Sem.run_bind, Sem.run_pure, Result.andThen_ok]
end
end Go.Proofs.Ytjmbendppcildaa.E
end
section
/- Literals, parts, texts and bytes, made slices, closures. -/
namespace Go.Proofs.Ytjmbendppcildaa.E
open Go Go.RowKit Go.Proofs.Ytjmbendppcildaa.V

theorem all_one {cs : List AV} {arr : Array Value} {N : Nat → Nat → Prop} {ρ : Env} {w : World} (h1 : (cs.all fun c => c.one) = true) (h : ∀ (j : Nat) (c : AV) (v : Value), cs[j]? = some c → arr[j]? = some v → VRel N ρ w c v) (j : Nat) (c : AV) (v : Value)
    (hc : cs[j]? = some c) (hv : arr[j]? = some v) : VRel N ρ w c v ∧ v.oneCell' = true :=
  ⟨h j c v hc hv, (h j c v hc hv).oneCell (List.all_eq_true.1 h1 c (List.mem_of_getElem? hc))⟩

theorem parts_rel {A : Amb} {ρ : Env} {σ : AS} {a : Act} {w : World} (hs : Sat A ρ σ a w) {ps : List (Nat × Operand)} {ys : List AV} (h : SlOk σ ((ps.map (·.2)).zip ys)) (hl : ps.length = ys.length) :
    ∀ (j : Nat) (p : Nat × AV) (q : Nat × Value), ((ps.map (·.1)).zip ys)[j]? = some p → (ps.map fun p => (p.1, a.eval p.2))[j]? = some q → VRel (Nh A σ.h ρ w) ρ w p.2 q.2 := by
  intro j p q hp hq
  rw [List.getElem?_map] at hq
  cases hj : ps[j]? with
  | none => rw [hj] at hq; cases hq
  | some r =>
    rw [hj] at hq
    cases hq
    have hjl : j < ys.length := by rw [← hl]; exact (List.getElem?_eq_some_iff.1 hj).1
    rw [List.getElem?_zip_eq_some] at hp
    exact ev_ops hs h j r.2 p.2 (by rw [List.getElem?_map, hj]; rfl) hp.2

def placesOf (P : Program) (fs : Array Field) : Nat → Option (Nat × Nat) := fun i => (fs[i]?).map fun f => (f.offset, ((P.info? f.type).map (·.size)).getD 0)

section
variable {P : Program} {G : List (Nat × Array Value)} {dst : Option Tmp} {ty : TypeId} {pos : String} {aft : Array Edge} {gd : Option (Nat × Bool)}

theorem run_places (fs : Array Field) (w : World) (h : ∀ f ∈ fs.toList, (P.info? f.type).isSome = true) :
    (fs.mapM fun f => (do pure (f.offset, ← sizeOf f.type) : Sem (Nat × Nat))).run P w = .ok (fs.map fun f => (f.offset, ((P.info? f.type).map (·.size)).getD 0)) w := by
  have key : ∀ l : List Field, (∀ f ∈ l, (P.info? f.type).isSome = true) → (List.mapM (m := Sem) (fun f : Field => (do pure (f.offset, ← sizeOf f.type) : Sem (Nat × Nat))) l).run P w = .ok (l.map fun f => (f.offset, ((P.info? f.type).map (·.size)).getD 0)) w := by
    intro l
    induction l with
    | nil => intro _; rfl
    | cons f l ih =>
      intro hl
      obtain ⟨i, hi⟩ := Option.isSome_iff_exists.1 (hl f (by simp))
      rw [List.mapM_cons, Sem.run_bind]
      have h1 : ((do pure (f.offset, ← sizeOf f.type) : Sem (Nat × Nat))).run P w = .ok (f.offset, i.size) w := by
        simp [sizeOf, typeInfo, hi, Sem.run_bind, Sem.run_pure, Result.andThen_ok]
      rw [h1, Result.andThen_ok, Sem.run_bind, ih (fun f hf => hl f (by simp [hf])), Result.andThen_ok]
      simp [hi, Sem.run_pure]
  cases fs with
  | mk l =>
    have hk := key l (by simpa using h)
    rw [show (⟨l⟩ : Array Field) = l.toArray from rfl, List.mapM_toArray]
    rw [show ∀ m : Sem (List (Nat × Nat)), (List.toArray <$> m) = (m >>= fun x => pure x.toArray) from fun _ => rfl, Sem.run_bind, hk, Result.andThen_ok]
    simp [Sem.run_pure]

/-- a struct, put together -/
theorem OpS.build {T : TypeId} {fs : Array Field} {inf : TypeInfo} {z : Value} {ps : List (Nat × Operand)} {ys cs : List AV} (hu : P.underlying T = some (.struct fs)) (hi : P.info? T = some inf) (hz : inf.zero = some z) (hfs : (fs.toList.all fun f => (P.info? f.type).isSome) = true)
    (hl : ps.length = ys.length) (hf : fillA (placesOf P fs) (z.cells.toList.map .v) ((ps.map (·.1)).zip ys) = some cs) :
    OpS P G ⟨dst, .build T ps.toArray, ty, pos, aft, gd⟩ ((ps.map (·.2)).zip ys) [] ⟨some (.agg cs), [], []⟩ := by
  refine OpS.still fun A ρ σ a w _ h _ hs => ?_
  obtain ⟨arr', h1, h2, h3⟩ := fill_rel (N := Nh A σ.h ρ w) (ρ := ρ) (w := w) ((ps.map (·.1)).zip ys) (ps.map fun p => (p.1, a.eval p.2)) _ cs z.cells hf
    (by rw [List.map_fst_zip (by simp [hl])]; simp) (parts_rel hs h hl) (by simp) (fun j c v hc hv => by
      rw [List.getElem?_map, Array.getElem?_toList, hv] at hc
      cases hc
      exact .v _)
  refine ⟨.agg arr', ?_, .agg cs arr' h2 h3⟩
  show (do pure (Next.value (← Instr.build T (ps.toArray.map fun (i, x) => (i, a.eval x)))) : Sem Next).run P w = _
  refine runv ?_
  have hpl : (fun i => (fs.map fun f => (f.offset, ((P.info? f.type).map (·.size)).getD 0))[i]?) = placesOf P fs := by funext i; simp [placesOf]
  simp only [Instr.build, Sem.run_bind, zeroValue, typeInfo, hi, hz, run_underlying hu, Sem.run_pure, Result.andThen_ok, run_program]
  simp only [run_places fs w (fun f hf => List.all_eq_true.1 hfs f hf), Result.andThen_ok, hpl]
  simp only [List.map_toArray, h1]
  rfl
def zl (z : Value) (k : Nat) : List Value := (List.range k).map fun i => z.cells[i % z.cells.size]!
theorem run_buildSlice {t E : TypeId} {inf : TypeInfo} {z : Value} {n : Nat} {vs : Array (Nat × Value)} {arr' : Array Value} (hu : P.underlying t = some (.slice E)) (hi : P.info? E = some inf) (hz : inf.zero = some z) (h0 : 0 < n * inf.size) (hn : n * inf.size ≤ 65536)
    (hf : Instr.fill (fun i => some (i * inf.size, inf.size)) (zl z (n * inf.size)).toArray vs.toList = some arr') (w : World) :
    (Instr.buildSlice t n vs).run P w = .ok (.slice (some ⟨w.heap.size, 0, none⟩) n n) (w.alloc (.cells arr' E)) := by
  have h1 : ¬ n * inf.size > 2 ^ 24 := by omega
  have h2 : ¬ n * inf.size = 0 := by omega
  have hzz : (Array.range (n * inf.size)).map (fun x => z.cells[x % z.cells.size]!) = (zl z (n * inf.size)).toArray := by rw [← Array.toList_inj]; simp [zl, Array.toList_range]
  simp only [Instr.buildSlice, Sem.run_bind, run_underlying hu, Result.andThen_ok, sizeOf, typeInfo, hi, Sem.run_pure, h1, h2, if_false, zeroValue, hz, run_program, hzz, hf]
  simp [newRow, Sem.run_bind, Sem.run_pure, Result.andThen_ok]
/-- a slice, put together: nobody writes it -/
theorem OpS.buildSlice {t E : TypeId} {inf : TypeInfo} {z : Value} {n sz : Nat} {ps : List (Nat × Operand)} {ys cs : List AV} (hu : P.underlying t = some (.slice E)) (hi : P.info? E = some inf) (hz : inf.zero = some z) (hsz : inf.size = sz) (h0 : 0 < n * sz) (hn : n * sz ≤ 65536)
    (hl : ps.length = ys.length) (hf : fillA (fun i => some (i * sz, sz)) ((zl z (n * sz)).map .v) ((ps.map (·.1)).zip ys) = some cs) (h1 : (cs.all fun c => c.one) = true) (hm : n ≤ maxLen) :
    OpS P G ⟨dst, .buildSlice t n ps.toArray, ty, pos, aft, gd⟩ ((ps.map (·.2)).zip ys) [] ⟨some (.sl none n cs), [], []⟩ := by
  subst hsz
  refine OpS.act fun A ρ σ a w _ h _ _ hs => ?_
  obtain ⟨arr', k1, k2, k3⟩ := fill_rel (N := Nh A σ.h ρ w) (ρ := ρ) (w := w) ((ps.map (·.1)).zip ys) (ps.map fun p => (p.1, a.eval p.2)) _ cs (zl z (n * inf.size)).toArray hf
    (by rw [List.map_fst_zip (by simp [hl])]; simp) (parts_rel hs h hl) (by simp) (fun j c v hc hv => by
      rw [List.getElem?_toArray] at hv
      rw [List.getElem?_map, hv] at hc
      cases hc
      exact .v _)
  obtain ⟨m1, m2, m3⟩ := new_slice (w' := w.alloc (.cells arr' E)) hs.mem rfl rfl rfl (by simp) (fun k hk => Below.heap_alloc w _ k hk) (heap_alloc_new w _) (cs := cs) (n := n) (cap := n) (by rw [k2]; exact Nat.le_refl _) (Nat.le_refl _) hm (all_one h1 k3)
  refine ⟨_, w.alloc (.cells arr' E), ρ, .inl ?_, m1, m2, fun v hv => by cases hv; exact m3⟩
  show (do pure (Next.value (← Instr.buildSlice t n (ps.toArray.map fun (i, x) => (i, a.eval x)))) : Sem Next).run P w = _
  refine runv ?_
  refine run_buildSlice hu hi hz h0 hn ?_ w
  simpa using k1
/-- a slice, put together: the play may append to it -/
theorem OpS.buildSliceT {t E : TypeId} {inf : TypeInfo} {z : Value} {n sz : Nat} {ps : List (Nat × Operand)} {ys cs : List AV} (id : Nat) (hu : P.underlying t = some (.slice E)) (hi : P.info? E = some inf) (hz : inf.zero = some z) (hsz : inf.size = sz) (h0 : 0 < n * sz) (hn : n * sz ≤ 65536)
    (hl : ps.length = ys.length) (hf : fillA (fun i => some (i * sz, sz)) ((zl z (n * sz)).map .v) ((ps.map (·.1)).zip ys) = some cs) (h1 : (cs.all fun c => c.one) = true) (hm : n ≤ maxLen) (hcl : cs.length = n * sz) :
    OpS P G ⟨dst, .buildSlice t n ps.toArray, ty, pos, aft, gd⟩ ((ps.map (·.2)).zip ys) [] ⟨some (.sl (some id) n cs), [(id, some (.tip E sz n))], [id]⟩ := by
  subst hsz
  refine OpS.act fun A ρ σ a w _ h _ hnu hs => ?_
  obtain ⟨arr', k1, k2, k3⟩ := fill_rel (N := Nh A σ.h ρ w) (ρ := ρ) (w := w) ((ps.map (·.1)).zip ys) (ps.map fun p => (p.1, a.eval p.2)) _ cs (zl z (n * inf.size)).toArray hf
    (by rw [List.map_fst_zip (by simp [hl])]; simp) (parts_rel hs h hl) (by simp) (fun j c v hc hv => by
      rw [List.getElem?_toArray] at hv
      rw [List.getElem?_map, hv] at hc
      cases hc
      exact .v _)
  let ρ' : Env := ⟨ρ.blk, upd ρ.tip id (some (.slice (some ⟨w.heap.size, 0, none⟩) n n))⟩
  have hid : ρ'.tip id = some (.slice (some ⟨w.heap.size, 0, none⟩) n n) := upd_same _ _ _
  obtain ⟨m1, m2⟩ := hs.mem.extend (ρ' := ρ') (ob := .tip E inf.size n) (w' := w.alloc (.cells arr' E)) hnu.1 (fun i hi => ⟨rfl, upd_ne _ _ hi⟩) rfl rfl rfl (by simp) (fun k hk => Below.heap_alloc w _ k hk)
    (fun b ⟨cap, hb⟩ => by rw [hid] at hb; cases hb; exact Nat.le_refl _) (fun _ => .inr ⟨w.heap.size, n, arr', hid, heap_alloc_new w _, Nat.le_refl _, hm, by rw [k2, hcl]⟩)
  refine ⟨_, w.alloc (.cells arr' E), ρ', .inl ?_, m1, m2, fun v hv => by
    cases hv
    refine .sl _ _ _ _ n (fun i => arr'.getD i undef) (fun i hi => ?_) (fun i c hi => ?_) (fun k hk => by cases hk; exact hid) (Nat.le_refl _) (fun h => by cases h) hm
    · have hlt : i < arr'.size := by omega
      have hv := all_one h1 k3 i _ arr'[i] (List.getElem?_eq_getElem hi) (Array.getElem?_eq_getElem hlt)
      have hgd : arr'.getD i undef = arr'[i] := by simp [Array.getD_eq_getD_getElem?, hlt]
      refine ⟨by rw [hgd]; exact hv.2, w.heap.size, 0, rfl, ?_, by simp, .inr (.inr hs.mem.size), fun k ob hk hw => ?_⟩
      · rw [cell_of_row _ w.heap.size (0 + i) arr' E (0, 0) (heap_alloc_new w _), Nat.zero_add, hgd]
        exact Array.getElem?_eq_getElem hlt
      · rcases upd_eq_some hk with ⟨rfl, he⟩ | ⟨hne, he⟩
        · cases he
          obtain ⟨cap, _, hoo⟩ := hw
          omega
        · have hle : ρ.le ρ' := ⟨fun _ _ h => h, fun i v hv => by
            have : i ≠ id := fun e => by subst e; have := hs.mem.usedT i v hv; rw [hnu.1] at this; cases this
            rw [show ρ'.tip i = ρ.tip i from upd_ne _ _ this]; exact hv⟩
          have := (hs.mem.heap k ob he).lt (AO.at_of_wr ((hs.mem.heap k ob he).wr_back hle hw))
          omega
    · have hi' := (List.getElem?_eq_some_iff.1 hi).1
      have hlt : i < arr'.size := by omega
      have hgd : arr'.getD i undef = arr'[i] := by simp [Array.getD_eq_getD_getElem?, hlt]
      rw [hgd]
      exact m2 _ _ (k3 i c _ hi (Array.getElem?_eq_getElem hlt))⟩
  show (do pure (Next.value (← Instr.buildSlice t n (ps.toArray.map fun (i, x) => (i, a.eval x)))) : Sem Next).run P w = _
  refine runv ?_
  refine run_buildSlice hu hi hz h0 hn ?_ w
  simpa using k1

theorem fillA_id : ∀ (ys : List AV) (k : Nat) (pre init : List AV), (ys.all fun y => (match cellsA y with | [_] => true | _ => false) && y.one) = true → pre.length = k → init.length = ys.length →
    fillA (fun i => some (i * 1, 1)) (pre ++ init) ((List.range' k ys.length).zip ys) = some (pre ++ ys)
  | [], k, pre, init, _, _, hi => by
    have : init = [] := List.eq_nil_of_length_eq_zero hi
    subst this
    simp [fillA]
  | y :: ys, k, pre, init, h, hp, hi => by
    simp only [List.all_cons, Bool.and_eq_true] at h
    have hc : cellsA y = [y] := by
      cases y with
      | v x => cases x <;> first | rfl | (exact absurd h.1.2 (by simp [AV.one, Value.oneCell']))
      | agg cs => exact absurd h.1.2 (by simp [AV.one])
      | _ => rfl
    cases init with
    | nil => simp at hi
    | cons z init =>
      rw [List.length_cons, List.range'_succ, List.zip_cons_cons]
      simp only [fillA, hc]
      have hb : (Nat.beq [y].length 1 && Nat.ble (k * 1 + [y].length) (pre ++ z :: init).length) = true := by
        simp only [Bool.and_eq_true, Nat.beq_eq, Nat.ble_eq]
        simp; omega
      rw [hb]
      simp only [cond_true]
      have hs : splice (pre ++ z :: init) (k * 1) [y] = (pre ++ [y]) ++ init := by
        unfold splice
        rw [Nat.mul_one, ← hp]
        simp
      rw [hs, fillA_id ys (k + 1) (pre ++ [y]) init h.2 (by simp [hp]) (by simpa using hi)]
      simp
/-- a slice of one-cell elements, put together: nobody writes it -/
theorem OpS.slice1 {t E : TypeId} {inf : TypeInfo} {z : Value} {n : Nat} {ps : List (Nat × Operand)} {ys : List AV} (hu : P.underlying t = some (.slice E)) (hi : P.info? E = some inf) (hz : inf.zero = some z) (hsz : inf.size = 1) (h0 : Nat.blt 0 n = true) (hn : Nat.ble n 65536 = true)
    (hl : Nat.beq ys.length n = true) (hps : ps.map (·.1) = List.range' 0 n) (h1 : (ys.all fun y => (match cellsA y with | [_] => true | _ => false) && y.one) = true) :
    OpS P G ⟨dst, .buildSlice t n ps.toArray, ty, pos, aft, gd⟩ ((ps.map (·.2)).zip ys) [] ⟨some (.sl none n ys), [], []⟩ := by
  rw [Nat.beq_eq] at hl
  rw [Nat.blt_eq] at h0
  rw [Nat.ble_eq] at hn
  have hpl : ps.length = n := by have := congrArg List.length hps; simpa using this
  refine OpS.buildSlice hu hi hz hsz (by omega) (by omega) (by omega) ?_ ?_ (by unfold maxLen; omega)
  · have := fillA_id ys 0 [] ((zl z (n * 1)).map .v) h1 rfl (by simp [zl, hl])
    rw [hps, ← hl]
    rw [← hl] at this
    simpa using this
  · rw [List.all_eq_true] at h1 ⊢
    intro y hy
    have := h1 y hy
    simp only [Bool.and_eq_true] at this
    exact this.2
theorem OpS.slice1T {t E : TypeId} {inf : TypeInfo} {z : Value} {n : Nat} {ps : List (Nat × Operand)} {ys : List AV} (id : Nat) (hu : P.underlying t = some (.slice E)) (hi : P.info? E = some inf) (hz : inf.zero = some z) (hsz : inf.size = 1) (h0 : Nat.blt 0 n = true) (hn : Nat.ble n 65536 = true)
    (hl : Nat.beq ys.length n = true) (hps : ps.map (·.1) = List.range' 0 n) (h1 : (ys.all fun y => (match cellsA y with | [_] => true | _ => false) && y.one) = true) :
    OpS P G ⟨dst, .buildSlice t n ps.toArray, ty, pos, aft, gd⟩ ((ps.map (·.2)).zip ys) [] ⟨some (.sl (some id) n ys), [(id, some (.tip E 1 n))], [id]⟩ := by
  rw [Nat.beq_eq] at hl
  rw [Nat.blt_eq] at h0
  rw [Nat.ble_eq] at hn
  have hpl : ps.length = n := by have := congrArg List.length hps; simpa using this
  refine OpS.buildSliceT id hu hi hz hsz (by omega) (by omega) (by omega) ?_ ?_ (by unfold maxLen; omega) (by omega)
  · have := fillA_id ys 0 [] ((zl z (n * 1)).map .v) h1 rfl (by simp [zl, hl])
    rw [hps, ← hl]
    rw [← hl] at this
    simpa using this
  · rw [List.all_eq_true] at h1 ⊢
    intro y hy
    have := h1 y hy
    simp only [Bool.and_eq_true] at this
    exact this.2

def noEq : BinOp → Bool
  | .eql | .neq => false
  | _ => true
/- by the walk's own simplifier -/
theorem OpS.binR {op : BinOp} {t t' : TypeId} {x y : Operand} {vx vy v : Value} (hg : noEq op = true) (h : ∀ w, (binOp op t vx vy).run P w = .ok v w) :
    OpS P G ⟨dst, .binOp op t x y t', ty, pos, aft, gd⟩ [(x, .v vx), (y, .v vy)] [] ⟨some (.v v), [], []⟩ := by
  refine OpS.raw2 fun a' w hx hy => ?_
  show (do pure (Next.value (← (do eqGuard op t x y (a'.eval x) (a'.eval y); binOp op t (a'.eval x) (a'.eval y)))) : Sem Next).run P w = _
  refine runv ?_
  rw [hx, hy, Sem.run_bind]
  have : (eqGuard op t x y vx vy).run P w = .ok () w := by cases op <;> first | rfl | cases hg
  rw [this, Result.andThen_ok]
  exact h w
theorem OpS.unR {op : UnOp} {t : TypeId} {x : Operand} {vx v : Value} (h : ∀ w, (Op.unary op vx).run P w = .ok v w) : OpS P G ⟨dst, .unOp op t x, ty, pos, aft, gd⟩ [(x, .v vx)] [] ⟨some (.v v), [], []⟩ := by
  refine OpS.raw1 fun a' w hx => ?_
  show (do pure (Next.value (← (Op.unary op (a'.eval x)))) : Sem Next).run P w = _
  refine runv ?_
  rw [hx]
  exact h w
theorem OpS.convR {src d : TypeId} {x : Operand} {vx v : Value} (h : ∀ w, (convert src d vx).run P w = .ok v w) : OpS P G ⟨dst, .convert src d x, ty, pos, aft, gd⟩ [(x, .v vx)] [] ⟨some (.v v), [], []⟩ := by
  refine OpS.raw1 fun a' w hx => ?_
  show (do pure (Next.value (← (convert src d (a'.eval x)))) : Sem Next).run P w = _
  refine runv ?_
  rw [hx]
  exact h w

theorem OpS.add_u32 {t t' : TypeId} {x y : Operand} {a b : UInt32} : OpS P G ⟨dst, .binOp .add t x y t', ty, pos, aft, gd⟩ [(x, .v (.int .u32 (U32 a))), (y, .v (.int .u32 (U32 b)))] [] ⟨some (.v (.int .u32 (U32 (a + b)))), [], []⟩ :=
  OpS.binR rfl fun w => by
    show (Op.intArith .add .u32 (U32 a) (U32 b)).run P w = _
    rw [add32]; rfl
theorem OpS.sub_u32 {t t' : TypeId} {x y : Operand} {a b : UInt32} : OpS P G ⟨dst, .binOp .sub t x y t', ty, pos, aft, gd⟩ [(x, .v (.int .u32 (U32 a))), (y, .v (.int .u32 (U32 b)))] [] ⟨some (.v (.int .u32 (U32 (a - b)))), [], []⟩ :=
  OpS.binR rfl fun w => by
    show (Op.intArith .sub .u32 (U32 a) (U32 b)).run P w = _
    rw [sub32]; rfl
theorem OpS.mul_u32 {t t' : TypeId} {x y : Operand} {a b : UInt32} : OpS P G ⟨dst, .binOp .mul t x y t', ty, pos, aft, gd⟩ [(x, .v (.int .u32 (U32 a))), (y, .v (.int .u32 (U32 b)))] [] ⟨some (.v (.int .u32 (U32 (a * b)))), [], []⟩ :=
  OpS.binR rfl fun w => by
    show (Op.intArith .mul .u32 (U32 a) (U32 b)).run P w = _
    rw [mul32]; rfl
theorem OpS.and_u32 {t t' : TypeId} {x y : Operand} {a b : UInt32} : OpS P G ⟨dst, .binOp .and t x y t', ty, pos, aft, gd⟩ [(x, .v (.int .u32 (U32 a))), (y, .v (.int .u32 (U32 b)))] [] ⟨some (.v (.int .u32 (U32 (a &&& b)))), [], []⟩ :=
  OpS.binR rfl fun w => by
    show (Op.intBits .and .u32 (U32 a) (U32 b)).run P w = _
    rw [intBits_and, and32]; rfl
theorem OpS.or_u32 {t t' : TypeId} {x y : Operand} {a b : UInt32} : OpS P G ⟨dst, .binOp .or t x y t', ty, pos, aft, gd⟩ [(x, .v (.int .u32 (U32 a))), (y, .v (.int .u32 (U32 b)))] [] ⟨some (.v (.int .u32 (U32 (a ||| b)))), [], []⟩ :=
  OpS.binR rfl fun w => by
    show (Op.intBits .or .u32 (U32 a) (U32 b)).run P w = _
    rw [intBits_or, or32]; rfl
theorem OpS.xor_u32 {t t' : TypeId} {x y : Operand} {a b : UInt32} : OpS P G ⟨dst, .binOp .xor t x y t', ty, pos, aft, gd⟩ [(x, .v (.int .u32 (U32 a))), (y, .v (.int .u32 (U32 b)))] [] ⟨some (.v (.int .u32 (U32 (a ^^^ b)))), [], []⟩ :=
  OpS.binR rfl fun w => by
    show (Op.intBits .xor .u32 (U32 a) (U32 b)).run P w = _
    rw [intBits_xor, xor32]; rfl
theorem OpS.shl_u32 {t t' : TypeId} {x y : Operand} {a : UInt32} {k' : IntKind} {m : Int} {j : Nat} (h : 0 ≤ m) (hj : m.toNat = j) : OpS P G ⟨dst, .binOp .shl t x y t', ty, pos, aft, gd⟩ [(x, .v (.int .u32 (U32 a))), (y, .v (.int k' m))] [] ⟨some (.v (.int .u32 (U32 (shl32 a j)))), [], []⟩ := by
  subst hj
  refine OpS.binR rfl fun w => ?_
  show (Op.shift .shl .u32 (U32 a) k' m).run P w = _
  rw [shl32_run a k' m h]; rfl
theorem OpS.shr_u32 {t t' : TypeId} {x y : Operand} {a : UInt32} {k' : IntKind} {m : Int} {j : Nat} (h : 0 ≤ m) (hj : m.toNat = j) : OpS P G ⟨dst, .binOp .shr t x y t', ty, pos, aft, gd⟩ [(x, .v (.int .u32 (U32 a))), (y, .v (.int k' m))] [] ⟨some (.v (.int .u32 (U32 (shr32 a j)))), [], []⟩ := by
  subst hj
  refine OpS.binR rfl fun w => ?_
  show (Op.shift .shr .u32 (U32 a) k' m).run P w = _
  rw [shr32_run a k' m h]; rfl
theorem OpS.add_u64 {t t' : TypeId} {x y : Operand} {a b : UInt64} : OpS P G ⟨dst, .binOp .add t x y t', ty, pos, aft, gd⟩ [(x, .v (.int .u64 (U64 a))), (y, .v (.int .u64 (U64 b)))] [] ⟨some (.v (.int .u64 (U64 (a + b)))), [], []⟩ :=
  OpS.binR rfl fun w => by
    show (Op.intArith .add .u64 (U64 a) (U64 b)).run P w = _
    rw [add64]; rfl
theorem OpS.sub_u64 {t t' : TypeId} {x y : Operand} {a b : UInt64} : OpS P G ⟨dst, .binOp .sub t x y t', ty, pos, aft, gd⟩ [(x, .v (.int .u64 (U64 a))), (y, .v (.int .u64 (U64 b)))] [] ⟨some (.v (.int .u64 (U64 (a - b)))), [], []⟩ :=
  OpS.binR rfl fun w => by
    show (Op.intArith .sub .u64 (U64 a) (U64 b)).run P w = _
    rw [sub64]; rfl
theorem OpS.mul_u64 {t t' : TypeId} {x y : Operand} {a b : UInt64} : OpS P G ⟨dst, .binOp .mul t x y t', ty, pos, aft, gd⟩ [(x, .v (.int .u64 (U64 a))), (y, .v (.int .u64 (U64 b)))] [] ⟨some (.v (.int .u64 (U64 (a * b)))), [], []⟩ :=
  OpS.binR rfl fun w => by
    show (Op.intArith .mul .u64 (U64 a) (U64 b)).run P w = _
    rw [mul64]; rfl
theorem OpS.and_u64 {t t' : TypeId} {x y : Operand} {a b : UInt64} : OpS P G ⟨dst, .binOp .and t x y t', ty, pos, aft, gd⟩ [(x, .v (.int .u64 (U64 a))), (y, .v (.int .u64 (U64 b)))] [] ⟨some (.v (.int .u64 (U64 (a &&& b)))), [], []⟩ :=
  OpS.binR rfl fun w => by
    show (Op.intBits .and .u64 (U64 a) (U64 b)).run P w = _
    rw [intBits_and, and64]; rfl
theorem OpS.or_u64 {t t' : TypeId} {x y : Operand} {a b : UInt64} : OpS P G ⟨dst, .binOp .or t x y t', ty, pos, aft, gd⟩ [(x, .v (.int .u64 (U64 a))), (y, .v (.int .u64 (U64 b)))] [] ⟨some (.v (.int .u64 (U64 (a ||| b)))), [], []⟩ :=
  OpS.binR rfl fun w => by
    show (Op.intBits .or .u64 (U64 a) (U64 b)).run P w = _
    rw [intBits_or, or64]; rfl
theorem OpS.xor_u64 {t t' : TypeId} {x y : Operand} {a b : UInt64} : OpS P G ⟨dst, .binOp .xor t x y t', ty, pos, aft, gd⟩ [(x, .v (.int .u64 (U64 a))), (y, .v (.int .u64 (U64 b)))] [] ⟨some (.v (.int .u64 (U64 (a ^^^ b)))), [], []⟩ :=
  OpS.binR rfl fun w => by
    show (Op.intBits .xor .u64 (U64 a) (U64 b)).run P w = _
    rw [intBits_xor, xor64]; rfl
theorem OpS.shl_u64 {t t' : TypeId} {x y : Operand} {a : UInt64} {k' : IntKind} {m : Int} {j : Nat} (h : 0 ≤ m) (hj : m.toNat = j) : OpS P G ⟨dst, .binOp .shl t x y t', ty, pos, aft, gd⟩ [(x, .v (.int .u64 (U64 a))), (y, .v (.int k' m))] [] ⟨some (.v (.int .u64 (U64 (shl64 a j)))), [], []⟩ := by
  subst hj
  refine OpS.binR rfl fun w => ?_
  show (Op.shift .shl .u64 (U64 a) k' m).run P w = _
  rw [shl64_run a k' m h]; rfl
theorem OpS.shr_u64 {t t' : TypeId} {x y : Operand} {a : UInt64} {k' : IntKind} {m : Int} {j : Nat} (h : 0 ≤ m) (hj : m.toNat = j) : OpS P G ⟨dst, .binOp .shr t x y t', ty, pos, aft, gd⟩ [(x, .v (.int .u64 (U64 a))), (y, .v (.int k' m))] [] ⟨some (.v (.int .u64 (U64 (shr64 a j)))), [], []⟩ := by
  subst hj
  refine OpS.binR rfl fun w => ?_
  show (Op.shift .shr .u64 (U64 a) k' m).run P w = _
  rw [shr64_run a k' m h]; rfl
theorem cv_u32_u8 (x : UInt8) : Value.int .u32 (IntKind.u32.wrap (U8 x)) = .int .u32 (U32 x.toUInt32) := by rw [w_u32_u8]
theorem cv_u64_u8 (x : UInt8) : Value.int .u64 (IntKind.u64.wrap (U8 x)) = .int .u64 (U64 x.toUInt64) := by rw [w_u64_u8]
theorem cv_i64_u8 (x : UInt8) : Value.int .i64 (IntKind.i64.wrap (U8 x)) = .int .i64 (U8 x) := by rw [w_i64_u8]
theorem cv_u8_u32 (x : UInt32) : Value.int .u8 (IntKind.u8.wrap (U32 x)) = .int .u8 (U8 x.toUInt8) := by rw [w_u8_u32]
theorem cv_u8_u64 (x : UInt64) : Value.int .u8 (IntKind.u8.wrap (U64 x)) = .int .u8 (U8 x.toUInt8) := by rw [w_u8_u64]
theorem cv_u32_u64 (x : UInt64) : Value.int .u32 (IntKind.u32.wrap (U64 x)) = .int .u32 (U32 x.toUInt32) := by rw [w_u32_u64]
theorem cv_u64_u32 (x : UInt32) : Value.int .u64 (IntKind.u64.wrap (U32 x)) = .int .u64 (U64 x.toUInt64) := by rw [w_u64_u32]
theorem cv_u8_u8 (x : UInt8) : Value.int .u8 (IntKind.u8.wrap (U8 x)) = .int .u8 (U8 x) := by rw [w_u8_u8]
theorem cv_u32_u32 (x : UInt32) : Value.int .u32 (IntKind.u32.wrap (U32 x)) = .int .u32 (U32 x) := by rw [w_u32_u32]
theorem cv_u64_u64 (x : UInt64) : Value.int .u64 (IntKind.u64.wrap (U64 x)) = .int .u64 (U64 x) := by rw [w_u64_u64]
theorem cv_u64_nat (n : Nat) : Value.int .u64 (IntKind.u64.wrap (n : Int)) = .int .u64 (U64 (UInt64.ofNat n)) := by rw [w_u64_nat]
theorem cv_u32_nat (n : Nat) : Value.int .u32 (IntKind.u32.wrap (n : Int)) = .int .u32 (U32 (UInt32.ofNat n)) := by rw [w_u32_nat]
theorem cv_u8_nat (n : Nat) : Value.int .u8 (IntKind.u8.wrap (n : Int)) = .int .u8 (U8 (UInt8.ofNat n)) := by rw [w_u8_nat]
theorem cv_i64_64 (x : UInt64) (h : x.toNat < 9223372036854775808) : Value.int .i64 (IntKind.i64.wrap (U64 x)) = .int .i64 (U64 x) := by unfold U64; exact wr64 (by omega)

/-- bytes as a text -/
theorem b2s_rel {N : Nat → Nat → Prop} {ρ : Env} {w : World} {src d e : TypeId} (hs : P.underlying src = some (.slice e)) (he : P.underlying e = some (.int .u8)) (hd : P.underlying d = some .string) {o : Option Nat} {l : List UInt8} {x : Value}
    (h : VRel N ρ w (.sl o l.length (l.map fun b => .v (bv b))) x) : (convert src d x).run P w = .ok (.string (B l)) w := by
  generalize hcs : (l.map fun b => AV.v (bv b)) = cs at h
  generalize hn : l.length = n at h
  cases h with
  | sl o n cs a cap vals hc hcv ho hn' hz hm =>
    subst hcs
    subst hn
    by_cases h0 : l.length = 0
    · have hl : l = [] := List.eq_nil_of_length_eq_zero h0
      subst hl
      cases a with
      | none => exact run_b2s_nil w src d e hs he hd _ _
      | some ad => exact run_b2s w src d e hs he hd ad cap [] (fun j v hj => by simp [bvs] at hj)
    · obtain ⟨_, b, off, rfl, -⟩ := hc 0 (by simp; omega)
      refine run_b2s w src d e hs he hd _ cap l (fun j v hj => ?_)
      rw [Addr.add_mid]
      have hjl : j < l.length := by have := (List.getElem?_eq_some_iff.1 hj).1; simpa [bvs] using this
      obtain ⟨_, b', off', he', hx, _⟩ := hc j (by simpa using hjl)
      cases he'
      rw [hx]
      have hv := hcv j (.v (bv l[j])) (by simp [hjl])
      have : vals j = bv l[j] := hv.raw
      rw [this]
      simpa [bvs, hjl] using hj
theorem OpS.b2s {src d e : TypeId} {x : Operand} {o : Option Nat} {n : Nat} {l : List UInt8} (hs : P.underlying src = some (.slice e)) (he : P.underlying e = some (.int .u8)) (hd : P.underlying d = some .string) (hn : n = l.length) :
    OpS P G ⟨dst, .convert src d x, ty, pos, aft, gd⟩ [(x, .sl o n (l.map fun b => .v (bv b)))] [] ⟨some (.v (.string (B l))), [], []⟩ := by
  subst hn
  refine OpS.still fun A ρ σ a w _ h _ hst => ⟨_, ?_, .v _⟩
  exact runv (s := convert src d (a.eval x)) (b2s_rel hs he hd (hst.ev h.1))

/-- a component of several results -/
theorem OpS.extract {x : Operand} {i : Nat} {vs : List AV} {c : AV} (hc : vs[i]? = some c) : OpS P G ⟨dst, .extract x i, ty, pos, aft, gd⟩ [(x, .tup vs)] [] ⟨some c, [], []⟩ := by
  refine OpS.still fun A ρ σ a w _ h _ hs => ?_
  have hx := hs.ev h.1
  have hrun : ∀ y, VRel (Nh A σ.h ρ w) ρ w (.tup vs) y → ∃ z, (Instr.extract y i).run P w = .ok z w ∧ VRel (Nh A σ.h ρ w) ρ w c z := by
    intro y hy
    cases hy with
    | tup cs us hs h =>
      have hlt : i < us.size := by rw [hs]; exact (List.getElem?_eq_some_iff.1 hc).1
      refine ⟨us[i], ?_, h i c _ hc (Array.getElem?_eq_getElem hlt)⟩
      simp [Instr.extract, Array.getElem?_eq_getElem hlt]
  obtain ⟨z, hz, hv⟩ := hrun _ hx
  exact ⟨z, runv (s := Instr.extract (a.eval x) i) hz, hv⟩
/-- a struct's part -/
theorem OpS.field {t : TypeId} {fs : Array Field} {fd : Field} {d : TypeDesc} {x : Operand} {i : Nat} {cs : List AV} {c : AV} (hu : P.underlying t = some (.struct fs)) (hf : fs[i]? = some fd) (hd : P.underlying fd.type = some d) (hr : d.isRow = false) (hc : cs[fd.offset]? = some c) :
    OpS P G ⟨dst, .field t x i, ty, pos, aft, gd⟩ [(x, .agg cs)] [] ⟨some c, [], []⟩ := by
  refine OpS.still fun A ρ σ a w _ h _ hs => ?_
  have hx := hs.ev h.1
  have hrun : ∀ y, VRel (Nh A σ.h ρ w) ρ w (.agg cs) y → ∃ z, (Instr.field t y i).run P w = .ok z w ∧ VRel (Nh A σ.h ρ w) ρ w c z := by
    intro y hy
    cases hy with
    | agg cs us hs h =>
      have hlt : fd.offset < us.size := by rw [hs]; exact (List.getElem?_eq_some_iff.1 hc).1
      refine ⟨us[fd.offset], ?_, h _ c _ hc (Array.getElem?_eq_getElem hlt)⟩
      simp [Instr.field, run_underlying hu, hf, part, Sem.run_bind, run_isAgg hd, hr, asAgg, Array.getElem?_eq_getElem hlt]
  obtain ⟨z, hz, hv⟩ := hrun _ hx
  exact ⟨z, runv (s := Instr.field t (a.eval x) i) hz, hv⟩
theorem OpS.fieldAddr {t : TypeId} {fs : Array Field} {fd : Field} {inf : TypeInfo} {x : Operand} {i id off : Nat} (hu : P.underlying t = some (.struct fs)) (hf : fs[i]? = some fd) (hi : P.info? fd.type = some inf) (hz : (inf.size == 0) = false) :
    OpS P G ⟨dst, .fieldAddr t x i, ty, pos, aft, gd⟩ [(x, .ptr id off)] [] ⟨some (.ptr id (off + fd.offset)), [], []⟩ := by
  refine OpS.still fun A ρ σ a w _ h _ hs => ?_
  have hx := hs.ev h.1
  have hz' : ¬ inf.size = 0 := by simpa using hz
  have hrun : ∀ y, VRel (Nh A σ.h ρ w) ρ w (.ptr id off) y → ∃ z, (Instr.fieldAt t y i).run P w = .ok z w ∧ VRel (Nh A σ.h ρ w) ρ w (.ptr id (off + fd.offset)) z := by
    intro y hy
    cases hy with
    | ptr id off b hb =>
      refine ⟨.pointer (some ((⟨b, off, none⟩ : Addr).add fd.offset)), ?_, by rw [Addr.add_mid]; exact .ptr id _ b hb⟩
      simp [Instr.fieldAt, run_underlying hu, hf, Sem.run_bind, Instr.sureAddr, fieldPlace, sizeOf, typeInfo, hi, hz']
  obtain ⟨z, hz, hv⟩ := hrun _ hx
  exact ⟨z, runv (s := Instr.fieldAt t (a.eval x) i) hz, hv⟩
end

/- plain elements -/
def wA (x : UInt32) : AV := .v (.int .u32 (U32 x))
def bA (x : UInt8) : AV := .v (bv x)
def sA (x : List UInt8) : AV := .v (.string (B x))
def iA (x : Int) : AV := .v (.int .i64 x)
theorem renL_w (π : Nat → Nat) (l : List UInt32) : AV.renL π (l.map wA) = l.map wA := renL_raw π _ l
theorem renL_b (π : Nat → Nat) (l : List UInt8) : AV.renL π (l.map bA) = l.map bA := renL_raw π _ l
theorem renL_s (π : Nat → Nat) (l : List (List UInt8)) : AV.renL π (l.map sA) = l.map sA := renL_raw π _ l
theorem renL_i (π : Nat → Nat) (l : List Int) : AV.renL π (l.map iA) = l.map iA := renL_raw π _ l
theorem ren_w (π : Nat → Nat) (x : UInt32) : AV.ren π (wA x) = wA x := rfl
theorem ren_b (π : Nat → Nat) (x : UInt8) : AV.ren π (bA x) = bA x := rfl
theorem ren_s (π : Nat → Nat) (x : List UInt8) : AV.ren π (sA x) = sA x := rfl
theorem ren_i (π : Nat → Nat) (x : Int) : AV.ren π (iA x) = iA x := rfl
theorem belL_w (u : Nat → Bool) (l : List UInt32) : AV.belL u (l.map wA) := belL_raw u _ l
theorem belL_b (u : Nat → Bool) (l : List UInt8) : AV.belL u (l.map bA) := belL_raw u _ l
theorem belL_s (u : Nat → Bool) (l : List (List UInt8)) : AV.belL u (l.map sA) := belL_raw u _ l
theorem belL_i (u : Nat → Bool) (l : List Int) : AV.belL u (l.map iA) := belL_raw u _ l
theorem bel_w (u : Nat → Bool) (x : UInt32) : AV.bel u (wA x) := trivial
theorem bel_b (u : Nat → Bool) (x : UInt8) : AV.bel u (bA x) := trivial
theorem bel_s (u : Nat → Bool) (x : List UInt8) : AV.bel u (sA x) := trivial
theorem bel_i (u : Nat → Bool) (x : Int) : AV.bel u (iA x) := trivial
end Go.Proofs.Ytjmbendppcildaa.E
end
section
/- Steps through a region, one operation at a time. -/
namespace Go.Proofs.Ytjmbendppcildaa.E
open Go Go.RowKit Go.Proofs.Ytjmbendppcildaa.V

theorem AV.wk.sh {π : Nat → Nat} {o : Option Nat} {n : Nat} {cs cs' : List AV} (h : AV.renL π cs' = cs) : AV.wk (.sl o n cs) (AV.ren π (.sl none n cs')) := by
  subst h
  exact .untip _ _ _
theorem tnLit (a n : Nat) : ((a : Int) - @OfNat.ofNat Int n instOfNat).toNat = a - n := by
  show ((a : Int) - (n : Int)).toNat = _
  omega
theorem tnLitA (a n : Nat) : ((a : Int) + @OfNat.ofNat Int n instOfNat).toNat = a + n := by
  show ((a : Int) + (n : Int)).toNat = _
  omega
section
variable {P : Program} {G : List (Nat × Array Value)} {l r : List Oper} {ds : List St} {K : AS → Prop} {n : Nat} {s : Nat → Option AV} {h : Nat → Option AO} {u : Nat → Bool} {d : Tmp} {op : Op} {ty : TypeId} {pos : String} {aft : Array Edge} {gd : Option (Nat × Bool)}
  {sl : List (Operand × AV)} {hp : List (Nat × AO)} {dst : Option Tmp} {σ : AS}

theorem gdN {d : Option Tmp} : GdOk l.toArray ⟨d, op, ty, pos, aft, none⟩ σ true := rfl
theorem gdT {d : Option Tmp} {j t : Nat} {c : Bool} (hj : (l[j]?).bind (·.dst) = some t) (hs : σ.s t = some (.v (.bool c))) : GdOk l.toArray ⟨d, op, ty, pos, aft, some (j, c)⟩ σ true :=
  ⟨t, .bool c, by simpa using hj, hs, by simp [boolV]⟩
theorem gdU {d : Option Tmp} {j t : Nat} {c : Bool} (hj : (l[j]?).bind (·.dst) = some t) (hs : σ.s t = some (.v undef)) : GdOk l.toArray ⟨d, op, ty, pos, aft, some (j, c)⟩ σ false :=
  ⟨t, undef, by simpa using hj, hs, rfl⟩
theorem gdF {d : Option Tmp} {j t : Nat} {c x : Bool} (hj : (l[j]?).bind (·.dst) = some t) (hs : σ.s t = some (.v (.bool x))) (hc : (x == c) = false) : GdOk l.toArray ⟨d, op, ty, pos, aft, some (j, c)⟩ σ false :=
  ⟨t, .bool x, by simpa using hj, hs, by cases x <;> cases c <;> first | rfl | cases hc⟩

/-- what is left of a region, and what has been done of it -/
structure Ch (P : Program) (G : List (Nat × Array Value)) (l : List Oper) (D : Bool) (K : AS → Prop) (acc : List St) (r : List Oper) (σ : AS) : Prop where
  e : ∃ ds, Chain P G l.toArray K r ds σ ∧ (D = true → (edgesOk 0 l && chk l (acc.reverse ++ ds)) = true)
theorem Ch.cons {D : Bool} {acc : List St} {o : Oper} {st : St} (ho : Ok P G l.toArray o st σ) (hr : Ch P G l D K (st :: acc) r (σ.eff o.dst st.e)) : Ch P G l D K acc (o :: r) σ := by
  obtain ⟨ds, h1, h2⟩ := hr.e
  exact ⟨⟨st :: ds, ⟨ho, h1⟩, fun hD => by have := h2 hD; rw [List.reverse_cons, List.append_assoc] at this; exact this⟩⟩
theorem Ch.nil {acc : List St} (hk : K σ) : Ch P G l false K acc [] σ := ⟨⟨[], hk, fun h => nomatch h⟩⟩
theorem Ch.nilD {acc : List St} (hk : K σ) (hc : (edgesOk 0 l && chk l acc.reverse) = true) : Ch P G l true K acc [] σ := ⟨⟨[], hk, fun _ => by rw [List.append_nil]; exact hc⟩⟩
variable {D : Bool} {acc : List St}
theorem Ch.sk (hg : GdOk l.toArray ⟨some d, op, ty, pos, aft, gd⟩ ⟨n, s, h, u⟩ false) (hr : Ch P G l D K (⟨false, [], [], ⟨none, [], []⟩⟩ :: acc) r ⟨n, upd s d none, h, u⟩) :
    Ch P G l D K acc (⟨some d, op, ty, pos, aft, gd⟩ :: r) ⟨n, s, h, u⟩ :=
  Ch.cons (st := ⟨false, [], [], ⟨none, [], []⟩⟩) ⟨hg, (fun h => nomatch h), fun _ => .inl rfl⟩ hr
theorem Ch.skU (hg : GdOk l.toArray ⟨some d, op, ty, pos, aft, gd⟩ ⟨n, s, h, u⟩ false) (hd : Nat.blt d n = true) (hr : Ch P G l D K (⟨false, [], [], ⟨some (.v undef), [], []⟩⟩ :: acc) r ⟨n, upd s d (some (.v undef)), h, u⟩) :
    Ch P G l D K acc (⟨some d, op, ty, pos, aft, gd⟩ :: r) ⟨n, s, h, u⟩ :=
  Ch.cons (st := ⟨false, [], [], ⟨some (.v undef), [], []⟩⟩) ⟨hg, (fun h => nomatch h), fun _ => .inr ⟨rfl, fun t ht => by cases ht; exact Nat.blt_eq.mp hd⟩⟩ hr
theorem Ch.skN (hg : GdOk l.toArray ⟨none, op, ty, pos, aft, gd⟩ ⟨n, s, h, u⟩ false) (hr : Ch P G l D K (⟨false, [], [], ⟨none, [], []⟩⟩ :: acc) r ⟨n, s, h, u⟩) :
    Ch P G l D K acc (⟨none, op, ty, pos, aft, gd⟩ :: r) ⟨n, s, h, u⟩ :=
  Ch.cons (st := ⟨false, [], [], ⟨none, [], []⟩⟩) ⟨hg, (fun h => nomatch h), fun _ => .inl rfl⟩ hr
/-- a value in a slot, memory as it was -/
theorem Ch.pu {v : AV} (hg : GdOk l.toArray ⟨some d, op, ty, pos, aft, gd⟩ ⟨n, s, h, u⟩ true) (h1 : SlOk ⟨n, s, h, u⟩ sl) (hs : OpS P G ⟨some d, op, ty, pos, aft, gd⟩ sl hp ⟨some v, [], []⟩) (h2 : HpOk ⟨n, s, h, u⟩ hp) (hd : Nat.blt d n = true)
    (hr : Ch P G l D K (⟨true, sl, hp, ⟨some v, [], []⟩⟩ :: acc) r ⟨n, upd s d (some v), h, u⟩) : Ch P G l D K acc (⟨some d, op, ty, pos, aft, gd⟩ :: r) ⟨n, s, h, u⟩ :=
  Ch.cons (st := ⟨true, sl, hp, ⟨some v, [], []⟩⟩) ⟨hg, fun _ => ⟨hs, h1, h2, trivial, fun t ht => by cases ht; exact Nat.blt_eq.mp hd⟩, fun h => nomatch h⟩ hr
/-- a value in a slot, entries anew -/
theorem Ch.al {v : AV} {ch : List (Nat × Option AO)} {nu : List Nat} (hg : GdOk l.toArray ⟨some d, op, ty, pos, aft, gd⟩ ⟨n, s, h, u⟩ true) (h1 : SlOk ⟨n, s, h, u⟩ sl) (hs : OpS P G ⟨some d, op, ty, pos, aft, gd⟩ sl hp ⟨some v, ch, nu⟩) (h2 : HpOk ⟨n, s, h, u⟩ hp)
    (h3 : NuOk ⟨n, s, h, u⟩ nu) (hd : Nat.blt d n = true) (hr : Ch P G l D K (⟨true, sl, hp, ⟨some v, ch, nu⟩⟩ :: acc) r ⟨n, upd s d (some v), chs h ch, nuU u nu⟩) : Ch P G l D K acc (⟨some d, op, ty, pos, aft, gd⟩ :: r) ⟨n, s, h, u⟩ :=
  Ch.cons (st := ⟨true, sl, hp, ⟨some v, ch, nu⟩⟩) ⟨hg, fun _ => ⟨hs, h1, h2, h3, fun t ht => by cases ht; exact Nat.blt_eq.mp hd⟩, fun h => nomatch h⟩ hr
/-- operands of a list -/
theorem Ch.pul {v : AV} {xs : List Operand} {ys : List AV} (hg : GdOk l.toArray ⟨some d, op, ty, pos, aft, gd⟩ ⟨n, s, h, u⟩ true) (h1 : EvL ⟨n, s, h, u⟩ xs ys) (hs : OpS P G ⟨some d, op, ty, pos, aft, gd⟩ (xs.zip ys) [] ⟨some v, [], []⟩) (hd : Nat.blt d n = true)
    (hr : Ch P G l D K (⟨true, xs.zip ys, [], ⟨some v, [], []⟩⟩ :: acc) r ⟨n, upd s d (some v), h, u⟩) : Ch P G l D K acc (⟨some d, op, ty, pos, aft, gd⟩ :: r) ⟨n, s, h, u⟩ :=
  Ch.pu hg h1.ok.1 hs trivial hd hr
theorem Ch.all {v : AV} {ch : List (Nat × Option AO)} {nu : List Nat} {xs : List Operand} {ys : List AV} (hg : GdOk l.toArray ⟨some d, op, ty, pos, aft, gd⟩ ⟨n, s, h, u⟩ true) (h1 : EvL ⟨n, s, h, u⟩ xs ys) (hs : OpS P G ⟨some d, op, ty, pos, aft, gd⟩ (xs.zip ys) [] ⟨some v, ch, nu⟩)
    (h3 : NuOk ⟨n, s, h, u⟩ nu) (hd : Nat.blt d n = true) (hr : Ch P G l D K (⟨true, xs.zip ys, [], ⟨some v, ch, nu⟩⟩ :: acc) r ⟨n, upd s d (some v), chs h ch, nuU u nu⟩) : Ch P G l D K acc (⟨some d, op, ty, pos, aft, gd⟩ :: r) ⟨n, s, h, u⟩ :=
  Ch.al hg h1.ok.1 hs trivial h3 hd hr
/-- operands of parts -/
theorem Ch.pup {v : AV} {xs : List (Nat × Operand)} {ys : List AV} (hg : GdOk l.toArray ⟨some d, op, ty, pos, aft, gd⟩ ⟨n, s, h, u⟩ true) (h1 : EvP ⟨n, s, h, u⟩ xs ys) (hs : OpS P G ⟨some d, op, ty, pos, aft, gd⟩ ((xs.map (·.2)).zip ys) [] ⟨some v, [], []⟩) (hd : Nat.blt d n = true)
    (hr : Ch P G l D K (⟨true, (xs.map (·.2)).zip ys, [], ⟨some v, [], []⟩⟩ :: acc) r ⟨n, upd s d (some v), h, u⟩) : Ch P G l D K acc (⟨some d, op, ty, pos, aft, gd⟩ :: r) ⟨n, s, h, u⟩ :=
  Ch.pu hg h1.ok.1 hs trivial hd hr
theorem Ch.alp {v : AV} {ch : List (Nat × Option AO)} {nu : List Nat} {xs : List (Nat × Operand)} {ys : List AV} (hg : GdOk l.toArray ⟨some d, op, ty, pos, aft, gd⟩ ⟨n, s, h, u⟩ true) (h1 : EvP ⟨n, s, h, u⟩ xs ys) (hs : OpS P G ⟨some d, op, ty, pos, aft, gd⟩ ((xs.map (·.2)).zip ys) [] ⟨some v, ch, nu⟩)
    (h3 : NuOk ⟨n, s, h, u⟩ nu) (hd : Nat.blt d n = true) (hr : Ch P G l D K (⟨true, (xs.map (·.2)).zip ys, [], ⟨some v, ch, nu⟩⟩ :: acc) r ⟨n, upd s d (some v), chs h ch, nuU u nu⟩) : Ch P G l D K acc (⟨some d, op, ty, pos, aft, gd⟩ :: r) ⟨n, s, h, u⟩ :=
  Ch.al hg h1.ok.1 hs trivial h3 hd hr
/-- entries anew, no slot -/
theorem Ch.wr {x : Option AV} {ch : List (Nat × Option AO)} {nu : List Nat} (hg : GdOk l.toArray ⟨none, op, ty, pos, aft, gd⟩ ⟨n, s, h, u⟩ true) (h1 : SlOk ⟨n, s, h, u⟩ sl) (hs : OpS P G ⟨none, op, ty, pos, aft, gd⟩ sl hp ⟨x, ch, nu⟩) (h2 : HpOk ⟨n, s, h, u⟩ hp)
    (h3 : NuOk ⟨n, s, h, u⟩ nu) (hr : Ch P G l D K (⟨true, sl, hp, ⟨x, ch, nu⟩⟩ :: acc) r ⟨n, s, chs h ch, nuU u nu⟩) : Ch P G l D K acc (⟨none, op, ty, pos, aft, gd⟩ :: r) ⟨n, s, h, u⟩ :=
  Ch.cons (st := ⟨true, sl, hp, ⟨x, ch, nu⟩⟩) ⟨hg, fun _ => ⟨hs, h1, h2, h3, fun t ht => by cases ht⟩, fun h => nomatch h⟩ hr

/-- a call -/
theorem Ch.call {f : FuncId} {args : List AV} {H H' : List (Option AO)} {res : AV} (F : FC P G f args H res H') (old : List Nat) (base : Nat) {xs : List Operand} {ys : List AV} {ats : Array TypeId}
    (hg : GdOk l.toArray ⟨some d, .call ⟨.value (.func f), xs.toArray, ats⟩, ty, pos, aft, gd⟩ ⟨n, s, h, u⟩ true) (hev : EvL ⟨n, s, h, u⟩ xs ys) (hwk : WkL ys (args.map (AV.ren (pi old base)))) (hol : old.length = H.length) (hnd : old.Nodup) (hlt : ∀ x ∈ old, x < base)
    (h2 : HpOk ⟨n, s, h, u⟩ (hpl (pi old base) old H)) (h3 : NuOk ⟨n, s, h, u⟩ (callEff old base res H.length H').nu) (hd : Nat.blt d n = true)
    (hr : Ch P G l D K (⟨true, xs.zip ys, hpl (pi old base) old H, callEff old base res H.length H'⟩ :: acc) r ⟨n, upd s d (some (res.ren (pi old base))), chs h (callEff old base res H.length H').ch, nuU u (callEff old base res H.length H').nu⟩) :
    Ch P G l D K acc (⟨some d, .call ⟨.value (.func f), xs.toArray, ats⟩, ty, pos, aft, gd⟩ :: r) ⟨n, s, h, u⟩ :=
  Ch.cons (st := ⟨true, xs.zip ys, hpl (pi old base) old H, callEff old base res H.length H'⟩) ⟨hg, fun _ => ⟨OpS.call F old base hol hnd hlt hev.ok.2 hwk, hev.ok.1, h2, h3, fun t ht => by cases ht; exact Nat.blt_eq.mp hd⟩, fun h => nomatch h⟩ hr
/-- a call of a function that only computes -/
theorem Ch.callP {f : FuncId} {args : List AV} {res : AV} (F : FC P G f args [] res []) {xs : List Operand} {ys : List AV} {ats : Array TypeId}
    (hg : GdOk l.toArray ⟨some d, .call ⟨.value (.func f), xs.toArray, ats⟩, ty, pos, aft, gd⟩ ⟨n, s, h, u⟩ true) (hev : EvL ⟨n, s, h, u⟩ xs ys) (hwk : WkL ys (args.map (AV.ren (pi [] 0)))) {res' : AV} (hres : res.ren (pi [] 0) = res') (hd : Nat.blt d n = true)
    (hr : Ch P G l D K (⟨true, xs.zip ys, [], ⟨some res', [], []⟩⟩ :: acc) r ⟨n, upd s d (some res'), h, u⟩) :
    Ch P G l D K acc (⟨some d, .call ⟨.value (.func f), xs.toArray, ats⟩, ty, pos, aft, gd⟩ :: r) ⟨n, s, h, u⟩ := by
  subst hres
  exact Ch.cons (st := ⟨true, xs.zip ys, [], ⟨some (res.ren (pi [] 0)), [], []⟩⟩) ⟨hg, fun _ => ⟨OpS.call F [] 0 rfl (by simp) (by simp) hev.ok.2 hwk, hev.ok.1, trivial, trivial, fun t ht => by cases ht; exact Nat.blt_eq.mp hd⟩, fun h => nomatch h⟩ hr

/-- nothing yet, to be appended to -/
theorem OpS.assignTip {P : Program} {G : List (Nat × Array Value)} {x : Operand} (c : Nat) (E : TypeId) (sz : Nat) :
    OpS P G ⟨dst, .assign x, ty, pos, aft, gd⟩ [(x, .v (.slice none 0 0))] [] ⟨some (.sl (some c) 0 []), [(c, some (.tip E sz 0))], [c]⟩ := by
  refine OpS.act fun A ρ σ a w _ h _ hu hs => ?_
  let ρ' : Env := ⟨ρ.blk, upd ρ.tip c (some (.slice none 0 0))⟩
  have hid : ρ'.tip c = some (.slice none 0 0) := upd_same _ _ _
  obtain ⟨m1, m2⟩ := hs.mem.extend (ρ' := ρ') (ob := .tip E sz 0) (w' := w) hu.1 (fun i hi => ⟨rfl, upd_ne _ _ hi⟩) rfl rfl rfl (Nat.le_refl _) (fun k hk => rfl) (fun b ⟨cap, hb⟩ => by rw [hid] at hb; cases hb) (fun _ => .inl ⟨hid, rfl⟩)
  refine ⟨.slice none 0 0, w, ρ', .inl ?_, m1, m2, fun v hv => by
    cases hv
    exact .sl _ _ _ _ _ (fun _ => undef) (fun i hi => by cases hi) (fun i c hc => by simp at hc) (fun k hk => by cases hk; exact hid) (Nat.le_refl _) (fun _ => rfl) (by unfold maxLen; omega)⟩
  show (pure (Next.value (a.eval x)) : Sem Next).run P w = _
  rw [(hs.ev h.1).raw]
  rfl
end

section
variable {P : Program} {G : List (Nat × Array Value)} {l r : List Oper} {K : AS → Prop} {D : Bool} {acc : List St} {dst : Option Tmp} {ty : TypeId} {pos : String} {aft : Array Edge} {gd : Option (Nat × Bool)} {σ : AS}
  {op' : BinOp} {uo : UnOp} {t t' : TypeId} {x y z : Operand} {o1 o2 o3 : Option Operand} {i : Nat} {b : Builtin} {as a1 a2 : Array Operand} {ats : Array TypeId} {ps : Array (Nat × Operand)} {fn : Fn}
theorem Ch.kBin (h : Ch P G l D K acc (⟨dst, .binOp op' t x y t', ty, pos, aft, gd⟩ :: r) σ) : Ch P G l D K acc (⟨dst, .binOp op' t x y t', ty, pos, aft, gd⟩ :: r) σ := h
theorem Ch.kCv (h : Ch P G l D K acc (⟨dst, .convert t t' x, ty, pos, aft, gd⟩ :: r) σ) : Ch P G l D K acc (⟨dst, .convert t t' x, ty, pos, aft, gd⟩ :: r) σ := h
theorem Ch.kIx (h : Ch P G l D K acc (⟨dst, .index t x y, ty, pos, aft, gd⟩ :: r) σ) : Ch P G l D K acc (⟨dst, .index t x y, ty, pos, aft, gd⟩ :: r) σ := h
theorem Ch.kIa (h : Ch P G l D K acc (⟨dst, .indexAddr t x y, ty, pos, aft, gd⟩ :: r) σ) : Ch P G l D K acc (⟨dst, .indexAddr t x y, ty, pos, aft, gd⟩ :: r) σ := h
theorem Ch.kLd (h : Ch P G l D K acc (⟨dst, .load t x, ty, pos, aft, gd⟩ :: r) σ) : Ch P G l D K acc (⟨dst, .load t x, ty, pos, aft, gd⟩ :: r) σ := h
theorem Ch.kSt (h : Ch P G l D K acc (⟨dst, .store t x y, ty, pos, aft, gd⟩ :: r) σ) : Ch P G l D K acc (⟨dst, .store t x y, ty, pos, aft, gd⟩ :: r) σ := h
theorem Ch.kSl (h : Ch P G l D K acc (⟨dst, .slice t x o1 o2 o3, ty, pos, aft, gd⟩ :: r) σ) : Ch P G l D K acc (⟨dst, .slice t x o1 o2 o3, ty, pos, aft, gd⟩ :: r) σ := h
theorem Ch.kNc (h : Ch P G l D K acc (⟨dst, .nilCheck x, ty, pos, aft, gd⟩ :: r) σ) : Ch P G l D K acc (⟨dst, .nilCheck x, ty, pos, aft, gd⟩ :: r) σ := h
theorem Ch.kFa (h : Ch P G l D K acc (⟨dst, .fieldAddr t x i, ty, pos, aft, gd⟩ :: r) σ) : Ch P G l D K acc (⟨dst, .fieldAddr t x i, ty, pos, aft, gd⟩ :: r) σ := h
theorem Ch.kFd (h : Ch P G l D K acc (⟨dst, .field t x i, ty, pos, aft, gd⟩ :: r) σ) : Ch P G l D K acc (⟨dst, .field t x i, ty, pos, aft, gd⟩ :: r) σ := h
theorem Ch.kEx (h : Ch P G l D K acc (⟨dst, .extract x i, ty, pos, aft, gd⟩ :: r) σ) : Ch P G l D K acc (⟨dst, .extract x i, ty, pos, aft, gd⟩ :: r) σ := h
theorem Ch.kPk (h : Ch P G l D K acc (⟨dst, .pick x y z, ty, pos, aft, gd⟩ :: r) σ) : Ch P G l D K acc (⟨dst, .pick x y z, ty, pos, aft, gd⟩ :: r) σ := h
theorem Ch.kUn (h : Ch P G l D K acc (⟨dst, .unOp uo t x, ty, pos, aft, gd⟩ :: r) σ) : Ch P G l D K acc (⟨dst, .unOp uo t x, ty, pos, aft, gd⟩ :: r) σ := h
theorem Ch.kCb (h : Ch P G l D K acc (⟨dst, .call ⟨.builtin b, as, ats⟩, ty, pos, aft, gd⟩ :: r) σ) : Ch P G l D K acc (⟨dst, .call ⟨.builtin b, as, ats⟩, ty, pos, aft, gd⟩ :: r) σ := h
theorem Ch.kCv2 (h : Ch P G l D K acc (⟨dst, .call ⟨.value x, as, ats⟩, ty, pos, aft, gd⟩ :: r) σ) : Ch P G l D K acc (⟨dst, .call ⟨.value x, as, ats⟩, ty, pos, aft, gd⟩ :: r) σ := h
theorem Ch.kBs (h : Ch P G l D K acc (⟨dst, .buildSlice t i ps, ty, pos, aft, gd⟩ :: r) σ) : Ch P G l D K acc (⟨dst, .buildSlice t i ps, ty, pos, aft, gd⟩ :: r) σ := h
theorem Ch.kBd (h : Ch P G l D K acc (⟨dst, .build t ps, ty, pos, aft, gd⟩ :: r) σ) : Ch P G l D K acc (⟨dst, .build t ps, ty, pos, aft, gd⟩ :: r) σ := h
theorem Ch.kBx (h : Ch P G l D K acc (⟨dst, .box t x, ty, pos, aft, gd⟩ :: r) σ) : Ch P G l D K acc (⟨dst, .box t x, ty, pos, aft, gd⟩ :: r) σ := h
theorem Ch.kAl (h : Ch P G l D K acc (⟨dst, .alloc t, ty, pos, aft, gd⟩ :: r) σ) : Ch P G l D K acc (⟨dst, .alloc t, ty, pos, aft, gd⟩ :: r) σ := h
theorem Ch.kMf (h : Ch P G l D K acc (⟨dst, .makeFunc fn a1 a2, ty, pos, aft, gd⟩ :: r) σ) : Ch P G l D K acc (⟨dst, .makeFunc fn a1 a2, ty, pos, aft, gd⟩ :: r) σ := h
theorem Ch.kMs (h : Ch P G l D K acc (⟨dst, .makeSlice t x y, ty, pos, aft, gd⟩ :: r) σ) : Ch P G l D K acc (⟨dst, .makeSlice t x y, ty, pos, aft, gd⟩ :: r) σ := h
theorem Ch.kAs (h : Ch P G l D K acc (⟨dst, .assign x, ty, pos, aft, gd⟩ :: r) σ) : Ch P G l D K acc (⟨dst, .assign x, ty, pos, aft, gd⟩ :: r) σ := h
end

theorem WP.rg {P : Program} {G : List (Nat × Array Value)} {A : Amb} {Q : Exit → AS → Prop} {σ : AS} {id : Nat} {l : List Oper} (hG : A.G = G) (h : Ch P G l false (Q .normal) [] l σ) : WP P A (.region id l.toArray false) Q σ := by
  obtain ⟨ds, h1, -⟩ := h.e
  exact WP.region hG h1
theorem WP.rgD {P : Program} {G : List (Nat × Array Value)} {A : Amb} {Q : Exit → AS → Prop} {σ : AS} {id : Nat} {l : List Oper} (hm : P.follows .mixedOrders = true) (hG : A.G = G) (h : Ch P G l true (Q .normal) [] l σ) : WP P A (.region id l.toArray true) Q σ := by
  obtain ⟨ds, h1, h2⟩ := h.e
  exact WP.drawn hm hG h1 (h2 rfl)
theorem WP.rs {P : Program} {G : List (Nat × Array Value)} {A : Amb} {Q : Exit → AS → Prop} {σ : AS} {id : Nat} {l : List Oper} {y : Code} (hG : A.G = G) (h : Ch P G l false (WP P A y Q) [] l σ) : WP P A (.seq (.region id l.toArray false) y) Q σ :=
  WP.seq (WP.rg hG h)
theorem WP.rsD {P : Program} {G : List (Nat × Array Value)} {A : Amb} {Q : Exit → AS → Prop} {σ : AS} {id : Nat} {l : List Oper} {y : Code} (hm : P.follows .mixedOrders = true) (hG : A.G = G) (h : Ch P G l true (WP P A y Q) [] l σ) : WP P A (.seq (.region id l.toArray true) y) Q σ :=
  WP.seq (WP.rgD hm hG h)

/-- the same state, told with less: slots, entries as they are, names used -/
theorem Ent.id {nA : Nat} {σ σ' : AS} (hn : σ'.n = σ.n) (ha : ∀ i, i < nA → σ'.u i = true) (hs : ∀ t v', σ'.s t = some v' → v'.bel σ'.u ∧ ∃ v, σ.s t = some v ∧ v.wk (v'.ren id)) (hh : ∀ i o', σ'.h i = some o' → σ'.u i = true ∧ o'.bel σ'.u ∧ σ.h i = some (o'.ren id)) : Ent id nA σ σ' :=
  ⟨hn, fun i hi => ⟨rfl, ha i hi⟩, hs, hh, fun _ _ _ _ _ _ h => h⟩

/-- slots told by a list -/
def ls : List (Nat × AV) → Nat → Option AV
  | [] => fun _ => none
  | (t, v) :: r => fun i => bif Nat.beq i t then some v else ls r i
theorem ls_some {l : List (Nat × AV)} {t : Nat} {v : AV} (h : ls l t = some v) : (t, v) ∈ l := by
  induction l with
  | nil => cases h
  | cons p r ih =>
    obtain ⟨k, x⟩ := p
    simp only [ls] at h
    cases hb : Nat.beq t k with
    | true => rw [hb] at h; rw [Nat.beq_eq] at hb; cases h; subst hb; simp
    | false => rw [hb] at h; exact List.mem_cons_of_mem _ (ih h)
def lh : List (Nat × AO) → Nat → Option AO
  | [] => fun _ => none
  | (t, v) :: r => fun i => bif Nat.beq i t then some v else lh r i
theorem lh_some {l : List (Nat × AO)} {t : Nat} {v : AO} (h : lh l t = some v) : (t, v) ∈ l := by
  induction l with
  | nil => cases h
  | cons p r ih =>
    obtain ⟨k, x⟩ := p
    simp only [lh] at h
    cases hb : Nat.beq t k with
    | true => rw [hb] at h; rw [Nat.beq_eq] at hb; cases h; subst hb; simp
    | false => rw [hb] at h; exact List.mem_cons_of_mem _ (ih h)
/-- what each slot and each entry of a list must come from -/
def SFrom (π : Nat → Nat) (u : Nat → Bool) (s : Nat → Option AV) : List (Nat × AV) → Prop
  | [] => True
  | (t, v') :: r => (v'.bel u ∧ ∃ v, s t = some v ∧ v.wk (v'.ren π)) ∧ SFrom π u s r
def HFrom (π : Nat → Nat) (u : Nat → Bool) (h : Nat → Option AO) : List (Nat × AO) → Prop
  | [] => True
  | (t, o') :: r => (u t = true ∧ o'.bel u ∧ h (π t) = some (o'.ren π)) ∧ HFrom π u h r
theorem SFrom.get {π : Nat → Nat} {u : Nat → Bool} {s : Nat → Option AV} : ∀ {l : List (Nat × AV)}, SFrom π u s l → ∀ p ∈ l, p.2.bel u ∧ ∃ v, s p.1 = some v ∧ v.wk (p.2.ren π)
  | (t, v) :: r, h, p, hp => by
    rcases List.mem_cons.1 hp with rfl | hp
    · exact h.1
    · exact SFrom.get h.2 p hp
theorem HFrom.get {π : Nat → Nat} {u : Nat → Bool} {s : Nat → Option AO} : ∀ {l : List (Nat × AO)}, HFrom π u s l → ∀ p ∈ l, u p.1 = true ∧ p.2.bel u ∧ s (π p.1) = some (p.2.ren π)
  | (t, v) :: r, h, p, hp => by
    rcases List.mem_cons.1 hp with rfl | hp
    · exact h.1
    · exact HFrom.get h.2 p hp
/-- names that may be given anew: the k-th one is that of the list -/
def rn (l : List Nat) : Nat → Nat := fun i => l.getD i i
theorem Ent.of {nA n m : Nat} {s : Nat → Option AV} {h : Nat → Option AO} {u : Nat → Bool} {l : List (Nat × AV)} {lo : List (Nat × AO)} (rs : List Nat) (ha : ∀ i, i < nA → rn rs i = i ∧ blt m i = true) (hs : SFrom (rn rs) (blt m) s l) (hh : HFrom (rn rs) (blt m) h lo)
    (hinj : ((lo.map fun p => rn rs p.1)).Nodup) : Ent (rn rs) nA ⟨n, s, h, u⟩ ⟨n, ls l, lh lo, blt m⟩ := by
  refine ⟨rfl, ha, fun t v' ht => hs.get _ (ls_some ht), fun i o' hi => hh.get _ (lh_some hi), ?_⟩
  intro i j oi oj hi hj he
  have h1 := lh_some hi
  have h2 := lh_some hj
  have key : ∀ (lo : List (Nat × AO)), ((lo.map fun p => rn rs p.1)).Nodup → ∀ i oi j oj, (i, oi) ∈ lo → (j, oj) ∈ lo → rn rs i = rn rs j → i = j := by
    intro lo
    induction lo with
    | nil => intro _ i oi j oj h; cases h
    | cons p r ih =>
      intro hnd i oi j oj h1 h2 he
      simp only [List.map_cons, List.nodup_cons, List.mem_map, not_exists, not_and] at hnd
      rcases List.mem_cons.1 h1 with h1 | h1 <;> rcases List.mem_cons.1 h2 with h2 | h2
      · rw [← h2] at h1; cases h1; rfl
      · exact absurd (by rw [← h1]; exact he.symm) (hnd.1 _ h2)
      · exact absurd (by rw [← h2]; exact he) (hnd.1 _ h1)
      · exact ih hnd.2 i oi j oj h1 h2 he
  exact key lo hinj i oi j oj h1 h2 he

def HFromL (π : Nat → Nat) (u : Nat → Bool) (h : Nat → Option AO) : Nat → List (Option AO) → Prop
  | _, [] => True
  | k, none :: r => HFromL π u h (k + 1) r
  | k, some o' :: r => (o'.bel u ∧ h (π k) = some (o'.ren π)) ∧ HFromL π u h (k + 1) r
theorem HFromL.get {π : Nat → Nat} {u : Nat → Bool} {h : Nat → Option AO} : ∀ {k : Nat} {H : List (Option AO)}, HFromL π u h k H → ∀ {i : Nat} {o' : AO}, H[i]? = some (some o') → o'.bel u ∧ h (π (k + i)) = some (o'.ren π)
  | k, some o :: r, hh, 0, o', hi => by simp at hi; subst hi; exact hh.1
  | k, none :: r, hh, 0, o', hi => by simp at hi
  | k, some o :: r, hh, i + 1, o', hi => by have := HFromL.get hh.2 (i := i) (o' := o') (by simpa using hi); rw [show k + (i + 1) = k + 1 + i by omega]; exact this
  | k, none :: r, hh, i + 1, o', hi => by have := HFromL.get (k := k + 1) (H := r) hh (i := i) (o' := o') (by simpa using hi); rw [show k + (i + 1) = k + 1 + i by omega]; exact this
  | k, [], _, i, o', hi => by simp at hi
theorem Ret.of {A : Amb} {n : Nat} {s : Nat → Option AV} {h : Nat → Option AO} {u : Nat → Bool} {rs : List Tmp} {vs : List AV} {res : AV} {H' : List (Option AO)} (pm : List Nat) (ha : ∀ i, i < A.nA → rn pm i = i ∧ blt H'.length i = true) (hs : SFrom (rn pm) (blt H'.length) s (rs.zip vs)) (hl' : vs.length = rs.length)
    (hh : HFromL (rn pm) (blt H'.length) h 0 H') (hinj : ((List.range H'.length).map (rn pm)).Nodup) (hr : RetV rs res ⟨n, ls (rs.zip vs), hl H', blt H'.length⟩) :
    Ret A rs res H' .ret ⟨n, s, h, u⟩ ∧ Ret A rs res H' .normal ⟨n, s, h, u⟩ := by
  have : ∃ σ', SEnt A ⟨n, s, h, u⟩ σ' ∧ σ'.h = hl H' ∧ σ'.u = blt H'.length ∧ RetV rs res σ' := by
    refine ⟨⟨n, ls (rs.zip vs), hl H', blt H'.length⟩, Ent.se (π := rn pm) ⟨rfl, ha, fun t v' ht => hs.get _ (ls_some ht), fun i o' hi => ?_, ?_⟩, rfl, rfl, hr⟩
    · obtain ⟨h1, h2⟩ := hl_some hi
      have := hh.get h2
      rw [Nat.zero_add] at this
      exact ⟨blt_iff.2 h1, this⟩
    · intro i j oi oj hi hj he
      have hi' := (hl_some hi).1
      have hj' := (hl_some hj).1
      rcases Nat.lt_trichotomy i j with hij | hij | hij
      · have := List.pairwise_iff_getElem.1 hinj i j (by simpa using hi') (by simpa using hj') hij
        simp at this
        exact absurd he this
      · exact hij
      · have := List.pairwise_iff_getElem.1 hinj j i (by simpa using hj') (by simpa using hi') hij
        simp at this
        exact absurd he.symm this
  exact ⟨this, this⟩
theorem Ret.one {A : Amb} {n : Nat} {s : Nat → Option AV} {h : Nat → Option AO} {u : Nat → Bool} {t : Tmp} {v res : AV} (hs : s t = some v) (hk : v.wk (res.ren (rn []))) (hb : res.bel (blt 0)) (hA : A.nA = 0) : Ret A [t] res [] .ret ⟨n, s, h, u⟩ :=
  (Ret.of (rs := [t]) (vs := [res]) (H' := []) (res := res) [] (fun i hi => by rw [hA] at hi; omega) ⟨⟨hb, v, hs, hk⟩, trivial⟩ rfl trivial (by simp) (show ls [(t, res)] t = some res by simp [ls])).1
end Go.Proofs.Ytjmbendppcildaa.E
end
section
/- Made slices, copy, a row that may be written from now on; from abstract promises to concrete ones and back. -/
namespace Go.Proofs.Ytjmbendppcildaa.E
open Go Go.RowKit Go.Proofs.Ytjmbendppcildaa.V

theorem madeCells_one (z : Value) (m : Nat) : (madeCells #[z] m).toList = List.replicate m z := by
  apply List.ext_getElem?
  intro j
  by_cases hj : j < m
  · simp [madeCells, hj, Nat.mod_one]
  · simp [madeCells, hj]

section
variable {P : Program} {G : List (Nat × Array Value)} {dst : Option Tmp} {ty : TypeId} {pos : String} {aft : Array Edge} {gd : Option (Nat × Bool)}

/-- make: a row of noughts that may be written -/
theorem OpS.make {t E : TypeId} {inf : TypeInfo} {z : Value} {x y : Operand} {k k' : IntKind} {m : Int} {n : Nat} (id : Nat) (hu : P.underlying t = some (.slice E)) (hi : P.info? E = some inf) (hz : inf.zero = some z) (hsz : inf.size = 1) (hzc : z.cells = #[z]) (h1 : z.oneCell' = true) (hm : m = (n : Int))
    (hb : n * inf.bytes ≤ 281474976710656) (hn : n ≤ maxLen) :
    OpS P G ⟨dst, .makeSlice t x y, ty, pos, aft, gd⟩ [(x, .v (.int k m)), (y, .v (.int k' m))] [] ⟨some (.arr id 0 n), [(id, some (.cells E (List.replicate n (.v z))))], [id]⟩ := by
  subst hm
  refine OpS.act fun A ρ σ a w _ h hp hu' hs => ?_
  have hl : (madeCells z.cells (n * inf.size)).toList = List.replicate n z := by rw [hzc, hsz, Nat.mul_one, madeCells_one]
  obtain ⟨ρ', k1, k2, k3⟩ := new_cells (w' := w.alloc (.cells (madeCells z.cells (n * inf.size)) E)) (T := E) (cs := List.replicate n (.v z)) hs.mem hu'.1 rfl rfl rfl (by simp) (fun k hk => Below.heap_alloc w _ k hk) (heap_alloc_new w _)
    (by rw [List.length_replicate, ← Array.length_toList, hl, List.length_replicate]; exact Nat.le_refl _) (fun j c v hc hv => by
    rw [← Array.getElem?_toList, hl] at hv
    rw [List.getElem?_replicate] at hc hv
    split at hc
    · rw [if_pos ‹_›] at hv
      cases hc; cases hv
      exact ⟨.v _, h1⟩
    · cases hc)
  have hn' : ((n : Int)) ≤ 9223372036854775807 := by unfold maxLen at hn; omega
  have hb' : (inf.bytes : Int) * (n : Int) ≤ 281474976710656 := by
    have h : ((n * inf.bytes : Nat) : Int) ≤ 281474976710656 := by omega
    rw [Int.mul_comm]
    rwa [Int.natCast_mul] at h
  have hr := run_make (P := P) w t E inf z hu hi hz k k' (n : Int) (n : Int) (by omega) (Int.le_refl _) hb' hn'
  simp only [Int.toNat_natCast] at hr
  refine ⟨_, _, ρ', .inl ?_, k1, k2, fun v hv => by cases hv; exact .arr id 0 n n _ k3 (Nat.le_refl _) hn⟩
  refine runv (s := Instr.makeSlice t (a.eval x) (a.eval y)) ?_
  rw [(hs.ev h.1).raw, (hs.ev h.2.1).raw]
  exact hr

/-- copy, of a text -/
theorem OpS.copyS {dT sT E : TypeId} {inf : TypeInfo} {x y : Operand} {id off n : Nat} {T : TypeId} {cs : List AV} {l : List UInt8} (hu : P.underlying dT = some (.slice E)) (hi : P.info? E = some inf) (hsz : inf.size = 1) (hl : off + n ≤ cs.length) :
    OpS P G ⟨dst, .call ⟨.builtin .copy, #[x, y], #[dT, sT]⟩, ty, pos, aft, gd⟩ [(x, .arr id off n), (y, .v (.string (B l)))] [(id, .cells T cs)]
      ⟨some (.v (.int .i64 ((l.take n).length : Int))), [(id, some (.cells T (splice cs off ((l.take n).map bA))))], []⟩ := by
  refine OpS.act fun A ρ σ a w _ h hp _ hs => ?_
  have hx := hs.ev h.1
  have hy := (hs.ev h.2.1).raw
  obtain ⟨b, arr, k1, ⟨fz, hmk, k2⟩, k3, k4⟩ := hs.mem.heap id _ hp.1
  have hlen : (bvs (l.take n)).length = (l.take n).length := bvs_length _
  have hln : (l.take n).length ≤ n := List.length_take_le _ _
  have hst := run_storeCells_mk P b off T (bvs (l.take n)) 0 arr w fz hmk k2 (by rw [hlen]; simp at hln ⊢; omega) (bvs_one _)
  obtain ⟨m1, m2⟩ := hs.mem.write (cs' := splice cs off ((l.take n).map bA)) (w' := w.setRow b (arr.toList.take off ++ bvs (l.take n) ++ arr.toList.drop (off + (bvs (l.take n)).length)).toArray) hp.1 k1 rfl rfl rfl (by simp) (fun k _ hk => setRow_other w b k _ hk)
    (by unfold Mark; rw [show ((arr.toList.take off ++ bvs (l.take n) ++ arr.toList.drop (off + (bvs (l.take n)).length)).toArray).size = arr.size by simp only [List.size_toArray, List.length_append, List.length_take, List.length_drop, hlen, Array.length_toList]; have := List.length_take_le n l; omega]; exact hmk) (setRow_heap w b arr _ T fz k2) (by
      rw [splice_len _ _ _ (by simp; omega)]
      simp [hlen]; omega) (fun j c v hc hv => by
    have hv' : (splice arr.toList off (bvs (l.take n)))[j]? = some v := by simpa [splice] using hv
    rw [splice_get _ _ _ _ (by simp; omega)] at hc
    rw [splice_get _ _ _ _ (by rw [hlen]; simp at hln ⊢; omega)] at hv'
    simp only [List.length_map, hlen] at hc hv'
    split at hc
    · rename_i hin
      rw [if_pos hin] at hv'
      simp only [bvs, List.getElem?_map] at hc hv'
      cases hq : (l.take n)[j - off]? with
      | none => rw [hq] at hc; cases hc
      | some q =>
        rw [hq] at hc hv'
        cases hc; cases hv'
        exact ⟨.v _, rfl⟩
    · rename_i hin
      rw [if_neg hin] at hv'
      exact k4 j c v hc (by simpa using hv'))
  obtain ⟨css, he⟩ := exec_b2 a.eval .copy x y #[dT, sT] (dst := dst) (ty := ty) (pos := pos) (aft := aft) (gd := gd)
  refine ⟨goInt ((l.take n).length : Int), _, ρ, .inl ?_, m1, m2, fun v hv => by cases hv; exact .v _⟩
  rw [he]
  refine runv (s := Builtin.copy_ #[dT, sT] ty #[a.eval x, a.eval y]) ?_
  rw [hy]
  generalize a.eval x = v at hx
  cases hx with
  | arr id off n cap b' hb hn hm =>
    rw [k1] at hb
    cases hb
    have e1 : Nat.min (B l).size n = (l.take n).length := by rw [B_size, List.length_take]; exact Nat.min_comm _ _
    have e3 : l.take (l.take n).length = l.take n := by rw [List.length_take, ← List.take_take, List.take_length]
    have e2 : ((B l).extract 0 (l.take n).length).data.map (fun b => Value.int .u8 b.toNat) = (bvs (l.take n)).toArray := by
      rw [B_extract, List.drop_zero, Nat.sub_zero, e3]
      simp [bvs, B]
      rfl
    have hst' : (storeCells ⟨b, off, none⟩ (bvs (l.take n))).run P w = .ok () (w.setRow b (arr.toList.take off ++ bvs (l.take n) ++ arr.toList.drop (off + (bvs (l.take n)).length)).toArray) := by simpa using hst
    simp only [Builtin.copy_]
    simp [Sem.run_bind, run_underlying hu, Builtin.lenOf, Builtin.firstCells, sizeOf, typeInfo, hi, hsz, Sem.run_pure, Result.andThen_ok, -ByteArray.data_extract]
    have e2' : List.map (fun b : UInt8 => Value.int .u8 b.toNat) ((B l).extract 0 (l.take n).length).data.toList = bvs (l.take n) := by
      have := congrArg Array.toList e2
      simpa using this
    rw [e1, e2', hst']
    simp [Result.andThen_ok]
/-- bytes of a row that may be written, as a text -/
theorem OpS.b2sA {src d e : TypeId} {x : Operand} {id off n : Nat} {T : TypeId} {cs : List AV} {l : List UInt8} (hs : P.underlying src = some (.slice e)) (he : P.underlying e = some (.int .u8)) (hd : P.underlying d = some .string) (hn : n = l.length) (hl : (cs.drop off).take n = l.map bA) :
    OpS P G ⟨dst, .convert src d x, ty, pos, aft, gd⟩ [(x, .arr id off n)] [(id, .cells T cs)] ⟨some (.v (.string (B l))), [], []⟩ := by
  subst hn
  refine OpS.still fun A ρ σ a w _ h hp hst => ⟨_, ?_, .v _⟩
  refine runv (s := convert src d (a.eval x)) ?_
  have hx := hst.ev h.1
  obtain ⟨b, arr, k1, ⟨fz, hmk, k2⟩, k3, k4⟩ := hst.mem.heap id _ hp.1
  generalize a.eval x = y at hx ⊢
  cases hx with
  | arr id off n cap b' hb hn hm =>
    rw [k1] at hb
    cases hb
    refine run_b2s w src d e hs he hd _ cap l (fun j v hj => ?_)
    have hjl : j < l.length := by have := (List.getElem?_eq_some_iff.1 hj).1; simpa [bvs] using this
    have hc : cs[off + j]? = some (bA l[j]) := by
      have := congrArg (fun x => x[j]?) hl
      simp only [List.getElem?_take_of_lt hjl, List.getElem?_drop, List.getElem?_map, List.getElem?_eq_getElem hjl] at this
      exact this
    have hlt : off + j < arr.size := by have := (List.getElem?_eq_some_iff.1 hc).1; omega
    have := (k4 (off + j) _ arr[off + j] hc (Array.getElem?_eq_getElem hlt)).1.raw
    rw [Addr.add_mid, cell_of_row w b (off + j) arr T fz k2, Array.getElem?_eq_getElem hlt, this]
    simpa [bvs, hjl] using hj
end

/-- a row that was appended to may be written from now on; nothing else is told -/
theorem SEnt.thaw {A : Amb} {σ : AS} {t c n sz k m : Nat} {E : TypeId} {cs : List AV} (hs : σ.s t = some (.sl (some c) n cs)) (hc : σ.h c = some (.tip E sz n)) (hl : cs.length = n * sz) (h0 : 0 < n * sz) (hraw : ∀ x ∈ cs, ∃ v, x = .v v) (hk : A.nA ≤ k) (hm : k < m) (hAB : ∀ b, ¬ A.B b) :
    SEnt A σ ⟨σ.n, ls [(t, .arr k 0 n)], lh [(k, .cells E cs)], blt m⟩ := by
  intro ρ a w hst
  obtain ⟨x, hx, hv⟩ := hst.slots t _ hs
  have ho := hst.mem.heap c _ hc
  cases hv with
  | sl o n cs ad cap vals hcv hcs htip hn hz hmx =>
    have ht := htip c rfl
    rcases ho with ⟨h1, h2⟩ | ⟨g, cap', cur, h1, h2, h3, h4, h5⟩
    · subst h2; simp at h0
    · rw [ht] at h1
      cases h1
      let ρ' : Env := ⟨fun i => if i < A.nA then ρ.blk i else if i = k then some g else none, fun i => if i < A.nA then ρ.tip i else none⟩
      have hkb : ρ'.blk k = some g := by show (if k < A.nA then _ else if k = k then some g else none) = _; rw [if_neg (by omega), if_pos rfl]
      have hown := hst.mem.ownB c _ g hc ⟨cap, ht⟩
      have hcell : ∀ i, i < cs.length → cur[i]? = some (vals i) := fun i hi => by
        obtain ⟨_, b, off, he, hx', _⟩ := hcv i hi
        cases he
        rw [cell_of_row w g (0 + i) cur E (0, 0) h2, Nat.zero_add] at hx'
        exact hx'
      refine ⟨ρ', ⟨⟨hst.mem.os, hst.mem.tape, hst.mem.output, hst.mem.size, hst.mem.block, hst.mem.keep, hst.mem.nlt, hst.mem.nw, hst.mem.wb, hst.mem.tabs, hst.mem.domB, hst.mem.domT, ?_, ?_, ?_, ?_, ?_, ?_, ?_⟩, ?_, hst.nt, hst.defers⟩⟩
      · intro i hi
        refine ⟨blt_iff.2 (by omega), ?_, ?_⟩
        · show (if i < A.nA then ρ.blk i else _) = _; rw [if_pos hi]; exact (hst.mem.fix i hi).2.1
        · show (if i < A.nA then ρ.tip i else _) = _; rw [if_pos hi]; exact (hst.mem.fix i hi).2.2
      · intro i b hb
        have hb' : (if i < A.nA then ρ.blk i else if i = k then some g else none) = some b := hb
        refine blt_iff.2 ?_
        split at hb'
        · omega
        · split at hb'
          · omega
          · cases hb'
      · intro i b hb
        have hb' : (if i < A.nA then ρ.tip i else none) = some b := hb
        refine blt_iff.2 ?_
        split at hb'
        · omega
        · cases hb'
      · intro i ob hi
        have hm' := lh_some hi
        simp only [List.mem_singleton, Prod.mk.injEq] at hm'
        obtain ⟨rfl, rfl⟩ := hm'
        refine ⟨g, cur, hkb, ⟨_, .inl rfl, h2⟩, ?_, fun j c' y hc' hy => ?_⟩
        · rw [hl, h5]; exact Nat.mul_le_mul_right _ h3
        · have hj := (List.getElem?_eq_some_iff.1 hc').1
          have hy' : y = vals j := by rw [hcell j hj] at hy; injection hy with hy; exact hy.symm
          subst hy'
          obtain ⟨v, rfl⟩ := hraw c' (List.mem_of_getElem? hc')
          have := (hcs j _ hc').raw
          rw [this]
          have h1' := (hcv j hj).1
          rw [this] at h1'
          exact ⟨.v v, h1'⟩
      · intro i ob b o hi hw
        have hm' := lh_some hi
        simp only [List.mem_singleton, Prod.mk.injEq] at hm'
        obtain ⟨rfl, rfl⟩ := hm'
        have hw' : ρ'.blk i = some b := hw
        rw [hkb] at hw'
        cases hw'
        exact .inr (hown.resolve_left (hAB _))
      · intro i ob b hi hw
        have hm' := lh_some hi
        simp only [List.mem_singleton, Prod.mk.injEq] at hm'
        obtain ⟨rfl, rfl⟩ := hm'
        have hw' : ρ'.blk i = some b := hw
        rw [hkb] at hw'
        cases hw'
        exact hown
      · intro i j oi oj b hi hj _ _
        have h1' := lh_some hi
        have h2' := lh_some hj
        simp only [List.mem_singleton, Prod.mk.injEq] at h1' h2'
        rw [h1'.1, h2'.1]
      · intro t' v' ht'
        have hm' := ls_some ht'
        simp only [List.mem_singleton, Prod.mk.injEq] at hm'
        obtain ⟨rfl, rfl⟩ := hm'
        exact ⟨_, hx, .arr k 0 n cap g hkb hn hmx⟩
end Go.Proofs.Ytjmbendppcildaa.E
end
