/- What operations come to that only read, or only compute. -/
import Derived.Test.YtmifllopcbjliaaDoorE5
import Derived.Test.YtmifllopcbjliaaDoorM
import Derived.Deep.MidRow
namespace Go.Proofs.YtmifllopcbjliaaDoor.E
open Go Go.RowKit Go.Proofs.YtmifllopcbjliaaDoor.V

theorem VRel.raw {N : Nat → Nat → Prop} {ρ : Env} {w : World} {x y : Value} (h : VRel N ρ w (.v x) y) : y = x := by cases h; rfl
theorem runv {P : Program} {s : Sem Value} {v : Value} {w w' : World} (h : s.run P w = .ok v w') : (do pure (Next.value (← s)) : Sem Next).run P w = .ok (.value v) w' := by
  rw [Sem.run_bind, h]; rfl
theorem runu {P : Program} {s : Sem Unit} {w w' : World} (h : s.run P w = .ok () w') : (do s; pure Next.skip : Sem Next).run P w = .ok .skip w' := by
  rw [Sem.run_bind, h]; rfl

theorem exec_b1 (ev : Operand → Value) (b : Builtin) (x : Operand) (ats : Array TypeId) {dst : Option Tmp} {ty : TypeId} {pos : String} {aft : Array Edge} {gd : Option (Nat × Bool)} :
    ∃ cs, execOp ev ⟨dst, .call ⟨.builtin b, #[x], ats⟩, ty, pos, aft, gd⟩ = builtin b ats ty cs #[ev x] := ⟨_, by
  show (do let d ← (pure { target := .builtin b ats ty _, args := #[x].map ev } : Sem Deferred); invoke d.target d.args) = _
  simp only [List.map_toArray, List.map_cons, List.map_nil]
  rfl⟩
theorem exec_b2 (ev : Operand → Value) (b : Builtin) (x y : Operand) (ats : Array TypeId) {dst : Option Tmp} {ty : TypeId} {pos : String} {aft : Array Edge} {gd : Option (Nat × Bool)} :
    ∃ cs, execOp ev ⟨dst, .call ⟨.builtin b, #[x, y], ats⟩, ty, pos, aft, gd⟩ = builtin b ats ty cs #[ev x, ev y] := ⟨_, by
  show (do let d ← (pure { target := .builtin b ats ty _, args := #[x, y].map ev } : Sem Deferred); invoke d.target d.args) = _
  simp only [List.map_toArray, List.map_cons, List.map_nil]
  rfl⟩

section
variable {P : Program} {G : List (Nat × Array Value)} {dst : Option Tmp} {ty : TypeId} {pos : String} {aft : Array Edge} {gd : Option (Nat × Bool)}

theorem OpS.move {x : Operand} {v : AV} : OpS P G ⟨dst, .move x, ty, pos, aft, gd⟩ [(x, v)] [] ⟨some v, [], []⟩ :=
  OpS.still fun _ _ _ a _ _ h _ hs => ⟨a.eval x, rfl, hs.ev h.1⟩
theorem OpS.assign {x : Operand} {v : AV} : OpS P G ⟨dst, .assign x, ty, pos, aft, gd⟩ [(x, v)] [] ⟨some v, [], []⟩ :=
  OpS.still fun _ _ _ a _ _ h _ hs => ⟨a.eval x, rfl, hs.ev h.1⟩
/-- a slot's value, told with less -/
theorem OpS.moveWk {x : Operand} {v v' : AV} (hk : v.wk v') : OpS P G ⟨dst, .move x, ty, pos, aft, gd⟩ [(x, v)] [] ⟨some v', [], []⟩ :=
  OpS.still fun _ _ _ a _ _ h _ hs => ⟨a.eval x, rfl, (hs.ev h.1).wk hk⟩
theorem OpS.assignWk {x : Operand} {v v' : AV} (hk : v.wk v') : OpS P G ⟨dst, .assign x, ty, pos, aft, gd⟩ [(x, v)] [] ⟨some v', [], []⟩ :=
  OpS.still fun _ _ _ a _ _ h _ hs => ⟨a.eval x, rfl, (hs.ev h.1).wk hk⟩

/- operations on plain values: by the walk's own simplifier -/
theorem OpS.raw0 {o : Oper} {v : Value} (h : ∀ (a : Act) (w : World), (execOp a.eval o).run P w = .ok (.value v) w) : OpS P G o [] [] ⟨some (.v v), [], []⟩ :=
  OpS.still fun _ _ _ a w _ _ _ _ => ⟨v, h a w, .v v⟩
theorem OpS.raw1 {o : Oper} {x : Operand} {vx v : Value} (h : ∀ (a : Act) (w : World), a.eval x = vx → (execOp a.eval o).run P w = .ok (.value v) w) : OpS P G o [(x, .v vx)] [] ⟨some (.v v), [], []⟩ :=
  OpS.still fun _ _ _ a w _ h1 _ hs => ⟨v, h a w (hs.ev h1.1).raw, .v v⟩
theorem OpS.raw2 {o : Oper} {x y : Operand} {vx vy v : Value} (h : ∀ (a : Act) (w : World), a.eval x = vx → a.eval y = vy → (execOp a.eval o).run P w = .ok (.value v) w) : OpS P G o [(x, .v vx), (y, .v vy)] [] ⟨some (.v v), [], []⟩ :=
  OpS.still fun _ _ _ a w _ h1 _ hs => ⟨v, h a w (hs.ev h1.1).raw (hs.ev h1.2.1).raw, .v v⟩
theorem OpS.raw3 {o : Oper} {x y z : Operand} {vx vy vz v : Value} (h : ∀ (a : Act) (w : World), a.eval x = vx → a.eval y = vy → a.eval z = vz → (execOp a.eval o).run P w = .ok (.value v) w) :
    OpS P G o [(x, .v vx), (y, .v vy), (z, .v vz)] [] ⟨some (.v v), [], []⟩ :=
  OpS.still fun _ _ _ a w _ h1 _ hs => ⟨v, h a w (hs.ev h1.1).raw (hs.ev h1.2.1).raw (hs.ev h1.2.2.1).raw, .v v⟩

/- whole numbers: the common ones, at once -/
def intV : BinOp → IntKind → Int → Int → Option Value
  | .add, k, a, b => some (.int k (k.wrap (a + b)))
  | .sub, k, a, b => some (.int k (k.wrap (a - b)))
  | .mul, k, a, b => some (.int k (k.wrap (a * b)))
  | .eql, _, a, b => some (.bool (a == b))
  | .neq, _, a, b => some (.bool (a != b))
  | .lss, _, a, b => some (.bool (decide (a < b)))
  | .leq, _, a, b => some (.bool (decide (a ≤ b)))
  | .gtr, _, a, b => some (.bool (decide (a > b)))
  | .geq, _, a, b => some (.bool (decide (a ≥ b)))
  | _, _, _, _ => none
theorem OpS.int {op : BinOp} {t t' : TypeId} {x y : Operand} {k : IntKind} {a b : Int} {v v' : Value} (hv : intV op k a b = some v) (he : v = v') :
    OpS P G ⟨dst, .binOp op t x y t', ty, pos, aft, gd⟩ [(x, .v (.int k a)), (y, .v (.int k b))] [] ⟨some (.v v'), [], []⟩ := by
  subst he
  refine OpS.raw2 fun a' w hx hy => ?_
  show (do pure (Next.value (← (do eqGuard op t x y (a'.eval x) (a'.eval y); binOp op t (a'.eval x) (a'.eval y)))) : Sem Next).run P w = _
  refine runv ?_
  rw [hx, hy]
  cases op <;> simp only [intV, Option.some.injEq, reduceCtorEq] at hv <;> subst hv <;> simp [eqGuard, binOp, Op.intArith, Op.intCmp, Sem.run_bind, Sem.run_pure, Result.andThen_ok]
theorem wr64 {n : Int} (h : -9223372036854775808 ≤ n ∧ n < 9223372036854775808) : Value.int .i64 (IntKind.i64.wrap n) = .int .i64 n := by
  rw [IntKind.wrap_i64]; congr 1; omega
theorem OpS.strAdd {t t' : TypeId} {x y : Operand} {a b : List UInt8} (hl : a.length + b.length ≤ 9223372036854775807) :
    OpS P G ⟨dst, .binOp .add t x y t', ty, pos, aft, gd⟩ [(x, .v (.string (B a))), (y, .v (.string (B b)))] [] ⟨some (.v (.string (B (a ++ b)))), [], []⟩ := by
  refine OpS.raw2 fun a' w hx hy => ?_
  show (do pure (Next.value (← (do eqGuard _ t x y (a'.eval x) (a'.eval y); binOp _ t (a'.eval x) (a'.eval y)))) : Sem Next).run P w = _
  refine runv ?_
  rw [hx, hy]
  simp [eqGuard, binOp, Op.stringOp, Sem.run_bind, Sem.run_pure, Result.andThen_ok, B_append, B_size]
  omega
theorem OpS.strEql {t t' : TypeId} {x y : Operand} {a b : List UInt8} :
    OpS P G ⟨dst, .binOp .eql t x y t', ty, pos, aft, gd⟩ [(x, .v (.string (B a))), (y, .v (.string (B b)))] [] ⟨some (.v (.bool (decide (a = b)))), [], []⟩ := by
  refine OpS.raw2 fun a' w hx hy => ?_
  show (do pure (Next.value (← (do eqGuard _ t x y (a'.eval x) (a'.eval y); binOp _ t (a'.eval x) (a'.eval y)))) : Sem Next).run P w = _
  refine runv ?_
  rw [hx, hy]
  simp only [eqGuard, binOp, Op.stringOp, Sem.run_bind, Sem.run_pure, Result.andThen_ok, Bool.not_true, Bool.false_eq_true, if_false]
  simp [Sem.run_pure, Result.andThen_ok]
  rw [Bool.eq_iff_iff]
  simp [B_toList]
theorem OpS.strNeq {t t' : TypeId} {x y : Operand} {a b : List UInt8} :
    OpS P G ⟨dst, .binOp .neq t x y t', ty, pos, aft, gd⟩ [(x, .v (.string (B a))), (y, .v (.string (B b)))] [] ⟨some (.v (.bool (!decide (a = b)))), [], []⟩ := by
  refine OpS.raw2 fun a' w hx hy => ?_
  show (do pure (Next.value (← (do eqGuard _ t x y (a'.eval x) (a'.eval y); binOp _ t (a'.eval x) (a'.eval y)))) : Sem Next).run P w = _
  refine runv ?_
  rw [hx, hy]
  simp only [eqGuard, binOp, Op.stringOp, Sem.run_bind, Sem.run_pure, Result.andThen_ok, Bool.not_true, Bool.false_eq_true, if_false]
  simp [Sem.run_pure, Result.andThen_ok]
  rw [Bool.eq_iff_iff]
  simp [B_toList]
theorem OpS.boolEql {t t' : TypeId} {x y : Operand} {a b : Bool} (hu : P.underlying t = some .bool) :
    OpS P G ⟨dst, .binOp .eql t x y t', ty, pos, aft, gd⟩ [(x, .v (.bool a)), (y, .v (.bool b))] [] ⟨some (.v (.bool (a == b))), [], []⟩ := by
  refine OpS.raw2 fun a' w hx hy => ?_
  show (do pure (Next.value (← (do eqGuard _ t x y (a'.eval x) (a'.eval y); binOp _ t (a'.eval x) (a'.eval y)))) : Sem Next).run P w = _
  refine runv ?_
  rw [hx, hy]
  simp [eqGuard, Sem.run_bind, Sem.run_pure, Result.andThen_ok, run_eql_bool w t a b hu]
theorem OpS.boolNeq {t t' : TypeId} {x y : Operand} {a b : Bool} (hu : P.underlying t = some .bool) :
    OpS P G ⟨dst, .binOp .neq t x y t', ty, pos, aft, gd⟩ [(x, .v (.bool a)), (y, .v (.bool b))] [] ⟨some (.v (.bool (a != b))), [], []⟩ := by
  refine OpS.raw2 fun a' w hx hy => ?_
  show (do pure (Next.value (← (do eqGuard _ t x y (a'.eval x) (a'.eval y); binOp _ t (a'.eval x) (a'.eval y)))) : Sem Next).run P w = _
  refine runv ?_
  rw [hx, hy]
  have key : ∀ d, (Op.equalIn (d + 1) t (.bool a) (.bool b)).run P w = .ok (a == b) w := fun d => by simp [Op.equalIn, run_underlying hu, Sem.run_bind, Sem.run_pure, Result.andThen_ok]
  show (do pure (Value.bool (!(← Op.equalIn (9999 + 1) t (.bool a) (.bool b)))) : Sem Value).run P w = _
  rw [Sem.run_bind, key]
  rfl
theorem OpS.not {t : TypeId} {x : Operand} {a : Bool} : OpS P G ⟨dst, .unOp .not t x, ty, pos, aft, gd⟩ [(x, .v (.bool a))] [] ⟨some (.v (.bool (!a))), [], []⟩ := by
  refine OpS.raw1 fun a' w hx => ?_
  show (do pure (Next.value (← (Op.unary .not (a'.eval x)))) : Sem Next).run P w = _
  refine runv ?_
  rw [hx]
  rfl
theorem OpS.pickR {c x y : Operand} {t : Bool} {vx vy : Value} : OpS P G ⟨dst, .pick c x y, ty, pos, aft, gd⟩ [(c, .v (.bool t)), (x, .v vx), (y, .v vy)] [] ⟨some (.v (if t then vx else vy)), [], []⟩ := by
  refine OpS.raw3 fun a' w hc hx hy => ?_
  show (do pure (Next.value (if ← asBool (a'.eval c) then a'.eval x else a'.eval y)) : Sem Next).run P w = _
  rw [hc, hx, hy]
  cases t <;> rfl
theorem OpS.pickT {c x y : Operand} {vx : AV} : OpS P G ⟨dst, .pick c x y, ty, pos, aft, gd⟩ [(c, .v (.bool true)), (x, vx)] [] ⟨some vx, [], []⟩ := by
  refine OpS.still fun _ _ _ a w _ h _ hs => ⟨a.eval x, ?_, hs.ev h.2.1⟩
  show (do pure (Next.value (if ← asBool (a.eval c) then a.eval x else a.eval y)) : Sem Next).run P w = _
  rw [(hs.ev h.1).raw]; rfl
theorem OpS.pickF {c x y : Operand} {vy : AV} : OpS P G ⟨dst, .pick c x y, ty, pos, aft, gd⟩ [(c, .v (.bool false)), (y, vy)] [] ⟨some vy, [], []⟩ := by
  refine OpS.still fun _ _ _ a w _ h _ hs => ⟨a.eval y, ?_, hs.ev h.2.1⟩
  show (do pure (Next.value (if ← asBool (a.eval c) then a.eval x else a.eval y)) : Sem Next).run P w = _
  rw [(hs.ev h.1).raw]; rfl
theorem OpS.conv {src d : TypeId} {x : Operand} {k k' : IntKind} {n : Int} {v : Value} (hs : P.underlying src = some (.int k')) (hu : P.underlying d = some (.int k)) (he : Value.int k (k.wrap n) = v) :
    OpS P G ⟨dst, .convert src d x, ty, pos, aft, gd⟩ [(x, .v (.int k' n))] [] ⟨some (.v v), [], []⟩ := by
  subst he
  refine OpS.raw1 fun a' w hx => ?_
  show (do pure (Next.value (← convert src d (a'.eval x))) : Sem Next).run P w = _
  refine runv ?_
  rw [hx]
  simp [convert, run_underlying hs, run_underlying hu, Sem.run_bind, Conv.intToInt]

/- len -/
theorem OpS.lenS {tx : TypeId} {x : Operand} {l : List UInt8} (hu : P.underlying tx = some .string) :
    OpS P G ⟨dst, .call ⟨.builtin .len, #[x], #[tx]⟩, ty, pos, aft, gd⟩ [(x, .v (.string (B l)))] [] ⟨some (.v (.int .i64 (l.length : Int))), [], []⟩ := by
  refine OpS.raw1 fun a' w hx => ?_
  obtain ⟨cs, he⟩ := exec_b1 a'.eval .len x #[tx] (dst := dst) (ty := ty) (pos := pos) (aft := aft) (gd := gd)
  rw [he]
  refine runv (s := Builtin.len_ #[tx] ty #[a'.eval x]) ?_
  rw [hx]
  simp [Builtin.len_, run_underlying hu, Sem.run_bind, goInt, B_size]
theorem OpS.len {tx e : TypeId} {x : Operand} {o : Option Nat} {n : Nat} {cs : List AV} (hu : P.underlying tx = some (.slice e)) :
    OpS P G ⟨dst, .call ⟨.builtin .len, #[x], #[tx]⟩, ty, pos, aft, gd⟩ [(x, .sl o n cs)] [] ⟨some (.v (.int .i64 (n : Int))), [], []⟩ := by
  refine OpS.still fun A ρ σ a w _ h _ hs => ⟨_, ?_, .v _⟩
  have hx := hs.ev h.1
  obtain ⟨cs, he⟩ := exec_b1 a.eval .len x #[tx] (dst := dst) (ty := ty) (pos := pos) (aft := aft) (gd := gd)
  rw [he]
  refine runv (s := Builtin.len_ #[tx] ty #[a.eval x]) ?_
  generalize a.eval x = y at hx ⊢
  cases hx
  simp [Builtin.len_, run_underlying hu, Sem.run_bind, goInt]
theorem OpS.lenA {tx e : TypeId} {x : Operand} {id off n : Nat} (hu : P.underlying tx = some (.slice e)) :
    OpS P G ⟨dst, .call ⟨.builtin .len, #[x], #[tx]⟩, ty, pos, aft, gd⟩ [(x, .arr id off n)] [] ⟨some (.v (.int .i64 (n : Int))), [], []⟩ := by
  refine OpS.still fun A ρ σ a w _ h _ hs => ⟨_, ?_, .v _⟩
  have hx := hs.ev h.1
  obtain ⟨cs, he⟩ := exec_b1 a.eval .len x #[tx] (dst := dst) (ty := ty) (pos := pos) (aft := aft) (gd := gd)
  rw [he]
  refine runv (s := Builtin.len_ #[tx] ty #[a.eval x]) ?_
  generalize a.eval x = y at hx ⊢
  cases hx
  simp [Builtin.len_, run_underlying hu, Sem.run_bind, goInt]
theorem OpS.lenN {tx e : TypeId} {x : Operand} (hu : P.underlying tx = some (.slice e)) :
    OpS P G ⟨dst, .call ⟨.builtin .len, #[x], #[tx]⟩, ty, pos, aft, gd⟩ [(x, .v (.slice none 0 0))] [] ⟨some (.v (.int .i64 0)), [], []⟩ := by
  refine OpS.raw1 fun a' w hx => ?_
  obtain ⟨cs, he⟩ := exec_b1 a'.eval .len x #[tx] (dst := dst) (ty := ty) (pos := pos) (aft := aft) (gd := gd)
  rw [he]
  refine runv (s := Builtin.len_ #[tx] ty #[a'.eval x]) ?_
  rw [hx]
  simp [Builtin.len_, run_underlying hu, Sem.run_bind, goInt]

/- a string's byte, and a string's part -/
theorem OpS.indexS {tx : TypeId} {x i : Operand} {l : List UInt8} {k : IntKind} {n : Int} {j : Nat} (hu : P.underlying tx = some .string) (hj : n.toNat = j) (h0 : 0 ≤ n) (h1 : n < (l.length : Int)) :
    OpS P G ⟨dst, .index tx x i, ty, pos, aft, gd⟩ [(x, .v (.string (B l))), (i, .v (.int k n))] [] ⟨some (.v (.int .u8 (U8 (nth l j)))), [], []⟩ := by
  subst hj
  refine OpS.raw2 fun a' w hx hi => ?_
  show (do pure (Next.value (← Instr.index tx (a'.eval x) (a'.eval i))) : Sem Next).run P w = _
  refine runv ?_
  rw [hx, hi, run_index_B' w tx l k n hu, if_pos ⟨h0, h1⟩]
theorem OpS.sliceS {tx : TypeId} {x i j : Operand} {l : List UInt8} {k k' : IntKind} {m n : Int} {m' n' : Nat} (hu : P.underlying tx = some .string) (hm : m.toNat = m') (hn : n.toNat = n') (h0 : 0 ≤ m) (h1 : m ≤ n) (h2 : n ≤ (l.length : Int)) :
    OpS P G ⟨dst, .slice tx x (some i) (some j) none, ty, pos, aft, gd⟩ [(x, .v (.string (B l))), (i, .v (.int k m)), (j, .v (.int k' n))] [] ⟨some (.v (.string (B ((l.drop m').take (n' - m'))))), [], []⟩ := by
  subst hm; subst hn
  refine OpS.raw3 fun a' w hx hi hj => ?_
  show (do pure (Next.value (← Instr.sliceAt tx (a'.eval x) (some (a'.eval i)) (some (a'.eval j)) none)) : Sem Next).run P w = _
  refine runv ?_
  rw [hx, hi, hj, run_sliceAt_string w tx _ _ _ _ hu, run_slice_string_if w tx _ k k' m n hu, if_pos ⟨by omega, by rw [B_size]; omega⟩, if_pos ⟨h0, by omega⟩, B_extract]
theorem OpS.sliceSl {tx : TypeId} {x i : Operand} {l : List UInt8} {k : IntKind} {m : Int} {m' : Nat} (hu : P.underlying tx = some .string) (hm : m.toNat = m') (h0 : 0 ≤ m) (h1 : m ≤ (l.length : Int)) :
    OpS P G ⟨dst, .slice tx x (some i) none none, ty, pos, aft, gd⟩ [(x, .v (.string (B l))), (i, .v (.int k m))] [] ⟨some (.v (.string (B (l.drop m')))), [], []⟩ := by
  subst hm
  refine OpS.raw2 fun a' w hx hi => ?_
  show (do pure (Next.value (← Instr.sliceAt tx (a'.eval x) (some (a'.eval i)) none none)) : Sem Next).run P w = _
  refine runv ?_
  rw [hx, hi, run_sliceAt_string w tx _ _ _ _ hu, run_slice_string_l w tx _ hu k m h0 (by rw [B_size]; omega), B_extract, B_size]
  rw [List.take_of_length_le (by simp)]
theorem OpS.sliceSh {tx : TypeId} {x j : Operand} {l : List UInt8} {k : IntKind} {n : Int} {n' : Nat} (hu : P.underlying tx = some .string) (hn : n.toNat = n') (h0 : 0 ≤ n) (h1 : n ≤ (l.length : Int)) :
    OpS P G ⟨dst, .slice tx x none (some j) none, ty, pos, aft, gd⟩ [(x, .v (.string (B l))), (j, .v (.int k n))] [] ⟨some (.v (.string (B (l.take n')))), [], []⟩ := by
  subst hn
  refine OpS.raw2 fun a' w hx hj => ?_
  show (do pure (Next.value (← Instr.sliceAt tx (a'.eval x) none (some (a'.eval j)) none)) : Sem Next).run P w = _
  refine runv ?_
  rw [hx, hj, run_sliceAt_string w tx _ _ _ _ hu, run_slice_string_h w tx _ hu k n h0 (by rw [B_size]; omega), B_extract]
  simp

theorem tnL (j : Nat) : Int.toNat (OfNat.ofNat j : Int) = j := rfl
theorem tnA (i j : Nat) : Int.toNat ((i : Int) + (OfNat.ofNat j : Int)) = i + j := rfl
theorem tnM (i j : Nat) : Int.toNat ((OfNat.ofNat j : Int) * (i : Int)) = j * i := rfl
theorem tnMA (i j k : Nat) : Int.toNat ((OfNat.ofNat j : Int) * (i : Int) + (OfNat.ofNat k : Int)) = j * i + k := rfl
/-- a list's element -/
def el {α : Type} [Inhabited α] (l : List α) (i : Nat) : α := (l[i]?).getD default
theorem el_get {α : Type} [Inhabited α] {l : List α} {i : Nat} (h : i < l.length) : l[i]? = some (el l i) := by simp [el, h]
/- places -/
theorem OpS.nilCheckP {x : Operand} {id off : Nat} : OpS P G ⟨dst, .nilCheck x, ty, pos, aft, gd⟩ [(x, .ptr id off)] [] ⟨some (.ptr id off), [], []⟩ := by
  refine OpS.still fun A ρ σ a w _ h _ hs => ?_
  have hx := hs.ev h.1
  refine ⟨a.eval x, ?_, hx⟩
  unfold execOp
  dsimp only
  generalize a.eval x = y at hx ⊢
  cases hx
  rfl
theorem OpS.nilCheckS {x : Operand} {cs : List AV} : OpS P G ⟨dst, .nilCheck x, ty, pos, aft, gd⟩ [(x, .sptr cs)] [] ⟨some (.sptr cs), [], []⟩ := by
  refine OpS.still fun A ρ σ a w _ h _ hs => ?_
  have hx := hs.ev h.1
  refine ⟨a.eval x, ?_, hx⟩
  unfold execOp
  dsimp only
  generalize a.eval x = y at hx ⊢
  cases hx
  rfl
theorem OpS.nilCheckG {x : Operand} {g o : Nat} : OpS P G ⟨dst, .nilCheck x, ty, pos, aft, gd⟩ [(x, .v (.pointer (some ⟨g, o, none⟩)))] [] ⟨some (.v (.pointer (some ⟨g, o, none⟩))), [], []⟩ := by
  refine OpS.raw1 fun a w hx => ?_
  unfold execOp
  dsimp only
  rw [hx]
  rfl
/-- the place of a slice's element -/
theorem OpS.indexAddr {tx e : TypeId} {inf : TypeInfo} {x i : Operand} {o : Option Nat} {n sz : Nat} {cs : List AV} {k : IntKind} {m : Int} (hu : P.underlying tx = some (.slice e)) (hi : P.info? e = some inf) (hz : inf.size = sz) (h0 : 0 ≤ m) (h1 : m < (n : Int))
    (hl : cs.length = n * sz) (hsz : 0 < sz) :
    OpS P G ⟨dst, .indexAddr tx x i, ty, pos, aft, gd⟩ [(x, .sl o n cs), (i, .v (.int k m))] [] ⟨some (.sptr ((cs.drop (m.toNat * sz)).take sz)), [], []⟩ := by
  subst hz
  refine OpS.still fun A ρ σ a w _ h _ hs => ?_
  have hx := hs.ev h.1
  have hi' := (hs.ev h.2.1).raw
  have hmn : m.toNat + 1 ≤ n := by omega
  have hmul : (m.toNat + 1) * inf.size ≤ n * inf.size := Nat.mul_le_mul_right _ hmn
  rw [Nat.add_mul, Nat.one_mul] at hmul
  have hrun : ∀ y, VRel (Nh A σ.h ρ w) ρ w (.sl o n cs) y → ∃ z, (Instr.indexAt tx y (.int k m)).run P w = .ok z w ∧ VRel (Nh A σ.h ρ w) ρ w (.sptr ((cs.drop (m.toNat * inf.size)).take inf.size)) z := by
    intro y hy
    cases hy with
    | sl o n cs ad cap vals hc hcs ho hn hz hm =>
      obtain ⟨h1', b, off, rfl, -⟩ := hc (m.toNat * inf.size) (by omega)
      refine ⟨.pointer (some ((⟨b, off, none⟩ : Addr).add (m.toNat * inf.size))), ?_, ?_⟩
      · simp [Instr.indexAt, asIntOf, run_underlying hu, Sem.run_bind, Sem.run_pure, sizeOf, typeInfo, hi, h0, h1]
      · rw [Addr.add_mid]
        refine .sptr _ b (off + m.toNat * inf.size) (fun j => vals (m.toNat * inf.size + j)) (fun j hj => ?_) (fun j c hc' => ?_)
        · have hj' : j < inf.size := by simp at hj; omega
          obtain ⟨-, b', off', he, hx', hN⟩ := hc (m.toNat * inf.size + j) (by omega)
          cases he
          rw [Nat.add_assoc]
          exact ⟨hx', hN⟩
        · rw [List.getElem?_take] at hc'
          split at hc'
          · rw [List.getElem?_drop] at hc'
            exact hcs _ c hc'
          · cases hc'
  obtain ⟨z, hz, hv⟩ := hrun _ hx
  refine ⟨z, ?_, hv⟩
  show (do pure (Next.value (← Instr.indexAt tx (a.eval x) (a.eval i))) : Sem Next).run P w = _
  refine runv ?_
  rw [hi']
  exact hz
/-- an element of one cell -/
theorem OpS.indexM {α : Type} [Inhabited α] {tx e : TypeId} {inf : TypeInfo} {x i : Operand} {o : Option Nat} {n j : Nat} {f : α → AV} {l : List α} {k : IntKind} {m : Int} (hu : P.underlying tx = some (.slice e)) (hi : P.info? e = some inf) (hz : inf.size = 1) (hj : m.toNat = j)
    (h0 : 0 ≤ m) (h1 : m < (n : Int)) (hl : n = l.length) :
    OpS P G ⟨dst, .indexAddr tx x i, ty, pos, aft, gd⟩ [(x, .sl o n (l.map f)), (i, .v (.int k m))] [] ⟨some (.sptr [f (el l j)]), [], []⟩ := by
  subst hj
  have := OpS.indexAddr (P := P) (G := G) (dst := dst) (ty := ty) (pos := pos) (aft := aft) (gd := gd) (x := x) (i := i) (o := o) (n := n) (cs := l.map f) (k := k) hu hi hz h0 h1 (by simp [hl]) (by decide)
  have hlt : m.toNat < l.length := by omega
  have he : (((l.map f).drop (m.toNat * 1)).take 1) = [f (el l m.toNat)] := by
    rw [Nat.mul_one, List.drop_eq_getElem_cons (by simpa using hlt)]
    simp [el, hlt]
  rw [he] at this
  exact this
/-- the place of an element of a row that may be written -/
theorem OpS.indexAddrA {tx e : TypeId} {inf : TypeInfo} {x i : Operand} {id off n sz : Nat} {k : IntKind} {m : Int} (hu : P.underlying tx = some (.slice e)) (hi : P.info? e = some inf) (hz : inf.size = sz) (h0 : 0 ≤ m) (h1 : m < (n : Int)) :
    OpS P G ⟨dst, .indexAddr tx x i, ty, pos, aft, gd⟩ [(x, .arr id off n), (i, .v (.int k m))] [] ⟨some (.ptr id (off + m.toNat * sz)), [], []⟩ := by
  subst hz
  refine OpS.still fun A ρ σ a w _ h _ hs => ?_
  have hx := hs.ev h.1
  have hi' := (hs.ev h.2.1).raw
  have hrun : ∀ y, VRel (Nh A σ.h ρ w) ρ w (.arr id off n) y → ∃ z, (Instr.indexAt tx y (.int k m)).run P w = .ok z w ∧ VRel (Nh A σ.h ρ w) ρ w (.ptr id (off + m.toNat * inf.size)) z := by
    intro y hy
    cases hy with
    | arr id off n cap b hb hn hm =>
      refine ⟨.pointer (some ((⟨b, off, none⟩ : Addr).add (m.toNat * inf.size))), ?_, ?_⟩
      · simp [Instr.indexAt, asIntOf, run_underlying hu, Sem.run_bind, Sem.run_pure, sizeOf, typeInfo, hi, h0, h1]
      · rw [Addr.add_mid]
        exact .ptr id _ b hb
  obtain ⟨z, hz, hv⟩ := hrun _ hx
  refine ⟨z, ?_, hv⟩
  show (do pure (Next.value (← Instr.indexAt tx (a.eval x) (a.eval i))) : Sem Next).run P w = _
  refine runv ?_
  rw [hi']
  exact hz
/-- the place of an array's element -/
theorem OpS.indexAddrP {tx e : TypeId} {inf : TypeInfo} {x i : Operand} {id off n sz : Nat} {k : IntKind} {m : Int} (hu : P.underlying tx = some (.array n e)) (hi : P.info? e = some inf) (hz : inf.size = sz) (h0 : 0 ≤ m) (h1 : m < (n : Int)) :
    OpS P G ⟨dst, .indexAddr tx x i, ty, pos, aft, gd⟩ [(x, .ptr id off), (i, .v (.int k m))] [] ⟨some (.ptr id (off + m.toNat * sz)), [], []⟩ := by
  subst hz
  refine OpS.still fun A ρ σ a w _ h _ hs => ?_
  have hx := hs.ev h.1
  have hi' := (hs.ev h.2.1).raw
  have hrun : ∀ y, VRel (Nh A σ.h ρ w) ρ w (.ptr id off) y → ∃ z, (Instr.indexAt tx y (.int k m)).run P w = .ok z w ∧ VRel (Nh A σ.h ρ w) ρ w (.ptr id (off + m.toNat * inf.size)) z := by
    intro y hy
    cases hy with
    | ptr id off b hb =>
      refine ⟨.pointer (some ((⟨b, off, none⟩ : Addr).add (m.toNat * inf.size))), ?_, ?_⟩
      · simp [Instr.indexAt, Instr.sureAddr, asIntOf, run_underlying hu, Sem.run_bind, Sem.run_pure, sizeOf, typeInfo, hi, h0, h1]
      · rw [Addr.add_mid]
        exact .ptr id _ b hb
  obtain ⟨z, hz, hv⟩ := hrun _ hx
  refine ⟨z, ?_, hv⟩
  show (do pure (Next.value (← Instr.indexAt tx (a.eval x) (a.eval i))) : Sem Next).run P w = _
  refine runv ?_
  rw [hi']
  exact hz
theorem OpS.indexAddrG {tx e : TypeId} {inf : TypeInfo} {x i : Operand} {g off n sz : Nat} {k : IntKind} {m : Int} (hu : P.underlying tx = some (.array n e)) (hi : P.info? e = some inf) (hz : inf.size = sz) (h0 : 0 ≤ m) (h1 : m < (n : Int)) :
    OpS P G ⟨dst, .indexAddr tx x i, ty, pos, aft, gd⟩ [(x, .v (.pointer (some ⟨g, off, none⟩))), (i, .v (.int k m))] [] ⟨some (.v (.pointer (some ⟨g, off + m.toNat * sz, none⟩))), [], []⟩ := by
  subst hz
  refine OpS.raw2 fun a w hx hi' => ?_
  show (do pure (Next.value (← Instr.indexAt tx (a.eval x) (a.eval i))) : Sem Next).run P w = _
  refine runv ?_
  rw [hx, hi', ← Addr.add_mid]
  simp [Instr.indexAt, Instr.sureAddr, asIntOf, run_underlying hu, Sem.run_bind, Sem.run_pure, sizeOf, typeInfo, hi, h0, h1]
end
end Go.Proofs.YtmifllopcbjliaaDoor.E
