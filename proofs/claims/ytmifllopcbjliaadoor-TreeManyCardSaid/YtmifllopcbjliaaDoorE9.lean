/- New memory: variables, literals, made slices; parts of structs; texts and bytes; closures. -/
import Derived.Test.YtmifllopcbjliaaDoorE8
namespace Go.Proofs.YtmifllopcbjliaaDoor.E
open Go Go.RowKit Go.Proofs.YtmifllopcbjliaaDoor.V

/-- the cells of a value -/
def cellsA : AV → List AV
  | .agg cs => cs
  | .v (.agg arr) => arr.toList.map .v
  | x => [x]
theorem cellsA_rel {N : Nat → Nat → Prop} {ρ : Env} {w : World} {y : AV} {x : Value} (h : VRel N ρ w y x) : x.cells.size = (cellsA y).length ∧ ∀ (j : Nat) (c : AV) (v : Value), (cellsA y)[j]? = some c → x.cells[j]? = some v → VRel N ρ w c v := by
  have one : ∀ (y : AV) (x : Value), VRel N ρ w y x → x.cells = #[x] → x.cells.size = [y].length ∧ ∀ (j : Nat) (c : AV) (v : Value), [y][j]? = some c → x.cells[j]? = some v → VRel N ρ w c v := by
    intro y x h hx
    rw [hx]
    refine ⟨rfl, fun j c v hc hv => ?_⟩
    match j with
    | 0 => simp at hc hv; subst hc; subst hv; exact h
    | j + 1 => simp at hc
  cases h with
  | v x =>
    cases x <;> first
      | exact one _ _ (.v _) rfl
      | (refine ⟨by simp [Value.cells, cellsA], fun j c v hc hv => ?_⟩
         simp only [cellsA, List.getElem?_map] at hc
         simp only [Value.cells] at hv
         rw [Array.getElem?_toList, hv] at hc
         cases hc
         exact .v _)
  | agg cs vs hs h => exact ⟨hs, h⟩
  | tup cs vs hs h => exact one _ _ (.tup cs vs hs h) rfl
  | sl o n cs a cap vals hc h ho hn hz hm => exact one _ _ (.sl o n cs a cap vals hc h ho hn hz hm) rfl
  | arr id off n cap b hb hn hm => exact one _ _ (.arr id off n cap b hb hn hm) rfl
  | ptr id off b hb => exact one _ _ (.ptr id off b hb) rfl
  | sptr cs b off vals hc h => exact one _ _ (.sptr cs b off vals hc h) rfl
  | fn f fs cs vs us hs h hs' h' => exact one _ _ (.fn f fs cs vs us hs h hs' h') rfl

def splice {α : Type} (l : List α) (off : Nat) (d : List α) : List α := l.take off ++ d ++ l.drop (off + d.length)
theorem splice_len {α : Type} (l : List α) (off : Nat) (d : List α) (h : off + d.length ≤ l.length) : (splice l off d).length = l.length := by simp [splice]; omega
theorem splice_get {α : Type} (l : List α) (off : Nat) (d : List α) (j : Nat) (h : off + d.length ≤ l.length) : (splice l off d)[j]? = if off ≤ j ∧ j < off + d.length then d[j - off]? else l[j]? := by
  unfold splice
  have hlen : (l.take off).length = off := by simp; omega
  by_cases h1 : j < off
  · rw [List.append_assoc, List.getElem?_append_left (by omega), List.getElem?_take_of_lt h1, if_neg (by omega)]
  · by_cases h2 : j < off + d.length
    · rw [List.getElem?_append_left (by simp; omega), List.getElem?_append_right (by omega), hlen, if_pos ⟨by omega, h2⟩]
    · rw [List.getElem?_append_right (by simp; omega), List.getElem?_drop, if_neg (by omega)]
      congr 1
      simp; omega

theorem foldl_set (d : List Value) : ∀ (off : Nat) (k : Nat) (cells : Array Value), off + k + d.length ≤ cells.size →
    (d.zipIdx k).foldl (fun (cs : Array Value) (p : Value × Nat) => cs.setIfInBounds (off + p.2) p.1) cells = (splice cells.toList (off + k) d).toArray := by
  induction d with
  | nil => intro off k cells _; simp [splice]
  | cons x d ih =>
    intro off k cells h
    simp only [List.length_cons] at h
    rw [List.zipIdx_cons, List.foldl_cons, ih off (k + 1) _ (by simp; omega)]
    apply congrArg
    apply List.ext_getElem?
    intro j
    rw [splice_get _ _ _ _ (by simp; omega), splice_get _ _ _ _ (by simp; omega)]
    simp only [List.length_cons]
    by_cases h1 : j = off + k
    · subst h1
      rw [if_neg (by omega), if_pos ⟨by omega, by omega⟩, Array.getElem?_toList, Array.getElem?_setIfInBounds_self_of_lt (by omega)]
      simp
    · by_cases h2 : off + (k + 1) ≤ j ∧ j < off + (k + 1) + d.length
      · rw [if_pos h2, if_pos ⟨by omega, by omega⟩, show j - (off + k) = j - (off + (k + 1)) + 1 by omega, List.getElem?_cons_succ]
      · rw [if_neg h2, if_neg (by omega), Array.getElem?_toList, Array.getElem?_toList, Array.getElem?_setIfInBounds_ne (by omega)]

/-- parts laid over noughts -/
def fillA (place : Nat → Option (Nat × Nat)) (cells : List AV) : List (Nat × AV) → Option (List AV)
  | [] => some cells
  | (i, y) :: rest => match place i with
    | none => none
    | some (off, size) => bif Nat.beq (cellsA y).length size && Nat.ble (off + (cellsA y).length) cells.length then fillA place (splice cells off (cellsA y)) rest else none
theorem fill_rel {N : Nat → Nat → Prop} {ρ : Env} {w : World} {place : Nat → Option (Nat × Nat)} : ∀ (ps : List (Nat × AV)) (vs : List (Nat × Value)) (cs cs' : List AV) (arr : Array Value), fillA place cs ps = some cs' → ps.map (·.1) = vs.map (·.1) →
    (∀ (j : Nat) (p : Nat × AV) (q : Nat × Value), ps[j]? = some p → vs[j]? = some q → VRel N ρ w p.2 q.2) → arr.size = cs.length → (∀ (j : Nat) (c : AV) (v : Value), cs[j]? = some c → arr[j]? = some v → VRel N ρ w c v) →
    ∃ arr', Instr.fill place arr vs = some arr' ∧ arr'.size = cs'.length ∧ ∀ (j : Nat) (c : AV) (v : Value), cs'[j]? = some c → arr'[j]? = some v → VRel N ρ w c v
  | [], [], cs, cs', arr, hf, _, _, hs, hr => by cases hf; exact ⟨arr, rfl, hs, hr⟩
  | (i, y) :: ps, (i', x) :: vs, cs, cs', arr, hf, hk, hv, hs, hr => by
    simp only [List.map_cons, List.cons.injEq] at hk
    obtain ⟨hii, hk⟩ := hk
    subst hii
    simp only [fillA] at hf
    cases hpl : place i with
    | none => rw [hpl] at hf; cases hf
    | some os =>
      obtain ⟨off, size⟩ := os
      rw [hpl] at hf
      dsimp only at hf
      cases hb : Nat.beq (cellsA y).length size && Nat.ble (off + (cellsA y).length) cs.length with
      | false => rw [hb] at hf; cases hf
      | true =>
        rw [hb] at hf
        simp only [Bool.and_eq_true, Nat.beq_eq, Nat.ble_eq] at hb
        obtain ⟨hb1, hb2⟩ := hb
        have hxy : VRel N ρ w y x := hv 0 (i, y) (i, x) rfl rfl
        obtain ⟨k1, k2⟩ := cellsA_rel hxy
        have hsp : x.cells.zipIdx.foldl (fun (cs : Array Value) (p : Value × Nat) => cs.setIfInBounds (off + p.2) p.1) arr = (splice arr.toList off x.cells.toList).toArray := by
          have := foldl_set x.cells.toList off 0 arr (by simp [k1, hs]; omega)
          rw [Nat.add_zero] at this
          rw [← this, ← Array.foldl_toList, Array.toList_zipIdx]
        obtain ⟨arr', m1, m2, m3⟩ := fill_rel ps vs _ cs' (splice arr.toList off x.cells.toList).toArray hf hk (fun j p q hp hq => hv (j + 1) p q (by simpa using hp) (by simpa using hq))
          (by rw [List.size_toArray, splice_len _ _ _ (by simp [k1, hs]; omega), splice_len _ _ _ (by omega)]; simpa using hs) (fun j c v hc hv' => by
            rw [splice_get _ _ _ _ (by omega)] at hc
            rw [List.getElem?_toArray, splice_get _ _ _ _ (by simp [k1, hs]; omega)] at hv'
            simp only [Array.length_toList, k1] at hv'
            split at hc
            · rename_i hin
              rw [if_pos hin] at hv'
              exact k2 _ c v hc (by simpa using hv')
            · rename_i hin
              rw [if_neg hin] at hv'
              exact hr j c v hc (by simpa using hv'))
        refine ⟨arr', ?_, m2, m3⟩
        simp only [Instr.fill, hpl]
        rw [if_neg (by simp only [Bool.or_eq_true, decide_eq_true_eq, not_or]; omega)]
        have hsp' : (x.cells.zipIdx.foldl (fun cs (c, j) => cs.setIfInBounds (off + j) c) arr) = (splice arr.toList off x.cells.toList).toArray := hsp
        rw [hsp']
        exact m1
  | [], _ :: _, _, _, _, _, hk, _, _, _ => by simp at hk
  | _ :: _, [], _, _, _, _, hk, _, _, _ => by simp at hk

/-- operands' values, one by one -/
inductive EvL (σ : AS) : List Operand → List AV → Prop
  | nil : EvL σ [] []
  | cons {x : Operand} {y : AV} {xs : List Operand} {ys : List AV} (h : σ.ev x = some y) (r : EvL σ xs ys) : EvL σ (x :: xs) (y :: ys)
theorem EvL.ok {σ : AS} {xs : List Operand} {ys : List AV} (h : EvL σ xs ys) : SlOk σ (xs.zip ys) ∧ xs.length = ys.length := by
  induction h with
  | nil => exact ⟨trivial, rfl⟩
  | cons h r ih => exact ⟨⟨h, ih.1⟩, by simp [ih.2]⟩

inductive EvP (σ : AS) : List (Nat × Operand) → List AV → Prop
  | nil : EvP σ [] []
  | cons {k : Nat} {x : Operand} {y : AV} {xs : List (Nat × Operand)} {ys : List AV} (h : σ.ev x = some y) (r : EvP σ xs ys) : EvP σ ((k, x) :: xs) (y :: ys)
theorem EvP.ok {σ : AS} {xs : List (Nat × Operand)} {ys : List AV} (h : EvP σ xs ys) : SlOk σ ((xs.map (·.2)).zip ys) ∧ xs.length = ys.length := by
  induction h with
  | nil => exact ⟨trivial, rfl⟩
  | cons h r ih => exact ⟨⟨h, ih.1⟩, by simp [ih.2]⟩

/-- a new block that nobody writes, seen as a slice -/
theorem new_slice {A : Amb} {ρ : Env} {h : Nat → Option AO} {u : Nat → Bool} {w w' : World} (H : HSat A ρ h u w) (os : w'.os = w.os) (tape : w'.tape = w.tape) (output : w'.output = w.output) (hsz : w'.heap.size = w.heap.size + 1)
    (other : ∀ k, k < w.heap.size → w'.heap[k]? = w.heap[k]?) {arr : Array Value} {T : TypeId} {fz : Nat × Nat} (hnew : w'.heap[w.heap.size]? = some (.cells arr T fz)) {cs : List AV} {n cap : Nat} (hl : cs.length ≤ arr.size) (hn : n ≤ cap) (hm : cap ≤ maxLen)
    (hc : ∀ (j : Nat) (c : AV) (v : Value), cs[j]? = some c → arr[j]? = some v → VRel (Nh A h ρ w) ρ w c v ∧ v.oneCell' = true) :
    HSat A ρ h u w' ∧ (∀ av x, VRel (Nh A h ρ w) ρ w av x → VRel (Nh A h ρ w') ρ w' av x) ∧ VRel (Nh A h ρ w') ρ w' (.sl none n cs) (.slice (some ⟨w.heap.size, 0, none⟩) n cap) := by
  obtain ⟨h1, h2, h3⟩ := H.grow os tape output (by omega) other
  refine ⟨h1, h2, .sl none n cs _ cap (fun i => arr.getD i undef) (fun i hi => ?_) (fun i c hi => ?_) (fun k hk => by cases hk) hn (fun h => by cases h) hm⟩
  · have hlt : i < arr.size := by omega
    have hv := hc i _ arr[i] (List.getElem?_eq_getElem hi) (Array.getElem?_eq_getElem hlt)
    have hgd : arr.getD i undef = arr[i] := by simp [Array.getD_eq_getD_getElem?, hlt]
    refine ⟨by rw [hgd]; exact hv.2, w.heap.size, 0, rfl, ?_, h3 _ _ (Nat.le_refl _) (by omega)⟩
    rw [cell_of_row w' w.heap.size (0 + i) arr T fz hnew, Nat.zero_add, hgd]
    exact Array.getElem?_eq_getElem hlt
  · have hi' := (List.getElem?_eq_some_iff.1 hi).1
    have hlt : i < arr.size := by omega
    have hgd : arr.getD i undef = arr[i] := by simp [Array.getD_eq_getD_getElem?, hlt]
    rw [hgd]
    exact h2 _ _ (hc i c _ hi (Array.getElem?_eq_getElem hlt)).1

/-- a new block with a name -/
theorem new_cells {A : Amb} {ρ : Env} {h : Nat → Option AO} {u : Nat → Bool} {w w' : World} (H : HSat A ρ h u w) {id : Nat} (hu : u id = false) (os : w'.os = w.os) (tape : w'.tape = w.tape) (output : w'.output = w.output) (hsz : w'.heap.size = w.heap.size + 1)
    (other : ∀ k, k < w.heap.size → w'.heap[k]? = w.heap[k]?) {arr : Array Value} {T : TypeId} (hnew : w'.heap[w.heap.size]? = some (.cells arr T (0, 0))) {cs : List AV} (hl : cs.length ≤ arr.size)
    (hc : ∀ (j : Nat) (c : AV) (v : Value), cs[j]? = some c → arr[j]? = some v → VRel (Nh A h ρ w) ρ w c v ∧ v.oneCell' = true) :
    ∃ ρ', HSat A ρ' (upd h id (some (.cells T cs))) (nuU u [id]) w' ∧ (∀ av x, VRel (Nh A h ρ w) ρ w av x → VRel (Nh A (upd h id (some (.cells T cs))) ρ' w') ρ' w' av x) ∧ ρ'.blk id = some w.heap.size := by
  let ρ' : Env := ⟨upd ρ.blk id (some w.heap.size), ρ.tip⟩
  have hid : ρ'.blk id = some w.heap.size := upd_same _ _ _
  obtain ⟨h1, h2⟩ := H.extend (ρ' := ρ') (ob := .cells T cs) (w' := w') hu (fun i hi => ⟨upd_ne _ _ hi, rfl⟩) os tape output (by omega) other (fun b hb => by
    have hb' : ρ'.blk id = some b := hb
    rw [hid] at hb'
    cases hb'
    exact Nat.le_refl _) (fun hV => ⟨_, arr, hid, hnew, hl, fun j c v h1 h2 => ⟨hV _ _ (hc j c v h1 h2).1, (hc j c v h1 h2).2⟩⟩)
  exact ⟨ρ', h1, h2, hid⟩

section
variable {P : Program} {G : List (Nat × Array Value)} {dst : Option Tmp} {ty : TypeId} {pos : String} {aft : Array Edge} {gd : Option (Nat × Bool)}

/-- a variable, at its type's nought -/
theorem OpS.alloc {T : TypeId} {inf : TypeInfo} {z : Value} (id : Nat) (hi : P.info? T = some inf) (hz : inf.zero = some z) (h1 : (z.cells.toList.all fun v => v.oneCell') = true) :
    OpS P G ⟨dst, .alloc T, ty, pos, aft, gd⟩ [] [] ⟨some (.ptr id 0), [(id, some (.cells T (z.cells.toList.map .v)))], [id]⟩ := by
  refine OpS.act fun A ρ σ a w _ h hp hu hs => ?_
  obtain ⟨ρ', k1, k2, k3⟩ := new_cells (w' := w.alloc (.cells z.cells T)) (T := T) (cs := z.cells.toList.map .v) hs.mem hu.1 rfl rfl rfl (by simp) (fun k hk => Below.heap_alloc w _ k hk) (heap_alloc_new w _) (by simp) (fun j c v hc hv => by
    rw [List.getElem?_map, Array.getElem?_toList, hv] at hc
    cases hc
    exact ⟨.v _, List.all_eq_true.1 h1 v (Array.mem_toList_iff.2 (Array.mem_of_getElem? hv))⟩)
  refine ⟨.pointer (some ⟨w.heap.size, 0, none⟩), w.alloc (.cells z.cells T), ρ', .inl ?_, k1, k2, fun v hv => by cases hv; exact .ptr id 0 _ k3⟩
  refine runv (s := Instr.alloc T true (.tuple #[])) ?_
  simp [Instr.alloc, newVar, newRow, zeroValue, typeInfo, hi, hz, Sem.run_bind, Sem.run_pure, Result.andThen_ok]
/-- a variable with a value -/
theorem OpS.box {T : TypeId} {x : Operand} {y : AV} (id : Nat) (h1 : ((cellsA y).all fun c => c.one) = true) :
    OpS P G ⟨dst, .box T x, ty, pos, aft, gd⟩ [(x, y)] [] ⟨some (.ptr id 0), [(id, some (.cells T (cellsA y)))], [id]⟩ := by
  refine OpS.act fun A ρ σ a w _ h hp hu hs => ?_
  obtain ⟨c1, c2⟩ := cellsA_rel (hs.ev h.1)
  obtain ⟨ρ', k1, k2, k3⟩ := new_cells (w' := w.alloc (.cells (a.eval x).cells T)) (T := T) (cs := cellsA y) hs.mem hu.1 rfl rfl rfl (by simp) (fun k hk => Below.heap_alloc w _ k hk) (heap_alloc_new w _) (by rw [c1]; exact Nat.le_refl _) (fun j c v hc hv =>
    ⟨c2 j c v hc hv, (c2 j c v hc hv).oneCell (List.all_eq_true.1 h1 c (List.mem_of_getElem? hc))⟩)
  refine ⟨.pointer (some ⟨w.heap.size, 0, none⟩), w.alloc (.cells (a.eval x).cells T), ρ', .inl ?_, k1, k2, fun v hv => by cases hv; exact .ptr id 0 _ k3⟩
  refine runv (s := Instr.box T (a.eval x)) ?_
  simp [Instr.box, newVar, newRow, Sem.run_bind, Sem.run_pure, Result.andThen_ok]
end
end Go.Proofs.YtmifllopcbjliaaDoor.E
