/- Loads; parts; what is written into an entry; a new entry. -/
import Derived.Test.YtmifllopcbjliaaDoorE6
namespace Go.Proofs.YtmifllopcbjliaaDoor.E
open Go Go.RowKit Go.Proofs.YtmifllopcbjliaaDoor.V

def AV.one : AV → Bool
  | .v x => x.oneCell'
  | .agg _ | .tup _ => false
  | _ => true
theorem VRel.oneCell {N : Nat → Nat → Prop} {ρ : Env} {w : World} {c : AV} {x : Value} (h : VRel N ρ w c x) (h1 : c.one = true) : x.oneCell' = true := by
  cases h <;> first | exact h1 | rfl | cases h1

/-- an entry's content is written anew -/
theorem HSat.write {A : Amb} {ρ : Env} {h : Nat → Option AO} {u : Nat → Bool} {w w' : World} (H : HSat A ρ h u w) {id b : Nat} {T : TypeId} {cs cs' : List AV} (hi : h id = some (.cells T cs)) (hb : ρ.blk id = some b)
    (os : w'.os = w.os) (tape : w'.tape = w.tape) (output : w'.output = w.output) (size : w.heap.size ≤ w'.heap.size) (other : ∀ k, k < w.heap.size → k ≠ b → w'.heap[k]? = w.heap[k]?) {arr' : Array Value} (hnew : w'.heap[b]? = some (.cells arr' T (0, 0)))
    (hlen : cs'.length ≤ arr'.size) (hc : ∀ (j : Nat) (c : AV) (x : Value), cs'[j]? = some c → arr'[j]? = some x → VRel (Nh A h ρ w) ρ w c x ∧ x.oneCell' = true) :
    HSat A ρ (upd h id (some (.cells T cs'))) u w' ∧ ∀ av x, VRel (Nh A h ρ w) ρ w av x → VRel (Nh A (upd h id (some (.cells T cs'))) ρ w') ρ w' av x := by
  have hat : ∀ i ob b', upd h id (some (AO.cells T cs')) i = some ob → ob.at_ ρ i b' → ∃ oj, h i = some oj ∧ oj.at_ ρ i b' := by
    intro i ob b' hi' hat
    rcases upd_eq_some hi' with ⟨rfl, he⟩ | ⟨hne, he⟩
    · cases he; exact ⟨_, hi, hat⟩
    · exact ⟨_, he, hat⟩
  refine H.next os tape output size (fun i hu => ⟨hu, rfl, rfl⟩) H.usedB H.usedT ?_ ?_ ?_ ?_ ?_ ?_
  · intro k hk hno
    exact other k hk (fun e => hno id _ hi (by rw [e]; exact hb))
  · intro b' o hn
    refine World.cell?_of_block (w := w) (other b' hn.1 (fun e => hn.2.2 id _ hi (by rw [e]; exact hb)))
  · intro i ob b' o hi' hw
    rcases upd_eq_some hi' with ⟨rfl, he⟩ | ⟨hne, he⟩
    · cases he; exact .inl ⟨_, _, hi, hw⟩
    · exact .inl ⟨_, _, he, hw⟩
  · intro i ob b' hi' hw
    obtain ⟨oj, hj, hwj⟩ := hat i ob b' hi' hw
    exact .inl ⟨_, oj, hj, hwj⟩
  · intro i j oi oj b' h1 h2 h3 h4
    obtain ⟨_, k1, k2⟩ := hat i oi b' h1 h3
    obtain ⟨_, k3, k4⟩ := hat j oj b' h2 h4
    exact H.sep i j _ _ b' k1 k3 k2 k4
  · intro hV i ob hi'
    rcases upd_eq_some hi' with ⟨rfl, he⟩ | ⟨hne, he⟩
    · cases he
      exact ⟨b, arr', hb, hnew, hlen, fun j c x h1 h2 => ⟨hV _ _ (hc j c x h1 h2).1, (hc j c x h1 h2).2⟩⟩
    · refine (H.heap i ob he).keep (Env.le_refl ρ) hV fun b' hb' => other b' ((H.heap i ob he).lt hb') ?_
      rintro rfl
      exact hne (H.sep i id ob _ b' he hi hb' hb)

/-- a new entry, on a new block -/
theorem HSat.extend {A : Amb} {ρ ρ' : Env} {h : Nat → Option AO} {u : Nat → Bool} {w w' : World} (H : HSat A ρ h u w) {id : Nat} {ob : AO} (hu : u id = false)
    (hρ : ∀ i, i ≠ id → ρ'.blk i = ρ.blk i ∧ ρ'.tip i = ρ.tip i) (os : w'.os = w.os) (tape : w'.tape = w.tape) (output : w'.output = w.output) (size : w.heap.size ≤ w'.heap.size) (other : ∀ k, k < w.heap.size → w'.heap[k]? = w.heap[k]?)
    (hat : ∀ b, ob.at_ ρ' id b → w.heap.size ≤ b) (ho : (∀ av x, VRel (Nh A h ρ w) ρ w av x → VRel (Nh A (upd h id (some ob)) ρ' w') ρ' w' av x) → ORel (Nh A (upd h id (some ob)) ρ' w') ρ' w' id ob) :
    HSat A ρ' (upd h id (some ob)) (nuU u [id]) w' ∧ ∀ av x, VRel (Nh A h ρ w) ρ w av x → VRel (Nh A (upd h id (some ob)) ρ' w') ρ' w' av x := by
  have hne : ∀ i, u i = true → i ≠ id := fun i hi e => by subst e; rw [hu] at hi; cases hi
  have hle : ρ.le ρ' := ⟨fun i b hb => by rw [(hρ i (hne i (H.usedB i b hb))).1]; exact hb, fun i b hb => by rw [(hρ i (hne i (H.usedT i b hb))).2]; exact hb⟩
  refine H.next os tape output size (fun i hi => ⟨by rw [nuU_eq, hi]; rfl, hρ i (hne i hi)⟩) ?_ ?_ (fun k hk _ => other k hk) (fun b o hn => World.cell?_of_block (w := w) (other b hn.1)) ?_ ?_ ?_ ?_
  · intro i b hb
    rw [nuU_eq]
    by_cases hi : i = id
    · subst hi; simp
    · rw [(hρ i hi).1] at hb; rw [H.usedB i b hb]; rfl
  · intro i b hb
    rw [nuU_eq]
    by_cases hi : i = id
    · subst hi; simp
    · rw [(hρ i hi).2] at hb; rw [H.usedT i b hb]; rfl
  · intro i oi b o hi hw
    rcases upd_eq_some hi with ⟨rfl, he⟩ | ⟨hn, he⟩
    · cases he; exact .inr (hat b (AO.at_of_wr hw))
    · exact .inl ⟨i, oi, he, (H.heap i oi he).wr_back hle hw⟩
  · intro i oi b hi hw
    rcases upd_eq_some hi with ⟨rfl, he⟩ | ⟨hn, he⟩
    · cases he; exact .inr (hat b hw)
    · exact .inl ⟨i, oi, he, (H.heap i oi he).at_back hle hw⟩
  · intro i j oi oj b hi hj h1 h2
    rcases upd_eq_some hi with ⟨rfl, he⟩ | ⟨hn, he⟩ <;> rcases upd_eq_some hj with ⟨rfl, he'⟩ | ⟨hn', he'⟩
    · rfl
    · cases he
      have := (H.heap j oj he').lt ((H.heap j oj he').at_back hle h2)
      have := hat b h1
      omega
    · cases he'
      have := (H.heap i oi he).lt ((H.heap i oi he).at_back hle h1)
      have := hat b h2
      omega
    · exact H.sep i j oi oj b he he' ((H.heap i oi he).at_back hle h1) ((H.heap j oj he').at_back hle h2)
  · intro hV i oi hi
    rcases upd_eq_some hi with ⟨rfl, he⟩ | ⟨hn, he⟩
    · cases he; exact ho hV
    · exact (H.heap i oi he).keep hle hV fun b hb => other b ((H.heap i oi he).lt hb)

/-- blocks that nobody ever writes come into being -/
theorem HSat.grow {A : Amb} {ρ : Env} {h : Nat → Option AO} {u : Nat → Bool} {w w' : World} (H : HSat A ρ h u w) (os : w'.os = w.os) (tape : w'.tape = w.tape) (output : w'.output = w.output) (size : w.heap.size ≤ w'.heap.size)
    (other : ∀ k, k < w.heap.size → w'.heap[k]? = w.heap[k]?) : HSat A ρ h u w' ∧ (∀ av x, VRel (Nh A h ρ w) ρ w av x → VRel (Nh A h ρ w') ρ w' av x) ∧ ∀ b o, w.heap.size ≤ b → b < w'.heap.size → Nh A h ρ w' b o := by
  obtain ⟨h1, h2⟩ := H.next (h' := h) (u' := u) (ρ' := ρ) os tape output size (fun i hi => ⟨hi, rfl, rfl⟩) H.usedB H.usedT (fun k hk _ => other k hk) (fun b o hn => World.cell?_of_block (w := w) (other b hn.1)) (fun i ob b o hi hw => .inl ⟨i, ob, hi, hw⟩)
    (fun i ob b hi hw => .inl ⟨i, ob, hi, hw⟩) H.sep (fun hV i ob hi => (H.heap i ob hi).keep (Env.le_refl ρ) hV fun b hb => other b ((H.heap i ob hi).lt hb))
  refine ⟨h1, h2, fun b o hb hb' => ⟨hb', .inr (.inr (Nat.le_trans H.size hb)), fun i ob hi hw => ?_⟩⟩
  have := (H.heap i ob hi).lt (AO.at_of_wr hw)
  omega

/-- an operation that writes: what the next state is -/
theorem OpS.act {P : Program} {G : List (Nat × Array Value)} {o : Oper} {sl : List (Operand × AV)} {hp : List (Nat × AO)} {e : Eff}
    (h : ∀ (A : Amb) (ρ : Env) (σ : AS) (a : Act) (w : World), A.G = G → SlOk σ sl → HpOk σ hp → NuOk σ e.nu → Sat A ρ σ a w → ∃ x w' ρ', ((execOp a.eval o).run P w = .ok (.value x) w' ∨ ((execOp a.eval o).run P w = .ok .skip w' ∧ x = undef)) ∧
      HSat A ρ' (chs σ.h e.ch) (nuU σ.u e.nu) w' ∧ (∀ av y, VRel (Nh A σ.h ρ w) ρ w av y → VRel (Nh A (chs σ.h e.ch) ρ' w') ρ' w' av y) ∧ ∀ v, e.val = some v → VRel (Nh A (chs σ.h e.ch) ρ' w') ρ' w' v x) : OpS P G o sl hp e := by
  constructor
  intro A ρ σ a w K Q hG h1 h2 h3 hd hs hK
  obtain ⟨x, w', ρ', hr, hH, hV, hx⟩ := h A ρ σ a w hG h1 h2 h3 hs
  have fin := hK _ _ ρ' (hs.put hd (x := x) (e := e) hH hV hx)
  unfold Oper.wp
  rcases hr with hr | ⟨hr, rfl⟩ <;> rw [hr] <;> exact fin

section
variable {P : Program} {G : List (Nat × Array Value)} {dst : Option Tmp} {ty : TypeId} {pos : String} {aft : Array Edge} {gd : Option (Nat × Bool)}

theorem run_isAgg {t : TypeId} {d : TypeDesc} (hu : P.underlying t = some d) (w : World) : (isAgg t).run P w = .ok d.isRow w := by
  unfold isAgg
  rw [Sem.run_bind, run_underlying hu w]
  cases d <;> rfl
theorem run_load1 {t : TypeId} {d : TypeDesc} (hu : P.underlying t = some d) (hd : d.isRow = false) {w : World} {a : Addr} {x : Value} (hc : w.cell? a = some x) : (Instr.loadAt t (.pointer (some a))).run P w = .ok x w := by
  simp [Instr.loadAt, Instr.sureAddr, loadVar, Sem.run_bind, run_isAgg hu, hd, load, Sem.run, hc]

/-- load: an element of a row that nobody writes -/
theorem OpS.loadS {t : TypeId} {d : TypeDesc} {x : Operand} {c : AV} (hu : P.underlying t = some d) (hd : d.isRow = false) :
    OpS P G ⟨dst, .load t x, ty, pos, aft, gd⟩ [(x, .sptr [c])] [] ⟨some c, [], []⟩ := by
  refine OpS.still fun A ρ σ a w _ h _ hs => ?_
  have hx := hs.ev h.1
  have hrun : ∀ y, VRel (Nh A σ.h ρ w) ρ w (.sptr [c]) y → ∃ z, (Instr.loadAt t y).run P w = .ok z w ∧ VRel (Nh A σ.h ρ w) ρ w c z := by
    intro y hy
    cases hy with
    | sptr cs b off vals hc hcs => exact ⟨vals 0, run_load1 hu hd (hc 0 (by simp)).1, hcs 0 c rfl⟩
  obtain ⟨z, hz, hv⟩ := hrun _ hx
  exact ⟨z, runv (s := Instr.loadAt t (a.eval x)) hz, hv⟩
theorem OpS.loadSA {t : TypeId} {d : TypeDesc} {x : Operand} {cs : List AV} (hu : P.underlying t = some d) (hd : d.isRow = true) (hi : (P.info? t).map (·.size) = some cs.length) :
    OpS P G ⟨dst, .load t x, ty, pos, aft, gd⟩ [(x, .sptr cs)] [] ⟨some (.agg cs), [], []⟩ := by
  refine OpS.still fun A ρ σ a w _ h _ hs => ?_
  have hx := hs.ev h.1
  have hrun : ∀ y, VRel (Nh A σ.h ρ w) ρ w (.sptr cs) y → ∃ z, (Instr.loadAt t y).run P w = .ok z w ∧ VRel (Nh A σ.h ρ w) ρ w (.agg cs) z := by
    intro y hy
    cases hy with
    | sptr cs b off vals hc hcs =>
      refine ⟨_, run_loadAt_mid w b off t ((List.range cs.length).map vals) d (fun j v hj => ?_) hu hd (by simpa using hi), ?_⟩
      · rw [List.getElem?_map] at hj
        cases hr : (List.range cs.length)[j]? with
        | none => rw [hr] at hj; cases hj
        | some k =>
          rw [hr] at hj
          have hk := List.getElem?_eq_some_iff.1 hr
          obtain ⟨hk1, hk2⟩ := hk
          simp at hk1 hk2
          subst hk2
          cases hj
          exact (hc j hk1).1
      · refine .agg cs _ (by simp) (fun i c x hc' hx' => ?_)
        have hi' := (List.getElem?_eq_some_iff.1 hc').1
        have hx2 : x = vals i := by simpa [hi'] using hx'.symm
        rw [hx2]
        exact hcs i c hc'
  obtain ⟨z, hz, hv⟩ := hrun _ hx
  exact ⟨z, runv (s := Instr.loadAt t (a.eval x)) hz, hv⟩
/-- load: a cell of an entry -/
theorem OpS.loadP {t T : TypeId} {d : TypeDesc} {x : Operand} {id off : Nat} {cs : List AV} {c : AV} (hu : P.underlying t = some d) (hd : d.isRow = false) (hc : cs[off]? = some c) :
    OpS P G ⟨dst, .load t x, ty, pos, aft, gd⟩ [(x, .ptr id off)] [(id, .cells T cs)] ⟨some c, [], []⟩ := by
  refine OpS.still fun A ρ σ a w _ h hp hs => ?_
  have hx := hs.ev h.1
  obtain ⟨b, arr, h1, h2, h3, h4⟩ := hs.mem.heap id _ hp.1
  have hlt : off < arr.size := by have := (List.getElem?_eq_some_iff.1 hc).1; omega
  have hax : arr[off]? = some arr[off] := Array.getElem?_eq_getElem hlt
  refine ⟨arr[off], ?_, (h4 off c _ hc hax).1⟩
  refine runv (s := Instr.loadAt t (a.eval x)) ?_
  generalize a.eval x = y at hx ⊢
  cases hx with
  | ptr id off b' hb' =>
    rw [h1] at hb'
    cases hb'
    exact run_load1 hu hd (by rw [cell_of_row w b off arr T (0, 0) h2]; exact hax)
theorem OpS.loadPA {t T : TypeId} {d : TypeDesc} {inf : TypeInfo} {x : Operand} {id off sz : Nat} {cs : List AV} (hu : P.underlying t = some d) (hd : d.isRow = true) (hi : P.info? t = some inf) (hz : inf.size = sz) (hl : off + sz ≤ cs.length) :
    OpS P G ⟨dst, .load t x, ty, pos, aft, gd⟩ [(x, .ptr id off)] [(id, .cells T cs)] ⟨some (.agg ((cs.drop off).take sz)), [], []⟩ := by
  subst hz
  refine OpS.still fun A ρ σ a w _ h hp hs => ?_
  have hx := hs.ev h.1
  obtain ⟨b, arr, h1, h2, h3, h4⟩ := hs.mem.heap id _ hp.1
  refine ⟨.agg ((arr.toList.drop off).take inf.size).toArray, ?_, ?_⟩
  · refine runv (s := Instr.loadAt t (a.eval x)) ?_
    generalize a.eval x = y at hx ⊢
    cases hx with
    | ptr id off b' hb' =>
      rw [h1] at hb'
      cases hb'
      refine run_loadAt_mid w b off t ((arr.toList.drop off).take inf.size) d (fun j v hj => ?_) hu hd ?_
      · rw [cell_of_row w b (off + j) arr T (0, 0) h2]
        rw [List.getElem?_take] at hj
        split at hj
        · rw [List.getElem?_drop] at hj; simpa using hj
        · cases hj
      · rw [hi]; simp; omega
  · refine .agg _ _ (by simp; omega) (fun i c y hc hy => ?_)
    rw [List.getElem?_toArray, List.getElem?_take] at hy
    rw [List.getElem?_take] at hc
    split at hc
    · rename_i hlt
      rw [if_pos hlt, List.getElem?_drop] at hy
      rw [List.getElem?_drop] at hc
      exact (h4 _ c y hc (by simpa using hy)).1
    · cases hc
/-- load: out of a table -/
theorem OpS.loadG {t : TypeId} {d : TypeDesc} {x : Operand} {g off : Nat} {arr : Array Value} {v : Value} (hu : P.underlying t = some d) (hd : d.isRow = false) (hm : (g, arr) ∈ G) (hv : arr[off]? = some v) :
    OpS P G ⟨dst, .load t x, ty, pos, aft, gd⟩ [(x, .v (.pointer (some ⟨g, off, none⟩)))] [] ⟨some (.v v), [], []⟩ := by
  refine OpS.still fun A ρ σ a w hG h _ hs => ⟨v, ?_, .v v⟩
  refine runv (s := Instr.loadAt t (a.eval x)) ?_
  rw [(hs.ev h.1).raw]
  obtain ⟨⟨T, h1⟩, h2⟩ := hs.mem.tabs _ (by rw [hG]; exact hm)
  have hb := (hs.mem.block g (Array.getElem?_eq_some_iff.1 h1).1 h2).trans h1
  exact run_load1 hu hd (by rw [cell_of_row w g off arr T (0, 0) hb]; exact hv)
theorem OpS.loadGA {t : TypeId} {d : TypeDesc} {inf : TypeInfo} {x : Operand} {g : Nat} {arr : Array Value} (hu : P.underlying t = some d) (hd : d.isRow = true) (hm : (g, arr) ∈ G) (hi : P.info? t = some inf) (hz : inf.size = arr.size) :
    OpS P G ⟨dst, .load t x, ty, pos, aft, gd⟩ [(x, .v (.pointer (some ⟨g, 0, none⟩)))] [] ⟨some (.v (.agg arr)), [], []⟩ := by
  refine OpS.still fun A ρ σ a w hG h _ hs => ⟨_, ?_, .v _⟩
  refine runv (s := Instr.loadAt t (a.eval x)) ?_
  rw [(hs.ev h.1).raw]
  obtain ⟨⟨T, h1⟩, h2⟩ := hs.mem.tabs _ (by rw [hG]; exact hm)
  have hb := (hs.mem.block g (Array.getElem?_eq_some_iff.1 h1).1 h2).trans h1
  have := run_loadAt_mid w g 0 t arr.toList d (fun j v hj => by rw [cell_of_row w g (0 + j) arr T (0, 0) hb]; simpa using hj) hu hd (by rw [hi]; simp [hz])
  simpa using this

/-- store: one cell of an entry -/
theorem OpS.storeP {t T : TypeId} {inf : TypeInfo} {x y : Operand} {id off : Nat} {cs : List AV} {c : AV} (hi : P.info? t = some inf) (hz : inf.size = 1) (h1 : c.one = true) (hl : off < cs.length) :
    OpS P G ⟨dst, .store t x y, ty, pos, aft, gd⟩ [(x, .ptr id off), (y, c)] [(id, .cells T cs)] ⟨none, [(id, some (.cells T (cs.set off c)))], []⟩ := by
  refine OpS.act fun A ρ σ a w _ h hp _ hs => ?_
  have hx := hs.ev h.1
  have hy := hs.ev h.2.1
  obtain ⟨b, arr, k1, k2, k3, k4⟩ := hs.mem.heap id _ hp.1
  have h1' := hy.oneCell h1
  have hlt : off < arr.size := by omega
  have hb2 := heap_setCell (i := off) k2 (a.eval y)
  obtain ⟨m1, m2⟩ := hs.mem.write (cs' := cs.set off c) (w' := w.setCell ⟨b, off, none⟩ (a.eval y)) hp.1 k1 rfl rfl rfl (by simp) (fun k _ hk => heap_setCell_ne hk _) hb2 (by simp; omega) (fun j c' x' hc hx' => by
    by_cases hj : j = off
    · subst hj
      rw [List.getElem?_set_self hl] at hc
      cases hc
      have hx2 : x' = a.eval y := by simpa [hlt] using hx'.symm
      rw [hx2]
      exact ⟨hy, h1'⟩
    · rw [List.getElem?_set_ne (Ne.symm hj)] at hc
      rw [Array.getElem?_setIfInBounds_ne (Ne.symm hj)] at hx'
      exact k4 j c' x' hc hx')
  refine ⟨undef, w.setCell ⟨b, off, none⟩ (a.eval y), ρ, .inr ⟨?_, rfl⟩, m1, m2, fun v hv => by cases hv⟩
  refine runu (s := Instr.storeAt t (a.eval x) (a.eval y)) ?_
  generalize a.eval x = z at hx
  cases hx with
  | ptr id off b' hb' =>
    rw [k1] at hb'
    cases hb'
    have hcell : w.cell? ⟨b, off, none⟩ = some arr[off] := by rw [cell_of_row w b off arr T (0, 0) k2]; exact Array.getElem?_eq_getElem hlt
    have hfz := frozen_of_row w b off arr T k2
    generalize a.eval y = v at h1'
    have hcs : v.cells = #[v] := by cases v <;> first | rfl | cases h1'
    have hadd : (⟨b, off, none⟩ : Addr).add 0 = ⟨b, off, none⟩ := rfl
    simp only [Instr.storeAt, Instr.sureAddr, Sem.run_bind, Sem.run_pure, Result.andThen_ok, storeVar, sizeOf, typeInfo, hcs]
    simp [Sem.run_bind, Sem.run_pure, Result.andThen_ok, hi, hz, storeCells, hadd, run_store P w _ v _ h1', hcell, hfz]
end
end Go.Proofs.YtmifllopcbjliaaDoor.E
