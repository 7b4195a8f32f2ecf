/- Lists of texts in memory: read where they lie; a list that the play itself made, and append onto it. -/
import Derived.Test.YtmifllopcbjliaaDoorTy
namespace Go.Proofs.YtmifllopcbjliaaDoor.V
open Go Go.RowKit

theorem strinfo : (Tryd.prog.info? 9).map (fun i => (i.zero, i.size, i.bytes)) = some (some (.string .empty), 1, 16) := by kernel_rfl
theorem strcells : Tryd.prog.cellsOf 9 = 1 := by kernel_rfl
def sv (p : List UInt8) : Value := .string (B p)
def svs (ps : List (List UInt8)) : List Value := ps.map sv
theorem svs_length (l : List (List UInt8)) : (svs l).length = l.length := by simp [svs]
theorem svs_append (a b : List (List UInt8)) : svs (a ++ b) = svs a ++ svs b := by simp [svs]
theorem svs_one (l : List (List UInt8)) : ∀ u ∈ svs l, u.oneCell' = true := by
  intro u hu
  obtain ⟨p, _, rfl⟩ := List.mem_map.1 hu
  rfl
def sget (ps : List (List UInt8)) (i : Nat) : List UInt8 := ps[i]?.getD []

/-- a list of texts as it lies in memory -/
def Strs (w : World) (v : Value) (ps : List (List UInt8)) : Prop :=
  ∃ a cap, v = .slice a ps.length cap ∧ ps.length ≤ cap ∧ cap ≤ maxLen ∧ ∀ i, i < ps.length → ∃ b off, a = some ⟨b, off, none⟩ ∧ b < w.heap.size ∧ w.cell? ⟨b, off + i, none⟩ = some (sv (sget ps i))
theorem Strs.nil (w : World) : Strs w (.slice none 0 0) [] := ⟨none, 0, rfl, Nat.le_refl _, Nat.zero_le _, fun i hi => by cases hi⟩
theorem Strs.kept {w w' : World} {v : Value} {ps : List (List UInt8)} (h : Strs w v ps) (hf : Fr [] w w') : Strs w' v ps := by
  obtain ⟨a, cap, hv, h1, h2, hc⟩ := h
  refine ⟨a, cap, hv, h1, h2, fun i hi => ?_⟩
  obtain ⟨b, off, ha, hb, hx⟩ := hc i hi
  exact ⟨b, off, ha, Nat.lt_of_lt_of_le hb hf.size, by rw [hf.cell hb (by simp)]; exact hx⟩

/-- a list of texts that the play itself made -/
def ostrs (w : World) (base : Nat) (v : Value) (l : List (List UInt8)) : Prop := w.ownsRow base 9 1 v l.length (svs l)
theorem ostrs_nil (w : World) (base : Nat) : ostrs w base (.slice none 0 0) [] := World.ownsRow_nil w base _ 1
theorem ostrs.kept {w w' : World} {base : Nat} {v : Value} {l : List (List UInt8)} (h : ostrs w base v l) {S : List Nat} (hf : Fr S w w') (hS : ∀ k, v.ownBlock = some k → k ∉ S) : ostrs w' base v l := hf.own h hS
theorem ostrs.lt {w : World} {base : Nat} {v : Value} {l : List (List UInt8)} (h : ostrs w base v l) : ∀ k, v.ownBlock = some k → base ≤ k ∧ k < w.heap.size := World.ownsRow.lt h
theorem ostrs.strs {w : World} {base : Nat} {v : Value} {l : List (List UInt8)} (h : ostrs w base v l) : Strs w v l := by
  have hlt := h.lt
  rcases h.2 with ⟨rfl, h0⟩ | ⟨g, cap, cur, rfl, hbg, hg, hnc, hcm, hcs, htake⟩
  · obtain rfl : l = [] := List.eq_nil_of_length_eq_zero h0
    exact Strs.nil w
  · refine ⟨_, cap, rfl, hnc, hcm, fun i hi => ⟨g, 0, rfl, (hlt g rfl).2, ?_⟩⟩
    have := World.ownsRow.cells h (g := g) rfl i (sv (sget l i)) (by simp [svs, sget, hi])
    have hadd : (⟨g, 0, none⟩ : Addr).add i = ⟨g, 0 + i, none⟩ := by unfold Addr.add; split <;> simp_all
    rw [hadd] at this
    exact this
theorem Strs.src {w : World} {v : Value} {l : List (List UInt8)} (h : Strs w v l) : Src Tryd.prog 1 22 v l.length (svs l) w := by
  obtain ⟨a, cap, rfl, h1, h2, hc⟩ := h
  by_cases h0 : l.length = 0
  · obtain rfl : l = [] := List.eq_nil_of_length_eq_zero h0
    cases a with
    | none => exact Src.ofNil w Tryd.underlying22 cap
    | some a => exact Src.ofSlice w Tryd.underlying22 a 0 cap [] (by simp) (fun j u hu => by simp at hu) (by simp)
  · obtain ⟨b, off, rfl, hb, _⟩ := hc 0 (by omega)
    refine Src.ofSlice w Tryd.underlying22 ⟨b, off, none⟩ l.length cap (svs l) (by simp [svs_length]) (fun j u hu => ?_) (svs_one l)
    have hj : j < l.length := by
      have := (List.getElem?_eq_some_iff.1 hu).1
      simpa [svs] using this
    obtain ⟨b', off', he, _, hx⟩ := hc j hj
    cases he
    have hadd : (⟨b, off, none⟩ : Addr).add j = ⟨b, off + j, none⟩ := by unfold Addr.add; split <;> simp_all
    rw [hadd, hx]
    simp [svs, hj] at hu
    simp [sget, hj, hu]

theorem Src.new' (w : World) (tx e' : TypeId) (hk : Tryd.prog.underlying tx = some (.slice e')) (cs : Array Value) (e : TypeId) (h1 : ∀ u ∈ cs.toList, u.oneCell' = true) :
    Src Tryd.prog 1 tx (.slice (some ⟨w.heap.size, 0, none⟩) cs.size cs.size) cs.size cs.toList (w.alloc (.cells cs e)).drew := by
  refine Src.ofSlice _ hk ⟨w.heap.size, 0, none⟩ cs.size cs.size cs.toList (by simp) ?_ h1
  intro j u hu
  have hadd : (⟨w.heap.size, 0, none⟩ : Addr).add j = ⟨w.heap.size, j, none⟩ := by unfold Addr.add; split <;> simp_all
  rw [hadd]
  show (w.alloc (.cells cs e)).cell? _ = _
  rw [World.cell?_alloc_at _ _ _ _ rfl]
  simpa using hu
theorem wpList_ap_strs {ops : Array Oper} {rest : List Oper} {o : Oper} {a : Act} {Q : Exit → Act → World → Prop} {w : World} (hgd : o.guard = none) (s x : Operand) (tx : TypeId)
    (ho : o.op = .call { callee := .builtin .append, args := #[s, x], argTypes := #[22, tx] })
    (base : Nat) (v : Value) (l : List (List UInt8)) (hv : a.eval s = v) (hown : ostrs w base v l) (xv : Value) (m : List (List UInt8)) (n : Nat) (hx : a.eval x = xv) (hs : Src Tryd.prog 1 tx xv n (svs m) w)
    (hb : l.length + m.length ≤ 8796093022208) (hbase : base ≤ w.heap.size)
    (h : ∀ v' w', ostrs w' base v' (l ++ m) → w.grownBy w' v.ownBlock → (v'.ownBlock = v.ownBlock ∨ v'.ownBlock = some w.heap.size) → wpList Tryd.prog ops Q rest (a.put o.dst v') w') : wpList Tryd.prog ops Q (o :: rest) a w := by
  obtain ⟨i, hi, hz, hs1, hb1⟩ := info_parts strinfo
  have hn : n = m.length := by have := hs.newsLen; rw [svs_length] at this; omega
  subst hn
  refine wpList_plain hgd fun K hK => wp_append_any w s x 22 tx ho base 9 i (.string .empty) 1 16 Tryd.underlying22 hi hz hs1 hb1 rfl (by decide) v l.length (svs l) hv hown xv m.length (svs m) hx hs
    (by unfold maxLen; omega) (by omega) hbase ?_
  intro v' w' h1 h2 h3
  refine hK _ _ (h v' w' ?_ h2 h3)
  unfold ostrs
  rw [List.length_append, svs_append]
  exact h1
/-- the same at a step of a region that draws its order -/
theorem step_ap_strs {ops : Array Oper} {o : Oper} {a : Act} {K : Act → World → Prop} {Q : Exit → Act → World → Prop} {w : World} {E : Prop} (hgd : o.guard = none) (s x : Operand) (tx : TypeId)
    (ho : o.op = .call { callee := .builtin .append, args := #[s, x], argTypes := #[22, tx] })
    (base : Nat) (v : Value) (l : List (List UInt8)) (hv : a.eval s = v) (hown : ostrs w base v l) (xv : Value) (m : List (List UInt8)) (n : Nat) (hx : a.eval x = xv) (hs : Src Tryd.prog 1 tx xv n (svs m) w)
    (hb : l.length + m.length ≤ 8796093022208) (hbase : base ≤ w.heap.size)
    (h : ∀ v' w', ostrs w' base v' (l ++ m) → w.grownBy w' v.ownBlock → (v'.ownBlock = v.ownBlock ∨ v'.ownBlock = some w.heap.size) → K (a.put o.dst v') w') :
    if Region.wanted o (yielded ops a.tmps) = true then Oper.wp Tryd.prog o a w K Q else E := by
  have hw : Region.wanted o (yielded ops a.tmps) = true := by simp [Region.wanted, hgd]
  rw [if_pos hw]
  obtain ⟨i, hi, hz, hs1, hb1⟩ := info_parts strinfo
  have hn : n = m.length := by have := hs.newsLen; rw [svs_length] at this; omega
  subst hn
  refine wp_append_any w s x 22 tx ho base 9 i (.string .empty) 1 16 Tryd.underlying22 hi hz hs1 hb1 rfl (by decide) v l.length (svs l) hv hown xv m.length (svs m) hx hs
    (by unfold maxLen; omega) (by omega) hbase ?_
  intro v' w' h1 h2 h3
  refine h v' w' ?_ h2 h3
  unfold ostrs
  rw [List.length_append, svs_append]
  exact h1
end Go.Proofs.YtmifllopcbjliaaDoor.V
