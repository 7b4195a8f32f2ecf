/- Rows of words (uint32): read where they lie; a row that the play itself made, and append onto it. -/
import Derived.Test.YtmifllopcbjliaaDoorSha5
import Derived.Test.YtmifllopcbjliaaDoorStr
namespace Go.Proofs.YtmifllopcbjliaaDoor.V
open Go Go.RowKit

theorem u32info : (Tryd.prog.info? 47).map (fun i => (i.zero, i.size, i.bytes)) = some (some (.int .u32 0), 1, 4) := by kernel_rfl
def wvs (l : List UInt32) : List Value := l.map wv
theorem wvs_length (l : List UInt32) : (wvs l).length = l.length := by simp [wvs]
theorem wvs_append (a b : List UInt32) : wvs (a ++ b) = wvs a ++ wvs b := by simp [wvs]
theorem wvs_one (l : List UInt32) : ∀ u ∈ wvs l, u.oneCell' = true := by
  intro u hu
  obtain ⟨p, _, rfl⟩ := List.mem_map.1 hu
  rfl

/-- a row of words as it lies in memory, in blocks from base on -/
def RWords (w : World) (base : Nat) (v : Value) (l : List UInt32) : Prop :=
  ∃ a cap, v = .slice a l.length cap ∧ ∀ i, i < l.length → ∃ b off, a = some ⟨b, off, none⟩ ∧ base ≤ b ∧ b < w.heap.size ∧ w.cell? ⟨b, off + i, none⟩ = some (.int .u32 (U32 (lget l i)))
theorem RWords.kept {w w' : World} {base : Nat} {v : Value} {l : List UInt32} (h : RWords w base v l) {S : List Nat} (hf : Fr S w w') (hS : ∀ x ∈ S, x < base ∨ w.heap.size ≤ x) : RWords w' base v l := by
  obtain ⟨a, cap, hv, hc⟩ := h
  refine ⟨a, cap, hv, fun i hi => ?_⟩
  obtain ⟨b, off, ha, hb0, hb, hx⟩ := hc i hi
  exact ⟨b, off, ha, hb0, Nat.lt_of_lt_of_le hb hf.size, by rw [hf.cell hb (fun hm => by have := hS b hm; omega)]; exact hx⟩

def owords (w : World) (base : Nat) (v : Value) (l : List UInt32) : Prop := w.ownsRow base 47 1 v l.length (wvs l)
theorem owords_nil (w : World) (base : Nat) : owords w base (.slice none 0 0) [] := World.ownsRow_nil w base _ 1
theorem owords.kept {w w' : World} {base : Nat} {v : Value} {l : List UInt32} (h : owords w base v l) {S : List Nat} (hf : Fr S w w') (hS : ∀ k, v.ownBlock = some k → k ∉ S) : owords w' base v l := hf.own h hS
theorem owords.lt {w : World} {base : Nat} {v : Value} {l : List UInt32} (h : owords w base v l) : ∀ k, v.ownBlock = some k → base ≤ k ∧ k < w.heap.size := World.ownsRow.lt h
theorem owords.words {w : World} {base : Nat} {v : Value} {l : List UInt32} (h : owords w base v l) : RWords w base v l := by
  have hlt := h.lt
  rcases h.2 with ⟨rfl, h0⟩ | ⟨g, cap, cur, rfl, hbg, hg, hnc, hcm, hcs, htake⟩
  · obtain rfl : l = [] := List.eq_nil_of_length_eq_zero h0
    exact ⟨none, 0, rfl, fun i hi => by cases hi⟩
  · refine ⟨_, cap, rfl, fun i hi => ⟨g, 0, rfl, hbg, (hlt g rfl).2, ?_⟩⟩
    have := World.ownsRow.cells h (g := g) rfl i (wv (lget l i)) (by simp [wvs, lget, hi])
    have hadd : (⟨g, 0, none⟩ : Addr).add i = ⟨g, 0 + i, none⟩ := by unfold Addr.add; split <;> simp_all
    rw [hadd] at this
    exact this

theorem wpList_ap_words {ops : Array Oper} {rest : List Oper} {o : Oper} {a : Act} {Q : Exit → Act → World → Prop} {w : World} (hgd : o.guard = none) (s x : Operand) (tx : TypeId)
    (ho : o.op = .call { callee := .builtin .append, args := #[s, x], argTypes := #[73, tx] })
    (base : Nat) (v : Value) (l : List UInt32) (hv : a.eval s = v) (hown : owords w base v l) (xv : Value) (m : List UInt32) (n : Nat) (hx : a.eval x = xv) (hs : Src Tryd.prog 1 tx xv n (wvs m) w)
    (hb : l.length + m.length ≤ 8796093022208) (hbase : base ≤ w.heap.size)
    (h : ∀ v' w', owords w' base v' (l ++ m) → w.grownBy w' v.ownBlock → (v'.ownBlock = v.ownBlock ∨ v'.ownBlock = some w.heap.size) → wpList Tryd.prog ops Q rest (a.put o.dst v') w') : wpList Tryd.prog ops Q (o :: rest) a w := by
  obtain ⟨i, hi, hz, hs1, hb1⟩ := info_parts u32info
  have hn : n = m.length := by have := hs.newsLen; rw [wvs_length] at this; omega
  subst hn
  refine wpList_plain hgd fun K hK => wp_append_any w s x 73 tx ho base 47 i (.int .u32 0) 1 4 Tryd.underlying73 hi hz hs1 hb1 rfl (by decide) v l.length (wvs l) hv hown xv m.length (wvs m) hx hs
    (by unfold maxLen; omega) (by omega) hbase ?_
  intro v' w' h1 h2 h3
  refine hK _ _ (h v' w' ?_ h2 h3)
  unfold owords
  rw [List.length_append, wvs_append]
  exact h1
theorem step_ap_words {ops : Array Oper} {o : Oper} {a : Act} {K : Act → World → Prop} {Q : Exit → Act → World → Prop} {w : World} {E : Prop} (hgd : o.guard = none) (s x : Operand) (tx : TypeId)
    (ho : o.op = .call { callee := .builtin .append, args := #[s, x], argTypes := #[73, tx] })
    (base : Nat) (v : Value) (l : List UInt32) (hv : a.eval s = v) (hown : owords w base v l) (xv : Value) (m : List UInt32) (n : Nat) (hx : a.eval x = xv) (hs : Src Tryd.prog 1 tx xv n (wvs m) w)
    (hb : l.length + m.length ≤ 8796093022208) (hbase : base ≤ w.heap.size)
    (h : ∀ v' w', owords w' base v' (l ++ m) → w.grownBy w' v.ownBlock → (v'.ownBlock = v.ownBlock ∨ v'.ownBlock = some w.heap.size) → K (a.put o.dst v') w') :
    if Region.wanted o (yielded ops a.tmps) = true then Oper.wp Tryd.prog o a w K Q else E := by
  have hw : Region.wanted o (yielded ops a.tmps) = true := by simp [Region.wanted, hgd]
  rw [if_pos hw]
  obtain ⟨i, hi, hz, hs1, hb1⟩ := info_parts u32info
  have hn : n = m.length := by have := hs.newsLen; rw [wvs_length] at this; omega
  subst hn
  refine wp_append_any w s x 73 tx ho base 47 i (.int .u32 0) 1 4 Tryd.underlying73 hi hz hs1 hb1 rfl (by decide) v l.length (wvs l) hv hown xv m.length (wvs m) hx hs
    (by unfold maxLen; omega) (by omega) hbase ?_
  intro v' w' h1 h2 h3
  refine h v' w' ?_ h2 h3
  unfold owords
  rw [List.length_append, wvs_append]
  exact h1
theorem step_ap_bytes {ops : Array Oper} {o : Oper} {a : Act} {K : Act → World → Prop} {Q : Exit → Act → World → Prop} {w : World} {E : Prop} (hgd : o.guard = none) (s x : Operand) (tx : TypeId)
    (ho : o.op = .call { callee := .builtin .append, args := #[s, x], argTypes := #[46, tx] })
    (base : Nat) (v : Value) (l : List UInt8) (hv : a.eval s = v) (hown : obytes w base v l) (xv : Value) (m : List UInt8) (n : Nat) (hx : a.eval x = xv) (hs : Src Tryd.prog 1 tx xv n (bvs m) w)
    (hb : l.length + m.length ≤ 140737488355328) (hbase : base ≤ w.heap.size)
    (h : ∀ v' w', obytes w' base v' (l ++ m) → w.grownBy w' v.ownBlock → (v'.ownBlock = v.ownBlock ∨ v'.ownBlock = some w.heap.size) → K (a.put o.dst v') w') :
    if Region.wanted o (yielded ops a.tmps) = true then Oper.wp Tryd.prog o a w K Q else E := by
  have hw : Region.wanted o (yielded ops a.tmps) = true := by simp [Region.wanted, hgd]
  rw [if_pos hw]
  obtain ⟨i, hi, hz, hs1, hb1⟩ := info_parts u8info
  have hn : n = m.length := by have := hs.newsLen; rw [bvs_length] at this; omega
  subst hn
  refine wp_append_any w s x 46 tx ho base 5 i (.int .u8 0) 1 1 Tryd.underlying46 hi hz hs1 hb1 rfl (by decide) v l.length (bvs l) hv hown xv m.length (bvs m) hx hs
    (by unfold maxLen; omega) (by omega) hbase ?_
  intro v' w' h1 h2 h3
  refine h v' w' ?_ h2 h3
  unfold obytes
  rw [List.length_append, bvs_append]
  exact h1
end Go.Proofs.YtmifllopcbjliaaDoor.V
