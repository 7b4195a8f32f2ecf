/- Facts on this translation's types, and append onto a row of bytes. -/
import Derived.Test.YtmifllopcbjliaaDoorProg
import Derived.Test.YtmifllopcbjliaaDoorM
namespace Go.Proofs.YtmifllopcbjliaaDoor.V
open Go Go.RowKit

theorem u8info : (Tryd.prog.info? 5).map (fun i => (i.zero, i.size, i.bytes)) = some (some (.int .u8 0), 1, 1) := by kernel_rfl
theorem u32size : (Tryd.prog.info? 47).map (·.size) = some 1 := by kernel_rfl
def obytes (w : World) (base : Nat) (v : Value) (l : List UInt8) : Prop := w.ownsRow base 5 1 v l.length (bvs l)
theorem obytes_nil (w : World) (base : Nat) : obytes w base (.slice none 0 0) [] := World.ownsRow_nil w base _ 1
theorem obytes.kept {w w' : World} {base : Nat} {v : Value} {l : List UInt8} (h : obytes w base v l) {S : List Nat} (hf : Fr S w w') (hS : ∀ k, v.ownBlock = some k → k ∉ S) : obytes w' base v l := hf.own h hS

theorem Src.new {w : World} (tx e' : TypeId) (hk : Tryd.prog.underlying tx = some (.slice e')) (cs : Array Value) (e : TypeId) (h1 : ∀ u ∈ cs.toList, u.oneCell' = true) :
    Src Tryd.prog 1 tx (.slice (some ⟨w.heap.size, 0, none⟩) cs.size cs.size) cs.size cs.toList (w.alloc (.cells cs e)) := by
  refine Src.ofSlice _ hk ⟨w.heap.size, 0, none⟩ cs.size cs.size cs.toList (by simp) ?_ h1
  intro j u hu
  have hadd : (⟨w.heap.size, 0, none⟩ : Addr).add j = ⟨w.heap.size, j, none⟩ := by unfold Addr.add; split <;> simp_all
  rw [hadd, World.cell?_alloc_at _ _ _ _ rfl]
  simpa using hu

theorem obytes.src {w : World} {base : Nat} {v : Value} {l : List UInt8} (h : obytes w base v l) : Src Tryd.prog 1 46 v l.length (bvs l) w := by
  rcases h.2 with ⟨rfl, h0⟩ | ⟨g, cap, cur, rfl, hbg, hg, hnc, hcm, hcs, htake⟩
  · obtain rfl : l = [] := List.eq_nil_of_length_eq_zero h0
    exact Src.ofNil w Tryd.underlying46 0
  · exact Src.ofSlice w Tryd.underlying46 ⟨g, 0, none⟩ l.length cap (bvs l) (by simp [bvs_length]) (World.ownsRow.cells h (g := g) rfl) (bvs_one l)
theorem obytes.lt {w : World} {base : Nat} {v : Value} {l : List UInt8} (h : obytes w base v l) : ∀ k, v.ownBlock = some k → base ≤ k ∧ k < w.heap.size := World.ownsRow.lt h
theorem obytes.slice {w : World} {base : Nat} {v : Value} {l : List UInt8} (h : obytes w base v l) : ∃ g cap, v = .slice g l.length cap := by
  rcases h.2 with ⟨hv, h0⟩ | ⟨g, cap, cur, hv, _⟩
  · exact ⟨_, _, by rw [h0]; exact hv⟩
  · exact ⟨_, _, hv⟩

theorem obytes.text {w : World} {base : Nat} {v : Value} {l : List UInt8} (h : obytes w base v l) : (convert 46 9 v).run Tryd.prog w = .ok (.string (B l)) w := by
  rcases h.2 with ⟨rfl, h0⟩ | ⟨g, cap, cur, rfl, hbg, hg, hnc, hcm, hcs, htake⟩
  · obtain rfl : l = [] := List.eq_nil_of_length_eq_zero h0
    exact run_b2s_nil w _ _ 5 Tryd.underlying46 Tryd.underlying5 Tryd.underlying9 0 0
  · exact run_b2s w _ _ 5 Tryd.underlying46 Tryd.underlying5 Tryd.underlying9 ⟨g, 0, none⟩ cap l (World.ownsRow.cells h (g := g) rfl)

theorem wpList_ap_bytes {ops : Array Oper} {rest : List Oper} {o : Oper} {a : Act} {Q : Exit → Act → World → Prop} {w : World} (hgd : o.guard = none) (s x : Operand) (tx : TypeId)
    (ho : o.op = .call { callee := .builtin .append, args := #[s, x], argTypes := #[46, tx] })
    (base : Nat) (v : Value) (l : List UInt8) (hv : a.eval s = v) (hown : obytes w base v l) (xv : Value) (m : List UInt8) (n : Nat) (hx : a.eval x = xv) (hs : Src Tryd.prog 1 tx xv n (bvs m) w)
    (hb : l.length + m.length ≤ 140737488355328) (hbase : base ≤ w.heap.size)
    (h : ∀ v' w', obytes w' base v' (l ++ m) → w.grownBy w' v.ownBlock → (v'.ownBlock = v.ownBlock ∨ v'.ownBlock = some w.heap.size) → wpList Tryd.prog ops Q rest (a.put o.dst v') w') : wpList Tryd.prog ops Q (o :: rest) a w := by
  obtain ⟨i, hi, hz, hs1, hb1⟩ := info_parts u8info
  have hn : n = m.length := by have := hs.newsLen; rw [bvs_length] at this; omega
  subst hn
  refine wpList_plain hgd fun K hK => wp_append_any w s x 46 tx ho base 5 i (.int .u8 0) 1 1 Tryd.underlying46 hi hz hs1 hb1 rfl (by decide) v l.length (bvs l) hv hown xv m.length (bvs m) hx hs
    (by unfold maxLen; omega) (by omega) hbase ?_
  intro v' w' h1 h2 h3
  refine hK _ _ (h v' w' ?_ h2 h3)
  unfold obytes
  rw [List.length_append, bvs_append]
  exact h1
theorem bvs_zeros (m : Nat) : bvs (List.replicate m 0) = List.replicate m (.int .u8 0) := by simp [bvs, bv, U8]
theorem wpList_ap_zeros {ops : Array Oper} {rest : List Oper} {o : Oper} {a : Act} {Q : Exit → Act → World → Prop} {w : World} (hgd : o.guard = none) (s x : Operand)
    (ho : o.op = .call { callee := .builtin .append, args := #[s, x], argTypes := #[46, 3] })
    (base : Nat) (v : Value) (l : List UInt8) (hv : a.eval s = v) (hown : obytes w base v l) (m : Nat) (hx : a.eval x = .int .i64 (m : Int))
    (hb : l.length + m ≤ 140737488355328) (hbase : base ≤ w.heap.size)
    (h : ∀ v' w', obytes w' base v' (l ++ List.replicate m 0) → w.grownBy w' v.ownBlock → (v'.ownBlock = v.ownBlock ∨ v'.ownBlock = some w.heap.size) → wpList Tryd.prog ops Q rest (a.put o.dst v') w') : wpList Tryd.prog ops Q (o :: rest) a w := by
  obtain ⟨i, hi, hz, hs1, hb1⟩ := info_parts u8info
  refine wpList_plain hgd fun K hK => wp_append_zeros s x 46 3 ho base 5 .i64 i (.int .u8 0) 1 Tryd.underlying46 Tryd.underlying3 hi hz hs1 hb1 rfl rfl v l.length (bvs l) hv hown m hx
    (by unfold maxLen; omega) (by omega) hbase ?_
  intro v' w' h1 h2 h3
  refine hK _ _ (h v' w' ?_ h2 h3)
  unfold obytes
  rw [List.length_append, bvs_append, bvs_zeros, List.length_replicate]
  exact h1
end Go.Proofs.YtmifllopcbjliaaDoor.V
