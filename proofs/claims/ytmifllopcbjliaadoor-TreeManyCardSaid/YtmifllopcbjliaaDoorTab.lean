/- What a row's list of package-level variables gives: a table's cells. -/
import Derived.Test.YtmifllopcbjliaaDoorM
import Derived.Lib.LaidTab
import Derived.LaidSub
namespace Go.Proofs.YtmifllopcbjliaaDoor.V
open Go Go.RowKit

theorem laid_var {P : Program} {W : World} {name : String} {k : IntKind} {zs : List Int} {g : Nat} {t e : TypeId} {n : Nat}
    (hg : P.globalNamed name = some g) (hty : (P.globals[g]?).map (·.type) = some t) (ht : P.underlying t = some (.array n e)) (he : P.underlying e = some (.int k)) (hce : P.cellsOf e = 1) (hct : P.cellsOf t = n) :
    ∀ (laid : List (String × DataW Unit)) (ps : List MemPlace), DataW.LaidVars P W laid ps → (name, Lib.tabData k zs) ∈ laid →
      W.var? P name = some (zs.map fun z => Value.int k z).toArray ∧ ∀ i, i < zs.length → MemPlace.cell g i ∈ ps := by
  intro laid
  induction laid with
  | nil => intro ps _ h; cases h
  | cons x r ih =>
    intro ps hl hm
    obtain ⟨g', t', cs, fuel, p, q, hg', ht', hvar, hd, hr, rfl⟩ := hl
    rcases List.mem_cons.1 hm with rfl | hm
    · obtain rfl := Option.some.inj (hg.symm.trans hg')
      obtain rfl := Option.some.inj (hty.symm.trans ht')
      have hcs := Lib.cells_of_tab ht he hce hct hd
      refine ⟨by rw [hvar, ← hcs], fun i hi => ?_⟩
      have hsz : cs.size = zs.length := by rw [← Array.length_toList, hcs, List.length_map]
      refine List.mem_append_left _ (List.mem_append_left _ ?_)
      simpa [MemPlace.row, hsz] using hi
    · obtain ⟨h1, h2⟩ := ih q hr hm
      exact ⟨h1, fun i hi => List.mem_append_right _ (h2 i hi)⟩

theorem laid_tab {P : Program} {W : World} {laid : List (String × DataW Unit)} (h : laidMetH P laid W) {name : String} {k : IntKind} {zs : List Int} {g : Nat} {t e : TypeId} {n : Nat}
    (hm : (name, Lib.tabData k zs) ∈ laid) (h0 : 0 < zs.length)
    (hg : P.globalNamed name = some g) (hty : (P.globals[g]?).map (·.type) = some t) (ht : P.underlying t = some (.array n e)) (he : P.underlying e = some (.int k)) (hce : P.cellsOf e = 1) (hct : P.cellsOf t = n) :
    ∃ T, W.heap[g]? = some (.cells (zs.map fun z => Value.int k z).toArray T (0, 0)) := by
  obtain ⟨⟨ps, hv, _, hr⟩, _⟩ := laidMetH_iff.1 h
  obtain ⟨h1, h2⟩ := laid_var hg hty ht he hce hct _ ps hv (List.mem_filter.2 ⟨hm, rfl⟩)
  obtain ⟨⟨c, T, hc⟩, _⟩ := hr g 0 (h2 0 h0)
  refine ⟨T, ?_⟩
  rw [hc]
  have : W.var? P name = some c := by simp [World.var?, hg, hc]
  rw [h1] at this
  injection this with this
  rw [this]
end Go.Proofs.YtmifllopcbjliaaDoor.V
