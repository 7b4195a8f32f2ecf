/- For the claims that use the document's answer too: all four tables out of a row's list, a world for the witness. -/
import Derived.Test.YtmifllopcbjliaaDoorER5
import Derived.Test.YtmifllopcbjliaaDoorCard
namespace Go.Proofs.YtmifllopcbjliaaDoor.E
open Go Go.RowKit Go.WideShapes Go.ChangeShapes Go.ChangeAt Go.Proofs.YtmifllopcbjliaaDoor.V

def tabB : List (Nat × Array Value) := [(3, kArr), (1, kArr), (0, first.cells)]
def tabR : List (Nat × Array Value) := (2, first.cells) :: tabB
def RB (w : World) : Prop := ∀ x ∈ tabB, ∃ T, w.heap[x.1]? = some (.cells x.2 T (0, 0))
def RT (w : World) : Prop := ∀ x ∈ tabR, ∃ T, w.heap[x.1]? = some (.cells x.2 T (0, 0))
theorem shaInB : ShaIn tabB := ⟨by simp [tabB], by simp [tabB]⟩
theorem shaInR : ShaIn tabR := ⟨by simp [tabR, tabB], by simp [tabR, tabB]⟩
theorem kInB : (3, kArr) ∈ tabB := by simp [tabB]
theorem kInR : (3, kArr) ∈ tabR := by simp [tabR, tabB]
theorem fInR : (2, first.cells) ∈ tabR := by simp [tabR]
theorem rk_data : (Rows.laid_voussoir_voussoirref01_k : DataW Unit) = Lib.tabData .u32 (kTab.map U32) := by kernel_rfl
theorem rfirst_data : (Rows.laid_voussoir_voussoirref01_first : DataW Unit) = Lib.tabData .u32 (first.words.map U32) := by kernel_rfl
theorem rk_global : Tryd.prog.globalNamed "voussoir/voussoirref01.k" = some 3 := by kernel_rfl
theorem rfirst_global : Tryd.prog.globalNamed "voussoir/voussoirref01.first" = some 2 := by kernel_rfl
theorem kmap : ((kTab.map U32).map fun z => Value.int .u32 z).toArray = kArr := by rw [List.map_map]; rfl

theorem tabB_of {W : World} {laid : List (String × DataW Unit)} (h : laidMetH Tryd.prog laid W) (h1 : ("voussoir/sha.k", Rows.laid_voussoir_sha_k) ∈ laid) (h2 : ("voussoir/sha.first", Rows.laid_voussoir_sha_first) ∈ laid)
    (h3 : ("voussoir/voussoirref01.k", Rows.laid_voussoir_voussoirref01_k) ∈ laid) : RB W := by
  rw [k_data] at h1
  rw [first_data] at h2
  rw [rk_data] at h3
  obtain ⟨T1, hk⟩ := laid_tab h h1 (by decide) k_global (t := 58) (by kernel_rfl) Tryd.underlying58 Tryd.underlying47 (by kernel_rfl) (by kernel_rfl)
  obtain ⟨T2, hf⟩ := laid_tab h h2 (by decide) first_global (t := 49) (by kernel_rfl) Tryd.underlying49 Tryd.underlying47 (by kernel_rfl) (by kernel_rfl)
  obtain ⟨T3, hk'⟩ := laid_tab h h3 (by decide) rk_global (t := 58) (by kernel_rfl) Tryd.underlying58 Tryd.underlying47 (by kernel_rfl) (by kernel_rfl)
  rw [kmap] at hk hk'
  intro x hx
  simp only [tabB, List.mem_cons, List.not_mem_nil, or_false] at hx
  rcases hx with rfl | rfl | rfl
  · exact ⟨T3, hk'⟩
  · exact ⟨T1, hk⟩
  · exact ⟨T2, hf⟩
theorem tabR_of {W : World} {laid : List (String × DataW Unit)} (h : laidMetH Tryd.prog laid W) (h1 : ("voussoir/sha.k", Rows.laid_voussoir_sha_k) ∈ laid) (h2 : ("voussoir/sha.first", Rows.laid_voussoir_sha_first) ∈ laid)
    (h3 : ("voussoir/voussoirref01.k", Rows.laid_voussoir_voussoirref01_k) ∈ laid) (h4 : ("voussoir/voussoirref01.first", Rows.laid_voussoir_voussoirref01_first) ∈ laid) : RT W := by
  rw [rfirst_data] at h4
  obtain ⟨T4, hf'⟩ := laid_tab h h4 (by decide) rfirst_global (t := 48) (by kernel_rfl) Tryd.underlying48 Tryd.underlying47 (by kernel_rfl) (by kernel_rfl)
  intro x hx
  rcases List.mem_cons.1 hx with rfl | hx
  · exact ⟨T4, hf'⟩
  · exact tabB_of h h1 h2 h3 x hx

/-- a world in which all four tables hold what their initialisers lay -/
noncomputable def laidWorldR (os : Os) : World :=
  { laidWorld os with heap := ((laidWorld os).heap.modify 3 layK).modify 2 layFirst }

theorem FC.callsV {P : Program} {G : List (Nat × Array Value)} {f : FuncId} {xs : List Value} {r : Value} (F : FC P G f (xs.map AV.v) [] (.v r) []) (w : World) (hT : ∀ x ∈ G, ∃ T, w.heap[x.1]? = some (.cells x.2 T (0, 0))) : Calls P f xs.toArray w fun e w' => e = .returned r ∧ Fr [] w w' :=
  F.calls w hT xs.toArray (by simp) fun i c x hc hx => by
    have hx' : xs[i]? = some x := by simpa using hx
    have hc' : (xs.map AV.v)[i]? = some c := hc
    rw [List.getElem?_map, hx'] at hc'
    cases hc'
    exact .v x
end Go.Proofs.YtmifllopcbjliaaDoor.E
