/-
  DERIVED. GIVEN WITH THE SEED: THE CARDS: each row of YtmifllopcbjliaaDoorRows.lean that lists a variable, with what it lists TIED to the program's text (the seventh form; the later family's looks); each row that meets fmt, with fmt's text TOLD by the authors' own Lean function (tested against real Go, not proved from fmt's source: count such statements apart). THE CARD IS WHAT COUNTS. Prove the row's statement (the work); the ties are given (YtmifllopcbjliaaDoorTie.lean); close each card by the builder's one call (the guide's Derived/Test/ToyasCard.lean, 'card_holds'). Laid BY PROGRAM, IN A SANDBOX (cutbox-door.mjs). By AI agents, Wed Nov 11 2026. No macro, syntax, notation, axiom, sorry.
-/
import Derived.Test.YtmifllopcbjliaaDoorRows
import GoSem.ClaimSeven
namespace Go.Proofs.YtmifllopcbjliaaDoor
namespace Rows

/-- THE TIED CARD OF 'voussoirlaw06.TreeRoots'. -/
def treeRootsCard : Claim7 := { stood := { row := treeRootsRow, standIns := [], harness := (true, "cda8d90a349b53be1ed435a7bad6ac1e33e3152f0423c4d601693f0603e4d7e9"), looks := false }, kinds := [], alts := [], laidByText := true, laidKinds := [.data, .wider], laidTests := true, laidLooks := .later }
def TreeRootsCardSaid : Prop := Claim7.holds Tryd.pinned (.plain (OpenSpec.ofChange treeRootsSpec)) treeRootsCard

/-- THE TIED CARD OF 'voussoirlaw06.TreeHalves'. -/
def treeHalvesCard : Claim7 := { stood := { row := treeHalvesRow, standIns := [], harness := (true, "cda8d90a349b53be1ed435a7bad6ac1e33e3152f0423c4d601693f0603e4d7e9"), looks := false }, kinds := [], alts := [], laidByText := true, laidKinds := [.data, .wider], laidTests := true, laidLooks := .later }
def TreeHalvesCardSaid : Prop := Claim7.holds Tryd.pinned (.plain (OpenSpec.ofChange treeHalvesSpec)) treeHalvesCard

/-- THE TIED CARD OF 'voussoirlaw06.TreeSiblings'. -/
def treeSiblingsCard : Claim7 := { stood := { row := treeSiblingsRow, standIns := [], harness := (true, "cda8d90a349b53be1ed435a7bad6ac1e33e3152f0423c4d601693f0603e4d7e9"), looks := false }, kinds := [], alts := [], laidByText := true, laidKinds := [.data, .wider], laidTests := true, laidLooks := .later }
def TreeSiblingsCardSaid : Prop := Claim7.holds Tryd.pinned (.plain (OpenSpec.ofChange treeSiblingsSpec)) treeSiblingsCard

/-- THE TIED CARD OF 'voussoirlaw06.TreeClimbs'. -/
def treeClimbsCard : Claim7 := { stood := { row := treeClimbsRow, standIns := [], harness := (true, "cda8d90a349b53be1ed435a7bad6ac1e33e3152f0423c4d601693f0603e4d7e9"), looks := false }, kinds := [], alts := [], laidByText := true, laidKinds := [.data, .wider], laidTests := true, laidLooks := .later }
def TreeClimbsCardSaid : Prop := Claim7.holds Tryd.pinned (.plain (OpenSpec.ofChange treeClimbsSpec)) treeClimbsCard

/-- THE TIED CARD OF 'voussoirlaw06.TreeTells'. -/
def treeTellsCard : Claim7 := { stood := { row := treeTellsRow, standIns := [], harness := (true, "cda8d90a349b53be1ed435a7bad6ac1e33e3152f0423c4d601693f0603e4d7e9"), looks := false }, kinds := [], alts := [], laidByText := true, laidKinds := [.data, .widerDeep, .data, .wider], laidTests := true, laidLooks := .later }
def TreeTellsCardSaid : Prop := Claim7.holds Tryd.pinned (.plain (OpenSpec.ofChange treeTellsSpec)) treeTellsCard

/-- THE TIED CARD OF 'voussoirlaw06.TreeGrows'. -/
def treeGrowsCard : Claim7 := { stood := { row := treeGrowsRow, standIns := [], harness := (true, "cda8d90a349b53be1ed435a7bad6ac1e33e3152f0423c4d601693f0603e4d7e9"), looks := false }, kinds := [], alts := [], laidByText := true, laidKinds := [.data, .widerDeep, .data, .wider], laidTests := true, laidLooks := .later }
def TreeGrowsCardSaid : Prop := Claim7.holds Tryd.pinned (.plain (OpenSpec.ofChange treeGrowsSpec)) treeGrowsCard

/-- THE TIED CARD OF 'voussoirlaw06.TreeSound'. -/
def treeSoundCard : Claim7 := { stood := { row := treeSoundRow, standIns := [], harness := (true, "cda8d90a349b53be1ed435a7bad6ac1e33e3152f0423c4d601693f0603e4d7e9"), looks := false }, kinds := [], alts := [], laidByText := true, laidKinds := [.data, .wider], laidTests := true, laidLooks := .later }
def TreeSoundCardSaid : Prop := Claim7.holds Tryd.pinned (.plain (OpenSpec.ofChange treeSoundSpec)) treeSoundCard

/-- THE TIED CARD OF 'voussoirlaw06.TreeInputs'. -/
def treeInputsCard : Claim7 := { stood := { row := treeInputsRow, standIns := [], harness := (true, "cda8d90a349b53be1ed435a7bad6ac1e33e3152f0423c4d601693f0603e4d7e9"), looks := false }, kinds := [], alts := [], laidByText := true, laidKinds := [.data, .wider], laidTests := true, laidLooks := .later }
def TreeInputsCardSaid : Prop := Claim7.holds Tryd.pinned (.plain (OpenSpec.ofChange treeInputsSpec)) treeInputsCard

/-- THE TIED CARD OF 'voussoirlaw06.TreeMany'. -/
def treeManyCard : Claim7 := { stood := { row := treeManyRow, standIns := [], harness := (true, "cda8d90a349b53be1ed435a7bad6ac1e33e3152f0423c4d601693f0603e4d7e9"), looks := false }, kinds := [], alts := [], laidByText := true, laidKinds := [.data, .wider], laidTests := true, laidLooks := .later }
def TreeManyCardSaid : Prop := Claim7.holds Tryd.pinned (.plain (OpenSpec.ofChange treeManySpec)) treeManyCard

/-- THE SECOND FORM's CARD OF 'voussoirlaw06.TreeRoots'. -/
def treeRootsUptoCard : Claim7 := { stood := { row := treeRootsUptoRow, standIns := [], harness := (true, "cda8d90a349b53be1ed435a7bad6ac1e33e3152f0423c4d601693f0603e4d7e9"), looks := false }, kinds := [], alts := [], laidByText := true, laidKinds := [.data, .wider], laidTests := true, laidLooks := .later }
def TreeRootsUptoCardSaid : Prop := Claim7.holds Tryd.pinned (.plain (OpenSpec.upto treeRootsSpec)) treeRootsUptoCard

/-- THE SECOND FORM's CARD OF 'voussoirlaw06.TreeHalves'. -/
def treeHalvesUptoCard : Claim7 := { stood := { row := treeHalvesUptoRow, standIns := [], harness := (true, "cda8d90a349b53be1ed435a7bad6ac1e33e3152f0423c4d601693f0603e4d7e9"), looks := false }, kinds := [], alts := [], laidByText := true, laidKinds := [.data, .wider], laidTests := true, laidLooks := .later }
def TreeHalvesUptoCardSaid : Prop := Claim7.holds Tryd.pinned (.plain (OpenSpec.upto treeHalvesSpec)) treeHalvesUptoCard

/-- THE SECOND FORM's CARD OF 'voussoirlaw06.TreeSiblings'. -/
def treeSiblingsUptoCard : Claim7 := { stood := { row := treeSiblingsUptoRow, standIns := [], harness := (true, "cda8d90a349b53be1ed435a7bad6ac1e33e3152f0423c4d601693f0603e4d7e9"), looks := false }, kinds := [], alts := [], laidByText := true, laidKinds := [.data, .wider], laidTests := true, laidLooks := .later }
def TreeSiblingsUptoCardSaid : Prop := Claim7.holds Tryd.pinned (.plain (OpenSpec.upto treeSiblingsSpec)) treeSiblingsUptoCard

/-- THE SECOND FORM's CARD OF 'voussoirlaw06.TreeClimbs'. -/
def treeClimbsUptoCard : Claim7 := { stood := { row := treeClimbsUptoRow, standIns := [], harness := (true, "cda8d90a349b53be1ed435a7bad6ac1e33e3152f0423c4d601693f0603e4d7e9"), looks := false }, kinds := [], alts := [], laidByText := true, laidKinds := [.data, .wider], laidTests := true, laidLooks := .later }
def TreeClimbsUptoCardSaid : Prop := Claim7.holds Tryd.pinned (.plain (OpenSpec.upto treeClimbsSpec)) treeClimbsUptoCard

/-- THE SECOND FORM's CARD OF 'voussoirlaw06.TreeTells'. -/
def treeTellsUptoCard : Claim7 := { stood := { row := treeTellsUptoRow, standIns := [], harness := (true, "cda8d90a349b53be1ed435a7bad6ac1e33e3152f0423c4d601693f0603e4d7e9"), looks := false }, kinds := [], alts := [], laidByText := true, laidKinds := [.data, .widerDeep, .data, .wider], laidTests := true, laidLooks := .later }
def TreeTellsUptoCardSaid : Prop := Claim7.holds Tryd.pinned (.plain (OpenSpec.upto treeTellsSpec)) treeTellsUptoCard

/-- THE SECOND FORM's CARD OF 'voussoirlaw06.TreeGrows'. -/
def treeGrowsUptoCard : Claim7 := { stood := { row := treeGrowsUptoRow, standIns := [], harness := (true, "cda8d90a349b53be1ed435a7bad6ac1e33e3152f0423c4d601693f0603e4d7e9"), looks := false }, kinds := [], alts := [], laidByText := true, laidKinds := [.data, .widerDeep, .data, .wider], laidTests := true, laidLooks := .later }
def TreeGrowsUptoCardSaid : Prop := Claim7.holds Tryd.pinned (.plain (OpenSpec.upto treeGrowsSpec)) treeGrowsUptoCard

/-- THE SECOND FORM's CARD OF 'voussoirlaw06.TreeSound'. -/
def treeSoundUptoCard : Claim7 := { stood := { row := treeSoundUptoRow, standIns := [], harness := (true, "cda8d90a349b53be1ed435a7bad6ac1e33e3152f0423c4d601693f0603e4d7e9"), looks := false }, kinds := [], alts := [], laidByText := true, laidKinds := [.data, .wider], laidTests := true, laidLooks := .later }
def TreeSoundUptoCardSaid : Prop := Claim7.holds Tryd.pinned (.plain (OpenSpec.upto treeSoundSpec)) treeSoundUptoCard

/-- THE SECOND FORM's CARD OF 'voussoirlaw06.TreeInputs'. -/
def treeInputsUptoCard : Claim7 := { stood := { row := treeInputsUptoRow, standIns := [], harness := (true, "cda8d90a349b53be1ed435a7bad6ac1e33e3152f0423c4d601693f0603e4d7e9"), looks := false }, kinds := [], alts := [], laidByText := true, laidKinds := [.data, .wider], laidTests := true, laidLooks := .later }
def TreeInputsUptoCardSaid : Prop := Claim7.holds Tryd.pinned (.plain (OpenSpec.upto treeInputsSpec)) treeInputsUptoCard

/-- THE SECOND FORM's CARD OF 'voussoirlaw06.TreeMany'. -/
def treeManyUptoCard : Claim7 := { stood := { row := treeManyUptoRow, standIns := [], harness := (true, "cda8d90a349b53be1ed435a7bad6ac1e33e3152f0423c4d601693f0603e4d7e9"), looks := false }, kinds := [], alts := [], laidByText := true, laidKinds := [.data, .wider], laidTests := true, laidLooks := .later }
def TreeManyUptoCardSaid : Prop := Claim7.holds Tryd.pinned (.plain (OpenSpec.upto treeManySpec)) treeManyUptoCard
end Rows
end Go.Proofs.YtmifllopcbjliaaDoor
