/-
  DERIVED. GIVEN WITH THE SEED: THE PROGRAM's TIES (one call each: nine closed facts by the kernel) AND EACH ROW's TIE, after the 31st guide's Derived/Test/Toyas{Tie, Card}.lean. No idea stands in it: it is a product of the set-up. Laid BY PROGRAM, IN A SANDBOX (cutbox-door.mjs). By AI agents, Wed Nov 11 2026. No macro, syntax, notation, axiom, sorry.
-/
import Derived.Test.YtmifllopcbjliaaDoorRows
import Derived.LaidByTextLater
import Derived.SevenTiedAt
import Derived.LaidSub
import Derived.LaidOnce
namespace Go.Proofs.YtmifllopcbjliaaDoor
open Go
set_option maxRecDepth 100000
theorem seatTie1 : Tryd.prog.laidByTextLater [("voussoir/voussoirref01.k", Rows.laid_voussoir_voussoirref01_k), ("voussoir/voussoirref01.first", Rows.laid_voussoir_voussoirref01_first), ("voussoir/sha.k", Rows.laid_voussoir_sha_k), ("voussoir/sha.first", Rows.laid_voussoir_sha_first)] [.data, .widerDeep, .data, .wider] true :=
  Program.laidByTextLater_by_one 29 8 65 (by kernel_rfl) (by kernel_rfl) (by kernel_rfl) (by kernel_rfl) (by kernel_rfl) (by kernel_rfl) (fun _ _ => by kernel_rfl)
theorem noOwnUnsafe : Tryd.pinned.checked.prog.headLifts.contains "ownunsafe" = false := by kernel_rfl
theorem tie : Tryd.prog.laidByTextLater [("voussoir/sha.k", Rows.laid_voussoir_sha_k), ("voussoir/sha.first", Rows.laid_voussoir_sha_first)] [.data, .wider] true :=
  Program.laidByTextLater.sub seatTie1 ["voussoir/sha.k", "voussoir/sha.first"] (by kernel_rfl) (by kernel_rfl)
theorem treeRoots_row_tie : Rows.treeRootsRow.laidByTextAt .later Tryd.pinned [.data, .wider] true :=
  OpenClaim.laidByTextAt_later rfl rfl tie noOwnUnsafe
theorem treeHalves_row_tie : Rows.treeHalvesRow.laidByTextAt .later Tryd.pinned [.data, .wider] true :=
  OpenClaim.laidByTextAt_later rfl rfl tie noOwnUnsafe
theorem treeSiblings_row_tie : Rows.treeSiblingsRow.laidByTextAt .later Tryd.pinned [.data, .wider] true :=
  OpenClaim.laidByTextAt_later rfl rfl tie noOwnUnsafe
theorem treeClimbs_row_tie : Rows.treeClimbsRow.laidByTextAt .later Tryd.pinned [.data, .wider] true :=
  OpenClaim.laidByTextAt_later rfl rfl tie noOwnUnsafe
theorem treeSound_row_tie : Rows.treeSoundRow.laidByTextAt .later Tryd.pinned [.data, .wider] true :=
  OpenClaim.laidByTextAt_later rfl rfl tie noOwnUnsafe
theorem treeInputs_row_tie : Rows.treeInputsRow.laidByTextAt .later Tryd.pinned [.data, .wider] true :=
  OpenClaim.laidByTextAt_later rfl rfl tie noOwnUnsafe
theorem treeMany_row_tie : Rows.treeManyRow.laidByTextAt .later Tryd.pinned [.data, .wider] true :=
  OpenClaim.laidByTextAt_later rfl rfl tie noOwnUnsafe
theorem tie2 : Tryd.prog.laidByTextLater [("voussoir/voussoirref01.k", Rows.laid_voussoir_voussoirref01_k), ("voussoir/voussoirref01.first", Rows.laid_voussoir_voussoirref01_first), ("voussoir/sha.k", Rows.laid_voussoir_sha_k), ("voussoir/sha.first", Rows.laid_voussoir_sha_first)] [.data, .widerDeep, .data, .wider] true :=
  Program.laidByTextLater.sub seatTie1 ["voussoir/voussoirref01.k", "voussoir/voussoirref01.first", "voussoir/sha.k", "voussoir/sha.first"] (by kernel_rfl) (by kernel_rfl)
theorem treeTells_row_tie : Rows.treeTellsRow.laidByTextAt .later Tryd.pinned [.data, .widerDeep, .data, .wider] true :=
  OpenClaim.laidByTextAt_later rfl rfl tie2 noOwnUnsafe
theorem treeGrows_row_tie : Rows.treeGrowsRow.laidByTextAt .later Tryd.pinned [.data, .widerDeep, .data, .wider] true :=
  OpenClaim.laidByTextAt_later rfl rfl tie2 noOwnUnsafe
theorem treeRootsUpto_row_tie : Rows.treeRootsUptoRow.laidByTextAt .later Tryd.pinned [.data, .wider] true :=
  OpenClaim.laidByTextAt_later rfl rfl tie noOwnUnsafe
theorem treeHalvesUpto_row_tie : Rows.treeHalvesUptoRow.laidByTextAt .later Tryd.pinned [.data, .wider] true :=
  OpenClaim.laidByTextAt_later rfl rfl tie noOwnUnsafe
theorem treeSiblingsUpto_row_tie : Rows.treeSiblingsUptoRow.laidByTextAt .later Tryd.pinned [.data, .wider] true :=
  OpenClaim.laidByTextAt_later rfl rfl tie noOwnUnsafe
theorem treeClimbsUpto_row_tie : Rows.treeClimbsUptoRow.laidByTextAt .later Tryd.pinned [.data, .wider] true :=
  OpenClaim.laidByTextAt_later rfl rfl tie noOwnUnsafe
theorem treeTellsUpto_row_tie : Rows.treeTellsUptoRow.laidByTextAt .later Tryd.pinned [.data, .widerDeep, .data, .wider] true :=
  OpenClaim.laidByTextAt_later rfl rfl tie2 noOwnUnsafe
theorem treeGrowsUpto_row_tie : Rows.treeGrowsUptoRow.laidByTextAt .later Tryd.pinned [.data, .widerDeep, .data, .wider] true :=
  OpenClaim.laidByTextAt_later rfl rfl tie2 noOwnUnsafe
theorem treeSoundUpto_row_tie : Rows.treeSoundUptoRow.laidByTextAt .later Tryd.pinned [.data, .wider] true :=
  OpenClaim.laidByTextAt_later rfl rfl tie noOwnUnsafe
theorem treeInputsUpto_row_tie : Rows.treeInputsUptoRow.laidByTextAt .later Tryd.pinned [.data, .wider] true :=
  OpenClaim.laidByTextAt_later rfl rfl tie noOwnUnsafe
theorem treeManyUpto_row_tie : Rows.treeManyUptoRow.laidByTextAt .later Tryd.pinned [.data, .wider] true :=
  OpenClaim.laidByTextAt_later rfl rfl tie noOwnUnsafe
end Go.Proofs.YtmifllopcbjliaaDoor
