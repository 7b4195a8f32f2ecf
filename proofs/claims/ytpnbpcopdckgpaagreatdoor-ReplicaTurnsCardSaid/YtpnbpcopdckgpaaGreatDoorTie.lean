/-
  DERIVED. GIVEN WITH THE SEED: THE PROGRAM's TIES (one call each: nine closed facts by the kernel) AND EACH ROW's TIE, after the 31st guide's Derived/Test/Toyas{Tie, Card}.lean. No idea stands in it: it is a product of the set-up. Laid BY PROGRAM, IN A SANDBOX (cutbox-door.mjs). By AI agents, Wed Nov 11 2026. No macro, syntax, notation, axiom, sorry.
-/
import Derived.Test.YtpnbpcopdckgpaaGreatDoorRows
import Derived.LaidByTextLater
import Derived.SevenTiedAt
import Derived.LaidSub
import Derived.LaidOnce
namespace Go.Proofs.YtpnbpcopdckgpaaGreatDoor
open Go
set_option maxRecDepth 100000
theorem seatTie1 : Tryz.prog.laidByTextLater [("voussoir/voussoirref01.k", Rows.laid_voussoir_voussoirref01_k), ("voussoir/voussoirref01.first", Rows.laid_voussoir_voussoirref01_first), ("voussoir/sha.k", Rows.laid_voussoir_sha_k), ("voussoir/sha.first", Rows.laid_voussoir_sha_first)] [.data, .widerDeep, .data, .wider] true :=
  Program.laidByTextLater_by_one 29 8 65 (by kernel_rfl) (by kernel_rfl) (by kernel_rfl) (by kernel_rfl) (by kernel_rfl) (by kernel_rfl) (fun _ _ => by kernel_rfl)
theorem noOwnUnsafe : Tryz.pinned.checked.prog.headLifts.contains "ownunsafe" = false := by kernel_rfl
theorem tie : Tryz.prog.laidByTextLater [("voussoir/voussoirref01.k", Rows.laid_voussoir_voussoirref01_k), ("voussoir/voussoirref01.first", Rows.laid_voussoir_voussoirref01_first), ("voussoir/sha.k", Rows.laid_voussoir_sha_k), ("voussoir/sha.first", Rows.laid_voussoir_sha_first)] [.data, .widerDeep, .data, .wider] true :=
  Program.laidByTextLater.sub seatTie1 ["voussoir/voussoirref01.k", "voussoir/voussoirref01.first", "voussoir/sha.k", "voussoir/sha.first"] (by kernel_rfl) (by kernel_rfl)
theorem replicaTells_row_tie : Rows.replicaTellsRow.laidByTextAt .later Tryz.pinned [.data, .widerDeep, .data, .wider] true :=
  OpenClaim.laidByTextAt_later rfl rfl tie noOwnUnsafe
theorem replicaLeads_row_tie : Rows.replicaLeadsRow.laidByTextAt .later Tryz.pinned [.data, .widerDeep, .data, .wider] true :=
  OpenClaim.laidByTextAt_later rfl rfl tie noOwnUnsafe
theorem replicaIDs_row_tie : Rows.replicaIDsRow.laidByTextAt .later Tryz.pinned [.data, .widerDeep, .data, .wider] true :=
  OpenClaim.laidByTextAt_later rfl rfl tie noOwnUnsafe
theorem replicaTurns_row_tie : Rows.replicaTurnsRow.laidByTextAt .later Tryz.pinned [.data, .widerDeep, .data, .wider] true :=
  OpenClaim.laidByTextAt_later rfl rfl tie noOwnUnsafe
theorem replicaGoes_row_tie : Rows.replicaGoesRow.laidByTextAt .later Tryz.pinned [.data, .widerDeep, .data, .wider] true :=
  OpenClaim.laidByTextAt_later rfl rfl tie noOwnUnsafe
theorem replicaRefuses_row_tie : Rows.replicaRefusesRow.laidByTextAt .later Tryz.pinned [.data, .widerDeep, .data, .wider] true :=
  OpenClaim.laidByTextAt_later rfl rfl tie noOwnUnsafe
theorem replicaOnce_row_tie : Rows.replicaOnceRow.laidByTextAt .later Tryz.pinned [.data, .widerDeep, .data, .wider] true :=
  OpenClaim.laidByTextAt_later rfl rfl tie noOwnUnsafe
theorem replicaTellsUpto_row_tie : Rows.replicaTellsUptoRow.laidByTextAt .later Tryz.pinned [.data, .widerDeep, .data, .wider] true :=
  OpenClaim.laidByTextAt_later rfl rfl tie noOwnUnsafe
theorem replicaLeadsUpto_row_tie : Rows.replicaLeadsUptoRow.laidByTextAt .later Tryz.pinned [.data, .widerDeep, .data, .wider] true :=
  OpenClaim.laidByTextAt_later rfl rfl tie noOwnUnsafe
theorem replicaIDsUpto_row_tie : Rows.replicaIDsUptoRow.laidByTextAt .later Tryz.pinned [.data, .widerDeep, .data, .wider] true :=
  OpenClaim.laidByTextAt_later rfl rfl tie noOwnUnsafe
theorem replicaTurnsUpto_row_tie : Rows.replicaTurnsUptoRow.laidByTextAt .later Tryz.pinned [.data, .widerDeep, .data, .wider] true :=
  OpenClaim.laidByTextAt_later rfl rfl tie noOwnUnsafe
theorem replicaGoesUpto_row_tie : Rows.replicaGoesUptoRow.laidByTextAt .later Tryz.pinned [.data, .widerDeep, .data, .wider] true :=
  OpenClaim.laidByTextAt_later rfl rfl tie noOwnUnsafe
theorem replicaRefusesUpto_row_tie : Rows.replicaRefusesUptoRow.laidByTextAt .later Tryz.pinned [.data, .widerDeep, .data, .wider] true :=
  OpenClaim.laidByTextAt_later rfl rfl tie noOwnUnsafe
theorem replicaOnceUpto_row_tie : Rows.replicaOnceUptoRow.laidByTextAt .later Tryz.pinned [.data, .widerDeep, .data, .wider] true :=
  OpenClaim.laidByTextAt_later rfl rfl tie noOwnUnsafe
end Go.Proofs.YtpnbpcopdckgpaaGreatDoor
