/-
  DERIVED. GIVEN WITH THE SEED: THE PROGRAM's TIES (one call each: nine closed facts by the kernel) AND EACH ROW's TIE, after the 31st guide's Derived/Test/Toyas{Tie, Card}.lean. No idea stands in it: it is a product of the set-up. Laid BY PROGRAM, IN A SANDBOX (cutbox-door.mjs). By AI agents, Wed Nov 11 2026. No macro, syntax, notation, axiom, sorry.
-/
import Derived.Test.YtmmoadhjlgbmhaaDoorRows
import Derived.LaidByTextLater
import Derived.SevenTiedAt
import Derived.LaidSub
import Derived.LaidOnce
namespace Go.Proofs.YtmmoadhjlgbmhaaDoor
open Go
set_option maxRecDepth 100000
theorem seatTie1 : Tryd.prog.laidByTextLater [("voussoir/voussoirref01.k", Rows.laid_voussoir_voussoirref01_k), ("voussoir/voussoirref01.first", Rows.laid_voussoir_voussoirref01_first), ("voussoir/sha.k", Rows.laid_voussoir_sha_k), ("voussoir/sha.first", Rows.laid_voussoir_sha_first)] [.data, .widerDeep, .data, .wider] true :=
  Program.laidByTextLater_by_one 29 8 65 (by kernel_rfl) (by kernel_rfl) (by kernel_rfl) (by kernel_rfl) (by kernel_rfl) (by kernel_rfl) (fun _ _ => by kernel_rfl)
theorem noOwnUnsafe : Tryd.pinned.checked.prog.headLifts.contains "ownunsafe" = false := by kernel_rfl
theorem tie : Tryd.prog.laidByTextLater [("voussoir/voussoirref01.k", Rows.laid_voussoir_voussoirref01_k), ("voussoir/voussoirref01.first", Rows.laid_voussoir_voussoirref01_first), ("voussoir/sha.k", Rows.laid_voussoir_sha_k), ("voussoir/sha.first", Rows.laid_voussoir_sha_first)] [.data, .widerDeep, .data, .wider] true :=
  Program.laidByTextLater.sub seatTie1 ["voussoir/voussoirref01.k", "voussoir/voussoirref01.first", "voussoir/sha.k", "voussoir/sha.first"] (by kernel_rfl) (by kernel_rfl)
theorem wotsTells_row_tie : Rows.wotsTellsRow.laidByTextAt .later Tryd.pinned [.data, .widerDeep, .data, .wider] true :=
  OpenClaim.laidByTextAt_later rfl rfl tie noOwnUnsafe
theorem wotsWalks_row_tie : Rows.wotsWalksRow.laidByTextAt .later Tryd.pinned [.data, .widerDeep, .data, .wider] true :=
  OpenClaim.laidByTextAt_later rfl rfl tie noOwnUnsafe
theorem tie2 : Tryd.prog.laidByTextLater [("voussoir/sha.k", Rows.laid_voussoir_sha_k), ("voussoir/sha.first", Rows.laid_voussoir_sha_first)] [.data, .wider] true :=
  Program.laidByTextLater.sub seatTie1 ["voussoir/sha.k", "voussoir/sha.first"] (by kernel_rfl) (by kernel_rfl)
theorem wotsBack_row_tie : Rows.wotsBackRow.laidByTextAt .later Tryd.pinned [.data, .wider] true :=
  OpenClaim.laidByTextAt_later rfl rfl tie2 noOwnUnsafe
theorem wotsDigits_row_tie : Rows.wotsDigitsRow.laidByTextAt .later Tryd.pinned [.data, .wider] true :=
  OpenClaim.laidByTextAt_later rfl rfl tie2 noOwnUnsafe
theorem wotsOn_row_tie : Rows.wotsOnRow.laidByTextAt .later Tryd.pinned [.data, .wider] true :=
  OpenClaim.laidByTextAt_later rfl rfl tie2 noOwnUnsafe
theorem wotsSteps_row_tie : Rows.wotsStepsRow.laidByTextAt .later Tryd.pinned [.data, .wider] true :=
  OpenClaim.laidByTextAt_later rfl rfl tie2 noOwnUnsafe
theorem wotsEnds_row_tie : Rows.wotsEndsRow.laidByTextAt .later Tryd.pinned [.data, .wider] true :=
  OpenClaim.laidByTextAt_later rfl rfl tie2 noOwnUnsafe
theorem wotsTellsUpto_row_tie : Rows.wotsTellsUptoRow.laidByTextAt .later Tryd.pinned [.data, .widerDeep, .data, .wider] true :=
  OpenClaim.laidByTextAt_later rfl rfl tie noOwnUnsafe
theorem wotsWalksUpto_row_tie : Rows.wotsWalksUptoRow.laidByTextAt .later Tryd.pinned [.data, .widerDeep, .data, .wider] true :=
  OpenClaim.laidByTextAt_later rfl rfl tie noOwnUnsafe
theorem wotsBackUpto_row_tie : Rows.wotsBackUptoRow.laidByTextAt .later Tryd.pinned [.data, .wider] true :=
  OpenClaim.laidByTextAt_later rfl rfl tie2 noOwnUnsafe
theorem wotsDigitsUpto_row_tie : Rows.wotsDigitsUptoRow.laidByTextAt .later Tryd.pinned [.data, .wider] true :=
  OpenClaim.laidByTextAt_later rfl rfl tie2 noOwnUnsafe
theorem wotsOnUpto_row_tie : Rows.wotsOnUptoRow.laidByTextAt .later Tryd.pinned [.data, .wider] true :=
  OpenClaim.laidByTextAt_later rfl rfl tie2 noOwnUnsafe
theorem wotsStepsUpto_row_tie : Rows.wotsStepsUptoRow.laidByTextAt .later Tryd.pinned [.data, .wider] true :=
  OpenClaim.laidByTextAt_later rfl rfl tie2 noOwnUnsafe
theorem wotsEndsUpto_row_tie : Rows.wotsEndsUptoRow.laidByTextAt .later Tryd.pinned [.data, .wider] true :=
  OpenClaim.laidByTextAt_later rfl rfl tie2 noOwnUnsafe
end Go.Proofs.YtmmoadhjlgbmhaaDoor
