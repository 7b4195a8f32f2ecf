/-
  DERIVED. GIVEN WITH THE SEED: THE CARDS: each row of YtmmoadhjlgbmhaaDoorRows.lean that lists a variable, with what it lists TIED to the program's text (the seventh form; the later family's looks); each row that meets fmt, with fmt's text TOLD by the authors' own Lean function (tested against real Go, not proved from fmt's source: count such statements apart). THE CARD IS WHAT COUNTS. Prove the row's statement (the work); the ties are given (YtmmoadhjlgbmhaaDoorTie.lean); close each card by the builder's one call (the guide's Derived/Test/ToyasCard.lean, 'card_holds'). Laid BY PROGRAM, IN A SANDBOX (cutbox-door.mjs). By AI agents, Wed Nov 11 2026. No macro, syntax, notation, axiom, sorry.
-/
import Derived.Test.YtmmoadhjlgbmhaaDoorRows
import GoSem.ClaimSeven
namespace Go.Proofs.YtmmoadhjlgbmhaaDoor
namespace Rows

/-- THE TIED CARD OF 'voussoirlaw05.WotsTells'. -/
def wotsTellsCard : Claim7 := { stood := { row := wotsTellsRow, standIns := [], harness := (true, "5a34b0c2c463bd19c3ae831685aa354475732bedcbdbc876a700133b95bf43e8"), looks := false }, kinds := [], alts := [], laidByText := true, laidKinds := [.data, .widerDeep, .data, .wider], laidTests := true, laidLooks := .later }
def WotsTellsCardSaid : Prop := Claim7.holds Tryd.pinned (.plain (OpenSpec.ofChange wotsTellsSpec)) wotsTellsCard

/-- THE TIED CARD OF 'voussoirlaw05.WotsWalks'. -/
def wotsWalksCard : Claim7 := { stood := { row := wotsWalksRow, standIns := [], harness := (true, "5a34b0c2c463bd19c3ae831685aa354475732bedcbdbc876a700133b95bf43e8"), looks := false }, kinds := [], alts := [], laidByText := true, laidKinds := [.data, .widerDeep, .data, .wider], laidTests := true, laidLooks := .later }
def WotsWalksCardSaid : Prop := Claim7.holds Tryd.pinned (.plain (OpenSpec.ofChange wotsWalksSpec)) wotsWalksCard

/-- THE TIED CARD OF 'voussoirlaw05.WotsBack'. -/
def wotsBackCard : Claim7 := { stood := { row := wotsBackRow, standIns := [], harness := (true, "5a34b0c2c463bd19c3ae831685aa354475732bedcbdbc876a700133b95bf43e8"), looks := false }, kinds := [], alts := [], laidByText := true, laidKinds := [.data, .wider], laidTests := true, laidLooks := .later }
def WotsBackCardSaid : Prop := Claim7.holds Tryd.pinned (.plain (OpenSpec.ofChange wotsBackSpec)) wotsBackCard

/-- THE TIED CARD OF 'voussoirlaw05.WotsDigits'. -/
def wotsDigitsCard : Claim7 := { stood := { row := wotsDigitsRow, standIns := [], harness := (true, "5a34b0c2c463bd19c3ae831685aa354475732bedcbdbc876a700133b95bf43e8"), looks := false }, kinds := [], alts := [], laidByText := true, laidKinds := [.data, .wider], laidTests := true, laidLooks := .later }
def WotsDigitsCardSaid : Prop := Claim7.holds Tryd.pinned (.plain (OpenSpec.ofChange wotsDigitsSpec)) wotsDigitsCard

/-- THE TIED CARD OF 'voussoirlaw05.WotsOn'. -/
def wotsOnCard : Claim7 := { stood := { row := wotsOnRow, standIns := [], harness := (true, "5a34b0c2c463bd19c3ae831685aa354475732bedcbdbc876a700133b95bf43e8"), looks := false }, kinds := [], alts := [], laidByText := true, laidKinds := [.data, .wider], laidTests := true, laidLooks := .later }
def WotsOnCardSaid : Prop := Claim7.holds Tryd.pinned (.plain (OpenSpec.ofChange wotsOnSpec)) wotsOnCard

/-- THE TIED CARD OF 'voussoirlaw05.WotsSteps'. -/
def wotsStepsCard : Claim7 := { stood := { row := wotsStepsRow, standIns := [], harness := (true, "5a34b0c2c463bd19c3ae831685aa354475732bedcbdbc876a700133b95bf43e8"), looks := false }, kinds := [], alts := [], laidByText := true, laidKinds := [.data, .wider], laidTests := true, laidLooks := .later }
def WotsStepsCardSaid : Prop := Claim7.holds Tryd.pinned (.plain (OpenSpec.ofChange wotsStepsSpec)) wotsStepsCard

/-- THE TIED CARD OF 'voussoirlaw05.WotsEnds'. -/
def wotsEndsCard : Claim7 := { stood := { row := wotsEndsRow, standIns := [], harness := (true, "5a34b0c2c463bd19c3ae831685aa354475732bedcbdbc876a700133b95bf43e8"), looks := false }, kinds := [], alts := [], laidByText := true, laidKinds := [.data, .wider], laidTests := true, laidLooks := .later }
def WotsEndsCardSaid : Prop := Claim7.holds Tryd.pinned (.plain (OpenSpec.ofChange wotsEndsSpec)) wotsEndsCard

/-- THE SECOND FORM's CARD OF 'voussoirlaw05.WotsTells'. -/
def wotsTellsUptoCard : Claim7 := { stood := { row := wotsTellsUptoRow, standIns := [], harness := (true, "5a34b0c2c463bd19c3ae831685aa354475732bedcbdbc876a700133b95bf43e8"), looks := false }, kinds := [], alts := [], laidByText := true, laidKinds := [.data, .widerDeep, .data, .wider], laidTests := true, laidLooks := .later }
def WotsTellsUptoCardSaid : Prop := Claim7.holds Tryd.pinned (.plain (OpenSpec.upto wotsTellsSpec)) wotsTellsUptoCard

/-- THE SECOND FORM's CARD OF 'voussoirlaw05.WotsWalks'. -/
def wotsWalksUptoCard : Claim7 := { stood := { row := wotsWalksUptoRow, standIns := [], harness := (true, "5a34b0c2c463bd19c3ae831685aa354475732bedcbdbc876a700133b95bf43e8"), looks := false }, kinds := [], alts := [], laidByText := true, laidKinds := [.data, .widerDeep, .data, .wider], laidTests := true, laidLooks := .later }
def WotsWalksUptoCardSaid : Prop := Claim7.holds Tryd.pinned (.plain (OpenSpec.upto wotsWalksSpec)) wotsWalksUptoCard

/-- THE SECOND FORM's CARD OF 'voussoirlaw05.WotsBack'. -/
def wotsBackUptoCard : Claim7 := { stood := { row := wotsBackUptoRow, standIns := [], harness := (true, "5a34b0c2c463bd19c3ae831685aa354475732bedcbdbc876a700133b95bf43e8"), looks := false }, kinds := [], alts := [], laidByText := true, laidKinds := [.data, .wider], laidTests := true, laidLooks := .later }
def WotsBackUptoCardSaid : Prop := Claim7.holds Tryd.pinned (.plain (OpenSpec.upto wotsBackSpec)) wotsBackUptoCard

/-- THE SECOND FORM's CARD OF 'voussoirlaw05.WotsDigits'. -/
def wotsDigitsUptoCard : Claim7 := { stood := { row := wotsDigitsUptoRow, standIns := [], harness := (true, "5a34b0c2c463bd19c3ae831685aa354475732bedcbdbc876a700133b95bf43e8"), looks := false }, kinds := [], alts := [], laidByText := true, laidKinds := [.data, .wider], laidTests := true, laidLooks := .later }
def WotsDigitsUptoCardSaid : Prop := Claim7.holds Tryd.pinned (.plain (OpenSpec.upto wotsDigitsSpec)) wotsDigitsUptoCard

/-- THE SECOND FORM's CARD OF 'voussoirlaw05.WotsOn'. -/
def wotsOnUptoCard : Claim7 := { stood := { row := wotsOnUptoRow, standIns := [], harness := (true, "5a34b0c2c463bd19c3ae831685aa354475732bedcbdbc876a700133b95bf43e8"), looks := false }, kinds := [], alts := [], laidByText := true, laidKinds := [.data, .wider], laidTests := true, laidLooks := .later }
def WotsOnUptoCardSaid : Prop := Claim7.holds Tryd.pinned (.plain (OpenSpec.upto wotsOnSpec)) wotsOnUptoCard

/-- THE SECOND FORM's CARD OF 'voussoirlaw05.WotsSteps'. -/
def wotsStepsUptoCard : Claim7 := { stood := { row := wotsStepsUptoRow, standIns := [], harness := (true, "5a34b0c2c463bd19c3ae831685aa354475732bedcbdbc876a700133b95bf43e8"), looks := false }, kinds := [], alts := [], laidByText := true, laidKinds := [.data, .wider], laidTests := true, laidLooks := .later }
def WotsStepsUptoCardSaid : Prop := Claim7.holds Tryd.pinned (.plain (OpenSpec.upto wotsStepsSpec)) wotsStepsUptoCard

/-- THE SECOND FORM's CARD OF 'voussoirlaw05.WotsEnds'. -/
def wotsEndsUptoCard : Claim7 := { stood := { row := wotsEndsUptoRow, standIns := [], harness := (true, "5a34b0c2c463bd19c3ae831685aa354475732bedcbdbc876a700133b95bf43e8"), looks := false }, kinds := [], alts := [], laidByText := true, laidKinds := [.data, .wider], laidTests := true, laidLooks := .later }
def WotsEndsUptoCardSaid : Prop := Claim7.holds Tryd.pinned (.plain (OpenSpec.upto wotsEndsSpec)) wotsEndsUptoCard
end Rows
end Go.Proofs.YtmmoadhjlgbmhaaDoor
