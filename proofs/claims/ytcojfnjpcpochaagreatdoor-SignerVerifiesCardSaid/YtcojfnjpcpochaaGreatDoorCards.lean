/-
  DERIVED. GIVEN WITH THE SEED: THE CARDS: each row of YtcojfnjpcpochaaGreatDoorRows.lean that lists a variable, with what it lists TIED to the program's text (the seventh form; the later family's looks); each row that meets fmt, with fmt's text TOLD by the authors' own Lean function (tested against real Go, not proved from fmt's source: count such statements apart). THE CARD IS WHAT COUNTS. Prove the row's statement (the work); the ties are given (YtcojfnjpcpochaaGreatDoorTie.lean); close each card by the builder's one call (the guide's Derived/Test/ToyasCard.lean, 'card_holds'). Laid BY PROGRAM, IN A SANDBOX (cutbox-door.mjs). By AI agents, Wed Nov 11 2026. No macro, syntax, notation, axiom, sorry.
-/
import Derived.Test.YtcojfnjpcpochaaGreatDoorRows
import GoSem.ClaimSeven
namespace Go.Proofs.YtcojfnjpcpochaaGreatDoor
namespace Rows

/-- THE TIED CARD OF 'voussoirlaw07.SignerVerifies'. -/
def signerVerifiesCard : Claim7 := { stood := { row := signerVerifiesRow, standIns := [], harness := (true, "60f43f32474376fb78ec25348f5f0a7643945c0850013a335ea20848a3133bd3"), looks := false }, kinds := [], alts := [], laidByText := true, laidKinds := [.data, .widerDeep, .data, .wider], laidTests := true, laidLooks := .later }
def SignerVerifiesCardSaid : Prop := Claim7.holds Tryz.pinned (.plain (OpenSpec.ofChange signerVerifiesSpec)) signerVerifiesCard

/-- THE SECOND FORM's CARD OF 'voussoirlaw07.SignerVerifies'. -/
def signerVerifiesUptoCard : Claim7 := { stood := { row := signerVerifiesUptoRow, standIns := [], harness := (true, "60f43f32474376fb78ec25348f5f0a7643945c0850013a335ea20848a3133bd3"), looks := false }, kinds := [], alts := [], laidByText := true, laidKinds := [.data, .widerDeep, .data, .wider], laidTests := true, laidLooks := .later }
def SignerVerifiesUptoCardSaid : Prop := Claim7.holds Tryz.pinned (.plain (OpenSpec.upto signerVerifiesSpec)) signerVerifiesUptoCard
end Rows
end Go.Proofs.YtcojfnjpcpochaaGreatDoor
