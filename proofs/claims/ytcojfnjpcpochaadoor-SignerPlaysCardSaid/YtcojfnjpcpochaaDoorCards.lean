/-
  DERIVED. GIVEN WITH THE SEED: THE CARDS: each row of YtcojfnjpcpochaaDoorRows.lean that lists a variable, with what it lists TIED to the program's text (the seventh form; the later family's looks); each row that meets fmt, with fmt's text TOLD by the authors' own Lean function (tested against real Go, not proved from fmt's source: count such statements apart). THE CARD IS WHAT COUNTS. Prove the row's statement (the work); the ties are given (YtcojfnjpcpochaaDoorTie.lean); close each card by the builder's one call (the guide's Derived/Test/ToyasCard.lean, 'card_holds'). Laid BY PROGRAM, IN A SANDBOX (cutbox-door.mjs). By AI agents, Wed Nov 11 2026. No macro, syntax, notation, axiom, sorry.
-/
import Derived.Test.YtcojfnjpcpochaaDoorRows
import GoSem.ClaimSeven
namespace Go.Proofs.YtcojfnjpcpochaaDoor
namespace Rows

/-- THE TIED CARD OF 'voussoirlaw07.SignerPlays'. -/
def signerPlaysCard : Claim7 := { stood := { row := signerPlaysRow, standIns := [], harness := (true, "d78bc8001bfdd6f8e3fc969a8e857d4ed35f3808355ed667835a60ce7a8922b9"), looks := false }, kinds := [], alts := [], laidByText := true, laidKinds := [.data, .widerDeep, .data, .wider], laidTests := true, laidLooks := .later }
def SignerPlaysCardSaid : Prop := Claim7.holds Tryd.pinned (.plain (OpenSpec.ofChange signerPlaysSpec)) signerPlaysCard

/-- THE TIED CARD OF 'voussoirlaw07.SignerBack'. -/
def signerBackCard : Claim7 := { stood := { row := signerBackRow, standIns := [], harness := (true, "d78bc8001bfdd6f8e3fc969a8e857d4ed35f3808355ed667835a60ce7a8922b9"), looks := false }, kinds := [], alts := [], laidByText := true, laidKinds := [.data, .wider], laidTests := true, laidLooks := .later }
def SignerBackCardSaid : Prop := Claim7.holds Tryd.pinned (.plain (OpenSpec.ofChange signerBackSpec)) signerBackCard

/-- THE TIED CARD OF 'voussoirlaw07.SignerGoes'. -/
def signerGoesCard : Claim7 := { stood := { row := signerGoesRow, standIns := [], harness := (true, "d78bc8001bfdd6f8e3fc969a8e857d4ed35f3808355ed667835a60ce7a8922b9"), looks := false }, kinds := [], alts := [], laidByText := true, laidKinds := [.data, .wider], laidTests := true, laidLooks := .later }
def SignerGoesCardSaid : Prop := Claim7.holds Tryd.pinned (.plain (OpenSpec.ofChange signerGoesSpec)) signerGoesCard

/-- THE TIED CARD OF 'voussoirlaw07.SignerWhole'. -/
def signerWholeCard : Claim7 := { stood := { row := signerWholeRow, standIns := [], harness := (true, "d78bc8001bfdd6f8e3fc969a8e857d4ed35f3808355ed667835a60ce7a8922b9"), looks := false }, kinds := [], alts := [], laidByText := true, laidKinds := [.data, .wider], laidTests := true, laidLooks := .later }
def SignerWholeCardSaid : Prop := Claim7.holds Tryd.pinned (.plain (OpenSpec.ofChange signerWholeSpec)) signerWholeCard

/-- THE TIED CARD OF 'voussoirlaw07.SignerKeys'. -/
def signerKeysCard : Claim7 := { stood := { row := signerKeysRow, standIns := [], harness := (true, "d78bc8001bfdd6f8e3fc969a8e857d4ed35f3808355ed667835a60ce7a8922b9"), looks := false }, kinds := [], alts := [], laidByText := true, laidKinds := [.data, .wider], laidTests := true, laidLooks := .later }
def SignerKeysCardSaid : Prop := Claim7.holds Tryd.pinned (.plain (OpenSpec.ofChange signerKeysSpec)) signerKeysCard

/-- THE TIED CARD OF 'voussoirlaw07.SignerEnds'. -/
def signerEndsCard : Claim7 := { stood := { row := signerEndsRow, standIns := [], harness := (true, "d78bc8001bfdd6f8e3fc969a8e857d4ed35f3808355ed667835a60ce7a8922b9"), looks := false }, kinds := [], alts := [], laidByText := true, laidKinds := [.data, .wider], laidTests := true, laidLooks := .later }
def SignerEndsCardSaid : Prop := Claim7.holds Tryd.pinned (.plain (OpenSpec.ofChange signerEndsSpec)) signerEndsCard

/-- THE SECOND FORM's CARD OF 'voussoirlaw07.SignerPlays'. -/
def signerPlaysUptoCard : Claim7 := { stood := { row := signerPlaysUptoRow, standIns := [], harness := (true, "d78bc8001bfdd6f8e3fc969a8e857d4ed35f3808355ed667835a60ce7a8922b9"), looks := false }, kinds := [], alts := [], laidByText := true, laidKinds := [.data, .widerDeep, .data, .wider], laidTests := true, laidLooks := .later }
def SignerPlaysUptoCardSaid : Prop := Claim7.holds Tryd.pinned (.plain (OpenSpec.upto signerPlaysSpec)) signerPlaysUptoCard

/-- THE SECOND FORM's CARD OF 'voussoirlaw07.SignerBack'. -/
def signerBackUptoCard : Claim7 := { stood := { row := signerBackUptoRow, standIns := [], harness := (true, "d78bc8001bfdd6f8e3fc969a8e857d4ed35f3808355ed667835a60ce7a8922b9"), looks := false }, kinds := [], alts := [], laidByText := true, laidKinds := [.data, .wider], laidTests := true, laidLooks := .later }
def SignerBackUptoCardSaid : Prop := Claim7.holds Tryd.pinned (.plain (OpenSpec.upto signerBackSpec)) signerBackUptoCard

/-- THE SECOND FORM's CARD OF 'voussoirlaw07.SignerGoes'. -/
def signerGoesUptoCard : Claim7 := { stood := { row := signerGoesUptoRow, standIns := [], harness := (true, "d78bc8001bfdd6f8e3fc969a8e857d4ed35f3808355ed667835a60ce7a8922b9"), looks := false }, kinds := [], alts := [], laidByText := true, laidKinds := [.data, .wider], laidTests := true, laidLooks := .later }
def SignerGoesUptoCardSaid : Prop := Claim7.holds Tryd.pinned (.plain (OpenSpec.upto signerGoesSpec)) signerGoesUptoCard

/-- THE SECOND FORM's CARD OF 'voussoirlaw07.SignerWhole'. -/
def signerWholeUptoCard : Claim7 := { stood := { row := signerWholeUptoRow, standIns := [], harness := (true, "d78bc8001bfdd6f8e3fc969a8e857d4ed35f3808355ed667835a60ce7a8922b9"), looks := false }, kinds := [], alts := [], laidByText := true, laidKinds := [.data, .wider], laidTests := true, laidLooks := .later }
def SignerWholeUptoCardSaid : Prop := Claim7.holds Tryd.pinned (.plain (OpenSpec.upto signerWholeSpec)) signerWholeUptoCard

/-- THE SECOND FORM's CARD OF 'voussoirlaw07.SignerKeys'. -/
def signerKeysUptoCard : Claim7 := { stood := { row := signerKeysUptoRow, standIns := [], harness := (true, "d78bc8001bfdd6f8e3fc969a8e857d4ed35f3808355ed667835a60ce7a8922b9"), looks := false }, kinds := [], alts := [], laidByText := true, laidKinds := [.data, .wider], laidTests := true, laidLooks := .later }
def SignerKeysUptoCardSaid : Prop := Claim7.holds Tryd.pinned (.plain (OpenSpec.upto signerKeysSpec)) signerKeysUptoCard

/-- THE SECOND FORM's CARD OF 'voussoirlaw07.SignerEnds'. -/
def signerEndsUptoCard : Claim7 := { stood := { row := signerEndsUptoRow, standIns := [], harness := (true, "d78bc8001bfdd6f8e3fc969a8e857d4ed35f3808355ed667835a60ce7a8922b9"), looks := false }, kinds := [], alts := [], laidByText := true, laidKinds := [.data, .wider], laidTests := true, laidLooks := .later }
def SignerEndsUptoCardSaid : Prop := Claim7.holds Tryd.pinned (.plain (OpenSpec.upto signerEndsSpec)) signerEndsUptoCard
end Rows
end Go.Proofs.YtcojfnjpcpochaaDoor
