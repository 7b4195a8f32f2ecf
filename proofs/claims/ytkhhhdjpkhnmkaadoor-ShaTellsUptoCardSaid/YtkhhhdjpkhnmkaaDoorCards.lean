/-
  DERIVED. GIVEN WITH THE SEED: THE CARDS: each row of YtkhhhdjpkhnmkaaDoorRows.lean that lists a variable, with what it lists TIED to the program's text (the seventh form; the later family's looks); each row that meets fmt, with fmt's text TOLD by the authors' own Lean function (tested against real Go, not proved from fmt's source: count such statements apart). THE CARD IS WHAT COUNTS. Prove the row's statement (the work); the ties are given (YtkhhhdjpkhnmkaaDoorTie.lean); close each card by the builder's one call (the guide's Derived/Test/ToyasCard.lean, 'card_holds'). Laid BY PROGRAM, IN A SANDBOX (cutbox-door.mjs). By AI agents, Wed Nov 11 2026. No macro, syntax, notation, axiom, sorry.
-/
import Derived.Test.YtkhhhdjpkhnmkaaDoorRows
import GoSem.ClaimSeven
namespace Go.Proofs.YtkhhhdjpkhnmkaaDoor
namespace Rows

/-- THE TIED CARD OF 'voussoirlaw01.ShaPads'. -/
def shaPadsCard : Claim7 := { stood := { row := shaPadsRow, standIns := [], harness := (true, "57997cdc910371827dbd3551ad35331c9aaff0cfb43f8088d274119eb3f5818d"), looks := false }, kinds := [], alts := [], laidByText := true, laidKinds := [.data, .wider], laidTests := true, laidLooks := .later }
def ShaPadsCardSaid : Prop := Claim7.holds Tryd.pinned (.plain (OpenSpec.ofChange shaPadsSpec)) shaPadsCard

/-- THE TIED CARD OF 'voussoirlaw01.ShaBlocks'. -/
def shaBlocksCard : Claim7 := { stood := { row := shaBlocksRow, standIns := [], harness := (true, "57997cdc910371827dbd3551ad35331c9aaff0cfb43f8088d274119eb3f5818d"), looks := false }, kinds := [], alts := [], laidByText := true, laidKinds := [.data, .data, .wider], laidTests := true, laidLooks := .later }
def ShaBlocksCardSaid : Prop := Claim7.holds Tryd.pinned (.plain (OpenSpec.ofChange shaBlocksSpec)) shaBlocksCard

/-- THE TIED CARD OF 'voussoirlaw01.ShaExtends'. -/
def shaExtendsCard : Claim7 := { stood := { row := shaExtendsRow, standIns := [], harness := (true, "57997cdc910371827dbd3551ad35331c9aaff0cfb43f8088d274119eb3f5818d"), looks := false }, kinds := [], alts := [], laidByText := true, laidKinds := [.data, .wider], laidTests := true, laidLooks := .later }
def ShaExtendsCardSaid : Prop := Claim7.holds Tryd.pinned (.plain (OpenSpec.ofChange shaExtendsSpec)) shaExtendsCard

/-- THE TIED CARD OF 'voussoirlaw01.ShaRefuses'. -/
def shaRefusesCard : Claim7 := { stood := { row := shaRefusesRow, standIns := [], harness := (true, "57997cdc910371827dbd3551ad35331c9aaff0cfb43f8088d274119eb3f5818d"), looks := false }, kinds := [], alts := [], laidByText := true, laidKinds := [.data, .wider], laidTests := true, laidLooks := .later }
def ShaRefusesCardSaid : Prop := Claim7.holds Tryd.pinned (.plain (OpenSpec.ofChange shaRefusesSpec)) shaRefusesCard

/-- THE TIED CARD OF 'voussoirlaw01.ShaGoes'. -/
def shaGoesCard : Claim7 := { stood := { row := shaGoesRow, standIns := [], harness := (true, "57997cdc910371827dbd3551ad35331c9aaff0cfb43f8088d274119eb3f5818d"), looks := false }, kinds := [], alts := [], laidByText := true, laidKinds := [.data, .wider], laidTests := true, laidLooks := .later }
def ShaGoesCardSaid : Prop := Claim7.holds Tryd.pinned (.plain (OpenSpec.ofChange shaGoesSpec)) shaGoesCard

/-- THE TIED CARD OF 'voussoirlaw01.ShaInputs'. -/
def shaInputsCard : Claim7 := { stood := { row := shaInputsRow, standIns := [], harness := (true, "57997cdc910371827dbd3551ad35331c9aaff0cfb43f8088d274119eb3f5818d"), looks := false }, kinds := [], alts := [], laidByText := true, laidKinds := [.data, .wider], laidTests := true, laidLooks := .later }
def ShaInputsCardSaid : Prop := Claim7.holds Tryd.pinned (.plain (OpenSpec.ofChange shaInputsSpec)) shaInputsCard

/-- THE TIED CARD OF 'voussoirlaw01.ShaApart'. -/
def shaApartCard : Claim7 := { stood := { row := shaApartRow, standIns := [], harness := (true, "57997cdc910371827dbd3551ad35331c9aaff0cfb43f8088d274119eb3f5818d"), looks := false }, kinds := [], alts := [], laidByText := true, laidKinds := [.data, .wider], laidTests := true, laidLooks := .later }
def ShaApartCardSaid : Prop := Claim7.holds Tryd.pinned (.plain (OpenSpec.ofChange shaApartSpec)) shaApartCard

/-- THE TIED CARD OF 'voussoirlaw01.ShaTells'. -/
def shaTellsCard : Claim7 := { stood := { row := shaTellsRow, standIns := [], harness := (true, "57997cdc910371827dbd3551ad35331c9aaff0cfb43f8088d274119eb3f5818d"), looks := false }, kinds := [], alts := [], laidByText := true, laidKinds := [.data, .widerDeep, .data, .wider], laidTests := true, laidLooks := .later }
def ShaTellsCardSaid : Prop := Claim7.holds Tryd.pinned (.plain (OpenSpec.ofChange shaTellsSpec)) shaTellsCard

/-- THE SECOND FORM's CARD OF 'voussoirlaw01.ShaPads'. -/
def shaPadsUptoCard : Claim7 := { stood := { row := shaPadsUptoRow, standIns := [], harness := (true, "57997cdc910371827dbd3551ad35331c9aaff0cfb43f8088d274119eb3f5818d"), looks := false }, kinds := [], alts := [], laidByText := true, laidKinds := [.data, .wider], laidTests := true, laidLooks := .later }
def ShaPadsUptoCardSaid : Prop := Claim7.holds Tryd.pinned (.plain (OpenSpec.upto shaPadsSpec)) shaPadsUptoCard

/-- THE SECOND FORM's CARD OF 'voussoirlaw01.ShaBlocks'. -/
def shaBlocksUptoCard : Claim7 := { stood := { row := shaBlocksUptoRow, standIns := [], harness := (true, "57997cdc910371827dbd3551ad35331c9aaff0cfb43f8088d274119eb3f5818d"), looks := false }, kinds := [], alts := [], laidByText := true, laidKinds := [.data, .data, .wider], laidTests := true, laidLooks := .later }
def ShaBlocksUptoCardSaid : Prop := Claim7.holds Tryd.pinned (.plain (OpenSpec.upto shaBlocksSpec)) shaBlocksUptoCard

/-- THE SECOND FORM's CARD OF 'voussoirlaw01.ShaExtends'. -/
def shaExtendsUptoCard : Claim7 := { stood := { row := shaExtendsUptoRow, standIns := [], harness := (true, "57997cdc910371827dbd3551ad35331c9aaff0cfb43f8088d274119eb3f5818d"), looks := false }, kinds := [], alts := [], laidByText := true, laidKinds := [.data, .wider], laidTests := true, laidLooks := .later }
def ShaExtendsUptoCardSaid : Prop := Claim7.holds Tryd.pinned (.plain (OpenSpec.upto shaExtendsSpec)) shaExtendsUptoCard

/-- THE SECOND FORM's CARD OF 'voussoirlaw01.ShaRefuses'. -/
def shaRefusesUptoCard : Claim7 := { stood := { row := shaRefusesUptoRow, standIns := [], harness := (true, "57997cdc910371827dbd3551ad35331c9aaff0cfb43f8088d274119eb3f5818d"), looks := false }, kinds := [], alts := [], laidByText := true, laidKinds := [.data, .wider], laidTests := true, laidLooks := .later }
def ShaRefusesUptoCardSaid : Prop := Claim7.holds Tryd.pinned (.plain (OpenSpec.upto shaRefusesSpec)) shaRefusesUptoCard

/-- THE SECOND FORM's CARD OF 'voussoirlaw01.ShaGoes'. -/
def shaGoesUptoCard : Claim7 := { stood := { row := shaGoesUptoRow, standIns := [], harness := (true, "57997cdc910371827dbd3551ad35331c9aaff0cfb43f8088d274119eb3f5818d"), looks := false }, kinds := [], alts := [], laidByText := true, laidKinds := [.data, .wider], laidTests := true, laidLooks := .later }
def ShaGoesUptoCardSaid : Prop := Claim7.holds Tryd.pinned (.plain (OpenSpec.upto shaGoesSpec)) shaGoesUptoCard

/-- THE SECOND FORM's CARD OF 'voussoirlaw01.ShaInputs'. -/
def shaInputsUptoCard : Claim7 := { stood := { row := shaInputsUptoRow, standIns := [], harness := (true, "57997cdc910371827dbd3551ad35331c9aaff0cfb43f8088d274119eb3f5818d"), looks := false }, kinds := [], alts := [], laidByText := true, laidKinds := [.data, .wider], laidTests := true, laidLooks := .later }
def ShaInputsUptoCardSaid : Prop := Claim7.holds Tryd.pinned (.plain (OpenSpec.upto shaInputsSpec)) shaInputsUptoCard

/-- THE SECOND FORM's CARD OF 'voussoirlaw01.ShaApart'. -/
def shaApartUptoCard : Claim7 := { stood := { row := shaApartUptoRow, standIns := [], harness := (true, "57997cdc910371827dbd3551ad35331c9aaff0cfb43f8088d274119eb3f5818d"), looks := false }, kinds := [], alts := [], laidByText := true, laidKinds := [.data, .wider], laidTests := true, laidLooks := .later }
def ShaApartUptoCardSaid : Prop := Claim7.holds Tryd.pinned (.plain (OpenSpec.upto shaApartSpec)) shaApartUptoCard

/-- THE SECOND FORM's CARD OF 'voussoirlaw01.ShaTells'. -/
def shaTellsUptoCard : Claim7 := { stood := { row := shaTellsUptoRow, standIns := [], harness := (true, "57997cdc910371827dbd3551ad35331c9aaff0cfb43f8088d274119eb3f5818d"), looks := false }, kinds := [], alts := [], laidByText := true, laidKinds := [.data, .widerDeep, .data, .wider], laidTests := true, laidLooks := .later }
def ShaTellsUptoCardSaid : Prop := Claim7.holds Tryd.pinned (.plain (OpenSpec.upto shaTellsSpec)) shaTellsUptoCard
end Rows
end Go.Proofs.YtkhhhdjpkhnmkaaDoor
