/-
  DERIVED. GIVEN WITH THE SEED: THE CARDS: each row of YtpnbpcopdckgpaaGreatDoorRows.lean that lists a variable, with what it lists TIED to the program's text (the seventh form; the later family's looks); each row that meets fmt, with fmt's text TOLD by the authors' own Lean function (tested against real Go, not proved from fmt's source: count such statements apart). THE CARD IS WHAT COUNTS. Prove the row's statement (the work); the ties are given (YtpnbpcopdckgpaaGreatDoorTie.lean); close each card by the builder's one call (the guide's Derived/Test/ToyasCard.lean, 'card_holds'). Laid BY PROGRAM, IN A SANDBOX (cutbox-door.mjs). By AI agents, Wed Nov 11 2026. No macro, syntax, notation, axiom, sorry.
-/
import Derived.Test.YtpnbpcopdckgpaaGreatDoorRows
import GoSem.ClaimSeven
namespace Go.Proofs.YtpnbpcopdckgpaaGreatDoor
namespace Rows

/-- THE TIED CARD OF 'voussoirlaw14.ReplicaTells'. -/
def replicaTellsCard : Claim7 := { stood := { row := replicaTellsRow, standIns := [], harness := (true, "01f10b7666e4592d0ec3f892bcba2bb015d556ae54c16c60cd6d8fb0a7cdcd68"), looks := false }, kinds := [], alts := [], laidByText := true, laidKinds := [.data, .widerDeep, .data, .wider], laidTests := true, laidLooks := .later }
def ReplicaTellsCardSaid : Prop := Claim7.holds Tryz.pinned (.plain (OpenSpec.ofChange replicaTellsSpec)) replicaTellsCard

/-- THE TIED CARD OF 'voussoirlaw14.ReplicaLeads'. -/
def replicaLeadsCard : Claim7 := { stood := { row := replicaLeadsRow, standIns := [], harness := (true, "01f10b7666e4592d0ec3f892bcba2bb015d556ae54c16c60cd6d8fb0a7cdcd68"), looks := false }, kinds := [], alts := [], laidByText := true, laidKinds := [.data, .widerDeep, .data, .wider], laidTests := true, laidLooks := .later }
def ReplicaLeadsCardSaid : Prop := Claim7.holds Tryz.pinned (.plain (OpenSpec.ofChange replicaLeadsSpec)) replicaLeadsCard

/-- THE TIED CARD OF 'voussoirlaw14.ReplicaIDs'. -/
def replicaIDsCard : Claim7 := { stood := { row := replicaIDsRow, standIns := [], harness := (true, "01f10b7666e4592d0ec3f892bcba2bb015d556ae54c16c60cd6d8fb0a7cdcd68"), looks := false }, kinds := [], alts := [], laidByText := true, laidKinds := [.data, .widerDeep, .data, .wider], laidTests := true, laidLooks := .later }
def ReplicaIDsCardSaid : Prop := Claim7.holds Tryz.pinned (.plain (OpenSpec.ofChange replicaIDsSpec)) replicaIDsCard

/-- THE TIED CARD OF 'voussoirlaw14.ReplicaTurns'. -/
def replicaTurnsCard : Claim7 := { stood := { row := replicaTurnsRow, standIns := [], harness := (true, "01f10b7666e4592d0ec3f892bcba2bb015d556ae54c16c60cd6d8fb0a7cdcd68"), looks := false }, kinds := [], alts := [], laidByText := true, laidKinds := [.data, .widerDeep, .data, .wider], laidTests := true, laidLooks := .later }
def ReplicaTurnsCardSaid : Prop := Claim7.holds Tryz.pinned (.plain (OpenSpec.ofChange replicaTurnsSpec)) replicaTurnsCard

/-- THE TIED CARD OF 'voussoirlaw14.ReplicaGoes'. -/
def replicaGoesCard : Claim7 := { stood := { row := replicaGoesRow, standIns := [], harness := (true, "01f10b7666e4592d0ec3f892bcba2bb015d556ae54c16c60cd6d8fb0a7cdcd68"), looks := false }, kinds := [], alts := [], laidByText := true, laidKinds := [.data, .widerDeep, .data, .wider], laidTests := true, laidLooks := .later }
def ReplicaGoesCardSaid : Prop := Claim7.holds Tryz.pinned (.plain (OpenSpec.ofChange replicaGoesSpec)) replicaGoesCard

/-- THE TIED CARD OF 'voussoirlaw14.ReplicaRefuses'. -/
def replicaRefusesCard : Claim7 := { stood := { row := replicaRefusesRow, standIns := [], harness := (true, "01f10b7666e4592d0ec3f892bcba2bb015d556ae54c16c60cd6d8fb0a7cdcd68"), looks := false }, kinds := [], alts := [], laidByText := true, laidKinds := [.data, .widerDeep, .data, .wider], laidTests := true, laidLooks := .later }
def ReplicaRefusesCardSaid : Prop := Claim7.holds Tryz.pinned (.plain (OpenSpec.ofChange replicaRefusesSpec)) replicaRefusesCard

/-- THE TIED CARD OF 'voussoirlaw14.ReplicaOnce'. -/
def replicaOnceCard : Claim7 := { stood := { row := replicaOnceRow, standIns := [], harness := (true, "01f10b7666e4592d0ec3f892bcba2bb015d556ae54c16c60cd6d8fb0a7cdcd68"), looks := false }, kinds := [], alts := [], laidByText := true, laidKinds := [.data, .widerDeep, .data, .wider], laidTests := true, laidLooks := .later }
def ReplicaOnceCardSaid : Prop := Claim7.holds Tryz.pinned (.plain (OpenSpec.ofChange replicaOnceSpec)) replicaOnceCard

/-- THE SECOND FORM's CARD OF 'voussoirlaw14.ReplicaTells'. -/
def replicaTellsUptoCard : Claim7 := { stood := { row := replicaTellsUptoRow, standIns := [], harness := (true, "01f10b7666e4592d0ec3f892bcba2bb015d556ae54c16c60cd6d8fb0a7cdcd68"), looks := false }, kinds := [], alts := [], laidByText := true, laidKinds := [.data, .widerDeep, .data, .wider], laidTests := true, laidLooks := .later }
def ReplicaTellsUptoCardSaid : Prop := Claim7.holds Tryz.pinned (.plain (OpenSpec.upto replicaTellsSpec)) replicaTellsUptoCard

/-- THE SECOND FORM's CARD OF 'voussoirlaw14.ReplicaLeads'. -/
def replicaLeadsUptoCard : Claim7 := { stood := { row := replicaLeadsUptoRow, standIns := [], harness := (true, "01f10b7666e4592d0ec3f892bcba2bb015d556ae54c16c60cd6d8fb0a7cdcd68"), looks := false }, kinds := [], alts := [], laidByText := true, laidKinds := [.data, .widerDeep, .data, .wider], laidTests := true, laidLooks := .later }
def ReplicaLeadsUptoCardSaid : Prop := Claim7.holds Tryz.pinned (.plain (OpenSpec.upto replicaLeadsSpec)) replicaLeadsUptoCard

/-- THE SECOND FORM's CARD OF 'voussoirlaw14.ReplicaIDs'. -/
def replicaIDsUptoCard : Claim7 := { stood := { row := replicaIDsUptoRow, standIns := [], harness := (true, "01f10b7666e4592d0ec3f892bcba2bb015d556ae54c16c60cd6d8fb0a7cdcd68"), looks := false }, kinds := [], alts := [], laidByText := true, laidKinds := [.data, .widerDeep, .data, .wider], laidTests := true, laidLooks := .later }
def ReplicaIDsUptoCardSaid : Prop := Claim7.holds Tryz.pinned (.plain (OpenSpec.upto replicaIDsSpec)) replicaIDsUptoCard

/-- THE SECOND FORM's CARD OF 'voussoirlaw14.ReplicaTurns'. -/
def replicaTurnsUptoCard : Claim7 := { stood := { row := replicaTurnsUptoRow, standIns := [], harness := (true, "01f10b7666e4592d0ec3f892bcba2bb015d556ae54c16c60cd6d8fb0a7cdcd68"), looks := false }, kinds := [], alts := [], laidByText := true, laidKinds := [.data, .widerDeep, .data, .wider], laidTests := true, laidLooks := .later }
def ReplicaTurnsUptoCardSaid : Prop := Claim7.holds Tryz.pinned (.plain (OpenSpec.upto replicaTurnsSpec)) replicaTurnsUptoCard

/-- THE SECOND FORM's CARD OF 'voussoirlaw14.ReplicaGoes'. -/
def replicaGoesUptoCard : Claim7 := { stood := { row := replicaGoesUptoRow, standIns := [], harness := (true, "01f10b7666e4592d0ec3f892bcba2bb015d556ae54c16c60cd6d8fb0a7cdcd68"), looks := false }, kinds := [], alts := [], laidByText := true, laidKinds := [.data, .widerDeep, .data, .wider], laidTests := true, laidLooks := .later }
def ReplicaGoesUptoCardSaid : Prop := Claim7.holds Tryz.pinned (.plain (OpenSpec.upto replicaGoesSpec)) replicaGoesUptoCard

/-- THE SECOND FORM's CARD OF 'voussoirlaw14.ReplicaRefuses'. -/
def replicaRefusesUptoCard : Claim7 := { stood := { row := replicaRefusesUptoRow, standIns := [], harness := (true, "01f10b7666e4592d0ec3f892bcba2bb015d556ae54c16c60cd6d8fb0a7cdcd68"), looks := false }, kinds := [], alts := [], laidByText := true, laidKinds := [.data, .widerDeep, .data, .wider], laidTests := true, laidLooks := .later }
def ReplicaRefusesUptoCardSaid : Prop := Claim7.holds Tryz.pinned (.plain (OpenSpec.upto replicaRefusesSpec)) replicaRefusesUptoCard

/-- THE SECOND FORM's CARD OF 'voussoirlaw14.ReplicaOnce'. -/
def replicaOnceUptoCard : Claim7 := { stood := { row := replicaOnceUptoRow, standIns := [], harness := (true, "01f10b7666e4592d0ec3f892bcba2bb015d556ae54c16c60cd6d8fb0a7cdcd68"), looks := false }, kinds := [], alts := [], laidByText := true, laidKinds := [.data, .widerDeep, .data, .wider], laidTests := true, laidLooks := .later }
def ReplicaOnceUptoCardSaid : Prop := Claim7.holds Tryz.pinned (.plain (OpenSpec.upto replicaOnceSpec)) replicaOnceUptoCard
end Rows
end Go.Proofs.YtpnbpcopdckgpaaGreatDoor
