/-
  DERIVED. GIVEN WITH THE SEED: THE CARDS: each row of YtcpecponmaakoaaGreatDoorRows.lean that lists a variable, with what it lists TIED to the program's text (the seventh form; the later family's looks); each row that meets fmt, with fmt's text TOLD by the authors' own Lean function (tested against real Go, not proved from fmt's source: count such statements apart). THE CARD IS WHAT COUNTS. Prove the row's statement (the work); the ties are given (YtcpecponmaakoaaGreatDoorTie.lean); close each card by the builder's one call (the guide's Derived/Test/ToyasCard.lean, 'card_holds'). Laid BY PROGRAM, IN A SANDBOX (cutbox-door.mjs). By AI agents, Wed Nov 11 2026. No macro, syntax, notation, axiom, sorry.
-/
import Derived.Test.YtcpecponmaakoaaGreatDoorRows
import GoSem.ClaimSeven
namespace Go.Proofs.YtcpecponmaakoaaGreatDoor
namespace Rows

/-- THE TIED CARD OF 'watermeetlaw15.ManifestLooks'. -/
def manifestLooksCard : Claim7 := { stood := { row := manifestLooksRow, standIns := [], harness := (true, "b00b9984490de1a5f6878e1be2a2bf12abfabb9646671515a827fbde1a4863c3"), looks := true }, kinds := [], alts := [], laidByText := true, laidKinds := [.data, .data, .data, .sentinel, .sentinel, .widerDeep], laidTests := true, laidLooks := .later }
def ManifestLooksCardSaid : Prop := Claim7.holds Tryz.pinned (.plain (OpenSpec.ofChange manifestLooksSpec)) manifestLooksCard

/-- THE TIED CARD OF 'watermeetlaw15.ManifestHeals'. -/
def manifestHealsCard : Claim7 := { stood := { row := manifestHealsRow, standIns := [], harness := (true, "b00b9984490de1a5f6878e1be2a2bf12abfabb9646671515a827fbde1a4863c3"), looks := true }, kinds := [], alts := [], laidByText := true, laidKinds := [.data, .data, .data, .sentinel, .sentinel, .widerDeep], laidTests := true, laidLooks := .later }
def ManifestHealsCardSaid : Prop := Claim7.holds Tryz.pinned (.plain (OpenSpec.ofChange manifestHealsSpec)) manifestHealsCard

/-- THE TIED CARD OF 'watermeetlaw15.ManifestBytes'. -/
def manifestBytesCard : Claim7 := { stood := { row := manifestBytesRow, standIns := [], harness := (true, "b00b9984490de1a5f6878e1be2a2bf12abfabb9646671515a827fbde1a4863c3"), looks := true }, kinds := [], alts := [], laidByText := true, laidKinds := [.data, .data, .data, .sentinel, .sentinel, .widerDeep], laidTests := true, laidLooks := .later }
def ManifestBytesCardSaid : Prop := Claim7.holds Tryz.pinned (.plain (OpenSpec.ofChange manifestBytesSpec)) manifestBytesCard

/-- THE TIED CARD OF 'watermeetlaw15.ManifestBack'. -/
def manifestBackCard : Claim7 := { stood := { row := manifestBackRow, standIns := [], harness := (true, "b00b9984490de1a5f6878e1be2a2bf12abfabb9646671515a827fbde1a4863c3"), looks := true }, kinds := [], alts := [], laidByText := true, laidKinds := [.data, .data, .data, .sentinel, .sentinel, .widerDeep], laidTests := true, laidLooks := .later }
def ManifestBackCardSaid : Prop := Claim7.holds Tryz.pinned (.plain (OpenSpec.ofChange manifestBackSpec)) manifestBackCard

/-- THE TIED CARD OF 'watermeetlaw15.ManifestSteps'. -/
def manifestStepsCard : Claim7 := { stood := { row := manifestStepsRow, standIns := [], harness := (true, "b00b9984490de1a5f6878e1be2a2bf12abfabb9646671515a827fbde1a4863c3"), looks := true }, kinds := [], alts := [], laidByText := true, laidKinds := [.data, .data, .data, .sentinel, .sentinel, .widerDeep], laidTests := true, laidLooks := .later }
def ManifestStepsCardSaid : Prop := Claim7.holds Tryz.pinned (.plain (OpenSpec.ofChange manifestStepsSpec)) manifestStepsCard

/-- THE TIED CARD OF 'watermeetlaw15.ManifestOne'. -/
def manifestOneCard : Claim7 := { stood := { row := manifestOneRow, standIns := [], harness := (true, "b00b9984490de1a5f6878e1be2a2bf12abfabb9646671515a827fbde1a4863c3"), looks := true }, kinds := [], alts := [], laidByText := true, laidKinds := [.data, .data, .data, .sentinel, .sentinel, .widerDeep], laidTests := true, laidLooks := .later }
def ManifestOneCardSaid : Prop := Claim7.holds Tryz.pinned (.plain (OpenSpec.ofChange manifestOneSpec)) manifestOneCard

/-- THE TIED CARD OF 'watermeetlaw15.ManifestTurn'. -/
def manifestTurnCard : Claim7 := { stood := { row := manifestTurnRow, standIns := [], harness := (true, "b00b9984490de1a5f6878e1be2a2bf12abfabb9646671515a827fbde1a4863c3"), looks := true }, kinds := [], alts := [], laidByText := true, laidKinds := [.data, .data, .data, .sentinel, .sentinel, .widerDeep], laidTests := true, laidLooks := .later }
def ManifestTurnCardSaid : Prop := Claim7.holds Tryz.pinned (.plain (OpenSpec.ofChange manifestTurnSpec)) manifestTurnCard

/-- THE SECOND FORM's CARD OF 'watermeetlaw15.ManifestLooks'. -/
def manifestLooksUptoCard : Claim7 := { stood := { row := manifestLooksUptoRow, standIns := [], harness := (true, "b00b9984490de1a5f6878e1be2a2bf12abfabb9646671515a827fbde1a4863c3"), looks := true }, kinds := [], alts := [], laidByText := true, laidKinds := [.data, .data, .data, .sentinel, .sentinel, .widerDeep], laidTests := true, laidLooks := .later }
def ManifestLooksUptoCardSaid : Prop := Claim7.holds Tryz.pinned (.plain (OpenSpec.upto manifestLooksSpec)) manifestLooksUptoCard

/-- THE SECOND FORM's CARD OF 'watermeetlaw15.ManifestHeals'. -/
def manifestHealsUptoCard : Claim7 := { stood := { row := manifestHealsUptoRow, standIns := [], harness := (true, "b00b9984490de1a5f6878e1be2a2bf12abfabb9646671515a827fbde1a4863c3"), looks := true }, kinds := [], alts := [], laidByText := true, laidKinds := [.data, .data, .data, .sentinel, .sentinel, .widerDeep], laidTests := true, laidLooks := .later }
def ManifestHealsUptoCardSaid : Prop := Claim7.holds Tryz.pinned (.plain (OpenSpec.upto manifestHealsSpec)) manifestHealsUptoCard

/-- THE SECOND FORM's CARD OF 'watermeetlaw15.ManifestBytes'. -/
def manifestBytesUptoCard : Claim7 := { stood := { row := manifestBytesUptoRow, standIns := [], harness := (true, "b00b9984490de1a5f6878e1be2a2bf12abfabb9646671515a827fbde1a4863c3"), looks := true }, kinds := [], alts := [], laidByText := true, laidKinds := [.data, .data, .data, .sentinel, .sentinel, .widerDeep], laidTests := true, laidLooks := .later }
def ManifestBytesUptoCardSaid : Prop := Claim7.holds Tryz.pinned (.plain (OpenSpec.upto manifestBytesSpec)) manifestBytesUptoCard

/-- THE SECOND FORM's CARD OF 'watermeetlaw15.ManifestBack'. -/
def manifestBackUptoCard : Claim7 := { stood := { row := manifestBackUptoRow, standIns := [], harness := (true, "b00b9984490de1a5f6878e1be2a2bf12abfabb9646671515a827fbde1a4863c3"), looks := true }, kinds := [], alts := [], laidByText := true, laidKinds := [.data, .data, .data, .sentinel, .sentinel, .widerDeep], laidTests := true, laidLooks := .later }
def ManifestBackUptoCardSaid : Prop := Claim7.holds Tryz.pinned (.plain (OpenSpec.upto manifestBackSpec)) manifestBackUptoCard

/-- THE SECOND FORM's CARD OF 'watermeetlaw15.ManifestSteps'. -/
def manifestStepsUptoCard : Claim7 := { stood := { row := manifestStepsUptoRow, standIns := [], harness := (true, "b00b9984490de1a5f6878e1be2a2bf12abfabb9646671515a827fbde1a4863c3"), looks := true }, kinds := [], alts := [], laidByText := true, laidKinds := [.data, .data, .data, .sentinel, .sentinel, .widerDeep], laidTests := true, laidLooks := .later }
def ManifestStepsUptoCardSaid : Prop := Claim7.holds Tryz.pinned (.plain (OpenSpec.upto manifestStepsSpec)) manifestStepsUptoCard

/-- THE SECOND FORM's CARD OF 'watermeetlaw15.ManifestOne'. -/
def manifestOneUptoCard : Claim7 := { stood := { row := manifestOneUptoRow, standIns := [], harness := (true, "b00b9984490de1a5f6878e1be2a2bf12abfabb9646671515a827fbde1a4863c3"), looks := true }, kinds := [], alts := [], laidByText := true, laidKinds := [.data, .data, .data, .sentinel, .sentinel, .widerDeep], laidTests := true, laidLooks := .later }
def ManifestOneUptoCardSaid : Prop := Claim7.holds Tryz.pinned (.plain (OpenSpec.upto manifestOneSpec)) manifestOneUptoCard

/-- THE SECOND FORM's CARD OF 'watermeetlaw15.ManifestTurn'. -/
def manifestTurnUptoCard : Claim7 := { stood := { row := manifestTurnUptoRow, standIns := [], harness := (true, "b00b9984490de1a5f6878e1be2a2bf12abfabb9646671515a827fbde1a4863c3"), looks := true }, kinds := [], alts := [], laidByText := true, laidKinds := [.data, .data, .data, .sentinel, .sentinel, .widerDeep], laidTests := true, laidLooks := .later }
def ManifestTurnUptoCardSaid : Prop := Claim7.holds Tryz.pinned (.plain (OpenSpec.upto manifestTurnSpec)) manifestTurnUptoCard
end Rows
end Go.Proofs.YtcpecponmaakoaaGreatDoor
