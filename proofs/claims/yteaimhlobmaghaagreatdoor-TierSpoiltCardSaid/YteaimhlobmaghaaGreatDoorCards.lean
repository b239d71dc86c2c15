/-
  DERIVED. GIVEN WITH THE SEED: THE CARDS: each row of YteaimhlobmaghaaGreatDoorRows.lean that lists a variable, with what it lists TIED to the program's text (the seventh form; the later family's looks); each row that meets fmt, with fmt's text TOLD by the authors' own Lean function (tested against real Go, not proved from fmt's source: count such statements apart). THE CARD IS WHAT COUNTS. Prove the row's statement (the work); the ties are given (YteaimhlobmaghaaGreatDoorTie.lean); close each card by the builder's one call (the guide's Derived/Test/ToyasCard.lean, 'card_holds'). Laid BY PROGRAM, IN A SANDBOX (cutbox-door.mjs). By AI agents, Wed Nov 11 2026. No macro, syntax, notation, axiom, sorry.
-/
import Derived.Test.YteaimhlobmaghaaGreatDoorRows
import GoSem.ClaimSeven
namespace Go.Proofs.YteaimhlobmaghaaGreatDoor
namespace Rows

/-- THE TIED CARD OF 'watermeetlaw17.TierMoves'. -/
def tierMovesCard : Claim7 := { stood := { row := tierMovesRow, standIns := [], harness := (true, "2f5f6f0e45d0dc822afc7999807d6c879bedb5611b72a16918e454af4e0011be"), looks := true }, kinds := [], alts := [], laidByText := true, laidKinds := [.data, .data, .data, .sentinel, .sentinel, .widerDeep], laidTests := true, laidLooks := .later }
def TierMovesCardSaid : Prop := Claim7.holds Tryz.pinned (.plain (OpenSpec.ofChange tierMovesSpec)) tierMovesCard

/-- THE TIED CARD OF 'watermeetlaw17.TierFetches'. -/
def tierFetchesCard : Claim7 := { stood := { row := tierFetchesRow, standIns := [], harness := (true, "2f5f6f0e45d0dc822afc7999807d6c879bedb5611b72a16918e454af4e0011be"), looks := true }, kinds := [], alts := [], laidByText := true, laidKinds := [.data, .data, .data, .sentinel, .sentinel, .widerDeep], laidTests := true, laidLooks := .later }
def TierFetchesCardSaid : Prop := Claim7.holds Tryz.pinned (.plain (OpenSpec.ofChange tierFetchesSpec)) tierFetchesCard

/-- THE TIED CARD OF 'watermeetlaw17.TierWhole'. -/
def tierWholeCard : Claim7 := { stood := { row := tierWholeRow, standIns := [], harness := (true, "2f5f6f0e45d0dc822afc7999807d6c879bedb5611b72a16918e454af4e0011be"), looks := true }, kinds := [], alts := [], laidByText := true, laidKinds := [.data, .data, .data, .sentinel, .sentinel, .widerDeep], laidTests := true, laidLooks := .later }
def TierWholeCardSaid : Prop := Claim7.holds Tryz.pinned (.plain (OpenSpec.ofChange tierWholeSpec)) tierWholeCard

/-- THE TIED CARD OF 'watermeetlaw17.TierSpoilt'. -/
def tierSpoiltCard : Claim7 := { stood := { row := tierSpoiltRow, standIns := [], harness := (true, "2f5f6f0e45d0dc822afc7999807d6c879bedb5611b72a16918e454af4e0011be"), looks := true }, kinds := [], alts := [], laidByText := true, laidKinds := [.data, .data, .data, .sentinel, .sentinel, .widerDeep], laidTests := true, laidLooks := .later }
def TierSpoiltCardSaid : Prop := Claim7.holds Tryz.pinned (.plain (OpenSpec.ofChange tierSpoiltSpec)) tierSpoiltCard

/-- THE TIED CARD OF 'watermeetlaw17.TierHealed'. -/
def tierHealedCard : Claim7 := { stood := { row := tierHealedRow, standIns := [], harness := (true, "2f5f6f0e45d0dc822afc7999807d6c879bedb5611b72a16918e454af4e0011be"), looks := true }, kinds := [], alts := [], laidByText := true, laidKinds := [.data, .data, .data, .sentinel, .sentinel, .widerDeep], laidTests := true, laidLooks := .later }
def TierHealedCardSaid : Prop := Claim7.holds Tryz.pinned (.plain (OpenSpec.ofChange tierHealedSpec)) tierHealedCard

/-- THE TIED CARD OF 'watermeetlaw17.TierOnce'. -/
def tierOnceCard : Claim7 := { stood := { row := tierOnceRow, standIns := [], harness := (true, "2f5f6f0e45d0dc822afc7999807d6c879bedb5611b72a16918e454af4e0011be"), looks := true }, kinds := [], alts := [], laidByText := true, laidKinds := [.data, .data, .data, .sentinel, .sentinel, .widerDeep], laidTests := true, laidLooks := .later }
def TierOnceCardSaid : Prop := Claim7.holds Tryz.pinned (.plain (OpenSpec.ofChange tierOnceSpec)) tierOnceCard

/-- THE SECOND FORM's CARD OF 'watermeetlaw17.TierMoves'. -/
def tierMovesUptoCard : Claim7 := { stood := { row := tierMovesUptoRow, standIns := [], harness := (true, "2f5f6f0e45d0dc822afc7999807d6c879bedb5611b72a16918e454af4e0011be"), looks := true }, kinds := [], alts := [], laidByText := true, laidKinds := [.data, .data, .data, .sentinel, .sentinel, .widerDeep], laidTests := true, laidLooks := .later }
def TierMovesUptoCardSaid : Prop := Claim7.holds Tryz.pinned (.plain (OpenSpec.upto tierMovesSpec)) tierMovesUptoCard

/-- THE SECOND FORM's CARD OF 'watermeetlaw17.TierFetches'. -/
def tierFetchesUptoCard : Claim7 := { stood := { row := tierFetchesUptoRow, standIns := [], harness := (true, "2f5f6f0e45d0dc822afc7999807d6c879bedb5611b72a16918e454af4e0011be"), looks := true }, kinds := [], alts := [], laidByText := true, laidKinds := [.data, .data, .data, .sentinel, .sentinel, .widerDeep], laidTests := true, laidLooks := .later }
def TierFetchesUptoCardSaid : Prop := Claim7.holds Tryz.pinned (.plain (OpenSpec.upto tierFetchesSpec)) tierFetchesUptoCard

/-- THE SECOND FORM's CARD OF 'watermeetlaw17.TierWhole'. -/
def tierWholeUptoCard : Claim7 := { stood := { row := tierWholeUptoRow, standIns := [], harness := (true, "2f5f6f0e45d0dc822afc7999807d6c879bedb5611b72a16918e454af4e0011be"), looks := true }, kinds := [], alts := [], laidByText := true, laidKinds := [.data, .data, .data, .sentinel, .sentinel, .widerDeep], laidTests := true, laidLooks := .later }
def TierWholeUptoCardSaid : Prop := Claim7.holds Tryz.pinned (.plain (OpenSpec.upto tierWholeSpec)) tierWholeUptoCard

/-- THE SECOND FORM's CARD OF 'watermeetlaw17.TierSpoilt'. -/
def tierSpoiltUptoCard : Claim7 := { stood := { row := tierSpoiltUptoRow, standIns := [], harness := (true, "2f5f6f0e45d0dc822afc7999807d6c879bedb5611b72a16918e454af4e0011be"), looks := true }, kinds := [], alts := [], laidByText := true, laidKinds := [.data, .data, .data, .sentinel, .sentinel, .widerDeep], laidTests := true, laidLooks := .later }
def TierSpoiltUptoCardSaid : Prop := Claim7.holds Tryz.pinned (.plain (OpenSpec.upto tierSpoiltSpec)) tierSpoiltUptoCard

/-- THE SECOND FORM's CARD OF 'watermeetlaw17.TierHealed'. -/
def tierHealedUptoCard : Claim7 := { stood := { row := tierHealedUptoRow, standIns := [], harness := (true, "2f5f6f0e45d0dc822afc7999807d6c879bedb5611b72a16918e454af4e0011be"), looks := true }, kinds := [], alts := [], laidByText := true, laidKinds := [.data, .data, .data, .sentinel, .sentinel, .widerDeep], laidTests := true, laidLooks := .later }
def TierHealedUptoCardSaid : Prop := Claim7.holds Tryz.pinned (.plain (OpenSpec.upto tierHealedSpec)) tierHealedUptoCard

/-- THE SECOND FORM's CARD OF 'watermeetlaw17.TierOnce'. -/
def tierOnceUptoCard : Claim7 := { stood := { row := tierOnceUptoRow, standIns := [], harness := (true, "2f5f6f0e45d0dc822afc7999807d6c879bedb5611b72a16918e454af4e0011be"), looks := true }, kinds := [], alts := [], laidByText := true, laidKinds := [.data, .data, .data, .sentinel, .sentinel, .widerDeep], laidTests := true, laidLooks := .later }
def TierOnceUptoCardSaid : Prop := Claim7.holds Tryz.pinned (.plain (OpenSpec.upto tierOnceSpec)) tierOnceUptoCard
end Rows
end Go.Proofs.YteaimhlobmaghaaGreatDoor
