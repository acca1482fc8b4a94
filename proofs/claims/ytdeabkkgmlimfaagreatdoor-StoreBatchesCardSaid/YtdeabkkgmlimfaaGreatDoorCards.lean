/-
  DERIVED. GIVEN WITH THE SEED: THE CARDS: each row of YtdeabkkgmlimfaaGreatDoorRows.lean that lists a variable, with what it lists TIED to the program's text (the seventh form; the later family's looks); each row that meets fmt, with fmt's text TOLD by the authors' own Lean function (tested against real Go, not proved from fmt's source: count such statements apart). THE CARD IS WHAT COUNTS. Prove the row's statement (the work); the ties are given (YtdeabkkgmlimfaaGreatDoorTie.lean); close each card by the builder's one call (the guide's Derived/Test/ToyasCard.lean, 'card_holds'). Laid BY PROGRAM, IN A SANDBOX (cutbox-door.mjs). By AI agents, Wed Nov 11 2026. No macro, syntax, notation, axiom, sorry.
-/
import Derived.Test.YtdeabkkgmlimfaaGreatDoorRows
import GoSem.ClaimSeven
namespace Go.Proofs.YtdeabkkgmlimfaaGreatDoor
namespace Rows

/-- THE TIED CARD OF 'interregnumlaw22.StoreNone'. -/
def storeNoneCard : Claim7 := { stood := { row := storeNoneRow, standIns := [], harness := (true, "d1f53286b0aaef3b44072a2b88577df801ac5a6e103cbcc6d385d234da9e2220"), looks := true }, kinds := [], alts := [], laidByText := true, laidKinds := [.data, .data, .data, .sentinel, .sentinel], laidTests := true, laidLooks := .later }
def StoreNoneCardSaid : Prop := Claim7.holds Tryz.pinned (.plain (OpenSpec.ofChange storeNoneSpec)) storeNoneCard

/-- THE TIED CARD OF 'interregnumlaw22.StoreBatches'. -/
def storeBatchesCard : Claim7 := { stood := { row := storeBatchesRow, standIns := [], harness := (true, "d1f53286b0aaef3b44072a2b88577df801ac5a6e103cbcc6d385d234da9e2220"), looks := true }, kinds := [], alts := [], laidByText := true, laidKinds := [.data, .data, .data, .sentinel, .sentinel], laidTests := true, laidLooks := .later }
def StoreBatchesCardSaid : Prop := Claim7.holds Tryz.pinned (.plain (OpenSpec.ofChange storeBatchesSpec)) storeBatchesCard

/-- THE TIED CARD OF 'interregnumlaw22.StoreLasts'. -/
def storeLastsCard : Claim7 := { stood := { row := storeLastsRow, standIns := [], harness := (true, "d1f53286b0aaef3b44072a2b88577df801ac5a6e103cbcc6d385d234da9e2220"), looks := true }, kinds := [], alts := [], laidByText := true, laidKinds := [.data, .data, .data, .sentinel, .sentinel], laidTests := true, laidLooks := .later }
def StoreLastsCardSaid : Prop := Claim7.holds Tryz.pinned (.plain (OpenSpec.ofChange storeLastsSpec)) storeLastsCard

/-- THE SECOND FORM's CARD OF 'interregnumlaw22.StoreNone'. -/
def storeNoneUptoCard : Claim7 := { stood := { row := storeNoneUptoRow, standIns := [], harness := (true, "d1f53286b0aaef3b44072a2b88577df801ac5a6e103cbcc6d385d234da9e2220"), looks := true }, kinds := [], alts := [], laidByText := true, laidKinds := [.data, .data, .data, .sentinel, .sentinel], laidTests := true, laidLooks := .later }
def StoreNoneUptoCardSaid : Prop := Claim7.holds Tryz.pinned (.plain (OpenSpec.upto storeNoneSpec)) storeNoneUptoCard

/-- THE SECOND FORM's CARD OF 'interregnumlaw22.StoreBatches'. -/
def storeBatchesUptoCard : Claim7 := { stood := { row := storeBatchesUptoRow, standIns := [], harness := (true, "d1f53286b0aaef3b44072a2b88577df801ac5a6e103cbcc6d385d234da9e2220"), looks := true }, kinds := [], alts := [], laidByText := true, laidKinds := [.data, .data, .data, .sentinel, .sentinel], laidTests := true, laidLooks := .later }
def StoreBatchesUptoCardSaid : Prop := Claim7.holds Tryz.pinned (.plain (OpenSpec.upto storeBatchesSpec)) storeBatchesUptoCard

/-- THE SECOND FORM's CARD OF 'interregnumlaw22.StoreLasts'. -/
def storeLastsUptoCard : Claim7 := { stood := { row := storeLastsUptoRow, standIns := [], harness := (true, "d1f53286b0aaef3b44072a2b88577df801ac5a6e103cbcc6d385d234da9e2220"), looks := true }, kinds := [], alts := [], laidByText := true, laidKinds := [.data, .data, .data, .sentinel, .sentinel], laidTests := true, laidLooks := .later }
def StoreLastsUptoCardSaid : Prop := Claim7.holds Tryz.pinned (.plain (OpenSpec.upto storeLastsSpec)) storeLastsUptoCard
end Rows
end Go.Proofs.YtdeabkkgmlimfaaGreatDoor
