/-
  DERIVED. GIVEN WITH THE SEED: THE CARDS: each row of YtcoaaebppfbbnaaGreatDoorRows.lean that lists a variable, with what it lists TIED to the program's text (the seventh form; the later family's looks); each row that meets fmt, with fmt's text TOLD by the authors' own Lean function (tested against real Go, not proved from fmt's source: count such statements apart). THE CARD IS WHAT COUNTS. Prove the row's statement (the work); the ties are given (YtcoaaebppfbbnaaGreatDoorTie.lean); close each card by the builder's one call (the guide's Derived/Test/ToyasCard.lean, 'card_holds'). Laid BY PROGRAM, IN A SANDBOX (cutbox-door.mjs). By AI agents, Wed Nov 11 2026. No macro, syntax, notation, axiom, sorry.
-/
import Derived.Test.YtcoaaebppfbbnaaGreatDoorRows
import GoSem.ClaimSeven
namespace Go.Proofs.YtcoaaebppfbbnaaGreatDoor
namespace Rows

/-- THE TIED CARD OF 'exchequerlaw18.RowsEntries'. -/
def rowsEntriesCard : Claim7 := { stood := { row := rowsEntriesRow, standIns := [], harness := (true, "f64830526fbacd2a859db94a90bd47a6a76d324a9877b72152c87966b7ead6fa"), looks := false }, kinds := [], alts := [], laidByText := true, laidKinds := [.data, .mapped, .pinned], laidTests := true, laidLooks := .later }
def RowsEntriesCardSaid : Prop := Claim7.holds Tryz.pinned (.plain (OpenSpec.ofChange rowsEntriesSpec)) rowsEntriesCard

/-- THE TIED CARD OF 'exchequerlaw18.RowsOrder'. -/
def rowsOrderCard : Claim7 := { stood := { row := rowsOrderRow, standIns := [], harness := (true, "f64830526fbacd2a859db94a90bd47a6a76d324a9877b72152c87966b7ead6fa"), looks := false }, kinds := [], alts := [], laidByText := true, laidKinds := [.data, .mapped, .pinned], laidTests := true, laidLooks := .later }
def RowsOrderCardSaid : Prop := Claim7.holds Tryz.pinned (.plain (OpenSpec.ofChange rowsOrderSpec)) rowsOrderCard

/-- THE TIED CARD OF 'exchequerlaw18.RowsBy'. -/
def rowsByCard : Claim7 := { stood := { row := rowsByRow, standIns := [], harness := (true, "f64830526fbacd2a859db94a90bd47a6a76d324a9877b72152c87966b7ead6fa"), looks := false }, kinds := [], alts := [], laidByText := true, laidKinds := [.data, .mapped, .pinned], laidTests := true, laidLooks := .later }
def RowsByCardSaid : Prop := Claim7.holds Tryz.pinned (.plain (OpenSpec.ofChange rowsBySpec)) rowsByCard

/-- THE TIED CARD OF 'exchequerlaw18.RowsUndone'. -/
def rowsUndoneCard : Claim7 := { stood := { row := rowsUndoneRow, standIns := [], harness := (true, "f64830526fbacd2a859db94a90bd47a6a76d324a9877b72152c87966b7ead6fa"), looks := false }, kinds := [], alts := [], laidByText := true, laidKinds := [.data, .data, .data, .mapped, .pinned], laidTests := true, laidLooks := .later }
def RowsUndoneCardSaid : Prop := Claim7.holds Tryz.pinned (.plain (OpenSpec.ofChange rowsUndoneSpec)) rowsUndoneCard

/-- THE SECOND FORM's CARD OF 'exchequerlaw18.RowsEntries'. -/
def rowsEntriesUptoCard : Claim7 := { stood := { row := rowsEntriesUptoRow, standIns := [], harness := (true, "f64830526fbacd2a859db94a90bd47a6a76d324a9877b72152c87966b7ead6fa"), looks := false }, kinds := [], alts := [], laidByText := true, laidKinds := [.data, .mapped, .pinned], laidTests := true, laidLooks := .later }
def RowsEntriesUptoCardSaid : Prop := Claim7.holds Tryz.pinned (.plain (OpenSpec.upto rowsEntriesSpec)) rowsEntriesUptoCard

/-- THE SECOND FORM's CARD OF 'exchequerlaw18.RowsOrder'. -/
def rowsOrderUptoCard : Claim7 := { stood := { row := rowsOrderUptoRow, standIns := [], harness := (true, "f64830526fbacd2a859db94a90bd47a6a76d324a9877b72152c87966b7ead6fa"), looks := false }, kinds := [], alts := [], laidByText := true, laidKinds := [.data, .mapped, .pinned], laidTests := true, laidLooks := .later }
def RowsOrderUptoCardSaid : Prop := Claim7.holds Tryz.pinned (.plain (OpenSpec.upto rowsOrderSpec)) rowsOrderUptoCard

/-- THE SECOND FORM's CARD OF 'exchequerlaw18.RowsBy'. -/
def rowsByUptoCard : Claim7 := { stood := { row := rowsByUptoRow, standIns := [], harness := (true, "f64830526fbacd2a859db94a90bd47a6a76d324a9877b72152c87966b7ead6fa"), looks := false }, kinds := [], alts := [], laidByText := true, laidKinds := [.data, .mapped, .pinned], laidTests := true, laidLooks := .later }
def RowsByUptoCardSaid : Prop := Claim7.holds Tryz.pinned (.plain (OpenSpec.upto rowsBySpec)) rowsByUptoCard

/-- THE SECOND FORM's CARD OF 'exchequerlaw18.RowsUndone'. -/
def rowsUndoneUptoCard : Claim7 := { stood := { row := rowsUndoneUptoRow, standIns := [], harness := (true, "f64830526fbacd2a859db94a90bd47a6a76d324a9877b72152c87966b7ead6fa"), looks := false }, kinds := [], alts := [], laidByText := true, laidKinds := [.data, .data, .data, .mapped, .pinned], laidTests := true, laidLooks := .later }
def RowsUndoneUptoCardSaid : Prop := Claim7.holds Tryz.pinned (.plain (OpenSpec.upto rowsUndoneSpec)) rowsUndoneUptoCard
end Rows
end Go.Proofs.YtcoaaebppfbbnaaGreatDoor
