/-
  DERIVED. GIVEN WITH THE SEED: THE CARDS: each row of YtkiakihffmafcaaDoorRows.lean that lists a variable, with what it lists TIED to the program's text (the seventh form; the later family's looks); each row that meets fmt, with fmt's text TOLD by the authors' own Lean function (tested against real Go, not proved from fmt's source: count such statements apart). THE CARD IS WHAT COUNTS. Prove the row's statement (the work); the ties are given (YtkiakihffmafcaaDoorTie.lean); close each card by the builder's one call (the guide's Derived/Test/ToyasCard.lean, 'card_holds'). Laid BY PROGRAM, IN A SANDBOX (cutbox-door.mjs). By AI agents, Wed Nov 11 2026. No macro, syntax, notation, axiom, sorry.
-/
import Derived.Test.YtkiakihffmafcaaDoorRows
import GoSem.ClaimSeven
namespace Go.Proofs.YtkiakihffmafcaaDoor
namespace Rows

/-- THE TIED CARD OF 'exchequerlaw04.KeysWrites'. -/
def keysWritesCard : Claim7 := { stood := { row := keysWritesRow, standIns := [], harness := (true, "d8d5b790e436e6231e3a52d2ca3f5d5000236ccdc0bacdb291b1694454cd1eaa"), looks := false }, kinds := [], alts := [], laidByText := true, laidKinds := [.data, .pinned], laidTests := true, laidLooks := .later }
def KeysWritesCardSaid : Prop := Claim7.holds Tryd.pinned (.plain (OpenSpec.ofChange keysWritesSpec)) keysWritesCard

/-- THE TIED CARD OF 'exchequerlaw04.KeysBack'. -/
def keysBackCard : Claim7 := { stood := { row := keysBackRow, standIns := [], harness := (true, "d8d5b790e436e6231e3a52d2ca3f5d5000236ccdc0bacdb291b1694454cd1eaa"), looks := false }, kinds := [], alts := [], laidByText := true, laidKinds := [.data, .pinned], laidTests := true, laidLooks := .later }
def KeysBackCardSaid : Prop := Claim7.holds Tryd.pinned (.plain (OpenSpec.ofChange keysBackSpec)) keysBackCard

/-- THE TIED CARD OF 'exchequerlaw04.KeysJoin'. -/
def keysJoinCard : Claim7 := { stood := { row := keysJoinRow, standIns := [], harness := (true, "d8d5b790e436e6231e3a52d2ca3f5d5000236ccdc0bacdb291b1694454cd1eaa"), looks := false }, kinds := [], alts := [], laidByText := true, laidKinds := [.data, .pinned], laidTests := true, laidLooks := .later }
def KeysJoinCardSaid : Prop := Claim7.holds Tryd.pinned (.plain (OpenSpec.ofChange keysJoinSpec)) keysJoinCard

/-- THE TIED CARD OF 'exchequerlaw04.KeysOrder'. -/
def keysOrderCard : Claim7 := { stood := { row := keysOrderRow, standIns := [], harness := (true, "d8d5b790e436e6231e3a52d2ca3f5d5000236ccdc0bacdb291b1694454cd1eaa"), looks := false }, kinds := [], alts := [], laidByText := true, laidKinds := [.data, .pinned], laidTests := true, laidLooks := .later }
def KeysOrderCardSaid : Prop := Claim7.holds Tryd.pinned (.plain (OpenSpec.ofChange keysOrderSpec)) keysOrderCard

/-- THE TIED CARD OF 'exchequerlaw04.KeysBytes'. -/
def keysBytesCard : Claim7 := { stood := { row := keysBytesRow, standIns := [], harness := (true, "d8d5b790e436e6231e3a52d2ca3f5d5000236ccdc0bacdb291b1694454cd1eaa"), looks := false }, kinds := [], alts := [], laidByText := true, laidKinds := [.data, .pinned], laidTests := true, laidLooks := .later }
def KeysBytesCardSaid : Prop := Claim7.holds Tryd.pinned (.plain (OpenSpec.ofChange keysBytesSpec)) keysBytesCard

/-- THE TIED CARD OF 'exchequerlaw04.KeysFront'. -/
def keysFrontCard : Claim7 := { stood := { row := keysFrontRow, standIns := [], harness := (true, "d8d5b790e436e6231e3a52d2ca3f5d5000236ccdc0bacdb291b1694454cd1eaa"), looks := false }, kinds := [], alts := [], laidByText := true, laidKinds := [.data, .pinned], laidTests := true, laidLooks := .later }
def KeysFrontCardSaid : Prop := Claim7.holds Tryd.pinned (.plain (OpenSpec.ofChange keysFrontSpec)) keysFrontCard

/-- THE SECOND FORM's CARD OF 'exchequerlaw04.KeysWrites'. -/
def keysWritesUptoCard : Claim7 := { stood := { row := keysWritesUptoRow, standIns := [], harness := (true, "d8d5b790e436e6231e3a52d2ca3f5d5000236ccdc0bacdb291b1694454cd1eaa"), looks := false }, kinds := [], alts := [], laidByText := true, laidKinds := [.data, .pinned], laidTests := true, laidLooks := .later }
def KeysWritesUptoCardSaid : Prop := Claim7.holds Tryd.pinned (.plain (OpenSpec.upto keysWritesSpec)) keysWritesUptoCard

/-- THE SECOND FORM's CARD OF 'exchequerlaw04.KeysBack'. -/
def keysBackUptoCard : Claim7 := { stood := { row := keysBackUptoRow, standIns := [], harness := (true, "d8d5b790e436e6231e3a52d2ca3f5d5000236ccdc0bacdb291b1694454cd1eaa"), looks := false }, kinds := [], alts := [], laidByText := true, laidKinds := [.data, .pinned], laidTests := true, laidLooks := .later }
def KeysBackUptoCardSaid : Prop := Claim7.holds Tryd.pinned (.plain (OpenSpec.upto keysBackSpec)) keysBackUptoCard

/-- THE SECOND FORM's CARD OF 'exchequerlaw04.KeysJoin'. -/
def keysJoinUptoCard : Claim7 := { stood := { row := keysJoinUptoRow, standIns := [], harness := (true, "d8d5b790e436e6231e3a52d2ca3f5d5000236ccdc0bacdb291b1694454cd1eaa"), looks := false }, kinds := [], alts := [], laidByText := true, laidKinds := [.data, .pinned], laidTests := true, laidLooks := .later }
def KeysJoinUptoCardSaid : Prop := Claim7.holds Tryd.pinned (.plain (OpenSpec.upto keysJoinSpec)) keysJoinUptoCard

/-- THE SECOND FORM's CARD OF 'exchequerlaw04.KeysOrder'. -/
def keysOrderUptoCard : Claim7 := { stood := { row := keysOrderUptoRow, standIns := [], harness := (true, "d8d5b790e436e6231e3a52d2ca3f5d5000236ccdc0bacdb291b1694454cd1eaa"), looks := false }, kinds := [], alts := [], laidByText := true, laidKinds := [.data, .pinned], laidTests := true, laidLooks := .later }
def KeysOrderUptoCardSaid : Prop := Claim7.holds Tryd.pinned (.plain (OpenSpec.upto keysOrderSpec)) keysOrderUptoCard

/-- THE SECOND FORM's CARD OF 'exchequerlaw04.KeysBytes'. -/
def keysBytesUptoCard : Claim7 := { stood := { row := keysBytesUptoRow, standIns := [], harness := (true, "d8d5b790e436e6231e3a52d2ca3f5d5000236ccdc0bacdb291b1694454cd1eaa"), looks := false }, kinds := [], alts := [], laidByText := true, laidKinds := [.data, .pinned], laidTests := true, laidLooks := .later }
def KeysBytesUptoCardSaid : Prop := Claim7.holds Tryd.pinned (.plain (OpenSpec.upto keysBytesSpec)) keysBytesUptoCard

/-- THE SECOND FORM's CARD OF 'exchequerlaw04.KeysFront'. -/
def keysFrontUptoCard : Claim7 := { stood := { row := keysFrontUptoRow, standIns := [], harness := (true, "d8d5b790e436e6231e3a52d2ca3f5d5000236ccdc0bacdb291b1694454cd1eaa"), looks := false }, kinds := [], alts := [], laidByText := true, laidKinds := [.data, .pinned], laidTests := true, laidLooks := .later }
def KeysFrontUptoCardSaid : Prop := Claim7.holds Tryd.pinned (.plain (OpenSpec.upto keysFrontSpec)) keysFrontUptoCard
end Rows
end Go.Proofs.YtkiakihffmafcaaDoor
