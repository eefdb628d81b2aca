/-
  DERIVED. GIVEN WITH THE SEED: THE CARDS: each row of YtbkinkalnmbpjaaGreatDoorRows.lean that lists a variable, with what it lists TIED to the program's text (the seventh form; the later family's looks); each row that meets fmt, with fmt's text TOLD by the authors' own Lean function (tested against real Go, not proved from fmt's source: count such statements apart). THE CARD IS WHAT COUNTS. Prove the row's statement (the work); the ties are given (YtbkinkalnmbpjaaGreatDoorTie.lean); close each card by the builder's one call (the guide's Derived/Test/ToyasCard.lean, 'card_holds'). Laid BY PROGRAM, IN A SANDBOX (cutbox-door.mjs). By AI agents, Wed Nov 11 2026. No macro, syntax, notation, axiom, sorry.
-/
import Derived.Test.YtbkinkalnmbpjaaGreatDoorRows
import GoSem.ClaimSeven
namespace Go.Proofs.YtbkinkalnmbpjaaGreatDoor
namespace Rows

/-- THE TIED CARD OF 'exchequerlaw16.SchemaWrites'. -/
def schemaWritesCard : Claim7 := { stood := { row := schemaWritesRow, standIns := [], harness := (true, "c83b28d4461aa5a3ddf1187b818d39c2ad42f22164f85baf8bbeed6a8e237603"), looks := false }, kinds := [], alts := [], laidByText := true, laidKinds := [.data, .widerDeep, .mapped, .data, .pinned], laidTests := true, laidLooks := .later }
def SchemaWritesCardSaid : Prop := Claim7.holds Tryz.pinned (.plain (OpenSpec.ofChange schemaWritesSpec)) schemaWritesCard

/-- THE TIED CARD OF 'exchequerlaw16.SchemaNarrow'. -/
def schemaNarrowCard : Claim7 := { stood := { row := schemaNarrowRow, standIns := [], harness := (true, "c83b28d4461aa5a3ddf1187b818d39c2ad42f22164f85baf8bbeed6a8e237603"), looks := false }, kinds := [], alts := [], laidByText := true, laidKinds := [.data, .widerDeep, .mapped, .data, .pinned], laidTests := true, laidLooks := .later }
def SchemaNarrowCardSaid : Prop := Claim7.holds Tryz.pinned (.plain (OpenSpec.ofChange schemaNarrowSpec)) schemaNarrowCard

/-- THE TIED CARD OF 'exchequerlaw16.SchemaIndexes'. -/
def schemaIndexesCard : Claim7 := { stood := { row := schemaIndexesRow, standIns := [], harness := (true, "c83b28d4461aa5a3ddf1187b818d39c2ad42f22164f85baf8bbeed6a8e237603"), looks := false }, kinds := [], alts := [], laidByText := true, laidKinds := [.data, .widerDeep, .mapped, .data, .pinned], laidTests := true, laidLooks := .later }
def SchemaIndexesCardSaid : Prop := Claim7.holds Tryz.pinned (.plain (OpenSpec.ofChange schemaIndexesSpec)) schemaIndexesCard

/-- THE SECOND FORM's CARD OF 'exchequerlaw16.SchemaWrites'. -/
def schemaWritesUptoCard : Claim7 := { stood := { row := schemaWritesUptoRow, standIns := [], harness := (true, "c83b28d4461aa5a3ddf1187b818d39c2ad42f22164f85baf8bbeed6a8e237603"), looks := false }, kinds := [], alts := [], laidByText := true, laidKinds := [.data, .widerDeep, .mapped, .data, .pinned], laidTests := true, laidLooks := .later }
def SchemaWritesUptoCardSaid : Prop := Claim7.holds Tryz.pinned (.plain (OpenSpec.upto schemaWritesSpec)) schemaWritesUptoCard

/-- THE SECOND FORM's CARD OF 'exchequerlaw16.SchemaNarrow'. -/
def schemaNarrowUptoCard : Claim7 := { stood := { row := schemaNarrowUptoRow, standIns := [], harness := (true, "c83b28d4461aa5a3ddf1187b818d39c2ad42f22164f85baf8bbeed6a8e237603"), looks := false }, kinds := [], alts := [], laidByText := true, laidKinds := [.data, .widerDeep, .mapped, .data, .pinned], laidTests := true, laidLooks := .later }
def SchemaNarrowUptoCardSaid : Prop := Claim7.holds Tryz.pinned (.plain (OpenSpec.upto schemaNarrowSpec)) schemaNarrowUptoCard

/-- THE SECOND FORM's CARD OF 'exchequerlaw16.SchemaIndexes'. -/
def schemaIndexesUptoCard : Claim7 := { stood := { row := schemaIndexesUptoRow, standIns := [], harness := (true, "c83b28d4461aa5a3ddf1187b818d39c2ad42f22164f85baf8bbeed6a8e237603"), looks := false }, kinds := [], alts := [], laidByText := true, laidKinds := [.data, .widerDeep, .mapped, .data, .pinned], laidTests := true, laidLooks := .later }
def SchemaIndexesUptoCardSaid : Prop := Claim7.holds Tryz.pinned (.plain (OpenSpec.upto schemaIndexesSpec)) schemaIndexesUptoCard
end Rows
end Go.Proofs.YtbkinkalnmbpjaaGreatDoor
