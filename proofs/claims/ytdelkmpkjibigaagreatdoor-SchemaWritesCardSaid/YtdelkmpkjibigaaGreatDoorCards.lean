/-
  DERIVED. GIVEN WITH THE SEED: THE CARDS: each row of YtdelkmpkjibigaaGreatDoorRows.lean that lists a variable, with what it lists TIED to the program's text (the seventh form; the later family's looks); each row that meets fmt, with fmt's text TOLD by the authors' own Lean function (tested against real Go, not proved from fmt's source: count such statements apart). THE CARD IS WHAT COUNTS. Prove the row's statement (the work); the ties are given (YtdelkmpkjibigaaGreatDoorTie.lean); close each card by the builder's one call (the guide's Derived/Test/ToyasCard.lean, 'card_holds'). Laid BY PROGRAM, IN A SANDBOX (cutbox-door.mjs). By AI agents, Wed Nov 11 2026. No macro, syntax, notation, axiom, sorry.
-/
import Derived.Test.YtdelkmpkjibigaaGreatDoorRows
import GoSem.ClaimSeven
namespace Go.Proofs.YtdelkmpkjibigaaGreatDoor
namespace Rows

/-- THE TIED CARD OF 'exchequerlaw16.SchemaWrites'. -/
def schemaWritesCard : Claim7 := { stood := { row := schemaWritesRow, standIns := [], harness := (true, "9cfc0eea467b4c9455c5e8b1a488655e2910636680848aca6da637812ae08b85"), looks := false }, kinds := [], alts := [], laidByText := true, laidKinds := [.data, .widerDeep, .mapped, .data, .pinned], laidTests := true, laidLooks := .later }
def SchemaWritesCardSaid : Prop := Claim7.holds Tryz.pinned (.plain (OpenSpec.ofChange schemaWritesSpec)) schemaWritesCard

/-- THE SECOND FORM's CARD OF 'exchequerlaw16.SchemaWrites'. -/
def schemaWritesUptoCard : Claim7 := { stood := { row := schemaWritesUptoRow, standIns := [], harness := (true, "9cfc0eea467b4c9455c5e8b1a488655e2910636680848aca6da637812ae08b85"), looks := false }, kinds := [], alts := [], laidByText := true, laidKinds := [.data, .widerDeep, .mapped, .data, .pinned], laidTests := true, laidLooks := .later }
def SchemaWritesUptoCardSaid : Prop := Claim7.holds Tryz.pinned (.plain (OpenSpec.upto schemaWritesSpec)) schemaWritesUptoCard
end Rows
end Go.Proofs.YtdelkmpkjibigaaGreatDoor
