/-
  DERIVED. GIVEN WITH THE SEED: THE CARDS: each row of YtlhebakbbfmiiaaDoorRows.lean that lists a variable, with what it lists TIED to the program's text (the seventh form; the later family's looks); each row that meets fmt, with fmt's text TOLD by the authors' own Lean function (tested against real Go, not proved from fmt's source: count such statements apart). THE CARD IS WHAT COUNTS. Prove the row's statement (the work); the ties are given (YtlhebakbbfmiiaaDoorTie.lean); close each card by the builder's one call (the guide's Derived/Test/ToyasCard.lean, 'card_holds'). Laid BY PROGRAM, IN A SANDBOX (cutbox-door.mjs). By AI agents, Wed Nov 11 2026. No macro, syntax, notation, axiom, sorry.
-/
import Derived.Test.YtlhebakbbfmiiaaDoorRows
import GoSem.ClaimSeven
namespace Go.Proofs.YtlhebakbbfmiiaaDoor
namespace Rows

/-- THE TIED CARD OF 'exchequerlaw15.ReckonEvals'. -/
def reckonEvalsCard : Claim7 := { stood := { row := reckonEvalsRow, standIns := [], harness := (true, "4fcca637cfd0132d38def7c910bd61b181e539c886d16a0b88a3b3d8e343ce9b"), looks := false }, kinds := [], alts := [], laidByText := true, laidKinds := [.mapped], laidTests := true, laidLooks := .later }
def ReckonEvalsCardSaid : Prop := Claim7.holds Tryd.pinned (.plain (OpenSpec.ofChange reckonEvalsSpec)) reckonEvalsCard

/-- THE TIED CARD OF 'exchequerlaw15.ReckonKinds'. -/
def reckonKindsCard : Claim7 := { stood := { row := reckonKindsRow, standIns := [], harness := (true, "4fcca637cfd0132d38def7c910bd61b181e539c886d16a0b88a3b3d8e343ce9b"), looks := false }, kinds := [], alts := [], laidByText := true, laidKinds := [.mapped], laidTests := true, laidLooks := .later }
def ReckonKindsCardSaid : Prop := Claim7.holds Tryd.pinned (.plain (OpenSpec.ofChange reckonKindsSpec)) reckonKindsCard

/-- THE TIED CARD OF 'exchequerlaw15.ReckonThree'. -/
def reckonThreeCard : Claim7 := { stood := { row := reckonThreeRow, standIns := [], harness := (true, "4fcca637cfd0132d38def7c910bd61b181e539c886d16a0b88a3b3d8e343ce9b"), looks := false }, kinds := [], alts := [], laidByText := true, laidKinds := [.mapped], laidTests := true, laidLooks := .later }
def ReckonThreeCardSaid : Prop := Claim7.holds Tryd.pinned (.plain (OpenSpec.ofChange reckonThreeSpec)) reckonThreeCard

/-- THE TIED CARD OF 'exchequerlaw15.ReckonCompares'. -/
def reckonComparesCard : Claim7 := { stood := { row := reckonComparesRow, standIns := [], harness := (true, "4fcca637cfd0132d38def7c910bd61b181e539c886d16a0b88a3b3d8e343ce9b"), looks := false }, kinds := [], alts := [], laidByText := true, laidKinds := [.mapped], laidTests := true, laidLooks := .later }
def ReckonComparesCardSaid : Prop := Claim7.holds Tryd.pinned (.plain (OpenSpec.ofChange reckonComparesSpec)) reckonComparesCard

/-- THE TIED CARD OF 'exchequerlaw15.ReckonNames'. -/
def reckonNamesCard : Claim7 := { stood := { row := reckonNamesRow, standIns := [], harness := (true, "4fcca637cfd0132d38def7c910bd61b181e539c886d16a0b88a3b3d8e343ce9b"), looks := false }, kinds := [], alts := [], laidByText := true, laidKinds := [.mapped], laidTests := true, laidLooks := .later }
def ReckonNamesCardSaid : Prop := Claim7.holds Tryd.pinned (.plain (OpenSpec.ofChange reckonNamesSpec)) reckonNamesCard

/-- THE TIED CARD OF 'exchequerlaw15.ReckonSums'. -/
def reckonSumsCard : Claim7 := { stood := { row := reckonSumsRow, standIns := [], harness := (true, "4fcca637cfd0132d38def7c910bd61b181e539c886d16a0b88a3b3d8e343ce9b"), looks := false }, kinds := [], alts := [], laidByText := true, laidKinds := [.mapped], laidTests := true, laidLooks := .later }
def ReckonSumsCardSaid : Prop := Claim7.holds Tryd.pinned (.plain (OpenSpec.ofChange reckonSumsSpec)) reckonSumsCard

/-- THE SECOND FORM's CARD OF 'exchequerlaw15.ReckonEvals'. -/
def reckonEvalsUptoCard : Claim7 := { stood := { row := reckonEvalsUptoRow, standIns := [], harness := (true, "4fcca637cfd0132d38def7c910bd61b181e539c886d16a0b88a3b3d8e343ce9b"), looks := false }, kinds := [], alts := [], laidByText := true, laidKinds := [.mapped], laidTests := true, laidLooks := .later }
def ReckonEvalsUptoCardSaid : Prop := Claim7.holds Tryd.pinned (.plain (OpenSpec.upto reckonEvalsSpec)) reckonEvalsUptoCard

/-- THE SECOND FORM's CARD OF 'exchequerlaw15.ReckonKinds'. -/
def reckonKindsUptoCard : Claim7 := { stood := { row := reckonKindsUptoRow, standIns := [], harness := (true, "4fcca637cfd0132d38def7c910bd61b181e539c886d16a0b88a3b3d8e343ce9b"), looks := false }, kinds := [], alts := [], laidByText := true, laidKinds := [.mapped], laidTests := true, laidLooks := .later }
def ReckonKindsUptoCardSaid : Prop := Claim7.holds Tryd.pinned (.plain (OpenSpec.upto reckonKindsSpec)) reckonKindsUptoCard

/-- THE SECOND FORM's CARD OF 'exchequerlaw15.ReckonThree'. -/
def reckonThreeUptoCard : Claim7 := { stood := { row := reckonThreeUptoRow, standIns := [], harness := (true, "4fcca637cfd0132d38def7c910bd61b181e539c886d16a0b88a3b3d8e343ce9b"), looks := false }, kinds := [], alts := [], laidByText := true, laidKinds := [.mapped], laidTests := true, laidLooks := .later }
def ReckonThreeUptoCardSaid : Prop := Claim7.holds Tryd.pinned (.plain (OpenSpec.upto reckonThreeSpec)) reckonThreeUptoCard

/-- THE SECOND FORM's CARD OF 'exchequerlaw15.ReckonCompares'. -/
def reckonComparesUptoCard : Claim7 := { stood := { row := reckonComparesUptoRow, standIns := [], harness := (true, "4fcca637cfd0132d38def7c910bd61b181e539c886d16a0b88a3b3d8e343ce9b"), looks := false }, kinds := [], alts := [], laidByText := true, laidKinds := [.mapped], laidTests := true, laidLooks := .later }
def ReckonComparesUptoCardSaid : Prop := Claim7.holds Tryd.pinned (.plain (OpenSpec.upto reckonComparesSpec)) reckonComparesUptoCard

/-- THE SECOND FORM's CARD OF 'exchequerlaw15.ReckonNames'. -/
def reckonNamesUptoCard : Claim7 := { stood := { row := reckonNamesUptoRow, standIns := [], harness := (true, "4fcca637cfd0132d38def7c910bd61b181e539c886d16a0b88a3b3d8e343ce9b"), looks := false }, kinds := [], alts := [], laidByText := true, laidKinds := [.mapped], laidTests := true, laidLooks := .later }
def ReckonNamesUptoCardSaid : Prop := Claim7.holds Tryd.pinned (.plain (OpenSpec.upto reckonNamesSpec)) reckonNamesUptoCard

/-- THE SECOND FORM's CARD OF 'exchequerlaw15.ReckonSums'. -/
def reckonSumsUptoCard : Claim7 := { stood := { row := reckonSumsUptoRow, standIns := [], harness := (true, "4fcca637cfd0132d38def7c910bd61b181e539c886d16a0b88a3b3d8e343ce9b"), looks := false }, kinds := [], alts := [], laidByText := true, laidKinds := [.mapped], laidTests := true, laidLooks := .later }
def ReckonSumsUptoCardSaid : Prop := Claim7.holds Tryd.pinned (.plain (OpenSpec.upto reckonSumsSpec)) reckonSumsUptoCard
end Rows
end Go.Proofs.YtlhebakbbfmiiaaDoor
