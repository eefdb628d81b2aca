/-
  DERIVED. GIVEN WITH THE SEED: THE CARDS: each row of YthndhaolemgbdaaGreatDoorRows.lean that lists a variable, with what it lists TIED to the program's text (the seventh form; the later family's looks); each row that meets fmt, with fmt's text TOLD by the authors' own Lean function (tested against real Go, not proved from fmt's source: count such statements apart). THE CARD IS WHAT COUNTS. Prove the row's statement (the work); the ties are given (YthndhaolemgbdaaGreatDoorTie.lean); close each card by the builder's one call (the guide's Derived/Test/ToyasCard.lean, 'card_holds'). Laid BY PROGRAM, IN A SANDBOX (cutbox-door.mjs). By AI agents, Wed Nov 11 2026. No macro, syntax, notation, axiom, sorry.
-/
import Derived.Test.YthndhaolemgbdaaGreatDoorRows
import GoSem.ClaimSeven
namespace Go.Proofs.YthndhaolemgbdaaGreatDoor
namespace Rows

/-- THE TIED CARD OF 'exchequerlaw13.AstExprs'. -/
def astExprsCard : Claim7 := { stood := { row := astExprsRow, standIns := [], harness := (true, "a510adce3cb764ba2c01d2629cd418357f94145c2a935a9ba3d1e82419eb5922"), looks := false }, kinds := [], alts := [], laidByText := true, laidKinds := [.data, .mapped, .data, .pinned], laidTests := true, laidLooks := .later }
def AstExprsCardSaid : Prop := Claim7.holds Tryz.pinned (.plain (OpenSpec.ofChange astExprsSpec)) astExprsCard

/-- THE TIED CARD OF 'exchequerlaw13.AstPrints'. -/
def astPrintsCard : Claim7 := { stood := { row := astPrintsRow, standIns := [], harness := (true, "a510adce3cb764ba2c01d2629cd418357f94145c2a935a9ba3d1e82419eb5922"), looks := false }, kinds := [], alts := [], laidByText := true, laidKinds := [.data, .mapped, .data, .pinned], laidTests := true, laidLooks := .later }
def AstPrintsCardSaid : Prop := Claim7.holds Tryz.pinned (.plain (OpenSpec.ofChange astPrintsSpec)) astPrintsCard

/-- THE TIED CARD OF 'exchequerlaw14.ParseStmts'. -/
def parseStmtsCard : Claim7 := { stood := { row := parseStmtsRow, standIns := [], harness := (true, "a510adce3cb764ba2c01d2629cd418357f94145c2a935a9ba3d1e82419eb5922"), looks := false }, kinds := [], alts := [], laidByText := true, laidKinds := [.data, .widerDeep, .mapped, .data, .pinned], laidTests := true, laidLooks := .later }
def ParseStmtsCardSaid : Prop := Claim7.holds Tryz.pinned (.plain (OpenSpec.ofChange parseStmtsSpec)) parseStmtsCard

/-- THE TIED CARD OF 'exchequerlaw14.ParseExprs'. -/
def parseExprsCard : Claim7 := { stood := { row := parseExprsRow, standIns := [], harness := (true, "a510adce3cb764ba2c01d2629cd418357f94145c2a935a9ba3d1e82419eb5922"), looks := false }, kinds := [], alts := [], laidByText := true, laidKinds := [.data, .widerDeep, .mapped, .data, .pinned], laidTests := true, laidLooks := .later }
def ParseExprsCardSaid : Prop := Claim7.holds Tryz.pinned (.plain (OpenSpec.ofChange parseExprsSpec)) parseExprsCard

/-- THE TIED CARD OF 'exchequerlaw14.ParseBack'. -/
def parseBackCard : Claim7 := { stood := { row := parseBackRow, standIns := [], harness := (true, "a510adce3cb764ba2c01d2629cd418357f94145c2a935a9ba3d1e82419eb5922"), looks := false }, kinds := [], alts := [], laidByText := true, laidKinds := [.data, .widerDeep, .mapped, .data, .pinned], laidTests := true, laidLooks := .later }
def ParseBackCardSaid : Prop := Claim7.holds Tryz.pinned (.plain (OpenSpec.ofChange parseBackSpec)) parseBackCard

/-- THE TIED CARD OF 'exchequerlaw14.ParseRound'. -/
def parseRoundCard : Claim7 := { stood := { row := parseRoundRow, standIns := [], harness := (true, "a510adce3cb764ba2c01d2629cd418357f94145c2a935a9ba3d1e82419eb5922"), looks := false }, kinds := [], alts := [], laidByText := true, laidKinds := [.data, .widerDeep, .mapped, .data, .pinned], laidTests := true, laidLooks := .later }
def ParseRoundCardSaid : Prop := Claim7.holds Tryz.pinned (.plain (OpenSpec.ofChange parseRoundSpec)) parseRoundCard

/-- THE TIED CARD OF 'exchequerlaw14.ParseCuts'. -/
def parseCutsCard : Claim7 := { stood := { row := parseCutsRow, standIns := [], harness := (true, "a510adce3cb764ba2c01d2629cd418357f94145c2a935a9ba3d1e82419eb5922"), looks := false }, kinds := [], alts := [], laidByText := true, laidKinds := [.data, .widerDeep, .mapped, .data, .pinned], laidTests := true, laidLooks := .later }
def ParseCutsCardSaid : Prop := Claim7.holds Tryz.pinned (.plain (OpenSpec.ofChange parseCutsSpec)) parseCutsCard

/-- THE TIED CARD OF 'exchequerlaw14.ParseBinds'. -/
def parseBindsCard : Claim7 := { stood := { row := parseBindsRow, standIns := [], harness := (true, "a510adce3cb764ba2c01d2629cd418357f94145c2a935a9ba3d1e82419eb5922"), looks := false }, kinds := [], alts := [], laidByText := true, laidKinds := [.data, .widerDeep, .mapped, .data, .pinned], laidTests := true, laidLooks := .later }
def ParseBindsCardSaid : Prop := Claim7.holds Tryz.pinned (.plain (OpenSpec.ofChange parseBindsSpec)) parseBindsCard

/-- THE TIED CARD OF 'exchequerlaw14.ParseBrackets'. -/
def parseBracketsCard : Claim7 := { stood := { row := parseBracketsRow, standIns := [], harness := (true, "a510adce3cb764ba2c01d2629cd418357f94145c2a935a9ba3d1e82419eb5922"), looks := false }, kinds := [], alts := [], laidByText := true, laidKinds := [.data, .widerDeep, .mapped, .data, .pinned], laidTests := true, laidLooks := .later }
def ParseBracketsCardSaid : Prop := Claim7.holds Tryz.pinned (.plain (OpenSpec.ofChange parseBracketsSpec)) parseBracketsCard

/-- THE SECOND FORM's CARD OF 'exchequerlaw13.AstExprs'. -/
def astExprsUptoCard : Claim7 := { stood := { row := astExprsUptoRow, standIns := [], harness := (true, "a510adce3cb764ba2c01d2629cd418357f94145c2a935a9ba3d1e82419eb5922"), looks := false }, kinds := [], alts := [], laidByText := true, laidKinds := [.data, .mapped, .data, .pinned], laidTests := true, laidLooks := .later }
def AstExprsUptoCardSaid : Prop := Claim7.holds Tryz.pinned (.plain (OpenSpec.upto astExprsSpec)) astExprsUptoCard

/-- THE SECOND FORM's CARD OF 'exchequerlaw13.AstPrints'. -/
def astPrintsUptoCard : Claim7 := { stood := { row := astPrintsUptoRow, standIns := [], harness := (true, "a510adce3cb764ba2c01d2629cd418357f94145c2a935a9ba3d1e82419eb5922"), looks := false }, kinds := [], alts := [], laidByText := true, laidKinds := [.data, .mapped, .data, .pinned], laidTests := true, laidLooks := .later }
def AstPrintsUptoCardSaid : Prop := Claim7.holds Tryz.pinned (.plain (OpenSpec.upto astPrintsSpec)) astPrintsUptoCard

/-- THE SECOND FORM's CARD OF 'exchequerlaw14.ParseStmts'. -/
def parseStmtsUptoCard : Claim7 := { stood := { row := parseStmtsUptoRow, standIns := [], harness := (true, "a510adce3cb764ba2c01d2629cd418357f94145c2a935a9ba3d1e82419eb5922"), looks := false }, kinds := [], alts := [], laidByText := true, laidKinds := [.data, .widerDeep, .mapped, .data, .pinned], laidTests := true, laidLooks := .later }
def ParseStmtsUptoCardSaid : Prop := Claim7.holds Tryz.pinned (.plain (OpenSpec.upto parseStmtsSpec)) parseStmtsUptoCard

/-- THE SECOND FORM's CARD OF 'exchequerlaw14.ParseExprs'. -/
def parseExprsUptoCard : Claim7 := { stood := { row := parseExprsUptoRow, standIns := [], harness := (true, "a510adce3cb764ba2c01d2629cd418357f94145c2a935a9ba3d1e82419eb5922"), looks := false }, kinds := [], alts := [], laidByText := true, laidKinds := [.data, .widerDeep, .mapped, .data, .pinned], laidTests := true, laidLooks := .later }
def ParseExprsUptoCardSaid : Prop := Claim7.holds Tryz.pinned (.plain (OpenSpec.upto parseExprsSpec)) parseExprsUptoCard

/-- THE SECOND FORM's CARD OF 'exchequerlaw14.ParseBack'. -/
def parseBackUptoCard : Claim7 := { stood := { row := parseBackUptoRow, standIns := [], harness := (true, "a510adce3cb764ba2c01d2629cd418357f94145c2a935a9ba3d1e82419eb5922"), looks := false }, kinds := [], alts := [], laidByText := true, laidKinds := [.data, .widerDeep, .mapped, .data, .pinned], laidTests := true, laidLooks := .later }
def ParseBackUptoCardSaid : Prop := Claim7.holds Tryz.pinned (.plain (OpenSpec.upto parseBackSpec)) parseBackUptoCard

/-- THE SECOND FORM's CARD OF 'exchequerlaw14.ParseRound'. -/
def parseRoundUptoCard : Claim7 := { stood := { row := parseRoundUptoRow, standIns := [], harness := (true, "a510adce3cb764ba2c01d2629cd418357f94145c2a935a9ba3d1e82419eb5922"), looks := false }, kinds := [], alts := [], laidByText := true, laidKinds := [.data, .widerDeep, .mapped, .data, .pinned], laidTests := true, laidLooks := .later }
def ParseRoundUptoCardSaid : Prop := Claim7.holds Tryz.pinned (.plain (OpenSpec.upto parseRoundSpec)) parseRoundUptoCard

/-- THE SECOND FORM's CARD OF 'exchequerlaw14.ParseCuts'. -/
def parseCutsUptoCard : Claim7 := { stood := { row := parseCutsUptoRow, standIns := [], harness := (true, "a510adce3cb764ba2c01d2629cd418357f94145c2a935a9ba3d1e82419eb5922"), looks := false }, kinds := [], alts := [], laidByText := true, laidKinds := [.data, .widerDeep, .mapped, .data, .pinned], laidTests := true, laidLooks := .later }
def ParseCutsUptoCardSaid : Prop := Claim7.holds Tryz.pinned (.plain (OpenSpec.upto parseCutsSpec)) parseCutsUptoCard

/-- THE SECOND FORM's CARD OF 'exchequerlaw14.ParseBinds'. -/
def parseBindsUptoCard : Claim7 := { stood := { row := parseBindsUptoRow, standIns := [], harness := (true, "a510adce3cb764ba2c01d2629cd418357f94145c2a935a9ba3d1e82419eb5922"), looks := false }, kinds := [], alts := [], laidByText := true, laidKinds := [.data, .widerDeep, .mapped, .data, .pinned], laidTests := true, laidLooks := .later }
def ParseBindsUptoCardSaid : Prop := Claim7.holds Tryz.pinned (.plain (OpenSpec.upto parseBindsSpec)) parseBindsUptoCard

/-- THE SECOND FORM's CARD OF 'exchequerlaw14.ParseBrackets'. -/
def parseBracketsUptoCard : Claim7 := { stood := { row := parseBracketsUptoRow, standIns := [], harness := (true, "a510adce3cb764ba2c01d2629cd418357f94145c2a935a9ba3d1e82419eb5922"), looks := false }, kinds := [], alts := [], laidByText := true, laidKinds := [.data, .widerDeep, .mapped, .data, .pinned], laidTests := true, laidLooks := .later }
def ParseBracketsUptoCardSaid : Prop := Claim7.holds Tryz.pinned (.plain (OpenSpec.upto parseBracketsSpec)) parseBracketsUptoCard
end Rows
end Go.Proofs.YthndhaolemgbdaaGreatDoor
