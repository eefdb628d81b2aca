/-
  NARROWER THAN 'FOR EVERY INPUT', by the rows' own cells (each row's printed sentence says how): AstExprs: loops, laid · AstPrints: loops, laid · ParseStmts: laid · ParseExprs: laid · ParseBack: loops, laid · ParseRound: laid · ParseCuts: loops, laid · ParseBinds: laid · ParseBrackets: loops, laid.
  DERIVED. THE GIVEN ROWS OF THIS SEAT. 9 by the template 'for every input the law returns true; each argument reads behind the call as it read before'; 0 by the template 'total and deterministic' (their statements: YthndhaolemgbdaaGreatDoorTotals.lean).
  GIVEN WITH THE SEED: the statements are not yours to turn. If you find one false, say at which input.
  Laid BY PROGRAM, IN A SANDBOX (cutbox-rows.mjs): the forced cells as the released guide's own fill.sh prints them over the translation f37cfe48bec8e9f3… (all of the seat's roots in one cut). By AI agents, Wed Nov 11 2026. No macro, syntax, notation, axiom, sorry.
-/
import Derived.Test.YthndhaolemgbdaaGreatDoorChecked
import GoSem.PinnedTables
import GoSem.Claim
import GoSem.ClaimJoined
import GoSem.ClaimMapViews
import Derived.JoinedTies
import Derived.KernelRfl
namespace Go.Proofs.YthndhaolemgbdaaGreatDoor
/- THE CELL 'sum', in the pinned program and in every row, IS THE sha256 OF THE DUMP (.gsa) THAT YthndhaolemgbdaaGreatDoorProg.lean LOADS. Nothing in Lean hashes anything: it is a label: what it is worth is what the hold of that sum in a sandbox is worth. -/
noncomputable def Tryz.pinned : Pinned := { name := "ythndhaolemgbdaagreatdoor", sum := "f37cfe48bec8e9f35cf7f8795064848ea64755bd004c1f7461710ca4d973e55a", checked := Tryz.checked }
namespace Rows
def none {H : Type} : Left H := { results := [], args := [] }

/- WHAT THE LISTED PACKAGE-LEVEL VARIABLES READ AS WHEN THE CALL BEGINS. Each datum BY PROGRAM (the guide's laid-datum.mjs) off the statement by which the dump's own 'gosem.cut.vars' lays the variable. In a bare row this is a premise. The card (YthndhaolemgbdaaGreatDoorCards.lean) ties it to the program's text. -/
def laid_unicode_utf8_acceptRanges {H : Type} : DataW H := .agg [.agg [.lit (.int .u8 128), .lit (.int .u8 191)], .agg [.lit (.int .u8 160), .lit (.int .u8 191)], .agg [.lit (.int .u8 128), .lit (.int .u8 159)], .agg [.lit (.int .u8 144), .lit (.int .u8 191)], .agg [.lit (.int .u8 128), .lit (.int .u8 143)], .agg [.lit (.int .u8 0), .lit (.int .u8 0)], .agg [.lit (.int .u8 0), .lit (.int .u8 0)], .agg [.lit (.int .u8 0), .lit (.int .u8 0)], .agg [.lit (.int .u8 0), .lit (.int .u8 0)], .agg [.lit (.int .u8 0), .lit (.int .u8 0)], .agg [.lit (.int .u8 0), .lit (.int .u8 0)], .agg [.lit (.int .u8 0), .lit (.int .u8 0)], .agg [.lit (.int .u8 0), .lit (.int .u8 0)], .agg [.lit (.int .u8 0), .lit (.int .u8 0)], .agg [.lit (.int .u8 0), .lit (.int .u8 0)], .agg [.lit (.int .u8 0), .lit (.int .u8 0)]]
def laid_exchequer_ast_signs {H : Type} : DataW H := .map [(.int .i64 4, .lit (.string [65, 78, 68])), (.int .i64 5, .lit (.string [79, 82])), (.int .i64 6, .lit (.string [61])), (.int .i64 7, .lit (.string [60, 62])), (.int .i64 8, .lit (.string [60])), (.int .i64 9, .lit (.string [60, 61])), (.int .i64 10, .lit (.string [62])), (.int .i64 11, .lit (.string [62, 61])), (.int .i64 12, .lit (.string [43])), (.int .i64 13, .lit (.string [45])), (.int .i64 14, .lit (.string [42]))]
def laid_exchequer_ast_kinds {H : Type} : DataW H := .agg [.lit (.string []), .lit (.string []), .lit (.string [66, 79, 79, 76]), .lit (.string [73, 78, 84]), .lit (.string [84, 69, 88, 84]), .lit (.string [66, 89, 84, 69, 83])]
/-- One of Go's own tables, pinned by name: the form's constant. -/
def laid_unicode_utf8_first : DataW Unit := Go.Pinned.utf8First
def laid_exchequer_lex_words {H : Type} : DataW H := .agg [.lit (.string [65, 68, 68]), .lit (.string [65, 78, 68]), .lit (.string [65, 83, 67]), .lit (.string [66, 79, 79, 76]), .lit (.string [66, 89]), .lit (.string [66, 89, 84, 69, 83]), .lit (.string [67, 72, 69, 67, 75]), .lit (.string [67, 82, 69, 65, 84, 69]), .lit (.string [68, 69, 76, 69, 84, 69]), .lit (.string [68, 69, 83, 67]), .lit (.string [68, 82, 79, 80]), .lit (.string [70, 65, 76, 83, 69]), .lit (.string [70, 82, 79, 77]), .lit (.string [73, 78, 68, 69, 88]), .lit (.string [73, 78, 83, 69, 82, 84]), .lit (.string [73, 78, 84]), .lit (.string [73, 78, 84, 79]), .lit (.string [73, 83]), .lit (.string [75, 69, 89]), .lit (.string [76, 73, 77, 73, 84]), .lit (.string [78, 79, 84]), .lit (.string [78, 85, 76, 76]), .lit (.string [79, 78]), .lit (.string [79, 82]), .lit (.string [79, 82, 68, 69, 82]), .lit (.string [80, 82, 73, 77, 65, 82, 89]), .lit (.string [82, 69, 70, 69, 82, 69, 78, 67, 69, 83]), .lit (.string [83, 69, 76, 69, 67, 84]), .lit (.string [83, 69, 84]), .lit (.string [84, 65, 66, 76, 69]), .lit (.string [84, 69, 88, 84]), .lit (.string [84, 82, 85, 69]), .lit (.string [85, 78, 73, 81, 85, 69]), .lit (.string [85, 80, 68, 65, 84, 69]), .lit (.string [86, 65, 76, 85, 69, 83]), .lit (.string [87, 72, 69, 82, 69])]

/-- 'exchequerlaw13.AstExprs': WHATEVER THE INPUT: true; the input reads as it did. -/
def astExprsSpec : ChangeSpec := { name := "astExprs", fn := fun _ => fun
  | [d1, d2] => { results := [.lit (.bool true)], args := [d1, d2] }
  | _ => none }
def astExprsRow : OpenClaim := { program := "ythndhaolemgbdaagreatdoor", sum := "f37cfe48bec8e9f35cf7f8795064848ea64755bd004c1f7461710ca4d973e55a", func := "exchequer/exchequerlaw13.AstExprs", spec := "astExprs", inPlace := ["internal/bytealg.CountString", "internal/bytealg.IndexByteString", "internal/bytealg.IndexString", "internal/abi.NoEscape", "internal/bytealg.MakeNoZero"], unfollowed := true, recurses := true, named := ["exchequer/ast.signs", "internal/bytealg.MaxLen", "unicode/utf8.first", "unicode/utf8.acceptRanges", "exchequer/ast.kinds"], loops := true, apart := false, laid := [("unicode/utf8.acceptRanges", laid_unicode_utf8_acceptRanges), ("exchequer/ast.signs", laid_exchequer_ast_signs), ("exchequer/ast.kinds", laid_exchequer_ast_kinds), ("unicode/utf8.first", laid_unicode_utf8_first)] }
def AstExprsSaid : Prop := astExprsRow.holds Tryz.pinned (OpenSpec.ofChange astExprsSpec)

/-- ITS FALSE NEIGHBOUR: 'it returns false'. Refute it at one input. -/
def astExprsWrong : ChangeSpec := { name := "astExprs", fn := fun _ => fun
  | [d1, d2] => { results := [.lit (.bool false)], args := [d1, d2] }
  | _ => none }
def AstExprsWrongFalsely : Prop := astExprsRow.holds Tryz.pinned (OpenSpec.ofChange astExprsWrong)

/-- 'exchequerlaw13.AstPrints': WHATEVER THE INPUT: true; the input reads as it did. -/
def astPrintsSpec : ChangeSpec := { name := "astPrints", fn := fun _ => fun
  | [d1, d2] => { results := [.lit (.bool true)], args := [d1, d2] }
  | _ => none }
def astPrintsRow : OpenClaim := { program := "ythndhaolemgbdaagreatdoor", sum := "f37cfe48bec8e9f35cf7f8795064848ea64755bd004c1f7461710ca4d973e55a", func := "exchequer/exchequerlaw13.AstPrints", spec := "astPrints", inPlace := ["internal/bytealg.CountString", "internal/bytealg.IndexByteString", "internal/bytealg.IndexString", "internal/abi.NoEscape", "internal/bytealg.MakeNoZero"], unfollowed := true, recurses := true, named := ["exchequer/ast.signs", "internal/bytealg.MaxLen", "unicode/utf8.first", "unicode/utf8.acceptRanges", "exchequer/ast.kinds"], loops := true, apart := false, laid := [("unicode/utf8.acceptRanges", laid_unicode_utf8_acceptRanges), ("exchequer/ast.signs", laid_exchequer_ast_signs), ("exchequer/ast.kinds", laid_exchequer_ast_kinds), ("unicode/utf8.first", laid_unicode_utf8_first)] }
def AstPrintsSaid : Prop := astPrintsRow.holds Tryz.pinned (OpenSpec.ofChange astPrintsSpec)

/-- ITS FALSE NEIGHBOUR: 'it returns false'. Refute it at one input. -/
def astPrintsWrong : ChangeSpec := { name := "astPrints", fn := fun _ => fun
  | [d1, d2] => { results := [.lit (.bool false)], args := [d1, d2] }
  | _ => none }
def AstPrintsWrongFalsely : Prop := astPrintsRow.holds Tryz.pinned (OpenSpec.ofChange astPrintsWrong)

/-- 'exchequerlaw14.ParseStmts': WHATEVER THE INPUT: true; the input reads as it did. -/
def parseStmtsSpec : ChangeSpec := { name := "parseStmts", fn := fun _ => fun
  | [d] => { results := [.lit (.bool true)], args := [d] }
  | _ => none }
def parseStmtsRow : OpenClaim := { program := "ythndhaolemgbdaagreatdoor", sum := "f37cfe48bec8e9f35cf7f8795064848ea64755bd004c1f7461710ca4d973e55a", func := "exchequer/exchequerlaw14.ParseStmts", spec := "parseStmts", inPlace := ["internal/bytealg.IndexByteString", "internal/abi.NoEscape", "internal/bytealg.MakeNoZero", "internal/bytealg.CountString", "internal/bytealg.IndexString"], unfollowed := true, recurses := true, named := ["exchequer/lex.words", "exchequer/ast.signs", "exchequer/ast.kinds", "internal/bytealg.MaxLen", "unicode/utf8.first", "unicode/utf8.acceptRanges"], apart := false, laid := [("unicode/utf8.acceptRanges", laid_unicode_utf8_acceptRanges), ("exchequer/lex.words", laid_exchequer_lex_words), ("exchequer/ast.signs", laid_exchequer_ast_signs), ("exchequer/ast.kinds", laid_exchequer_ast_kinds), ("unicode/utf8.first", laid_unicode_utf8_first)] }
def ParseStmtsSaid : Prop := parseStmtsRow.holds Tryz.pinned (OpenSpec.ofChange parseStmtsSpec)

/-- ITS FALSE NEIGHBOUR: 'it returns false'. Refute it at one input. -/
def parseStmtsWrong : ChangeSpec := { name := "parseStmts", fn := fun _ => fun
  | [d] => { results := [.lit (.bool false)], args := [d] }
  | _ => none }
def ParseStmtsWrongFalsely : Prop := parseStmtsRow.holds Tryz.pinned (OpenSpec.ofChange parseStmtsWrong)

/-- 'exchequerlaw14.ParseExprs': WHATEVER THE INPUT: true; the input reads as it did. -/
def parseExprsSpec : ChangeSpec := { name := "parseExprs", fn := fun _ => fun
  | [d] => { results := [.lit (.bool true)], args := [d] }
  | _ => none }
def parseExprsRow : OpenClaim := { program := "ythndhaolemgbdaagreatdoor", sum := "f37cfe48bec8e9f35cf7f8795064848ea64755bd004c1f7461710ca4d973e55a", func := "exchequer/exchequerlaw14.ParseExprs", spec := "parseExprs", inPlace := ["internal/bytealg.IndexByteString", "internal/abi.NoEscape", "internal/bytealg.MakeNoZero", "internal/bytealg.CountString", "internal/bytealg.IndexString"], unfollowed := true, recurses := true, named := ["exchequer/lex.words", "exchequer/ast.signs", "exchequer/ast.kinds", "internal/bytealg.MaxLen", "unicode/utf8.first", "unicode/utf8.acceptRanges"], apart := false, laid := [("unicode/utf8.acceptRanges", laid_unicode_utf8_acceptRanges), ("exchequer/lex.words", laid_exchequer_lex_words), ("exchequer/ast.signs", laid_exchequer_ast_signs), ("exchequer/ast.kinds", laid_exchequer_ast_kinds), ("unicode/utf8.first", laid_unicode_utf8_first)] }
def ParseExprsSaid : Prop := parseExprsRow.holds Tryz.pinned (OpenSpec.ofChange parseExprsSpec)

/-- ITS FALSE NEIGHBOUR: 'it returns false'. Refute it at one input. -/
def parseExprsWrong : ChangeSpec := { name := "parseExprs", fn := fun _ => fun
  | [d] => { results := [.lit (.bool false)], args := [d] }
  | _ => none }
def ParseExprsWrongFalsely : Prop := parseExprsRow.holds Tryz.pinned (OpenSpec.ofChange parseExprsWrong)

/-- 'exchequerlaw14.ParseBack': WHATEVER THE INPUT: true; the input reads as it did. -/
def parseBackSpec : ChangeSpec := { name := "parseBack", fn := fun _ => fun
  | [d1, d2] => { results := [.lit (.bool true)], args := [d1, d2] }
  | _ => none }
def parseBackRow : OpenClaim := { program := "ythndhaolemgbdaagreatdoor", sum := "f37cfe48bec8e9f35cf7f8795064848ea64755bd004c1f7461710ca4d973e55a", func := "exchequer/exchequerlaw14.ParseBack", spec := "parseBack", inPlace := ["internal/bytealg.IndexByteString", "internal/abi.NoEscape", "internal/bytealg.MakeNoZero", "internal/bytealg.CountString", "internal/bytealg.IndexString"], unfollowed := true, recurses := true, named := ["exchequer/lex.words", "exchequer/ast.signs", "exchequer/ast.kinds", "internal/bytealg.MaxLen", "unicode/utf8.first", "unicode/utf8.acceptRanges"], loops := true, apart := false, laid := [("unicode/utf8.acceptRanges", laid_unicode_utf8_acceptRanges), ("exchequer/lex.words", laid_exchequer_lex_words), ("exchequer/ast.signs", laid_exchequer_ast_signs), ("exchequer/ast.kinds", laid_exchequer_ast_kinds), ("unicode/utf8.first", laid_unicode_utf8_first)] }
def ParseBackSaid : Prop := parseBackRow.holds Tryz.pinned (OpenSpec.ofChange parseBackSpec)

/-- ITS FALSE NEIGHBOUR: 'it returns false'. Refute it at one input. -/
def parseBackWrong : ChangeSpec := { name := "parseBack", fn := fun _ => fun
  | [d1, d2] => { results := [.lit (.bool false)], args := [d1, d2] }
  | _ => none }
def ParseBackWrongFalsely : Prop := parseBackRow.holds Tryz.pinned (OpenSpec.ofChange parseBackWrong)

/-- 'exchequerlaw14.ParseRound': WHATEVER THE INPUT: true; the input reads as it did. -/
def parseRoundSpec : ChangeSpec := { name := "parseRound", fn := fun _ => fun
  | [d] => { results := [.lit (.bool true)], args := [d] }
  | _ => none }
def parseRoundRow : OpenClaim := { program := "ythndhaolemgbdaagreatdoor", sum := "f37cfe48bec8e9f35cf7f8795064848ea64755bd004c1f7461710ca4d973e55a", func := "exchequer/exchequerlaw14.ParseRound", spec := "parseRound", inPlace := ["internal/bytealg.IndexByteString", "internal/abi.NoEscape", "internal/bytealg.MakeNoZero", "internal/bytealg.CountString", "internal/bytealg.IndexString"], unfollowed := true, recurses := true, named := ["exchequer/lex.words", "exchequer/ast.signs", "exchequer/ast.kinds", "internal/bytealg.MaxLen", "unicode/utf8.first", "unicode/utf8.acceptRanges"], apart := false, laid := [("unicode/utf8.acceptRanges", laid_unicode_utf8_acceptRanges), ("exchequer/lex.words", laid_exchequer_lex_words), ("exchequer/ast.signs", laid_exchequer_ast_signs), ("exchequer/ast.kinds", laid_exchequer_ast_kinds), ("unicode/utf8.first", laid_unicode_utf8_first)] }
def ParseRoundSaid : Prop := parseRoundRow.holds Tryz.pinned (OpenSpec.ofChange parseRoundSpec)

/-- ITS FALSE NEIGHBOUR: 'it returns false'. Refute it at one input. -/
def parseRoundWrong : ChangeSpec := { name := "parseRound", fn := fun _ => fun
  | [d] => { results := [.lit (.bool false)], args := [d] }
  | _ => none }
def ParseRoundWrongFalsely : Prop := parseRoundRow.holds Tryz.pinned (OpenSpec.ofChange parseRoundWrong)

/-- 'exchequerlaw14.ParseCuts': WHATEVER THE INPUT: true; the input reads as it did. -/
def parseCutsSpec : ChangeSpec := { name := "parseCuts", fn := fun _ => fun
  | [d1, d2] => { results := [.lit (.bool true)], args := [d1, d2] }
  | _ => none }
def parseCutsRow : OpenClaim := { program := "ythndhaolemgbdaagreatdoor", sum := "f37cfe48bec8e9f35cf7f8795064848ea64755bd004c1f7461710ca4d973e55a", func := "exchequer/exchequerlaw14.ParseCuts", spec := "parseCuts", inPlace := ["internal/bytealg.IndexByteString", "internal/abi.NoEscape", "internal/bytealg.MakeNoZero", "internal/bytealg.CountString", "internal/bytealg.IndexString"], unfollowed := true, recurses := true, named := ["exchequer/lex.words", "exchequer/ast.signs", "exchequer/ast.kinds", "internal/bytealg.MaxLen", "unicode/utf8.first", "unicode/utf8.acceptRanges"], loops := true, apart := false, laid := [("unicode/utf8.acceptRanges", laid_unicode_utf8_acceptRanges), ("exchequer/lex.words", laid_exchequer_lex_words), ("exchequer/ast.signs", laid_exchequer_ast_signs), ("exchequer/ast.kinds", laid_exchequer_ast_kinds), ("unicode/utf8.first", laid_unicode_utf8_first)] }
def ParseCutsSaid : Prop := parseCutsRow.holds Tryz.pinned (OpenSpec.ofChange parseCutsSpec)

/-- ITS FALSE NEIGHBOUR: 'it returns false'. Refute it at one input. -/
def parseCutsWrong : ChangeSpec := { name := "parseCuts", fn := fun _ => fun
  | [d1, d2] => { results := [.lit (.bool false)], args := [d1, d2] }
  | _ => none }
def ParseCutsWrongFalsely : Prop := parseCutsRow.holds Tryz.pinned (OpenSpec.ofChange parseCutsWrong)

/-- 'exchequerlaw14.ParseBinds': WHATEVER THE INPUT: true; the input reads as it did. -/
def parseBindsSpec : ChangeSpec := { name := "parseBinds", fn := fun _ => fun
  | [d1, d2] => { results := [.lit (.bool true)], args := [d1, d2] }
  | _ => none }
def parseBindsRow : OpenClaim := { program := "ythndhaolemgbdaagreatdoor", sum := "f37cfe48bec8e9f35cf7f8795064848ea64755bd004c1f7461710ca4d973e55a", func := "exchequer/exchequerlaw14.ParseBinds", spec := "parseBinds", inPlace := ["internal/bytealg.IndexByteString", "internal/abi.NoEscape", "internal/bytealg.MakeNoZero", "internal/bytealg.CountString", "internal/bytealg.IndexString"], unfollowed := true, recurses := true, named := ["exchequer/lex.words", "exchequer/ast.signs", "exchequer/ast.kinds", "internal/bytealg.MaxLen", "unicode/utf8.first", "unicode/utf8.acceptRanges"], apart := false, laid := [("unicode/utf8.acceptRanges", laid_unicode_utf8_acceptRanges), ("exchequer/lex.words", laid_exchequer_lex_words), ("exchequer/ast.signs", laid_exchequer_ast_signs), ("exchequer/ast.kinds", laid_exchequer_ast_kinds), ("unicode/utf8.first", laid_unicode_utf8_first)] }
def ParseBindsSaid : Prop := parseBindsRow.holds Tryz.pinned (OpenSpec.ofChange parseBindsSpec)

/-- ITS FALSE NEIGHBOUR: 'it returns false'. Refute it at one input. -/
def parseBindsWrong : ChangeSpec := { name := "parseBinds", fn := fun _ => fun
  | [d1, d2] => { results := [.lit (.bool false)], args := [d1, d2] }
  | _ => none }
def ParseBindsWrongFalsely : Prop := parseBindsRow.holds Tryz.pinned (OpenSpec.ofChange parseBindsWrong)

/-- 'exchequerlaw14.ParseBrackets': WHATEVER THE INPUT: true; the input reads as it did. -/
def parseBracketsSpec : ChangeSpec := { name := "parseBrackets", fn := fun _ => fun
  | [d1, d2] => { results := [.lit (.bool true)], args := [d1, d2] }
  | _ => none }
def parseBracketsRow : OpenClaim := { program := "ythndhaolemgbdaagreatdoor", sum := "f37cfe48bec8e9f35cf7f8795064848ea64755bd004c1f7461710ca4d973e55a", func := "exchequer/exchequerlaw14.ParseBrackets", spec := "parseBrackets", inPlace := ["internal/bytealg.IndexByteString", "internal/abi.NoEscape", "internal/bytealg.MakeNoZero", "internal/bytealg.CountString", "internal/bytealg.IndexString"], unfollowed := true, recurses := true, named := ["exchequer/lex.words", "exchequer/ast.signs", "exchequer/ast.kinds", "internal/bytealg.MaxLen", "unicode/utf8.first", "unicode/utf8.acceptRanges"], loops := true, apart := false, laid := [("unicode/utf8.acceptRanges", laid_unicode_utf8_acceptRanges), ("exchequer/lex.words", laid_exchequer_lex_words), ("exchequer/ast.signs", laid_exchequer_ast_signs), ("exchequer/ast.kinds", laid_exchequer_ast_kinds), ("unicode/utf8.first", laid_unicode_utf8_first)] }
def ParseBracketsSaid : Prop := parseBracketsRow.holds Tryz.pinned (OpenSpec.ofChange parseBracketsSpec)

/-- ITS FALSE NEIGHBOUR: 'it returns false'. Refute it at one input. -/
def parseBracketsWrong : ChangeSpec := { name := "parseBrackets", fn := fun _ => fun
  | [d1, d2] => { results := [.lit (.bool false)], args := [d1, d2] }
  | _ => none }
def ParseBracketsWrongFalsely : Prop := parseBracketsRow.holds Tryz.pinned (OpenSpec.ofChange parseBracketsWrong)

/- THE SECOND FORM. 'bulk': how many values and letters a reading holds, each counted each time it is reached (what is shared counts as often as it is met; a slice's spare places count too). A statement '..UptoSaid' is the law's where the arguments, and the package variables that the reading takes, are together of bulk at most 1048576: NARROWER than '..Said'. Prove '..Said' where nothing that the law and all that it calls make is longer than what came in: it says more and counts as full. Else prove '..UptoSaid'. A law counts once. -/
mutual
def uptoBulk {H : Type} : DataW H → Nat
  | .lit (.string bytes) => bytes.length + 1
  | .lit _ => 1
  | .nil => 1
  | .ptr d => uptoBulk d + 1
  | .slice elems spare => uptoBulkAll elems + uptoBulkAll spare + 1
  | .agg parts => uptoBulkAll parts + 1
  | .iface _ d => uptoBulk d + 1
  | .map entries => uptoBulkEntries entries + 1
  | .held _ => 1
def uptoBulkAll {H : Type} : List (DataW H) → Nat
  | [] => 0
  | d :: r => uptoBulk d + uptoBulkAll r
def uptoBulkEntries {H : Type} : List (Lit × DataW H) → Nat
  | [] => 0
  | x :: r => uptoBulkEntry x + uptoBulkEntries r
def uptoBulkEntry {H : Type} : Lit × DataW H → Nat
  | (.string bytes, d) => bytes.length + uptoBulk d + 1
  | (_, d) => uptoBulk d + 1
 end
def uptoSmall : (H : Type) → List (DataW H) → Bool := fun _ ds => decide (uptoBulkAll ds ≤ 1048576)
def OpenSpec.upto (s : _root_.Go.ChangeSpec) : _root_.Go.OpenSpec := { _root_.Go.OpenSpec.ofChange s with cond := some uptoSmall }

/-- 'exchequerlaw13.AstExprs', WHERE WHAT IT READS IS OF BULK AT MOST 1048576: true; the input reads as it did. -/
def astExprsUptoRow : OpenClaim := { program := "ythndhaolemgbdaagreatdoor", sum := "f37cfe48bec8e9f35cf7f8795064848ea64755bd004c1f7461710ca4d973e55a", func := "exchequer/exchequerlaw13.AstExprs", spec := "astExprs", inPlace := ["internal/bytealg.CountString", "internal/bytealg.IndexByteString", "internal/bytealg.IndexString", "internal/abi.NoEscape", "internal/bytealg.MakeNoZero"], unfollowed := true, recurses := true, named := ["exchequer/ast.signs", "internal/bytealg.MaxLen", "unicode/utf8.first", "unicode/utf8.acceptRanges", "exchequer/ast.kinds"], loops := true, apart := false, laid := [("unicode/utf8.acceptRanges", laid_unicode_utf8_acceptRanges), ("exchequer/ast.signs", laid_exchequer_ast_signs), ("exchequer/ast.kinds", laid_exchequer_ast_kinds), ("unicode/utf8.first", laid_unicode_utf8_first)], narrowed := true }
def AstExprsUptoSaid : Prop := astExprsUptoRow.holds Tryz.pinned (OpenSpec.upto astExprsSpec)

/-- 'exchequerlaw13.AstPrints', WHERE WHAT IT READS IS OF BULK AT MOST 1048576: true; the input reads as it did. -/
def astPrintsUptoRow : OpenClaim := { program := "ythndhaolemgbdaagreatdoor", sum := "f37cfe48bec8e9f35cf7f8795064848ea64755bd004c1f7461710ca4d973e55a", func := "exchequer/exchequerlaw13.AstPrints", spec := "astPrints", inPlace := ["internal/bytealg.CountString", "internal/bytealg.IndexByteString", "internal/bytealg.IndexString", "internal/abi.NoEscape", "internal/bytealg.MakeNoZero"], unfollowed := true, recurses := true, named := ["exchequer/ast.signs", "internal/bytealg.MaxLen", "unicode/utf8.first", "unicode/utf8.acceptRanges", "exchequer/ast.kinds"], loops := true, apart := false, laid := [("unicode/utf8.acceptRanges", laid_unicode_utf8_acceptRanges), ("exchequer/ast.signs", laid_exchequer_ast_signs), ("exchequer/ast.kinds", laid_exchequer_ast_kinds), ("unicode/utf8.first", laid_unicode_utf8_first)], narrowed := true }
def AstPrintsUptoSaid : Prop := astPrintsUptoRow.holds Tryz.pinned (OpenSpec.upto astPrintsSpec)

/-- 'exchequerlaw14.ParseStmts', WHERE WHAT IT READS IS OF BULK AT MOST 1048576: true; the input reads as it did. -/
def parseStmtsUptoRow : OpenClaim := { program := "ythndhaolemgbdaagreatdoor", sum := "f37cfe48bec8e9f35cf7f8795064848ea64755bd004c1f7461710ca4d973e55a", func := "exchequer/exchequerlaw14.ParseStmts", spec := "parseStmts", inPlace := ["internal/bytealg.IndexByteString", "internal/abi.NoEscape", "internal/bytealg.MakeNoZero", "internal/bytealg.CountString", "internal/bytealg.IndexString"], unfollowed := true, recurses := true, named := ["exchequer/lex.words", "exchequer/ast.signs", "exchequer/ast.kinds", "internal/bytealg.MaxLen", "unicode/utf8.first", "unicode/utf8.acceptRanges"], apart := false, laid := [("unicode/utf8.acceptRanges", laid_unicode_utf8_acceptRanges), ("exchequer/lex.words", laid_exchequer_lex_words), ("exchequer/ast.signs", laid_exchequer_ast_signs), ("exchequer/ast.kinds", laid_exchequer_ast_kinds), ("unicode/utf8.first", laid_unicode_utf8_first)], narrowed := true }
def ParseStmtsUptoSaid : Prop := parseStmtsUptoRow.holds Tryz.pinned (OpenSpec.upto parseStmtsSpec)

/-- 'exchequerlaw14.ParseExprs', WHERE WHAT IT READS IS OF BULK AT MOST 1048576: true; the input reads as it did. -/
def parseExprsUptoRow : OpenClaim := { program := "ythndhaolemgbdaagreatdoor", sum := "f37cfe48bec8e9f35cf7f8795064848ea64755bd004c1f7461710ca4d973e55a", func := "exchequer/exchequerlaw14.ParseExprs", spec := "parseExprs", inPlace := ["internal/bytealg.IndexByteString", "internal/abi.NoEscape", "internal/bytealg.MakeNoZero", "internal/bytealg.CountString", "internal/bytealg.IndexString"], unfollowed := true, recurses := true, named := ["exchequer/lex.words", "exchequer/ast.signs", "exchequer/ast.kinds", "internal/bytealg.MaxLen", "unicode/utf8.first", "unicode/utf8.acceptRanges"], apart := false, laid := [("unicode/utf8.acceptRanges", laid_unicode_utf8_acceptRanges), ("exchequer/lex.words", laid_exchequer_lex_words), ("exchequer/ast.signs", laid_exchequer_ast_signs), ("exchequer/ast.kinds", laid_exchequer_ast_kinds), ("unicode/utf8.first", laid_unicode_utf8_first)], narrowed := true }
def ParseExprsUptoSaid : Prop := parseExprsUptoRow.holds Tryz.pinned (OpenSpec.upto parseExprsSpec)

/-- 'exchequerlaw14.ParseBack', WHERE WHAT IT READS IS OF BULK AT MOST 1048576: true; the input reads as it did. -/
def parseBackUptoRow : OpenClaim := { program := "ythndhaolemgbdaagreatdoor", sum := "f37cfe48bec8e9f35cf7f8795064848ea64755bd004c1f7461710ca4d973e55a", func := "exchequer/exchequerlaw14.ParseBack", spec := "parseBack", inPlace := ["internal/bytealg.IndexByteString", "internal/abi.NoEscape", "internal/bytealg.MakeNoZero", "internal/bytealg.CountString", "internal/bytealg.IndexString"], unfollowed := true, recurses := true, named := ["exchequer/lex.words", "exchequer/ast.signs", "exchequer/ast.kinds", "internal/bytealg.MaxLen", "unicode/utf8.first", "unicode/utf8.acceptRanges"], loops := true, apart := false, laid := [("unicode/utf8.acceptRanges", laid_unicode_utf8_acceptRanges), ("exchequer/lex.words", laid_exchequer_lex_words), ("exchequer/ast.signs", laid_exchequer_ast_signs), ("exchequer/ast.kinds", laid_exchequer_ast_kinds), ("unicode/utf8.first", laid_unicode_utf8_first)], narrowed := true }
def ParseBackUptoSaid : Prop := parseBackUptoRow.holds Tryz.pinned (OpenSpec.upto parseBackSpec)

/-- 'exchequerlaw14.ParseRound', WHERE WHAT IT READS IS OF BULK AT MOST 1048576: true; the input reads as it did. -/
def parseRoundUptoRow : OpenClaim := { program := "ythndhaolemgbdaagreatdoor", sum := "f37cfe48bec8e9f35cf7f8795064848ea64755bd004c1f7461710ca4d973e55a", func := "exchequer/exchequerlaw14.ParseRound", spec := "parseRound", inPlace := ["internal/bytealg.IndexByteString", "internal/abi.NoEscape", "internal/bytealg.MakeNoZero", "internal/bytealg.CountString", "internal/bytealg.IndexString"], unfollowed := true, recurses := true, named := ["exchequer/lex.words", "exchequer/ast.signs", "exchequer/ast.kinds", "internal/bytealg.MaxLen", "unicode/utf8.first", "unicode/utf8.acceptRanges"], apart := false, laid := [("unicode/utf8.acceptRanges", laid_unicode_utf8_acceptRanges), ("exchequer/lex.words", laid_exchequer_lex_words), ("exchequer/ast.signs", laid_exchequer_ast_signs), ("exchequer/ast.kinds", laid_exchequer_ast_kinds), ("unicode/utf8.first", laid_unicode_utf8_first)], narrowed := true }
def ParseRoundUptoSaid : Prop := parseRoundUptoRow.holds Tryz.pinned (OpenSpec.upto parseRoundSpec)

/-- 'exchequerlaw14.ParseCuts', WHERE WHAT IT READS IS OF BULK AT MOST 1048576: true; the input reads as it did. -/
def parseCutsUptoRow : OpenClaim := { program := "ythndhaolemgbdaagreatdoor", sum := "f37cfe48bec8e9f35cf7f8795064848ea64755bd004c1f7461710ca4d973e55a", func := "exchequer/exchequerlaw14.ParseCuts", spec := "parseCuts", inPlace := ["internal/bytealg.IndexByteString", "internal/abi.NoEscape", "internal/bytealg.MakeNoZero", "internal/bytealg.CountString", "internal/bytealg.IndexString"], unfollowed := true, recurses := true, named := ["exchequer/lex.words", "exchequer/ast.signs", "exchequer/ast.kinds", "internal/bytealg.MaxLen", "unicode/utf8.first", "unicode/utf8.acceptRanges"], loops := true, apart := false, laid := [("unicode/utf8.acceptRanges", laid_unicode_utf8_acceptRanges), ("exchequer/lex.words", laid_exchequer_lex_words), ("exchequer/ast.signs", laid_exchequer_ast_signs), ("exchequer/ast.kinds", laid_exchequer_ast_kinds), ("unicode/utf8.first", laid_unicode_utf8_first)], narrowed := true }
def ParseCutsUptoSaid : Prop := parseCutsUptoRow.holds Tryz.pinned (OpenSpec.upto parseCutsSpec)

/-- 'exchequerlaw14.ParseBinds', WHERE WHAT IT READS IS OF BULK AT MOST 1048576: true; the input reads as it did. -/
def parseBindsUptoRow : OpenClaim := { program := "ythndhaolemgbdaagreatdoor", sum := "f37cfe48bec8e9f35cf7f8795064848ea64755bd004c1f7461710ca4d973e55a", func := "exchequer/exchequerlaw14.ParseBinds", spec := "parseBinds", inPlace := ["internal/bytealg.IndexByteString", "internal/abi.NoEscape", "internal/bytealg.MakeNoZero", "internal/bytealg.CountString", "internal/bytealg.IndexString"], unfollowed := true, recurses := true, named := ["exchequer/lex.words", "exchequer/ast.signs", "exchequer/ast.kinds", "internal/bytealg.MaxLen", "unicode/utf8.first", "unicode/utf8.acceptRanges"], apart := false, laid := [("unicode/utf8.acceptRanges", laid_unicode_utf8_acceptRanges), ("exchequer/lex.words", laid_exchequer_lex_words), ("exchequer/ast.signs", laid_exchequer_ast_signs), ("exchequer/ast.kinds", laid_exchequer_ast_kinds), ("unicode/utf8.first", laid_unicode_utf8_first)], narrowed := true }
def ParseBindsUptoSaid : Prop := parseBindsUptoRow.holds Tryz.pinned (OpenSpec.upto parseBindsSpec)

/-- 'exchequerlaw14.ParseBrackets', WHERE WHAT IT READS IS OF BULK AT MOST 1048576: true; the input reads as it did. -/
def parseBracketsUptoRow : OpenClaim := { program := "ythndhaolemgbdaagreatdoor", sum := "f37cfe48bec8e9f35cf7f8795064848ea64755bd004c1f7461710ca4d973e55a", func := "exchequer/exchequerlaw14.ParseBrackets", spec := "parseBrackets", inPlace := ["internal/bytealg.IndexByteString", "internal/abi.NoEscape", "internal/bytealg.MakeNoZero", "internal/bytealg.CountString", "internal/bytealg.IndexString"], unfollowed := true, recurses := true, named := ["exchequer/lex.words", "exchequer/ast.signs", "exchequer/ast.kinds", "internal/bytealg.MaxLen", "unicode/utf8.first", "unicode/utf8.acceptRanges"], loops := true, apart := false, laid := [("unicode/utf8.acceptRanges", laid_unicode_utf8_acceptRanges), ("exchequer/lex.words", laid_exchequer_lex_words), ("exchequer/ast.signs", laid_exchequer_ast_signs), ("exchequer/ast.kinds", laid_exchequer_ast_kinds), ("unicode/utf8.first", laid_unicode_utf8_first)], narrowed := true }
def ParseBracketsUptoSaid : Prop := parseBracketsUptoRow.holds Tryz.pinned (OpenSpec.upto parseBracketsSpec)

end Rows
end Go.Proofs.YthndhaolemgbdaaGreatDoor
