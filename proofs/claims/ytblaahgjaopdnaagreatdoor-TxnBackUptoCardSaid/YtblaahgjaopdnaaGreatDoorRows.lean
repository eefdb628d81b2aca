/-
  NARROWER THAN 'FOR EVERY INPUT', by the rows' own cells (each row's printed sentence says how): TxnWrites: laid · TxnBack: laid.
  DERIVED. THE GIVEN ROWS OF THIS SEAT. 2 by the template 'for every input the law returns true; each argument reads behind the call as it read before'; 0 by the template 'total and deterministic' (their statements: YtblaahgjaopdnaaGreatDoorTotals.lean).
  GIVEN WITH THE SEED: the statements are not yours to turn. If you find one false, say at which input.
  Laid BY PROGRAM, IN A SANDBOX (cutbox-rows.mjs): the forced cells as the released guide's own fill.sh prints them over the translation 37b83d0371365bec… (all of the seat's roots in one cut). By AI agents, Wed Nov 11 2026. No macro, syntax, notation, axiom, sorry.
-/
import Derived.Test.YtblaahgjaopdnaaGreatDoorChecked
import GoSem.PinnedTables
import GoSem.Claim
import GoSem.ClaimJoined
import GoSem.ClaimMapViews
import Derived.JoinedTies
import Derived.KernelRfl
namespace Go.Proofs.YtblaahgjaopdnaaGreatDoor
/- THE CELL 'sum', in the pinned program and in every row, IS THE sha256 OF THE DUMP (.gsa) THAT YtblaahgjaopdnaaGreatDoorProg.lean LOADS. Nothing in Lean hashes anything: it is a label: what it is worth is what the hold of that sum in a sandbox is worth. -/
noncomputable def Tryz.pinned : Pinned := { name := "ytblaahgjaopdnaagreatdoor", sum := "37b83d0371365bec66a5bbaf3abadf86bf18fd6208a24b3c4df7ce5ead3858bb", checked := Tryz.checked }
namespace Rows
def none {H : Type} : Left H := { results := [], args := [] }

/- WHAT THE LISTED PACKAGE-LEVEL VARIABLES READ AS WHEN THE CALL BEGINS. Each datum BY PROGRAM (the guide's laid-datum.mjs) off the statement by which the dump's own 'gosem.cut.vars' lays the variable. In a bare row this is a premise. The card (YtblaahgjaopdnaaGreatDoorCards.lean) ties it to the program's text. -/
def laid_unicode_utf8_acceptRanges {H : Type} : DataW H := .agg [.agg [.lit (.int .u8 128), .lit (.int .u8 191)], .agg [.lit (.int .u8 160), .lit (.int .u8 191)], .agg [.lit (.int .u8 128), .lit (.int .u8 159)], .agg [.lit (.int .u8 144), .lit (.int .u8 191)], .agg [.lit (.int .u8 128), .lit (.int .u8 143)], .agg [.lit (.int .u8 0), .lit (.int .u8 0)], .agg [.lit (.int .u8 0), .lit (.int .u8 0)], .agg [.lit (.int .u8 0), .lit (.int .u8 0)], .agg [.lit (.int .u8 0), .lit (.int .u8 0)], .agg [.lit (.int .u8 0), .lit (.int .u8 0)], .agg [.lit (.int .u8 0), .lit (.int .u8 0)], .agg [.lit (.int .u8 0), .lit (.int .u8 0)], .agg [.lit (.int .u8 0), .lit (.int .u8 0)], .agg [.lit (.int .u8 0), .lit (.int .u8 0)], .agg [.lit (.int .u8 0), .lit (.int .u8 0)], .agg [.lit (.int .u8 0), .lit (.int .u8 0)]]
def laid_exchequer_lex_words {H : Type} : DataW H := .agg [.lit (.string [65, 68, 68]), .lit (.string [65, 78, 68]), .lit (.string [65, 83, 67]), .lit (.string [66, 79, 79, 76]), .lit (.string [66, 89]), .lit (.string [66, 89, 84, 69, 83]), .lit (.string [67, 72, 69, 67, 75]), .lit (.string [67, 82, 69, 65, 84, 69]), .lit (.string [68, 69, 76, 69, 84, 69]), .lit (.string [68, 69, 83, 67]), .lit (.string [68, 82, 79, 80]), .lit (.string [70, 65, 76, 83, 69]), .lit (.string [70, 82, 79, 77]), .lit (.string [73, 78, 68, 69, 88]), .lit (.string [73, 78, 83, 69, 82, 84]), .lit (.string [73, 78, 84]), .lit (.string [73, 78, 84, 79]), .lit (.string [73, 83]), .lit (.string [75, 69, 89]), .lit (.string [76, 73, 77, 73, 84]), .lit (.string [78, 79, 84]), .lit (.string [78, 85, 76, 76]), .lit (.string [79, 78]), .lit (.string [79, 82]), .lit (.string [79, 82, 68, 69, 82]), .lit (.string [80, 82, 73, 77, 65, 82, 89]), .lit (.string [82, 69, 70, 69, 82, 69, 78, 67, 69, 83]), .lit (.string [83, 69, 76, 69, 67, 84]), .lit (.string [83, 69, 84]), .lit (.string [84, 65, 66, 76, 69]), .lit (.string [84, 69, 88, 84]), .lit (.string [84, 82, 85, 69]), .lit (.string [85, 78, 73, 81, 85, 69]), .lit (.string [85, 80, 68, 65, 84, 69]), .lit (.string [86, 65, 76, 85, 69, 83]), .lit (.string [87, 72, 69, 82, 69])]
def laid_exchequer_ast_signs {H : Type} : DataW H := .map [(.int .i64 4, .lit (.string [65, 78, 68])), (.int .i64 5, .lit (.string [79, 82])), (.int .i64 6, .lit (.string [61])), (.int .i64 7, .lit (.string [60, 62])), (.int .i64 8, .lit (.string [60])), (.int .i64 9, .lit (.string [60, 61])), (.int .i64 10, .lit (.string [62])), (.int .i64 11, .lit (.string [62, 61])), (.int .i64 12, .lit (.string [43])), (.int .i64 13, .lit (.string [45])), (.int .i64 14, .lit (.string [42]))]
def laid_exchequer_ast_kinds {H : Type} : DataW H := .agg [.lit (.string []), .lit (.string []), .lit (.string [66, 79, 79, 76]), .lit (.string [73, 78, 84]), .lit (.string [84, 69, 88, 84]), .lit (.string [66, 89, 84, 69, 83])]
/-- One of Go's own tables, pinned by name: the form's constant. -/
def laid_unicode_utf8_first : DataW Unit := Go.Pinned.utf8First

/-- 'exchequerlaw20.TxnWrites': WHATEVER THE INPUT: true; the input reads as it did. -/
def txnWritesSpec : ChangeSpec := { name := "txnWrites", fn := fun _ => fun
  | [d1, d2, d3] => { results := [.lit (.bool true)], args := [d1, d2, d3] }
  | _ => none }
def txnWritesRow : OpenClaim := { program := "ytblaahgjaopdnaagreatdoor", sum := "37b83d0371365bec66a5bbaf3abadf86bf18fd6208a24b3c4df7ce5ead3858bb", func := "exchequer/exchequerlaw20.TxnWrites", spec := "txnWrites", inPlace := ["internal/bytealg.IndexByteString", "internal/bytealg.Count", "internal/bytealg.IndexByte", "internal/bytealg.Index", "internal/bytealg.abigen_runtime_cmpstring", "slices.overlaps[exchequer/api.Index]", "internal/abi.NoEscape", "internal/bytealg.MakeNoZero", "internal/bytealg.CountString", "internal/bytealg.IndexString"], unfollowed := true, recurses := true, named := ["exchequer/lex.words", "exchequer/ast.signs", "internal/bytealg.MaxLen", "unicode/utf8.first", "unicode/utf8.acceptRanges", "exchequer/ast.kinds"], apart := false, laid := [("unicode/utf8.acceptRanges", laid_unicode_utf8_acceptRanges), ("exchequer/lex.words", laid_exchequer_lex_words), ("exchequer/ast.signs", laid_exchequer_ast_signs), ("exchequer/ast.kinds", laid_exchequer_ast_kinds), ("unicode/utf8.first", laid_unicode_utf8_first)] }
def TxnWritesSaid : Prop := txnWritesRow.holds Tryz.pinned (OpenSpec.ofChange txnWritesSpec)

/-- ITS FALSE NEIGHBOUR: 'it returns false'. Refute it at one input. -/
def txnWritesWrong : ChangeSpec := { name := "txnWrites", fn := fun _ => fun
  | [d1, d2, d3] => { results := [.lit (.bool false)], args := [d1, d2, d3] }
  | _ => none }
def TxnWritesWrongFalsely : Prop := txnWritesRow.holds Tryz.pinned (OpenSpec.ofChange txnWritesWrong)

/-- 'exchequerlaw20.TxnBack': WHATEVER THE INPUT: true; the input reads as it did. -/
def txnBackSpec : ChangeSpec := { name := "txnBack", fn := fun _ => fun
  | [d1, d2, d3] => { results := [.lit (.bool true)], args := [d1, d2, d3] }
  | _ => none }
def txnBackRow : OpenClaim := { program := "ytblaahgjaopdnaagreatdoor", sum := "37b83d0371365bec66a5bbaf3abadf86bf18fd6208a24b3c4df7ce5ead3858bb", func := "exchequer/exchequerlaw20.TxnBack", spec := "txnBack", inPlace := ["internal/bytealg.IndexByteString", "internal/bytealg.Count", "internal/bytealg.IndexByte", "internal/bytealg.Index", "internal/bytealg.abigen_runtime_cmpstring", "slices.overlaps[exchequer/api.Index]", "internal/abi.NoEscape", "internal/bytealg.MakeNoZero", "internal/bytealg.CountString", "internal/bytealg.IndexString"], unfollowed := true, recurses := true, named := ["exchequer/lex.words", "exchequer/ast.signs", "internal/bytealg.MaxLen", "unicode/utf8.first", "unicode/utf8.acceptRanges", "exchequer/ast.kinds"], apart := false, laid := [("unicode/utf8.acceptRanges", laid_unicode_utf8_acceptRanges), ("exchequer/lex.words", laid_exchequer_lex_words), ("exchequer/ast.signs", laid_exchequer_ast_signs), ("exchequer/ast.kinds", laid_exchequer_ast_kinds), ("unicode/utf8.first", laid_unicode_utf8_first)] }
def TxnBackSaid : Prop := txnBackRow.holds Tryz.pinned (OpenSpec.ofChange txnBackSpec)

/-- ITS FALSE NEIGHBOUR: 'it returns false'. Refute it at one input. -/
def txnBackWrong : ChangeSpec := { name := "txnBack", fn := fun _ => fun
  | [d1, d2, d3] => { results := [.lit (.bool false)], args := [d1, d2, d3] }
  | _ => none }
def TxnBackWrongFalsely : Prop := txnBackRow.holds Tryz.pinned (OpenSpec.ofChange txnBackWrong)

/- THE SECOND FORM. 'bulk': how many values and letters a reading holds, each counted each time it is reached (what is shared counts as often as it is met; a slice's spare places count too). A statement '..UptoSaid' is the law's where the arguments, and the package variables that the reading takes, are together of bulk at most 1048576: NARROWER than '..Said'. Prove '..Said' where nothing that the law and all that it calls make is longer than what came in: it says more and counts as full. Else prove '..UptoSaid'. A law counts once. -/
mutual
def uptoBulk {H : Type} : DataW H → Nat
  | .lit (.string bytes) => bytes.length + 1
  | .lit _ => 1
  | .nil => 1
  | .ptr d => uptoBulk d + 1
  | .slice elems spare => uptoBulkAll elems + uptoBulkAll spare + 1
  | .agg parts => uptoBulkAll parts + 1
  | .iface _ d => uptoBulk d + 1
  | .map entries => uptoBulkEntries entries + 1
  | .held _ => 1
def uptoBulkAll {H : Type} : List (DataW H) → Nat
  | [] => 0
  | d :: r => uptoBulk d + uptoBulkAll r
def uptoBulkEntries {H : Type} : List (Lit × DataW H) → Nat
  | [] => 0
  | x :: r => uptoBulkEntry x + uptoBulkEntries r
def uptoBulkEntry {H : Type} : Lit × DataW H → Nat
  | (.string bytes, d) => bytes.length + uptoBulk d + 1
  | (_, d) => uptoBulk d + 1
 end
def uptoSmall : (H : Type) → List (DataW H) → Bool := fun _ ds => decide (uptoBulkAll ds ≤ 1048576)
def OpenSpec.upto (s : _root_.Go.ChangeSpec) : _root_.Go.OpenSpec := { _root_.Go.OpenSpec.ofChange s with cond := some uptoSmall }

/-- 'exchequerlaw20.TxnWrites', WHERE WHAT IT READS IS OF BULK AT MOST 1048576: true; the input reads as it did. -/
def txnWritesUptoRow : OpenClaim := { program := "ytblaahgjaopdnaagreatdoor", sum := "37b83d0371365bec66a5bbaf3abadf86bf18fd6208a24b3c4df7ce5ead3858bb", func := "exchequer/exchequerlaw20.TxnWrites", spec := "txnWrites", inPlace := ["internal/bytealg.IndexByteString", "internal/bytealg.Count", "internal/bytealg.IndexByte", "internal/bytealg.Index", "internal/bytealg.abigen_runtime_cmpstring", "slices.overlaps[exchequer/api.Index]", "internal/abi.NoEscape", "internal/bytealg.MakeNoZero", "internal/bytealg.CountString", "internal/bytealg.IndexString"], unfollowed := true, recurses := true, named := ["exchequer/lex.words", "exchequer/ast.signs", "internal/bytealg.MaxLen", "unicode/utf8.first", "unicode/utf8.acceptRanges", "exchequer/ast.kinds"], apart := false, laid := [("unicode/utf8.acceptRanges", laid_unicode_utf8_acceptRanges), ("exchequer/lex.words", laid_exchequer_lex_words), ("exchequer/ast.signs", laid_exchequer_ast_signs), ("exchequer/ast.kinds", laid_exchequer_ast_kinds), ("unicode/utf8.first", laid_unicode_utf8_first)], narrowed := true }
def TxnWritesUptoSaid : Prop := txnWritesUptoRow.holds Tryz.pinned (OpenSpec.upto txnWritesSpec)

/-- 'exchequerlaw20.TxnBack', WHERE WHAT IT READS IS OF BULK AT MOST 1048576: true; the input reads as it did. -/
def txnBackUptoRow : OpenClaim := { program := "ytblaahgjaopdnaagreatdoor", sum := "37b83d0371365bec66a5bbaf3abadf86bf18fd6208a24b3c4df7ce5ead3858bb", func := "exchequer/exchequerlaw20.TxnBack", spec := "txnBack", inPlace := ["internal/bytealg.IndexByteString", "internal/bytealg.Count", "internal/bytealg.IndexByte", "internal/bytealg.Index", "internal/bytealg.abigen_runtime_cmpstring", "slices.overlaps[exchequer/api.Index]", "internal/abi.NoEscape", "internal/bytealg.MakeNoZero", "internal/bytealg.CountString", "internal/bytealg.IndexString"], unfollowed := true, recurses := true, named := ["exchequer/lex.words", "exchequer/ast.signs", "internal/bytealg.MaxLen", "unicode/utf8.first", "unicode/utf8.acceptRanges", "exchequer/ast.kinds"], apart := false, laid := [("unicode/utf8.acceptRanges", laid_unicode_utf8_acceptRanges), ("exchequer/lex.words", laid_exchequer_lex_words), ("exchequer/ast.signs", laid_exchequer_ast_signs), ("exchequer/ast.kinds", laid_exchequer_ast_kinds), ("unicode/utf8.first", laid_unicode_utf8_first)], narrowed := true }
def TxnBackUptoSaid : Prop := txnBackUptoRow.holds Tryz.pinned (OpenSpec.upto txnBackSpec)

end Rows
end Go.Proofs.YtblaahgjaopdnaaGreatDoor
