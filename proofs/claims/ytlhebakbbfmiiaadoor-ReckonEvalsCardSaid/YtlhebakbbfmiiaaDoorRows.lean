/-
  NARROWER THAN 'FOR EVERY INPUT', by the rows' own cells (each row's printed sentence says how): ReckonEvals: loops, laid · ReckonKinds: loops, laid · ReckonThree: laid · ReckonCompares: laid · ReckonNames: loops, laid · ReckonSums: laid.
  DERIVED. THE GIVEN ROWS OF THIS SEAT. 6 by the template 'for every input the law returns true; each argument reads behind the call as it read before'; 0 by the template 'total and deterministic' (their statements: YtlhebakbbfmiiaaDoorTotals.lean).
  GIVEN WITH THE SEED: the statements are not yours to turn. If you find one false, say at which input.
  Laid BY PROGRAM, IN A SANDBOX (cutbox-rows.mjs): the forced cells as the released guide's own fill.sh prints them over the translation b4d20ac9e8ed6f1e… (all of the seat's roots in one cut). By AI agents, Wed Nov 11 2026. No macro, syntax, notation, axiom, sorry.
-/
import Derived.Test.YtlhebakbbfmiiaaDoorChecked
import GoSem.Claim
import GoSem.ClaimJoined
import GoSem.ClaimMapViews
import Derived.JoinedTies
import Derived.KernelRfl
namespace Go.Proofs.YtlhebakbbfmiiaaDoor
/- THE CELL 'sum', in the pinned program and in every row, IS THE sha256 OF THE DUMP (.gsa) THAT YtlhebakbbfmiiaaDoorProg.lean LOADS. Nothing in Lean hashes anything: it is a label: what it is worth is what the hold of that sum in a sandbox is worth. -/
noncomputable def Tryd.pinned : Pinned := { name := "ytlhebakbbfmiiaadoor", sum := "b4d20ac9e8ed6f1e6f2e3cf34d8a28e50c93d505e94a4c4b90a21953248bee8e", checked := Tryd.checked }
namespace Rows
def none {H : Type} : Left H := { results := [], args := [] }

/- WHAT THE LISTED PACKAGE-LEVEL VARIABLES READ AS WHEN THE CALL BEGINS. Each datum BY PROGRAM (the guide's laid-datum.mjs) off the statement by which the dump's own 'gosem.cut.vars' lays the variable. In a bare row this is a premise. The card (YtlhebakbbfmiiaaDoorCards.lean) ties it to the program's text. -/
def laid_exchequer_ast_signs {H : Type} : DataW H := .map [(.int .i64 4, .lit (.string [65, 78, 68])), (.int .i64 5, .lit (.string [79, 82])), (.int .i64 6, .lit (.string [61])), (.int .i64 7, .lit (.string [60, 62])), (.int .i64 8, .lit (.string [60])), (.int .i64 9, .lit (.string [60, 61])), (.int .i64 10, .lit (.string [62])), (.int .i64 11, .lit (.string [62, 61])), (.int .i64 12, .lit (.string [43])), (.int .i64 13, .lit (.string [45])), (.int .i64 14, .lit (.string [42]))]

/-- 'exchequerlaw15.ReckonEvals': WHATEVER THE INPUT: true; the input reads as it did. -/
def reckonEvalsSpec : ChangeSpec := { name := "reckonEvals", fn := fun _ => fun
  | [d1, d2, d3] => { results := [.lit (.bool true)], args := [d1, d2, d3] }
  | _ => none }
def reckonEvalsRow : OpenClaim := { program := "ytlhebakbbfmiiaadoor", sum := "b4d20ac9e8ed6f1e6f2e3cf34d8a28e50c93d505e94a4c4b90a21953248bee8e", func := "exchequer/exchequerlaw15.ReckonEvals", spec := "reckonEvals", inPlace := ["internal/bytealg.abigen_runtime_cmpstring"], unfollowed := true, recurses := true, named := ["exchequer/ast.signs"], loops := true, apart := false, laid := [("exchequer/ast.signs", laid_exchequer_ast_signs)] }
def ReckonEvalsSaid : Prop := reckonEvalsRow.holds Tryd.pinned (OpenSpec.ofChange reckonEvalsSpec)

/-- ITS FALSE NEIGHBOUR: 'it returns false'. Refute it at one input. -/
def reckonEvalsWrong : ChangeSpec := { name := "reckonEvals", fn := fun _ => fun
  | [d1, d2, d3] => { results := [.lit (.bool false)], args := [d1, d2, d3] }
  | _ => none }
def ReckonEvalsWrongFalsely : Prop := reckonEvalsRow.holds Tryd.pinned (OpenSpec.ofChange reckonEvalsWrong)

/-- 'exchequerlaw15.ReckonKinds': WHATEVER THE INPUT: true; the input reads as it did. -/
def reckonKindsSpec : ChangeSpec := { name := "reckonKinds", fn := fun _ => fun
  | [d1, d2, d3] => { results := [.lit (.bool true)], args := [d1, d2, d3] }
  | _ => none }
def reckonKindsRow : OpenClaim := { program := "ytlhebakbbfmiiaadoor", sum := "b4d20ac9e8ed6f1e6f2e3cf34d8a28e50c93d505e94a4c4b90a21953248bee8e", func := "exchequer/exchequerlaw15.ReckonKinds", spec := "reckonKinds", inPlace := ["internal/bytealg.abigen_runtime_cmpstring"], unfollowed := true, recurses := true, named := ["exchequer/ast.signs"], loops := true, apart := false, laid := [("exchequer/ast.signs", laid_exchequer_ast_signs)] }
def ReckonKindsSaid : Prop := reckonKindsRow.holds Tryd.pinned (OpenSpec.ofChange reckonKindsSpec)

/-- ITS FALSE NEIGHBOUR: 'it returns false'. Refute it at one input. -/
def reckonKindsWrong : ChangeSpec := { name := "reckonKinds", fn := fun _ => fun
  | [d1, d2, d3] => { results := [.lit (.bool false)], args := [d1, d2, d3] }
  | _ => none }
def ReckonKindsWrongFalsely : Prop := reckonKindsRow.holds Tryd.pinned (OpenSpec.ofChange reckonKindsWrong)

/-- 'exchequerlaw15.ReckonThree': WHATEVER THE INPUT: true; the input reads as it did. -/
def reckonThreeSpec : ChangeSpec := { name := "reckonThree", fn := fun _ => fun
  | [d1, d2] => { results := [.lit (.bool true)], args := [d1, d2] }
  | _ => none }
def reckonThreeRow : OpenClaim := { program := "ytlhebakbbfmiiaadoor", sum := "b4d20ac9e8ed6f1e6f2e3cf34d8a28e50c93d505e94a4c4b90a21953248bee8e", func := "exchequer/exchequerlaw15.ReckonThree", spec := "reckonThree", inPlace := ["internal/bytealg.abigen_runtime_cmpstring"], unfollowed := true, recurses := true, named := ["exchequer/ast.signs"], apart := false, laid := [("exchequer/ast.signs", laid_exchequer_ast_signs)] }
def ReckonThreeSaid : Prop := reckonThreeRow.holds Tryd.pinned (OpenSpec.ofChange reckonThreeSpec)

/-- ITS FALSE NEIGHBOUR: 'it returns false'. Refute it at one input. -/
def reckonThreeWrong : ChangeSpec := { name := "reckonThree", fn := fun _ => fun
  | [d1, d2] => { results := [.lit (.bool false)], args := [d1, d2] }
  | _ => none }
def ReckonThreeWrongFalsely : Prop := reckonThreeRow.holds Tryd.pinned (OpenSpec.ofChange reckonThreeWrong)

/-- 'exchequerlaw15.ReckonCompares': WHATEVER THE INPUT: true; the input reads as it did. -/
def reckonComparesSpec : ChangeSpec := { name := "reckonCompares", fn := fun _ => fun
  | [d1, d2, d3] => { results := [.lit (.bool true)], args := [d1, d2, d3] }
  | _ => none }
def reckonComparesRow : OpenClaim := { program := "ytlhebakbbfmiiaadoor", sum := "b4d20ac9e8ed6f1e6f2e3cf34d8a28e50c93d505e94a4c4b90a21953248bee8e", func := "exchequer/exchequerlaw15.ReckonCompares", spec := "reckonCompares", inPlace := ["internal/bytealg.abigen_runtime_cmpstring"], unfollowed := true, recurses := true, named := ["exchequer/ast.signs"], apart := false, laid := [("exchequer/ast.signs", laid_exchequer_ast_signs)] }
def ReckonComparesSaid : Prop := reckonComparesRow.holds Tryd.pinned (OpenSpec.ofChange reckonComparesSpec)

/-- ITS FALSE NEIGHBOUR: 'it returns false'. Refute it at one input. -/
def reckonComparesWrong : ChangeSpec := { name := "reckonCompares", fn := fun _ => fun
  | [d1, d2, d3] => { results := [.lit (.bool false)], args := [d1, d2, d3] }
  | _ => none }
def ReckonComparesWrongFalsely : Prop := reckonComparesRow.holds Tryd.pinned (OpenSpec.ofChange reckonComparesWrong)

/-- 'exchequerlaw15.ReckonNames': WHATEVER THE INPUT: true; the input reads as it did. -/
def reckonNamesSpec : ChangeSpec := { name := "reckonNames", fn := fun _ => fun
  | [d1, d2, d3, d4, d5] => { results := [.lit (.bool true)], args := [d1, d2, d3, d4, d5] }
  | _ => none }
def reckonNamesRow : OpenClaim := { program := "ytlhebakbbfmiiaadoor", sum := "b4d20ac9e8ed6f1e6f2e3cf34d8a28e50c93d505e94a4c4b90a21953248bee8e", func := "exchequer/exchequerlaw15.ReckonNames", spec := "reckonNames", inPlace := ["internal/bytealg.abigen_runtime_cmpstring"], unfollowed := true, recurses := true, named := ["exchequer/ast.signs"], loops := true, apart := false, laid := [("exchequer/ast.signs", laid_exchequer_ast_signs)] }
def ReckonNamesSaid : Prop := reckonNamesRow.holds Tryd.pinned (OpenSpec.ofChange reckonNamesSpec)

/-- ITS FALSE NEIGHBOUR: 'it returns false'. Refute it at one input. -/
def reckonNamesWrong : ChangeSpec := { name := "reckonNames", fn := fun _ => fun
  | [d1, d2, d3, d4, d5] => { results := [.lit (.bool false)], args := [d1, d2, d3, d4, d5] }
  | _ => none }
def ReckonNamesWrongFalsely : Prop := reckonNamesRow.holds Tryd.pinned (OpenSpec.ofChange reckonNamesWrong)

/-- 'exchequerlaw15.ReckonSums': WHATEVER THE INPUT: true; the input reads as it did. -/
def reckonSumsSpec : ChangeSpec := { name := "reckonSums", fn := fun _ => fun
  | [d1, d2] => { results := [.lit (.bool true)], args := [d1, d2] }
  | _ => none }
def reckonSumsRow : OpenClaim := { program := "ytlhebakbbfmiiaadoor", sum := "b4d20ac9e8ed6f1e6f2e3cf34d8a28e50c93d505e94a4c4b90a21953248bee8e", func := "exchequer/exchequerlaw15.ReckonSums", spec := "reckonSums", inPlace := ["internal/bytealg.abigen_runtime_cmpstring"], unfollowed := true, recurses := true, named := ["exchequer/ast.signs"], apart := false, laid := [("exchequer/ast.signs", laid_exchequer_ast_signs)] }
def ReckonSumsSaid : Prop := reckonSumsRow.holds Tryd.pinned (OpenSpec.ofChange reckonSumsSpec)

/-- ITS FALSE NEIGHBOUR: 'it returns false'. Refute it at one input. -/
def reckonSumsWrong : ChangeSpec := { name := "reckonSums", fn := fun _ => fun
  | [d1, d2] => { results := [.lit (.bool false)], args := [d1, d2] }
  | _ => none }
def ReckonSumsWrongFalsely : Prop := reckonSumsRow.holds Tryd.pinned (OpenSpec.ofChange reckonSumsWrong)

/- THE SECOND FORM. 'bulk': how many values and letters a reading holds, each counted each time it is reached (what is shared counts as often as it is met; a slice's spare places count too). A statement '..UptoSaid' is the law's where the arguments, and the package variables that the reading takes, are together of bulk at most 1048576: NARROWER than '..Said'. Prove '..Said' where nothing that the law and all that it calls make is longer than what came in: it says more and counts as full. Else prove '..UptoSaid'. A law counts once. -/
mutual
def uptoBulk {H : Type} : DataW H → Nat
  | .lit (.string bytes) => bytes.length + 1
  | .lit _ => 1
  | .nil => 1
  | .ptr d => uptoBulk d + 1
  | .slice elems spare => uptoBulkAll elems + uptoBulkAll spare + 1
  | .agg parts => uptoBulkAll parts + 1
  | .iface _ d => uptoBulk d + 1
  | .map entries => uptoBulkEntries entries + 1
  | .held _ => 1
def uptoBulkAll {H : Type} : List (DataW H) → Nat
  | [] => 0
  | d :: r => uptoBulk d + uptoBulkAll r
def uptoBulkEntries {H : Type} : List (Lit × DataW H) → Nat
  | [] => 0
  | x :: r => uptoBulkEntry x + uptoBulkEntries r
def uptoBulkEntry {H : Type} : Lit × DataW H → Nat
  | (.string bytes, d) => bytes.length + uptoBulk d + 1
  | (_, d) => uptoBulk d + 1
 end
def uptoSmall : (H : Type) → List (DataW H) → Bool := fun _ ds => decide (uptoBulkAll ds ≤ 1048576)
def OpenSpec.upto (s : _root_.Go.ChangeSpec) : _root_.Go.OpenSpec := { _root_.Go.OpenSpec.ofChange s with cond := some uptoSmall }

/-- 'exchequerlaw15.ReckonEvals', WHERE WHAT IT READS IS OF BULK AT MOST 1048576: true; the input reads as it did. -/
def reckonEvalsUptoRow : OpenClaim := { program := "ytlhebakbbfmiiaadoor", sum := "b4d20ac9e8ed6f1e6f2e3cf34d8a28e50c93d505e94a4c4b90a21953248bee8e", func := "exchequer/exchequerlaw15.ReckonEvals", spec := "reckonEvals", inPlace := ["internal/bytealg.abigen_runtime_cmpstring"], unfollowed := true, recurses := true, named := ["exchequer/ast.signs"], loops := true, apart := false, laid := [("exchequer/ast.signs", laid_exchequer_ast_signs)], narrowed := true }
def ReckonEvalsUptoSaid : Prop := reckonEvalsUptoRow.holds Tryd.pinned (OpenSpec.upto reckonEvalsSpec)

/-- 'exchequerlaw15.ReckonKinds', WHERE WHAT IT READS IS OF BULK AT MOST 1048576: true; the input reads as it did. -/
def reckonKindsUptoRow : OpenClaim := { program := "ytlhebakbbfmiiaadoor", sum := "b4d20ac9e8ed6f1e6f2e3cf34d8a28e50c93d505e94a4c4b90a21953248bee8e", func := "exchequer/exchequerlaw15.ReckonKinds", spec := "reckonKinds", inPlace := ["internal/bytealg.abigen_runtime_cmpstring"], unfollowed := true, recurses := true, named := ["exchequer/ast.signs"], loops := true, apart := false, laid := [("exchequer/ast.signs", laid_exchequer_ast_signs)], narrowed := true }
def ReckonKindsUptoSaid : Prop := reckonKindsUptoRow.holds Tryd.pinned (OpenSpec.upto reckonKindsSpec)

/-- 'exchequerlaw15.ReckonThree', WHERE WHAT IT READS IS OF BULK AT MOST 1048576: true; the input reads as it did. -/
def reckonThreeUptoRow : OpenClaim := { program := "ytlhebakbbfmiiaadoor", sum := "b4d20ac9e8ed6f1e6f2e3cf34d8a28e50c93d505e94a4c4b90a21953248bee8e", func := "exchequer/exchequerlaw15.ReckonThree", spec := "reckonThree", inPlace := ["internal/bytealg.abigen_runtime_cmpstring"], unfollowed := true, recurses := true, named := ["exchequer/ast.signs"], apart := false, laid := [("exchequer/ast.signs", laid_exchequer_ast_signs)], narrowed := true }
def ReckonThreeUptoSaid : Prop := reckonThreeUptoRow.holds Tryd.pinned (OpenSpec.upto reckonThreeSpec)

/-- 'exchequerlaw15.ReckonCompares', WHERE WHAT IT READS IS OF BULK AT MOST 1048576: true; the input reads as it did. -/
def reckonComparesUptoRow : OpenClaim := { program := "ytlhebakbbfmiiaadoor", sum := "b4d20ac9e8ed6f1e6f2e3cf34d8a28e50c93d505e94a4c4b90a21953248bee8e", func := "exchequer/exchequerlaw15.ReckonCompares", spec := "reckonCompares", inPlace := ["internal/bytealg.abigen_runtime_cmpstring"], unfollowed := true, recurses := true, named := ["exchequer/ast.signs"], apart := false, laid := [("exchequer/ast.signs", laid_exchequer_ast_signs)], narrowed := true }
def ReckonComparesUptoSaid : Prop := reckonComparesUptoRow.holds Tryd.pinned (OpenSpec.upto reckonComparesSpec)

/-- 'exchequerlaw15.ReckonNames', WHERE WHAT IT READS IS OF BULK AT MOST 1048576: true; the input reads as it did. -/
def reckonNamesUptoRow : OpenClaim := { program := "ytlhebakbbfmiiaadoor", sum := "b4d20ac9e8ed6f1e6f2e3cf34d8a28e50c93d505e94a4c4b90a21953248bee8e", func := "exchequer/exchequerlaw15.ReckonNames", spec := "reckonNames", inPlace := ["internal/bytealg.abigen_runtime_cmpstring"], unfollowed := true, recurses := true, named := ["exchequer/ast.signs"], loops := true, apart := false, laid := [("exchequer/ast.signs", laid_exchequer_ast_signs)], narrowed := true }
def ReckonNamesUptoSaid : Prop := reckonNamesUptoRow.holds Tryd.pinned (OpenSpec.upto reckonNamesSpec)

/-- 'exchequerlaw15.ReckonSums', WHERE WHAT IT READS IS OF BULK AT MOST 1048576: true; the input reads as it did. -/
def reckonSumsUptoRow : OpenClaim := { program := "ytlhebakbbfmiiaadoor", sum := "b4d20ac9e8ed6f1e6f2e3cf34d8a28e50c93d505e94a4c4b90a21953248bee8e", func := "exchequer/exchequerlaw15.ReckonSums", spec := "reckonSums", inPlace := ["internal/bytealg.abigen_runtime_cmpstring"], unfollowed := true, recurses := true, named := ["exchequer/ast.signs"], apart := false, laid := [("exchequer/ast.signs", laid_exchequer_ast_signs)], narrowed := true }
def ReckonSumsUptoSaid : Prop := reckonSumsUptoRow.holds Tryd.pinned (OpenSpec.upto reckonSumsSpec)

end Rows
end Go.Proofs.YtlhebakbbfmiiaaDoor
