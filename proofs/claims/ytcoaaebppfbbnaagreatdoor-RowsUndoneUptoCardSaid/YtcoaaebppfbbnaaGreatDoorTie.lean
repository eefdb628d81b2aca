/-
  DERIVED. GIVEN WITH THE SEED: THE PROGRAM's TIES (one call each: nine closed facts by the kernel) AND EACH ROW's TIE, after the 31st guide's Derived/Test/Toyas{Tie, Card}.lean. No idea stands in it: it is a product of the set-up. Laid BY PROGRAM, IN A SANDBOX (cutbox-door.mjs). By AI agents, Wed Nov 11 2026. No macro, syntax, notation, axiom, sorry.
-/
import Derived.Test.YtcoaaebppfbbnaaGreatDoorRows
import Derived.LaidByTextLater
import Derived.SevenTiedAt
import Derived.LaidSub
import Derived.LaidOnce
namespace Go.Proofs.YtcoaaebppfbbnaaGreatDoor
open Go
set_option maxRecDepth 100000
theorem seatTie1 : Tryz.prog.laidByTextLater [("exchequer/digest.begin", Rows.laid_exchequer_digest_begin), ("exchequer/digest.roots", Rows.laid_exchequer_digest_roots), ("unicode/utf8.acceptRanges", Rows.laid_unicode_utf8_acceptRanges), ("exchequer/ast.signs", Rows.laid_exchequer_ast_signs)] [.data, .data, .data, .mapped] true :=
  Program.laidByTextLater_by_one 89 8 65 (by kernel_rfl) (by kernel_rfl) (by kernel_rfl) (by kernel_rfl) (by kernel_rfl) (by kernel_rfl) (fun _ _ => by kernel_rfl)
theorem pin_laid_unicode_utf8_first : Tryz.pinned.checked.prog.pinnedFits "unicode/utf8.first" = true := by kernel_rfl
theorem noOwnUnsafe : Tryz.pinned.checked.prog.headLifts.contains "ownunsafe" = false := by kernel_rfl
theorem fits1 : Tryz.pinned.checked.prog.listedFits [("unicode/utf8.acceptRanges", Rows.laid_unicode_utf8_acceptRanges), ("exchequer/ast.signs", Rows.laid_exchequer_ast_signs), ("unicode/utf8.first", Rows.laid_unicode_utf8_first)] = true := by
  unfold Program.listedFits
  rw [noOwnUnsafe]
  kernel_rfl
theorem tie : Tryz.prog.laidByTextLater [("unicode/utf8.acceptRanges", Rows.laid_unicode_utf8_acceptRanges), ("exchequer/ast.signs", Rows.laid_exchequer_ast_signs)] [.data, .mapped] true :=
  Program.laidByTextLater.sub seatTie1 ["unicode/utf8.acceptRanges", "exchequer/ast.signs"] (by kernel_rfl) (by kernel_rfl)
theorem rowsEntries_row_tie : Rows.rowsEntriesRow.laidByTextAt .later Tryz.pinned [.data, .mapped, .pinned] true :=
  OpenClaim.laidByTextAt_pinned rfl rfl tie rfl rfl rfl rfl (fun y hy _e => by
    simp only [Rows.rowsEntriesRow, List.zip_cons_cons, List.zip_nil_right, List.mem_cons, List.mem_nil_iff, or_false] at hy
    rcases hy with rfl | rfl | rfl
    · cases _e
    · cases _e
    · exact ⟨pin_laid_unicode_utf8_first, by kernel_rfl⟩) fits1
theorem rowsOrder_row_tie : Rows.rowsOrderRow.laidByTextAt .later Tryz.pinned [.data, .mapped, .pinned] true :=
  OpenClaim.laidByTextAt_pinned rfl rfl tie rfl rfl rfl rfl (fun y hy _e => by
    simp only [Rows.rowsOrderRow, List.zip_cons_cons, List.zip_nil_right, List.mem_cons, List.mem_nil_iff, or_false] at hy
    rcases hy with rfl | rfl | rfl
    · cases _e
    · cases _e
    · exact ⟨pin_laid_unicode_utf8_first, by kernel_rfl⟩) fits1
theorem rowsBy_row_tie : Rows.rowsByRow.laidByTextAt .later Tryz.pinned [.data, .mapped, .pinned] true :=
  OpenClaim.laidByTextAt_pinned rfl rfl tie rfl rfl rfl rfl (fun y hy _e => by
    simp only [Rows.rowsByRow, List.zip_cons_cons, List.zip_nil_right, List.mem_cons, List.mem_nil_iff, or_false] at hy
    rcases hy with rfl | rfl | rfl
    · cases _e
    · cases _e
    · exact ⟨pin_laid_unicode_utf8_first, by kernel_rfl⟩) fits1
theorem fits2 : Tryz.pinned.checked.prog.listedFits [("exchequer/digest.begin", Rows.laid_exchequer_digest_begin), ("exchequer/digest.roots", Rows.laid_exchequer_digest_roots), ("unicode/utf8.acceptRanges", Rows.laid_unicode_utf8_acceptRanges), ("exchequer/ast.signs", Rows.laid_exchequer_ast_signs), ("unicode/utf8.first", Rows.laid_unicode_utf8_first)] = true := by
  unfold Program.listedFits
  rw [noOwnUnsafe]
  kernel_rfl
theorem tie2 : Tryz.prog.laidByTextLater [("exchequer/digest.begin", Rows.laid_exchequer_digest_begin), ("exchequer/digest.roots", Rows.laid_exchequer_digest_roots), ("unicode/utf8.acceptRanges", Rows.laid_unicode_utf8_acceptRanges), ("exchequer/ast.signs", Rows.laid_exchequer_ast_signs)] [.data, .data, .data, .mapped] true :=
  Program.laidByTextLater.sub seatTie1 ["exchequer/digest.begin", "exchequer/digest.roots", "unicode/utf8.acceptRanges", "exchequer/ast.signs"] (by kernel_rfl) (by kernel_rfl)
theorem rowsUndone_row_tie : Rows.rowsUndoneRow.laidByTextAt .later Tryz.pinned [.data, .data, .data, .mapped, .pinned] true :=
  OpenClaim.laidByTextAt_pinned rfl rfl tie2 rfl rfl rfl rfl (fun y hy _e => by
    simp only [Rows.rowsUndoneRow, List.zip_cons_cons, List.zip_nil_right, List.mem_cons, List.mem_nil_iff, or_false] at hy
    rcases hy with rfl | rfl | rfl | rfl | rfl
    · cases _e
    · cases _e
    · cases _e
    · cases _e
    · exact ⟨pin_laid_unicode_utf8_first, by kernel_rfl⟩) fits2
theorem rowsEntriesUpto_row_tie : Rows.rowsEntriesUptoRow.laidByTextAt .later Tryz.pinned [.data, .mapped, .pinned] true :=
  OpenClaim.laidByTextAt_pinned rfl rfl tie rfl rfl rfl rfl (fun y hy _e => by
    simp only [Rows.rowsEntriesUptoRow, List.zip_cons_cons, List.zip_nil_right, List.mem_cons, List.mem_nil_iff, or_false] at hy
    rcases hy with rfl | rfl | rfl
    · cases _e
    · cases _e
    · exact ⟨pin_laid_unicode_utf8_first, by kernel_rfl⟩) fits1
theorem rowsOrderUpto_row_tie : Rows.rowsOrderUptoRow.laidByTextAt .later Tryz.pinned [.data, .mapped, .pinned] true :=
  OpenClaim.laidByTextAt_pinned rfl rfl tie rfl rfl rfl rfl (fun y hy _e => by
    simp only [Rows.rowsOrderUptoRow, List.zip_cons_cons, List.zip_nil_right, List.mem_cons, List.mem_nil_iff, or_false] at hy
    rcases hy with rfl | rfl | rfl
    · cases _e
    · cases _e
    · exact ⟨pin_laid_unicode_utf8_first, by kernel_rfl⟩) fits1
theorem rowsByUpto_row_tie : Rows.rowsByUptoRow.laidByTextAt .later Tryz.pinned [.data, .mapped, .pinned] true :=
  OpenClaim.laidByTextAt_pinned rfl rfl tie rfl rfl rfl rfl (fun y hy _e => by
    simp only [Rows.rowsByUptoRow, List.zip_cons_cons, List.zip_nil_right, List.mem_cons, List.mem_nil_iff, or_false] at hy
    rcases hy with rfl | rfl | rfl
    · cases _e
    · cases _e
    · exact ⟨pin_laid_unicode_utf8_first, by kernel_rfl⟩) fits1
theorem rowsUndoneUpto_row_tie : Rows.rowsUndoneUptoRow.laidByTextAt .later Tryz.pinned [.data, .data, .data, .mapped, .pinned] true :=
  OpenClaim.laidByTextAt_pinned rfl rfl tie2 rfl rfl rfl rfl (fun y hy _e => by
    simp only [Rows.rowsUndoneUptoRow, List.zip_cons_cons, List.zip_nil_right, List.mem_cons, List.mem_nil_iff, or_false] at hy
    rcases hy with rfl | rfl | rfl | rfl | rfl
    · cases _e
    · cases _e
    · cases _e
    · cases _e
    · exact ⟨pin_laid_unicode_utf8_first, by kernel_rfl⟩) fits2
end Go.Proofs.YtcoaaebppfbbnaaGreatDoor
