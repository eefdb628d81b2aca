/- Contracts of lex.Word, Name, token. -/
import Derived.Test.YtjkgindlbecfnaaDoorLxD
namespace Go.Proofs.YtjkgindlbecfnaaDoor
open Go.Sx Go.RowKit

def wordsL : List (List UInt8) := [[65, 68, 68], [65, 78, 68], [65, 83, 67], [66, 79, 79, 76], [66, 89], [66, 89, 84, 69, 83], [67, 72, 69, 67, 75], [67, 82, 69, 65, 84, 69], [68, 69, 76, 69, 84, 69], [68, 69, 83, 67], [68, 82, 79, 80], [70, 65, 76, 83, 69], [70, 82, 79, 77], [73, 78, 68, 69, 88], [73, 78, 83, 69, 82, 84], [73, 78, 84], [73, 78, 84, 79], [73, 83], [75, 69, 89], [76, 73, 77, 73, 84], [78, 79, 84], [78, 85, 76, 76], [79, 78], [79, 82], [79, 82, 68, 69, 82], [80, 82, 73, 77, 65, 82, 89], [82, 69, 70, 69, 82, 69, 78, 67, 69, 83], [83, 69, 76, 69, 67, 84], [83, 69, 84], [84, 65, 66, 76, 69], [84, 69, 88, 84], [84, 82, 85, 69], [85, 78, 73, 81, 85, 69], [85, 80, 68, 65, 84, 69], [86, 65, 76, 85, 69, 83], [87, 72, 69, 82, 69]]
/-- the table of words lies where the program laid it -/
def WordsOk (w : World) : Prop := RdS (.slice (some ⟨0, 0, none⟩) 36 36) 1 36 (strs wordsL) w
def wordF (l : List UInt8) : Bool := wordsL.contains l
theorem word_con (l : List UInt8) : Con Tryd.prog 14 [S l] [] WordsOk (Is (.bool (wordF l))) := by
  have hsl : ∀ w, (Instr.sliceAt 50 (.pointer (some ⟨0, 0, none⟩)) none none none).run Tryd.prog w = .ok (.slice (some ⟨0, 0, none⟩) 36 36) w := fun _ => by kernel_rfl
  have h36 : Con Tryd.prog 25 [.slice (some ⟨0, 0, none⟩) 36 36, S l] [] WordsOk (Is (.bool (wordF l))) := by
    have hlen : wordsL.length = 36 := by decide
    have := contains_con 0 0 36 wordsL l (by omega)
    rw [hlen] at this
    exact this
  refine con_intro Tryd.func14 Tryd.ntmps14 rfl (by kernel_rfl) rfl fun w M => ?_
  repeat (first | refine g_seq ?_ | refine g_region ?_ | refine o_nil ?_ | refine n_seq ?_ | refine n_blk ?_ | refine g_block ?_ | refine g_skip ?_ | refine g_exit ?_ | refine x_here ?_ | refine x_seq ?_ | refine x_loop ?_ | refine x_blk rfl ?_ | refine g_scope ?_ | refine n_scope ?_ | refine x_scope ?_ | refine g_label ?_ | (apply o_pure rfl rfl; (first | exact p_move rfl | exact p_assign rfl | exact p_lens (by dsimp only; decide +kernel) rfl | exact p_lensl (by dsimp only; decide +kernel) rfl | exact p_extract rfl rfl | exact p_pick_t rfl rfl | exact p_pick_f rfl rfl | exact p_eql rfl rfl | exact p_neq rfl rfl | exact p_lss rfl rfl | exact p_leq rfl rfl | exact p_gtr rfl rfl | exact p_geq rfl rfl | exact p_not rfl | exact p_eqls rfl rfl | exact p_neqs rfl rfl | exact p_add64 rfl rfl (by omega) | exact p_sub64 rfl rfl (by omega) | exact p_index (by dsimp only; decide +kernel) rfl rfl (by omega) | exact p_cut (by dsimp only; decide +kernel) rfl rfl rfl (by omega) | exact p_cutlo (by dsimp only; decide +kernel) rfl rfl (by omega) | exact p_cuthi (by dsimp only; decide +kernel) rfl rfl (by omega) | exact p_fa (fo := 0) (by dsimp only; decide +kernel) rfl | exact p_fa (fo := 1) (by dsimp only; decide +kernel) rfl | exact p_fa (fo := 2) (by dsimp only; decide +kernel) rfl | exact p_fa (fo := 3) (by dsimp only; decide +kernel) rfl | exact p_nil rfl)) | refine o_off rfl rfl ?_ | refine o_off_none rfl ?_)
  have hp : Pure Tryd.prog [(2, .bool false), (0, S l)] (.slice 50 (.global 0) none none none) (.slice (some ⟨0, 0, none⟩) 36 36) := p_slicex rfl hsl
  refine o_pure rfl rfl hp ?_
  repeat' (first | refine g_seq ?_ | refine g_region ?_ | refine o_nil ?_ | refine n_seq ?_ | refine n_blk ?_ | refine g_block ?_ | refine g_skip ?_ | refine g_exit ?_ | refine x_here ?_ | refine x_seq ?_ | refine x_loop ?_ | refine x_blk rfl ?_ | refine g_scope ?_ | refine n_scope ?_ | refine x_scope ?_ | refine g_label ?_ | (apply o_pure rfl rfl; (first | exact p_move rfl | exact p_assign rfl | exact p_lens (by dsimp only; decide +kernel) rfl | exact p_lensl (by dsimp only; decide +kernel) rfl | exact p_extract rfl rfl | exact p_pick_t rfl rfl | exact p_pick_f rfl rfl | exact p_eql rfl rfl | exact p_neq rfl rfl | exact p_lss rfl rfl | exact p_leq rfl rfl | exact p_gtr rfl rfl | exact p_geq rfl rfl | exact p_not rfl | exact p_eqls rfl rfl | exact p_neqs rfl rfl | exact p_add64 rfl rfl (by omega) | exact p_sub64 rfl rfl (by omega) | exact p_index (by dsimp only; decide +kernel) rfl rfl (by omega) | exact p_cut (by dsimp only; decide +kernel) rfl rfl rfl (by omega) | exact p_cutlo (by dsimp only; decide +kernel) rfl rfl (by omega) | exact p_cuthi (by dsimp only; decide +kernel) rfl rfl (by omega) | exact p_fa (fo := 0) (by dsimp only; decide +kernel) rfl | exact p_fa (fo := 1) (by dsimp only; decide +kernel) rfl | exact p_fa (fo := 2) (by dsimp only; decide +kernel) rfl | exact p_fa (fo := 3) (by dsimp only; decide +kernel) rfl | exact p_nil rfl)) | refine o_off rfl rfl ?_ | refine o_off_none rfl ?_ | (refine o_callv rfl rfl rfl rfl h36 (fun _ h => h) ?_) | (refine o_gsd rfl rfl ?_ ?_ <;> intro hc) | (refine o_gse rfl rfl ?_ ?_ <;> intro hc) | (refine o_gsn rfl rfl ?_ ?_ <;> intro hc) | (refine o_gsxd rfl rfl ?_ ?_ <;> intro hc) | (refine o_gsx rfl rfl ?_ ?_ <;> intro hc) | (refine o_gs rfl rfl ?_ ?_ <;> intro hc) | refine g_cond_t rfl rfl ?_ | refine g_cond_f rfl rfl ?_ | refine g_cond_t rfl (decide_eq_true (by omega)) ?_ | refine g_cond_f rfl (decide_eq_false (by omega)) ?_ | (refine g_condd rfl ?_ ?_ <;> intro hc) | (refine g_conde rfl ?_ ?_ <;> intro hc) | (refine g_condn rfl ?_ ?_ <;> intro hc) | (refine g_condxd rfl ?_ ?_ <;> intro hc) | (refine g_condx rfl ?_ ?_ <;> intro hc) | (refine g_cond rfl ?_ ?_ <;> intro hc) | refine g_ret1 rfl rfl ?_ | refine g_ret2 rfl rfl rfl ?_ | refine g_ret3 rfl rfl rfl rfl ?_)
  exact rt_is rfl
def nameF (l : List UInt8) : Bool := !decide (l = []) && decide ((l.length : Int) ≤ 30) && isLo (byt l 0) && (runTo isIn l 0 == l.length)
set_option maxHeartbeats 1000000 in
theorem name_con (l : List UInt8) : Con Tryd.prog 15 [S l] [] (fun _ => True) (Is (.bool (nameF l))) := by
  by_cases hne : l = []
  · subst hne
    refine con_intro Tryd.func15 Tryd.ntmps15 rfl (by kernel_rfl) rfl fun w M => ?_
    repeat (first | refine g_seq ?_ | refine g_region ?_ | refine o_nil ?_ | refine n_seq ?_ | refine n_blk ?_ | refine g_block ?_ | refine g_skip ?_ | refine g_exit ?_ | refine x_here ?_ | refine x_seq ?_ | refine x_loop ?_ | refine x_blk rfl ?_ | refine g_scope ?_ | refine n_scope ?_ | refine x_scope ?_ | refine g_label ?_)
    repeat (first | refine g_seq ?_ | refine g_region ?_ | refine o_nil ?_ | refine n_seq ?_ | refine n_blk ?_ | refine g_block ?_ | refine g_skip ?_ | refine g_exit ?_ | refine x_here ?_ | refine x_seq ?_ | refine x_loop ?_ | refine x_blk rfl ?_ | refine g_scope ?_ | refine n_scope ?_ | refine x_scope ?_ | refine g_label ?_ | (apply o_pure rfl rfl; (first | exact p_move rfl | exact p_assign rfl | exact p_neqs rfl rfl | exact p_pick_f rfl rfl)) | refine o_off rfl rfl ?_ | refine g_ret1 rfl rfl ?_ | refine g_ret2 rfl rfl rfl ?_ | refine g_ret3 rfl rfl rfl rfl ?_)
    exact rt_is rfl
  · have hpos : 0 < l.length := List.length_pos_iff.2 hne
    refine con_intro Tryd.func15 Tryd.ntmps15 rfl (by kernel_rfl) rfl fun w M => ?_
    repeat' (first | refine g_seq ?_ | refine g_region ?_ | refine o_nil ?_ | refine n_seq ?_ | refine n_blk ?_ | refine g_block ?_ | refine g_skip ?_ | refine g_exit ?_ | refine x_here ?_ | refine x_seq ?_ | refine x_loop ?_ | refine x_blk rfl ?_ | refine g_scope ?_ | refine n_scope ?_ | refine x_scope ?_ | refine g_label ?_ | (apply o_pure rfl rfl; (first | exact p_move rfl | exact p_assign rfl | exact p_lens (by dsimp only; decide +kernel) rfl | exact p_lensl (by dsimp only; decide +kernel) rfl | exact p_extract rfl rfl | exact p_pick_t rfl rfl | exact p_pick_f rfl rfl | exact p_eql rfl rfl | exact p_neq rfl rfl | exact p_lss rfl rfl | exact p_leq rfl rfl | exact p_gtr rfl rfl | exact p_geq rfl rfl | exact p_not rfl | exact p_eqls rfl rfl | exact p_neqs rfl rfl | exact p_add64 rfl rfl (by omega) | exact p_sub64 rfl rfl (by omega) | exact p_index (by dsimp only; decide +kernel) rfl rfl (by omega) | exact p_cut (by dsimp only; decide +kernel) rfl rfl rfl (by omega) | exact p_cutlo (by dsimp only; decide +kernel) rfl rfl (by omega) | exact p_cuthi (by dsimp only; decide +kernel) rfl rfl (by omega) | exact p_fa (fo := 0) (by dsimp only; decide +kernel) rfl | exact p_fa (fo := 1) (by dsimp only; decide +kernel) rfl | exact p_fa (fo := 2) (by dsimp only; decide +kernel) rfl | exact p_fa (fo := 3) (by dsimp only; decide +kernel) rfl | exact p_nil rfl)) | refine o_off rfl rfl ?_ | refine o_off_none rfl ?_ | refine o_callv rfl rfl rfl rfl (lower_con _) (fun _ _ => trivial) ?_ | refine o_callv rfl rfl rfl rfl (run_con l 0 28 isIn (by omega) (by omega) inner_con) (fun _ _ => trivial) ?_ | (refine o_gsd rfl rfl ?_ ?_ <;> intro hc) | (refine o_gse rfl rfl ?_ ?_ <;> intro hc) | (refine o_gsn rfl rfl ?_ ?_ <;> intro hc) | (refine o_gsxd rfl rfl ?_ ?_ <;> intro hc) | (refine o_gsx rfl rfl ?_ ?_ <;> intro hc) | (refine o_gs rfl rfl ?_ ?_ <;> intro hc) | refine g_cond_t rfl rfl ?_ | refine g_cond_f rfl rfl ?_ | refine g_cond_t rfl (decide_eq_true (by omega)) ?_ | refine g_cond_f rfl (decide_eq_false (by omega)) ?_ | (refine g_condd rfl ?_ ?_ <;> intro hc) | (refine g_conde rfl ?_ ?_ <;> intro hc) | (refine g_condn rfl ?_ ?_ <;> intro hc) | (refine g_condxd rfl ?_ ?_ <;> intro hc) | (refine g_condx rfl ?_ ?_ <;> intro hc) | (refine g_cond rfl ?_ ?_ <;> intro hc) | refine g_ret1 rfl rfl ?_ | refine g_ret2 rfl rfl rfl ?_ | refine g_ret3 rfl rfl rfl rfl ?_)
    all_goals first | contradiction | exact rt_is (by simp_all [nameF]; try (intros; omega))
/-- the token at a place: its kind, its text, its number, where it ends -/
def tokF (l : List UInt8) (i : Int) : Option (Int × List UInt8 × Int × Int) :=
  if pre (l.drop i.toNat) [120, 39] then
    let n := Lib.indexByte (l.drop (i + 2).toNat) 39
    if n < 0 then none else
    let x := cut l (i + 2) (i + 2 + n)
    match (if x.length % 2 = 0 then unGo x [] else none) with
    | none => none
    | some b => if 1000 < (b.length : Int) then none else some (5, b, 0, i + 3 + n)
  else if isUp (byt l i) then
    if wordF (cut l i (runTo isUp l i)) && aloneF l (runTo isUp l i) then some (1, cut l i (runTo isUp l i), 0, runTo isUp l i) else none
  else if isLo (byt l i) then
    if nameF (cut l i (runTo isIn l i)) && aloneF l (runTo isIn l i) then some (2, cut l i (runTo isIn l i), 0, runTo isIn l i) else none
  else if isDi (byt l i) then
    match numGo (cut l i (runTo isDi l i)) 0 with
    | none => none
    | some n => if (decide (cut l i (runTo isDi l i) = [48]) || byt (cut l i (runTo isDi l i)) 0 != 48) && aloneF l (runTo isDi l i) then some (3, cut l i (runTo isDi l i), n, runTo isDi l i) else none
  else if byt l i = 39 then
    let q := qGo (l.drop (i + 1).toNat) [] (i + 1)
    if rightF 4 0 q.1 then (if q.2 < 0 then none else some (4, q.1, 0, q.2)) else none
  else if signF (l.drop i.toNat) = 0 then none else some (6, cut l i (i + signF (l.drop i.toNat)), 0, i + signF (l.drop i.toNat))
/-- a token -/
abbrev TV (k a : Int) (s : List UInt8) (n : Int) : Value := .agg #[.int .i64 k, .int .i64 a, S s, .int .i64 n]
def TokPost (i : Int) (r : Option (Int × List UInt8 × Int × Int)) : Value → Sx.Loc → (World → Prop) → Prop := fun v L F => L = [] ∧ (F = fun _ => True) ∧ match r with
  | some (k, s, n, e) => v = .tuple #[TV k i s n, .int .i64 e]
  | none => ∃ k a s n, v = .tuple #[TV k a s n, .int .i64 (-1)]
theorem buildTok (i : Int) (w : World) : (Instr.build 33 #[(1, .int .i64 i)]).run Tryd.prog w = .ok (TV 0 i [] 0) w := by kernel_rfl
end Go.Proofs.YtjkgindlbecfnaaDoor
