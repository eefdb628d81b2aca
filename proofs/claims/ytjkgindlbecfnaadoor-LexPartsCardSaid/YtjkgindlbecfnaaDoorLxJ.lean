/- Contract of lex.All. -/
import Derived.Test.YtjkgindlbecfnaaDoorLxI
namespace Go.Proofs.YtjkgindlbecfnaaDoor
open Go.Sx Go.RowKit
structure Tok where
  k : Int
  a : Int
  s : List UInt8
  n : Int
def Tok.cells (t : Tok) : List Value := [.int .i64 t.k, .int .i64 t.a, S t.s, .int .i64 t.n]
def toks (l : List Tok) : List Value := l.flatMap Tok.cells
theorem toks_append (l m : List Tok) : toks (l ++ m) = toks l ++ toks m := by simp [toks]
def blankF (c : Int) : Bool := decide (0 ≤ Lib.indexByte [32, 9, 10, 13] c.toNat.toUInt8)
/-- all tokens from a place on, behind others; or the place that is wrong -/
def allGo : Nat → List UInt8 → Int → List Tok → Except Int (List Tok)
  | 0, _, _, acc => .ok acc
  | f + 1, l, i, acc =>
    if (l.length : Int) ≤ i then .ok acc
    else if blankF (byt l i) then allGo f l (i + 1) acc
    else match tokF l i with
      | none => .error i
      | some (k, s, n, e) => allGo f l e (acc ++ [⟨k, i, s, n⟩])
def allF (l : List UInt8) : Except Int (List Tok) := allGo (l.length + 1) l 0 []
theorem tok_end {l : List UInt8} {i : Int} (h0 : 0 ≤ i ∧ i < l.length) {k : Int} {s : List UInt8} {n e : Int} (h : tokF l i = some (k, s, n, e)) : i < e ∧ e ≤ l.length := by
  unfold tokF at h
  split at h
  · rename_i hx
    have hdl : (l.drop i.toNat).length = l.length - i.toNat := List.length_drop
    have h2 : 2 ≤ (l.drop i.toNat).length := by
      simp only [pre, Bool.and_eq_true, decide_eq_true_eq, List.length_cons, List.length_nil] at hx
      omega
    have hdl2 : (l.drop (i + 2).toNat).length = l.length - (i + 2).toNat := List.length_drop
    have hib := indexByte_in (l.drop (i + 2).toNat) 39
    simp only at h
    split at h
    · cases h
    · split at h
      · cases h
      · split at h
        · cases h
        · cases h; omega
  · split at h
    · rename_i hu
      have hr := runTo_range isUp l i (by omega)
      have hg := runTo_gt h0 hu
      split at h
      · cases h; omega
      · cases h
    · split at h
      · rename_i hlo
        have hr := runTo_range isIn l i (by omega)
        have hg := runTo_gt (p := isIn) h0 (by simp [isIn, hlo])
        split at h
        · cases h; omega
        · cases h
      · split at h
        · rename_i hd
          have hr := runTo_range isDi l i (by omega)
          have hg := runTo_gt h0 hd
          split at h
          · cases h
          · split at h
            · cases h; omega
            · cases h
        · split at h
          · have hqi := qGo_in _ (l.drop (i + 1).toNat) [] (i + 1) (Nat.le_refl _) (by omega)
            have hdl : (l.drop (i + 1).toNat).length = l.length - (i + 1).toNat := List.length_drop
            simp only at h
            split at h
            · split at h
              · cases h
              · cases h; omega
            · cases h
          · split at h
            · cases h
            · have hdl : (l.drop i.toNat).length = l.length - i.toNat := List.length_drop
              have hs := signF_in (l.drop i.toNat) (by omega)
              cases h
              omega
def AllPost (l : List UInt8) : Value → Sx.Loc → (World → Prop) → Prop := fun v L F => L = [] ∧
  if 20000 < (l.length : Int) then v = .tuple #[.slice none 0 0, .int .i64 0, .int .i64 3] ∧ F = fun _ => True
  else match allF l with
  | .error i => v = .tuple #[.slice none 0 0, .int .i64 i, .int .i64 11] ∧ F = fun _ => True
  | .ok ts => ∃ sv, v = .tuple #[sv, .int .i64 0, .int .i64 0] ∧ F = RdS sv 4 ts.length (toks ts)
set_option maxRecDepth 20000 in
set_option maxHeartbeats 4000000 in
theorem all_con (l : List UInt8) : Con Tryd.prog 9 [S l] [] WordsOk (AllPost l) := by
  by_cases hbig : 20000 < (l.length : Int)
  · refine con_intro Tryd.func9 Tryd.ntmps9 rfl (by kernel_rfl) rfl fun w M => ?_
    repeat' (first | (refine o_id ?_; (first | refine o_nil ?_ | (apply o_pure rfl rfl; (first | exact p_move rfl | exact p_assign rfl | exact p_lens (by dsimp only; decide +kernel) rfl | exact p_lensl (by dsimp only; decide +kernel) rfl | exact p_extract rfl rfl | exact p_pick_t rfl rfl | exact p_pick_f rfl rfl | exact p_eql rfl rfl | exact p_neq rfl rfl | exact p_lss rfl rfl | exact p_leq rfl rfl | exact p_gtr rfl rfl | exact p_geq rfl rfl | exact p_not rfl | exact p_eqls rfl rfl | exact p_neqs rfl rfl | exact p_add64 rfl rfl (by omega) | exact p_sub64 rfl rfl (by omega) | exact p_index (by dsimp only; decide +kernel) rfl rfl (by omega) | exact p_cut (by dsimp only; decide +kernel) rfl rfl rfl (by omega) | exact p_cutlo (by dsimp only; decide +kernel) rfl rfl (by omega) | exact p_cuthi (by dsimp only; decide +kernel) rfl rfl (by omega) | exact p_fa (fo := 0) (by dsimp only; decide +kernel) rfl | exact p_fa (fo := 1) (by dsimp only; decide +kernel) rfl | exact p_fa (fo := 2) (by dsimp only; decide +kernel) rfl | exact p_fa (fo := 3) (by dsimp only; decide +kernel) rfl | exact p_nil rfl)) | refine o_off rfl rfl ?_ | refine o_off_none rfl ?_ | fail | (refine o_gsd rfl rfl ?_ ?_ <;> intro hc) | (refine o_gse rfl rfl ?_ ?_ <;> intro hc) | (refine o_gsn rfl rfl ?_ ?_ <;> intro hc) | (refine o_gsxd rfl rfl ?_ ?_ <;> intro hc) | (refine o_gsx rfl rfl ?_ ?_ <;> intro hc) | (refine o_gs rfl rfl ?_ ?_ <;> intro hc))) | (refine g_id ?_; (first | refine g_seq ?_ | refine g_region ?_ | refine g_block ?_ | refine g_skip ?_ | refine g_exit ?_ | refine g_scope ?_ | refine g_label ?_ | fail | refine g_cond_t rfl rfl ?_ | refine g_cond_f rfl rfl ?_ | refine g_cond_t rfl (decide_eq_true (by omega)) ?_ | refine g_cond_f rfl (decide_eq_false (by omega)) ?_ | (refine g_condd rfl ?_ ?_ <;> intro hc) | (refine g_conde rfl ?_ ?_ <;> intro hc) | (refine g_condn rfl ?_ ?_ <;> intro hc) | (refine g_condxd rfl ?_ ?_ <;> intro hc) | (refine g_condx rfl ?_ ?_ <;> intro hc) | (refine g_cond rfl ?_ ?_ <;> intro hc) | refine g_ret1 rfl rfl ?_ | refine g_ret2 rfl rfl rfl ?_ | refine g_ret3 rfl rfl rfl rfl ?_)) | (refine n_id ?_; (first | refine n_seq ?_ | refine n_blk ?_ | refine n_scope ?_)) | (refine x_id ?_; (first | refine x_here ?_ | refine x_seq ?_ | refine x_loop ?_ | refine x_blk rfl ?_ | refine x_scope ?_)))
    exact rt_nil ⟨rfl, by rw [if_pos hbig]; exact ⟨rfl, rfl⟩⟩
  · have hpost : AllPost l = fun v L F => L = [] ∧ match allF l with
        | .error i => v = .tuple #[.slice none 0 0, .int .i64 i, .int .i64 11] ∧ F = fun _ => True
        | .ok ts => ∃ sv, v = .tuple #[sv, .int .i64 0, .int .i64 0] ∧ F = RdS sv 4 ts.length (toks ts) := by
      funext v L F
      simp only [AllPost, if_neg hbig]
    rw [hpost]
    clear hpost
    refine con_intro Tryd.func9 Tryd.ntmps9 rfl (by kernel_rfl) rfl fun w M => ?_
    repeat' (first | (refine o_id ?_; (first | refine o_nil ?_ | (apply o_pure rfl rfl; (first | exact p_move rfl | exact p_assign rfl | exact p_lens (by dsimp only; decide +kernel) rfl | exact p_lensl (by dsimp only; decide +kernel) rfl | exact p_extract rfl rfl | exact p_pick_t rfl rfl | exact p_pick_f rfl rfl | exact p_eql rfl rfl | exact p_neq rfl rfl | exact p_lss rfl rfl | exact p_leq rfl rfl | exact p_gtr rfl rfl | exact p_geq rfl rfl | exact p_not rfl | exact p_eqls rfl rfl | exact p_neqs rfl rfl | exact p_add64 rfl rfl (by omega) | exact p_sub64 rfl rfl (by omega) | exact p_index (by dsimp only; decide +kernel) rfl rfl (by omega) | exact p_cut (by dsimp only; decide +kernel) rfl rfl rfl (by omega) | exact p_cutlo (by dsimp only; decide +kernel) rfl rfl (by omega) | exact p_cuthi (by dsimp only; decide +kernel) rfl rfl (by omega) | exact p_fa (fo := 0) (by dsimp only; decide +kernel) rfl | exact p_fa (fo := 1) (by dsimp only; decide +kernel) rfl | exact p_fa (fo := 2) (by dsimp only; decide +kernel) rfl | exact p_fa (fo := 3) (by dsimp only; decide +kernel) rfl | exact p_nil rfl)) | refine o_off rfl rfl ?_ | refine o_off_none rfl ?_ | fail | (refine o_gsd rfl rfl ?_ ?_ <;> intro hc) | (refine o_gse rfl rfl ?_ ?_ <;> intro hc) | (refine o_gsn rfl rfl ?_ ?_ <;> intro hc) | (refine o_gsxd rfl rfl ?_ ?_ <;> intro hc) | (refine o_gsx rfl rfl ?_ ?_ <;> intro hc) | (refine o_gs rfl rfl ?_ ?_ <;> intro hc))) | (refine g_id ?_; (first | refine g_seq ?_ | refine g_region ?_ | refine g_block ?_ | refine g_skip ?_ | refine g_exit ?_ | refine g_scope ?_ | refine g_label ?_ | fail | refine g_cond_t rfl rfl ?_ | refine g_cond_f rfl rfl ?_ | refine g_cond_t rfl (decide_eq_true (by omega)) ?_ | refine g_cond_f rfl (decide_eq_false (by omega)) ?_ | (refine g_condd rfl ?_ ?_ <;> intro hc) | (refine g_conde rfl ?_ ?_ <;> intro hc) | (refine g_condn rfl ?_ ?_ <;> intro hc) | (refine g_condxd rfl ?_ ?_ <;> intro hc) | (refine g_condx rfl ?_ ?_ <;> intro hc) | (refine g_cond rfl ?_ ?_ <;> intro hc) | refine g_ret1 rfl rfl ?_ | refine g_ret2 rfl rfl rfl ?_ | refine g_ret3 rfl rfl rfl rfl ?_)) | (refine n_id ?_; (first | refine n_seq ?_ | refine n_blk ?_ | refine n_scope ?_)) | (refine x_id ?_; (first | refine x_here ?_ | refine x_seq ?_ | refine x_loop ?_ | refine x_blk rfl ?_ | refine x_scope ?_)))
    refine g_loop ?_
    refine g_newrowl 33 4 ?_
    refine gl_ind (fun x : Int × Value × List Tok × Nat => 0 ≤ x.1 ∧ x.1 ≤ l.length ∧ (x.2.2.1.length : Int) ≤ x.1 ∧ (l.length : Int) - x.1 < x.2.2.2 ∧ allGo x.2.2.2 l x.1 x.2.2.1 = allF l) (fun x => [(0, S l), (6, .int .i64 x.1), (5, x.2.1)]) (fun x => [.row x.2.1 33 4 x.2.2.1.length (toks x.2.2.1)]) (fun _ => WordsOk) (fun x => ((l.length : Int) - x.1).toNat) ?_ (0, .slice none 0 0, [], l.length + 1) ⟨by simp, by simp, by simp, by simp; omega, rfl⟩ ⟨rfl, rfl, rfl, trivial⟩ (fun _ h => h) rfl
    rintro ⟨j, v, acc, f⟩ ⟨h1, h2, hn, hf, h3⟩ ih
    simp only at h1 h2 hn hf h3 ih ⊢
    obtain ⟨f, rfl⟩ : ∃ g, f = g + 1 := ⟨f - 1, by omega⟩
    by_cases hlt : j < l.length
    · have hlt' : ¬ (l.length : Int) ≤ j := by omega
      have hix : Con Tryd.prog 20 [S [32, 9, 10, 13], .int .u8 (byt l j)] [] (fun _ => True) (Is (.int .i64 (Lib.indexByte [32, 9, 10, 13] (byt l j).toNat.toUInt8))) := indexByte_con _ _
      cases hb : blankF (byt l j) with
      | true =>
        have hb' : 0 ≤ Lib.indexByte [32, 9, 10, 13] (byt l j).toNat.toUInt8 := by simpa [blankF] using hb
        generalize Lib.indexByte [32, 9, 10, 13] (byt l j).toNat.toUInt8 = n at *
        repeat' (first | (refine o_id ?_; (first | refine o_nil ?_ | (apply o_pure rfl rfl; (first | exact p_move rfl | exact p_assign rfl | exact p_lens (by dsimp only; decide +kernel) rfl | exact p_lensl (by dsimp only; decide +kernel) rfl | exact p_extract rfl rfl | exact p_pick_t rfl rfl | exact p_pick_f rfl rfl | exact p_eql rfl rfl | exact p_neq rfl rfl | exact p_lss rfl rfl | exact p_leq rfl rfl | exact p_gtr rfl rfl | exact p_geq rfl rfl | exact p_not rfl | exact p_eqls rfl rfl | exact p_neqs rfl rfl | exact p_add64 rfl rfl (by omega) | exact p_sub64 rfl rfl (by omega) | exact p_index (by dsimp only; decide +kernel) rfl rfl (by omega) | exact p_cut (by dsimp only; decide +kernel) rfl rfl rfl (by omega) | exact p_cutlo (by dsimp only; decide +kernel) rfl rfl (by omega) | exact p_cuthi (by dsimp only; decide +kernel) rfl rfl (by omega) | exact p_fa (fo := 0) (by dsimp only; decide +kernel) rfl | exact p_fa (fo := 1) (by dsimp only; decide +kernel) rfl | exact p_fa (fo := 2) (by dsimp only; decide +kernel) rfl | exact p_fa (fo := 3) (by dsimp only; decide +kernel) rfl | exact p_nil rfl)) | refine o_off rfl rfl ?_ | refine o_off_none rfl ?_ | refine o_callv rfl rfl rfl rfl (hix) (fun _ _ => trivial) ?_ | (refine o_gsd rfl rfl ?_ ?_ <;> intro hc) | (refine o_gse rfl rfl ?_ ?_ <;> intro hc) | (refine o_gsn rfl rfl ?_ ?_ <;> intro hc) | (refine o_gsxd rfl rfl ?_ ?_ <;> intro hc) | (refine o_gsx rfl rfl ?_ ?_ <;> intro hc) | (refine o_gs rfl rfl ?_ ?_ <;> intro hc))) | (refine g_id ?_; (first | refine g_seq ?_ | refine g_region ?_ | refine g_block ?_ | refine g_skip ?_ | refine g_exit ?_ | refine g_scope ?_ | refine g_label ?_ | fail | refine g_cond_t rfl rfl ?_ | refine g_cond_f rfl rfl ?_ | refine g_cond_t rfl (decide_eq_true (by omega)) ?_ | refine g_cond_f rfl (decide_eq_false (by omega)) ?_ | (refine g_condd rfl ?_ ?_ <;> intro hc) | (refine g_conde rfl ?_ ?_ <;> intro hc) | (refine g_condn rfl ?_ ?_ <;> intro hc) | (refine g_condxd rfl ?_ ?_ <;> intro hc) | (refine g_condx rfl ?_ ?_ <;> intro hc) | (refine g_cond rfl ?_ ?_ <;> intro hc) | refine g_ret1 rfl rfl ?_ | refine g_ret2 rfl rfl rfl ?_ | refine g_ret3 rfl rfl rfl rfl ?_)) | (refine n_id ?_; (first | refine n_seq ?_ | refine n_blk ?_ | refine n_scope ?_)) | (refine x_id ?_; (first | refine x_here ?_ | refine x_seq ?_ | refine x_loop ?_ | refine x_blk rfl ?_ | refine x_scope ?_)))
        refine n_ih (ih (j + 1, v, acc, f) ⟨by simp; omega, by simp; omega, by simp; omega, by simp; omega, ?_⟩ (by simp; omega)) ⟨rfl, rfl, rfl, trivial⟩ (fun _ h => h)
        rw [← h3, allGo, if_neg hlt', if_pos hb]
      | false =>
        have hb' : ¬ 0 ≤ Lib.indexByte [32, 9, 10, 13] (byt l j).toNat.toUInt8 := by simpa [blankF] using hb
        generalize Lib.indexByte [32, 9, 10, 13] (byt l j).toNat.toUInt8 = n at *
        have htc := token_con l j (by omega) ⟨h1, hlt⟩
        cases ht : tokF l j with
        | none =>
          rw [ht] at htc
          repeat' (first | (refine o_id ?_; (first | refine o_nil ?_ | (apply o_pure rfl rfl; (first | exact p_move rfl | exact p_assign rfl | exact p_lens (by dsimp only; decide +kernel) rfl | exact p_lensl (by dsimp only; decide +kernel) rfl | exact p_extract rfl rfl | exact p_pick_t rfl rfl | exact p_pick_f rfl rfl | exact p_eql rfl rfl | exact p_neq rfl rfl | exact p_lss rfl rfl | exact p_leq rfl rfl | exact p_gtr rfl rfl | exact p_geq rfl rfl | exact p_not rfl | exact p_eqls rfl rfl | exact p_neqs rfl rfl | exact p_add64 rfl rfl (by omega) | exact p_sub64 rfl rfl (by omega) | exact p_index (by dsimp only; decide +kernel) rfl rfl (by omega) | exact p_cut (by dsimp only; decide +kernel) rfl rfl rfl (by omega) | exact p_cutlo (by dsimp only; decide +kernel) rfl rfl (by omega) | exact p_cuthi (by dsimp only; decide +kernel) rfl rfl (by omega) | exact p_fa (fo := 0) (by dsimp only; decide +kernel) rfl | exact p_fa (fo := 1) (by dsimp only; decide +kernel) rfl | exact p_fa (fo := 2) (by dsimp only; decide +kernel) rfl | exact p_fa (fo := 3) (by dsimp only; decide +kernel) rfl | exact p_nil rfl)) | refine o_off rfl rfl ?_ | refine o_off_none rfl ?_ | refine o_callv rfl rfl rfl rfl (hix) (fun _ _ => trivial) ?_ | (refine o_gsd rfl rfl ?_ ?_ <;> intro hc) | (refine o_gse rfl rfl ?_ ?_ <;> intro hc) | (refine o_gsn rfl rfl ?_ ?_ <;> intro hc) | (refine o_gsxd rfl rfl ?_ ?_ <;> intro hc) | (refine o_gsx rfl rfl ?_ ?_ <;> intro hc) | (refine o_gs rfl rfl ?_ ?_ <;> intro hc))) | (refine g_id ?_; (first | refine g_seq ?_ | refine g_region ?_ | refine g_block ?_ | refine g_skip ?_ | refine g_exit ?_ | refine g_scope ?_ | refine g_label ?_ | fail | refine g_cond_t rfl rfl ?_ | refine g_cond_f rfl rfl ?_ | refine g_cond_t rfl (decide_eq_true (by omega)) ?_ | refine g_cond_f rfl (decide_eq_false (by omega)) ?_ | (refine g_condd rfl ?_ ?_ <;> intro hc) | (refine g_conde rfl ?_ ?_ <;> intro hc) | (refine g_condn rfl ?_ ?_ <;> intro hc) | (refine g_condxd rfl ?_ ?_ <;> intro hc) | (refine g_condx rfl ?_ ?_ <;> intro hc) | (refine g_cond rfl ?_ ?_ <;> intro hc) | refine g_ret1 rfl rfl ?_ | refine g_ret2 rfl rfl rfl ?_ | refine g_ret3 rfl rfl rfl rfl ?_)) | (refine n_id ?_; (first | refine n_seq ?_ | refine n_blk ?_ | refine n_scope ?_)) | (refine x_id ?_; (first | refine x_here ?_ | refine x_seq ?_ | refine x_loop ?_ | refine x_blk rfl ?_ | refine x_scope ?_)))
          refine o_call0 rfl rfl rfl rfl htc (fun _ h => h) ?_
          rintro v1 L' F' ⟨rfl, rfl, k', a', s', n', rfl⟩
          repeat' (first | (refine o_id ?_; (first | refine o_nil ?_ | (apply o_pure rfl rfl; (first | exact p_move rfl | exact p_assign rfl | exact p_lens (by dsimp only; decide +kernel) rfl | exact p_lensl (by dsimp only; decide +kernel) rfl | exact p_extract rfl rfl | exact p_pick_t rfl rfl | exact p_pick_f rfl rfl | exact p_eql rfl rfl | exact p_neq rfl rfl | exact p_lss rfl rfl | exact p_leq rfl rfl | exact p_gtr rfl rfl | exact p_geq rfl rfl | exact p_not rfl | exact p_eqls rfl rfl | exact p_neqs rfl rfl | exact p_add64 rfl rfl (by omega) | exact p_sub64 rfl rfl (by omega) | exact p_index (by dsimp only; decide +kernel) rfl rfl (by omega) | exact p_cut (by dsimp only; decide +kernel) rfl rfl rfl (by omega) | exact p_cutlo (by dsimp only; decide +kernel) rfl rfl (by omega) | exact p_cuthi (by dsimp only; decide +kernel) rfl rfl (by omega) | exact p_fa (fo := 0) (by dsimp only; decide +kernel) rfl | exact p_fa (fo := 1) (by dsimp only; decide +kernel) rfl | exact p_fa (fo := 2) (by dsimp only; decide +kernel) rfl | exact p_fa (fo := 3) (by dsimp only; decide +kernel) rfl | exact p_nil rfl)) | refine o_off rfl rfl ?_ | refine o_off_none rfl ?_ | (refine o_alloc rfl rfl zeroTok ?_; intro b) | refine o_store 4 0 rfl rfl rfl rfl rfl (by dsimp only; decide +kernel) rfl rfl ?_ | refine o_store 4 1 rfl rfl rfl rfl rfl (by dsimp only; decide +kernel) rfl rfl ?_ | refine o_store 4 2 rfl rfl rfl rfl rfl (by dsimp only; decide +kernel) rfl rfl ?_ | refine o_store 4 3 rfl rfl rfl rfl rfl (by dsimp only; decide +kernel) rfl rfl ?_ | (refine o_gsd rfl rfl ?_ ?_ <;> intro hc) | (refine o_gse rfl rfl ?_ ?_ <;> intro hc) | (refine o_gsn rfl rfl ?_ ?_ <;> intro hc) | (refine o_gsxd rfl rfl ?_ ?_ <;> intro hc) | (refine o_gsx rfl rfl ?_ ?_ <;> intro hc) | (refine o_gs rfl rfl ?_ ?_ <;> intro hc))) | (refine g_id ?_; (first | refine g_seq ?_ | refine g_region ?_ | refine g_block ?_ | refine g_skip ?_ | refine g_exit ?_ | refine g_scope ?_ | refine g_label ?_ | fail | refine g_cond_t rfl rfl ?_ | refine g_cond_f rfl rfl ?_ | refine g_cond_t rfl (decide_eq_true (by omega)) ?_ | refine g_cond_f rfl (decide_eq_false (by omega)) ?_ | (refine g_condd rfl ?_ ?_ <;> intro hc) | (refine g_conde rfl ?_ ?_ <;> intro hc) | (refine g_condn rfl ?_ ?_ <;> intro hc) | (refine g_condxd rfl ?_ ?_ <;> intro hc) | (refine g_condx rfl ?_ ?_ <;> intro hc) | (refine g_cond rfl ?_ ?_ <;> intro hc) | refine g_ret1 rfl rfl ?_ | refine g_ret2 rfl rfl rfl ?_ | refine g_ret3 rfl rfl rfl rfl ?_)) | (refine n_id ?_; (first | refine n_seq ?_ | refine n_blk ?_ | refine n_scope ?_)) | (refine x_id ?_; (first | refine x_here ?_ | refine x_seq ?_ | refine x_loop ?_ | refine x_blk rfl ?_ | refine x_scope ?_)))
          exact rt_nil ⟨rfl, by rw [← h3, allGo, if_neg hlt', if_neg (by simp [hb]), ht]; exact ⟨rfl, rfl⟩⟩
        | some r =>
          obtain ⟨k', s', n', e'⟩ := r
          rw [ht] at htc
          have hte := tok_end ⟨h1, hlt⟩ ht
          repeat' (first | (refine o_id ?_; (first | refine o_nil ?_ | (apply o_pure rfl rfl; (first | exact p_move rfl | exact p_assign rfl | exact p_lens (by dsimp only; decide +kernel) rfl | exact p_lensl (by dsimp only; decide +kernel) rfl | exact p_extract rfl rfl | exact p_pick_t rfl rfl | exact p_pick_f rfl rfl | exact p_eql rfl rfl | exact p_neq rfl rfl | exact p_lss rfl rfl | exact p_leq rfl rfl | exact p_gtr rfl rfl | exact p_geq rfl rfl | exact p_not rfl | exact p_eqls rfl rfl | exact p_neqs rfl rfl | exact p_add64 rfl rfl (by omega) | exact p_sub64 rfl rfl (by omega) | exact p_index (by dsimp only; decide +kernel) rfl rfl (by omega) | exact p_cut (by dsimp only; decide +kernel) rfl rfl rfl (by omega) | exact p_cutlo (by dsimp only; decide +kernel) rfl rfl (by omega) | exact p_cuthi (by dsimp only; decide +kernel) rfl rfl (by omega) | exact p_fa (fo := 0) (by dsimp only; decide +kernel) rfl | exact p_fa (fo := 1) (by dsimp only; decide +kernel) rfl | exact p_fa (fo := 2) (by dsimp only; decide +kernel) rfl | exact p_fa (fo := 3) (by dsimp only; decide +kernel) rfl | exact p_nil rfl)) | refine o_off rfl rfl ?_ | refine o_off_none rfl ?_ | refine o_callv rfl rfl rfl rfl (hix) (fun _ _ => trivial) ?_ | (refine o_gsd rfl rfl ?_ ?_ <;> intro hc) | (refine o_gse rfl rfl ?_ ?_ <;> intro hc) | (refine o_gsn rfl rfl ?_ ?_ <;> intro hc) | (refine o_gsxd rfl rfl ?_ ?_ <;> intro hc) | (refine o_gsx rfl rfl ?_ ?_ <;> intro hc) | (refine o_gs rfl rfl ?_ ?_ <;> intro hc))) | (refine g_id ?_; (first | refine g_seq ?_ | refine g_region ?_ | refine g_block ?_ | refine g_skip ?_ | refine g_exit ?_ | refine g_scope ?_ | refine g_label ?_ | fail | refine g_cond_t rfl rfl ?_ | refine g_cond_f rfl rfl ?_ | refine g_cond_t rfl (decide_eq_true (by omega)) ?_ | refine g_cond_f rfl (decide_eq_false (by omega)) ?_ | (refine g_condd rfl ?_ ?_ <;> intro hc) | (refine g_conde rfl ?_ ?_ <;> intro hc) | (refine g_condn rfl ?_ ?_ <;> intro hc) | (refine g_condxd rfl ?_ ?_ <;> intro hc) | (refine g_condx rfl ?_ ?_ <;> intro hc) | (refine g_cond rfl ?_ ?_ <;> intro hc) | refine g_ret1 rfl rfl ?_ | refine g_ret2 rfl rfl rfl ?_ | refine g_ret3 rfl rfl rfl rfl ?_)) | (refine n_id ?_; (first | refine n_seq ?_ | refine n_blk ?_ | refine n_scope ?_)) | (refine x_id ?_; (first | refine x_here ?_ | refine x_seq ?_ | refine x_loop ?_ | refine x_blk rfl ?_ | refine x_scope ?_)))
          refine o_call0 rfl rfl rfl rfl htc (fun _ h => h) ?_
          rintro v1 L' F' ⟨rfl, rfl, rfl⟩
          repeat' (first | (refine o_id ?_; (first | refine o_nil ?_ | (apply o_pure rfl rfl; (first | exact p_move rfl | exact p_assign rfl | exact p_lens (by dsimp only; decide +kernel) rfl | exact p_lensl (by dsimp only; decide +kernel) rfl | exact p_extract rfl rfl | exact p_pick_t rfl rfl | exact p_pick_f rfl rfl | exact p_eql rfl rfl | exact p_neq rfl rfl | exact p_lss rfl rfl | exact p_leq rfl rfl | exact p_gtr rfl rfl | exact p_geq rfl rfl | exact p_not rfl | exact p_eqls rfl rfl | exact p_neqs rfl rfl | exact p_add64 rfl rfl (by omega) | exact p_sub64 rfl rfl (by omega) | exact p_index (by dsimp only; decide +kernel) rfl rfl (by omega) | exact p_cut (by dsimp only; decide +kernel) rfl rfl rfl (by omega) | exact p_cutlo (by dsimp only; decide +kernel) rfl rfl (by omega) | exact p_cuthi (by dsimp only; decide +kernel) rfl rfl (by omega) | exact p_fa (fo := 0) (by dsimp only; decide +kernel) rfl | exact p_fa (fo := 1) (by dsimp only; decide +kernel) rfl | exact p_fa (fo := 2) (by dsimp only; decide +kernel) rfl | exact p_fa (fo := 3) (by dsimp only; decide +kernel) rfl | exact p_nil rfl)) | refine o_off rfl rfl ?_ | refine o_off_none rfl ?_ | (refine o_alloc rfl rfl zeroTok ?_; intro b) | refine o_store 4 0 rfl rfl rfl rfl rfl (by dsimp only; decide +kernel) rfl rfl ?_ | refine o_store 4 1 rfl rfl rfl rfl rfl (by dsimp only; decide +kernel) rfl rfl ?_ | refine o_store 4 2 rfl rfl rfl rfl rfl (by dsimp only; decide +kernel) rfl rfl ?_ | refine o_store 4 3 rfl rfl rfl rfl rfl (by dsimp only; decide +kernel) rfl rfl ?_ | (apply o_load rfl rfl rfl; (first | exact ld_blkn (n := 4) 0 rfl (by dsimp only; decide +kernel) (by dsimp only; decide +kernel) rfl | exact ld_blkn (n := 4) 1 rfl (by dsimp only; decide +kernel) (by dsimp only; decide +kernel) rfl | exact ld_blkn (n := 4) 2 rfl (by dsimp only; decide +kernel) (by dsimp only; decide +kernel) rfl | exact ld_blkn (n := 4) 3 rfl (by dsimp only; decide +kernel) (by dsimp only; decide +kernel) rfl)) | (refine o_bslice rfl rfl elTok rfl rfl rfl rfl ?_; intro b) | (refine o_append 2 rfl rfl elTok rfl rfl rfl (src_blk 0 rfl rfl) rfl (by omega) (by omega) ?_; intro v') | (refine o_gsd rfl rfl ?_ ?_ <;> intro hc) | (refine o_gse rfl rfl ?_ ?_ <;> intro hc) | (refine o_gsn rfl rfl ?_ ?_ <;> intro hc) | (refine o_gsxd rfl rfl ?_ ?_ <;> intro hc) | (refine o_gsx rfl rfl ?_ ?_ <;> intro hc) | (refine o_gs rfl rfl ?_ ?_ <;> intro hc))) | (refine g_id ?_; (first | refine g_seq ?_ | refine g_region ?_ | refine g_block ?_ | refine g_skip ?_ | refine g_exit ?_ | refine g_scope ?_ | refine g_label ?_ | fail | refine g_cond_t rfl rfl ?_ | refine g_cond_f rfl rfl ?_ | refine g_cond_t rfl (decide_eq_true (by omega)) ?_ | refine g_cond_f rfl (decide_eq_false (by omega)) ?_ | (refine g_condd rfl ?_ ?_ <;> intro hc) | (refine g_conde rfl ?_ ?_ <;> intro hc) | (refine g_condn rfl ?_ ?_ <;> intro hc) | (refine g_condxd rfl ?_ ?_ <;> intro hc) | (refine g_condx rfl ?_ ?_ <;> intro hc) | (refine g_cond rfl ?_ ?_ <;> intro hc) | refine g_ret1 rfl rfl ?_ | refine g_ret2 rfl rfl rfl ?_ | refine g_ret3 rfl rfl rfl rfl ?_)) | (refine n_id ?_; (first | refine n_seq ?_ | refine n_blk ?_ | refine n_scope ?_)) | (refine x_id ?_; (first | refine x_here ?_ | refine x_seq ?_ | refine x_loop ?_ | refine x_blk rfl ?_ | refine x_scope ?_)))
          refine n_drop (n_drop (n_ih (ih (e', v', acc ++ [⟨k', j, s', n'⟩], f) ⟨by simp; omega, by simp; omega, by simp; omega, by simp; omega, ?_⟩ (by simp; omega)) ⟨rfl, rfl, rfl, trivial⟩ (fun _ h => h.1) ?_))
          · rw [← h3, allGo, if_neg hlt', if_neg (by simp [hb]), ht]
          · simp only [toks_append, List.length_append]; rfl
    · have hend : allF l = .ok acc := by
        rw [← h3, allGo, if_pos (by omega)]
      repeat' (first | (refine o_id ?_; (first | refine o_nil ?_ | (apply o_pure rfl rfl; (first | exact p_move rfl | exact p_assign rfl | exact p_lens (by dsimp only; decide +kernel) rfl | exact p_lensl (by dsimp only; decide +kernel) rfl | exact p_extract rfl rfl | exact p_pick_t rfl rfl | exact p_pick_f rfl rfl | exact p_eql rfl rfl | exact p_neq rfl rfl | exact p_lss rfl rfl | exact p_leq rfl rfl | exact p_gtr rfl rfl | exact p_geq rfl rfl | exact p_not rfl | exact p_eqls rfl rfl | exact p_neqs rfl rfl | exact p_add64 rfl rfl (by omega) | exact p_sub64 rfl rfl (by omega) | exact p_index (by dsimp only; decide +kernel) rfl rfl (by omega) | exact p_cut (by dsimp only; decide +kernel) rfl rfl rfl (by omega) | exact p_cutlo (by dsimp only; decide +kernel) rfl rfl (by omega) | exact p_cuthi (by dsimp only; decide +kernel) rfl rfl (by omega) | exact p_fa (fo := 0) (by dsimp only; decide +kernel) rfl | exact p_fa (fo := 1) (by dsimp only; decide +kernel) rfl | exact p_fa (fo := 2) (by dsimp only; decide +kernel) rfl | exact p_fa (fo := 3) (by dsimp only; decide +kernel) rfl | exact p_nil rfl)) | refine o_off rfl rfl ?_ | refine o_off_none rfl ?_ | fail | (refine o_gsd rfl rfl ?_ ?_ <;> intro hc) | (refine o_gse rfl rfl ?_ ?_ <;> intro hc) | (refine o_gsn rfl rfl ?_ ?_ <;> intro hc) | (refine o_gsxd rfl rfl ?_ ?_ <;> intro hc) | (refine o_gsx rfl rfl ?_ ?_ <;> intro hc) | (refine o_gs rfl rfl ?_ ?_ <;> intro hc))) | (refine g_id ?_; (first | refine g_seq ?_ | refine g_region ?_ | refine g_block ?_ | refine g_skip ?_ | refine g_exit ?_ | refine g_scope ?_ | refine g_label ?_ | fail | refine g_cond_t rfl rfl ?_ | refine g_cond_f rfl rfl ?_ | refine g_cond_t rfl (decide_eq_true (by omega)) ?_ | refine g_cond_f rfl (decide_eq_false (by omega)) ?_ | (refine g_condd rfl ?_ ?_ <;> intro hc) | (refine g_conde rfl ?_ ?_ <;> intro hc) | (refine g_condn rfl ?_ ?_ <;> intro hc) | (refine g_condxd rfl ?_ ?_ <;> intro hc) | (refine g_condx rfl ?_ ?_ <;> intro hc) | (refine g_cond rfl ?_ ?_ <;> intro hc) | refine g_ret1 rfl rfl ?_ | refine g_ret2 rfl rfl rfl ?_ | refine g_ret3 rfl rfl rfl rfl ?_)) | (refine n_id ?_; (first | refine n_seq ?_ | refine n_blk ?_ | refine n_scope ?_)) | (refine x_id ?_; (first | refine x_here ?_ | refine x_seq ?_ | refine x_loop ?_ | refine x_blk rfl ?_ | refine x_scope ?_)))
      rw [hend]
      exact rt_freeze (rt_fact (fun w hw => RdS.of_row hw.2) (rt_here ⟨rfl, _, rfl, rfl⟩))
end Go.Proofs.YtjkgindlbecfnaaDoor
