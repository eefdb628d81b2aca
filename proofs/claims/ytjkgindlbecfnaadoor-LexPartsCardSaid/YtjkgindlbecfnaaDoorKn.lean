/- exchequerlaw12.known answers true. -/
import Derived.Test.YtjkgindlbecfnaaDoorLxJ
namespace Go.Proofs.YtjkgindlbecfnaaDoor
open Go.Sx Go.RowKit
theorem rd_cell {b off n c sz : Nat} {xs : List Value} {w : World} (h : RdS (.slice (some ⟨b, off, none⟩) n c) sz n xs w) {j : Nat} {u : Value} (hu : xs[j]? = some u) : w.cell? ⟨b, off + j, none⟩ = some u := by
  obtain ⟨hl, a, c', he, hr⟩ := h
  simp only [Value.slice.injEq] at he
  obtain ⟨rfl, _, rfl⟩ := he
  rcases hr with h0 | ⟨b', off', he, _, hr⟩
  · have : j < xs.length := by
      rcases Nat.lt_or_ge j xs.length with h | h
      · exact h
      · simp [List.getElem?_eq_none h] at hu
    rw [hl, h0] at this
    omega
  · simp only [Option.some.injEq, Addr.mk.injEq, and_true] at he
    obtain ⟨rfl, rfl⟩ := he
    exact hr j u hu
theorem ld_rds {cx : Cx} {L : Sx.Loc} {F : World → Prop} {t : TypeId} {b off n c sz o : Nat} {xs : List Value} {u : Value} (hF : ∀ w, F w → RdS (.slice (some ⟨b, off, none⟩) n c) sz n xs w) (ht : (tySome cx.P t && (tyAgg cx.P t == false)) = true) (j : Nat) (hj : o = off + j) (hu : xs[j]? = some u) : LdOk cx L F t ⟨b, o, none⟩ u := by
  subst hj
  exact ld_fact ht fun w hw => rd_cell (hF w hw) hu
def knownToks : List Tok := [⟨2, 0, [97], 0⟩, ⟨6, 1, [60, 61], 0⟩, ⟨5, 3, [15], 0⟩, ⟨4, 9, [105, 116, 39, 115], 0⟩]
theorem known1 : allF [97, 60, 61, 120, 39, 48, 102, 39, 32, 39, 105, 116, 39, 39, 115, 39] = .ok knownToks := by kernel_rfl
theorem known2 : allF [49, 50, 97] = .error 0 := by kernel_rfl
theorem known3 : wordF [83, 69, 76, 69, 67, 84] = true := by decide +kernel
theorem known4 : wordF [115, 101, 108, 101, 99, 116] = false := by decide +kernel
theorem known5 : nameF [97, 95, 49] = true := by decide +kernel
theorem known6 : nameF [65] = false := by decide +kernel
theorem word_t {l : List UInt8} (h : wordF l = true) : Con Tryd.prog 14 [S l] [] WordsOk (Is (.bool true)) := by rw [← h]; exact word_con l
theorem word_f {l : List UInt8} (h : wordF l = false) : Con Tryd.prog 14 [S l] [] WordsOk (Is (.bool false)) := by rw [← h]; exact word_con l
theorem name_t {l : List UInt8} (h : nameF l = true) : Con Tryd.prog 15 [S l] [] (fun _ => True) (Is (.bool true)) := by rw [← h]; exact name_con l
theorem name_f {l : List UInt8} (h : nameF l = false) : Con Tryd.prog 15 [S l] [] (fun _ => True) (Is (.bool false)) := by rw [← h]; exact name_con l
set_option maxRecDepth 20000 in
set_option maxHeartbeats 4000000 in
theorem known_con : Con Tryd.prog 8 [] [] WordsOk (Is (.bool true)) := by
  have c1 : Con Tryd.prog 9 [S [97, 60, 61, 120, 39, 48, 102, 39, 32, 39, 105, 116, 39, 39, 115, 39]] [] WordsOk (fun v L F => L = [] ∧ ∃ sv, v = .tuple #[sv, .int .i64 0, .int .i64 0] ∧ F = RdS sv 4 4 (toks knownToks)) := (all_con _).mono (fun _ h => h) (fun v L F h => ⟨h.1, by have h2 := h.2; rw [if_neg (by simp), known1] at h2; exact h2⟩)
  have c2 : Con Tryd.prog 9 [S [49, 50, 97]] [] WordsOk (Is (.tuple #[.slice none 0 0, .int .i64 0, .int .i64 11])) := (all_con _).mono (fun _ h => h) (fun v L F h => by have h2 := h.2; rw [if_neg (by simp), known2] at h2; exact ⟨h2.1, h.1, h2.2⟩)
  refine con_intro Tryd.func8 Tryd.ntmps8 rfl (by kernel_rfl) rfl fun w M => ?_
  repeat' (first | (refine o_id ?_; (first | refine o_nil ?_ | (apply o_pure rfl rfl; (first | exact p_move rfl | exact p_assign rfl | exact p_lens (by dsimp only; decide +kernel) rfl | exact p_lensl (by dsimp only; decide +kernel) rfl | exact p_extract rfl rfl | exact p_pick_t rfl rfl | exact p_pick_f rfl rfl | exact p_eql rfl rfl | exact p_neq rfl rfl | exact p_lss rfl rfl | exact p_leq rfl rfl | exact p_gtr rfl rfl | exact p_geq rfl rfl | exact p_not rfl | exact p_eqls rfl rfl | exact p_neqs rfl rfl | exact p_add64 rfl rfl (by omega) | exact p_sub64 rfl rfl (by omega) | exact p_index (by dsimp only; decide +kernel) rfl rfl (by omega) | exact p_cut (by dsimp only; decide +kernel) rfl rfl rfl (by omega) | exact p_cutlo (by dsimp only; decide +kernel) rfl rfl (by omega) | exact p_cuthi (by dsimp only; decide +kernel) rfl rfl (by omega) | exact p_fa (fo := 0) (by dsimp only; decide +kernel) rfl | exact p_fa (fo := 1) (by dsimp only; decide +kernel) rfl | exact p_fa (fo := 2) (by dsimp only; decide +kernel) rfl | exact p_fa (fo := 3) (by dsimp only; decide +kernel) rfl | exact p_nil rfl)) | refine o_off rfl rfl ?_ | refine o_off_none rfl ?_ | fail | (refine o_gsd rfl rfl ?_ ?_ <;> intro hc) | (refine o_gse rfl rfl ?_ ?_ <;> intro hc) | (refine o_gsn rfl rfl ?_ ?_ <;> intro hc) | (refine o_gsxd rfl rfl ?_ ?_ <;> intro hc) | (refine o_gsx rfl rfl ?_ ?_ <;> intro hc) | (refine o_gs rfl rfl ?_ ?_ <;> intro hc))) | (refine g_id ?_; (first | refine g_seq ?_ | refine g_region ?_ | refine g_block ?_ | refine g_skip ?_ | refine g_exit ?_ | refine g_scope ?_ | refine g_label ?_ | fail | refine g_cond_t rfl rfl ?_ | refine g_cond_f rfl rfl ?_ | refine g_cond_t rfl (decide_eq_true (by omega)) ?_ | refine g_cond_f rfl (decide_eq_false (by omega)) ?_ | (refine g_condd rfl ?_ ?_ <;> intro hc) | (refine g_conde rfl ?_ ?_ <;> intro hc) | (refine g_condn rfl ?_ ?_ <;> intro hc) | (refine g_condxd rfl ?_ ?_ <;> intro hc) | (refine g_condx rfl ?_ ?_ <;> intro hc) | (refine g_cond rfl ?_ ?_ <;> intro hc) | refine g_ret1 rfl rfl ?_ | refine g_ret2 rfl rfl rfl ?_ | refine g_ret3 rfl rfl rfl rfl ?_)) | (refine n_id ?_; (first | refine n_seq ?_ | refine n_blk ?_ | refine n_scope ?_)) | (refine x_id ?_; (first | refine x_here ?_ | refine x_seq ?_ | refine x_loop ?_ | refine x_blk rfl ?_ | refine x_scope ?_)))
  refine o_call0 rfl rfl rfl rfl c1 (fun _ h => h) ?_
  rintro v L' F' ⟨rfl, sv, rfl, rfl⟩
  refine o_pull (p := ∃ b off c, sv = .slice (some ⟨b, off, none⟩) 4 c) ?_ ?_
  · rintro w ⟨_, _, a, c, rfl, h0 | ⟨b, off, rfl, _⟩⟩
    · cases h0
    · exact ⟨b, off, c, rfl⟩
  rintro ⟨b, off, c, rfl⟩
  repeat' (first | (refine o_id ?_; (first | refine o_nil ?_ | (apply o_pure rfl rfl; (first | exact p_move rfl | exact p_assign rfl | exact p_lens (by dsimp only; decide +kernel) rfl | exact p_lensl (by dsimp only; decide +kernel) rfl | exact p_extract rfl rfl | exact p_pick_t rfl rfl | exact p_pick_f rfl rfl | exact p_eql rfl rfl | exact p_neq rfl rfl | exact p_lss rfl rfl | exact p_leq rfl rfl | exact p_gtr rfl rfl | exact p_geq rfl rfl | exact p_not rfl | exact p_eqls rfl rfl | exact p_neqs rfl rfl | exact p_add64 rfl rfl (by omega) | exact p_sub64 rfl rfl (by omega) | exact p_index (by dsimp only; decide +kernel) rfl rfl (by omega) | exact p_cut (by dsimp only; decide +kernel) rfl rfl rfl (by omega) | exact p_cutlo (by dsimp only; decide +kernel) rfl rfl (by omega) | exact p_cuthi (by dsimp only; decide +kernel) rfl rfl (by omega) | exact p_fa (fo := 0) (by dsimp only; decide +kernel) rfl | exact p_fa (fo := 1) (by dsimp only; decide +kernel) rfl | exact p_fa (fo := 2) (by dsimp only; decide +kernel) rfl | exact p_fa (fo := 3) (by dsimp only; decide +kernel) rfl | exact p_nil rfl)) | refine o_off rfl rfl ?_ | refine o_off_none rfl ?_ | (refine o_callv rfl rfl rfl rfl c2 (fun _ h => h.1) ?_) | (refine o_callv rfl rfl rfl rfl (word_t known3) (fun _ h => h.1) ?_) | (refine o_callv rfl rfl rfl rfl (word_f known4) (fun _ h => h.1) ?_) | refine o_callv rfl rfl rfl rfl (name_t known5) (fun _ _ => trivial) ?_ | refine o_callv rfl rfl rfl rfl (name_f known6) (fun _ _ => trivial) ?_ | (refine o_pure rfl rfl (p_ia (sz := 4) (by dsimp only; decide +kernel) rfl rfl (by omega)) ?_) | (refine o_load rfl rfl rfl (ld_rds (fun _ h => h.2) (by dsimp only; decide +kernel) 0 (by omega) rfl) ?_) | (refine o_load rfl rfl rfl (ld_rds (fun _ h => h.2) (by dsimp only; decide +kernel) 6 (by omega) rfl) ?_) | (refine o_load rfl rfl rfl (ld_rds (fun _ h => h.2) (by dsimp only; decide +kernel) 8 (by omega) rfl) ?_) | (refine o_load rfl rfl rfl (ld_rds (fun _ h => h.2) (by dsimp only; decide +kernel) 10 (by omega) rfl) ?_) | (refine o_load rfl rfl rfl (ld_rds (fun _ h => h.2) (by dsimp only; decide +kernel) 13 (by omega) rfl) ?_) | (refine o_load rfl rfl rfl (ld_rds (fun _ h => h.2) (by dsimp only; decide +kernel) 14 (by omega) rfl) ?_) | (refine o_gsd rfl rfl ?_ ?_ <;> intro hc) | (refine o_gse rfl rfl ?_ ?_ <;> intro hc) | (refine o_gsn rfl rfl ?_ ?_ <;> intro hc) | (refine o_gsxd rfl rfl ?_ ?_ <;> intro hc) | (refine o_gsx rfl rfl ?_ ?_ <;> intro hc) | (refine o_gs rfl rfl ?_ ?_ <;> intro hc))) | (refine g_id ?_; (first | refine g_seq ?_ | refine g_region ?_ | refine g_block ?_ | refine g_skip ?_ | refine g_exit ?_ | refine g_scope ?_ | refine g_label ?_ | fail | refine g_cond_t rfl rfl ?_ | refine g_cond_f rfl rfl ?_ | refine g_cond_t rfl (decide_eq_true (by omega)) ?_ | refine g_cond_f rfl (decide_eq_false (by omega)) ?_ | (refine g_condd rfl ?_ ?_ <;> intro hc) | (refine g_conde rfl ?_ ?_ <;> intro hc) | (refine g_condn rfl ?_ ?_ <;> intro hc) | (refine g_condxd rfl ?_ ?_ <;> intro hc) | (refine g_condx rfl ?_ ?_ <;> intro hc) | (refine g_cond rfl ?_ ?_ <;> intro hc) | refine g_ret1 rfl rfl ?_ | refine g_ret2 rfl rfl rfl ?_ | refine g_ret3 rfl rfl rfl rfl ?_)) | (refine n_id ?_; (first | refine n_seq ?_ | refine n_blk ?_ | refine n_scope ?_)) | (refine x_id ?_; (first | refine x_here ?_ | refine x_seq ?_ | refine x_loop ?_ | refine x_blk rfl ?_ | refine x_scope ?_)))
  exact rt_is rfl
end Go.Proofs.YtjkgindlbecfnaaDoor
