/- The reference's one: names. -/
import Derived.Test.YtjkgindlbecfnaaDoorRxH
namespace Go.Proofs.YtjkgindlbecfnaaDoor
open Go.Sx Go.RowKit
set_option maxRecDepth 20000 in
set_option maxHeartbeats 4000000 in
theorem one_name (l : List UInt8) (i : Int) (hl : l.length ≤ 1000000) (h0 : 0 ≤ i ∧ i < l.length) (hx : ¬ HexAt l i) (hk : clsF (byt l i) = 2) :
    Con Tryd.prog 23 [S l, .int .i64 i] [] (fun _ => True) (TokPost i (tokR l i)) := by
  have hr := runTo_range isWd l i (by omega)
  have hcl := cut_length l i (runTo isWd l i) (by omega)
  have ht : tokR l i = if rnameF (cut l i (runTo isWd l i)) then some (2, cut l i (runTo isWd l i), 0, runTo isWd l i) else none := by
    unfold tokR; rw [if_neg hx, if_neg (by omega), if_pos hk]
  rw [ht]
  clear ht
  unfold HexAt at hx
  have hcon := rname_con (cut l i (runTo isWd l i)) (by omega)
  generalize rnameF (cut l i (runTo isWd l i)) = bn at *
  refine con_intro Tryd.func23 Tryd.ntmps23 rfl (by kernel_rfl) rfl fun w M => ?_
  repeat' (first | (refine o_id ?_; (first | refine o_nil ?_ | (apply o_pure rfl rfl; (first | exact p_move rfl | exact p_assign rfl | exact p_lens (by dsimp only; decide +kernel) rfl | exact p_lensl (by dsimp only; decide +kernel) rfl | exact p_extract rfl rfl | exact p_pick_t rfl rfl | exact p_pick_f rfl rfl | exact p_eql rfl rfl | exact p_neq rfl rfl | exact p_lss rfl rfl | exact p_leq rfl rfl | exact p_gtr rfl rfl | exact p_geq rfl rfl | exact p_not rfl | exact p_eqls rfl rfl | exact p_neqs rfl rfl | exact p_add64 rfl rfl (by omega) | exact p_sub64 rfl rfl (by omega) | exact p_index (by dsimp only; decide +kernel) rfl rfl (by omega) | exact p_cut (by dsimp only; decide +kernel) rfl rfl rfl (by omega) | exact p_cutlo (by dsimp only; decide +kernel) rfl rfl (by omega) | exact p_cuthi (by dsimp only; decide +kernel) rfl rfl (by omega) | exact p_fa (fo := 0) (by dsimp only; decide +kernel) rfl | exact p_fa (fo := 1) (by dsimp only; decide +kernel) rfl | exact p_fa (fo := 2) (by dsimp only; decide +kernel) rfl | exact p_fa (fo := 3) (by dsimp only; decide +kernel) rfl | exact p_nil rfl)) | refine o_off rfl rfl ?_ | refine o_off_none rfl ?_ | (refine o_alloc rfl rfl zeroTok ?_; intro b) | (refine o_pure rfl rfl (p_build rfl (buildT0)) ?_) | (refine o_pure rfl rfl (p_build rfl (buildT3 _ _ _)) ?_) | (refine o_pure rfl rfl (p_build rfl (buildT4 _ _ _ _)) ?_) | refine o_store 4 0 rfl rfl rfl rfl rfl (by dsimp only; decide +kernel) rfl rfl ?_ | refine o_store 4 1 rfl rfl rfl rfl rfl (by dsimp only; decide +kernel) rfl rfl ?_ | refine o_store 4 2 rfl rfl rfl rfl rfl (by dsimp only; decide +kernel) rfl rfl ?_ | refine o_store 4 3 rfl rfl rfl rfl rfl (by dsimp only; decide +kernel) rfl rfl ?_ | refine o_callv rfl rfl rfl rfl (class_con _) (fun _ _ => trivial) ?_ | refine o_callv rfl rfl rfl rfl (rend_con _ _ (by omega) (by omega)) (fun _ _ => trivial) ?_ | refine o_callv rfl rfl rfl rfl (hcon) (fun _ _ => trivial) ?_ | (refine o_gsd rfl rfl ?_ ?_ <;> intro hc <;> try (exfalso; omega)) | (refine o_gse rfl rfl ?_ ?_ <;> intro hc <;> try (exfalso; omega)) | (refine o_gsn rfl rfl ?_ ?_ <;> intro hc <;> try (exfalso; omega)) | (refine o_gsxd rfl rfl ?_ ?_ <;> intro hc <;> try (exfalso; omega)) | (refine o_gsx rfl rfl ?_ ?_ <;> intro hc) | (refine o_gs rfl rfl ?_ ?_ <;> intro hc))) | (refine g_id ?_; (first | refine g_seq ?_ | refine g_region ?_ | refine g_block ?_ | refine g_skip ?_ | refine g_exit ?_ | refine g_scope ?_ | refine g_label ?_ | refine g_retc2 rfl rfl (ld_blkn (n := 4) 0 rfl (by dsimp only; decide +kernel) (by dsimp only; decide +kernel) rfl) rfl ?_ | refine g_cond_t rfl rfl ?_ | refine g_cond_f rfl rfl ?_ | refine g_cond_t rfl (decide_eq_true (by omega)) ?_ | refine g_cond_f rfl (decide_eq_false (by omega)) ?_ | (refine g_condd rfl ?_ ?_ <;> intro hc <;> try (exfalso; omega)) | (refine g_conde rfl ?_ ?_ <;> intro hc <;> try (exfalso; omega)) | (refine g_condn rfl ?_ ?_ <;> intro hc <;> try (exfalso; omega)) | (refine g_condxd rfl ?_ ?_ <;> intro hc <;> try (exfalso; omega)) | (refine g_condx rfl ?_ ?_ <;> intro hc) | (refine g_cond rfl ?_ ?_ <;> intro hc) | refine g_ret1 rfl rfl ?_ | refine g_ret2 rfl rfl rfl ?_ | refine g_ret3 rfl rfl rfl rfl ?_)) | (refine n_id ?_; (first | refine n_seq ?_ | refine n_blk ?_ | refine n_scope ?_)) | (refine x_id ?_; (first | refine x_here ?_ | refine x_seq ?_ | refine x_loop ?_ | refine x_blk rfl ?_ | refine x_scope ?_)))
  all_goals first
    | (exact (hx ⟨by assumption, by assumption, by assumption⟩).elim)
    | (rw [hc]; exact rt_nil ⟨rfl, rfl, rfl⟩)
    | (rw [hc]; exact rt_nil ⟨rfl, rfl, _, _, _, _, rfl⟩)
end Go.Proofs.YtjkgindlbecfnaaDoor
