/- Contracts of the library's functions, from walks. -/
import Derived.Test.YtlhebakbbfmiiaaDoorTt
import Derived.Test.YtlhebakbbfmiiaaDoorSxH
import Derived.Lib.Bytealg
namespace Go.Ax
/-- from a walk: results of which nothing lies in memory -/
theorem FnOk.ofIs {P : Program} {el : Ck → TypeId} {gl : Nat → Option Gv} {f : FuncId} {sa sr : List Sg} {F : FT sa sr} (he : Sx.Enters P f) (ho : owns 0 sr = []) (h : ∀ x r, F x = some r → ∃ (us : List Value) (v : Value), (∀ X vs, Reps X (encL 0 sa x) vs → vs = us) ∧ Sx.Con P f us [] (fun _ => True) (Sx.Is v) ∧ ∀ X, BdL sa x → Rep X (pack (encL 0 sr r)) v) : FnOk P el gl f sa sr F := by
  refine ⟨he, fun x r hx w M vs hM hgl hr => ?_⟩
  obtain ⟨us, v, h1, h2, h3⟩ := h x r hx
  obtain rfl := h1 _ _ hr
  refine (h2.calls w (fun _ _ => trivial)).mono ?_
  rintro en w' ⟨u, L', F', rfl, ⟨rfl, _, _⟩, _, hb⟩
  refine ⟨u, ⟨fun _ => 0, fun _ => Option.none⟩, rfl, Chg.of_below hb, fun p g o hp => ?_, fun p q g o o' hp => ?_, h3 _ (reps_bd hr)⟩
  · rw [ho] at hp; cases hp
  · rw [ho] at hp; cases hp
end Go.Ax
namespace Go.Proofs.YtlhebakbbfmiiaaDoor
open Go.Ax
open Go.Sx (Con S Is con_intro rt_is)
theorem run_compare (a b : Str) (w : World) : (callFunc 77 #[S a, S b]).run Tryd.prog w = .ok (.value (.int .i64 (Lib.compareBytes a b))) w := by
  rw [run_callFunc_extern Tryd.func77 (by kernel_rfl) rfl (by kernel_rfl) (e := Extern.BytealgCompare.compare) (by kernel_rfl)]
  simp [Lib.run_compareString, go_sem, S]
open Go.Sx in
theorem compare_con (a b : Str) : Con Tryd.prog 71 [S a, S b] [] (fun _ => True) (Is (.int .i64 (Lib.compareBytes a b))) := by
  refine con_intro Tryd.func71 Tryd.ntmps71 rfl (by kernel_rfl) rfl fun w M => ?_
  repeat' (first | refine g_seq ?_ | refine g_region ?_ | refine o_nil ?_ | refine n_seq ?_ | refine n_blk ?_ | refine g_block ?_ | refine g_skip ?_ | refine g_exit ?_ | refine x_here ?_ | refine x_seq ?_ | refine x_loop ?_ | refine x_blk rfl ?_ | refine g_scope ?_ | refine n_scope ?_ | refine x_scope ?_ | refine g_label ?_ | (apply o_pure rfl rfl; (first | exact p_move rfl | exact p_assign rfl | exact p_lens (by dsimp only; decide +kernel) rfl | exact p_lensl (by dsimp only; decide +kernel) rfl | exact p_extract rfl rfl | exact p_pick_t rfl rfl | exact p_pick_f rfl rfl | exact p_eql rfl rfl | exact p_neq rfl rfl | exact p_lss rfl rfl | exact p_leq rfl rfl | exact p_gtr rfl rfl | exact p_geq rfl rfl | exact p_not rfl | exact p_eqls rfl rfl | exact p_neqs rfl rfl | exact p_add64 rfl rfl (by omega) | exact p_sub64 rfl rfl (by omega) | exact p_index (by dsimp only; decide +kernel) rfl rfl (by omega) | exact p_cut (by dsimp only; decide +kernel) rfl rfl rfl (by omega) | exact p_cutlo (by dsimp only; decide +kernel) rfl rfl (by omega) | exact p_cuthi (by dsimp only; decide +kernel) rfl rfl (by omega) | exact p_fa (fo := 0) (by dsimp only; decide +kernel) rfl | exact p_fa (fo := 1) (by dsimp only; decide +kernel) rfl | exact p_fa (fo := 2) (by dsimp only; decide +kernel) rfl | exact p_fa (fo := 3) (by dsimp only; decide +kernel) rfl | exact p_nil rfl)) | refine o_off rfl rfl ?_ | refine o_off_none rfl ?_ | (apply o_pure rfl rfl (p_callx rfl rfl (run_compare _ _))) | (refine o_gsd rfl rfl ?_ ?_ <;> intro hc) | (refine o_gse rfl rfl ?_ ?_ <;> intro hc) | (refine o_gsn rfl rfl ?_ ?_ <;> intro hc) | (refine o_gsxd rfl rfl ?_ ?_ <;> intro hc) | (refine o_gsx rfl rfl ?_ ?_ <;> intro hc) | (refine o_gs rfl rfl ?_ ?_ <;> intro hc) | refine g_cond_t rfl rfl ?_ | refine g_cond_f rfl rfl ?_ | refine g_cond_t rfl (decide_eq_true (by omega)) ?_ | refine g_cond_f rfl (decide_eq_false (by omega)) ?_ | (refine g_condd rfl ?_ ?_ <;> intro hc) | (refine g_conde rfl ?_ ?_ <;> intro hc) | (refine g_condn rfl ?_ ?_ <;> intro hc) | (refine g_condxd rfl ?_ ?_ <;> intro hc) | (refine g_condx rfl ?_ ?_ <;> intro hc) | (refine g_cond rfl ?_ ?_ <;> intro hc) | refine g_ret1 rfl rfl ?_ | refine g_ret2 rfl rfl rfl ?_ | refine g_ret3 rfl rfl rfl rfl ?_)
  exact rt_is rfl
def scmp (a b : Str) : Int := Lib.compareBytes a b
def scmp_F : FT [.str, .str] [.int .i64] := fun x => some (scmp x.1 x.2)
theorem scmp_range : ∀ (a b : Str), scmp a b = -1 ∨ scmp a b = 0 ∨ scmp a b = 1
  | [], [] => by simp [scmp, Lib.compareBytes]
  | [], _ :: _ => by simp [scmp, Lib.compareBytes]
  | _ :: _, [] => by simp [scmp, Lib.compareBytes]
  | a :: l, b :: m => by
    have ih := scmp_range l m
    simp only [scmp, Lib.compareBytes] at ih ⊢
    split
    · simp
    · split
      · simp
      · exact ih
theorem scmp_ok : FnOk Tryd.prog elT glT 71 [.str, .str] [.int .i64] scmp_F := by
  refine FnOk.ofIs (compare_con [] []).enters rfl fun x r hx => ?_
  obtain ⟨a, b⟩ := x
  simp only [scmp_F, Option.some.injEq] at hx
  subst hx
  refine ⟨[S a, S b], _, fun X vs h => ?_, compare_con a b, fun X hb => ?_⟩
  · simp only [encL, enc1, Reps, Rep] at h
    obtain ⟨u, us, rfl, ⟨rfl, _⟩, u2, us2, rfl, ⟨rfl, _⟩, rfl⟩ := h
    rfl
  · simp only [pack, encL, enc1]
    have h := scmp_range a b
    refine rep_int (u8_of ?_)
    simp only [IntKind.min, IntKind.max, IntKind.signed, IntKind.bits]
    simp only [if_true]
    omega
end Go.Proofs.YtlhebakbbfmiiaaDoor
