/- ReckonEvals: of any expression the kind, and the value of any row, and whether it holds, or why not, is what the document says; whether any row fits, too; on the condition of the row alone: that ast.signs holds what the program's text lays. -/
import Derived.Test.YtlhebakbbfmiiaaDoorEv6
namespace Go.Proofs.YtlhebakbbfmiiaaDoor
open Go.Ax Go.ChangeShapes Go.WideShapes Go.ChangeAt Go.RowKit Go.ChangeMaps
/-! ## exchequer/exchequerlaw15.ReckonEvals -/
def lEvals_px (R : Type) : Px R := ⟨ttOf ttL, glT, callT [(9, callOr [.sv .expr, .sl .col false, .sl .val false] [.bool] much_F), (10, callOr [] [.bool] known_F), (11, callOr [.sv .expr, .sl .col false] [.int .i64, .int .i64] kindX_F), (12, callOr [.sv .expr, .sl .col false] [.int .i64, .int .i64] rKind_F), (13, callOr [.sv .expr, .sl .col false, .sl .val false] [.sv .val, .int .i64] evalX_F), (14, callOr [.sv .expr, .sl .col false, .sl .val false] [.sv .val, .int .i64] rEval_F), (15, callOr [.sv .expr, .sl .col false, .sl .val false] [.bool, .int .i64] holds_F), (16, callOr [.sv .expr, .sl .col false, .sl .val false] [.bool, .int .i64] rHolds_F), (17, callOr [.sl .col false, .sl .val false] [.bool] rowfits_F), (18, callOr [.sl .col false, .sl .val false] [.bool] rFits_F)], callQT [], loopT []⟩
def lEvals_body (x : HV [.sv .expr, .sl .col false, .sl .val false]) : Option (HV [.bool]) := match x with
 | (e, cols, row) =>
  cond ((much e cols row)) (
   some known) (
   (rKind e cols).bind fun (x, x1) =>
    (rEval e cols row).bind fun (x2, x3) =>
     (rHolds e cols row).bind fun (x4, x5) =>
      let j4 := fun (p : Bool) =>
       let j3 := fun (p1 : Bool) =>
        let j2 := fun (p2 : Bool) =>
         let j1 := fun (p3 : Bool) =>
          let j := fun (p4 : Bool) =>
           cond (p4) (
            cond (decide ((rowfits cols row) = (rFits cols row))) (
             some known) (
             some false)) (
            some false)
          cond (p3) (
           j (decide ((holds e cols row).2 = x5))) (
           j false)
         cond (p2) (
          j1 (decide (((holds e cols row).1) = x4))) (
          j1 false)
        cond (p1) (
         j2 (decide ((evalX e cols row).2 = x3))) (
         j2 false)
       cond (p) (
        j3 (decide (((evalX e cols row).1) = x2))) (
        j3 false)
      cond (decide ((kindX e cols).1 = x)) (
       j4 (decide ((kindX e cols).2 = x1))) (
       j4 false))
theorem lEvals_eq : ∀ (x : HV [.sv .expr, .sl .col false, .sl .val false]), runF (lEvals_px _) Tryd.f3 [.sv .expr, .sl .col false, .sl .val false] [.bool] x some = lEvals_body x
  | (e, cols, row) => by kernel_rfl
theorem lEvals_run : FnOk Tryd.prog elT glT 3 [.sv .expr, .sl .col false, .sl .val false] [.bool] (lEvals_body) := by
  refine fnOk_run Tryd.func3 rfl (by kernel_rfl) follows (by kernel_rfl) (n := 0) (by kernel_rfl) (px := lEvals_px _) (fun cx hP hel hgl => ?_) (lEvals_eq)
  have hp0 : PxOk cx (lEvals_px (HV [.bool])) := ⟨fun t => by rw [hP, hel]; exact tt_ok ttL_ok t, by rw [hgl]; rfl⟩
  have hc0 : CallOk cx (lEvals_px (HV [.bool])) := callT_ok rfl (cfs_cons (cf_or (by rw [hP, hel, hgl]; exact much_ok) (by kernel_rfl)) (cfs_cons (cf_or (by rw [hP, hel, hgl]; exact known_ok) (by kernel_rfl)) (cfs_cons (cf_or (by rw [hP, hel, hgl]; exact kindX_ok) (by kernel_rfl)) (cfs_cons (cf_or (by rw [hP, hel, hgl]; exact rKind_ok) (by kernel_rfl)) (cfs_cons (cf_or (by rw [hP, hel, hgl]; exact evalX_ok) (by kernel_rfl)) (cfs_cons (cf_or (by rw [hP, hel, hgl]; exact rEval_ok) (by kernel_rfl)) (cfs_cons (cf_or (by rw [hP, hel, hgl]; exact holds_ok) (by kernel_rfl)) (cfs_cons (cf_or (by rw [hP, hel, hgl]; exact rHolds_ok) (by kernel_rfl)) (cfs_cons (cf_or (by rw [hP, hel, hgl]; exact rowfits_ok) (by kernel_rfl)) (cfs_cons (cf_or (by rw [hP, hel, hgl]; exact rFits_ok) (by kernel_rfl)) cfs_nil))))))))))
  have hq0 : CallQOk cx (lEvals_px (HV [.bool])) := callQT_ok rfl cqfs_nil
  exact ⟨hp0, hc0, hq0, all0⟩
theorem lEvals_true {e : Xpr} {cols : List Col} {row : List Val} (hs : SmExpr e) : lEvals_body (e, cols, row) = some true := by
  simp only [lEvals_body]
  cases hm : much e cols row
  · have h4 : much1 e 400 < 400 := by
      simp only [much] at hm
      by_cases h : 400 ≤ much1 e 400
      · rw [decide_eq_true h] at hm; cases hm
      · omega
    have hr := small_right hs h4
    simp only [cond_f, rKind, rEval, rHolds, known_true]
    rw [decide_eq_true hr]
    simp
  · simp only [cond_t, known_true]
set_option maxRecDepth 100000 in
theorem reckonEvals_contract (H : Type) (enc : TypeId × Value → H) (W : World) (base : Nat) (args : Array Value) (ds gs : List (DataW H)) (before : List MemPlace)
    (hval : ∀ (j : Nat) t v, Tryd.f3.params[j]? = some t → args[j]? = some v → Value.okWide Tryd.prog W .any base t v)
    (hW : DataW.Whole enc Tryd.prog Tryd.f3.params.toList Rows.reckonEvalsSpec.vars false W args.toList ds gs before) (hL : laidMetH Tryd.prog Rows.reckonEvalsRow.laid W)
    (hsz : (DataW.weightsEach Tryd.prog (Tryd.f3.params.toList ++ (OpenSpec.ofChange Rows.reckonEvalsSpec).bare.plain.varTypes Tryd.prog) (ds ++ gs)).all (· ≤ reachBytes) = true) :
    Calls Tryd.prog 3 args W fun e W' => ∃ v, e = .returned v ∧ Rows.reckonEvalsSpec.post enc Tryd.prog Tryd.f3 false true false false W args v W' :=
  law_frame (fn := Tryd.f3) lEvals_run (fun x _ hs => lEvals_true hs.1) (by kernel_rfl) rfl (fun ds h => match ds, h with | [_, _, _], _ => ⟨rfl, rfl, rfl⟩) (by kernel_rfl) (by kernel_rfl) hval hW (laid_glR hL) (sizes_of hsz)
theorem reckonEvals_laid_met (os : Os) (args : Array Value) : laidMet Tryd.prog Rows.reckonEvalsRow.laid ((laidWorld os).forCall (fun _ _ => 0) ⟨#[], args, []⟩).memory :=
  laidMet_of_run' 8 (by kernel_rfl) (by kernel_rfl)
theorem reckonEvals_reads (os : Os) {H : Type} (enc : TypeId × Value → H) : ∃ places, DataW.whole enc Tryd.prog ((laidWorld os).forCall (fun _ _ => 0) ⟨#[], #[.agg #[.int .i64 0, .int .i64 0, .int .i64 0, .string ⟨#[]⟩, .string ⟨#[]⟩, .slice none 0 0], .slice none 0 0, .slice none 0 0], []⟩).memory Tryd.f3.params.toList Rows.reckonEvalsSpec.vars false (#[.agg #[.int .i64 0, .int .i64 0, .int .i64 0, .string ⟨#[]⟩, .string ⟨#[]⟩, .slice none 0 0], .slice none 0 0, .slice none 0 0] : Array Value).toList 8 = some ([.agg [.lit (.int .i64 0), .agg [.lit (.int .i64 0), .lit (.int .i64 0), .lit (.string [])], .lit (.string []), .nil], .nil, .nil], [], places) :=
  ⟨[], by kernel_rfl⟩
set_option maxRecDepth 100000 in
theorem reckonEvals_lifted (os : Os) (started : os.Started) (H : Type) (enc : TypeId × Value → H) (F : Stop.Interp) :
    ReturnsInHanded {} Tryd.checked os 3 .any ((OpenSpec.ofChange Rows.reckonEvalsSpec).preRow enc Tryd.prog Tryd.f3 Rows.reckonEvalsRow.domain false Rows.reckonEvalsRow.laid) (((OpenSpec.ofChange Rows.reckonEvalsSpec).at F).post enc Tryd.prog Tryd.f3 false true false false) := by
  obtain ⟨places, hx⟩ := reckonEvals_reads os enc
  refine returnsInHanded_of_row (C := Tryd.checked) (s := OpenSpec.ofChange Rows.reckonEvalsSpec) own started (by kernel_rfl) Tryd.func3
    (witness_row_at (enc := enc) (C := Tryd.checked) false (laidWorld os) #[.agg #[.int .i64 0, .int .i64 0, .int .i64 0, .string ⟨#[]⟩, .string ⟨#[]⟩, .slice none 0 0], .slice none 0 0, .slice none 0 0] rfl (by kernel_rfl) (by kernel_rfl) (by kernel_rfl)
      (OpenSpec.preRow_of_cond 8 hx (by kernel_rfl) (fun k hk => by cases hk) (by kernel_rfl) (reckonEvals_laid_met os _))) ?_
  intro W base args ds gs before hval hW _ _ hsz hL _ _
  exact reckonEvals_contract H enc W base args ds gs before hval hW hL hsz
theorem reckonEvals_said : Rows.ReckonEvalsSaid :=
  OpenClaim.holds_of_cond 3 Tryd.f3 rfl rfl rfl rfl rfl rfl rfl ⟨rfl, rfl, rfl, rfl, rfl⟩ rfl rfl rfl rfl rfl (by kernel_rfl) Tryd.func3 (by kernel_rfl)
    (of_decide_eq_true (by kernel_rfl)) (by unfold Func.isWrapper; first | (rw [if_pos (by decide +kernel)]; kernel_rfl) | (rw [if_neg (by decide +kernel)]; exact ⟨rfl, rfl⟩))
    (fun os started H enc _ F => by rw [OpenClaim.pre_eq_preRow]; exact reckonEvals_lifted os started H enc F)
theorem reckonEvals_plain (f : FuncId) (fn : Func) (hf : Tryd.pinned.checked.prog.funcNamed "exchequer/exchequerlaw15.ReckonEvals" = some f) (hfn : Tryd.pinned.checked.prog.funcs[f]? = some fn) :
    false = Tryd.pinned.checked.prog.looks [] ∧ ∀ (j : Nat) t, fn.params[j]? = some t → Tryd.pinned.checked.prog.wantsStandIn t = false := by
  obtain rfl : f = 3 := Option.some.inj ((show Tryd.prog.funcNamed "exchequer/exchequerlaw15.ReckonEvals" = some 3 by kernel_rfl).symm.trans hf) |>.symm
  obtain rfl : fn = Tryd.f3 := (Option.some.inj (Tryd.func3.symm.trans hfn)).symm
  refine ⟨by kernel_rfl, fun j t ht => ?_⟩
  have hall : (Tryd.f3.params.all fun t => !Tryd.prog.wantsStandIn t) = true := by kernel_rfl
  have := Array.all_eq_true_iff_forall_mem.1 hall t (Array.mem_of_getElem? ht)
  have h2 : Tryd.prog.wantsStandIn t = false := by simpa using this
  exact h2
/-- THE CARD -/
theorem reckonEvals_card : Rows.ReckonEvalsCardSaid :=
  Claim7.holds_tied_plain_at .later [] _ _ _ _ reckonEvals_said (fun _ h => by cases h) (by kernel_rfl) (fun _ h => by cases h) reckonEvals_row_tie rfl ⟨rfl, rfl⟩ (by kernel_rfl) rfl reckonEvals_plain (by kernel_rfl)
#print axioms reckonEvals_card
end Go.Proofs.YtlhebakbbfmiiaaDoor
