/- AstPrints: whether any statement may be, and its text, is what the chapter says; whether any two are the same, too; on the condition of the row alone: that the package's tables hold what the program's text lays. -/
import Derived.Test.YthndhaolemgbdaaGreatDoorA6
namespace Go.Proofs.YthndhaolemgbdaaGreatDoor
open Go.Ax Go.ChangeShapes Go.WideShapes Go.ChangeAt Go.RowKit Go.ChangeMaps
noncomputable section
/-! ## exchequer/exchequerlaw13.AstPrints -/
def lPrints_px (R : Type) : Px R := ⟨ttOf ttL, glT, callT [(22, callOr [.sv .stmt, .int .i64] [.int .i64] rmuch_F), (13, callOr [] [.bool] known13_F), (23, callOr [.sv .stmt] [.str, .int .i64] aprint_F), (24, callOr [.sv .stmt] [.str, .int .i64] rPrint_F), (27, callOr [.sv .stmt, .sv .stmt] [.bool] astmts_F)], callQT [(25, callOrQ [.sv .stmt] [.int .i64] acheck_F), (26, callOrQ [.sv .stmt] [.int .i64] rchk_F), (27, callOrQ [.sv .stmt, .sv .stmt] [.bool] astmts_F), (28, callOrQ [.sv .stmt, .sv .stmt] [.bool] rsameS_F)], loopT []⟩
def lPrints_body (x : HV [.sv .stmt, .sv .stmt]) : Option (HV [.bool]) := match x with
 | (a, b) =>
  cond (decide (600 ≤ (rmuch a 600))) (
   some known13) (
   cond (decide (600 ≤ (rmuch b 600))) (
    some known13) (
    (aprint a).bind fun (x, x1) =>
     (rPrint a).bind fun (x2, x3) =>
      let j2 := fun (p2 : Bool) =>
       let j1 := fun (p3 : Bool) =>
        let j := fun (p4 : Bool) =>
         cond (p4) (
          cond ((astmts a a)) (
           some known13) (
           some false)) (
          some false)
        cond (p3) (
         j (decide ((astmts a b) = (rsameS a b)))) (
         j false)
       cond (p2) (
        (acheck a).bind fun x4 =>
         (rchk a).bind fun x5 =>
          j1 (decide (x4 = x5))) (
        j1 false)
      cond (decide (x = x2)) (
       j2 (decide (x1 = x3))) (
       j2 false)))
theorem lPrints_eq : ∀ (x : HV [.sv .stmt, .sv .stmt]), runF (lPrints_px _) Tryz.f4 [.sv .stmt, .sv .stmt] [.bool] x some = lPrints_body x
  | (a, b) => by kernel_rfl
theorem lPrints_run : FnOk Tryz.prog elT glT 4 [.sv .stmt, .sv .stmt] [.bool] (lPrints_body) := by
  refine fnOk_run Tryz.func4 rfl (by kernel_rfl) follows (by kernel_rfl) (n := 0) (by kernel_rfl) (px := lPrints_px _) (fun cx hP hel hgl => ?_) (lPrints_eq)
  have hp0 : PxOk cx (lPrints_px (HV [.bool])) := ⟨fun t => by rw [hP, hel]; exact tt_ok ttL_ok t, by rw [hgl]; rfl⟩
  have hc0 : CallOk cx (lPrints_px (HV [.bool])) := callT_ok rfl (cfs_cons (cf_or (by rw [hP, hel, hgl]; exact rmuch_ok) (by kernel_rfl)) (cfs_cons (cf_or (by rw [hP, hel, hgl]; exact known13_ok) (by kernel_rfl)) (cfs_cons (cf_or (by rw [hP, hel, hgl]; exact aprint_ok) (by kernel_rfl)) (cfs_cons (cf_or (by rw [hP, hel, hgl]; exact rPrint_ok) (by kernel_rfl)) (cfs_cons (cf_or (by rw [hP, hel, hgl]; exact astmts_ok) (by kernel_rfl)) cfs_nil)))))
  have hq0 : CallQOk cx (lPrints_px (HV [.bool])) := callQT_ok rfl (cqfs_cons (cqf_or (by rw [hP, hel, hgl]; exact acheck_ok) (by kernel_rfl)) (cqfs_cons (cqf_or (by rw [hP, hel, hgl]; exact rchk_ok) (by kernel_rfl)) (cqfs_cons (cqf_or (by rw [hP, hel, hgl]; exact astmts_ok) (by kernel_rfl)) (cqfs_cons (cqf_or (by rw [hP, hel, hgl]; exact rsameS_ok) (by kernel_rfl)) cqfs_nil))))
  exact ⟨hp0, hc0, hq0, all0⟩
theorem lPrints_true (a b : Stm) (ba : BdStm a) (sa : SmStm (R47, R47) a) : lPrints_body (a, b) = some true := by
  simp only [lPrints_body]
  by_cases ha : 600 ≤ rmuch a 600
  · rw [decide_eq_true ha]; rfl
  by_cases hb : 600 ≤ rmuch b 600
  · rw [decide_eq_false ha, decide_eq_true hb]; rfl
  have fa := rmuch_few sa (by omega)
  have h1 : aprint a = some (cond (checkB a) (printT a, 0) ([], 2)) := by
    cases h : checkB a with
    | true => exact aprint_ok' h ba fa
    | false => exact aprint_no h fa
  have h2 := rPrint_is fa
  have e1 : astmts a a = true := (ssame_iff a a).2 rfl
  have e2 : astmts a b = rsameS a b := ssame_dec a b
  rw [decide_eq_false ha, decide_eq_false hb, h1, h2, acheck_is fa, rchk_is fa]
  simp only [cond_f, Option.bind_some, decide_true, e1, e2, cond_t]
  rfl
theorem astPrints_lists : Lists Rows.astPrintsRow.laid := by
  refine ⟨by kernel_rfl, ?_⟩
  simp [Rows.astPrintsRow]
set_option maxRecDepth 100000 in
theorem astPrints_contract (H : Type) (enc : TypeId × Value → H) (W : World) (base : Nat) (args : Array Value) (ds gs : List (DataW H)) (before : List MemPlace)
    (hval : ∀ (j : Nat) t v, Tryz.f4.params[j]? = some t → args[j]? = some v → Value.okWide Tryz.prog W .any base t v)
    (hW : DataW.Whole enc Tryz.prog Tryz.f4.params.toList Rows.astPrintsSpec.vars false W args.toList ds gs before) (hL : laidMetH Tryz.prog Rows.astPrintsRow.laid W) (hS : W.ShapedOpen Tryz.prog)
    (hsz : (DataW.weightsEach Tryz.prog (Tryz.f4.params.toList ++ (OpenSpec.ofChange Rows.astPrintsSpec).bare.plain.varTypes Tryz.prog) (ds ++ gs)).all (· ≤ reachBytes) = true) :
    Calls Tryz.prog 4 args W fun e W' => ∃ v, e = .returned v ∧ Rows.astPrintsSpec.post enc Tryz.prog Tryz.f4 false true false false W args v W' :=
  law_frame (msr_weights _) (fn := Tryz.f4) lPrints_run (fun x hb hs => lPrints_true x.1 x.2 hb.1 hs.1) (by kernel_rfl) rfl (fun ds h => match ds, h with | [_, _], _ => ⟨rfl, rfl, rfl⟩) (by kernel_rfl) (by kernel_rfl) hval hW (all_glR astPrints_lists hL hS) (fun hl => sizes_of hsz (Nat.le_of_eq hl))
theorem astPrints_laid_met (os : Os) (args : Array Value) : laidMet Tryz.prog Rows.astPrintsRow.laid ((laidWorld os).forCall (fun _ _ => 0) ⟨#[], args, []⟩).memory :=
  laidMet_of_run' 8 (by kernel_rfl) (by kernel_rfl)
theorem astPrints_reads (os : Os) {H : Type} (enc : TypeId × Value → H) : ∃ places, DataW.whole enc Tryz.prog ((laidWorld os).forCall (fun _ _ => 0) ⟨#[], #[.agg #[.int .i64 0, .string ⟨#[]⟩, .string ⟨#[]⟩, .slice none 0 0, .slice none 0 0, .slice none 0 0, .slice none 0 0, .slice none 0 0, .bool false, .int .i64 0, .int .i64 0, .int .i64 0, .string ⟨#[]⟩, .string ⟨#[]⟩, .slice none 0 0, .slice none 0 0, .slice none 0 0, .int .i64 0], .agg #[.int .i64 0, .string ⟨#[]⟩, .string ⟨#[]⟩, .slice none 0 0, .slice none 0 0, .slice none 0 0, .slice none 0 0, .slice none 0 0, .bool false, .int .i64 0, .int .i64 0, .int .i64 0, .string ⟨#[]⟩, .string ⟨#[]⟩, .slice none 0 0, .slice none 0 0, .slice none 0 0, .int .i64 0]], []⟩).memory Tryz.f4.params.toList Rows.astPrintsSpec.vars false (#[.agg #[.int .i64 0, .string ⟨#[]⟩, .string ⟨#[]⟩, .slice none 0 0, .slice none 0 0, .slice none 0 0, .slice none 0 0, .slice none 0 0, .bool false, .int .i64 0, .int .i64 0, .int .i64 0, .string ⟨#[]⟩, .string ⟨#[]⟩, .slice none 0 0, .slice none 0 0, .slice none 0 0, .int .i64 0], .agg #[.int .i64 0, .string ⟨#[]⟩, .string ⟨#[]⟩, .slice none 0 0, .slice none 0 0, .slice none 0 0, .slice none 0 0, .slice none 0 0, .bool false, .int .i64 0, .int .i64 0, .int .i64 0, .string ⟨#[]⟩, .string ⟨#[]⟩, .slice none 0 0, .slice none 0 0, .slice none 0 0, .int .i64 0]] : Array Value).toList 8 = some ([.agg [.lit (.int .i64 0), .lit (.string []), .lit (.string []), .nil, .nil, .nil, .nil, .nil, .lit (.bool false), .agg [.lit (.int .i64 0), .agg [.lit (.int .i64 0), .lit (.int .i64 0), .lit (.string [])], .lit (.string []), .nil], .nil, .nil, .lit (.int .i64 0)], .agg [.lit (.int .i64 0), .lit (.string []), .lit (.string []), .nil, .nil, .nil, .nil, .nil, .lit (.bool false), .agg [.lit (.int .i64 0), .agg [.lit (.int .i64 0), .lit (.int .i64 0), .lit (.string [])], .lit (.string []), .nil], .nil, .nil, .lit (.int .i64 0)]], [], places) :=
  ⟨[], by kernel_rfl⟩
set_option maxRecDepth 100000 in
theorem astPrints_lifted (os : Os) (started : os.Started) (H : Type) (enc : TypeId × Value → H) (F : Stop.Interp) :
    ReturnsInHanded {} Tryz.checked os 4 .any ((OpenSpec.ofChange Rows.astPrintsSpec).preRow enc Tryz.prog Tryz.f4 Rows.astPrintsRow.domain false Rows.astPrintsRow.laid) (((OpenSpec.ofChange Rows.astPrintsSpec).at F).post enc Tryz.prog Tryz.f4 false true false false) := by
  obtain ⟨places, hx⟩ := astPrints_reads os enc
  refine returnsInHanded_of_row (C := Tryz.checked) (s := OpenSpec.ofChange Rows.astPrintsSpec) own started (by kernel_rfl) Tryz.func4
    (witness_row_at (enc := enc) (C := Tryz.checked) false (laidWorld os) #[.agg #[.int .i64 0, .string ⟨#[]⟩, .string ⟨#[]⟩, .slice none 0 0, .slice none 0 0, .slice none 0 0, .slice none 0 0, .slice none 0 0, .bool false, .int .i64 0, .int .i64 0, .int .i64 0, .string ⟨#[]⟩, .string ⟨#[]⟩, .slice none 0 0, .slice none 0 0, .slice none 0 0, .int .i64 0], .agg #[.int .i64 0, .string ⟨#[]⟩, .string ⟨#[]⟩, .slice none 0 0, .slice none 0 0, .slice none 0 0, .slice none 0 0, .slice none 0 0, .bool false, .int .i64 0, .int .i64 0, .int .i64 0, .string ⟨#[]⟩, .string ⟨#[]⟩, .slice none 0 0, .slice none 0 0, .slice none 0 0, .int .i64 0]] rfl (by kernel_rfl) (by kernel_rfl) (by kernel_rfl)
      (OpenSpec.preRow_of_cond 8 hx (by kernel_rfl) (fun k hk => by cases hk) (by kernel_rfl) (astPrints_laid_met os _))) ?_
  intro W base args ds gs before hval hW _ _ hsz hL hS _
  exact astPrints_contract H enc W base args ds gs before hval hW hL hS hsz
theorem astPrints_said : Rows.AstPrintsSaid :=
  OpenClaim.holds_of_cond 4 Tryz.f4 rfl rfl rfl rfl rfl rfl rfl ⟨rfl, rfl, rfl, rfl, rfl⟩ rfl rfl rfl rfl rfl (by kernel_rfl) Tryz.func4 (by kernel_rfl)
    (of_decide_eq_true (by kernel_rfl)) (by unfold Func.isWrapper; first | (rw [if_pos (by decide +kernel)]; kernel_rfl) | (rw [if_neg (by decide +kernel)]; exact ⟨rfl, rfl⟩))
    (fun os started H enc _ F => by rw [OpenClaim.pre_eq_preRow]; exact astPrints_lifted os started H enc F)
theorem astPrints_plain (f : FuncId) (fn : Func) (hf : Tryz.pinned.checked.prog.funcNamed "exchequer/exchequerlaw13.AstPrints" = some f) (hfn : Tryz.pinned.checked.prog.funcs[f]? = some fn) :
    false = Tryz.pinned.checked.prog.looks [] ∧ ∀ (j : Nat) t, fn.params[j]? = some t → Tryz.pinned.checked.prog.wantsStandIn t = false := by
  obtain rfl : f = 4 := Option.some.inj ((show Tryz.prog.funcNamed "exchequer/exchequerlaw13.AstPrints" = some 4 by kernel_rfl).symm.trans hf) |>.symm
  obtain rfl : fn = Tryz.f4 := (Option.some.inj (Tryz.func4.symm.trans hfn)).symm
  refine ⟨by kernel_rfl, fun j t ht => ?_⟩
  have hall : (Tryz.f4.params.all fun t => !Tryz.prog.wantsStandIn t) = true := by kernel_rfl
  have := Array.all_eq_true_iff_forall_mem.1 hall t (Array.mem_of_getElem? ht)
  have h2 : Tryz.prog.wantsStandIn t = false := by simpa using this
  exact h2
/-- THE CARD -/
theorem astPrints_card : Rows.AstPrintsCardSaid :=
  Claim7.holds_tied_plain_at .later [] _ _ _ _ astPrints_said (fun _ h => by cases h) (by kernel_rfl) (fun _ h => by cases h) astPrints_row_tie rfl ⟨rfl, rfl⟩ (by kernel_rfl) rfl astPrints_plain (by kernel_rfl)
end
#print axioms astPrints_card
end Go.Proofs.YthndhaolemgbdaaGreatDoor
