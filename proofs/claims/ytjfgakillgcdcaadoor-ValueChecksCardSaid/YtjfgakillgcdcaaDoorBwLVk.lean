/- ValueChecks: whether any value may be, fits a kind, and which text it has, is what the document says; on the condition of the row alone: that the tables of unicode/utf8 hold what the program's text lays. -/
import Derived.Test.YtjfgakillgcdcaaDoorBw5
namespace Go.Proofs.YtjfgakillgcdcaaDoor
open Go.Ax Go.ChangeShapes Go.WideShapes Go.ChangeAt Go.RowKit Go.ChangeMaps
/-! ## exchequer/exchequerlaw02.ValueChecks -/
def lChecks_px (R : Type) : Px R := ⟨ttOf ttL, glT, callT [(19, callOr [] [.bool] known_F)], callQT [(20, callOrQ [.sv .val] [.int .i64] vcheck_F), (21, callOrQ [.sv .val] [.int .i64] rcheck_F), (22, callOrQ [.sv .val, .int .i64] [.bool] vfits_F), (23, callOrQ [.sv .val, .int .i64] [.bool] rfits2_F), (24, callOrQ [.sv .val] [.str] vprint_F), (25, callOrQ [.sv .val] [.str] rprint_F), (19, callOrQ [] [.bool] known_F)], loopT []⟩
def lChecks_body (x : HV [.sv .val, .int .i64]) : Option (HV [.bool]) := match x with
 | (v, k) =>
  cond (decide (3000 < (v.s.length : Int))) (
   some known) (
   let j := fun (p : Bool) =>
    cond (p) (
     cond (decide ((vprint v) = (rprint v))) (
      some known) (
      some false)) (
     some false)
   cond (decide ((vcheck v) = (rcheck v))) (
    j (decide ((vfits v k) = (rfits2 v k)))) (
    j false))
theorem lChecks_eq : ∀ (x : HV [.sv .val, .int .i64]), runF (lChecks_px _) Tryd.f4 [.sv .val, .int .i64] [.bool] x some = lChecks_body x
  | (v, k) => by kernel_rfl
theorem lChecks_run : FnOk Tryd.prog elT glT 4 [.sv .val, .int .i64] [.bool] (lChecks_body) := by
  refine fnOk_run Tryd.func4 rfl (by kernel_rfl) follows (by kernel_rfl) (n := 0) (by kernel_rfl) (px := lChecks_px _) (fun cx hP hel hgl => ?_) (lChecks_eq)
  have hp0 : PxOk cx (lChecks_px (HV [.bool])) := ⟨fun t => by rw [hP, hel]; exact tt_ok ttL_ok t, by rw [hgl]; rfl⟩
  have hc0 : CallOk cx (lChecks_px (HV [.bool])) := callT_ok rfl (cfs_cons (cf_or (by rw [hP, hel, hgl]; exact known_ok) (by kernel_rfl)) cfs_nil)
  have hq0 : CallQOk cx (lChecks_px (HV [.bool])) := callQT_ok rfl (cqfs_cons (cqf_or (by rw [hP, hel, hgl]; exact vcheck_ok) (by kernel_rfl)) (cqfs_cons (cqf_or (by rw [hP, hel, hgl]; exact rcheck_ok) (by kernel_rfl)) (cqfs_cons (cqf_or (by rw [hP, hel, hgl]; exact vfits_ok) (by kernel_rfl)) (cqfs_cons (cqf_or (by rw [hP, hel, hgl]; exact rfits2_ok) (by kernel_rfl)) (cqfs_cons (cqf_or (by rw [hP, hel, hgl]; exact vprint_ok) (by kernel_rfl)) (cqfs_cons (cqf_or (by rw [hP, hel, hgl]; exact rprint_ok) (by kernel_rfl)) (cqfs_cons (cqf_or (by rw [hP, hel, hgl]; exact known_ok) (by kernel_rfl)) cqfs_nil)))))))
  exact ⟨hp0, hc0, hq0, all0⟩
def lChecks (v : Val) (k : Int) : Bool :=
  cond (decide (3000 < (v.s.length : Int))) (
   known) (
   let j := fun (p : Bool) =>
    cond (p) (
     cond (decide ((vprint v) = (rprint v))) (
      known) (
      false)) (
     false)
   cond (decide ((vcheck v) = (rcheck v))) (
    j (decide ((vfits v k) = (rfits2 v k)))) (
    j false))
theorem lChecks_tot (x : HV [.sv .val, .int .i64]) : lChecks_body x = some (lChecks x.1 x.2) := by
  first
    | exact rfl
    | simp only [lChecks_body, lChecks, cond_some]
def lChecks_F : FT [.sv .val, .int .i64] [.bool] := fun x => some (lChecks x.1 x.2)
theorem lChecks_ok : FnOk Tryd.prog elT glT 4 [.sv .val, .int .i64] [.bool] lChecks_F := .fin0 lChecks_run fun x _ _ hx => (lChecks_tot x).trans hx
theorem lChecks_true (v : Val) (k : Int) : lChecks v k = true := by
  simp only [lChecks, known_true, rcheck, rfits2_v, rprint]
  simp
set_option maxRecDepth 100000 in
theorem valueChecks_contract (H : Type) (enc : TypeId × Value → H) (W : World) (base : Nat) (args : Array Value) (ds gs : List (DataW H)) (before : List MemPlace)
    (hval : ∀ (j : Nat) t v, Tryd.f4.params[j]? = some t → args[j]? = some v → Value.okWide Tryd.prog W .any base t v)
    (hW : DataW.Whole enc Tryd.prog Tryd.f4.params.toList Rows.valueChecksSpec.vars false W args.toList ds gs before) (hS : W.ShapedOpen Tryd.prog)
    (hsz : (DataW.weightsEach Tryd.prog (Tryd.f4.params.toList ++ (OpenSpec.ofChange Rows.valueChecksSpec).bare.plain.varTypes Tryd.prog) (ds ++ gs)).all (· ≤ reachBytes) = true) :
    Calls Tryd.prog 4 args W fun e W' => ∃ v, e = .returned v ∧ Rows.valueChecksSpec.post enc Tryd.prog Tryd.f4 false true false false W args v W' :=
  law_frame (fn := Tryd.f4) lChecks_ok (fun x _ _ => congrArg some (lChecks_true x.1 x.2)) (by kernel_rfl) rfl (fun ds h => match ds, h with | [_, _], _ => ⟨rfl, rfl, rfl⟩) (by kernel_rfl) (by kernel_rfl) hval hW (shape_glR hS) (sizes_of hsz)
theorem valueChecks_laid_met (os : Os) (args : Array Value) : laidMet Tryd.prog Rows.valueChecksRow.laid ((laidWorld os).forCall (fun _ _ => 0) ⟨#[], args, []⟩).memory :=
  laidMet_of_run' 8 (by kernel_rfl) (by kernel_rfl)
theorem valueChecks_reads (os : Os) {H : Type} (enc : TypeId × Value → H) : ∃ places, DataW.whole enc Tryd.prog ((laidWorld os).forCall (fun _ _ => 0) ⟨#[], #[.agg #[.int .i64 0, .int .i64 0, .string ⟨#[]⟩], .int .i64 0], []⟩).memory Tryd.f4.params.toList Rows.valueChecksSpec.vars false (#[.agg #[.int .i64 0, .int .i64 0, .string ⟨#[]⟩], .int .i64 0] : Array Value).toList 8 = some ([.agg [.lit (.int .i64 0), .lit (.int .i64 0), .lit (.string [])], .lit (.int .i64 0)], [], places) :=
  ⟨[], by kernel_rfl⟩
set_option maxRecDepth 100000 in
theorem valueChecks_lifted (os : Os) (started : os.Started) (H : Type) (enc : TypeId × Value → H) (F : Stop.Interp) :
    ReturnsInHanded {} Tryd.checked os 4 .any ((OpenSpec.ofChange Rows.valueChecksSpec).preRow enc Tryd.prog Tryd.f4 Rows.valueChecksRow.domain false Rows.valueChecksRow.laid) (((OpenSpec.ofChange Rows.valueChecksSpec).at F).post enc Tryd.prog Tryd.f4 false true false false) := by
  obtain ⟨places, hx⟩ := valueChecks_reads os enc
  refine returnsInHanded_of_row (C := Tryd.checked) (s := OpenSpec.ofChange Rows.valueChecksSpec) own started (by kernel_rfl) Tryd.func4
    (witness_row_at (enc := enc) (C := Tryd.checked) false (laidWorld os) #[.agg #[.int .i64 0, .int .i64 0, .string ⟨#[]⟩], .int .i64 0] rfl (by kernel_rfl) (by kernel_rfl) (by kernel_rfl)
      (OpenSpec.preRow_of_cond 8 hx (by kernel_rfl) (fun k hk => by cases hk) (by kernel_rfl) (valueChecks_laid_met os _))) ?_
  intro W base args ds gs before hval hW _ _ hsz _ hS _
  exact valueChecks_contract H enc W base args ds gs before hval hW hS hsz
theorem valueChecks_said : Rows.ValueChecksSaid :=
  OpenClaim.holds_of_cond 4 Tryd.f4 rfl rfl rfl rfl rfl rfl rfl ⟨rfl, rfl, rfl, rfl, rfl⟩ rfl rfl rfl rfl rfl (by kernel_rfl) Tryd.func4 (by kernel_rfl)
    (of_decide_eq_true (by kernel_rfl)) (by unfold Func.isWrapper; first | (rw [if_pos (by decide +kernel)]; kernel_rfl) | (rw [if_neg (by decide +kernel)]; exact ⟨rfl, rfl⟩))
    (fun os started H enc _ F => by rw [OpenClaim.pre_eq_preRow]; exact valueChecks_lifted os started H enc F)
theorem valueChecks_plain (f : FuncId) (fn : Func) (hf : Tryd.pinned.checked.prog.funcNamed "exchequer/exchequerlaw02.ValueChecks" = some f) (hfn : Tryd.pinned.checked.prog.funcs[f]? = some fn) :
    false = Tryd.pinned.checked.prog.looks [] ∧ ∀ (j : Nat) t, fn.params[j]? = some t → Tryd.pinned.checked.prog.wantsStandIn t = false := by
  obtain rfl : f = 4 := Option.some.inj ((show Tryd.prog.funcNamed "exchequer/exchequerlaw02.ValueChecks" = some 4 by kernel_rfl).symm.trans hf) |>.symm
  obtain rfl : fn = Tryd.f4 := (Option.some.inj (Tryd.func4.symm.trans hfn)).symm
  refine ⟨by kernel_rfl, fun j t ht => ?_⟩
  have hall : (Tryd.f4.params.all fun t => !Tryd.prog.wantsStandIn t) = true := by kernel_rfl
  have := Array.all_eq_true_iff_forall_mem.1 hall t (Array.mem_of_getElem? ht)
  have h2 : Tryd.prog.wantsStandIn t = false := by simpa using this
  exact h2
/-- THE CARD -/
theorem valueChecks_card : Rows.ValueChecksCardSaid :=
  Claim7.holds_tied_plain_at .later [] _ _ _ _ valueChecks_said (fun _ h => by cases h) (by kernel_rfl) (fun _ h => by cases h) valueChecks_row_tie rfl ⟨rfl, rfl⟩ (by kernel_rfl) rfl valueChecks_plain (by kernel_rfl)
#print axioms valueChecks_card
end Go.Proofs.YtjfgakillgcdcaaDoor
