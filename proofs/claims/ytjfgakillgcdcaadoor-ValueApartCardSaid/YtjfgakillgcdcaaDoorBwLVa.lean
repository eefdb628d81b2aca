/- ValueApart: two values that may be, and are not the same, have two texts; a value that may not be has none; on the condition of the row alone: that the tables of unicode/utf8 hold what the program's text lays. -/
import Derived.Test.YtjfgakillgcdcaaDoorBw5
namespace Go.Proofs.YtjfgakillgcdcaaDoor
open Go.Ax Go.ChangeShapes Go.WideShapes Go.ChangeAt Go.RowKit Go.ChangeMaps
/-! ## exchequer/exchequerlaw02.ValueApart -/
def lApart_px (R : Type) : Px R := ⟨ttOf ttL, glT, callT [(19, callOr [] [.bool] known_F), (24, callOr [.sv .val] [.str] vprint_F), (20, callOr [.sv .val] [.int .i64] vcheck_F)], callQT [], loopT []⟩
def lApart_body (x : HV [.sv .val, .sv .val]) : Option (HV [.bool]) := match x with
 | (a, b) =>
  cond (decide (3000 < (a.s.length : Int))) (
   some known) (
   cond (decide (3000 < (b.s.length : Int))) (
    some known) (
    let j := fun (p3 : Bool) =>
     cond (p3) (
      cond (decide ((vprint a) = [])) (
       some known) (
       cond (decide ((vprint b) = [])) (
        some known) (
        some false))) (
      cond (decide ((decide ((vprint a) = (vprint b))) = (decide (a = b)))) (
       cond (!decide ((vprint a) = [])) (
        some known) (
        some false)) (
       some false))
    cond (!decide ((vcheck a) = 0)) (
     j true) (
     j (!decide ((vcheck b) = 0)))))
theorem lApart_eq : ∀ (x : HV [.sv .val, .sv .val]), runF (lApart_px _) Tryd.f7 [.sv .val, .sv .val] [.bool] x some = lApart_body x
  | (a, b) => by kernel_rfl
theorem lApart_run : FnOk Tryd.prog elT glT 7 [.sv .val, .sv .val] [.bool] (lApart_body) := by
  refine fnOk_run Tryd.func7 rfl (by kernel_rfl) follows (by kernel_rfl) (n := 0) (by kernel_rfl) (px := lApart_px _) (fun cx hP hel hgl => ?_) (lApart_eq)
  have hp0 : PxOk cx (lApart_px (HV [.bool])) := ⟨fun t => by rw [hP, hel]; exact tt_ok ttL_ok t, by rw [hgl]; rfl⟩
  have hc0 : CallOk cx (lApart_px (HV [.bool])) := callT_ok rfl (cfs_cons (cf_or (by rw [hP, hel, hgl]; exact known_ok) (by kernel_rfl)) (cfs_cons (cf_or (by rw [hP, hel, hgl]; exact vprint_ok) (by kernel_rfl)) (cfs_cons (cf_or (by rw [hP, hel, hgl]; exact vcheck_ok) (by kernel_rfl)) cfs_nil)))
  have hq0 : CallQOk cx (lApart_px (HV [.bool])) := callQT_ok rfl cqfs_nil
  exact ⟨hp0, hc0, hq0, all0⟩
def lApart (a : Val) (b : Val) : Bool :=
  cond (decide (3000 < (a.s.length : Int))) (
   known) (
   cond (decide (3000 < (b.s.length : Int))) (
    known) (
    let j := fun (p3 : Bool) =>
     cond (p3) (
      cond (decide ((vprint a) = [])) (
       known) (
       cond (decide ((vprint b) = [])) (
        known) (
        false))) (
      cond (decide ((decide ((vprint a) = (vprint b))) = (decide (a = b)))) (
       cond (!decide ((vprint a) = [])) (
        known) (
        false)) (
       false))
    cond (!decide ((vcheck a) = 0)) (
     j true) (
     j (!decide ((vcheck b) = 0)))))
theorem lApart_tot (x : HV [.sv .val, .sv .val]) : lApart_body x = some (lApart x.1 x.2) := by
  first
    | exact rfl
    | simp only [lApart_body, lApart, cond_some]
def lApart_F : FT [.sv .val, .sv .val] [.bool] := fun x => some (lApart x.1 x.2)
theorem lApart_ok : FnOk Tryd.prog elT glT 7 [.sv .val, .sv .val] [.bool] lApart_F := .fin0 lApart_run fun x _ _ hx => (lApart_tot x).trans hx
theorem print_no {v : Val} (h : vright v = false) : vprint v = [] := by
  simp only [vprint, h, cond_f]
theorem lApart_true (a b : Val) : lApart a b = true := by
  simp only [lApart, known_true]
  cases decide (3000 < (a.s.length : Int))
  · cases decide (3000 < (b.s.length : Int))
    · simp only [cond_f]
      cases ha : vright a with
      | false =>
        have h1 : vcheck a = 2 := by simp [vcheck, ha]
        rw [decide_eq_false (show ¬ vcheck a = 0 by omega), decide_eq_true (print_no ha)]
        rfl
      | true =>
        have h1 : vcheck a = 0 := by simp [vcheck, ha]
        rw [decide_eq_true h1]
        cases hb : vright b with
        | false =>
          have h2 : vcheck b = 2 := by simp [vcheck, hb]
          rw [decide_eq_false (show ¬ vcheck b = 0 by omega), decide_eq_true (print_no hb)]
          cases decide (vprint a = []) <;> rfl
        | true =>
          have h2 : vcheck b = 0 := by simp [vcheck, hb]
          rw [decide_eq_true h2, decide_eq_false (print_ne ha)]
          have e : decide (vprint a = vprint b) = decide (a = b) := decide_eq_decide.2 ⟨print_inj ha hb, fun h => by rw [h]⟩
          rw [e]
          cases decide (a = b) <;> rfl
    · rfl
  · rfl
set_option maxRecDepth 100000 in
theorem valueApart_contract (H : Type) (enc : TypeId × Value → H) (W : World) (base : Nat) (args : Array Value) (ds gs : List (DataW H)) (before : List MemPlace)
    (hval : ∀ (j : Nat) t v, Tryd.f7.params[j]? = some t → args[j]? = some v → Value.okWide Tryd.prog W .any base t v)
    (hW : DataW.Whole enc Tryd.prog Tryd.f7.params.toList Rows.valueApartSpec.vars false W args.toList ds gs before) (hS : W.ShapedOpen Tryd.prog)
    (hsz : (DataW.weightsEach Tryd.prog (Tryd.f7.params.toList ++ (OpenSpec.ofChange Rows.valueApartSpec).bare.plain.varTypes Tryd.prog) (ds ++ gs)).all (· ≤ reachBytes) = true) :
    Calls Tryd.prog 7 args W fun e W' => ∃ v, e = .returned v ∧ Rows.valueApartSpec.post enc Tryd.prog Tryd.f7 false true false false W args v W' :=
  law_frame (fn := Tryd.f7) lApart_ok (fun x _ _ => congrArg some (lApart_true x.1 x.2)) (by kernel_rfl) rfl (fun ds h => match ds, h with | [_, _], _ => ⟨rfl, rfl, rfl⟩) (by kernel_rfl) (by kernel_rfl) hval hW (shape_glR hS) (sizes_of hsz)
theorem valueApart_laid_met (os : Os) (args : Array Value) : laidMet Tryd.prog Rows.valueApartRow.laid ((laidWorld os).forCall (fun _ _ => 0) ⟨#[], args, []⟩).memory :=
  laidMet_of_run' 8 (by kernel_rfl) (by kernel_rfl)
theorem valueApart_reads (os : Os) {H : Type} (enc : TypeId × Value → H) : ∃ places, DataW.whole enc Tryd.prog ((laidWorld os).forCall (fun _ _ => 0) ⟨#[], #[.agg #[.int .i64 0, .int .i64 0, .string ⟨#[]⟩], .agg #[.int .i64 0, .int .i64 0, .string ⟨#[]⟩]], []⟩).memory Tryd.f7.params.toList Rows.valueApartSpec.vars false (#[.agg #[.int .i64 0, .int .i64 0, .string ⟨#[]⟩], .agg #[.int .i64 0, .int .i64 0, .string ⟨#[]⟩]] : Array Value).toList 8 = some ([.agg [.lit (.int .i64 0), .lit (.int .i64 0), .lit (.string [])], .agg [.lit (.int .i64 0), .lit (.int .i64 0), .lit (.string [])]], [], places) :=
  ⟨[], by kernel_rfl⟩
set_option maxRecDepth 100000 in
theorem valueApart_lifted (os : Os) (started : os.Started) (H : Type) (enc : TypeId × Value → H) (F : Stop.Interp) :
    ReturnsInHanded {} Tryd.checked os 7 .any ((OpenSpec.ofChange Rows.valueApartSpec).preRow enc Tryd.prog Tryd.f7 Rows.valueApartRow.domain false Rows.valueApartRow.laid) (((OpenSpec.ofChange Rows.valueApartSpec).at F).post enc Tryd.prog Tryd.f7 false true false false) := by
  obtain ⟨places, hx⟩ := valueApart_reads os enc
  refine returnsInHanded_of_row (C := Tryd.checked) (s := OpenSpec.ofChange Rows.valueApartSpec) own started (by kernel_rfl) Tryd.func7
    (witness_row_at (enc := enc) (C := Tryd.checked) false (laidWorld os) #[.agg #[.int .i64 0, .int .i64 0, .string ⟨#[]⟩], .agg #[.int .i64 0, .int .i64 0, .string ⟨#[]⟩]] rfl (by kernel_rfl) (by kernel_rfl) (by kernel_rfl)
      (OpenSpec.preRow_of_cond 8 hx (by kernel_rfl) (fun k hk => by cases hk) (by kernel_rfl) (valueApart_laid_met os _))) ?_
  intro W base args ds gs before hval hW _ _ hsz _ hS _
  exact valueApart_contract H enc W base args ds gs before hval hW hS hsz
theorem valueApart_said : Rows.ValueApartSaid :=
  OpenClaim.holds_of_cond 7 Tryd.f7 rfl rfl rfl rfl rfl rfl rfl ⟨rfl, rfl, rfl, rfl, rfl⟩ rfl rfl rfl rfl rfl (by kernel_rfl) Tryd.func7 (by kernel_rfl)
    (of_decide_eq_true (by kernel_rfl)) (by unfold Func.isWrapper; first | (rw [if_pos (by decide +kernel)]; kernel_rfl) | (rw [if_neg (by decide +kernel)]; exact ⟨rfl, rfl⟩))
    (fun os started H enc _ F => by rw [OpenClaim.pre_eq_preRow]; exact valueApart_lifted os started H enc F)
theorem valueApart_plain (f : FuncId) (fn : Func) (hf : Tryd.pinned.checked.prog.funcNamed "exchequer/exchequerlaw02.ValueApart" = some f) (hfn : Tryd.pinned.checked.prog.funcs[f]? = some fn) :
    false = Tryd.pinned.checked.prog.looks [] ∧ ∀ (j : Nat) t, fn.params[j]? = some t → Tryd.pinned.checked.prog.wantsStandIn t = false := by
  obtain rfl : f = 7 := Option.some.inj ((show Tryd.prog.funcNamed "exchequer/exchequerlaw02.ValueApart" = some 7 by kernel_rfl).symm.trans hf) |>.symm
  obtain rfl : fn = Tryd.f7 := (Option.some.inj (Tryd.func7.symm.trans hfn)).symm
  refine ⟨by kernel_rfl, fun j t ht => ?_⟩
  have hall : (Tryd.f7.params.all fun t => !Tryd.prog.wantsStandIn t) = true := by kernel_rfl
  have := Array.all_eq_true_iff_forall_mem.1 hall t (Array.mem_of_getElem? ht)
  have h2 : Tryd.prog.wantsStandIn t = false := by simpa using this
  exact h2
/-- THE CARD -/
theorem valueApart_card : Rows.ValueApartCardSaid :=
  Claim7.holds_tied_plain_at .later [] _ _ _ _ valueApart_said (fun _ h => by cases h) (by kernel_rfl) (fun _ h => by cases h) valueApart_row_tie rfl ⟨rfl, rfl⟩ (by kernel_rfl) rfl valueApart_plain (by kernel_rfl)
#print axioms valueApart_card
end Go.Proofs.YtjfgakillgcdcaaDoor
