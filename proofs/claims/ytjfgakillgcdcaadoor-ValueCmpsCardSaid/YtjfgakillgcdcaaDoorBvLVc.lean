/- ValueCmps: any two values, and any two rows, stand as the document says, one way round; on the condition of the row alone: that the tables of unicode/utf8 hold what the program's text lays. -/
import Derived.Test.YtjfgakillgcdcaaDoorBv5
namespace Go.Proofs.YtjfgakillgcdcaaDoor
open Go.Ax Go.ChangeShapes Go.WideShapes Go.ChangeAt Go.RowKit Go.ChangeMaps
/-! ## exchequer/exchequerlaw02.ValueCmps -/
def lCmps_px (R : Type) : Px R := ⟨ttOf ttL, glT, callT [(32, callOr [.sv .val, .sv .val] [.int .i64] vcmp_F), (33, callOr [.sl .val false, .sl .val false] [.int .i64] vrows_F), (34, callOr [.sv .val, .sv .val] [.int .i64] rcmp_F), (35, callOr [.sl .val false, .sl .val false] [.int .i64] rrows_F), (19, callOr [] [.bool] known_F)], callQT [], loopT []⟩
def lCmps_body (x : HV [.sv .val, .sv .val, .sl .val false, .sl .val false]) : Option (HV [.bool]) := match x with
 | (a, b, x, y) =>
  let j2 := fun (p : Bool) =>
   let j1 := fun (p1 : Bool) =>
    let j := fun (p2 : Bool) =>
     cond (p2) (
      cond (decide ((vrows x x) = 0)) (
       some known) (
       some false)) (
      some false)
    cond (p1) (
     j (decide ((vrows y x) = (wr .i64 (0 - (vrows x y)))))) (
     j false)
   cond (p) (
    j1 (decide ((vrows x y) = (rrows x y)))) (
    j1 false)
  cond (decide ((vcmp a b) = (rcmp a b))) (
   j2 (decide ((vcmp b a) = (wr .i64 (0 - (vcmp a b)))))) (
   j2 false)
theorem lCmps_eq : ∀ (x : HV [.sv .val, .sv .val, .sl .val false, .sl .val false]), runF (lCmps_px _) Tryd.f9 [.sv .val, .sv .val, .sl .val false, .sl .val false] [.bool] x some = lCmps_body x
  | (a, b, x, y) => by kernel_rfl
theorem lCmps_run : FnOk Tryd.prog elT glT 9 [.sv .val, .sv .val, .sl .val false, .sl .val false] [.bool] (lCmps_body) := by
  refine fnOk_run Tryd.func9 rfl (by kernel_rfl) follows (by kernel_rfl) (n := 0) (by kernel_rfl) (px := lCmps_px _) (fun cx hP hel hgl => ?_) (lCmps_eq)
  have hp0 : PxOk cx (lCmps_px (HV [.bool])) := ⟨fun t => by rw [hP, hel]; exact tt_ok ttL_ok t, by rw [hgl]; rfl⟩
  have hc0 : CallOk cx (lCmps_px (HV [.bool])) := callT_ok rfl (cfs_cons (cf_or (by rw [hP, hel, hgl]; exact vcmp_ok) (by kernel_rfl)) (cfs_cons (cf_or (by rw [hP, hel, hgl]; exact vrows_ok) (by kernel_rfl)) (cfs_cons (cf_or (by rw [hP, hel, hgl]; exact rcmp_ok) (by kernel_rfl)) (cfs_cons (cf_or (by rw [hP, hel, hgl]; exact rrows_ok) (by kernel_rfl)) (cfs_cons (cf_or (by rw [hP, hel, hgl]; exact known_ok) (by kernel_rfl)) cfs_nil)))))
  have hq0 : CallQOk cx (lCmps_px (HV [.bool])) := callQT_ok rfl cqfs_nil
  exact ⟨hp0, hc0, hq0, all0⟩
theorem lCmps_true (a b : Val) (x y : List Val) : lCmps_body (a, b, x, y) = some true := by
  have e1 := vcmp_lin.anti a b
  have e2 := wr_opp (vcmp_lin.rng a b)
  have e3 := vrows_lin.anti x y
  have e4 := wr_opp (vrows_lin.rng x y)
  have e5 := (vrows_lin.eq x x).2 rfl
  simp only [lCmps_body, rcmp_vcmp, vrows, rrows, e1, e2, e3, e4, e5, known_true]
  simp
theorem lCmps_ok : FnOk Tryd.prog elT glT 9 [.sv .val, .sv .val, .sl .val false, .sl .val false] [.bool] (fun _ => some true) := .fin0 lCmps_run fun (a, b, x, y) r _ hx => by
  rw [← hx]
  exact lCmps_true a b x y
set_option maxRecDepth 100000 in
theorem valueCmps_contract (H : Type) (enc : TypeId × Value → H) (W : World) (base : Nat) (args : Array Value) (ds gs : List (DataW H)) (before : List MemPlace)
    (hval : ∀ (j : Nat) t v, Tryd.f9.params[j]? = some t → args[j]? = some v → Value.okWide Tryd.prog W .any base t v)
    (hW : DataW.Whole enc Tryd.prog Tryd.f9.params.toList Rows.valueCmpsSpec.vars false W args.toList ds gs before) (hS : W.ShapedOpen Tryd.prog)
    (hsz : (DataW.weightsEach Tryd.prog (Tryd.f9.params.toList ++ (OpenSpec.ofChange Rows.valueCmpsSpec).bare.plain.varTypes Tryd.prog) (ds ++ gs)).all (· ≤ reachBytes) = true) :
    Calls Tryd.prog 9 args W fun e W' => ∃ v, e = .returned v ∧ Rows.valueCmpsSpec.post enc Tryd.prog Tryd.f9 false true false false W args v W' :=
  law_frame (fn := Tryd.f9) lCmps_ok (fun _ _ _ => rfl) (by kernel_rfl) rfl (fun ds h => match ds, h with | [_, _, _, _], _ => ⟨rfl, rfl, rfl⟩) (by kernel_rfl) (by kernel_rfl) hval hW (shape_glR hS) (sizes_of hsz)
theorem valueCmps_laid_met (os : Os) (args : Array Value) : laidMet Tryd.prog Rows.valueCmpsRow.laid ((laidWorld os).forCall (fun _ _ => 0) ⟨#[], args, []⟩).memory :=
  laidMet_of_run' 8 (by kernel_rfl) (by kernel_rfl)
theorem valueCmps_reads (os : Os) {H : Type} (enc : TypeId × Value → H) : ∃ places, DataW.whole enc Tryd.prog ((laidWorld os).forCall (fun _ _ => 0) ⟨#[], #[.agg #[.int .i64 0, .int .i64 0, .string ⟨#[]⟩], .agg #[.int .i64 0, .int .i64 0, .string ⟨#[]⟩], .slice none 0 0, .slice none 0 0], []⟩).memory Tryd.f9.params.toList Rows.valueCmpsSpec.vars false (#[.agg #[.int .i64 0, .int .i64 0, .string ⟨#[]⟩], .agg #[.int .i64 0, .int .i64 0, .string ⟨#[]⟩], .slice none 0 0, .slice none 0 0] : Array Value).toList 8 = some ([.agg [.lit (.int .i64 0), .lit (.int .i64 0), .lit (.string [])], .agg [.lit (.int .i64 0), .lit (.int .i64 0), .lit (.string [])], .nil, .nil], [], places) :=
  ⟨[], by kernel_rfl⟩
set_option maxRecDepth 100000 in
theorem valueCmps_lifted (os : Os) (started : os.Started) (H : Type) (enc : TypeId × Value → H) (F : Stop.Interp) :
    ReturnsInHanded {} Tryd.checked os 9 .any ((OpenSpec.ofChange Rows.valueCmpsSpec).preRow enc Tryd.prog Tryd.f9 Rows.valueCmpsRow.domain false Rows.valueCmpsRow.laid) (((OpenSpec.ofChange Rows.valueCmpsSpec).at F).post enc Tryd.prog Tryd.f9 false true false false) := by
  obtain ⟨places, hx⟩ := valueCmps_reads os enc
  refine returnsInHanded_of_row (C := Tryd.checked) (s := OpenSpec.ofChange Rows.valueCmpsSpec) own started (by kernel_rfl) Tryd.func9
    (witness_row_at (enc := enc) (C := Tryd.checked) false (laidWorld os) #[.agg #[.int .i64 0, .int .i64 0, .string ⟨#[]⟩], .agg #[.int .i64 0, .int .i64 0, .string ⟨#[]⟩], .slice none 0 0, .slice none 0 0] rfl (by kernel_rfl) (by kernel_rfl) (by kernel_rfl)
      (OpenSpec.preRow_of_cond 8 hx (by kernel_rfl) (fun k hk => by cases hk) (by kernel_rfl) (valueCmps_laid_met os _))) ?_
  intro W base args ds gs before hval hW _ _ hsz _ hS _
  exact valueCmps_contract H enc W base args ds gs before hval hW hS hsz
theorem valueCmps_said : Rows.ValueCmpsSaid :=
  OpenClaim.holds_of_cond 9 Tryd.f9 rfl rfl rfl rfl rfl rfl rfl ⟨rfl, rfl, rfl, rfl, rfl⟩ rfl rfl rfl rfl rfl (by kernel_rfl) Tryd.func9 (by kernel_rfl)
    (of_decide_eq_true (by kernel_rfl)) (by unfold Func.isWrapper; first | (rw [if_pos (by decide +kernel)]; kernel_rfl) | (rw [if_neg (by decide +kernel)]; exact ⟨rfl, rfl⟩))
    (fun os started H enc _ F => by rw [OpenClaim.pre_eq_preRow]; exact valueCmps_lifted os started H enc F)
theorem valueCmps_plain (f : FuncId) (fn : Func) (hf : Tryd.pinned.checked.prog.funcNamed "exchequer/exchequerlaw02.ValueCmps" = some f) (hfn : Tryd.pinned.checked.prog.funcs[f]? = some fn) :
    false = Tryd.pinned.checked.prog.looks [] ∧ ∀ (j : Nat) t, fn.params[j]? = some t → Tryd.pinned.checked.prog.wantsStandIn t = false := by
  obtain rfl : f = 9 := Option.some.inj ((show Tryd.prog.funcNamed "exchequer/exchequerlaw02.ValueCmps" = some 9 by kernel_rfl).symm.trans hf) |>.symm
  obtain rfl : fn = Tryd.f9 := (Option.some.inj (Tryd.func9.symm.trans hfn)).symm
  refine ⟨by kernel_rfl, fun j t ht => ?_⟩
  have hall : (Tryd.f9.params.all fun t => !Tryd.prog.wantsStandIn t) = true := by kernel_rfl
  have := Array.all_eq_true_iff_forall_mem.1 hall t (Array.mem_of_getElem? ht)
  have h2 : Tryd.prog.wantsStandIn t = false := by simpa using this
  exact h2
/-- THE CARD -/
theorem valueCmps_card : Rows.ValueCmpsCardSaid :=
  Claim7.holds_tied_plain_at .later [] _ _ _ _ valueCmps_said (fun _ h => by cases h) (by kernel_rfl) (fun _ h => by cases h) valueCmps_row_tie rfl ⟨rfl, rfl⟩ (by kernel_rfl) rfl valueCmps_plain (by kernel_rfl)
#print axioms valueCmps_card
end Go.Proofs.YtjfgakillgcdcaaDoor
