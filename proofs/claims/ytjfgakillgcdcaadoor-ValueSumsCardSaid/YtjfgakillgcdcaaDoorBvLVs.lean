/- ValueSums: of any two numbers sum, difference and product are what the document says, or are told to have no room; on the condition of the row alone: that the tables of unicode/utf8 hold what the program's text lays. -/
import Derived.Test.YtjfgakillgcdcaaDoorBv5
namespace Go.Proofs.YtjfgakillgcdcaaDoor
open Go.Ax Go.ChangeShapes Go.WideShapes Go.ChangeAt Go.RowKit Go.ChangeMaps
/-! ## exchequer/exchequerlaw02.ValueSums -/
def lSums_px (R : Type) : Px R := ⟨ttOf ttL, glT, callT [(26, callOr [.int .i64, .int .i64] [.int .i64, .int .i64] vadd_F), (27, callOr [.int .i64, .int .i64] [.int .i64, .int .i64] rAdd_F), (28, callOr [.int .i64, .int .i64] [.int .i64, .int .i64] vsub_F), (29, callOr [.int .i64, .int .i64] [.int .i64, .int .i64] rSub_F), (30, callOr [.int .i64, .int .i64] [.int .i64, .int .i64] vmul_F), (31, callOr [.int .i64, .int .i64] [.int .i64, .int .i64] rMul_F), (19, callOr [] [.bool] known_F)], callQT [], loopT []⟩
def lSums_body (x : HV [.int .i64, .int .i64]) : Option (HV [.bool]) := match x with
 | (a, b) =>
  let j3 := fun (p : Bool) =>
   let j2 := fun (p1 : Bool) =>
    let j1 := fun (p2 : Bool) =>
     let j := fun (p3 : Bool) =>
      cond (p3) (
       cond (decide ((vmul a b).2 = (rMul a b).2)) (
        some known) (
        some false)) (
       some false)
     cond (p2) (
      j (decide ((vmul a b).1 = (rMul a b).1))) (
      j false)
    cond (p1) (
     j1 (decide ((vsub a b).2 = (rSub a b).2))) (
     j1 false)
   cond (p) (
    j2 (decide ((vsub a b).1 = (rSub a b).1))) (
    j2 false)
  cond (decide ((vadd a b).1 = (rAdd a b).1)) (
   j3 (decide ((vadd a b).2 = (rAdd a b).2))) (
   j3 false)
theorem lSums_eq : ∀ (x : HV [.int .i64, .int .i64]), runF (lSums_px _) Tryd.f5 [.int .i64, .int .i64] [.bool] x some = lSums_body x
  | (a, b) => by kernel_rfl
theorem lSums_run : FnOk Tryd.prog elT glT 5 [.int .i64, .int .i64] [.bool] (lSums_body) := by
  refine fnOk_run Tryd.func5 rfl (by kernel_rfl) follows (by kernel_rfl) (n := 0) (by kernel_rfl) (px := lSums_px _) (fun cx hP hel hgl => ?_) (lSums_eq)
  have hp0 : PxOk cx (lSums_px (HV [.bool])) := ⟨fun t => by rw [hP, hel]; exact tt_ok ttL_ok t, by rw [hgl]; rfl⟩
  have hc0 : CallOk cx (lSums_px (HV [.bool])) := callT_ok rfl (cfs_cons (cf_or (by rw [hP, hel, hgl]; exact vadd_ok) (by kernel_rfl)) (cfs_cons (cf_or (by rw [hP, hel, hgl]; exact rAdd_ok) (by kernel_rfl)) (cfs_cons (cf_or (by rw [hP, hel, hgl]; exact vsub_ok) (by kernel_rfl)) (cfs_cons (cf_or (by rw [hP, hel, hgl]; exact rSub_ok) (by kernel_rfl)) (cfs_cons (cf_or (by rw [hP, hel, hgl]; exact vmul_ok) (by kernel_rfl)) (cfs_cons (cf_or (by rw [hP, hel, hgl]; exact rMul_ok) (by kernel_rfl)) (cfs_cons (cf_or (by rw [hP, hel, hgl]; exact known_ok) (by kernel_rfl)) cfs_nil)))))))
  have hq0 : CallQOk cx (lSums_px (HV [.bool])) := callQT_ok rfl cqfs_nil
  exact ⟨hp0, hc0, hq0, all0⟩
theorem lSums_true {a b : Int} (ha : inI a) (hb : inI b) : lSums_body (a, b) = some true := by
  simp only [lSums_body, vadd_z ha hb, vsub_z ha hb, vmul_z ha hb, known_true]
  simp
theorem lSums_ok : FnOk Tryd.prog elT glT 5 [.int .i64, .int .i64] [.bool] (fun _ => some true) := .fin0 lSums_run fun (a, b) r hb hx => by
  rw [← hx]
  exact lSums_true (inK_i64 hb.1) (inK_i64 hb.2)
set_option maxRecDepth 100000 in
theorem valueSums_contract (H : Type) (enc : TypeId × Value → H) (W : World) (base : Nat) (args : Array Value) (ds gs : List (DataW H)) (before : List MemPlace)
    (hval : ∀ (j : Nat) t v, Tryd.f5.params[j]? = some t → args[j]? = some v → Value.okWide Tryd.prog W .any base t v)
    (hW : DataW.Whole enc Tryd.prog Tryd.f5.params.toList Rows.valueSumsSpec.vars false W args.toList ds gs before) (hS : W.ShapedOpen Tryd.prog)
    (hsz : (DataW.weightsEach Tryd.prog (Tryd.f5.params.toList ++ (OpenSpec.ofChange Rows.valueSumsSpec).bare.plain.varTypes Tryd.prog) (ds ++ gs)).all (· ≤ reachBytes) = true) :
    Calls Tryd.prog 5 args W fun e W' => ∃ v, e = .returned v ∧ Rows.valueSumsSpec.post enc Tryd.prog Tryd.f5 false true false false W args v W' :=
  law_frame (fn := Tryd.f5) lSums_ok (fun _ _ _ => rfl) (by kernel_rfl) rfl (fun ds h => match ds, h with | [_, _], _ => ⟨rfl, rfl, rfl⟩) (by kernel_rfl) (by kernel_rfl) hval hW (shape_glR hS) (sizes_of hsz)
theorem valueSums_laid_met (os : Os) (args : Array Value) : laidMet Tryd.prog Rows.valueSumsRow.laid ((laidWorld os).forCall (fun _ _ => 0) ⟨#[], args, []⟩).memory :=
  laidMet_of_run' 8 (by kernel_rfl) (by kernel_rfl)
theorem valueSums_reads (os : Os) {H : Type} (enc : TypeId × Value → H) : ∃ places, DataW.whole enc Tryd.prog ((laidWorld os).forCall (fun _ _ => 0) ⟨#[], #[.int .i64 0, .int .i64 0], []⟩).memory Tryd.f5.params.toList Rows.valueSumsSpec.vars false (#[.int .i64 0, .int .i64 0] : Array Value).toList 8 = some ([.lit (.int .i64 0), .lit (.int .i64 0)], [], places) :=
  ⟨[], by kernel_rfl⟩
set_option maxRecDepth 100000 in
theorem valueSums_lifted (os : Os) (started : os.Started) (H : Type) (enc : TypeId × Value → H) (F : Stop.Interp) :
    ReturnsInHanded {} Tryd.checked os 5 .any ((OpenSpec.ofChange Rows.valueSumsSpec).preRow enc Tryd.prog Tryd.f5 Rows.valueSumsRow.domain false Rows.valueSumsRow.laid) (((OpenSpec.ofChange Rows.valueSumsSpec).at F).post enc Tryd.prog Tryd.f5 false true false false) := by
  obtain ⟨places, hx⟩ := valueSums_reads os enc
  refine returnsInHanded_of_row (C := Tryd.checked) (s := OpenSpec.ofChange Rows.valueSumsSpec) own started (by kernel_rfl) Tryd.func5
    (witness_row_at (enc := enc) (C := Tryd.checked) false (laidWorld os) #[.int .i64 0, .int .i64 0] rfl (by kernel_rfl) (by kernel_rfl) (by kernel_rfl)
      (OpenSpec.preRow_of_cond 8 hx (by kernel_rfl) (fun k hk => by cases hk) (by kernel_rfl) (valueSums_laid_met os _))) ?_
  intro W base args ds gs before hval hW _ _ hsz _ hS _
  exact valueSums_contract H enc W base args ds gs before hval hW hS hsz
theorem valueSums_said : Rows.ValueSumsSaid :=
  OpenClaim.holds_of_cond 5 Tryd.f5 rfl rfl rfl rfl rfl rfl rfl ⟨rfl, rfl, rfl, rfl, rfl⟩ rfl rfl rfl rfl rfl (by kernel_rfl) Tryd.func5 (by kernel_rfl)
    (of_decide_eq_true (by kernel_rfl)) (by unfold Func.isWrapper; first | (rw [if_pos (by decide +kernel)]; kernel_rfl) | (rw [if_neg (by decide +kernel)]; exact ⟨rfl, rfl⟩))
    (fun os started H enc _ F => by rw [OpenClaim.pre_eq_preRow]; exact valueSums_lifted os started H enc F)
theorem valueSums_plain (f : FuncId) (fn : Func) (hf : Tryd.pinned.checked.prog.funcNamed "exchequer/exchequerlaw02.ValueSums" = some f) (hfn : Tryd.pinned.checked.prog.funcs[f]? = some fn) :
    false = Tryd.pinned.checked.prog.looks [] ∧ ∀ (j : Nat) t, fn.params[j]? = some t → Tryd.pinned.checked.prog.wantsStandIn t = false := by
  obtain rfl : f = 5 := Option.some.inj ((show Tryd.prog.funcNamed "exchequer/exchequerlaw02.ValueSums" = some 5 by kernel_rfl).symm.trans hf) |>.symm
  obtain rfl : fn = Tryd.f5 := (Option.some.inj (Tryd.func5.symm.trans hfn)).symm
  refine ⟨by kernel_rfl, fun j t ht => ?_⟩
  have hall : (Tryd.f5.params.all fun t => !Tryd.prog.wantsStandIn t) = true := by kernel_rfl
  have := Array.all_eq_true_iff_forall_mem.1 hall t (Array.mem_of_getElem? ht)
  have h2 : Tryd.prog.wantsStandIn t = false := by simpa using this
  exact h2
/-- THE CARD -/
theorem valueSums_card : Rows.ValueSumsCardSaid :=
  Claim7.holds_tied_plain_at .later [] _ _ _ _ valueSums_said (fun _ h => by cases h) (by kernel_rfl) (fun _ h => by cases h) valueSums_row_tie rfl ⟨rfl, rfl⟩ (by kernel_rfl) rfl valueSums_plain (by kernel_rfl)
#print axioms valueSums_card
end Go.Proofs.YtjfgakillgcdcaaDoor
