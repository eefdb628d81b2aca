/- ValueMinus: a difference is the sum with the opposite, where that has room; twice a number is it and itself; nothing times it is nothing, once it is it; on the condition of the row alone: that the tables of unicode/utf8 hold what the program's text lays. -/
import Derived.Test.YtjfgakillgcdcaaDoorBv5
namespace Go.Proofs.YtjfgakillgcdcaaDoor
open Go.Ax Go.ChangeShapes Go.WideShapes Go.ChangeAt Go.RowKit Go.ChangeMaps
/-! ## exchequer/exchequerlaw02.ValueMinus -/
def lMinus_px (R : Type) : Px R := ⟨ttOf ttL, glT, callT [(28, callOr [.int .i64, .int .i64] [.int .i64, .int .i64] vsub_F), (26, callOr [.int .i64, .int .i64] [.int .i64, .int .i64] vadd_F), (30, callOr [.int .i64, .int .i64] [.int .i64, .int .i64] vmul_F), (19, callOr [] [.bool] known_F)], callQT [], loopT []⟩
def lMinus_body (x : HV [.int .i64, .int .i64]) : Option (HV [.bool]) := match x with
 | (a, b) =>
  let j5 := fun (_ : Unit) =>
   let j4 := fun (p2 : Bool) =>
    let j3 := fun (p3 : Bool) =>
     let j2 := fun (p4 : Bool) =>
      let j1 := fun (p5 : Bool) =>
       let j := fun (p6 : Bool) =>
        cond (p6) (
         cond (decide ((decide ((vsub 0 b).2 = 0)) = (!decide (b = (-9223372036854775808))))) (
          some known) (
          some false)) (
         some false)
       cond (p5) (
        j (decide ((vmul 1 a).2 = 0))) (
        j false)
      cond (p4) (
       j1 (decide ((vmul 1 a).1 = a))) (
       j1 false)
     cond (p3) (
      j2 (decide ((vmul a 0).2 = 0))) (
      j2 false)
    cond (p2) (
     j3 (decide ((vmul a 0).1 = 0))) (
     j3 false)
   cond (decide ((vadd a a).1 = (vmul 2 a).1)) (
    j4 (decide ((vadd a a).2 = (vmul 2 a).2))) (
    j4 false)
  cond (decide ((vsub 0 b).2 = 0)) (
   cond (!decide ((vadd a ((vsub 0 b).1)).1 = (vsub a b).1)) (
    some false) (
    cond (!decide ((vadd a ((vsub 0 b).1)).2 = (vsub a b).2)) (
     some false) (
     j5 ()))) (
   j5 ())
theorem lMinus_eq : ∀ (x : HV [.int .i64, .int .i64]), runF (lMinus_px _) Tryd.f8 [.int .i64, .int .i64] [.bool] x some = lMinus_body x
  | (a, b) => by kernel_rfl
theorem lMinus_run : FnOk Tryd.prog elT glT 8 [.int .i64, .int .i64] [.bool] (lMinus_body) := by
  refine fnOk_run Tryd.func8 rfl (by kernel_rfl) follows (by kernel_rfl) (n := 0) (by kernel_rfl) (px := lMinus_px _) (fun cx hP hel hgl => ?_) (lMinus_eq)
  have hp0 : PxOk cx (lMinus_px (HV [.bool])) := ⟨fun t => by rw [hP, hel]; exact tt_ok ttL_ok t, by rw [hgl]; rfl⟩
  have hc0 : CallOk cx (lMinus_px (HV [.bool])) := callT_ok rfl (cfs_cons (cf_or (by rw [hP, hel, hgl]; exact vsub_ok) (by kernel_rfl)) (cfs_cons (cf_or (by rw [hP, hel, hgl]; exact vadd_ok) (by kernel_rfl)) (cfs_cons (cf_or (by rw [hP, hel, hgl]; exact vmul_ok) (by kernel_rfl)) (cfs_cons (cf_or (by rw [hP, hel, hgl]; exact known_ok) (by kernel_rfl)) cfs_nil))))
  have hq0 : CallQOk cx (lMinus_px (HV [.bool])) := callQT_ok rfl cqfs_nil
  exact ⟨hp0, hc0, hq0, all0⟩
theorem fitM_in {z : Int} (h : inI z) : fitZ z = (z, 0) := by
  simp only [inI] at h
  simp only [fitZ]
  rw [if_pos h]
theorem lMinus_true {a b : Int} (ha : inI a) (hb : inI b) : lMinus_body (a, b) = some true := by
  have i0 : inI 0 := by simp only [inI]; omega
  have i1 : inI 1 := by simp only [inI]; omega
  have i2 : inI 2 := by simp only [inI]; omega
  have e1 : vadd a a = fitZ (2 * a) := by rw [vadd_z ha ha, Int.two_mul]
  have e2 := vmul_z i2 ha
  have e3 : vmul a 0 = (0, 0) := by rw [vmul_z ha i0, Int.mul_zero, fitM_in i0]
  have e4 : vmul 1 a = (a, 0) := by rw [vmul_z i1 ha, Int.one_mul, fitM_in ha]
  have e5 := vsub_z i0 hb
  have e6 := vsub_z ha hb
  rw [Int.zero_sub] at e5
  simp only [lMinus_body, e1, e2, e3, e4, e5, e6, known_true]
  by_cases h : b = -9223372036854775808
  · subst h
    have q : fitZ 9223372036854775808 = (0, 20) := by decide
    simp [q]
  · have hn : inI (-b) := by simp only [inI] at *; omega
    have q := fitM_in hn
    have e7 : vadd a (-b) = fitZ (a - b) := by rw [vadd_z ha hn, Int.sub_eq_add_neg]
    simp [q, e7, h]
theorem lMinus_ok : FnOk Tryd.prog elT glT 8 [.int .i64, .int .i64] [.bool] (fun _ => some true) := .fin0 lMinus_run fun (a, b) r hb hx => by
  rw [← hx]
  exact lMinus_true (inK_i64 hb.1) (inK_i64 hb.2)
set_option maxRecDepth 100000 in
theorem valueMinus_contract (H : Type) (enc : TypeId × Value → H) (W : World) (base : Nat) (args : Array Value) (ds gs : List (DataW H)) (before : List MemPlace)
    (hval : ∀ (j : Nat) t v, Tryd.f8.params[j]? = some t → args[j]? = some v → Value.okWide Tryd.prog W .any base t v)
    (hW : DataW.Whole enc Tryd.prog Tryd.f8.params.toList Rows.valueMinusSpec.vars false W args.toList ds gs before) (hS : W.ShapedOpen Tryd.prog)
    (hsz : (DataW.weightsEach Tryd.prog (Tryd.f8.params.toList ++ (OpenSpec.ofChange Rows.valueMinusSpec).bare.plain.varTypes Tryd.prog) (ds ++ gs)).all (· ≤ reachBytes) = true) :
    Calls Tryd.prog 8 args W fun e W' => ∃ v, e = .returned v ∧ Rows.valueMinusSpec.post enc Tryd.prog Tryd.f8 false true false false W args v W' :=
  law_frame (fn := Tryd.f8) lMinus_ok (fun _ _ _ => rfl) (by kernel_rfl) rfl (fun ds h => match ds, h with | [_, _], _ => ⟨rfl, rfl, rfl⟩) (by kernel_rfl) (by kernel_rfl) hval hW (shape_glR hS) (sizes_of hsz)
theorem valueMinus_laid_met (os : Os) (args : Array Value) : laidMet Tryd.prog Rows.valueMinusRow.laid ((laidWorld os).forCall (fun _ _ => 0) ⟨#[], args, []⟩).memory :=
  laidMet_of_run' 8 (by kernel_rfl) (by kernel_rfl)
theorem valueMinus_reads (os : Os) {H : Type} (enc : TypeId × Value → H) : ∃ places, DataW.whole enc Tryd.prog ((laidWorld os).forCall (fun _ _ => 0) ⟨#[], #[.int .i64 0, .int .i64 0], []⟩).memory Tryd.f8.params.toList Rows.valueMinusSpec.vars false (#[.int .i64 0, .int .i64 0] : Array Value).toList 8 = some ([.lit (.int .i64 0), .lit (.int .i64 0)], [], places) :=
  ⟨[], by kernel_rfl⟩
set_option maxRecDepth 100000 in
theorem valueMinus_lifted (os : Os) (started : os.Started) (H : Type) (enc : TypeId × Value → H) (F : Stop.Interp) :
    ReturnsInHanded {} Tryd.checked os 8 .any ((OpenSpec.ofChange Rows.valueMinusSpec).preRow enc Tryd.prog Tryd.f8 Rows.valueMinusRow.domain false Rows.valueMinusRow.laid) (((OpenSpec.ofChange Rows.valueMinusSpec).at F).post enc Tryd.prog Tryd.f8 false true false false) := by
  obtain ⟨places, hx⟩ := valueMinus_reads os enc
  refine returnsInHanded_of_row (C := Tryd.checked) (s := OpenSpec.ofChange Rows.valueMinusSpec) own started (by kernel_rfl) Tryd.func8
    (witness_row_at (enc := enc) (C := Tryd.checked) false (laidWorld os) #[.int .i64 0, .int .i64 0] rfl (by kernel_rfl) (by kernel_rfl) (by kernel_rfl)
      (OpenSpec.preRow_of_cond 8 hx (by kernel_rfl) (fun k hk => by cases hk) (by kernel_rfl) (valueMinus_laid_met os _))) ?_
  intro W base args ds gs before hval hW _ _ hsz _ hS _
  exact valueMinus_contract H enc W base args ds gs before hval hW hS hsz
theorem valueMinus_said : Rows.ValueMinusSaid :=
  OpenClaim.holds_of_cond 8 Tryd.f8 rfl rfl rfl rfl rfl rfl rfl ⟨rfl, rfl, rfl, rfl, rfl⟩ rfl rfl rfl rfl rfl (by kernel_rfl) Tryd.func8 (by kernel_rfl)
    (of_decide_eq_true (by kernel_rfl)) (by unfold Func.isWrapper; first | (rw [if_pos (by decide +kernel)]; kernel_rfl) | (rw [if_neg (by decide +kernel)]; exact ⟨rfl, rfl⟩))
    (fun os started H enc _ F => by rw [OpenClaim.pre_eq_preRow]; exact valueMinus_lifted os started H enc F)
theorem valueMinus_plain (f : FuncId) (fn : Func) (hf : Tryd.pinned.checked.prog.funcNamed "exchequer/exchequerlaw02.ValueMinus" = some f) (hfn : Tryd.pinned.checked.prog.funcs[f]? = some fn) :
    false = Tryd.pinned.checked.prog.looks [] ∧ ∀ (j : Nat) t, fn.params[j]? = some t → Tryd.pinned.checked.prog.wantsStandIn t = false := by
  obtain rfl : f = 8 := Option.some.inj ((show Tryd.prog.funcNamed "exchequer/exchequerlaw02.ValueMinus" = some 8 by kernel_rfl).symm.trans hf) |>.symm
  obtain rfl : fn = Tryd.f8 := (Option.some.inj (Tryd.func8.symm.trans hfn)).symm
  refine ⟨by kernel_rfl, fun j t ht => ?_⟩
  have hall : (Tryd.f8.params.all fun t => !Tryd.prog.wantsStandIn t) = true := by kernel_rfl
  have := Array.all_eq_true_iff_forall_mem.1 hall t (Array.mem_of_getElem? ht)
  have h2 : Tryd.prog.wantsStandIn t = false := by simpa using this
  exact h2
/-- THE CARD -/
theorem valueMinus_card : Rows.ValueMinusCardSaid :=
  Claim7.holds_tied_plain_at .later [] _ _ _ _ valueMinus_said (fun _ h => by cases h) (by kernel_rfl) (fun _ h => by cases h) valueMinus_row_tie rfl ⟨rfl, rfl⟩ (by kernel_rfl) rfl valueMinus_plain (by kernel_rfl)
#print axioms valueMinus_card
end Go.Proofs.YtjfgakillgcdcaaDoor
