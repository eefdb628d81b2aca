/- ValueOrder: of three rows, if one is no greater than the next, and that than the third, it is no greater than the third; a row with a value more is greater; where the arguments are of bulk at most 1048576; on the condition of the row alone: that the tables of unicode/utf8 hold what the program's text lays. -/
import Derived.Test.YtjfgakillgcdcaaDoorBx5
namespace Go.Proofs.YtjfgakillgcdcaaDoor
open Go.Ax Go.ChangeShapes Go.WideShapes Go.ChangeAt Go.RowKit Go.ChangeMaps
/-! ## exchequer/exchequerlaw02.ValueOrder -/
def lOrder_px (R : Type) : Px R := ⟨ttOf ttL, glT, callT [(33, callOr [.sl .val false, .sl .val false] [.int .i64] vrows_F), (19, callOr [] [.bool] known_F)], callQT [], loopT []⟩
def lOrder_body (x : HV [.sl .val false, .sl .val false, .sl .val false, .sv .val]) : Option (HV [.bool]) := match x with
 | (a, b, c, v) =>
  let j1 := fun (_ : Unit) =>
   chk (decide (0 + a.length ≤ maxApp)) (
    chk (decide (([] ++ a).length + 1 ≤ maxApp)) (
     cond (decide ((vrows a (([] ++ a) ++ [v])) = (-1))) (
      cond (decide ((vrows [v] [v]) = 0)) (
       some known) (
       some false)) (
      some false)))
  let j := fun (p : Bool) =>
   cond (p) (
    cond (decide (0 < (vrows a c))) (
     some false) (
     cond (decide ((vrows a b) < 0)) (
      cond (decide ((vrows a c) = 0)) (
       some false) (
       j1 ())) (
      cond (decide ((vrows b c) < 0)) (
       cond (decide ((vrows a c) = 0)) (
        some false) (
        j1 ())) (
       j1 ())))) (
    j1 ())
  cond (decide ((vrows a b) ≤ 0)) (
   j (decide ((vrows b c) ≤ 0))) (
   j false)
theorem lOrder_eq : ∀ (x : HV [.sl .val false, .sl .val false, .sl .val false, .sv .val]), runF (lOrder_px _) Tryd.f10 [.sl .val false, .sl .val false, .sl .val false, .sv .val] [.bool] x some = lOrder_body x
  | (a, b, c, v) => by kernel_rfl
theorem lOrder_run : FnOk Tryd.prog elT glT 10 [.sl .val false, .sl .val false, .sl .val false, .sv .val] [.bool] (lOrder_body) := by
  refine fnOk_run Tryd.func10 rfl (by kernel_rfl) follows (by kernel_rfl) (n := 0) (by kernel_rfl) (px := lOrder_px _) (fun cx hP hel hgl => ?_) (lOrder_eq)
  have hp0 : PxOk cx (lOrder_px (HV [.bool])) := ⟨fun t => by rw [hP, hel]; exact tt_ok ttL_ok t, by rw [hgl]; rfl⟩
  have hc0 : CallOk cx (lOrder_px (HV [.bool])) := callT_ok rfl (cfs_cons (cf_or (by rw [hP, hel, hgl]; exact vrows_ok) (by kernel_rfl)) (cfs_cons (cf_or (by rw [hP, hel, hgl]; exact known_ok) (by kernel_rfl)) cfs_nil))
  have hq0 : CallQOk cx (lOrder_px (HV [.bool])) := callQT_ok rfl cqfs_nil
  exact ⟨hp0, hc0, hq0, all0⟩
theorem lexL_more {α : Type} {c : α → α → Int} (hc : LinC c) (v : α) : ∀ a : List α, lexL c a (a ++ [v]) = -1
  | [] => rfl
  | x :: a => by
    have h0 := (hc.eq x x).2 rfl
    simp only [List.cons_append, lexL, h0, then2, if_true]
    exact lexL_more hc v a
theorem lOrder_true (a b c : List Val) (v : Val) (h : a.length ≤ 1048576) : lOrder_body (a, b, c, v) = some true := by
  have hm := lexL_more vcmp_lin v a
  have ht := vrows_lin.tr a b c
  have hvv := (vrows_lin.eq [v] [v]).2 rfl
  have hz : vrows a c = 0 → vrows b c = -(vrows a b) := fun e => by
    rw [← (vrows_lin.eq a c).1 e]
    exact vrows_lin.anti a b
  have c1 : decide (0 + a.length ≤ maxApp) = true := decide_eq_true (by simp only [maxApp]; omega)
  have c2 : decide (([] ++ a).length + 1 ≤ maxApp) = true := decide_eq_true (by simp only [maxApp, List.nil_append]; omega)
  have e1 : ([] ++ a ++ [v] : List Val) = a ++ [v] := rfl
  have d1 : vrows a (a ++ [v]) = -1 := hm
  have d2 : vrows [v] [v] = 0 := hvv
  have ht' : vrows a b ≤ 0 → vrows b c ≤ 0 → vrows a c ≤ 0 := ht
  simp only [lOrder_body, c1, c2, e1, d1, d2, known_true, chk, decide_true, cond_true]
  generalize vrows a b = x at *
  generalize vrows b c = y at *
  generalize vrows a c = z at *
  by_cases h1 : x ≤ 0
  · by_cases h2 : y ≤ 0
    · have h3 := ht' h1 h2
      have h4 : ¬ 0 < z := by omega
      by_cases h5 : z = 0
      · have := hz h5
        have h6 : ¬ x < 0 := by omega
        have h7 : ¬ y < 0 := by omega
        simp [h1, h2, h4, h6, h7]
      · simp [h1, h2, h4, h5]
    · simp [h1, h2]
  · simp [h1]
theorem lOrder_ok : FnOk Tryd.prog elT glT 10 [.sl .val false, .sl .val false, .sl .val false, .sv .val] [.bool] lOrder_body := .fin0 lOrder_run fun _ _ _ hx => hx
set_option maxRecDepth 100000 in
theorem valueOrderUpto_contract (H : Type) (enc : TypeId × Value → H) (W : World) (base : Nat) (args : Array Value) (ds gs : List (DataW H)) (before : List MemPlace)
    (hval : ∀ (j : Nat) t v, Tryd.f10.params[j]? = some t → args[j]? = some v → Value.okWide Tryd.prog W .any base t v)
    (hW : DataW.Whole enc Tryd.prog Tryd.f10.params.toList Rows.valueOrderSpec.vars false W args.toList ds gs before) (hS : W.ShapedOpen Tryd.prog)
    (hsz : Rows.uptoSmall H (ds ++ gs) = true) :
    Calls Tryd.prog 10 args W fun e W' => ∃ v, e = .returned v ∧ Rows.valueOrderSpec.post enc Tryd.prog Tryd.f10 false true false false W args v W' :=
  law_frame (msr_bulk _ 1048576) (fn := Tryd.f10) lOrder_ok (fun (a, b, c, v) _ hs => lOrder_true a b c v hs.1.1) (by kernel_rfl) rfl (fun ds h => match ds, h with | [_, _, _, _], _ => ⟨rfl, rfl, rfl⟩) (by kernel_rfl) (by kernel_rfl) hval hW (shape_glR hS) (fun _ i t d _ hd => up_args hsz (by rw [List.getElem?_append_left (List.getElem?_eq_some_iff.1 hd).1]; exact hd))
theorem valueOrderUpto_laid_met (os : Os) (args : Array Value) : laidMet Tryd.prog Rows.valueOrderUptoRow.laid ((laidWorld os).forCall (fun _ _ => 0) ⟨#[], args, []⟩).memory :=
  laidMet_of_run' 8 (by kernel_rfl) (by kernel_rfl)
theorem valueOrderUpto_reads (os : Os) {H : Type} (enc : TypeId × Value → H) : ∃ places, DataW.whole enc Tryd.prog ((laidWorld os).forCall (fun _ _ => 0) ⟨#[], #[.slice none 0 0, .slice none 0 0, .slice none 0 0, .agg #[.int .i64 0, .int .i64 0, .string ⟨#[]⟩]], []⟩).memory Tryd.f10.params.toList Rows.valueOrderSpec.vars false (#[.slice none 0 0, .slice none 0 0, .slice none 0 0, .agg #[.int .i64 0, .int .i64 0, .string ⟨#[]⟩]] : Array Value).toList 8 = some ([.nil, .nil, .nil, .agg [.lit (.int .i64 0), .lit (.int .i64 0), .lit (.string [])]], [], places) :=
  ⟨[], by kernel_rfl⟩
set_option maxRecDepth 100000 in
theorem valueOrderUpto_lifted (os : Os) (started : os.Started) (H : Type) (enc : TypeId × Value → H) (F : Stop.Interp) :
    ReturnsInHanded {} Tryd.checked os 10 .any ((Rows.OpenSpec.upto Rows.valueOrderSpec).preRow enc Tryd.prog Tryd.f10 Rows.valueOrderUptoRow.domain false Rows.valueOrderUptoRow.laid) (((Rows.OpenSpec.upto Rows.valueOrderSpec).at F).post enc Tryd.prog Tryd.f10 false true false false) := by
  obtain ⟨places, hx⟩ := valueOrderUpto_reads os enc
  refine returnsInHanded_of_row (C := Tryd.checked) (s := Rows.OpenSpec.upto Rows.valueOrderSpec) own started (by kernel_rfl) Tryd.func10
    (witness_row_at (enc := enc) (C := Tryd.checked) false (laidWorld os) #[.slice none 0 0, .slice none 0 0, .slice none 0 0, .agg #[.int .i64 0, .int .i64 0, .string ⟨#[]⟩]] rfl (by kernel_rfl) (by kernel_rfl) (by kernel_rfl)
      (OpenSpec.preRow_of_cond 8 hx (by kernel_rfl) (fun k hk => by cases hk; kernel_rfl) (by kernel_rfl) (valueOrderUpto_laid_met os _))) ?_
  intro W base args ds gs before hval hW _ hc _ _ hS _
  exact valueOrderUpto_contract H enc W base args ds gs before hval hW hS (hc _ rfl)
theorem valueOrderUpto_said : Rows.ValueOrderUptoSaid :=
  OpenClaim.holds_of_cond 10 Tryd.f10 rfl rfl rfl rfl rfl rfl rfl ⟨rfl, rfl, rfl, rfl, rfl⟩ rfl rfl rfl rfl rfl (by kernel_rfl) Tryd.func10 (by kernel_rfl)
    (of_decide_eq_true (by kernel_rfl)) (by unfold Func.isWrapper; first | (rw [if_pos (by decide +kernel)]; kernel_rfl) | (rw [if_neg (by decide +kernel)]; exact ⟨rfl, rfl⟩))
    (fun os started H enc _ F => by rw [OpenClaim.pre_eq_preRow]; exact valueOrderUpto_lifted os started H enc F)
theorem valueOrderUpto_plain (f : FuncId) (fn : Func) (hf : Tryd.pinned.checked.prog.funcNamed "exchequer/exchequerlaw02.ValueOrder" = some f) (hfn : Tryd.pinned.checked.prog.funcs[f]? = some fn) :
    false = Tryd.pinned.checked.prog.looks [] ∧ ∀ (j : Nat) t, fn.params[j]? = some t → Tryd.pinned.checked.prog.wantsStandIn t = false := by
  obtain rfl : f = 10 := Option.some.inj ((show Tryd.prog.funcNamed "exchequer/exchequerlaw02.ValueOrder" = some 10 by kernel_rfl).symm.trans hf) |>.symm
  obtain rfl : fn = Tryd.f10 := (Option.some.inj (Tryd.func10.symm.trans hfn)).symm
  refine ⟨by kernel_rfl, fun j t ht => ?_⟩
  have hall : (Tryd.f10.params.all fun t => !Tryd.prog.wantsStandIn t) = true := by kernel_rfl
  have := Array.all_eq_true_iff_forall_mem.1 hall t (Array.mem_of_getElem? ht)
  have h2 : Tryd.prog.wantsStandIn t = false := by simpa using this
  exact h2
/-- THE CARD -/
theorem valueOrderUpto_card : Rows.ValueOrderUptoCardSaid :=
  Claim7.holds_tied_plain_at .later [] _ _ _ _ valueOrderUpto_said (fun _ h => by cases h) (by kernel_rfl) (fun _ h => by cases h) valueOrderUpto_row_tie rfl ⟨rfl, rfl⟩ (by kernel_rfl) rfl valueOrderUpto_plain (by kernel_rfl)
#print axioms valueOrderUpto_card
end Go.Proofs.YtjfgakillgcdcaaDoor
