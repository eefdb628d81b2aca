/- ReckonKinds: for every expression, columns and row the law answers true: what has a kind has, of each row that fits, a value of that kind, or NULL, or no room; what has none has no value; on the condition of the row alone: that ast.signs holds what the program's text lays. -/
import Derived.Test.YtlhebakbbfmiiaaDoorFf
import Derived.Test.YtlhebakbbfmiiaaDoorFrE
namespace Go.Proofs.YtlhebakbbfmiiaaDoor
open Go.Ax Go.ChangeShapes Go.WideShapes Go.ChangeAt Go.RowKit Go.ChangeMaps
/-! ## exchequer/exchequerlaw15.ReckonKinds -/
def lKinds_px (R : Type) : Px R := ⟨ttOf ttL, glT, callT [(9, callOr [.sv .expr, .sl .col false, .sl .val false] [.bool] much_F), (17, callOr [.sl .col false, .sl .val false] [.bool] rowfits_F), (10, callOr [] [.bool] known_F), (11, callOr [.sv .expr, .sl .col false] [.int .i64, .int .i64] kindX_F), (13, callOr [.sv .expr, .sl .col false, .sl .val false] [.sv .val, .int .i64] evalX_F), (19, callOr [.sv .val, .int .i64] [.bool] rfits2_F)], callQT [], loopT []⟩
def lKinds_body (x : HV [.sv .expr, .sl .col false, .sl .val false]) : Option (HV [.bool]) := match x with
 | (e, cols, row) =>
  cond ((much e cols row)) (
   some known) (
   cond (!(rowfits cols row)) (
    some known) (
    cond (!decide ((kindX e cols).2 = 0)) (
     let j := fun (p2 : Bool) =>
      cond (p2) (
       cond (decide ((kindX e cols).1 = 0)) (
        some known) (
        some false)) (
       some false)
     cond (decide ((evalX e cols row).2 = (kindX e cols).2)) (
      j (decide (((evalX e cols row).1).kind = 0))) (
      j false)) (
     cond (!decide ((evalX e cols row).2 = 0)) (
      cond (decide ((evalX e cols row).2 = 20)) (
       cond (decide (((evalX e cols row).1).kind = 0)) (
        some known) (
        some false)) (
       some false)) (
      let j1 := fun (p11 : Bool) =>
       cond (p11) (
        cond ((rfits2 ((evalX e cols row).1) ((kindX e cols).1))) (
         some known) (
         some false)) (
        some false)
      cond (decide (((evalX e cols row).1).kind = 1)) (
       j1 true) (
       j1 (decide (((evalX e cols row).1).kind = (kindX e cols).1)))))))
theorem lKinds_eq : ∀ (x : HV [.sv .expr, .sl .col false, .sl .val false]), runF (lKinds_px _) Tryd.f4 [.sv .expr, .sl .col false, .sl .val false] [.bool] x some = lKinds_body x
  | (e, cols, row) => by kernel_rfl
theorem lKinds_run : FnOk Tryd.prog elT glT 4 [.sv .expr, .sl .col false, .sl .val false] [.bool] (lKinds_body) := by
  refine fnOk_run Tryd.func4 rfl (by kernel_rfl) follows (by kernel_rfl) (n := 0) (by kernel_rfl) (px := lKinds_px _) (fun cx hP hel hgl => ?_) (lKinds_eq)
  have hp0 : PxOk cx (lKinds_px (HV [.bool])) := ⟨fun t => by rw [hP, hel]; exact tt_ok ttL_ok t, by rw [hgl]; rfl⟩
  have hc0 : CallOk cx (lKinds_px (HV [.bool])) := callT_ok rfl (cfs_cons (cf_or (by rw [hP, hel, hgl]; exact much_ok) (by kernel_rfl)) (cfs_cons (cf_or (by rw [hP, hel, hgl]; exact rowfits_ok) (by kernel_rfl)) (cfs_cons (cf_or (by rw [hP, hel, hgl]; exact known_ok) (by kernel_rfl)) (cfs_cons (cf_or (by rw [hP, hel, hgl]; exact kindX_ok) (by kernel_rfl)) (cfs_cons (cf_or (by rw [hP, hel, hgl]; exact evalX_ok) (by kernel_rfl)) (cfs_cons (cf_or (by rw [hP, hel, hgl]; exact rfits2_ok) (by kernel_rfl)) cfs_nil))))))
  have hq0 : CallQOk cx (lKinds_px (HV [.bool])) := callQT_ok rfl cqfs_nil
  exact ⟨hp0, hc0, hq0, all0⟩
def lKinds (e : Xpr) (cols : List Col) (row : List Val) : Bool :=
  cond ((much e cols row)) (
   known) (
   cond (!(rowfits cols row)) (
    known) (
    cond (!decide ((kindX e cols).2 = 0)) (
     let j := fun (p2 : Bool) =>
      cond (p2) (
       cond (decide ((kindX e cols).1 = 0)) (
        known) (
        false)) (
       false)
     cond (decide ((evalX e cols row).2 = (kindX e cols).2)) (
      j (decide (((evalX e cols row).1).kind = 0))) (
      j false)) (
     cond (!decide ((evalX e cols row).2 = 0)) (
      cond (decide ((evalX e cols row).2 = 20)) (
       cond (decide (((evalX e cols row).1).kind = 0)) (
        known) (
        false)) (
       false)) (
      let j1 := fun (p11 : Bool) =>
       cond (p11) (
        cond ((rfits2 ((evalX e cols row).1) ((kindX e cols).1))) (
         known) (
         false)) (
        false)
      cond (decide (((evalX e cols row).1).kind = 1)) (
       j1 true) (
       j1 (decide (((evalX e cols row).1).kind = (kindX e cols).1)))))))
theorem lKinds_tot (x : HV [.sv .expr, .sl .col false, .sl .val false]) : lKinds_body x = some (lKinds x.1 x.2.1 x.2.2) := by
  first
    | exact rfl
    | simp only [lKinds_body, lKinds, cond_some]
def lKinds_F : FT [.sv .expr, .sl .col false, .sl .val false] [.bool] := fun x => some (lKinds x.1 x.2.1 x.2.2)
theorem lKinds_ok : FnOk Tryd.prog elT glT 4 [.sv .expr, .sl .col false, .sl .val false] [.bool] lKinds_F := .fin0 lKinds_run fun x _ _ hx => (lKinds_tot x).trans hx
theorem lKinds_true (e : Xpr) (cols : List Col) (row : List Val) : lKinds e cols row = true := by
  simp only [lKinds, known_true, rfits2_v]
  cases hm : much e cols row
  · simp only [cond_f]
    have hk : kindX e cols = if aexpr e = 0 then kindE e cols else (0, aexpr e) := by
      simp only [kindX]
      by_cases h : aexpr e = 0 <;> simp [h]
    rcases evalX_spec e cols row with ⟨h, h2⟩ | ⟨h1, h2, h3, h4⟩ | ⟨h1, h2, h3, h4, h5⟩
    · cases hf : rowfits cols row
      · rfl
      · have ha : aexpr e ≠ 0 := h.resolve_right (by rw [hf]; simp)
        have ha3 : aexpr e = 0 ∨ aexpr e = 2 := by
          simp only [aexpr]
          cases eright e 30 <;> simp
        have ha2 := ha3.resolve_left ha
        rw [hk, if_neg ha, h2, ha2]
        rfl
    · have hke : (kindE e cols).1 = 0 := kindE_err h3
      rw [hk, if_pos h1, h4, h2, hke]
      simp [h3]
    · rw [hk, if_pos h1, h2]
      rcases h5 with ⟨h6, h7, h8⟩ | ⟨h6, h7⟩
      · have hv : vfits (evalX e cols row).1 (kindE e cols).1 = true := vfits_iff.2 ⟨h7, h8⟩
        rw [h3, h6, hv]
        rcases h8 with h8 | h8
        · simp [h8]
        · simp [h8]
      · rw [h3, h6, h7]
        simp
  · rfl
set_option maxRecDepth 100000 in
theorem reckonKinds_contract (H : Type) (enc : TypeId × Value → H) (W : World) (base : Nat) (args : Array Value) (ds gs : List (DataW H)) (before : List MemPlace)
    (hval : ∀ (j : Nat) t v, Tryd.f4.params[j]? = some t → args[j]? = some v → Value.okWide Tryd.prog W .any base t v)
    (hW : DataW.Whole enc Tryd.prog Tryd.f4.params.toList Rows.reckonKindsSpec.vars false W args.toList ds gs before) (hL : laidMetH Tryd.prog Rows.reckonKindsRow.laid W) :
    Calls Tryd.prog 4 args W fun e W' => ∃ v, e = .returned v ∧ Rows.reckonKindsSpec.post enc Tryd.prog Tryd.f4 false true false false W args v W' :=
  law_frame (fn := Tryd.f4) lKinds_ok (fun x _ => congrArg some (lKinds_true x.1 x.2.1 x.2.2)) (by kernel_rfl) rfl (fun ds h => match ds, h with | [_, _, _], _ => ⟨rfl, rfl, rfl⟩) (by kernel_rfl) (by kernel_rfl) hval hW (laid_glR hL)
theorem reckonKinds_laid_met (os : Os) (args : Array Value) : laidMet Tryd.prog Rows.reckonKindsRow.laid ((laidWorld os).forCall (fun _ _ => 0) ⟨#[], args, []⟩).memory :=
  laidMet_of_run' 8 (by kernel_rfl) (by kernel_rfl)
theorem reckonKinds_reads (os : Os) {H : Type} (enc : TypeId × Value → H) : ∃ places, DataW.whole enc Tryd.prog ((laidWorld os).forCall (fun _ _ => 0) ⟨#[], #[.agg #[.int .i64 0, .int .i64 0, .int .i64 0, .string ⟨#[]⟩, .string ⟨#[]⟩, .slice none 0 0], .slice none 0 0, .slice none 0 0], []⟩).memory Tryd.f4.params.toList Rows.reckonKindsSpec.vars false (#[.agg #[.int .i64 0, .int .i64 0, .int .i64 0, .string ⟨#[]⟩, .string ⟨#[]⟩, .slice none 0 0], .slice none 0 0, .slice none 0 0] : Array Value).toList 8 = some ([.agg [.lit (.int .i64 0), .agg [.lit (.int .i64 0), .lit (.int .i64 0), .lit (.string [])], .lit (.string []), .nil], .nil, .nil], [], places) :=
  ⟨[], by kernel_rfl⟩
set_option maxRecDepth 100000 in
theorem reckonKinds_lifted (os : Os) (started : os.Started) (H : Type) (enc : TypeId × Value → H) (F : Stop.Interp) :
    ReturnsInHanded {} Tryd.checked os 4 .any ((OpenSpec.ofChange Rows.reckonKindsSpec).preRow enc Tryd.prog Tryd.f4 Rows.reckonKindsRow.domain false Rows.reckonKindsRow.laid) (((OpenSpec.ofChange Rows.reckonKindsSpec).at F).post enc Tryd.prog Tryd.f4 false true false false) := by
  obtain ⟨places, hx⟩ := reckonKinds_reads os enc
  refine returnsInHanded_of_row (C := Tryd.checked) (s := OpenSpec.ofChange Rows.reckonKindsSpec) own started (by kernel_rfl) Tryd.func4
    (witness_row_at (enc := enc) (C := Tryd.checked) false (laidWorld os) #[.agg #[.int .i64 0, .int .i64 0, .int .i64 0, .string ⟨#[]⟩, .string ⟨#[]⟩, .slice none 0 0], .slice none 0 0, .slice none 0 0] rfl (by kernel_rfl) (by kernel_rfl) (by kernel_rfl)
      (OpenSpec.preRow_of_cond 8 hx (by kernel_rfl) (fun k hk => by cases hk) (by kernel_rfl) (reckonKinds_laid_met os _))) ?_
  intro W base args ds gs before hval hW _ _ _ hL _ _
  exact reckonKinds_contract H enc W base args ds gs before hval hW hL
theorem reckonKinds_said : Rows.ReckonKindsSaid :=
  OpenClaim.holds_of_cond 4 Tryd.f4 rfl rfl rfl rfl rfl rfl rfl ⟨rfl, rfl, rfl, rfl, rfl⟩ rfl rfl rfl rfl rfl (by kernel_rfl) Tryd.func4 (by kernel_rfl)
    (of_decide_eq_true (by kernel_rfl)) (by unfold Func.isWrapper; first | (rw [if_pos (by decide +kernel)]; kernel_rfl) | (rw [if_neg (by decide +kernel)]; exact ⟨rfl, rfl⟩))
    (fun os started H enc _ F => by rw [OpenClaim.pre_eq_preRow]; exact reckonKinds_lifted os started H enc F)
theorem reckonKinds_plain (f : FuncId) (fn : Func) (hf : Tryd.pinned.checked.prog.funcNamed "exchequer/exchequerlaw15.ReckonKinds" = some f) (hfn : Tryd.pinned.checked.prog.funcs[f]? = some fn) :
    false = Tryd.pinned.checked.prog.looks [] ∧ ∀ (j : Nat) t, fn.params[j]? = some t → Tryd.pinned.checked.prog.wantsStandIn t = false := by
  obtain rfl : f = 4 := Option.some.inj ((show Tryd.prog.funcNamed "exchequer/exchequerlaw15.ReckonKinds" = some 4 by kernel_rfl).symm.trans hf) |>.symm
  obtain rfl : fn = Tryd.f4 := (Option.some.inj (Tryd.func4.symm.trans hfn)).symm
  refine ⟨by kernel_rfl, fun j t ht => ?_⟩
  have hall : (Tryd.f4.params.all fun t => !Tryd.prog.wantsStandIn t) = true := by kernel_rfl
  have := Array.all_eq_true_iff_forall_mem.1 hall t (Array.mem_of_getElem? ht)
  have h2 : Tryd.prog.wantsStandIn t = false := by simpa using this
  exact h2
/-- THE CARD -/
theorem reckonKinds_card : Rows.ReckonKindsCardSaid :=
  Claim7.holds_tied_plain_at .later [] _ _ _ _ reckonKinds_said (fun _ h => by cases h) (by kernel_rfl) (fun _ h => by cases h) reckonKinds_row_tie rfl ⟨rfl, rfl⟩ (by kernel_rfl) rfl reckonKinds_plain (by kernel_rfl)
#print axioms reckonKinds_card
end Go.Proofs.YtlhebakbbfmiiaaDoor
