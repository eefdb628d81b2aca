/- ReckonThree: of any two truths, known or not: not of an and is the or of nots; each order is the same; not twice is the same; with itself each is itself; on the condition of the row alone: that ast.signs holds what the program's text lays. -/
import Derived.Test.YtlhebakbbfmiiaaDoorFf
import Derived.Test.YtlhebakbbfmiiaaDoorFrE
namespace Go.Proofs.YtlhebakbbfmiiaaDoor
open Go.Ax Go.ChangeShapes Go.WideShapes Go.ChangeAt Go.RowKit Go.ChangeMaps
/-! ## exchequer/exchequerlaw15.ReckonThree -/
def lThree_px (R : Type) : Px R := ⟨ttOf ttL, glT, callT [(19, callOr [.sv .val, .int .i64] [.bool] rfits2_F), (10, callOr [] [.bool] known_F), (20, callOr [.sv .val] [.sv .expr] lvalue_F), (22, callOr [.int .i64, .sv .expr, .sv .expr] [.sv .expr] ltwo_F), (21, callOr [.int .i64, .sv .expr] [.sv .expr] lone_F), (13, callOr [.sv .expr, .sl .col false, .sl .val false] [.sv .val, .int .i64] evalX_F)], callQT [(21, callOrQ [.int .i64, .sv .expr] [.sv .expr] lone_F), (22, callOrQ [.int .i64, .sv .expr, .sv .expr] [.sv .expr] ltwo_F), (13, callOrQ [.sv .expr, .sl .col false, .sl .val false] [.sv .val, .int .i64] evalX_F)], loopT []⟩
def lThree_body (x : HV [.sv .val, .sv .val]) : Option (HV [.bool]) := match x with
 | (a, b) =>
  cond (!(rfits2 a 2)) (
   some known) (
   cond (!(rfits2 b 2)) (
    some known) (
    let j6 := fun (p2 : Bool) =>
     let j5 := fun (p3 : Bool) =>
      let j4 := fun (p4 : Bool) =>
       let j3 := fun (p5 : Bool) =>
        let j2 := fun (p6 : Bool) =>
         let j1 := fun (p7 : Bool) =>
          let j := fun (p8 : Bool) =>
           cond (p8) (
            cond (decide (((evalX (ltwo 5 (Xpr.mk ((lvalue a).kind) ⟨((lvalue a).v.kind), ((lvalue a).v.n), ((lvalue a).v.s)⟩ ((lvalue a).name) ((lvalue a).l)) (Xpr.mk ((lvalue a).kind) ⟨((lvalue a).v.kind), ((lvalue a).v.n), ((lvalue a).v.s)⟩ ((lvalue a).name) ((lvalue a).l))) [] []).1) = a)) (
             some known) (
             some false)) (
            some false)
          cond (p7) (
           j (decide (((evalX (ltwo 4 (Xpr.mk ((lvalue a).kind) ⟨((lvalue a).v.kind), ((lvalue a).v.n), ((lvalue a).v.s)⟩ ((lvalue a).name) ((lvalue a).l)) (Xpr.mk ((lvalue a).kind) ⟨((lvalue a).v.kind), ((lvalue a).v.n), ((lvalue a).v.s)⟩ ((lvalue a).name) ((lvalue a).l))) [] []).1) = a))) (
           j false)
         cond (p6) (
          j1 (decide (((evalX (lone 3 (lone 3 (Xpr.mk ((lvalue a).kind) ⟨((lvalue a).v.kind), ((lvalue a).v.n), ((lvalue a).v.s)⟩ ((lvalue a).name) ((lvalue a).l)))) [] []).1) = a))) (
          j1 false)
        cond (p5) (
         j2 (decide (((evalX (lone 3 (ltwo 4 (Xpr.mk ((lvalue a).kind) ⟨((lvalue a).v.kind), ((lvalue a).v.n), ((lvalue a).v.s)⟩ ((lvalue a).name) ((lvalue a).l)) (Xpr.mk ((lvalue b).kind) ⟨((lvalue b).v.kind), ((lvalue b).v.n), ((lvalue b).v.s)⟩ ((lvalue b).name) ((lvalue b).l)))) [] []).1) = ((evalX (ltwo 5 (lone 3 (Xpr.mk ((lvalue b).kind) ⟨((lvalue b).v.kind), ((lvalue b).v.n), ((lvalue b).v.s)⟩ ((lvalue b).name) ((lvalue b).l))) (lone 3 (Xpr.mk ((lvalue a).kind) ⟨((lvalue a).v.kind), ((lvalue a).v.n), ((lvalue a).v.s)⟩ ((lvalue a).name) ((lvalue a).l)))) [] []).1)))) (
         j2 false)
       cond (p4) (
        j3 (decide ((evalX (ltwo 5 (Xpr.mk ((lvalue a).kind) ⟨((lvalue a).v.kind), ((lvalue a).v.n), ((lvalue a).v.s)⟩ ((lvalue a).name) ((lvalue a).l)) (Xpr.mk ((lvalue a).kind) ⟨((lvalue a).v.kind), ((lvalue a).v.n), ((lvalue a).v.s)⟩ ((lvalue a).name) ((lvalue a).l))) [] []).2 = 0))) (
        j3 false)
      cond (p3) (
       j4 (decide ((evalX (ltwo 4 (Xpr.mk ((lvalue a).kind) ⟨((lvalue a).v.kind), ((lvalue a).v.n), ((lvalue a).v.s)⟩ ((lvalue a).name) ((lvalue a).l)) (Xpr.mk ((lvalue a).kind) ⟨((lvalue a).v.kind), ((lvalue a).v.n), ((lvalue a).v.s)⟩ ((lvalue a).name) ((lvalue a).l))) [] []).2 = 0))) (
       j4 false)
     cond (p2) (
      j5 (decide ((evalX (lone 3 (lone 3 (Xpr.mk ((lvalue a).kind) ⟨((lvalue a).v.kind), ((lvalue a).v.n), ((lvalue a).v.s)⟩ ((lvalue a).name) ((lvalue a).l)))) [] []).2 = 0))) (
      j5 false)
    cond (decide ((evalX (lone 3 (ltwo 4 (Xpr.mk ((lvalue a).kind) ⟨((lvalue a).v.kind), ((lvalue a).v.n), ((lvalue a).v.s)⟩ ((lvalue a).name) ((lvalue a).l)) (Xpr.mk ((lvalue b).kind) ⟨((lvalue b).v.kind), ((lvalue b).v.n), ((lvalue b).v.s)⟩ ((lvalue b).name) ((lvalue b).l)))) [] []).2 = 0)) (
     j6 (decide ((evalX (ltwo 5 (lone 3 (Xpr.mk ((lvalue b).kind) ⟨((lvalue b).v.kind), ((lvalue b).v.n), ((lvalue b).v.s)⟩ ((lvalue b).name) ((lvalue b).l))) (lone 3 (Xpr.mk ((lvalue a).kind) ⟨((lvalue a).v.kind), ((lvalue a).v.n), ((lvalue a).v.s)⟩ ((lvalue a).name) ((lvalue a).l)))) [] []).2 = 0))) (
     j6 false)))
theorem lThree_eq : ∀ (x : HV [.sv .val, .sv .val]), runF (lThree_px _) Tryd.f5 [.sv .val, .sv .val] [.bool] x some = lThree_body x
  | (a, b) => by kernel_rfl
theorem lThree_run : FnOk Tryd.prog elT glT 5 [.sv .val, .sv .val] [.bool] (lThree_body) := by
  refine fnOk_run Tryd.func5 rfl (by kernel_rfl) follows (by kernel_rfl) (n := 0) (by kernel_rfl) (px := lThree_px _) (fun cx hP hel hgl => ?_) (lThree_eq)
  have hp0 : PxOk cx (lThree_px (HV [.bool])) := ⟨fun t => by rw [hP, hel]; exact tt_ok ttL_ok t, by rw [hgl]; rfl⟩
  have hc0 : CallOk cx (lThree_px (HV [.bool])) := callT_ok rfl (cfs_cons (cf_or (by rw [hP, hel, hgl]; exact rfits2_ok) (by kernel_rfl)) (cfs_cons (cf_or (by rw [hP, hel, hgl]; exact known_ok) (by kernel_rfl)) (cfs_cons (cf_or (by rw [hP, hel, hgl]; exact lvalue_ok) (by kernel_rfl)) (cfs_cons (cf_or (by rw [hP, hel, hgl]; exact ltwo_ok) (by kernel_rfl)) (cfs_cons (cf_or (by rw [hP, hel, hgl]; exact lone_ok) (by kernel_rfl)) (cfs_cons (cf_or (by rw [hP, hel, hgl]; exact evalX_ok) (by kernel_rfl)) cfs_nil))))))
  have hq0 : CallQOk cx (lThree_px (HV [.bool])) := callQT_ok rfl (cqfs_cons (cqf_or (by rw [hP, hel, hgl]; exact lone_ok) (by kernel_rfl)) (cqfs_cons (cqf_or (by rw [hP, hel, hgl]; exact ltwo_ok) (by kernel_rfl)) (cqfs_cons (cqf_or (by rw [hP, hel, hgl]; exact evalX_ok) (by kernel_rfl)) cqfs_nil)))
  exact ⟨hp0, hc0, hq0, all0⟩
def lThree (a : Val) (b : Val) : Bool :=
  cond (!(rfits2 a 2)) (
   known) (
   cond (!(rfits2 b 2)) (
    known) (
    let j6 := fun (p2 : Bool) =>
     let j5 := fun (p3 : Bool) =>
      let j4 := fun (p4 : Bool) =>
       let j3 := fun (p5 : Bool) =>
        let j2 := fun (p6 : Bool) =>
         let j1 := fun (p7 : Bool) =>
          let j := fun (p8 : Bool) =>
           cond (p8) (
            cond (decide (((evalX (ltwo 5 (Xpr.mk ((lvalue a).kind) ⟨((lvalue a).v.kind), ((lvalue a).v.n), ((lvalue a).v.s)⟩ ((lvalue a).name) ((lvalue a).l)) (Xpr.mk ((lvalue a).kind) ⟨((lvalue a).v.kind), ((lvalue a).v.n), ((lvalue a).v.s)⟩ ((lvalue a).name) ((lvalue a).l))) [] []).1) = a)) (
             known) (
             false)) (
            false)
          cond (p7) (
           j (decide (((evalX (ltwo 4 (Xpr.mk ((lvalue a).kind) ⟨((lvalue a).v.kind), ((lvalue a).v.n), ((lvalue a).v.s)⟩ ((lvalue a).name) ((lvalue a).l)) (Xpr.mk ((lvalue a).kind) ⟨((lvalue a).v.kind), ((lvalue a).v.n), ((lvalue a).v.s)⟩ ((lvalue a).name) ((lvalue a).l))) [] []).1) = a))) (
           j false)
         cond (p6) (
          j1 (decide (((evalX (lone 3 (lone 3 (Xpr.mk ((lvalue a).kind) ⟨((lvalue a).v.kind), ((lvalue a).v.n), ((lvalue a).v.s)⟩ ((lvalue a).name) ((lvalue a).l)))) [] []).1) = a))) (
          j1 false)
        cond (p5) (
         j2 (decide (((evalX (lone 3 (ltwo 4 (Xpr.mk ((lvalue a).kind) ⟨((lvalue a).v.kind), ((lvalue a).v.n), ((lvalue a).v.s)⟩ ((lvalue a).name) ((lvalue a).l)) (Xpr.mk ((lvalue b).kind) ⟨((lvalue b).v.kind), ((lvalue b).v.n), ((lvalue b).v.s)⟩ ((lvalue b).name) ((lvalue b).l)))) [] []).1) = ((evalX (ltwo 5 (lone 3 (Xpr.mk ((lvalue b).kind) ⟨((lvalue b).v.kind), ((lvalue b).v.n), ((lvalue b).v.s)⟩ ((lvalue b).name) ((lvalue b).l))) (lone 3 (Xpr.mk ((lvalue a).kind) ⟨((lvalue a).v.kind), ((lvalue a).v.n), ((lvalue a).v.s)⟩ ((lvalue a).name) ((lvalue a).l)))) [] []).1)))) (
         j2 false)
       cond (p4) (
        j3 (decide ((evalX (ltwo 5 (Xpr.mk ((lvalue a).kind) ⟨((lvalue a).v.kind), ((lvalue a).v.n), ((lvalue a).v.s)⟩ ((lvalue a).name) ((lvalue a).l)) (Xpr.mk ((lvalue a).kind) ⟨((lvalue a).v.kind), ((lvalue a).v.n), ((lvalue a).v.s)⟩ ((lvalue a).name) ((lvalue a).l))) [] []).2 = 0))) (
        j3 false)
      cond (p3) (
       j4 (decide ((evalX (ltwo 4 (Xpr.mk ((lvalue a).kind) ⟨((lvalue a).v.kind), ((lvalue a).v.n), ((lvalue a).v.s)⟩ ((lvalue a).name) ((lvalue a).l)) (Xpr.mk ((lvalue a).kind) ⟨((lvalue a).v.kind), ((lvalue a).v.n), ((lvalue a).v.s)⟩ ((lvalue a).name) ((lvalue a).l))) [] []).2 = 0))) (
       j4 false)
     cond (p2) (
      j5 (decide ((evalX (lone 3 (lone 3 (Xpr.mk ((lvalue a).kind) ⟨((lvalue a).v.kind), ((lvalue a).v.n), ((lvalue a).v.s)⟩ ((lvalue a).name) ((lvalue a).l)))) [] []).2 = 0))) (
      j5 false)
    cond (decide ((evalX (lone 3 (ltwo 4 (Xpr.mk ((lvalue a).kind) ⟨((lvalue a).v.kind), ((lvalue a).v.n), ((lvalue a).v.s)⟩ ((lvalue a).name) ((lvalue a).l)) (Xpr.mk ((lvalue b).kind) ⟨((lvalue b).v.kind), ((lvalue b).v.n), ((lvalue b).v.s)⟩ ((lvalue b).name) ((lvalue b).l)))) [] []).2 = 0)) (
     j6 (decide ((evalX (ltwo 5 (lone 3 (Xpr.mk ((lvalue b).kind) ⟨((lvalue b).v.kind), ((lvalue b).v.n), ((lvalue b).v.s)⟩ ((lvalue b).name) ((lvalue b).l))) (lone 3 (Xpr.mk ((lvalue a).kind) ⟨((lvalue a).v.kind), ((lvalue a).v.n), ((lvalue a).v.s)⟩ ((lvalue a).name) ((lvalue a).l)))) [] []).2 = 0))) (
     j6 false)))
theorem lThree_tot (x : HV [.sv .val, .sv .val]) : lThree_body x = some (lThree x.1 x.2) := by
  first
    | exact rfl
    | simp only [lThree_body, lThree, cond_some]
def lThree_F : FT [.sv .val, .sv .val] [.bool] := fun x => some (lThree x.1 x.2)
theorem lThree_ok : FnOk Tryd.prog elT glT 5 [.sv .val, .sv .val] [.bool] lThree_F := .fin0 lThree_run fun x _ _ hx => (lThree_tot x).trans hx
theorem three_truths {a : Val} (h : vfits a 2 = true) : a = ⟨1, 0, []⟩ ∨ a = ⟨2, 0, []⟩ ∨ a = ⟨2, 1, []⟩ := by
  obtain ⟨h1, h2⟩ := vfits_iff.1 h
  obtain ⟨k, n, s⟩ := a
  simp only at h2
  rcases h2 with rfl | rfl
  · left
    simp [vright] at h1
    simp [h1]
  · right
    simp only [vright] at h1
    by_cases h0 : n = 0
    · left; simp [h0] at h1; simp [h0, h1]
    · by_cases h3 : n = 1
      · right; simp [h3] at h1; simp [h3, h1]
      · simp [h0, h3] at h1
theorem three_ok : ∀ a b, a ∈ [(⟨1, 0, []⟩ : Val), ⟨2, 0, []⟩, ⟨2, 1, []⟩] → b ∈ [(⟨1, 0, []⟩ : Val), ⟨2, 0, []⟩, ⟨2, 1, []⟩] → lThree a b = true := by
  have h : ([(⟨1, 0, []⟩ : Val), ⟨2, 0, []⟩, ⟨2, 1, []⟩].all fun a => [(⟨1, 0, []⟩ : Val), ⟨2, 0, []⟩, ⟨2, 1, []⟩].all fun b => lThree a b) = true := by kernel_rfl
  intro a b ha hb
  exact List.all_eq_true.1 (List.all_eq_true.1 h a ha) b hb
theorem lThree_true (a b : Val) : lThree a b = true := by
  cases ha : vfits a 2
  · simp only [lThree, rfits2_v, ha]
    exact known_true
  · cases hb : vfits b 2
    · simp only [lThree, rfits2_v, ha, hb]
      exact known_true
    · refine three_ok a b ?_ ?_
      · rcases three_truths ha with h | h | h <;> simp [h]
      · rcases three_truths hb with h | h | h <;> simp [h]
set_option maxRecDepth 100000 in
theorem reckonThree_contract (H : Type) (enc : TypeId × Value → H) (W : World) (base : Nat) (args : Array Value) (ds gs : List (DataW H)) (before : List MemPlace)
    (hval : ∀ (j : Nat) t v, Tryd.f5.params[j]? = some t → args[j]? = some v → Value.okWide Tryd.prog W .any base t v)
    (hW : DataW.Whole enc Tryd.prog Tryd.f5.params.toList Rows.reckonThreeSpec.vars false W args.toList ds gs before) (hL : laidMetH Tryd.prog Rows.reckonThreeRow.laid W) :
    Calls Tryd.prog 5 args W fun e W' => ∃ v, e = .returned v ∧ Rows.reckonThreeSpec.post enc Tryd.prog Tryd.f5 false true false false W args v W' :=
  law_frame (fn := Tryd.f5) lThree_ok (fun x _ => congrArg some (lThree_true x.1 x.2)) (by kernel_rfl) rfl (fun ds h => match ds, h with | [_, _], _ => ⟨rfl, rfl, rfl⟩) (by kernel_rfl) (by kernel_rfl) hval hW (laid_glR hL)
theorem reckonThree_laid_met (os : Os) (args : Array Value) : laidMet Tryd.prog Rows.reckonThreeRow.laid ((laidWorld os).forCall (fun _ _ => 0) ⟨#[], args, []⟩).memory :=
  laidMet_of_run' 8 (by kernel_rfl) (by kernel_rfl)
theorem reckonThree_reads (os : Os) {H : Type} (enc : TypeId × Value → H) : ∃ places, DataW.whole enc Tryd.prog ((laidWorld os).forCall (fun _ _ => 0) ⟨#[], #[.agg #[.int .i64 0, .int .i64 0, .string ⟨#[]⟩], .agg #[.int .i64 0, .int .i64 0, .string ⟨#[]⟩]], []⟩).memory Tryd.f5.params.toList Rows.reckonThreeSpec.vars false (#[.agg #[.int .i64 0, .int .i64 0, .string ⟨#[]⟩], .agg #[.int .i64 0, .int .i64 0, .string ⟨#[]⟩]] : Array Value).toList 8 = some ([.agg [.lit (.int .i64 0), .lit (.int .i64 0), .lit (.string [])], .agg [.lit (.int .i64 0), .lit (.int .i64 0), .lit (.string [])]], [], places) :=
  ⟨[], by kernel_rfl⟩
set_option maxRecDepth 100000 in
theorem reckonThree_lifted (os : Os) (started : os.Started) (H : Type) (enc : TypeId × Value → H) (F : Stop.Interp) :
    ReturnsInHanded {} Tryd.checked os 5 .any ((OpenSpec.ofChange Rows.reckonThreeSpec).preRow enc Tryd.prog Tryd.f5 Rows.reckonThreeRow.domain false Rows.reckonThreeRow.laid) (((OpenSpec.ofChange Rows.reckonThreeSpec).at F).post enc Tryd.prog Tryd.f5 false true false false) := by
  obtain ⟨places, hx⟩ := reckonThree_reads os enc
  refine returnsInHanded_of_row (C := Tryd.checked) (s := OpenSpec.ofChange Rows.reckonThreeSpec) own started (by kernel_rfl) Tryd.func5
    (witness_row_at (enc := enc) (C := Tryd.checked) false (laidWorld os) #[.agg #[.int .i64 0, .int .i64 0, .string ⟨#[]⟩], .agg #[.int .i64 0, .int .i64 0, .string ⟨#[]⟩]] rfl (by kernel_rfl) (by kernel_rfl) (by kernel_rfl)
      (OpenSpec.preRow_of_cond 8 hx (by kernel_rfl) (fun k hk => by cases hk) (by kernel_rfl) (reckonThree_laid_met os _))) ?_
  intro W base args ds gs before hval hW _ _ _ hL _ _
  exact reckonThree_contract H enc W base args ds gs before hval hW hL
theorem reckonThree_said : Rows.ReckonThreeSaid :=
  OpenClaim.holds_of_cond 5 Tryd.f5 rfl rfl rfl rfl rfl rfl rfl ⟨rfl, rfl, rfl, rfl, rfl⟩ rfl rfl rfl rfl rfl (by kernel_rfl) Tryd.func5 (by kernel_rfl)
    (of_decide_eq_true (by kernel_rfl)) (by unfold Func.isWrapper; first | (rw [if_pos (by decide +kernel)]; kernel_rfl) | (rw [if_neg (by decide +kernel)]; exact ⟨rfl, rfl⟩))
    (fun os started H enc _ F => by rw [OpenClaim.pre_eq_preRow]; exact reckonThree_lifted os started H enc F)
theorem reckonThree_plain (f : FuncId) (fn : Func) (hf : Tryd.pinned.checked.prog.funcNamed "exchequer/exchequerlaw15.ReckonThree" = some f) (hfn : Tryd.pinned.checked.prog.funcs[f]? = some fn) :
    false = Tryd.pinned.checked.prog.looks [] ∧ ∀ (j : Nat) t, fn.params[j]? = some t → Tryd.pinned.checked.prog.wantsStandIn t = false := by
  obtain rfl : f = 5 := Option.some.inj ((show Tryd.prog.funcNamed "exchequer/exchequerlaw15.ReckonThree" = some 5 by kernel_rfl).symm.trans hf) |>.symm
  obtain rfl : fn = Tryd.f5 := (Option.some.inj (Tryd.func5.symm.trans hfn)).symm
  refine ⟨by kernel_rfl, fun j t ht => ?_⟩
  have hall : (Tryd.f5.params.all fun t => !Tryd.prog.wantsStandIn t) = true := by kernel_rfl
  have := Array.all_eq_true_iff_forall_mem.1 hall t (Array.mem_of_getElem? ht)
  have h2 : Tryd.prog.wantsStandIn t = false := by simpa using this
  exact h2
/-- THE CARD -/
theorem reckonThree_card : Rows.ReckonThreeCardSaid :=
  Claim7.holds_tied_plain_at .later [] _ _ _ _ reckonThree_said (fun _ h => by cases h) (by kernel_rfl) (fun _ h => by cases h) reckonThree_row_tie rfl ⟨rfl, rfl⟩ (by kernel_rfl) rfl reckonThree_plain (by kernel_rfl)
#print axioms reckonThree_card
end Go.Proofs.YtlhebakbbfmiiaaDoor
