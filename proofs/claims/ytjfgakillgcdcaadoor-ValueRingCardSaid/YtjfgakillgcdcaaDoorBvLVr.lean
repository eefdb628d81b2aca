/- ValueRing: what was added is taken away again; a product, divided by one of its numbers, is the other one; both hang on no order; on the condition of the row alone: that the tables of unicode/utf8 hold what the program's text lays. -/
import Derived.Test.YtjfgakillgcdcaaDoorBv5
namespace Go.Proofs.YtjfgakillgcdcaaDoor
open Go.Ax Go.ChangeShapes Go.WideShapes Go.ChangeAt Go.RowKit Go.ChangeMaps
/-! ## exchequer/exchequerlaw02.ValueRing -/
def lRing_px (R : Type) : Px R := ⟨ttOf ttL, glT, callT [(26, callOr [.int .i64, .int .i64] [.int .i64, .int .i64] vadd_F), (30, callOr [.int .i64, .int .i64] [.int .i64, .int .i64] vmul_F), (28, callOr [.int .i64, .int .i64] [.int .i64, .int .i64] vsub_F), (19, callOr [] [.bool] known_F)], callQT [], loopT []⟩
def lRing_body (x : HV [.int .i64, .int .i64]) : Option (HV [.bool]) := match x with
 | (a, b) =>
  let j := fun (p : Bool) =>
   cond (p) (
    some false) (
    cond (!decide ((vmul a b).1 = (vmul b a).1)) (
     some false) (
     cond (!decide ((vmul a b).2 = (vmul b a).2)) (
      some false) (
      let j2 := fun (_ : Unit) =>
       let j1 := fun (p7 : Bool) =>
        cond (p7) (
         chk (!decide (a = 0)) (
          cond (!decide ((wr .i64 (Int.tdiv ((vmul a b).1) a)) = b)) (
           some false) (
           chk (!decide (a = 0)) (
            cond (!decide ((Int.tmod ((vmul a b).1) a) = 0)) (
             some false) (
             some known))))) (
         some known)
       cond (decide ((vmul a b).2 = 0)) (
        j1 (!decide (a = 0))) (
        j1 false)
      cond (decide ((vadd a b).2 = 0)) (
       cond (!decide ((vsub ((vadd a b).1) b).2 = 0)) (
        some false) (
        cond (!decide ((vsub ((vadd a b).1) b).1 = a)) (
         some false) (
         j2 ()))) (
       j2 ()))))
  cond (!decide ((vadd a b).1 = (vadd b a).1)) (
   j true) (
   j (!decide ((vadd a b).2 = (vadd b a).2)))
theorem lRing_eq : ∀ (x : HV [.int .i64, .int .i64]), runF (lRing_px _) Tryd.f6 [.int .i64, .int .i64] [.bool] x some = lRing_body x
  | (a, b) => by kernel_rfl
theorem lRing_run : FnOk Tryd.prog elT glT 6 [.int .i64, .int .i64] [.bool] (lRing_body) := by
  refine fnOk_run Tryd.func6 rfl (by kernel_rfl) follows (by kernel_rfl) (n := 0) (by kernel_rfl) (px := lRing_px _) (fun cx hP hel hgl => ?_) (lRing_eq)
  have hp0 : PxOk cx (lRing_px (HV [.bool])) := ⟨fun t => by rw [hP, hel]; exact tt_ok ttL_ok t, by rw [hgl]; rfl⟩
  have hc0 : CallOk cx (lRing_px (HV [.bool])) := callT_ok rfl (cfs_cons (cf_or (by rw [hP, hel, hgl]; exact vadd_ok) (by kernel_rfl)) (cfs_cons (cf_or (by rw [hP, hel, hgl]; exact vmul_ok) (by kernel_rfl)) (cfs_cons (cf_or (by rw [hP, hel, hgl]; exact vsub_ok) (by kernel_rfl)) (cfs_cons (cf_or (by rw [hP, hel, hgl]; exact known_ok) (by kernel_rfl)) cfs_nil))))
  have hq0 : CallQOk cx (lRing_px (HV [.bool])) := callQT_ok rfl cqfs_nil
  exact ⟨hp0, hc0, hq0, all0⟩
theorem fitR_in {z : Int} (h : inI z) : fitZ z = (z, 0) := by
  simp only [inI] at h
  simp only [fitZ]
  rw [if_pos h]
theorem fitR_or (z : Int) : (inI z ∧ fitZ z = (z, 0)) ∨ fitZ z = (0, 20) := by
  by_cases h : inI z
  · exact .inl ⟨h, fitR_in h⟩
  · right
    simp only [inI] at h
    simp only [fitZ]
    rw [if_neg h]
theorem lRing_true {a b : Int} (ha : inI a) (hb : inI b) : lRing_body (a, b) = some true := by
  have e1 := vadd_z ha hb
  have e2 : vadd b a = fitZ (a + b) := by rw [vadd_z hb ha, Int.add_comm]
  have e3 := vmul_z ha hb
  have e4 : vmul b a = fitZ (a * b) := by rw [vmul_z hb ha, Int.mul_comm]
  have m : ¬ a = 0 → inI (a * b) → wr .i64 (Int.tdiv (a * b) a) = b ∧ Int.tmod (a * b) a = 0 := fun h0 _ => by
    rw [Int.mul_tdiv_cancel_left b h0, wr_id hb]
    exact ⟨rfl, Int.mul_tmod_right a b⟩
  have wb := wr_id hb
  simp only [lRing_body, e1, e2, e3, e4, known_true]
  rcases fitR_or (a + b) with ⟨h1, q1⟩ | q1 <;> rcases fitR_or (a * b) with ⟨h2, q2⟩ | q2 <;> simp only [q1, q2]
  · have e5 : vsub (a + b) b = (a, 0) := by rw [vsub_z h1 hb, Int.add_sub_cancel, fitR_in ha]
    by_cases h0 : a = 0
    · subst h0
      rw [Int.zero_add] at e5
      simp [e5]
    · obtain ⟨_, m2⟩ := m h0 h2
      simp [e5, h0, wb, m2, chk]
  · have e5 : vsub (a + b) b = (a, 0) := by rw [vsub_z h1 hb, Int.add_sub_cancel, fitR_in ha]
    simp [e5]
  · by_cases h0 : a = 0
    · simp [h0]
    · obtain ⟨_, m2⟩ := m h0 h2
      simp [h0, wb, m2, chk]
  · simp
theorem lRing_ok : FnOk Tryd.prog elT glT 6 [.int .i64, .int .i64] [.bool] (fun _ => some true) := .fin0 lRing_run fun (a, b) r hb hx => by
  rw [← hx]
  exact lRing_true (inK_i64 hb.1) (inK_i64 hb.2)
set_option maxRecDepth 100000 in
theorem valueRing_contract (H : Type) (enc : TypeId × Value → H) (W : World) (base : Nat) (args : Array Value) (ds gs : List (DataW H)) (before : List MemPlace)
    (hval : ∀ (j : Nat) t v, Tryd.f6.params[j]? = some t → args[j]? = some v → Value.okWide Tryd.prog W .any base t v)
    (hW : DataW.Whole enc Tryd.prog Tryd.f6.params.toList Rows.valueRingSpec.vars false W args.toList ds gs before) (hS : W.ShapedOpen Tryd.prog)
    (hsz : (DataW.weightsEach Tryd.prog (Tryd.f6.params.toList ++ (OpenSpec.ofChange Rows.valueRingSpec).bare.plain.varTypes Tryd.prog) (ds ++ gs)).all (· ≤ reachBytes) = true) :
    Calls Tryd.prog 6 args W fun e W' => ∃ v, e = .returned v ∧ Rows.valueRingSpec.post enc Tryd.prog Tryd.f6 false true false false W args v W' :=
  law_frame (fn := Tryd.f6) lRing_ok (fun _ _ _ => rfl) (by kernel_rfl) rfl (fun ds h => match ds, h with | [_, _], _ => ⟨rfl, rfl, rfl⟩) (by kernel_rfl) (by kernel_rfl) hval hW (shape_glR hS) (sizes_of hsz)
theorem valueRing_laid_met (os : Os) (args : Array Value) : laidMet Tryd.prog Rows.valueRingRow.laid ((laidWorld os).forCall (fun _ _ => 0) ⟨#[], args, []⟩).memory :=
  laidMet_of_run' 8 (by kernel_rfl) (by kernel_rfl)
theorem valueRing_reads (os : Os) {H : Type} (enc : TypeId × Value → H) : ∃ places, DataW.whole enc Tryd.prog ((laidWorld os).forCall (fun _ _ => 0) ⟨#[], #[.int .i64 0, .int .i64 0], []⟩).memory Tryd.f6.params.toList Rows.valueRingSpec.vars false (#[.int .i64 0, .int .i64 0] : Array Value).toList 8 = some ([.lit (.int .i64 0), .lit (.int .i64 0)], [], places) :=
  ⟨[], by kernel_rfl⟩
set_option maxRecDepth 100000 in
theorem valueRing_lifted (os : Os) (started : os.Started) (H : Type) (enc : TypeId × Value → H) (F : Stop.Interp) :
    ReturnsInHanded {} Tryd.checked os 6 .any ((OpenSpec.ofChange Rows.valueRingSpec).preRow enc Tryd.prog Tryd.f6 Rows.valueRingRow.domain false Rows.valueRingRow.laid) (((OpenSpec.ofChange Rows.valueRingSpec).at F).post enc Tryd.prog Tryd.f6 false true false false) := by
  obtain ⟨places, hx⟩ := valueRing_reads os enc
  refine returnsInHanded_of_row (C := Tryd.checked) (s := OpenSpec.ofChange Rows.valueRingSpec) own started (by kernel_rfl) Tryd.func6
    (witness_row_at (enc := enc) (C := Tryd.checked) false (laidWorld os) #[.int .i64 0, .int .i64 0] rfl (by kernel_rfl) (by kernel_rfl) (by kernel_rfl)
      (OpenSpec.preRow_of_cond 8 hx (by kernel_rfl) (fun k hk => by cases hk) (by kernel_rfl) (valueRing_laid_met os _))) ?_
  intro W base args ds gs before hval hW _ _ hsz _ hS _
  exact valueRing_contract H enc W base args ds gs before hval hW hS hsz
theorem valueRing_said : Rows.ValueRingSaid :=
  OpenClaim.holds_of_cond 6 Tryd.f6 rfl rfl rfl rfl rfl rfl rfl ⟨rfl, rfl, rfl, rfl, rfl⟩ rfl rfl rfl rfl rfl (by kernel_rfl) Tryd.func6 (by kernel_rfl)
    (of_decide_eq_true (by kernel_rfl)) (by unfold Func.isWrapper; first | (rw [if_pos (by decide +kernel)]; kernel_rfl) | (rw [if_neg (by decide +kernel)]; exact ⟨rfl, rfl⟩))
    (fun os started H enc _ F => by rw [OpenClaim.pre_eq_preRow]; exact valueRing_lifted os started H enc F)
theorem valueRing_plain (f : FuncId) (fn : Func) (hf : Tryd.pinned.checked.prog.funcNamed "exchequer/exchequerlaw02.ValueRing" = some f) (hfn : Tryd.pinned.checked.prog.funcs[f]? = some fn) :
    false = Tryd.pinned.checked.prog.looks [] ∧ ∀ (j : Nat) t, fn.params[j]? = some t → Tryd.pinned.checked.prog.wantsStandIn t = false := by
  obtain rfl : f = 6 := Option.some.inj ((show Tryd.prog.funcNamed "exchequer/exchequerlaw02.ValueRing" = some 6 by kernel_rfl).symm.trans hf) |>.symm
  obtain rfl : fn = Tryd.f6 := (Option.some.inj (Tryd.func6.symm.trans hfn)).symm
  refine ⟨by kernel_rfl, fun j t ht => ?_⟩
  have hall : (Tryd.f6.params.all fun t => !Tryd.prog.wantsStandIn t) = true := by kernel_rfl
  have := Array.all_eq_true_iff_forall_mem.1 hall t (Array.mem_of_getElem? ht)
  have h2 : Tryd.prog.wantsStandIn t = false := by simpa using this
  exact h2
/-- THE CARD -/
theorem valueRing_card : Rows.ValueRingCardSaid :=
  Claim7.holds_tied_plain_at .later [] _ _ _ _ valueRing_said (fun _ h => by cases h) (by kernel_rfl) (fun _ h => by cases h) valueRing_row_tie rfl ⟨rfl, rfl⟩ (by kernel_rfl) rfl valueRing_plain (by kernel_rfl)
#print axioms valueRing_card
end Go.Proofs.YtjfgakillgcdcaaDoor
