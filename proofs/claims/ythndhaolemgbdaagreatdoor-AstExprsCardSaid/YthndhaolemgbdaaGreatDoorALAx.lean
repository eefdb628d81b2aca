/- AstExprs: whether any expression may be, its text, and the names in it, is what the chapter says; whether any two are the same, too; on the condition of the row alone: that the package's tables hold what the program's text lays. -/
import Derived.Test.YthndhaolemgbdaaGreatDoorA6
namespace Go.Proofs.YthndhaolemgbdaaGreatDoor
open Go.Ax Go.ChangeShapes Go.WideShapes Go.ChangeAt Go.RowKit Go.ChangeMaps
noncomputable section
/-! ## exchequer/exchequerlaw13.AstExprs -/
def lExprs_0_sg : Sig := ⟨87, [(4, .bool), (5, .str), (6, .int .i64), (7, .str), (8, .int .i64), (9, .sl .str true), (10, .sl .str true), (11, .int .i64)], [(2, .ptr 0 0), (3, .ptr 1 0)], [(0, .one (.sv .expr)), (1, .one (.sv .expr))], 2, 0, 0, [], []⟩
abbrev lExprs_0_V := Bool × Str × Int × Str × Int × List Str × List Str × Int × Xpr × Xpr
def lExprs_0 {R : Type} (rec : lExprs_0_V → Option R) (kx : Ex → lExprs_0_V → Option R) (v : lExprs_0_V) : Option R := match v with
 | (v, v1, v2, v3, v4, v5, v6, v7, w, w1) =>
  cond (decide (v7 < (v5.length : Int))) (
   chk (inb v7 v5.length) (
    chk (inb v7 v6.length) (
     cond (!decide ((at' .str v5 v7) = (at' .str v6 v7))) (
      kx .ret (false, v1, v2, v3, v4, v5, v6, v7, w, w1)) (
      rec (v, v1, v2, v3, v4, v5, v6, (wr .i64 (v7 + 1)), w, w1))))) (
   kx (.exit 0) (v, v1, v2, v3, v4, v5, v6, v7, w, w1))
def lExprs_px (R : Type) (k : Nat) : Px R := ⟨ttOf ttL, glT, callT [(12, callOr [.sv .expr, .int .i64] [.int .i64] much1_F), (13, callOr [] [.bool] known13_F), (14, callOr [.sv .expr] [.str, .int .i64] atext_F), (15, callOr [.sv .expr] [.str, .int .i64] rText_F), (16, callOr [.sv .expr] [.sl .str true] anames_F), (17, callOr [.sv .expr] [.sl .str true] rnames_F), (20, callOr [.sv .expr, .sv .expr] [.bool] asame_F)], callQT [(18, callOrQ [.sv .expr] [.int .i64] aexpr_F), (19, callOrQ [.sv .expr] [.int .i64] rexpr_F), (20, callOrQ [.sv .expr, .sv .expr] [.bool] asame_F), (21, callOrQ [.sv .expr, .sv .expr] [.bool] rsame_F)], loopT [(10, loopOr k lExprs_0_sg (lExprs_0))]⟩
theorem lExprs_0_eq (R : Type) (k : Nat) : ∀ (fr : List Fr) (rec : lExprs_0_V → Option R) (kx : Ex → lExprs_0_V → Option R) (v : lExprs_0_V), round (lExprs_px R k) lExprs_0_sg (lp Tryz.f3 0) fr rec kx v = lExprs_0 rec kx v
  | fr, rec, kx, (v, v1, v2, v3, v4, v5, v6, v7, w, w1) => by kernel_rfl
def lExprs_body (k : Nat) (x : HV [.sv .expr, .sv .expr]) : Option (HV [.bool]) := match x with
 | (a, b) =>
  cond (decide (600 ≤ (much1 a 600))) (
   some known13) (
   cond (decide (600 ≤ (much1 b 600))) (
    some known13) (
    (atext a).bind fun (x, x1) =>
     (rText a).bind fun (x2, x3) =>
      (anames a).bind fun x4 =>
       (rnames a).bind fun x5 =>
        cond (!decide ((x4.length : Int) = (x5.length : Int))) (
         some false) (
         iter (fun rec => lExprs_0 rec (fun e vz => match vz with | (v8, v9, v10, v11, v12, _, _, _, v16, v17) => match e with
          | .ret =>
           some v8
          | .exit 0 =>
           let j2 := fun (p2 : Bool) =>
            let j1 := fun (p3 : Bool) =>
             let j := fun (p4 : Bool) =>
              cond (p4) (
               cond ((asame v16 v16)) (
                some known13) (
                some false)) (
               some false)
             cond (p3) (
              j (decide ((asame v16 v17) = (rsame v16 v17)))) (
              j false)
            cond (p2) (
             j1 (decide ((aexpr v16) = (rexpr v16)))) (
             j1 false)
           cond (decide (v9 = v11)) (
            j2 (decide (v10 = v12))) (
            j2 false)
          | _ => none)) k (false, x, x1, x2, x3, x4, x5, 0, a, b))))
theorem lExprs_eq (k : Nat) : ∀ (x : HV [.sv .expr, .sv .expr]), runF (lExprs_px _ k) Tryz.f3 [.sv .expr, .sv .expr] [.bool] x some = lExprs_body k x
  | (a, b) => by kernel_rfl
theorem lExprs_run (k : Nat) : FnOk Tryz.prog elT glT 3 [.sv .expr, .sv .expr] [.bool] (lExprs_body k) := by
  refine fnOk_run Tryz.func3 rfl (by kernel_rfl) follows (by kernel_rfl) (n := 1) (by kernel_rfl) (px := lExprs_px _ k) (fun cx hP hel hgl => ?_) (lExprs_eq k)
  have hp0 : PxOk cx (lExprs_px (HV [.bool]) k) := ⟨fun t => by rw [hP, hel]; exact tt_ok ttL_ok t, by rw [hgl]; rfl⟩
  have hc0 : CallOk cx (lExprs_px (HV [.bool]) k) := callT_ok rfl (cfs_cons (cf_or (by rw [hP, hel, hgl]; exact much1_ok) (by kernel_rfl)) (cfs_cons (cf_or (by rw [hP, hel, hgl]; exact known13_ok) (by kernel_rfl)) (cfs_cons (cf_or (by rw [hP, hel, hgl]; exact atext_ok) (by kernel_rfl)) (cfs_cons (cf_or (by rw [hP, hel, hgl]; exact rText_ok) (by kernel_rfl)) (cfs_cons (cf_or (by rw [hP, hel, hgl]; exact anames_ok) (by kernel_rfl)) (cfs_cons (cf_or (by rw [hP, hel, hgl]; exact rnames_ok) (by kernel_rfl)) (cfs_cons (cf_or (by rw [hP, hel, hgl]; exact asame_ok) (by kernel_rfl)) cfs_nil)))))))
  have hq0 : CallQOk cx (lExprs_px (HV [.bool]) k) := callQT_ok rfl (cqfs_cons (cqf_or (by rw [hP, hel, hgl]; exact aexpr_ok) (by kernel_rfl)) (cqfs_cons (cqf_or (by rw [hP, hel, hgl]; exact rexpr_ok) (by kernel_rfl)) (cqfs_cons (cqf_or (by rw [hP, hel, hgl]; exact asame_ok) (by kernel_rfl)) (cqfs_cons (cqf_or (by rw [hP, hel, hgl]; exact rsame_ok) (by kernel_rfl)) cqfs_nil))))
  have hllExprs_0 : LoopOk cx (lExprs_px (HV [.bool]) k) (lp Tryz.f3 0) := loop_ok hp0 hc0 hq0 (by rw [hP]; exact follows) (k := k) (s := lExprs_0_sg) (step := lExprs_0) (fun _ _ => by kernel_rfl) (by kernel_rfl) (lExprs_0_eq _ k) (loops_in (n := 0) (by kernel_rfl) all0)
  exact ⟨hp0, hc0, hq0, (allS all0 hllExprs_0)⟩
def lExprsF (x : HV [.sv .expr, .sv .expr]) : Option (HV [.bool]) := @ite _ (∃ k, lExprs_body k x = some true) (Classical.propDecidable _) (some true) none
theorem lExprs_ok : FnOk Tryz.prog elT glT 3 [.sv .expr, .sv .expr] [.bool] lExprsF := .fin 0 lExprs_run fun x r _ hx => by
  unfold lExprsF at hx
  split at hx
  · rename_i h
    obtain ⟨k, hk⟩ := h
    exact ⟨k, hk.trans hx⟩
  · cases hx
theorem lExprs_true (a b : Xpr) (ba : BdExpr a) (sa : SmExpr (R47, R47) a) : ∃ k, lExprs_body k (a, b) = some true := by
  by_cases ha : 600 ≤ much1 a 600
  · exact ⟨0, by simp only [lExprs_body]; rw [decide_eq_true ha]; rfl⟩
  by_cases hb : 600 ≤ much1 b 600
  · exact ⟨0, by simp only [lExprs_body]; rw [decide_eq_false ha, decide_eq_true hb]; rfl⟩
  have za := (much_size (Nat.le_refl _) (esize a) a 600 (Nat.le_refl _) sa (by omega) (by omega)).2.2 (by omega)
  have h1 : atext a = some (cond (eright a 30) (etx a, 0) ([], 2)) := by
    cases h : eright a 30 with
    | true => exact text_ok h ba (by omega)
    | false => exact text_no h
  have h2 := rText_is ba (show esize a ≤ 10000 by omega)
  have h3 : anames a = some (nwalk a []) := if_pos (by omega)
  have h4 : rnames a = some (nwalk a []) := if_pos (by omega)
  have hln := nwalk_len a []
  simp only [List.length_nil] at hln
  refine ⟨(nwalk a []).length + 1, ?_⟩
  simp only [lExprs_body]
  rw [decide_eq_false ha, decide_eq_false hb, h1, h2, h3, h4]
  simp only [cond_f, Option.bind_some, decide_true, Bool.not_true]
  generalize (cond (eright a 30) (etx a, 0) ([], 2) : Str × Int) = t
  refine (iter_ind0 (nwalk a []).length (fun i => (false, t.1, t.2, t.1, t.2, nwalk a [], nwalk a [], (i : Int), a, b)) (fun _ => some true) (fun i hi rec hr => ?_) (fun rec => ?_) _ 0 (Nat.zero_le _) (by omega))
  · simp only [lExprs_0, lt_t hi, cond_t, inb_t hi, chk, wr_succ hi (show ln (nwalk a []).length by simp only [ln]; omega), hr, decide_true, Bool.not_true, cond_f]
  · simp only [lExprs_0, lt_n, cond_f]
    have e1 : asame a a = true := (xsame_iff a a).2 rfl
    have e2 : asame a b = rsame a b := rfl
    have e3 : aexpr a = rexpr a := (aexpr_is a).trans (rexpr_is (by omega)).symm
    simp only [e1, e2, e3, decide_true, cond_t]
    rfl
theorem astExprs_lists : Lists Rows.astExprsRow.laid := by
  refine ⟨by kernel_rfl, ?_⟩
  simp [Rows.astExprsRow]
set_option maxRecDepth 100000 in
theorem astExprs_contract (H : Type) (enc : TypeId × Value → H) (W : World) (base : Nat) (args : Array Value) (ds gs : List (DataW H)) (before : List MemPlace)
    (hval : ∀ (j : Nat) t v, Tryz.f3.params[j]? = some t → args[j]? = some v → Value.okWide Tryz.prog W .any base t v)
    (hW : DataW.Whole enc Tryz.prog Tryz.f3.params.toList Rows.astExprsSpec.vars false W args.toList ds gs before) (hL : laidMetH Tryz.prog Rows.astExprsRow.laid W) (hS : W.ShapedOpen Tryz.prog)
    (hsz : (DataW.weightsEach Tryz.prog (Tryz.f3.params.toList ++ (OpenSpec.ofChange Rows.astExprsSpec).bare.plain.varTypes Tryz.prog) (ds ++ gs)).all (· ≤ reachBytes) = true) :
    Calls Tryz.prog 3 args W fun e W' => ∃ v, e = .returned v ∧ Rows.astExprsSpec.post enc Tryz.prog Tryz.f3 false true false false W args v W' :=
  law_frame (msr_weights _) (fn := Tryz.f3) lExprs_ok (fun x hb hs => if_pos (lExprs_true x.1 x.2 hb.1 hs.1)) (by kernel_rfl) rfl (fun ds h => match ds, h with | [_, _], _ => ⟨rfl, rfl, rfl⟩) (by kernel_rfl) (by kernel_rfl) hval hW (all_glR astExprs_lists hL hS) (fun hl => sizes_of hsz (Nat.le_of_eq hl))
theorem astExprs_laid_met (os : Os) (args : Array Value) : laidMet Tryz.prog Rows.astExprsRow.laid ((laidWorld os).forCall (fun _ _ => 0) ⟨#[], args, []⟩).memory :=
  laidMet_of_run' 8 (by kernel_rfl) (by kernel_rfl)
theorem astExprs_reads (os : Os) {H : Type} (enc : TypeId × Value → H) : ∃ places, DataW.whole enc Tryz.prog ((laidWorld os).forCall (fun _ _ => 0) ⟨#[], #[.agg #[.int .i64 0, .int .i64 0, .int .i64 0, .string ⟨#[]⟩, .string ⟨#[]⟩, .slice none 0 0], .agg #[.int .i64 0, .int .i64 0, .int .i64 0, .string ⟨#[]⟩, .string ⟨#[]⟩, .slice none 0 0]], []⟩).memory Tryz.f3.params.toList Rows.astExprsSpec.vars false (#[.agg #[.int .i64 0, .int .i64 0, .int .i64 0, .string ⟨#[]⟩, .string ⟨#[]⟩, .slice none 0 0], .agg #[.int .i64 0, .int .i64 0, .int .i64 0, .string ⟨#[]⟩, .string ⟨#[]⟩, .slice none 0 0]] : Array Value).toList 8 = some ([.agg [.lit (.int .i64 0), .agg [.lit (.int .i64 0), .lit (.int .i64 0), .lit (.string [])], .lit (.string []), .nil], .agg [.lit (.int .i64 0), .agg [.lit (.int .i64 0), .lit (.int .i64 0), .lit (.string [])], .lit (.string []), .nil]], [], places) :=
  ⟨[], by kernel_rfl⟩
set_option maxRecDepth 100000 in
theorem astExprs_lifted (os : Os) (started : os.Started) (H : Type) (enc : TypeId × Value → H) (F : Stop.Interp) :
    ReturnsInHanded {} Tryz.checked os 3 .any ((OpenSpec.ofChange Rows.astExprsSpec).preRow enc Tryz.prog Tryz.f3 Rows.astExprsRow.domain false Rows.astExprsRow.laid) (((OpenSpec.ofChange Rows.astExprsSpec).at F).post enc Tryz.prog Tryz.f3 false true false false) := by
  obtain ⟨places, hx⟩ := astExprs_reads os enc
  refine returnsInHanded_of_row (C := Tryz.checked) (s := OpenSpec.ofChange Rows.astExprsSpec) own started (by kernel_rfl) Tryz.func3
    (witness_row_at (enc := enc) (C := Tryz.checked) false (laidWorld os) #[.agg #[.int .i64 0, .int .i64 0, .int .i64 0, .string ⟨#[]⟩, .string ⟨#[]⟩, .slice none 0 0], .agg #[.int .i64 0, .int .i64 0, .int .i64 0, .string ⟨#[]⟩, .string ⟨#[]⟩, .slice none 0 0]] rfl (by kernel_rfl) (by kernel_rfl) (by kernel_rfl)
      (OpenSpec.preRow_of_cond 8 hx (by kernel_rfl) (fun k hk => by cases hk) (by kernel_rfl) (astExprs_laid_met os _))) ?_
  intro W base args ds gs before hval hW _ _ hsz hL hS _
  exact astExprs_contract H enc W base args ds gs before hval hW hL hS hsz
theorem astExprs_said : Rows.AstExprsSaid :=
  OpenClaim.holds_of_cond 3 Tryz.f3 rfl rfl rfl rfl rfl rfl rfl ⟨rfl, rfl, rfl, rfl, rfl⟩ rfl rfl rfl rfl rfl (by kernel_rfl) Tryz.func3 (by kernel_rfl)
    (of_decide_eq_true (by kernel_rfl)) (by unfold Func.isWrapper; first | (rw [if_pos (by decide +kernel)]; kernel_rfl) | (rw [if_neg (by decide +kernel)]; exact ⟨rfl, rfl⟩))
    (fun os started H enc _ F => by rw [OpenClaim.pre_eq_preRow]; exact astExprs_lifted os started H enc F)
theorem astExprs_plain (f : FuncId) (fn : Func) (hf : Tryz.pinned.checked.prog.funcNamed "exchequer/exchequerlaw13.AstExprs" = some f) (hfn : Tryz.pinned.checked.prog.funcs[f]? = some fn) :
    false = Tryz.pinned.checked.prog.looks [] ∧ ∀ (j : Nat) t, fn.params[j]? = some t → Tryz.pinned.checked.prog.wantsStandIn t = false := by
  obtain rfl : f = 3 := Option.some.inj ((show Tryz.prog.funcNamed "exchequer/exchequerlaw13.AstExprs" = some 3 by kernel_rfl).symm.trans hf) |>.symm
  obtain rfl : fn = Tryz.f3 := (Option.some.inj (Tryz.func3.symm.trans hfn)).symm
  refine ⟨by kernel_rfl, fun j t ht => ?_⟩
  have hall : (Tryz.f3.params.all fun t => !Tryz.prog.wantsStandIn t) = true := by kernel_rfl
  have := Array.all_eq_true_iff_forall_mem.1 hall t (Array.mem_of_getElem? ht)
  have h2 : Tryz.prog.wantsStandIn t = false := by simpa using this
  exact h2
/-- THE CARD -/
theorem astExprs_card : Rows.AstExprsCardSaid :=
  Claim7.holds_tied_plain_at .later [] _ _ _ _ astExprs_said (fun _ h => by cases h) (by kernel_rfl) (fun _ h => by cases h) astExprs_row_tie rfl ⟨rfl, rfl⟩ (by kernel_rfl) rfl astExprs_plain (by kernel_rfl)
end
#print axioms astExprs_card
end Go.Proofs.YthndhaolemgbdaaGreatDoor
