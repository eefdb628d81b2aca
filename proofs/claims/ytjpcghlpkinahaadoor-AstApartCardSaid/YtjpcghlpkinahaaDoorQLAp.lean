/- AstApart: two expressions, or statements, that are not the same, have two texts; on the condition of the row alone: that the package's tables hold what the program's text lays. -/
import Derived.Test.YtjpcghlpkinahaaDoorQ6
namespace Go.Proofs.YtjpcghlpkinahaaDoor
open Go.Ax Go.ChangeShapes Go.WideShapes Go.ChangeAt Go.RowKit Go.ChangeMaps
/-! ## exchequer/exchequerlaw13.AstApart -/
def lApart_px (R : Type) : Px R := ⟨ttOf ttL, glT, callT [(18, callOr [.sv .expr, .int .i64] [.int .i64] much1_F), (19, callOr [.sv .stmt, .int .i64] [.int .i64] rmuch_F), (20, callOr [] [.bool] known13_F), (21, callOr [.sv .expr] [.str, .int .i64] atext_F), (22, callOr [.sv .stmt] [.str, .int .i64] aprint_F), (23, callOr [.sv .expr, .sv .expr] [.bool] asame_F), (24, callOr [.sv .stmt, .sv .stmt] [.bool] astmts_F)], callQT [], loopT []⟩
def lApart_body (x : HV [.sv .expr, .sv .expr, .sv .stmt, .sv .stmt]) : Option (HV [.bool]) := match x with
 | (a, b, x, y) =>
  let j := fun (p : Bool) =>
   cond (p) (
    some known13) (
    cond (decide (600 ≤ (rmuch x 600))) (
     some known13) (
     cond (decide (600 ≤ (rmuch y 600))) (
      some known13) (
      (atext a).bind fun (x1, x2) =>
       (atext b).bind fun (x3, x4) =>
        (aprint x).bind fun (x5, x6) =>
         (aprint y).bind fun (x7, x8) =>
          let j4 := fun (p8 : Bool) =>
           let j3 := fun (p12 : Bool) =>
            let j2 := fun (p13 : Bool) =>
             let j1 := fun (p15 : Bool) =>
              cond (p15) (
               cond (decide (x6 = 0)) (
                some known13) (
                cond (decide (x5 = [])) (
                 some known13) (
                 some false))) (
               some false)
             cond (p13) (
              cond (decide (x2 = 0)) (
               j1 true) (
               j1 (decide (x1 = [])))) (
              j1 false)
            cond (p8) (
             j2 p12) (
             j2 false)
           cond (!decide (x6 = 0)) (
            j3 true) (
            cond (!decide (x8 = 0)) (
             j3 true) (
             j3 (decide ((decide (x5 = x7)) = (astmts x y)))))
          cond (!decide (x2 = 0)) (
           j4 true) (
           cond (!decide (x4 = 0)) (
            j4 true) (
            j4 (decide ((decide (x1 = x3)) = (asame a b))))))))
  cond (decide (600 ≤ (much1 a 600))) (
   j true) (
   j (decide (600 ≤ (much1 b 600))))
theorem lApart_eq : ∀ (x : HV [.sv .expr, .sv .expr, .sv .stmt, .sv .stmt]), runF (lApart_px _) Tryd.f5 [.sv .expr, .sv .expr, .sv .stmt, .sv .stmt] [.bool] x some = lApart_body x
  | (a, b, x, y) => by kernel_rfl
theorem lApart_run : FnOk Tryd.prog elT glT 5 [.sv .expr, .sv .expr, .sv .stmt, .sv .stmt] [.bool] (lApart_body) := by
  refine fnOk_run Tryd.func5 rfl (by kernel_rfl) follows (by kernel_rfl) (n := 0) (by kernel_rfl) (px := lApart_px _) (fun cx hP hel hgl => ?_) (lApart_eq)
  have hp0 : PxOk cx (lApart_px (HV [.bool])) := ⟨fun t => by rw [hP, hel]; exact tt_ok ttL_ok t, by rw [hgl]; rfl⟩
  have hc0 : CallOk cx (lApart_px (HV [.bool])) := callT_ok rfl (cfs_cons (cf_or (by rw [hP, hel, hgl]; exact much1_ok) (by kernel_rfl)) (cfs_cons (cf_or (by rw [hP, hel, hgl]; exact rmuch_ok) (by kernel_rfl)) (cfs_cons (cf_or (by rw [hP, hel, hgl]; exact known13_ok) (by kernel_rfl)) (cfs_cons (cf_or (by rw [hP, hel, hgl]; exact atext_ok) (by kernel_rfl)) (cfs_cons (cf_or (by rw [hP, hel, hgl]; exact aprint_ok) (by kernel_rfl)) (cfs_cons (cf_or (by rw [hP, hel, hgl]; exact asame_ok) (by kernel_rfl)) (cfs_cons (cf_or (by rw [hP, hel, hgl]; exact astmts_ok) (by kernel_rfl)) cfs_nil)))))))
  have hq0 : CallQOk cx (lApart_px (HV [.bool])) := callQT_ok rfl cqfs_nil
  exact ⟨hp0, hc0, hq0, all0⟩
theorem text_same {a b : Xpr} (ra : RX a) (rb : RX b) : decide (etx a = etx b) = asame a b := by
  have e : asame a b = decide (a = b) := xsame_dec a b
  rw [e]
  refine decide_eq_decide.2 ⟨fun h => ?_, fun h => by rw [h]⟩
  have h2 : etx a ++ [] = etx b ++ [] := by rw [h]
  exact (rx_split ra rb dl_nil dl_nil h2).1
theorem print_same {s t : Stm} (hs : checkB s = true) (ht : checkB t = true) (bs : BdStm s) (bt : BdStm t) : decide (printT s = printT t) = astmts s t := by
  have e : astmts s t = decide (s = t) := ssame_dec s t
  rw [e]
  exact decide_eq_decide.2 ⟨fun h => print_inj_s hs ht bs bt h, fun h => by rw [h]⟩
theorem lApart_true (a b : Xpr) (x y : Stm) (ba : BdExpr a) (bb : BdExpr b) (bx : BdStm x) (by' : BdStm y) (sa : SmExpr (R47, R47) a) (sb : SmExpr (R47, R47) b) (sx : SmStm (R47, R47) x) (sy : SmStm (R47, R47) y) : lApart_body (a, b, x, y) = some true := by
  simp only [lApart_body]
  by_cases ha : 600 ≤ much1 a 600
  · rw [decide_eq_true ha]; rfl
  by_cases hb : 600 ≤ much1 b 600
  · rw [decide_eq_false ha, decide_eq_true hb]; rfl
  by_cases hx : 600 ≤ rmuch x 600
  · rw [decide_eq_false ha, decide_eq_false hb, decide_eq_true hx]; rfl
  by_cases hy : 600 ≤ rmuch y 600
  · rw [decide_eq_false ha, decide_eq_false hb, decide_eq_false hx, decide_eq_true hy]; rfl
  have za := (much_size (Nat.le_refl _) (esize a) a 600 (Nat.le_refl _) sa (by omega) (by omega)).2.2 (by omega)
  have zb := (much_size (Nat.le_refl _) (esize b) b 600 (Nat.le_refl _) sb (by omega) (by omega)).2.2 (by omega)
  have fx := rmuch_few sx (by omega)
  have fy := rmuch_few sy (by omega)
  rw [decide_eq_false ha, decide_eq_false hb, decide_eq_false hx, decide_eq_false hy]
  have ta : ∃ s e, atext a = some (s, e) ∧ ((e = 0 ∧ s = etx a ∧ RX a) ∨ (e = 2 ∧ s = [])) := by
    cases h : eright a 30 with
    | true => exact ⟨_, _, text_ok h ba (by omega), .inl ⟨rfl, rfl, h, ba⟩⟩
    | false => exact ⟨_, _, text_no h, .inr ⟨rfl, rfl⟩⟩
  have tb : ∃ s e, atext b = some (s, e) ∧ ((e = 0 ∧ s = etx b ∧ RX b) ∨ (e = 2 ∧ s = [])) := by
    cases h : eright b 30 with
    | true => exact ⟨_, _, text_ok h bb (by omega), .inl ⟨rfl, rfl, h, bb⟩⟩
    | false => exact ⟨_, _, text_no h, .inr ⟨rfl, rfl⟩⟩
  have tx : ∃ s e, aprint x = some (s, e) ∧ ((e = 0 ∧ s = printT x ∧ checkB x = true) ∨ (e = 2 ∧ s = [])) := by
    cases h : checkB x with
    | true => exact ⟨_, _, aprint_ok' h bx fx, .inl ⟨rfl, rfl, rfl⟩⟩
    | false => exact ⟨_, _, aprint_no h fx, .inr ⟨rfl, rfl⟩⟩
  have ty : ∃ s e, aprint y = some (s, e) ∧ ((e = 0 ∧ s = printT y ∧ checkB y = true) ∨ (e = 2 ∧ s = [])) := by
    cases h : checkB y with
    | true => exact ⟨_, _, aprint_ok' h by' fy, .inl ⟨rfl, rfl, rfl⟩⟩
    | false => exact ⟨_, _, aprint_no h fy, .inr ⟨rfl, rfl⟩⟩
  obtain ⟨x1, x2, e1, h1⟩ := ta
  obtain ⟨x3, x4, e2, h2⟩ := tb
  obtain ⟨x5, x6, e3, h3⟩ := tx
  obtain ⟨x7, x8, e4, h4⟩ := ty
  rw [e1, e2, e3, e4]
  simp only [cond_f, Option.bind_some]
  have h12 : x2 = 0 → x4 = 0 → decide ((decide (x1 = x3)) = (asame a b)) = true := fun q1 q2 => by
    rcases h1 with ⟨_, rfl, r1⟩ | ⟨h, _⟩
    · rcases h2 with ⟨_, rfl, r2⟩ | ⟨h, _⟩
      · exact decide_eq_true (text_same r1 r2)
      · omega
    · omega
  have h34 : x6 = 0 → x8 = 0 → decide ((decide (x5 = x7)) = (astmts x y)) = true := fun q1 q2 => by
    rcases h3 with ⟨_, rfl, r1⟩ | ⟨h, _⟩
    · rcases h4 with ⟨_, rfl, r2⟩ | ⟨h, _⟩
      · exact decide_eq_true (print_same r1 r2 bx by')
      · omega
    · omega
  have h5 : x2 = 0 ∨ x1 = [] := h1.elim (fun h => .inl h.1) (fun h => .inr h.2)
  have h6 : x6 = 0 ∨ x5 = [] := h3.elim (fun h => .inl h.1) (fun h => .inr h.2)
  have d12 : cond (!decide (x2 = 0)) true (cond (!decide (x4 = 0)) true (decide ((decide (x1 = x3)) = (asame a b)))) = true := by
    by_cases q1 : x2 = 0
    · by_cases q2 : x4 = 0
      · rw [h12 q1 q2, decide_eq_true q1, decide_eq_true q2]; rfl
      · rw [decide_eq_true q1, decide_eq_false q2]; rfl
    · rw [decide_eq_false q1]; rfl
  have d34 : cond (!decide (x6 = 0)) true (cond (!decide (x8 = 0)) true (decide ((decide (x5 = x7)) = (astmts x y)))) = true := by
    by_cases q1 : x6 = 0
    · by_cases q2 : x8 = 0
      · rw [h34 q1 q2, decide_eq_true q1, decide_eq_true q2]; rfl
      · rw [decide_eq_true q1, decide_eq_false q2]; rfl
    · rw [decide_eq_false q1]; rfl
  have d5 : cond (decide (x2 = 0)) true (decide (x1 = [])) = true := by
    rcases h5 with h | h
    · rw [decide_eq_true h]; rfl
    · rw [decide_eq_true h]; cases decide (x2 = 0) <;> rfl
  have d6 : cond (decide (x6 = 0)) true (decide (x5 = [])) = true := by
    rcases h6 with h | h
    · rw [decide_eq_true h]; rfl
    · rw [decide_eq_true h]; cases decide (x6 = 0) <;> rfl
  clear h12 h34 h1 h2 h3 h4 h5 h6 e1 e2 e3 e4
  generalize decide ((decide (x1 = x3)) = (asame a b)) = p1 at *
  generalize decide ((decide (x5 = x7)) = (astmts x y)) = p2 at *
  generalize decide (x2 = 0) = q2 at *
  generalize decide (x4 = 0) = q4 at *
  generalize decide (x6 = 0) = q6 at *
  generalize decide (x8 = 0) = q8 at *
  generalize decide (x1 = []) = r1 at *
  generalize decide (x5 = []) = r5 at *
  cases p1 <;> cases p2 <;> cases q2 <;> cases q4 <;> cases q6 <;> cases q8 <;> cases r1 <;> cases r5 <;> first | rfl | exact absurd d12 (by decide) | exact absurd d34 (by decide) | exact absurd d5 (by decide) | exact absurd d6 (by decide)
theorem astApart_lists : Lists Rows.astApartRow.laid := by
  refine ⟨by kernel_rfl, ?_⟩
  simp [Rows.astApartRow]
set_option maxRecDepth 100000 in
theorem astApart_contract (H : Type) (enc : TypeId × Value → H) (W : World) (base : Nat) (args : Array Value) (ds gs : List (DataW H)) (before : List MemPlace)
    (hval : ∀ (j : Nat) t v, Tryd.f5.params[j]? = some t → args[j]? = some v → Value.okWide Tryd.prog W .any base t v)
    (hW : DataW.Whole enc Tryd.prog Tryd.f5.params.toList Rows.astApartSpec.vars false W args.toList ds gs before) (hL : laidMetH Tryd.prog Rows.astApartRow.laid W) (hS : W.ShapedOpen Tryd.prog)
    (hsz : (DataW.weightsEach Tryd.prog (Tryd.f5.params.toList ++ (OpenSpec.ofChange Rows.astApartSpec).bare.plain.varTypes Tryd.prog) (ds ++ gs)).all (· ≤ reachBytes) = true) :
    Calls Tryd.prog 5 args W fun e W' => ∃ v, e = .returned v ∧ Rows.astApartSpec.post enc Tryd.prog Tryd.f5 false true false false W args v W' :=
  law_frame (msr_weights _) (fn := Tryd.f5) lApart_run (fun x hb hs => lApart_true x.1 x.2.1 x.2.2.1 x.2.2.2 hb.1 hb.2.1 hb.2.2.1 hb.2.2.2 hs.1 hs.2.1 hs.2.2.1 hs.2.2.2) (by kernel_rfl) rfl (fun ds h => match ds, h with | [_, _, _, _], _ => ⟨rfl, rfl, rfl⟩) (by kernel_rfl) (by kernel_rfl) hval hW (all_glR astApart_lists hL hS) (fun hl => sizes_of hsz (Nat.le_of_eq hl))
theorem astApart_laid_met (os : Os) (args : Array Value) : laidMet Tryd.prog Rows.astApartRow.laid ((laidWorld os).forCall (fun _ _ => 0) ⟨#[], args, []⟩).memory :=
  laidMet_of_run' 8 (by kernel_rfl) (by kernel_rfl)
theorem astApart_reads (os : Os) {H : Type} (enc : TypeId × Value → H) : ∃ places, DataW.whole enc Tryd.prog ((laidWorld os).forCall (fun _ _ => 0) ⟨#[], #[.agg #[.int .i64 0, .int .i64 0, .int .i64 0, .string ⟨#[]⟩, .string ⟨#[]⟩, .slice none 0 0], .agg #[.int .i64 0, .int .i64 0, .int .i64 0, .string ⟨#[]⟩, .string ⟨#[]⟩, .slice none 0 0], .agg #[.int .i64 0, .string ⟨#[]⟩, .string ⟨#[]⟩, .slice none 0 0, .slice none 0 0, .slice none 0 0, .slice none 0 0, .slice none 0 0, .bool false, .int .i64 0, .int .i64 0, .int .i64 0, .string ⟨#[]⟩, .string ⟨#[]⟩, .slice none 0 0, .slice none 0 0, .slice none 0 0, .int .i64 0], .agg #[.int .i64 0, .string ⟨#[]⟩, .string ⟨#[]⟩, .slice none 0 0, .slice none 0 0, .slice none 0 0, .slice none 0 0, .slice none 0 0, .bool false, .int .i64 0, .int .i64 0, .int .i64 0, .string ⟨#[]⟩, .string ⟨#[]⟩, .slice none 0 0, .slice none 0 0, .slice none 0 0, .int .i64 0]], []⟩).memory Tryd.f5.params.toList Rows.astApartSpec.vars false (#[.agg #[.int .i64 0, .int .i64 0, .int .i64 0, .string ⟨#[]⟩, .string ⟨#[]⟩, .slice none 0 0], .agg #[.int .i64 0, .int .i64 0, .int .i64 0, .string ⟨#[]⟩, .string ⟨#[]⟩, .slice none 0 0], .agg #[.int .i64 0, .string ⟨#[]⟩, .string ⟨#[]⟩, .slice none 0 0, .slice none 0 0, .slice none 0 0, .slice none 0 0, .slice none 0 0, .bool false, .int .i64 0, .int .i64 0, .int .i64 0, .string ⟨#[]⟩, .string ⟨#[]⟩, .slice none 0 0, .slice none 0 0, .slice none 0 0, .int .i64 0], .agg #[.int .i64 0, .string ⟨#[]⟩, .string ⟨#[]⟩, .slice none 0 0, .slice none 0 0, .slice none 0 0, .slice none 0 0, .slice none 0 0, .bool false, .int .i64 0, .int .i64 0, .int .i64 0, .string ⟨#[]⟩, .string ⟨#[]⟩, .slice none 0 0, .slice none 0 0, .slice none 0 0, .int .i64 0]] : Array Value).toList 8 = some ([.agg [.lit (.int .i64 0), .agg [.lit (.int .i64 0), .lit (.int .i64 0), .lit (.string [])], .lit (.string []), .nil], .agg [.lit (.int .i64 0), .agg [.lit (.int .i64 0), .lit (.int .i64 0), .lit (.string [])], .lit (.string []), .nil], .agg [.lit (.int .i64 0), .lit (.string []), .lit (.string []), .nil, .nil, .nil, .nil, .nil, .lit (.bool false), .agg [.lit (.int .i64 0), .agg [.lit (.int .i64 0), .lit (.int .i64 0), .lit (.string [])], .lit (.string []), .nil], .nil, .nil, .lit (.int .i64 0)], .agg [.lit (.int .i64 0), .lit (.string []), .lit (.string []), .nil, .nil, .nil, .nil, .nil, .lit (.bool false), .agg [.lit (.int .i64 0), .agg [.lit (.int .i64 0), .lit (.int .i64 0), .lit (.string [])], .lit (.string []), .nil], .nil, .nil, .lit (.int .i64 0)]], [], places) :=
  ⟨[], by kernel_rfl⟩
set_option maxRecDepth 100000 in
theorem astApart_lifted (os : Os) (started : os.Started) (H : Type) (enc : TypeId × Value → H) (F : Stop.Interp) :
    ReturnsInHanded {} Tryd.checked os 5 .any ((OpenSpec.ofChange Rows.astApartSpec).preRow enc Tryd.prog Tryd.f5 Rows.astApartRow.domain false Rows.astApartRow.laid) (((OpenSpec.ofChange Rows.astApartSpec).at F).post enc Tryd.prog Tryd.f5 false true false false) := by
  obtain ⟨places, hx⟩ := astApart_reads os enc
  refine returnsInHanded_of_row (C := Tryd.checked) (s := OpenSpec.ofChange Rows.astApartSpec) own started (by kernel_rfl) Tryd.func5
    (witness_row_at (enc := enc) (C := Tryd.checked) false (laidWorld os) #[.agg #[.int .i64 0, .int .i64 0, .int .i64 0, .string ⟨#[]⟩, .string ⟨#[]⟩, .slice none 0 0], .agg #[.int .i64 0, .int .i64 0, .int .i64 0, .string ⟨#[]⟩, .string ⟨#[]⟩, .slice none 0 0], .agg #[.int .i64 0, .string ⟨#[]⟩, .string ⟨#[]⟩, .slice none 0 0, .slice none 0 0, .slice none 0 0, .slice none 0 0, .slice none 0 0, .bool false, .int .i64 0, .int .i64 0, .int .i64 0, .string ⟨#[]⟩, .string ⟨#[]⟩, .slice none 0 0, .slice none 0 0, .slice none 0 0, .int .i64 0], .agg #[.int .i64 0, .string ⟨#[]⟩, .string ⟨#[]⟩, .slice none 0 0, .slice none 0 0, .slice none 0 0, .slice none 0 0, .slice none 0 0, .bool false, .int .i64 0, .int .i64 0, .int .i64 0, .string ⟨#[]⟩, .string ⟨#[]⟩, .slice none 0 0, .slice none 0 0, .slice none 0 0, .int .i64 0]] rfl (by kernel_rfl) (by kernel_rfl) (by kernel_rfl)
      (OpenSpec.preRow_of_cond 8 hx (by kernel_rfl) (fun k hk => by cases hk) (by kernel_rfl) (astApart_laid_met os _))) ?_
  intro W base args ds gs before hval hW _ _ hsz hL hS _
  exact astApart_contract H enc W base args ds gs before hval hW hL hS hsz
theorem astApart_said : Rows.AstApartSaid :=
  OpenClaim.holds_of_cond 5 Tryd.f5 rfl rfl rfl rfl rfl rfl rfl ⟨rfl, rfl, rfl, rfl, rfl⟩ rfl rfl rfl rfl rfl (by kernel_rfl) Tryd.func5 (by kernel_rfl)
    (of_decide_eq_true (by kernel_rfl)) (by unfold Func.isWrapper; first | (rw [if_pos (by decide +kernel)]; kernel_rfl) | (rw [if_neg (by decide +kernel)]; exact ⟨rfl, rfl⟩))
    (fun os started H enc _ F => by rw [OpenClaim.pre_eq_preRow]; exact astApart_lifted os started H enc F)
theorem astApart_plain (f : FuncId) (fn : Func) (hf : Tryd.pinned.checked.prog.funcNamed "exchequer/exchequerlaw13.AstApart" = some f) (hfn : Tryd.pinned.checked.prog.funcs[f]? = some fn) :
    false = Tryd.pinned.checked.prog.looks [] ∧ ∀ (j : Nat) t, fn.params[j]? = some t → Tryd.pinned.checked.prog.wantsStandIn t = false := by
  obtain rfl : f = 5 := Option.some.inj ((show Tryd.prog.funcNamed "exchequer/exchequerlaw13.AstApart" = some 5 by kernel_rfl).symm.trans hf) |>.symm
  obtain rfl : fn = Tryd.f5 := (Option.some.inj (Tryd.func5.symm.trans hfn)).symm
  refine ⟨by kernel_rfl, fun j t ht => ?_⟩
  have hall : (Tryd.f5.params.all fun t => !Tryd.prog.wantsStandIn t) = true := by kernel_rfl
  have := Array.all_eq_true_iff_forall_mem.1 hall t (Array.mem_of_getElem? ht)
  have h2 : Tryd.prog.wantsStandIn t = false := by simpa using this
  exact h2
/-- THE CARD -/
theorem astApart_card : Rows.AstApartCardSaid :=
  Claim7.holds_tied_plain_at .later [] _ _ _ _ astApart_said (fun _ h => by cases h) (by kernel_rfl) (fun _ h => by cases h) astApart_row_tie rfl ⟨rfl, rfl⟩ (by kernel_rfl) rfl astApart_plain (by kernel_rfl)
#print axioms astApart_card
end Go.Proofs.YtjpcghlpkinahaaDoor
