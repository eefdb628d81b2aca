/- AstHurt: a statement is none any more with another kind's field, with a name that is none, with a name twice, with an expression that is none; on the condition of the row alone: that the package's tables hold what the program's text lays. -/
import Derived.Test.YtjpcghlpkinahaaDoorQ6
namespace Go.Proofs.YtjpcghlpkinahaaDoor
open Go.Ax Go.ChangeShapes Go.WideShapes Go.ChangeAt Go.RowKit Go.ChangeMaps
/-! ## exchequer/exchequerlaw13.AstHurt -/
def lHurt_px (R : Type) : Px R := ⟨ttOf ttL, glT, callT [(19, callOr [.sv .stmt, .int .i64] [.int .i64] rmuch_F), (32, callOr [.sv .stmt] [.int .i64] acheck_F), (20, callOr [] [.bool] known13_F), (27, callOr [.str] [.sv .expr] lnm_F), (22, callOr [.sv .stmt] [.str, .int .i64] aprint_F)], callQT [], loopT []⟩
def lHurt_body (x : HV [.sv .stmt, .int .u8]) : Option (HV [.bool]) := match x with
 | (s, how) =>
  cond (decide (600 ≤ (rmuch s 600))) (
   some known13) (
   (acheck s).bind fun x =>
    cond (!decide (x = 0)) (
     some known13) (
     let j1 := fun (q1 : Stm) =>
      (aprint q1).bind fun (x1, x2) =>
       (acheck q1).bind fun x3 =>
        let j := fun (p2 : Bool) =>
         cond (p2) (
          cond (decide (x1 = [])) (
           some known13) (
           some false)) (
          some false)
        cond (decide (x3 = 2)) (
         j (decide (x2 = 2))) (
         j false)
     cond (decide ((Int.tmod how 9) = 0)) (
      j1 (Stm.mk 9 s.name s.on s.cols s.names s.l s.rows s.sets s.has (xeta s.whr) s.order s.desc s.most)) (
      cond (decide ((Int.tmod how 9) = 1)) (
       j1 (Stm.mk s.kind [65] s.on s.cols s.names s.l s.rows s.sets s.has (xeta s.whr) s.order s.desc s.most)) (
       cond (decide ((Int.tmod how 9) = 2)) (
        cond (decide (s.kind = 3)) (
         chk (decide (s.on.length + [45].length ≤ maxStr)) (
          j1 (Stm.mk s.kind s.name (s.on ++ [45]) s.cols s.names s.l s.rows s.sets s.has (xeta (lnm [97])) s.order s.desc s.most))) (
         chk (decide (s.on.length + [45].length ≤ maxStr)) (
          j1 (Stm.mk s.kind s.name (s.on ++ [45]) s.cols s.names s.l s.rows s.sets s.has (xeta s.whr) s.order s.desc s.most)))) (
        cond (decide ((Int.tmod how 9) = 3)) (
         j1 (Stm.mk s.kind s.name s.on s.cols s.names s.l s.rows s.sets s.has (Xpr.mk 4 ⟨0, 0, []⟩ [] []) s.order s.desc s.most)) (
         cond (decide ((Int.tmod how 9) = 4)) (
          j1 (Stm.mk s.kind s.name s.on s.cols s.names s.l s.rows s.sets s.has (xeta s.whr) [[97], [97]] [false, false] s.most)) (
          cond (decide ((Int.tmod how 9) = 5)) (
           j1 (Stm.mk s.kind s.name s.on s.cols [[97], [97]] s.l s.rows s.sets s.has (xeta s.whr) s.order s.desc s.most)) (
           cond (decide ((Int.tmod how 9) = 6)) (
            j1 (Stm.mk s.kind s.name s.on s.cols s.names [(Xpr.mk 4 ⟨0, 0, []⟩ [] [])] s.rows s.sets s.has (xeta s.whr) s.order s.desc s.most)) (
            cond (decide ((Int.tmod how 9) = 7)) (
             j1 (Stm.mk s.kind s.name s.on s.cols s.names s.l [[]] s.sets s.has (xeta s.whr) s.order s.desc s.most)) (
             j1 (Stm.mk s.kind s.name s.on [(Col.mk [97] 1 false false [])] s.names s.l s.rows s.sets s.has (xeta s.whr) s.order s.desc s.most)))))))))))
theorem lHurt_eq : ∀ (x : HV [.sv .stmt, .int .u8]), runF (lHurt_px _) Tryd.f7 [.sv .stmt, .int .u8] [.bool] x some = lHurt_body x
  | (s, how) => by kernel_rfl
theorem lHurt_run : FnOk Tryd.prog elT glT 7 [.sv .stmt, .int .u8] [.bool] (lHurt_body) := by
  refine fnOk_run Tryd.func7 rfl (by kernel_rfl) follows (by kernel_rfl) (n := 0) (by kernel_rfl) (px := lHurt_px _) (fun cx hP hel hgl => ?_) (lHurt_eq)
  have hp0 : PxOk cx (lHurt_px (HV [.bool])) := ⟨fun t => by rw [hP, hel]; exact tt_ok ttL_ok t, by rw [hgl]; rfl⟩
  have hc0 : CallOk cx (lHurt_px (HV [.bool])) := callT_ok rfl (cfs_cons (cf_or (by rw [hP, hel, hgl]; exact rmuch_ok) (by kernel_rfl)) (cfs_cons (cf_or (by rw [hP, hel, hgl]; exact acheck_ok) (by kernel_rfl)) (cfs_cons (cf_or (by rw [hP, hel, hgl]; exact known13_ok) (by kernel_rfl)) (cfs_cons (cf_or (by rw [hP, hel, hgl]; exact lnm_ok) (by kernel_rfl)) (cfs_cons (cf_or (by rw [hP, hel, hgl]; exact aprint_ok) (by kernel_rfl)) cfs_nil)))))
  have hq0 : CallQOk cx (lHurt_px (HV [.bool])) := callQT_ok rfl cqfs_nil
  exact ⟨hp0, hc0, hq0, all0⟩
theorem bad_check {q : Stm} (h : checkB q = false) (hc : q.cols.length ≤ 1000000) (hs : q.sets.length ≤ 1000000) : acheck q = some 2 := by
  simp only [acheck, h]
  rw [if_pos ⟨hc, hs⟩]
  rfl
theorem bad_print {q : Stm} (h : acheck q = some 2) : aprint q = some ([], 2) := by
  simp only [aprint, h, Option.bind_some]
  rfl
theorem cb_no {q : Stm} (h : arest q ≠ noS) : checkB q = false := by
  simp only [checkB, decide_eq_false h, Bool.and_false, Bool.false_and]
theorem cb_kind {q : Stm} (h : q.kind = 9) : checkB q = false := by simp [checkB, h]
theorem cb_name {q : Stm} (h : lname q.name = false) : checkB q = false := by simp [checkB, h]
theorem no_of {α : Type} {q : Stm} (f : Stm → α) (h : f (arest q) ≠ f noS) : checkB q = false := cb_no fun e => h (by rw [e])
theorem ar_on {q : Stm} (h : q.kind ≠ 3) : (arest q).on = q.on := by
  unfold arest
  repeat' split
  all_goals first | rfl | contradiction
theorem ar_whr {q : Stm} (h : ¬ (q.kind = 6 ∨ q.kind = 7 ∨ q.kind = 8)) : (arest q).whr = q.whr := by
  unfold arest
  repeat' split
  all_goals first | rfl | omega
theorem ar_order {q : Stm} (h : q.kind ≠ 8) : (arest q).order = q.order := by
  unfold arest
  repeat' split
  all_goals first | rfl | contradiction
theorem ar_names {q : Stm} (h : ¬ (q.kind = 1 ∨ q.kind = 3)) : (arest q).names = q.names := by
  unfold arest
  repeat' split
  all_goals first | rfl | omega
theorem ar_l {q : Stm} (h : ¬ (q.kind = 1 ∨ q.kind = 8)) : (arest q).l = q.l := by
  unfold arest
  repeat' split
  all_goals first | rfl | omega
theorem ar_rows {q : Stm} (h : q.kind ≠ 5) : (arest q).rows = q.rows := by
  unfold arest
  repeat' split
  all_goals first | rfl | contradiction
theorem ar_cols {q : Stm} (h : q.kind ≠ 1) : (arest q).cols = q.cols := by
  unfold arest
  repeat' split
  all_goals first | rfl | contradiction
def badX : Xpr := .mk 4 ⟨0, 0, []⟩ [] []
theorem bad_right : eright badX 30 = false := by decide +kernel
theorem cb_whr {q : Stm} (h : awhere q = false) (hw : q.whr ≠ noX) : checkB q = false := by
  by_cases hk : q.kind = 6 ∨ q.kind = 7 ∨ q.kind = 8
  · rcases hk with k | k | k <;> simp [checkB, k, h]
  · exact no_of (·.whr) (by rw [ar_whr hk]; exact hw)
theorem cb_on {q : Stm} (h : q.on ≠ []) (h3 : q.kind = 3 → q.whr ≠ noX) : checkB q = false := by
  by_cases hk : q.kind = 3
  · exact no_of (·.whr) (by rw [ar_whr (by omega)]; exact h3 hk)
  · exact no_of (·.on) (by rw [ar_on hk]; exact h)
theorem aa_once : aonce [[97], [97]] = false := by decide +kernel
theorem cb_order {q : Stm} (h : q.order = [[97], [97]]) : checkB q = false := by
  by_cases hk : q.kind = 8
  · simp [checkB, hk, h, aa_once]
  · exact no_of (·.order) (by rw [ar_order hk, h]; simp [noS])
theorem cb_names {q : Stm} (h : q.names = [[97], [97]]) : checkB q = false := by
  by_cases hk : q.kind = 1 ∨ q.kind = 3
  · rcases hk with k | k <;> simp [checkB, k, h, aa_once]
  · exact no_of (·.names) (by rw [ar_names hk, h]; simp [noS])
theorem bad_exprs : aexprs [badX] = false := by decide +kernel
theorem cb_l {q : Stm} (h : q.l = [badX]) : checkB q = false := by
  by_cases hk : q.kind = 1 ∨ q.kind = 8
  · rcases hk with k | k <;> simp [checkB, k, h, bad_exprs]
  · exact no_of (·.l) (by rw [ar_l hk, h]; simp [noS])
theorem bad_rows : arows [[]] = false := by decide +kernel
theorem cb_rows {q : Stm} (h : q.rows = [[]]) : checkB q = false := by
  by_cases hk : q.kind = 5
  · simp [checkB, hk, h, bad_rows]
  · exact no_of (·.rows) (by rw [ar_rows hk, h]; simp [noS])
theorem cb_cols {q : Stm} (h : q.cols = [Col.mk [97] 1 false false []]) : checkB q = false := by
  by_cases hk : q.kind = 1
  · simp [checkB, hk, h, colOk]
  · exact no_of (·.cols) (by rw [ar_cols hk, h]; simp [noS])
theorem lHurt_true (s : Stm) (how : Int) (hs : SmStm (R47, R47) s) : lHurt_body (s, how) = some true := by
  simp only [lHurt_body, xeta_eq]
  by_cases hm : 600 ≤ rmuch s 600
  · rw [decide_eq_true hm]; rfl
  rw [decide_eq_false hm, cond_f]
  have hf := rmuch_few hs (by omega)
  have hc : s.cols.length ≤ 1000000 := by have := hf.cols; omega
  have ht : s.sets.length ≤ 1000000 := by have := hf.sets.1; omega
  have hon : decide (s.on.length + [45].length ≤ maxStr) = true := decide_eq_true (by
    have := hf.name
    simp only [List.length_cons, List.length_nil, maxStr]
    omega)
  have ha : acheck s = some (cond (checkB s) 0 2) := if_pos ⟨hc, ht⟩
  rw [ha, Option.bind_some, hon]
  cases hb : checkB s with
  | false => rfl
  | true =>
    have fin : ∀ q : Stm, checkB q = false → q.cols.length ≤ 1000000 → q.sets.length ≤ 1000000 → ((aprint q).bind fun x => (acheck q).bind fun x3 => cond (decide (x3 = 2)) (cond (decide (x.2 = 2)) (cond (decide (x.1 = [])) (some known13) (some false)) (some false)) (some false)) = some true := fun q h1 h2 h3 => by
      have h4 := bad_check h1 h2 h3
      rw [bad_print h4, h4]
      rfl
    simp only [cond_t, cond_f, chk, decide_true, Bool.not_true]
    by_cases e0 : Int.tmod how 9 = 0
    · rw [decide_eq_true e0, cond_t]
      exact fin _ (cb_kind rfl) hc ht
    rw [decide_eq_false e0, cond_f]
    by_cases e1 : Int.tmod how 9 = 1
    · rw [decide_eq_true e1, cond_t]
      exact fin _ (cb_name (show lname ([65] : Str) = false by decide +kernel)) hc ht
    rw [decide_eq_false e1, cond_f]
    by_cases e2 : Int.tmod how 9 = 2
    · rw [decide_eq_true e2, cond_t]
      by_cases k3 : s.kind = 3
      · rw [decide_eq_true k3, cond_t]
        exact fin _ (cb_on (by simp) (fun _ => by simp [lnm, noX])) hc ht
      · rw [decide_eq_false k3, cond_f]
        exact fin _ (cb_on (by simp) (fun h => absurd h k3)) hc ht
    rw [decide_eq_false e2, cond_f]
    by_cases e3 : Int.tmod how 9 = 3
    · rw [decide_eq_true e3, cond_t]
      refine fin _ (cb_whr ?_ (by simp [noX])) hc ht
      rw [awhere_is]
      cases s.has with
      | true => exact bad_right
      | false => rfl
    rw [decide_eq_false e3, cond_f]
    by_cases e4 : Int.tmod how 9 = 4
    · rw [decide_eq_true e4, cond_t]
      exact fin _ (cb_order rfl) hc ht
    rw [decide_eq_false e4, cond_f]
    by_cases e5 : Int.tmod how 9 = 5
    · rw [decide_eq_true e5, cond_t]
      exact fin _ (cb_names rfl) hc ht
    rw [decide_eq_false e5, cond_f]
    by_cases e6 : Int.tmod how 9 = 6
    · rw [decide_eq_true e6, cond_t]
      exact fin _ (cb_l rfl) hc ht
    rw [decide_eq_false e6, cond_f]
    by_cases e7 : Int.tmod how 9 = 7
    · rw [decide_eq_true e7, cond_t]
      exact fin _ (cb_rows rfl) hc ht
    rw [decide_eq_false e7, cond_f]
    exact fin _ (cb_cols rfl) (by simp) ht
theorem astHurt_lists : Lists Rows.astHurtRow.laid := by
  refine ⟨by kernel_rfl, ?_⟩
  simp [Rows.astHurtRow]
set_option maxRecDepth 100000 in
theorem astHurt_contract (H : Type) (enc : TypeId × Value → H) (W : World) (base : Nat) (args : Array Value) (ds gs : List (DataW H)) (before : List MemPlace)
    (hval : ∀ (j : Nat) t v, Tryd.f7.params[j]? = some t → args[j]? = some v → Value.okWide Tryd.prog W .any base t v)
    (hW : DataW.Whole enc Tryd.prog Tryd.f7.params.toList Rows.astHurtSpec.vars false W args.toList ds gs before) (hL : laidMetH Tryd.prog Rows.astHurtRow.laid W) (hS : W.ShapedOpen Tryd.prog)
    (hsz : (DataW.weightsEach Tryd.prog (Tryd.f7.params.toList ++ (OpenSpec.ofChange Rows.astHurtSpec).bare.plain.varTypes Tryd.prog) (ds ++ gs)).all (· ≤ reachBytes) = true) :
    Calls Tryd.prog 7 args W fun e W' => ∃ v, e = .returned v ∧ Rows.astHurtSpec.post enc Tryd.prog Tryd.f7 false true false false W args v W' :=
  law_frame (msr_weights _) (fn := Tryd.f7) lHurt_run (fun x _ hs => lHurt_true x.1 x.2 hs.1) (by kernel_rfl) rfl (fun ds h => match ds, h with | [_, _], _ => ⟨rfl, rfl, rfl⟩) (by kernel_rfl) (by kernel_rfl) hval hW (all_glR astHurt_lists hL hS) (fun hl => sizes_of hsz (Nat.le_of_eq hl))
theorem astHurt_laid_met (os : Os) (args : Array Value) : laidMet Tryd.prog Rows.astHurtRow.laid ((laidWorld os).forCall (fun _ _ => 0) ⟨#[], args, []⟩).memory :=
  laidMet_of_run' 8 (by kernel_rfl) (by kernel_rfl)
theorem astHurt_reads (os : Os) {H : Type} (enc : TypeId × Value → H) : ∃ places, DataW.whole enc Tryd.prog ((laidWorld os).forCall (fun _ _ => 0) ⟨#[], #[.agg #[.int .i64 0, .string ⟨#[]⟩, .string ⟨#[]⟩, .slice none 0 0, .slice none 0 0, .slice none 0 0, .slice none 0 0, .slice none 0 0, .bool false, .int .i64 0, .int .i64 0, .int .i64 0, .string ⟨#[]⟩, .string ⟨#[]⟩, .slice none 0 0, .slice none 0 0, .slice none 0 0, .int .i64 0], .int .u8 0], []⟩).memory Tryd.f7.params.toList Rows.astHurtSpec.vars false (#[.agg #[.int .i64 0, .string ⟨#[]⟩, .string ⟨#[]⟩, .slice none 0 0, .slice none 0 0, .slice none 0 0, .slice none 0 0, .slice none 0 0, .bool false, .int .i64 0, .int .i64 0, .int .i64 0, .string ⟨#[]⟩, .string ⟨#[]⟩, .slice none 0 0, .slice none 0 0, .slice none 0 0, .int .i64 0], .int .u8 0] : Array Value).toList 8 = some ([.agg [.lit (.int .i64 0), .lit (.string []), .lit (.string []), .nil, .nil, .nil, .nil, .nil, .lit (.bool false), .agg [.lit (.int .i64 0), .agg [.lit (.int .i64 0), .lit (.int .i64 0), .lit (.string [])], .lit (.string []), .nil], .nil, .nil, .lit (.int .i64 0)], .lit (.int .u8 0)], [], places) :=
  ⟨[], by kernel_rfl⟩
set_option maxRecDepth 100000 in
theorem astHurt_lifted (os : Os) (started : os.Started) (H : Type) (enc : TypeId × Value → H) (F : Stop.Interp) :
    ReturnsInHanded {} Tryd.checked os 7 .any ((OpenSpec.ofChange Rows.astHurtSpec).preRow enc Tryd.prog Tryd.f7 Rows.astHurtRow.domain false Rows.astHurtRow.laid) (((OpenSpec.ofChange Rows.astHurtSpec).at F).post enc Tryd.prog Tryd.f7 false true false false) := by
  obtain ⟨places, hx⟩ := astHurt_reads os enc
  refine returnsInHanded_of_row (C := Tryd.checked) (s := OpenSpec.ofChange Rows.astHurtSpec) own started (by kernel_rfl) Tryd.func7
    (witness_row_at (enc := enc) (C := Tryd.checked) false (laidWorld os) #[.agg #[.int .i64 0, .string ⟨#[]⟩, .string ⟨#[]⟩, .slice none 0 0, .slice none 0 0, .slice none 0 0, .slice none 0 0, .slice none 0 0, .bool false, .int .i64 0, .int .i64 0, .int .i64 0, .string ⟨#[]⟩, .string ⟨#[]⟩, .slice none 0 0, .slice none 0 0, .slice none 0 0, .int .i64 0], .int .u8 0] rfl (by kernel_rfl) (by kernel_rfl) (by kernel_rfl)
      (OpenSpec.preRow_of_cond 8 hx (by kernel_rfl) (fun k hk => by cases hk) (by kernel_rfl) (astHurt_laid_met os _))) ?_
  intro W base args ds gs before hval hW _ _ hsz hL hS _
  exact astHurt_contract H enc W base args ds gs before hval hW hL hS hsz
theorem astHurt_said : Rows.AstHurtSaid :=
  OpenClaim.holds_of_cond 7 Tryd.f7 rfl rfl rfl rfl rfl rfl rfl ⟨rfl, rfl, rfl, rfl, rfl⟩ rfl rfl rfl rfl rfl (by kernel_rfl) Tryd.func7 (by kernel_rfl)
    (of_decide_eq_true (by kernel_rfl)) (by unfold Func.isWrapper; first | (rw [if_pos (by decide +kernel)]; kernel_rfl) | (rw [if_neg (by decide +kernel)]; exact ⟨rfl, rfl⟩))
    (fun os started H enc _ F => by rw [OpenClaim.pre_eq_preRow]; exact astHurt_lifted os started H enc F)
theorem astHurt_plain (f : FuncId) (fn : Func) (hf : Tryd.pinned.checked.prog.funcNamed "exchequer/exchequerlaw13.AstHurt" = some f) (hfn : Tryd.pinned.checked.prog.funcs[f]? = some fn) :
    false = Tryd.pinned.checked.prog.looks [] ∧ ∀ (j : Nat) t, fn.params[j]? = some t → Tryd.pinned.checked.prog.wantsStandIn t = false := by
  obtain rfl : f = 7 := Option.some.inj ((show Tryd.prog.funcNamed "exchequer/exchequerlaw13.AstHurt" = some 7 by kernel_rfl).symm.trans hf) |>.symm
  obtain rfl : fn = Tryd.f7 := (Option.some.inj (Tryd.func7.symm.trans hfn)).symm
  refine ⟨by kernel_rfl, fun j t ht => ?_⟩
  have hall : (Tryd.f7.params.all fun t => !Tryd.prog.wantsStandIn t) = true := by kernel_rfl
  have := Array.all_eq_true_iff_forall_mem.1 hall t (Array.mem_of_getElem? ht)
  have h2 : Tryd.prog.wantsStandIn t = false := by simpa using this
  exact h2
/-- THE CARD -/
theorem astHurt_card : Rows.AstHurtCardSaid :=
  Claim7.holds_tied_plain_at .later [] _ _ _ _ astHurt_said (fun _ h => by cases h) (by kernel_rfl) (fun _ h => by cases h) astHurt_row_tie rfl ⟨rfl, rfl⟩ (by kernel_rfl) rfl astHurt_plain (by kernel_rfl)
#print axioms astHurt_card
end Go.Proofs.YtjpcghlpkinahaaDoor
