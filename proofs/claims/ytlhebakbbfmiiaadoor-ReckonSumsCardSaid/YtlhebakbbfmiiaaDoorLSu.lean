/- ReckonSums: sums and products of any two numbers, known or not, hang on no order, fail in both orders, and are not known if one is not; a difference with itself is nothing; on the condition of the row alone: that ast.signs holds what the program's text lays. -/
import Derived.Test.YtlhebakbbfmiiaaDoorFf
import Derived.Test.YtlhebakbbfmiiaaDoorFrE
import Derived.Test.YtlhebakbbfmiiaaDoorAr
namespace Go.Proofs.YtlhebakbbfmiiaaDoor
open Go.Ax Go.ChangeShapes Go.WideShapes Go.ChangeAt Go.RowKit Go.ChangeMaps
/-! ## exchequer/exchequerlaw15.ReckonSums -/
def lSums_0_sg : Sig := ⟨132, [(4, .bool), (5, .sl .col true), (6, .sl .val true), (9, .int .i64)], [(2, .ptr 0 0), (3, .ptr 1 0), (7, .ptr 2 0), (8, .ptr 3 0)], [(0, .one (.sv .val)), (1, .one (.sv .val)), (2, .one (.sv .expr)), (3, .one (.sv .expr))], 4, 0, 0, []⟩
abbrev lSums_0_V := Bool × List Col × List Val × Int × Val × Val × Xpr × Xpr
def lSums_0 {R : Type} (rec : lSums_0_V → Option R) (kx : Ex → lSums_0_V → Option R) (v : lSums_0_V) : Option R := match v with
 | (v, v1, v2, v3, w, w1, w2, w3) =>
  cond (decide (v3 < 2)) (
   chk (inb v3 2) (
    let j2 := fun (_ : Unit) =>
     let j1 := fun (p6 : Bool) =>
      cond (p6) (
       cond (!decide (((evalX (ltwo (at' .int [12, 14] v3) w2 w3) v1 v2).1).kind = 1)) (
        kx .ret (false, v1, v2, v3, w, w1, w2, w3)) (
        cond (!decide ((evalX (ltwo (at' .int [12, 14] v3) w2 w3) v1 v2).2 = 0)) (
         kx .ret (false, v1, v2, v3, w, w1, w2, w3)) (
         rec (v, v1, v2, (wr .i64 (v3 + 1)), w, w1, w2, w3)))) (
       rec (v, v1, v2, (wr .i64 (v3 + 1)), w, w1, w2, w3))
     cond (decide (w.kind = 1)) (
      j1 true) (
      j1 (decide (w1.kind = 1)))
    let j := fun (p2 : Bool) =>
     cond (p2) (
      kx .ret (false, v1, v2, v3, w, w1, w2, w3)) (
      cond (!decide ((evalX (ltwo (at' .int [12, 14] v3) w2 w3) v1 v2).2 = 0)) (
       cond (!decide ((evalX (ltwo (at' .int [12, 14] v3) w2 w3) v1 v2).2 = 20)) (
        kx .ret (false, v1, v2, v3, w, w1, w2, w3)) (
        j2 ())) (
       j2 ()))
    cond (!decide (((evalX (ltwo (at' .int [12, 14] v3) w2 w3) v1 v2).1) = ((evalX (ltwo (at' .int [12, 14] v3) w3 w2) v1 v2).1))) (
     j true) (
     j (!decide ((evalX (ltwo (at' .int [12, 14] v3) w2 w3) v1 v2).2 = (evalX (ltwo (at' .int [12, 14] v3) w3 w2) v1 v2).2))))) (
   kx (.exit 0) (v, v1, v2, v3, w, w1, w2, w3))
def lSums_px (R : Type) (k : Nat) : Px R := ⟨ttOf ttL, glT, callT [(19, callOr [.sv .val, .int .i64] [.bool] rfits2_F), (10, callOr [] [.bool] known_F), (22, callOr [.int .i64, .sv .expr, .sv .expr] [.sv .expr] ltwo_F), (13, callOr [.sv .expr, .sl .col false, .sl .val false] [.sv .val, .int .i64] evalX_F)], callQT [], loopT [(8, loopOr k lSums_0_sg (lSums_0))]⟩
theorem lSums_0_eq (R : Type) (k : Nat) : ∀ (fr : List Fr) (rec : lSums_0_V → Option R) (kx : Ex → lSums_0_V → Option R) (v : lSums_0_V), round (lSums_px R k) lSums_0_sg (lp Tryd.f8 0) fr rec kx v = lSums_0 rec kx v
  | fr, rec, kx, (v, v1, v2, v3, w, w1, w2, w3) => by kernel_rfl
def lSums_body (k : Nat) (x : HV [.sv .val, .sv .val]) : Option (HV [.bool]) := match x with
 | (a, b) =>
  cond (!(rfits2 a 3)) (
   some known) (
   cond (!(rfits2 b 3)) (
    some known) (
    iter (fun rec => lSums_0 rec (fun e v => match v with | (v4, v5, v6, _, v8, _, v10, _) => match e with
     | .ret =>
      some v4
     | .exit 0 =>
      cond (decide (v8.kind = 1)) (
       cond (decide (((evalX (ltwo 13 v10 v10) v5 v6).1).kind = 1)) (
        cond (decide ((evalX (ltwo 13 v10 v10) v5 v6).2 = 0)) (
         some known) (
         some false)) (
        some false)) (
       let j3 := fun (p14 : Bool) =>
        cond (p14) (
         cond (decide ((evalX (ltwo 13 v10 v10) v5 v6).2 = 0)) (
          some known) (
          some false)) (
         some false)
       cond (decide (((evalX (ltwo 13 v10 v10) v5 v6).1).kind = 3)) (
        j3 (decide (((evalX (ltwo 13 v10 v10) v5 v6).1).n = 0))) (
        j3 false))
     | _ => none)) k (false, [(Col.mk [97] 3 false false []), (Col.mk [98] 3 false false [])], [a, b], 0, a, b, (Xpr.mk 2 ⟨0, 0, []⟩ [97] []), (Xpr.mk 2 ⟨0, 0, []⟩ [98] []))))
theorem lSums_eq (k : Nat) : ∀ (x : HV [.sv .val, .sv .val]), runF (lSums_px _ k) Tryd.f8 [.sv .val, .sv .val] [.bool] x some = lSums_body k x
  | (a, b) => by kernel_rfl
theorem lSums_run (k : Nat) : FnOk Tryd.prog elT glT 8 [.sv .val, .sv .val] [.bool] (lSums_body k) := by
  refine fnOk_run Tryd.func8 rfl (by kernel_rfl) follows (by kernel_rfl) (n := 1) (by kernel_rfl) (px := lSums_px _ k) (fun cx hP hel hgl => ?_) (lSums_eq k)
  have hp0 : PxOk cx (lSums_px (HV [.bool]) k) := ⟨fun t => by rw [hP, hel]; exact tt_ok ttL_ok t, by rw [hgl]; rfl⟩
  have hc0 : CallOk cx (lSums_px (HV [.bool]) k) := callT_ok rfl (cfs_cons (cf_or (by rw [hP, hel, hgl]; exact rfits2_ok) (by kernel_rfl)) (cfs_cons (cf_or (by rw [hP, hel, hgl]; exact known_ok) (by kernel_rfl)) (cfs_cons (cf_or (by rw [hP, hel, hgl]; exact ltwo_ok) (by kernel_rfl)) (cfs_cons (cf_or (by rw [hP, hel, hgl]; exact evalX_ok) (by kernel_rfl)) cfs_nil))))
  have hq0 : CallQOk cx (lSums_px (HV [.bool]) k) := callQT_ok rfl cqfs_nil
  have hllSums_0 : LoopOk cx (lSums_px (HV [.bool]) k) (lp Tryd.f8 0) := loop_ok hp0 hc0 hq0 (by rw [hP]; exact follows) (k := k) (s := lSums_0_sg) (step := lSums_0) (fun _ _ => by kernel_rfl) (by kernel_rfl) (lSums_0_eq _ k) (loops_in (n := 0) (by kernel_rfl) all0)
  exact ⟨hp0, hc0, hq0, (allS all0 hllSums_0)⟩
theorem int_form {a : Val} (h : vfits a 3 = true) : a = ⟨1, 0, []⟩ ∨ ∃ n, a = ⟨3, n, []⟩ := by
  obtain ⟨h1, h2⟩ := vfits_iff.1 h
  obtain ⟨k, n, s⟩ := a
  simp only at h2
  rcases h2 with rfl | rfl
  · left
    simp [vright] at h1
    simp [h1]
  · right
    simp [vright] at h1
    exact ⟨n, by simp [h1]⟩
def roomV (n : Int) : Val × Int := if -9223372036854775808 ≤ n ∧ n ≤ 9223372036854775807 then (⟨3, n, []⟩, 0) else (⟨0, 0, []⟩, 20)
theorem roomV_or (n : Int) : (∃ m, roomV n = (⟨3, m, []⟩, 0)) ∨ roomV n = (⟨0, 0, []⟩, 20) := by
  unfold roomV
  split
  · exact .inl ⟨n, rfl⟩
  · exact .inr rfl
theorem fit_room (n : Int) : cond (!decide ((fitZ n).2 = 0)) ((⟨0, 0, []⟩ : Val), (fitZ n).2) (⟨3, (fitZ n).1, []⟩, 0) = roomV n := by
  unfold fitZ roomV
  split <;> rfl
theorem rsum_add {a b : Int} (ha : inI a) (hb : inI b) : rsum 12 a b = roomV (a + b) := by
  rw [← fit_room, ← vadd_z ha hb]; rfl
theorem rsum_sub {a b : Int} (ha : inI a) (hb : inI b) : rsum 13 a b = roomV (a - b) := by
  rw [← fit_room, ← vsub_z ha hb]; rfl
theorem rsum_mul {a b : Int} (ha : inI a) (hb : inI b) : rsum 14 a b = roomV (a * b) := by
  rw [← fit_room, ← vmul_z ha hb]; rfl
abbrev csAB : List Col := [(Col.mk [97] 3 false false []), (Col.mk [98] 3 false false [])]
abbrev xA : Xpr := Xpr.mk 2 ⟨0, 0, []⟩ [97] []
abbrev xB : Xpr := Xpr.mk 2 ⟨0, 0, []⟩ [98] []
theorem ev12 (n m : Int) : evalX (ltwo 12 xA xB) csAB [⟨3, n, []⟩, ⟨3, m, []⟩] = rsum 12 n m := by kernel_rfl
theorem ev12' (n m : Int) : evalX (ltwo 12 xB xA) csAB [⟨3, n, []⟩, ⟨3, m, []⟩] = rsum 12 m n := by kernel_rfl
theorem ev14 (n m : Int) : evalX (ltwo 14 xA xB) csAB [⟨3, n, []⟩, ⟨3, m, []⟩] = rsum 14 n m := by kernel_rfl
theorem ev14' (n m : Int) : evalX (ltwo 14 xB xA) csAB [⟨3, n, []⟩, ⟨3, m, []⟩] = rsum 14 m n := by kernel_rfl
theorem ev13 (n m : Int) : evalX (ltwo 13 xA xA) csAB [⟨3, n, []⟩, ⟨3, m, []⟩] = rsum 13 n n := by kernel_rfl
/-- a round of the law's loop, of what the two orders come to -/
theorem lSums_round {R : Type} {rec : lSums_0_V → Option R} {kx : Ex → lSums_0_V → Option R} {n m i : Int} {q : Bool} {r : Int} (hi : i < 2) (h0 : inb i 2 = true) (h1 : evalX (ltwo (at' .int [12, 14] i) xA xB) csAB [⟨3, n, []⟩, ⟨3, m, []⟩] = roomV r) (h2 : evalX (ltwo (at' .int [12, 14] i) xB xA) csAB [⟨3, n, []⟩, ⟨3, m, []⟩] = roomV r) : lSums_0 rec kx (q, csAB, [⟨3, n, []⟩, ⟨3, m, []⟩], i, ⟨3, n, []⟩, ⟨3, m, []⟩, xA, xB) = rec (q, csAB, [⟨3, n, []⟩, ⟨3, m, []⟩], wr .i64 (i + 1), ⟨3, n, []⟩, ⟨3, m, []⟩, xA, xB) := by
  simp only [lSums_0]
  rw [decide_eq_true hi, h0, h1, h2]
  rcases roomV_or r with ⟨s, h⟩ | h
  · rw [h]; simp [chk]
  · rw [h]; simp [chk]
theorem lSums_ints {n m : Int} (hn : inI n) (hm : inI m) : lSums_body 3 (⟨3, n, []⟩, ⟨3, m, []⟩) = some true := by
  have f1 : vfits ⟨3, n, []⟩ 3 = true := by simp [vfits, vright]
  have f2 : vfits ⟨3, m, []⟩ 3 = true := by simp [vfits, vright]
  simp only [lSums_body, rfits2_v, f1, f2, Bool.not_true, cond_f]
  have a0 : at' .int [12, 14] 0 = 12 := by kernel_rfl
  have a1 : at' .int [12, 14] (wr .i64 (0 + 1)) = 14 := by kernel_rfl
  have i1 : inb (wr .i64 (0 + 1)) 2 = true := by kernel_rfl
  have l1 : wr .i64 (0 + 1) < 2 := by decide
  rw [iter_s, lSums_round (i := 0) (r := n + m) (by decide) rfl (by rw [a0]; exact (ev12 n m).trans (rsum_add hn hm)) (by rw [a0]; exact (ev12' n m).trans ((rsum_add hm hn).trans (by rw [Int.add_comm])))]
  rw [iter_s, lSums_round (i := wr .i64 (0 + 1)) (r := n * m) l1 i1 (by rw [a1]; exact (ev14 n m).trans (rsum_mul hn hm)) (by rw [a1]; exact (ev14' n m).trans ((rsum_mul hm hn).trans (by rw [Int.mul_comm])))]
  rw [iter_s]
  have i2 : decide (wr .i64 (wr .i64 (0 + 1) + 1) < 2) = false := by kernel_rfl
  simp only [lSums_0, i2, cond_f]
  have e : evalX (ltwo 13 xA xA) csAB [⟨3, n, []⟩, ⟨3, m, []⟩] = (⟨3, 0, []⟩, 0) := by
    rw [ev13, rsum_sub hn hn, Int.sub_self]; rfl
  rw [e, known_true]
  rfl
theorem ev13n (n : Int) : evalX (ltwo 13 xA xA) csAB [⟨3, n, []⟩, ⟨1, 0, []⟩] = rsum 13 n n := by kernel_rfl
theorem lSums_r0 {R : Type} (rec : lSums_0_V → Option R) (kx : Ex → lSums_0_V → Option R) (n : Int) : lSums_0 rec kx (false, csAB, [⟨3, n, []⟩, ⟨1, 0, []⟩], 0, ⟨3, n, []⟩, ⟨1, 0, []⟩, xA, xB) = rec (false, csAB, [⟨3, n, []⟩, ⟨1, 0, []⟩], 1, ⟨3, n, []⟩, ⟨1, 0, []⟩, xA, xB) := by kernel_rfl
theorem lSums_r1 {R : Type} (rec : lSums_0_V → Option R) (kx : Ex → lSums_0_V → Option R) (n : Int) : lSums_0 rec kx (false, csAB, [⟨3, n, []⟩, ⟨1, 0, []⟩], 1, ⟨3, n, []⟩, ⟨1, 0, []⟩, xA, xB) = rec (false, csAB, [⟨3, n, []⟩, ⟨1, 0, []⟩], 2, ⟨3, n, []⟩, ⟨1, 0, []⟩, xA, xB) := by kernel_rfl
theorem lSums_r2 {R : Type} (rec : lSums_0_V → Option R) (kx : Ex → lSums_0_V → Option R) (n : Int) : lSums_0 rec kx (false, csAB, [⟨3, n, []⟩, ⟨1, 0, []⟩], 2, ⟨3, n, []⟩, ⟨1, 0, []⟩, xA, xB) = kx (.exit 0) (false, csAB, [⟨3, n, []⟩, ⟨1, 0, []⟩], 2, ⟨3, n, []⟩, ⟨1, 0, []⟩, xA, xB) := by kernel_rfl
theorem lSums_in {n : Int} (hn : inI n) : lSums_body 3 (⟨3, n, []⟩, ⟨1, 0, []⟩) = some true := by
  have f1 : vfits ⟨3, n, []⟩ 3 = true := by simp [vfits, vright]
  have f2 : vfits ⟨1, 0, []⟩ 3 = true := by simp [vfits, vright]
  simp only [lSums_body, rfits2_v, f1, f2, Bool.not_true, cond_f]
  rw [iter_s, lSums_r0, iter_s, lSums_r1, iter_s, lSums_r2]
  have e : evalX (ltwo 13 xA xA) csAB [⟨3, n, []⟩, ⟨1, 0, []⟩] = (⟨3, 0, []⟩, 0) := by
    rw [ev13n, rsum_sub hn hn, Int.sub_self]; rfl
  simp only [e, known_true]
  rfl
theorem lSums_true (a b : Val) (h : BdVal a ∧ BdVal b) : lSums_body 3 (a, b) = some true := by
  cases ha : vfits a 3
  · simp only [lSums_body, rfits2_v, ha, known_true]
    rfl
  · cases hb : vfits b 3
    · simp only [lSums_body, rfits2_v, ha, hb, known_true]
      rfl
    · rcases int_form ha with rfl | ⟨n, rfl⟩ <;> rcases int_form hb with rfl | ⟨m, rfl⟩
      · kernel_rfl
      · clear h ha hb; kernel_rfl
      · exact lSums_in h.1.2.1
      · exact lSums_ints h.1.2.1 h.2.2.1
set_option maxRecDepth 100000 in
theorem reckonSums_contract (H : Type) (enc : TypeId × Value → H) (W : World) (base : Nat) (args : Array Value) (ds gs : List (DataW H)) (before : List MemPlace)
    (hval : ∀ (j : Nat) t v, Tryd.f8.params[j]? = some t → args[j]? = some v → Value.okWide Tryd.prog W .any base t v)
    (hW : DataW.Whole enc Tryd.prog Tryd.f8.params.toList Rows.reckonSumsSpec.vars false W args.toList ds gs before) (hL : laidMetH Tryd.prog Rows.reckonSumsRow.laid W) :
    Calls Tryd.prog 8 args W fun e W' => ∃ v, e = .returned v ∧ Rows.reckonSumsSpec.post enc Tryd.prog Tryd.f8 false true false false W args v W' :=
  law_frame (fn := Tryd.f8) (lSums_run 3) (fun x h => lSums_true x.1 x.2 h) (by kernel_rfl) rfl (fun ds h => match ds, h with | [_, _], _ => ⟨rfl, rfl, rfl⟩) (by kernel_rfl) (by kernel_rfl) hval hW (laid_glR hL)
theorem reckonSums_laid_met (os : Os) (args : Array Value) : laidMet Tryd.prog Rows.reckonSumsRow.laid ((laidWorld os).forCall (fun _ _ => 0) ⟨#[], args, []⟩).memory :=
  laidMet_of_run' 8 (by kernel_rfl) (by kernel_rfl)
theorem reckonSums_reads (os : Os) {H : Type} (enc : TypeId × Value → H) : ∃ places, DataW.whole enc Tryd.prog ((laidWorld os).forCall (fun _ _ => 0) ⟨#[], #[.agg #[.int .i64 0, .int .i64 0, .string ⟨#[]⟩], .agg #[.int .i64 0, .int .i64 0, .string ⟨#[]⟩]], []⟩).memory Tryd.f8.params.toList Rows.reckonSumsSpec.vars false (#[.agg #[.int .i64 0, .int .i64 0, .string ⟨#[]⟩], .agg #[.int .i64 0, .int .i64 0, .string ⟨#[]⟩]] : Array Value).toList 8 = some ([.agg [.lit (.int .i64 0), .lit (.int .i64 0), .lit (.string [])], .agg [.lit (.int .i64 0), .lit (.int .i64 0), .lit (.string [])]], [], places) :=
  ⟨[], by kernel_rfl⟩
set_option maxRecDepth 100000 in
theorem reckonSums_lifted (os : Os) (started : os.Started) (H : Type) (enc : TypeId × Value → H) (F : Stop.Interp) :
    ReturnsInHanded {} Tryd.checked os 8 .any ((OpenSpec.ofChange Rows.reckonSumsSpec).preRow enc Tryd.prog Tryd.f8 Rows.reckonSumsRow.domain false Rows.reckonSumsRow.laid) (((OpenSpec.ofChange Rows.reckonSumsSpec).at F).post enc Tryd.prog Tryd.f8 false true false false) := by
  obtain ⟨places, hx⟩ := reckonSums_reads os enc
  refine returnsInHanded_of_row (C := Tryd.checked) (s := OpenSpec.ofChange Rows.reckonSumsSpec) own started (by kernel_rfl) Tryd.func8
    (witness_row_at (enc := enc) (C := Tryd.checked) false (laidWorld os) #[.agg #[.int .i64 0, .int .i64 0, .string ⟨#[]⟩], .agg #[.int .i64 0, .int .i64 0, .string ⟨#[]⟩]] rfl (by kernel_rfl) (by kernel_rfl) (by kernel_rfl)
      (OpenSpec.preRow_of_cond 8 hx (by kernel_rfl) (fun k hk => by cases hk) (by kernel_rfl) (reckonSums_laid_met os _))) ?_
  intro W base args ds gs before hval hW _ _ _ hL _ _
  exact reckonSums_contract H enc W base args ds gs before hval hW hL
theorem reckonSums_said : Rows.ReckonSumsSaid :=
  OpenClaim.holds_of_cond 8 Tryd.f8 rfl rfl rfl rfl rfl rfl rfl ⟨rfl, rfl, rfl, rfl, rfl⟩ rfl rfl rfl rfl rfl (by kernel_rfl) Tryd.func8 (by kernel_rfl)
    (of_decide_eq_true (by kernel_rfl)) (by unfold Func.isWrapper; first | (rw [if_pos (by decide +kernel)]; kernel_rfl) | (rw [if_neg (by decide +kernel)]; exact ⟨rfl, rfl⟩))
    (fun os started H enc _ F => by rw [OpenClaim.pre_eq_preRow]; exact reckonSums_lifted os started H enc F)
theorem reckonSums_plain (f : FuncId) (fn : Func) (hf : Tryd.pinned.checked.prog.funcNamed "exchequer/exchequerlaw15.ReckonSums" = some f) (hfn : Tryd.pinned.checked.prog.funcs[f]? = some fn) :
    false = Tryd.pinned.checked.prog.looks [] ∧ ∀ (j : Nat) t, fn.params[j]? = some t → Tryd.pinned.checked.prog.wantsStandIn t = false := by
  obtain rfl : f = 8 := Option.some.inj ((show Tryd.prog.funcNamed "exchequer/exchequerlaw15.ReckonSums" = some 8 by kernel_rfl).symm.trans hf) |>.symm
  obtain rfl : fn = Tryd.f8 := (Option.some.inj (Tryd.func8.symm.trans hfn)).symm
  refine ⟨by kernel_rfl, fun j t ht => ?_⟩
  have hall : (Tryd.f8.params.all fun t => !Tryd.prog.wantsStandIn t) = true := by kernel_rfl
  have := Array.all_eq_true_iff_forall_mem.1 hall t (Array.mem_of_getElem? ht)
  have h2 : Tryd.prog.wantsStandIn t = false := by simpa using this
  exact h2
/-- THE CARD -/
theorem reckonSums_card : Rows.ReckonSumsCardSaid :=
  Claim7.holds_tied_plain_at .later [] _ _ _ _ reckonSums_said (fun _ h => by cases h) (by kernel_rfl) (fun _ h => by cases h) reckonSums_row_tie rfl ⟨rfl, rfl⟩ (by kernel_rfl) rfl reckonSums_plain (by kernel_rfl)
#print axioms reckonSums_card
end Go.Proofs.YtlhebakbbfmiiaaDoor
