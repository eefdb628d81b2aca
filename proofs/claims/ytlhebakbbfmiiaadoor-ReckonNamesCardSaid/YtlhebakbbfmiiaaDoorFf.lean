/- The whole of reckon; the reference's check of a value; what the laws of chapter 15 have in their heads. -/
import Derived.Test.YtlhebakbbfmiiaaDoorFe
namespace Go.Proofs.YtlhebakbbfmiiaaDoor
open Go.Ax
theorem kfin_err {e : Xpr} {cols : List Col} {a b : Int} (h : (kfin e cols a b).2 ≠ 0) : (kfin e cols a b).1 = 0 := by
  have key : (kfin e cols a b).2 = 0 ∨ (kfin e cols a b).1 = 0 := by
    simp only [kfin]
    repeat' split
    all_goals simp
  exact key.resolve_left h
theorem kindE_err {e : Xpr} {cols : List Col} (h : (kindE e cols).2 ≠ 0) : (kindE e cols).1 = 0 := by
  rw [kindE_un] at h ⊢
  match hl : kindL e.l cols with
  | [] => rw [hl] at h; exact kfin_err h
  | [(a, f)] =>
    rw [hl] at h
    simp only [kres] at h ⊢
    split
    · rename_i hf; rw [if_pos hf] at h; exact kfin_err h
    · rfl
  | (a, f) :: (b, g) :: t =>
    rw [hl] at h
    simp only [kres] at h ⊢
    split
    · rename_i hf
      rw [if_pos hf] at h
      split
      · rename_i hg; rw [if_pos hg] at h; exact kfin_err h
      · rfl
    · rfl
/-! ## exchequer/reckon.Eval -/
def evalX_px (R : Type) : Px R := ⟨ttOf ttL, glT, callT [(25, callOr [.sv .expr] [.int .i64] aexpr_F), (17, callOr [.sl .col false, .sl .val false] [.bool] rowfits_F), (26, callOr [.sv .expr, .sl .col false] [.int .i64, .int .i64] kindE_F), (29, callOr [.sv .expr, .sl .col false, .sl .val false] [.sv .val, .int .i64] evalE_F)], callQT [], loopT []⟩
def evalX_body (x : HV [.sv .expr, .sl .col false, .sl .val false]) : Option (HV [.sv .val, .int .i64]) := match x with
 | (e, cols, row) =>
  cond (!decide ((aexpr e) = 0)) (
   some ((Val.mk 0 0 []), 2)) (
   cond (!(rowfits cols row)) (
    some ((Val.mk 0 0 []), 2)) (
    cond (!decide ((kindE e cols).2 = 0)) (
     some ((Val.mk 0 0 []), (kindE e cols).2)) (
     (evalE e cols row).bind fun (x, x1) =>
      some (x, x1))))
theorem evalX_eq : ∀ (x : HV [.sv .expr, .sl .col false, .sl .val false]), runF (evalX_px _) Tryd.f13 [.sv .expr, .sl .col false, .sl .val false] [.sv .val, .int .i64] x some = evalX_body x
  | (e, cols, row) => by kernel_rfl
theorem evalX_run : FnOk Tryd.prog elT glT 13 [.sv .expr, .sl .col false, .sl .val false] [.sv .val, .int .i64] (evalX_body) := by
  refine fnOk_run Tryd.func13 rfl (by kernel_rfl) follows (by kernel_rfl) (n := 0) (by kernel_rfl) (px := evalX_px _) (fun cx hP hel hgl => ?_) (evalX_eq)
  have hp0 : PxOk cx (evalX_px (HV [.sv .val, .int .i64])) := ⟨fun t => by rw [hP, hel]; exact tt_ok ttL_ok t, by rw [hgl]; rfl⟩
  have hc0 : CallOk cx (evalX_px (HV [.sv .val, .int .i64])) := callT_ok rfl (cfs_cons (cf_or (by rw [hP, hel, hgl]; exact aexpr_ok) (by kernel_rfl)) (cfs_cons (cf_or (by rw [hP, hel, hgl]; exact rowfits_ok) (by kernel_rfl)) (cfs_cons (cf_or (by rw [hP, hel, hgl]; exact kindE_ok) (by kernel_rfl)) (cfs_cons (cf_or (by rw [hP, hel, hgl]; exact evalE_ok) (by kernel_rfl)) cfs_nil))))
  have hq0 : CallQOk cx (evalX_px (HV [.sv .val, .int .i64])) := callQT_ok rfl cqfs_nil
  exact ⟨hp0, hc0, hq0, all0⟩
def evalX (e : Xpr) (cols : List Col) (row : List Val) : Val × Int := cond (!decide (aexpr e = 0)) (⟨0, 0, []⟩, 2) (cond (!rowfits cols row) (⟨0, 0, []⟩, 2) (cond (!decide ((kindE e cols).2 = 0)) (⟨0, 0, []⟩, (kindE e cols).2) ((evalE e cols row).getD (⟨0, 0, []⟩, 0))))
def evalX_F : FT [.sv .expr, .sl .col false, .sl .val false] [.sv .val, .int .i64] := fun x => some (evalX x.1 x.2.1 x.2.2)
theorem aexpr_iff {e : Xpr} : aexpr e = 0 ↔ eright e 30 = true := by
  simp only [aexpr]
  cases eright e 30 <;> simp
/-- what Eval answers -/
theorem evalX_spec (e : Xpr) (cols : List Col) (row : List Val) : (aexpr e ≠ 0 ∨ rowfits cols row = false) ∧ evalX e cols row = (⟨0, 0, []⟩, 2) ∨ (aexpr e = 0 ∧ rowfits cols row = true ∧ (kindE e cols).2 ≠ 0 ∧ evalX e cols row = (⟨0, 0, []⟩, (kindE e cols).2)) ∨ (aexpr e = 0 ∧ rowfits cols row = true ∧ (kindE e cols).2 = 0 ∧ evalE e cols row = some (evalX e cols row) ∧ Good (evalX e cols row).1 (evalX e cols row).2 (kindE e cols).1) := by
  simp only [evalX]
  by_cases h1 : aexpr e = 0
  · rw [decide_eq_true h1]
    cases h2 : rowfits cols row with
    | false => left; simp
    | true =>
      by_cases h3 : (kindE e cols).2 = 0
      · right; right
        obtain ⟨v, f, h4, h5⟩ := evalE_good h2 (esize e) e 30 (Nat.le_refl _) (aexpr_iff.1 h1) h3
        rw [h4]
        refine ⟨h1, rfl, h3, ?_, ?_⟩
        · simp [h3]
        · simpa [h3] using h5
      · right; left
        refine ⟨h1, rfl, h3, ?_⟩
        simp [h3]
  · left
    refine ⟨.inl h1, ?_⟩
    simp [h1]
theorem evalX_ok : FnOk Tryd.prog elT glT 13 [.sv .expr, .sl .col false, .sl .val false] [.sv .val, .int .i64] evalX_F := .fin0 evalX_run fun (e, cols, row) r _ hx => by
  simp only [evalX_F, Option.some.injEq] at hx
  subst hx
  simp only [evalX_body]
  rcases evalX_spec e cols row with ⟨h, h2⟩ | ⟨h1, h2, h3, h4⟩ | ⟨h1, h2, h3, h4, _⟩
  · rw [h2]
    by_cases h1 : aexpr e = 0
    · rw [h.resolve_left (by simpa using h1)]; simp [h1]
    · simp [h1]
  · rw [h4, h2]; simp [h1, h3]
  · rw [h2, h4]; simp [h1, h3]
/-! ## exchequer/reckon.Holds -/
def holds_px (R : Type) : Px R := ⟨ttOf ttL, glT, callT [(13, callOr [.sv .expr, .sl .col false, .sl .val false] [.sv .val, .int .i64] evalX_F), (26, callOr [.sv .expr, .sl .col false] [.int .i64, .int .i64] kindE_F), (31, callOr [.int .i64, .int .i64] [.bool] rfits_F)], callQT [(32, callOrQ [.bool] [.sv .val] truth_F)], loopT []⟩
def holds_body (x : HV [.sv .expr, .sl .col false, .sl .val false]) : Option (HV [.bool, .int .i64]) := match x with
 | (e, cols, row) =>
  cond (!decide ((evalX e cols row).2 = 0)) (
   some (false, (evalX e cols row).2)) (
   cond (!(rfits ((kindE e cols).1) 2)) (
    some (false, 151)) (
    some (decide (((evalX e cols row).1) = (truth true)), 0)))
theorem holds_eq : ∀ (x : HV [.sv .expr, .sl .col false, .sl .val false]), runF (holds_px _) Tryd.f15 [.sv .expr, .sl .col false, .sl .val false] [.bool, .int .i64] x some = holds_body x
  | (e, cols, row) => by kernel_rfl
theorem holds_run : FnOk Tryd.prog elT glT 15 [.sv .expr, .sl .col false, .sl .val false] [.bool, .int .i64] (holds_body) := by
  refine fnOk_run Tryd.func15 rfl (by kernel_rfl) follows (by kernel_rfl) (n := 0) (by kernel_rfl) (px := holds_px _) (fun cx hP hel hgl => ?_) (holds_eq)
  have hp0 : PxOk cx (holds_px (HV [.bool, .int .i64])) := ⟨fun t => by rw [hP, hel]; exact tt_ok ttL_ok t, by rw [hgl]; rfl⟩
  have hc0 : CallOk cx (holds_px (HV [.bool, .int .i64])) := callT_ok rfl (cfs_cons (cf_or (by rw [hP, hel, hgl]; exact evalX_ok) (by kernel_rfl)) (cfs_cons (cf_or (by rw [hP, hel, hgl]; exact kindE_ok) (by kernel_rfl)) (cfs_cons (cf_or (by rw [hP, hel, hgl]; exact rfits_ok) (by kernel_rfl)) cfs_nil)))
  have hq0 : CallQOk cx (holds_px (HV [.bool, .int .i64])) := callQT_ok rfl (cqfs_cons (cqf_or (by rw [hP, hel, hgl]; exact truth_ok) (by kernel_rfl)) cqfs_nil)
  exact ⟨hp0, hc0, hq0, all0⟩
def holds (e : Xpr) (cols : List Col) (row : List Val) : Bool × Int :=
  cond (!decide ((evalX e cols row).2 = 0)) (
   (false, (evalX e cols row).2)) (
   cond (!(rfits ((kindE e cols).1) 2)) (
    (false, 151)) (
    (decide (((evalX e cols row).1) = (truth true)), 0)))
theorem holds_tot (x : HV [.sv .expr, .sl .col false, .sl .val false]) : holds_body x = some (holds x.1 x.2.1 x.2.2) := by
  first
    | exact rfl
    | simp only [holds_body, holds, cond_some]
def holds_F : FT [.sv .expr, .sl .col false, .sl .val false] [.bool, .int .i64] := fun x => some (holds x.1 x.2.1 x.2.2)
theorem holds_ok : FnOk Tryd.prog elT glT 15 [.sv .expr, .sl .col false, .sl .val false] [.bool, .int .i64] holds_F := .fin0 holds_run fun x _ _ hx => (holds_tot x).trans hx
/-! ## exchequer/exchequerref02.Check -/
def rcheck_0_sg : Sig := ⟨88, [(2, .int .i64), (5, .int .i64)], [(1, .ptr 0 0)], [(0, .one (.sv .val))], 1, 0, 0, []⟩
abbrev rcheck_0_V := Int × Int × Val
def rcheck_0 {R : Type} (rec : rcheck_0_V → Option R) (kx : Ex → rcheck_0_V → Option R) (v : rcheck_0_V) : Option R := match v with
 | (v1, v2, w) =>
  cond (decide (v2 < (w.s.length : Int))) (
   cond (decide (w.kind = 4)) (
    chk (inb v2 w.s.length) (
     cond (decide ((bat w.s v2) < 32)) (
      kx .ret (2, v2, w)) (
      chk (inb v2 w.s.length) (
       cond (decide (127 ≤ (bat w.s v2))) (
        kx .ret (2, v2, w)) (
        rec (v1, (wr .i64 (v2 + 1)), w)))))) (
    kx (.exit 0) (v1, v2, w))) (
   kx (.exit 0) (v1, v2, w))
def rcheck_px (R : Type) (k : Nat) : Px R := ⟨ttOf ttL, glT, callT [], callQT [], loopT [(6, loopOr k rcheck_0_sg (rcheck_0))]⟩
theorem rcheck_0_eq (R : Type) (k : Nat) : ∀ (fr : List Fr) (rec : rcheck_0_V → Option R) (kx : Ex → rcheck_0_V → Option R) (v : rcheck_0_V), round (rcheck_px R k) rcheck_0_sg (lp Tryd.f23 0) fr rec kx v = rcheck_0 rec kx v
  | fr, rec, kx, (v1, v2, w) => by kernel_rfl
def rcheck_body (k : Nat) (x : HV [.sv .val]) : Option (HV [.int .i64]) := match x with
 | v =>
  let j4 := fun (p4 : Bool) =>
   let j3 := fun (p6 : Bool) =>
    let j2 := fun (_ : Unit) =>
     iter (fun rec => rcheck_0 rec (fun e v => match v with | (v3, _, _) => match e with
      | .ret =>
       some v3
      | .exit 0 =>
       some 0
      | _ => none)) k (0, 0, v)
    let j1 := fun (p7 : Bool) =>
     let j := fun (p9 : Bool) =>
      cond (p9) (
       some 2) (
       cond (!p6) (
        cond (!decide (v.s = [])) (
         some 2) (
         cond (decide (1000 < (v.s.length : Int))) (
          some 2) (
          j2 ()))) (
        cond (decide (1000 < (v.s.length : Int))) (
         some 2) (
         j2 ())))
     cond (p7) (
      j true) (
      cond (!p4) (
       j (!decide (v.n = 0))) (
       j false))
    cond (decide (v.kind < 1)) (
     j1 true) (
     j1 (decide (5 < v.kind)))
   cond (decide (v.kind = 4)) (
    j3 true) (
    j3 (decide (v.kind = 5)))
  cond (decide (v.kind = 2)) (
   cond (decide (v.n = 0)) (
    j4 true) (
    cond (decide (v.n = 1)) (
     j4 true) (
     j4 (decide (v.kind = 3))))) (
   j4 (decide (v.kind = 3)))
theorem rcheck_eq (k : Nat) : ∀ (x : HV [.sv .val]), runF (rcheck_px _ k) Tryd.f23 [.sv .val] [.int .i64] x some = rcheck_body k x
  | v => by kernel_rfl
theorem rcheck_run (k : Nat) : FnOk Tryd.prog elT glT 23 [.sv .val] [.int .i64] (rcheck_body k) := by
  refine fnOk_run Tryd.func23 rfl (by kernel_rfl) follows (by kernel_rfl) (n := 1) (by kernel_rfl) (px := rcheck_px _ k) (fun cx hP hel hgl => ?_) (rcheck_eq k)
  have hp0 : PxOk cx (rcheck_px (HV [.int .i64]) k) := ⟨fun t => by rw [hP, hel]; exact tt_ok ttL_ok t, by rw [hgl]; rfl⟩
  have hc0 : CallOk cx (rcheck_px (HV [.int .i64]) k) := callT_ok rfl cfs_nil
  have hq0 : CallQOk cx (rcheck_px (HV [.int .i64]) k) := callQT_ok rfl cqfs_nil
  have hlrcheck_0 : LoopOk cx (rcheck_px (HV [.int .i64]) k) (lp Tryd.f23 0) := loop_ok hp0 hc0 hq0 (by rw [hP]; exact follows) (k := k) (s := rcheck_0_sg) (step := rcheck_0) (fun _ _ => by kernel_rfl) (by kernel_rfl) (rcheck_0_eq _ k) (loops_in (n := 0) (by kernel_rfl) all0)
  exact ⟨hp0, hc0, hq0, (allS all0 hlrcheck_0)⟩
abbrev rcheck (v : Val) : Int := vcheck v
def rcheck_F : FT [.sv .val] [.int .i64] := fun x => some (rcheck x)
theorem rcheck_loop {R : Type} {kx : Ex → rcheck_0_V → Option R} {v : Val} {a b : Option R} (hn : ln v.s.length) (h4 : v.kind = 4) (h1 : ∀ j, kx .ret (2, j, v) = a) (h2 : ∀ q j, kx (.exit 0) (q, j, v) = b) : ∀ (k i : Nat) q, i ≤ v.s.length → v.s.length - i < k → iter (fun rec => rcheck_0 rec kx) k (q, (i : Int), v) = cond ((v.s.drop i).all vis) b a
  | 0, i, q, _, h => by omega
  | k + 1, i, q, hi, h => by
    rw [iter_s]
    by_cases hl : i < v.s.length
    · have ih := rcheck_loop hn h4 h1 h2 k (i + 1) q (by omega) (by omega)
      simp only [rcheck_0, wr_succ hl hn, ih, h1, drop_cons hl, bat_nat hl, inb_t hl, List.all_cons, chk, cond_t, Bool.cond_decide]
      rw [if_pos (by omega), if_pos h4]
      simp only [vis]
      split
      · rw [decide_eq_false (by omega)]; rfl
      · split
        · rw [decide_eq_true (by omega), decide_eq_false (by omega)]; rfl
        · rw [decide_eq_true (by omega), decide_eq_true (by omega)]; rfl
    · simp only [rcheck_0, h2, Bool.cond_decide]
      rw [if_neg (by omega), List.drop_eq_nil_of_le (by omega)]
      rfl
theorem rcheck_no {R : Type} {kx : Ex → rcheck_0_V → Option R} {v : Val} {b : Option R} (h4 : ¬ v.kind = 4) (h2 : kx (.exit 0) (0, 0, v) = b) (k : Nat) : iter (fun rec => rcheck_0 rec kx) (k + 1) (0, 0, v) = b := by
  rw [iter_s]
  simp only [rcheck_0, h2, Bool.cond_decide, if_neg h4]
  split <;> rfl
theorem rcheck_ok : FnOk Tryd.prog elT glT 23 [.sv .val] [.int .i64] rcheck_F := .fin 0 rcheck_run fun v r hb hx => ⟨v.s.length + 1, by
  simp only [rcheck_F, Option.some.injEq] at hx
  subst hx
  have e0 : ((0 : Nat) : Int) = 0 := rfl
  have hloop : iter (fun rec => rcheck_0 rec (fun e v => match v with | (v2, _, _) => match e with
      | .ret => some v2
      | .exit 0 => some 0
      | _ => none)) (v.s.length + 1) (0, 0, v) = cond (decide (v.kind = 4) && !visible v.s) (some (2 : Int)) (some 0) := by
    by_cases h4 : v.kind = 4
    · have := rcheck_loop (a := some (2 : Int)) (b := some 0) hb.2.2 h4 (kx := fun e v => match v with | (v2, _, _) => match e with
        | .ret => some v2
        | .exit 0 => some 0
        | _ => none) (fun _ => rfl) (fun _ _ => rfl) (v.s.length + 1) 0 0 (Nat.zero_le _) (by omega)
      rw [e0] at this
      rw [this, decide_eq_true h4, List.drop_zero, visible]
      cases v.s.all vis <;> rfl
    · rw [rcheck_no (b := some 0) h4 rfl, decide_eq_false h4]
      rfl
  simp only [rcheck_body] at hloop ⊢
  rw [hloop]
  have hlen : v.s = [] → ¬ (1000 < (v.s.length : Int)) := fun h => by rw [h]; simp
  have hle : decide ((v.s.length : Int) ≤ 1000) = !decide (1000 < (v.s.length : Int)) := by
    by_cases h : 1000 < (v.s.length : Int)
    · rw [decide_eq_true h, decide_eq_false (by omega)]; rfl
    · rw [decide_eq_false h, decide_eq_true (by omega)]; rfl
  have hs : decide (v.s = []) = true → decide (1000 < (v.s.length : Int)) = false := fun h => decide_eq_false (hlen (of_decide_eq_true h))
  simp only [vcheck, vright, hle]
  generalize decide (1000 < (v.s.length : Int)) = q at *
  generalize decide (v.s = []) = s at *
  generalize visible v.s = w at *
  by_cases hk : v.kind = 1
  · simp only [hk]; cases decide (v.n = 0) <;> cases s <;> simp_all
  by_cases hk2 : v.kind = 2
  · simp only [hk2]; cases decide (v.n = 0) <;> cases decide (v.n = 1) <;> cases s <;> simp_all
  by_cases hk3 : v.kind = 3
  · simp only [hk3]; cases decide (v.n = 0) <;> cases decide (v.n = 1) <;> cases s <;> simp_all
  by_cases hk4 : v.kind = 4
  · simp only [hk4]; cases decide (v.n = 0) <;> cases w <;> cases q <;> simp_all
  by_cases hk5 : v.kind = 5
  · simp only [hk5]; cases decide (v.n = 0) <;> cases q <;> simp_all
  rw [decide_eq_false hk, decide_eq_false hk2, decide_eq_false hk3, decide_eq_false hk4, decide_eq_false hk5]
  by_cases hl : v.kind < 1
  · rw [decide_eq_true hl]; rfl
  · rw [decide_eq_false hl, decide_eq_true (show 5 < v.kind by omega)]; rfl⟩
/-! ## exchequer/exchequerref02.Fits -/
def rfits2_px (R : Type) : Px R := ⟨ttOf ttL, glT, callT [(23, callOr [.sv .val] [.int .i64] rcheck_F)], callQT [], loopT []⟩
def rfits2_body (x : HV [.sv .val, .int .i64]) : Option (HV [.bool]) := match x with
 | (v, kind) =>
  cond (decide ((rcheck v) = 0)) (
   cond (decide (v.kind = 1)) (
    some true) (
    some (decide (v.kind = kind)))) (
   some false)
theorem rfits2_eq : ∀ (x : HV [.sv .val, .int .i64]), runF (rfits2_px _) Tryd.f19 [.sv .val, .int .i64] [.bool] x some = rfits2_body x
  | (v, kind) => by kernel_rfl
theorem rfits2_run : FnOk Tryd.prog elT glT 19 [.sv .val, .int .i64] [.bool] (rfits2_body) := by
  refine fnOk_run Tryd.func19 rfl (by kernel_rfl) follows (by kernel_rfl) (n := 0) (by kernel_rfl) (px := rfits2_px _) (fun cx hP hel hgl => ?_) (rfits2_eq)
  have hp0 : PxOk cx (rfits2_px (HV [.bool])) := ⟨fun t => by rw [hP, hel]; exact tt_ok ttL_ok t, by rw [hgl]; rfl⟩
  have hc0 : CallOk cx (rfits2_px (HV [.bool])) := callT_ok rfl (cfs_cons (cf_or (by rw [hP, hel, hgl]; exact rcheck_ok) (by kernel_rfl)) cfs_nil)
  have hq0 : CallQOk cx (rfits2_px (HV [.bool])) := callQT_ok rfl cqfs_nil
  exact ⟨hp0, hc0, hq0, all0⟩
def rfits2 (v : Val) (kind : Int) : Bool :=
  cond (decide ((rcheck v) = 0)) (
   cond (decide (v.kind = 1)) (
    true) (
    (decide (v.kind = kind)))) (
   false)
theorem rfits2_tot (x : HV [.sv .val, .int .i64]) : rfits2_body x = some (rfits2 x.1 x.2) := by
  first
    | exact rfl
    | simp only [rfits2_body, rfits2, cond_some]
def rfits2_F : FT [.sv .val, .int .i64] [.bool] := fun x => some (rfits2 x.1 x.2)
theorem rfits2_ok : FnOk Tryd.prog elT glT 19 [.sv .val, .int .i64] [.bool] rfits2_F := .fin0 rfits2_run fun x _ _ hx => (rfits2_tot x).trans hx
theorem rfits2_v (v : Val) (k : Int) : rfits2 v k = vfits v k := by
  simp only [rfits2, vfits]
  have : decide (vcheck v = 0) = vright v := by
    cases h : vright v
    · simp [vcheck, h]
    · simp [vcheck, h]
  rw [this]
/-! ## exchequer/exchequerlaw15.value -/
def lvalue_px (R : Type) : Px R := ⟨ttOf ttL, glT, callT [], callQT [], loopT []⟩
def lvalue_body (x : HV [.sv .val]) : Option (HV [.sv .expr]) := match x with
 | v =>
  some (Xpr.mk 1 ⟨v.kind, v.n, v.s⟩ [] [])
theorem lvalue_eq : ∀ (x : HV [.sv .val]), runF (lvalue_px _) Tryd.f20 [.sv .val] [.sv .expr] x some = lvalue_body x
  | v => by kernel_rfl
theorem lvalue_run : FnOk Tryd.prog elT glT 20 [.sv .val] [.sv .expr] (lvalue_body) := by
  refine fnOk_run Tryd.func20 rfl (by kernel_rfl) follows (by kernel_rfl) (n := 0) (by kernel_rfl) (px := lvalue_px _) (fun cx hP hel hgl => ?_) (lvalue_eq)
  have hp0 : PxOk cx (lvalue_px (HV [.sv .expr])) := ⟨fun t => by rw [hP, hel]; exact tt_ok ttL_ok t, by rw [hgl]; rfl⟩
  have hc0 : CallOk cx (lvalue_px (HV [.sv .expr])) := callT_ok rfl cfs_nil
  have hq0 : CallQOk cx (lvalue_px (HV [.sv .expr])) := callQT_ok rfl cqfs_nil
  exact ⟨hp0, hc0, hq0, all0⟩
def lvalue (v : Val) : Xpr :=
  (Xpr.mk 1 ⟨v.kind, v.n, v.s⟩ [] [])
theorem lvalue_tot (x : HV [.sv .val]) : lvalue_body x = some (lvalue x) := by
  first
    | exact rfl
    | simp only [lvalue_body, lvalue, cond_some]
def lvalue_F : FT [.sv .val] [.sv .expr] := fun x => some (lvalue x)
theorem lvalue_ok : FnOk Tryd.prog elT glT 20 [.sv .val] [.sv .expr] lvalue_F := .fin0 lvalue_run fun x _ _ hx => (lvalue_tot x).trans hx
/-! ## exchequer/exchequerlaw15.one -/
def lone_px (R : Type) : Px R := ⟨ttOf ttL, glT, callT [], callQT [], loopT []⟩
def lone_body (x : HV [.int .i64, .sv .expr]) : Option (HV [.sv .expr]) := match x with
 | (kind, a) =>
  some (Xpr.mk kind ⟨0, 0, []⟩ [] [a])
theorem lone_eq : ∀ (x : HV [.int .i64, .sv .expr]), runF (lone_px _) Tryd.f21 [.int .i64, .sv .expr] [.sv .expr] x some = lone_body x
  | (kind, a) => by kernel_rfl
theorem lone_run : FnOk Tryd.prog elT glT 21 [.int .i64, .sv .expr] [.sv .expr] (lone_body) := by
  refine fnOk_run Tryd.func21 rfl (by kernel_rfl) follows (by kernel_rfl) (n := 0) (by kernel_rfl) (px := lone_px _) (fun cx hP hel hgl => ?_) (lone_eq)
  have hp0 : PxOk cx (lone_px (HV [.sv .expr])) := ⟨fun t => by rw [hP, hel]; exact tt_ok ttL_ok t, by rw [hgl]; rfl⟩
  have hc0 : CallOk cx (lone_px (HV [.sv .expr])) := callT_ok rfl cfs_nil
  have hq0 : CallQOk cx (lone_px (HV [.sv .expr])) := callQT_ok rfl cqfs_nil
  exact ⟨hp0, hc0, hq0, all0⟩
def lone (kind : Int) (a : Xpr) : Xpr :=
  (Xpr.mk kind ⟨0, 0, []⟩ [] [a])
theorem lone_tot (x : HV [.int .i64, .sv .expr]) : lone_body x = some (lone x.1 x.2) := by
  first
    | exact rfl
    | simp only [lone_body, lone, cond_some]
def lone_F : FT [.int .i64, .sv .expr] [.sv .expr] := fun x => some (lone x.1 x.2)
theorem lone_ok : FnOk Tryd.prog elT glT 21 [.int .i64, .sv .expr] [.sv .expr] lone_F := .fin0 lone_run fun x _ _ hx => (lone_tot x).trans hx
/-! ## exchequer/exchequerlaw15.two -/
def ltwo_px (R : Type) : Px R := ⟨ttOf ttL, glT, callT [], callQT [], loopT []⟩
def ltwo_body (x : HV [.int .i64, .sv .expr, .sv .expr]) : Option (HV [.sv .expr]) := match x with
 | (kind, a, b) =>
  some (Xpr.mk kind ⟨0, 0, []⟩ [] [a, b])
theorem ltwo_eq : ∀ (x : HV [.int .i64, .sv .expr, .sv .expr]), runF (ltwo_px _) Tryd.f22 [.int .i64, .sv .expr, .sv .expr] [.sv .expr] x some = ltwo_body x
  | (kind, a, b) => by kernel_rfl
theorem ltwo_run : FnOk Tryd.prog elT glT 22 [.int .i64, .sv .expr, .sv .expr] [.sv .expr] (ltwo_body) := by
  refine fnOk_run Tryd.func22 rfl (by kernel_rfl) follows (by kernel_rfl) (n := 0) (by kernel_rfl) (px := ltwo_px _) (fun cx hP hel hgl => ?_) (ltwo_eq)
  have hp0 : PxOk cx (ltwo_px (HV [.sv .expr])) := ⟨fun t => by rw [hP, hel]; exact tt_ok ttL_ok t, by rw [hgl]; rfl⟩
  have hc0 : CallOk cx (ltwo_px (HV [.sv .expr])) := callT_ok rfl cfs_nil
  have hq0 : CallQOk cx (ltwo_px (HV [.sv .expr])) := callQT_ok rfl cqfs_nil
  exact ⟨hp0, hc0, hq0, all0⟩
def ltwo (kind : Int) (a : Xpr) (b : Xpr) : Xpr :=
  (Xpr.mk kind ⟨0, 0, []⟩ [] [a, b])
theorem ltwo_tot (x : HV [.int .i64, .sv .expr, .sv .expr]) : ltwo_body x = some (ltwo x.1 x.2.1 x.2.2) := by
  first
    | exact rfl
    | simp only [ltwo_body, ltwo, cond_some]
def ltwo_F : FT [.int .i64, .sv .expr, .sv .expr] [.sv .expr] := fun x => some (ltwo x.1 x.2.1 x.2.2)
theorem ltwo_ok : FnOk Tryd.prog elT glT 22 [.int .i64, .sv .expr, .sv .expr] [.sv .expr] ltwo_F := .fin0 ltwo_run fun x _ _ hx => (ltwo_tot x).trans hx
/-! ## exchequer/exchequerlaw15.much -/
def much_px (R : Type) : Px R := ⟨ttOf ttL, glT, callT [(24, callOr [.sv .expr, .int .i64] [.int .i64] much1_F)], callQT [], loopT []⟩
def much_body (x : HV [.sv .expr, .sl .col false, .sl .val false]) : Option (HV [.bool]) := match x with
 | (e, cols, row) =>
  cond (decide (400 ≤ (much1 e 400))) (
   some true) (
   cond (decide (60 < (cols.length : Int))) (
    some true) (
    some (decide (60 < (row.length : Int)))))
theorem much_eq : ∀ (x : HV [.sv .expr, .sl .col false, .sl .val false]), runF (much_px _) Tryd.f9 [.sv .expr, .sl .col false, .sl .val false] [.bool] x some = much_body x
  | (e, cols, row) => by kernel_rfl
theorem much_run : FnOk Tryd.prog elT glT 9 [.sv .expr, .sl .col false, .sl .val false] [.bool] (much_body) := by
  refine fnOk_run Tryd.func9 rfl (by kernel_rfl) follows (by kernel_rfl) (n := 0) (by kernel_rfl) (px := much_px _) (fun cx hP hel hgl => ?_) (much_eq)
  have hp0 : PxOk cx (much_px (HV [.bool])) := ⟨fun t => by rw [hP, hel]; exact tt_ok ttL_ok t, by rw [hgl]; rfl⟩
  have hc0 : CallOk cx (much_px (HV [.bool])) := callT_ok rfl (cfs_cons (cf_or (by rw [hP, hel, hgl]; exact much1_ok) (by kernel_rfl)) cfs_nil)
  have hq0 : CallQOk cx (much_px (HV [.bool])) := callQT_ok rfl cqfs_nil
  exact ⟨hp0, hc0, hq0, all0⟩
def much (e : Xpr) (cols : List Col) (row : List Val) : Bool :=
  cond (decide (400 ≤ (much1 e 400))) (
   true) (
   cond (decide (60 < (cols.length : Int))) (
    true) (
    (decide (60 < (row.length : Int)))))
theorem much_tot (x : HV [.sv .expr, .sl .col false, .sl .val false]) : much_body x = some (much x.1 x.2.1 x.2.2) := by
  first
    | exact rfl
    | simp only [much_body, much, cond_some]
def much_F : FT [.sv .expr, .sl .col false, .sl .val false] [.bool] := fun x => some (much x.1 x.2.1 x.2.2)
theorem much_ok : FnOk Tryd.prog elT glT 9 [.sv .expr, .sl .col false, .sl .val false] [.bool] much_F := .fin0 much_run fun x _ _ hx => (much_tot x).trans hx
/-! ## exchequer/exchequerlaw15.known -/
def known_px (R : Type) : Px R := ⟨ttOf ttL, glT, callT [(20, callOr [.sv .val] [.sv .expr] lvalue_F), (22, callOr [.int .i64, .sv .expr, .sv .expr] [.sv .expr] ltwo_F), (13, callOr [.sv .expr, .sl .col false, .sl .val false] [.sv .val, .int .i64] evalX_F), (21, callOr [.int .i64, .sv .expr] [.sv .expr] lone_F), (15, callOr [.sv .expr, .sl .col false, .sl .val false] [.bool, .int .i64] holds_F), (17, callOr [.sl .col false, .sl .val false] [.bool] rowfits_F)], callQT [(22, callOrQ [.int .i64, .sv .expr, .sv .expr] [.sv .expr] ltwo_F), (13, callOrQ [.sv .expr, .sl .col false, .sl .val false] [.sv .val, .int .i64] evalX_F), (20, callOrQ [.sv .val] [.sv .expr] lvalue_F), (11, callOrQ [.sv .expr, .sl .col false] [.int .i64, .int .i64] kindX_F)], loopT []⟩
def known_body (x : HV []) : Option (HV [.bool]) := match x with
 | () =>
  let j5 := fun (p : Bool) =>
   let j4 := fun (p1 : Bool) =>
    let j3 := fun (p2 : Bool) =>
     let j2 := fun (p3 : Bool) =>
      let j1 := fun (p4 : Bool) =>
       let j := fun (p5 : Bool) =>
        cond (p5) (
         cond (decide ((kindX (ltwo 12 (Xpr.mk ((lvalue (Val.mk 3 1 [])).kind) ⟨((lvalue (Val.mk 3 1 [])).v.kind), ((lvalue (Val.mk 3 1 [])).v.n), ((lvalue (Val.mk 3 1 [])).v.s)⟩ ((lvalue (Val.mk 3 1 [])).name) ((lvalue (Val.mk 3 1 [])).l)) (lvalue (Val.mk 4 0 [120]))) []).2 = 151)) (
          some (rowfits [(Col.mk [97] 3 false false [])] [(Val.mk 1 0 [])])) (
          some false)) (
         some false)
       cond (p4) (
        j (decide ((holds (lone 16 (Xpr.mk 2 ⟨0, 0, []⟩ [97] [])) [(Col.mk [97] 3 false false [])] [(Val.mk 1 0 [])]).2 = 0))) (
        j false)
      cond (p3) (
       j1 ((holds (lone 16 (Xpr.mk 2 ⟨0, 0, []⟩ [97] [])) [(Col.mk [97] 3 false false [])] [(Val.mk 1 0 [])]).1)) (
       j1 false)
     cond (p2) (
      j2 (decide ((evalX (ltwo 5 (ltwo 6 (Xpr.mk 2 ⟨0, 0, []⟩ [97] []) (Xpr.mk ((lvalue (Val.mk 3 1 [])).kind) ⟨((lvalue (Val.mk 3 1 [])).v.kind), ((lvalue (Val.mk 3 1 [])).v.n), ((lvalue (Val.mk 3 1 [])).v.s)⟩ ((lvalue (Val.mk 3 1 [])).name) ((lvalue (Val.mk 3 1 [])).l))) (Xpr.mk ((lvalue (Val.mk 2 1 [])).kind) ⟨((lvalue (Val.mk 2 1 [])).v.kind), ((lvalue (Val.mk 2 1 [])).v.n), ((lvalue (Val.mk 2 1 [])).v.s)⟩ ((lvalue (Val.mk 2 1 [])).name) ((lvalue (Val.mk 2 1 [])).l))) [(Col.mk [97] 3 false false [])] [(Val.mk 1 0 [])]).2 = 0))) (
      j2 false)
    cond (p1) (
     j3 (decide (((evalX (ltwo 5 (ltwo 6 (Xpr.mk 2 ⟨0, 0, []⟩ [97] []) (Xpr.mk ((lvalue (Val.mk 3 1 [])).kind) ⟨((lvalue (Val.mk 3 1 [])).v.kind), ((lvalue (Val.mk 3 1 [])).v.n), ((lvalue (Val.mk 3 1 [])).v.s)⟩ ((lvalue (Val.mk 3 1 [])).name) ((lvalue (Val.mk 3 1 [])).l))) (Xpr.mk ((lvalue (Val.mk 2 1 [])).kind) ⟨((lvalue (Val.mk 2 1 [])).v.kind), ((lvalue (Val.mk 2 1 [])).v.n), ((lvalue (Val.mk 2 1 [])).v.s)⟩ ((lvalue (Val.mk 2 1 [])).name) ((lvalue (Val.mk 2 1 [])).l))) [(Col.mk [97] 3 false false [])] [(Val.mk 1 0 [])]).1).n = 1))) (
     j3 false)
   cond (p) (
    j4 (decide (((evalX (ltwo 5 (ltwo 6 (Xpr.mk 2 ⟨0, 0, []⟩ [97] []) (Xpr.mk ((lvalue (Val.mk 3 1 [])).kind) ⟨((lvalue (Val.mk 3 1 [])).v.kind), ((lvalue (Val.mk 3 1 [])).v.n), ((lvalue (Val.mk 3 1 [])).v.s)⟩ ((lvalue (Val.mk 3 1 [])).name) ((lvalue (Val.mk 3 1 [])).l))) (Xpr.mk ((lvalue (Val.mk 2 1 [])).kind) ⟨((lvalue (Val.mk 2 1 [])).v.kind), ((lvalue (Val.mk 2 1 [])).v.n), ((lvalue (Val.mk 2 1 [])).v.s)⟩ ((lvalue (Val.mk 2 1 [])).name) ((lvalue (Val.mk 2 1 [])).l))) [(Col.mk [97] 3 false false [])] [(Val.mk 1 0 [])]).1).kind = 2))) (
    j4 false)
  cond (decide (((evalX (ltwo 6 (Xpr.mk 2 ⟨0, 0, []⟩ [97] []) (Xpr.mk ((lvalue (Val.mk 3 1 [])).kind) ⟨((lvalue (Val.mk 3 1 [])).v.kind), ((lvalue (Val.mk 3 1 [])).v.n), ((lvalue (Val.mk 3 1 [])).v.s)⟩ ((lvalue (Val.mk 3 1 [])).name) ((lvalue (Val.mk 3 1 [])).l))) [(Col.mk [97] 3 false false [])] [(Val.mk 1 0 [])]).1).kind = 1)) (
   j5 (decide ((evalX (ltwo 6 (Xpr.mk 2 ⟨0, 0, []⟩ [97] []) (Xpr.mk ((lvalue (Val.mk 3 1 [])).kind) ⟨((lvalue (Val.mk 3 1 [])).v.kind), ((lvalue (Val.mk 3 1 [])).v.n), ((lvalue (Val.mk 3 1 [])).v.s)⟩ ((lvalue (Val.mk 3 1 [])).name) ((lvalue (Val.mk 3 1 [])).l))) [(Col.mk [97] 3 false false [])] [(Val.mk 1 0 [])]).2 = 0))) (
   j5 false)
theorem known_eq : ∀ (x : HV []), runF (known_px _) Tryd.f10 [] [.bool] x some = known_body x
  | () => by kernel_rfl
theorem known_run : FnOk Tryd.prog elT glT 10 [] [.bool] (known_body) := by
  refine fnOk_run Tryd.func10 rfl (by kernel_rfl) follows (by kernel_rfl) (n := 0) (by kernel_rfl) (px := known_px _) (fun cx hP hel hgl => ?_) (known_eq)
  have hp0 : PxOk cx (known_px (HV [.bool])) := ⟨fun t => by rw [hP, hel]; exact tt_ok ttL_ok t, by rw [hgl]; rfl⟩
  have hc0 : CallOk cx (known_px (HV [.bool])) := callT_ok rfl (cfs_cons (cf_or (by rw [hP, hel, hgl]; exact lvalue_ok) (by kernel_rfl)) (cfs_cons (cf_or (by rw [hP, hel, hgl]; exact ltwo_ok) (by kernel_rfl)) (cfs_cons (cf_or (by rw [hP, hel, hgl]; exact evalX_ok) (by kernel_rfl)) (cfs_cons (cf_or (by rw [hP, hel, hgl]; exact lone_ok) (by kernel_rfl)) (cfs_cons (cf_or (by rw [hP, hel, hgl]; exact holds_ok) (by kernel_rfl)) (cfs_cons (cf_or (by rw [hP, hel, hgl]; exact rowfits_ok) (by kernel_rfl)) cfs_nil))))))
  have hq0 : CallQOk cx (known_px (HV [.bool])) := callQT_ok rfl (cqfs_cons (cqf_or (by rw [hP, hel, hgl]; exact ltwo_ok) (by kernel_rfl)) (cqfs_cons (cqf_or (by rw [hP, hel, hgl]; exact evalX_ok) (by kernel_rfl)) (cqfs_cons (cqf_or (by rw [hP, hel, hgl]; exact lvalue_ok) (by kernel_rfl)) (cqfs_cons (cqf_or (by rw [hP, hel, hgl]; exact kindX_ok) (by kernel_rfl)) cqfs_nil))))
  exact ⟨hp0, hc0, hq0, all0⟩
def known : Bool :=
  let j5 := fun (p : Bool) =>
   let j4 := fun (p1 : Bool) =>
    let j3 := fun (p2 : Bool) =>
     let j2 := fun (p3 : Bool) =>
      let j1 := fun (p4 : Bool) =>
       let j := fun (p5 : Bool) =>
        cond (p5) (
         cond (decide ((kindX (ltwo 12 (Xpr.mk ((lvalue (Val.mk 3 1 [])).kind) ⟨((lvalue (Val.mk 3 1 [])).v.kind), ((lvalue (Val.mk 3 1 [])).v.n), ((lvalue (Val.mk 3 1 [])).v.s)⟩ ((lvalue (Val.mk 3 1 [])).name) ((lvalue (Val.mk 3 1 [])).l)) (lvalue (Val.mk 4 0 [120]))) []).2 = 151)) (
          (rowfits [(Col.mk [97] 3 false false [])] [(Val.mk 1 0 [])])) (
          false)) (
         false)
       cond (p4) (
        j (decide ((holds (lone 16 (Xpr.mk 2 ⟨0, 0, []⟩ [97] [])) [(Col.mk [97] 3 false false [])] [(Val.mk 1 0 [])]).2 = 0))) (
        j false)
      cond (p3) (
       j1 ((holds (lone 16 (Xpr.mk 2 ⟨0, 0, []⟩ [97] [])) [(Col.mk [97] 3 false false [])] [(Val.mk 1 0 [])]).1)) (
       j1 false)
     cond (p2) (
      j2 (decide ((evalX (ltwo 5 (ltwo 6 (Xpr.mk 2 ⟨0, 0, []⟩ [97] []) (Xpr.mk ((lvalue (Val.mk 3 1 [])).kind) ⟨((lvalue (Val.mk 3 1 [])).v.kind), ((lvalue (Val.mk 3 1 [])).v.n), ((lvalue (Val.mk 3 1 [])).v.s)⟩ ((lvalue (Val.mk 3 1 [])).name) ((lvalue (Val.mk 3 1 [])).l))) (Xpr.mk ((lvalue (Val.mk 2 1 [])).kind) ⟨((lvalue (Val.mk 2 1 [])).v.kind), ((lvalue (Val.mk 2 1 [])).v.n), ((lvalue (Val.mk 2 1 [])).v.s)⟩ ((lvalue (Val.mk 2 1 [])).name) ((lvalue (Val.mk 2 1 [])).l))) [(Col.mk [97] 3 false false [])] [(Val.mk 1 0 [])]).2 = 0))) (
      j2 false)
    cond (p1) (
     j3 (decide (((evalX (ltwo 5 (ltwo 6 (Xpr.mk 2 ⟨0, 0, []⟩ [97] []) (Xpr.mk ((lvalue (Val.mk 3 1 [])).kind) ⟨((lvalue (Val.mk 3 1 [])).v.kind), ((lvalue (Val.mk 3 1 [])).v.n), ((lvalue (Val.mk 3 1 [])).v.s)⟩ ((lvalue (Val.mk 3 1 [])).name) ((lvalue (Val.mk 3 1 [])).l))) (Xpr.mk ((lvalue (Val.mk 2 1 [])).kind) ⟨((lvalue (Val.mk 2 1 [])).v.kind), ((lvalue (Val.mk 2 1 [])).v.n), ((lvalue (Val.mk 2 1 [])).v.s)⟩ ((lvalue (Val.mk 2 1 [])).name) ((lvalue (Val.mk 2 1 [])).l))) [(Col.mk [97] 3 false false [])] [(Val.mk 1 0 [])]).1).n = 1))) (
     j3 false)
   cond (p) (
    j4 (decide (((evalX (ltwo 5 (ltwo 6 (Xpr.mk 2 ⟨0, 0, []⟩ [97] []) (Xpr.mk ((lvalue (Val.mk 3 1 [])).kind) ⟨((lvalue (Val.mk 3 1 [])).v.kind), ((lvalue (Val.mk 3 1 [])).v.n), ((lvalue (Val.mk 3 1 [])).v.s)⟩ ((lvalue (Val.mk 3 1 [])).name) ((lvalue (Val.mk 3 1 [])).l))) (Xpr.mk ((lvalue (Val.mk 2 1 [])).kind) ⟨((lvalue (Val.mk 2 1 [])).v.kind), ((lvalue (Val.mk 2 1 [])).v.n), ((lvalue (Val.mk 2 1 [])).v.s)⟩ ((lvalue (Val.mk 2 1 [])).name) ((lvalue (Val.mk 2 1 [])).l))) [(Col.mk [97] 3 false false [])] [(Val.mk 1 0 [])]).1).kind = 2))) (
    j4 false)
  cond (decide (((evalX (ltwo 6 (Xpr.mk 2 ⟨0, 0, []⟩ [97] []) (Xpr.mk ((lvalue (Val.mk 3 1 [])).kind) ⟨((lvalue (Val.mk 3 1 [])).v.kind), ((lvalue (Val.mk 3 1 [])).v.n), ((lvalue (Val.mk 3 1 [])).v.s)⟩ ((lvalue (Val.mk 3 1 [])).name) ((lvalue (Val.mk 3 1 [])).l))) [(Col.mk [97] 3 false false [])] [(Val.mk 1 0 [])]).1).kind = 1)) (
   j5 (decide ((evalX (ltwo 6 (Xpr.mk 2 ⟨0, 0, []⟩ [97] []) (Xpr.mk ((lvalue (Val.mk 3 1 [])).kind) ⟨((lvalue (Val.mk 3 1 [])).v.kind), ((lvalue (Val.mk 3 1 [])).v.n), ((lvalue (Val.mk 3 1 [])).v.s)⟩ ((lvalue (Val.mk 3 1 [])).name) ((lvalue (Val.mk 3 1 [])).l))) [(Col.mk [97] 3 false false [])] [(Val.mk 1 0 [])]).2 = 0))) (
   j5 false)
theorem known_tot (x : HV []) : known_body x = some (known) := by
  first
    | exact rfl
    | simp only [known_body, known, cond_some]
def known_F : FT [] [.bool] := fun _ => some (known)
theorem known_ok : FnOk Tryd.prog elT glT 10 [] [.bool] known_F := .fin0 known_run fun x _ _ hx => (known_tot x).trans hx
theorem known_true : known = true := by kernel_rfl
end Go.Proofs.YtlhebakbbfmiiaaDoor
