/- Functions that call themselves: whether an expression may be, its kind, its value, how much there is in it. -/
import Derived.Test.YtlhebakbbfmiiaaDoorFb
namespace Go.Proofs.YtlhebakbbfmiiaaDoor
open Go.Ax
mutual
def esize : Xpr → Nat
  | .mk _ _ _ l => 1 + esizes l
def esizes : List Xpr → Nat
  | [] => 0
  | x :: l => 1 + esize x + esizes l
end
theorem esize_mem : ∀ {l : List Xpr} {x : Xpr}, x ∈ l → esize x < esizes l
  | y :: l, x, h => by
    simp only [List.mem_cons] at h
    simp only [esizes]
    rcases h with rfl | h
    · omega
    · have := esize_mem h; omega
theorem esizes_len : ∀ (l : List Xpr), l.length ≤ esizes l
  | [] => by simp
  | x :: l => by have := esizes_len l; simp only [esizes, List.length_cons]; omega
theorem esize_pos (e : Xpr) : 0 < esize e := by cases e; simp only [esize]; omega
theorem expr_eta (e : Xpr) : Xpr.mk e.kind ⟨e.v.kind, e.v.n, e.v.s⟩ e.name e.l = e := by cases e; rfl
theorem esize_eq (e : Xpr) : esize e = 1 + esizes e.l := by cases e; simp only [esize, Xpr.l]
theorem bd_ls {e : Xpr} (h : BdExpr e) : ln e.l.length ∧ ∀ x, x ∈ e.l → BdExpr x := by
  obtain ⟨_, _, _, _, _, _, _, h4, h5⟩ := h
  exact ⟨h4, h5⟩
theorem bd_v {e : Xpr} (h : BdExpr e) : BdVal e.v ∧ inI e.kind ∧ ln e.name.length := by
  obtain ⟨_, _, _, _, h1, h2, h3, _, _⟩ := h
  exact ⟨h2, h1, h3⟩
/-! ## may it be? -/
/-! ## exchequer/ast.right -/
def eright_0_sg : Sig := ⟨19, [(0, .sl .expr false), (4, .int .i64), (7, .int .i64), (8, .int .i64)], [(1, .fn 51 [.ptr 1 0])], [(1, .cells [.int .i64])], 80, 80, 400, []⟩
abbrev eright_0_V := List Xpr × Int × Int × Int × Int
def eright_0 {R : Type} (rf : FT [.sv .expr, .int .i64] [.bool]) (rec : eright_0_V → Option R) (kx : Ex → eright_0_V → Option R) (v : eright_0_V) : Option R := match v with
 | (v, v1, v2, v3, w) =>
  cond (decide (v3 < v2)) (
   chk (inb v3 v.length) (
    (rf ((at' .expr v v3), (wr .i64 (w - 1)))).bind fun x =>
     cond (!x) (
      kx .ret (v, v3, v2, v3, w)) (
      rec (v, v1, v2, (wr .i64 (v3 + 1)), w)))) (
   kx (.exit 0) (v, v1, v2, v3, w))
def eright_pxi0i0i0 (R : Type) (_k : Nat) (rf : FT [.sv .expr, .int .i64] [.bool]) : Px R := ⟨ttOf ttL, glT, callT [(34, callOr [.sv .expr, .int .i64] [.bool] rf)], callQT [], loopT []⟩
noncomputable def eright_pxi0i0 (R : Type) (k : Nat) (rf : FT [.sv .expr, .int .i64] [.bool]) : Px R := ⟨ttOf ttL, glT, callT [(51, callRun 120 600 (eright_pxi0i0i0 R k rf) Tryd.f51)], callQT [], loopT [(2, loopOr k eright_0_sg (eright_0 rf))]⟩
noncomputable def eright_pxi0 (R : Type) (k : Nat) (rf : FT [.sv .expr, .int .i64] [.bool]) : Px R := ⟨ttOf ttL, glT, callT [(67, callRun 80 400 (eright_pxi0i0 R k rf) Tryd.f67)], callQT [], loopT []⟩
noncomputable def eright_px (R : Type) (k : Nat) (rf : FT [.sv .expr, .int .i64] [.bool]) : Px R := ⟨ttOf ttL, glT, callT [(48, callOr [.sv .val] [.int .i64] vcheck_F), (49, callOr [.str] [.bool] lname_F), (50, callRun 40 200 (eright_pxi0 R k rf) Tryd.f50)], callQT [(47, callOrQ [.int .i64] [.int .i64] parts_F)], loopT []⟩
theorem eright_0_eq (R : Type) (k : Nat) (rf : FT [.sv .expr, .int .i64] [.bool]) : ∀ (fr : List Fr) (rec : eright_0_V → Option R) (kx : Ex → eright_0_V → Option R) (v : eright_0_V), round (eright_pxi0i0 R k rf) eright_0_sg (lp Tryd.f67 0) fr rec kx v = eright_0 rf rec kx v
  | fr, rec, kx, (v, v1, v2, v3, w) => by kernel_rfl
def eright_body (k : Nat) (rf : FT [.sv .expr, .int .i64] [.bool]) (x : HV [.sv .expr, .int .i64]) : Option (HV [.bool]) := match x with
 | (e, most) =>
  cond (decide (most = 0)) (
   some false) (
   cond (!decide ((e.l.length : Int) = (parts e.kind))) (
    some false) (
    let j2 := fun (_ : Unit) =>
     let j1 := fun (_ : Unit) =>
      iter (fun rec => eright_0 rf rec (fun e v => match v with | (_, v5, _, _, _) => match e with
       | .ret =>
        some (!(decide (0 ≤ v5)))
       | .exit 0 =>
        some true
       | _ => none)) k (e.l, 0, (e.l.length : Int), 0, most)
     let j := fun (p5 : Bool) =>
      cond (p5) (
       some false) (
       cond (!decide (e.kind = 2)) (
        cond (!decide (e.name = [])) (
         some false) (
         j1 ())) (
        j1 ()))
     cond (decide (e.kind = 2)) (
      j (!(lname e.name))) (
      j false)
    cond (decide (e.kind = 1)) (
     cond (!decide ((vcheck e.v) = 0)) (
      some false) (
      cond (decide (e.v.kind = 3)) (
       cond (decide (e.v.n < 0)) (
        some false) (
        j2 ())) (
       j2 ()))) (
     cond (!decide (e.v = (Val.mk 0 0 []))) (
      some false) (
      j2 ()))))
theorem eright_eq (k : Nat) (rf : FT [.sv .expr, .int .i64] [.bool]) : ∀ (x : HV [.sv .expr, .int .i64]), runF (eright_px _ k rf) Tryd.f34 [.sv .expr, .int .i64] [.bool] x some = eright_body k rf x
  | (e, most) => by kernel_rfl
theorem eright_run (k : Nat) (rf : FT [.sv .expr, .int .i64] [.bool]) (hrf : FnOk Tryd.prog elT glT 34 [.sv .expr, .int .i64] [.bool] rf) : FnOk Tryd.prog elT glT 34 [.sv .expr, .int .i64] [.bool] (eright_body k rf) := by
  refine fnOk_run Tryd.func34 rfl (by kernel_rfl) follows (by kernel_rfl) (n := 0) (by kernel_rfl) (px := eright_px _ k rf) (fun cx hP hel hgl => ?_) (eright_eq k rf)
  have hp3 : PxOk cx (eright_pxi0i0i0 (HV [.bool]) k rf) := ⟨fun t => by rw [hP, hel]; exact tt_ok ttL_ok t, by rw [hgl]; rfl⟩
  have hc3 : CallOk cx (eright_pxi0i0i0 (HV [.bool]) k rf) := callT_ok rfl (cfs_cons (cf_or (by rw [hP, hel, hgl]; exact hrf) (by kernel_rfl)) cfs_nil)
  have hq3 : CallQOk cx (eright_pxi0i0i0 (HV [.bool]) k rf) := callQT_ok rfl cqfs_nil
  have hp2 : PxOk cx (eright_pxi0i0 (HV [.bool]) k rf) := ⟨fun t => by rw [hP, hel]; exact tt_ok ttL_ok t, by rw [hgl]; rfl⟩
  have hc2 : CallOk cx (eright_pxi0i0 (HV [.bool]) k rf) := callT_ok rfl (cfs_cons (cf_run hp3 hc3 hq3 (by rw [hP]; exact follows) (by rw [hP]; exact Tryd.func51) rfl (by kernel_rfl) (by kernel_rfl) (n := 0) (by kernel_rfl) (all0)) cfs_nil)
  have hq2 : CallQOk cx (eright_pxi0i0 (HV [.bool]) k rf) := callQT_ok rfl cqfs_nil
  have hleright_0 : LoopOk cx (eright_pxi0i0 (HV [.bool]) k rf) (lp Tryd.f67 0) := loop_ok hp2 hc2 hq2 (by rw [hP]; exact follows) (k := k) (s := eright_0_sg) (step := eright_0 rf) (fun _ _ => by kernel_rfl) (by kernel_rfl) (eright_0_eq _ k rf) (loops_in (n := 0) (by kernel_rfl) all0)
  have hp1 : PxOk cx (eright_pxi0 (HV [.bool]) k rf) := ⟨fun t => by rw [hP, hel]; exact tt_ok ttL_ok t, by rw [hgl]; rfl⟩
  have hc1 : CallOk cx (eright_pxi0 (HV [.bool]) k rf) := callT_ok rfl (cfs_cons (cf_run hp2 hc2 hq2 (by rw [hP]; exact follows) (by rw [hP]; exact Tryd.func67) rfl (by kernel_rfl) (by kernel_rfl) (n := 1) (by kernel_rfl) ((allS all0 hleright_0))) cfs_nil)
  have hq1 : CallQOk cx (eright_pxi0 (HV [.bool]) k rf) := callQT_ok rfl cqfs_nil
  have hp0 : PxOk cx (eright_px (HV [.bool]) k rf) := ⟨fun t => by rw [hP, hel]; exact tt_ok ttL_ok t, by rw [hgl]; rfl⟩
  have hc0 : CallOk cx (eright_px (HV [.bool]) k rf) := callT_ok rfl (cfs_cons (cf_or (by rw [hP, hel, hgl]; exact vcheck_ok) (by kernel_rfl)) (cfs_cons (cf_or (by rw [hP, hel, hgl]; exact lname_ok) (by kernel_rfl)) (cfs_cons (cf_run hp1 hc1 hq1 (by rw [hP]; exact follows) (by rw [hP]; exact Tryd.func50) rfl (by kernel_rfl) (by kernel_rfl) (n := 0) (by kernel_rfl) (all0)) cfs_nil)))
  have hq0 : CallQOk cx (eright_px (HV [.bool]) k rf) := callQT_ok rfl (cqfs_cons (cqf_or (by rw [hP, hel, hgl]; exact parts_ok) (by kernel_rfl)) cqfs_nil)
  exact ⟨hp0, hc0, hq0, all0⟩
def eok (k : Int) (v : Val) (nm : Str) : Bool := cond (decide (k = 1)) (decide (vcheck v = 0) && !(decide (v.kind = 3) && decide (v.n < 0))) (decide (v = ⟨0, 0, []⟩)) && cond (decide (k = 2)) (lname nm) (decide (nm = []))
mutual
def eright : Xpr → Int → Bool
  | .mk k v nm l, m => !decide (m = 0) && decide ((l.length : Int) = parts k) && eok k v nm && erights l (wr .i64 (m - 1))
def erights : List Xpr → Int → Bool
  | [], _ => true
  | x :: l, m => eright x m && erights l m
end
def eright_F : FT [.sv .expr, .int .i64] [.bool] := fun x => some (eright x.1 x.2)
theorem eright_loop {R : Type} {rf : FT [.sv .expr, .int .i64] [.bool]} {kx : Ex → eright_0_V → Option R} {l : List Xpr} {m : Int} {a b : Option R} (hn : ln l.length) (hrf : ∀ x, x ∈ l → rf (x, wr .i64 (m - 1)) = some (eright x (wr .i64 (m - 1)))) (h1 : ∀ (j : Nat), kx .ret (l, (j : Int), (l.length : Int), (j : Int), m) = a) (h2 : ∀ q j, kx (.exit 0) (l, q, (l.length : Int), j, m) = b) : ∀ (k i : Nat) q, i ≤ l.length → l.length - i < k → iter (fun rec => eright_0 rf rec kx) k (l, q, (l.length : Int), (i : Int), m) = cond (erights (l.drop i) (wr .i64 (m - 1))) b a
  | 0, i, q, _, h => by omega
  | k + 1, i, q, hi, h => by
    rw [iter_s]
    by_cases hl : i < l.length
    · have ih := eright_loop hn hrf h1 h2 k (i + 1) q (by omega) (by omega)
      simp only [eright_0, wr_succ hl hn, ih, h1, drop_cons hl, at_nat (c := .expr) hl, inb_t hl, chk, cond_t, Bool.cond_decide, erights, hrf _ (List.getElem_mem hl), Option.bind_some]
      rw [if_pos (by omega)]
      cases eright l[i] (wr .i64 (m - 1)) <;> rfl
    · simp only [eright_0, h2, Bool.cond_decide]
      rw [if_neg (by omega), List.drop_eq_nil_of_le (by omega)]
      rfl
theorem eright_un (e : Xpr) (m : Int) : eright e m = (!decide (m = 0) && decide ((e.l.length : Int) = parts e.kind) && eok e.kind e.v e.name && erights e.l (wr .i64 (m - 1))) := by
  cases e
  simp only [eright]
  rfl
theorem eright_all (k : Nat) : ∀ (n : Nat) (e : Xpr) (m : Int), BdExpr e → esize e ≤ n → esize e ≤ k → iter (eright_body k) n (e, m) = some (eright e m)
  | 0, e, m, _, h, _ => by have := esize_pos e; omega
  | n + 1, e, m, hb, h, hk => by
    obtain ⟨hb4, hb5⟩ := bd_ls hb
    rw [esize_eq] at h hk
    have hl := esizes_len e.l
    have hrf : ∀ x, x ∈ e.l → ∀ m, iter (eright_body k) n (x, m) = some (eright x m) := fun x hx m => eright_all k n x m (hb5 x hx) (by have := esize_mem hx; omega) (by have := esize_mem hx; omega)
    have hloop := eright_loop (R := Bool) (rf := iter (eright_body k) n) (l := e.l) (m := m) (a := some false) (b := some true) (kx := fun e v => match v with
      | (_, v5, _, _, _) => match e with
        | .ret => some (!(decide (0 ≤ v5)))
        | .exit 0 => some true
        | _ => none) hb4 (fun x hx => hrf x hx _) (fun j => by simp) (fun _ _ => rfl) k 0 0 (Nat.zero_le _) (by omega)
    have e0 : ((0 : Nat) : Int) = 0 := rfl
    rw [e0] at hloop
    rw [iter_s, eright_un]
    simp only [eright_body] at hloop ⊢
    rw [hloop]
    simp only [List.drop_zero, eok]
    by_cases hm : m = 0
    · simp [hm]
    · rw [decide_eq_false hm]
      simp only [cond_f, Bool.not_false, Bool.true_and]
      by_cases hp : (e.l.length : Int) = parts e.kind
      · rw [decide_eq_true hp]
        by_cases h1 : e.kind = 1
        · have h2 : ¬ e.kind = 2 := by omega
          rw [decide_eq_true h1, decide_eq_false h2]
          simp only [cond_t, cond_f, Bool.not_false, Bool.not_true, Bool.true_and]
          cases decide (vcheck e.v = 0) <;> cases decide (e.v.kind = 3) <;> cases decide (e.v.n < 0) <;> cases decide (e.name = []) <;> cases erights e.l (wr .i64 (m - 1)) <;> rfl
        · rw [decide_eq_false h1]
          simp only [cond_f, Bool.not_true, Bool.true_and]
          cases decide (e.v = Val.mk 0 0 []) <;> cases decide (e.kind = 2) <;> cases decide (e.name = []) <;> cases lname e.name <;> cases erights e.l (wr .i64 (m - 1)) <;> rfl
      · rw [decide_eq_false hp]; rfl
theorem eright_ok : FnOk Tryd.prog elT glT 34 [.sv .expr, .int .i64] [.bool] eright_F := by
  refine .fin (ι := Nat) 0 (F := fun n => iter (eright_body n) n) (fun n => FnOk.rec' (Sx.enters_of Tryd.func34 rfl rfl) (fun rf hrf => eright_run n rf hrf) n) fun (e, m) r hb hx => ⟨esize e, ?_⟩
  exact (eright_all (esize e) (esize e) e m hb.1 (Nat.le_refl _) (Nat.le_refl _)).trans hx
/-! ## exchequer/ast.Expr -/
def aexpr_px (R : Type) : Px R := ⟨ttOf ttL, glT, callT [(34, callOr [.sv .expr, .int .i64] [.bool] eright_F)], callQT [], loopT []⟩
def aexpr_body (x : HV [.sv .expr]) : Option (HV [.int .i64]) := match x with
 | e =>
  cond (!(eright e 30)) (
   some 2) (
   some 0)
theorem aexpr_eq : ∀ (x : HV [.sv .expr]), runF (aexpr_px _) Tryd.f25 [.sv .expr] [.int .i64] x some = aexpr_body x
  | e => by kernel_rfl
theorem aexpr_run : FnOk Tryd.prog elT glT 25 [.sv .expr] [.int .i64] (aexpr_body) := by
  refine fnOk_run Tryd.func25 rfl (by kernel_rfl) follows (by kernel_rfl) (n := 0) (by kernel_rfl) (px := aexpr_px _) (fun cx hP hel hgl => ?_) (aexpr_eq)
  have hp0 : PxOk cx (aexpr_px (HV [.int .i64])) := ⟨fun t => by rw [hP, hel]; exact tt_ok ttL_ok t, by rw [hgl]; rfl⟩
  have hc0 : CallOk cx (aexpr_px (HV [.int .i64])) := callT_ok rfl (cfs_cons (cf_or (by rw [hP, hel, hgl]; exact eright_ok) (by kernel_rfl)) cfs_nil)
  have hq0 : CallQOk cx (aexpr_px (HV [.int .i64])) := callQT_ok rfl cqfs_nil
  exact ⟨hp0, hc0, hq0, all0⟩
def aexpr (e : Xpr) : Int :=
  cond (!(eright e 30)) (
   2) (
   0)
theorem aexpr_tot (x : HV [.sv .expr]) : aexpr_body x = some (aexpr x) := by
  first
    | exact rfl
    | simp only [aexpr_body, aexpr, cond_some]
def aexpr_F : FT [.sv .expr] [.int .i64] := fun x => some (aexpr x)
theorem aexpr_ok : FnOk Tryd.prog elT glT 25 [.sv .expr] [.int .i64] aexpr_F := .fin0 aexpr_run fun x _ _ hx => (aexpr_tot x).trans hx
/-! ## how much is in it -/
/-! ## exchequer/exchequerref13.Much -/
def much1_0_sg : Sig := ⟨41, [(1, .int .i64), (5, .int .i64), (6, .int .i64)], [(2, .ptr 0 0)], [(0, .one (.sv .expr))], 1, 0, 0, []⟩
abbrev much1_0_V := Int × Int × Int × Xpr
def much1_0 {R : Type} (rf : FT [.sv .expr, .int .i64] [.int .i64]) (rec : much1_0_V → Option R) (kx : Ex → much1_0_V → Option R) (v : much1_0_V) : Option R := match v with
 | (v, v1, v2, w) =>
  cond (decide (v2 < (w.l.length : Int))) (
   cond (decide (v1 < v)) (
    chk (inb v2 w.l.length) (
     (rf ((at' .expr w.l v2), (wr .i64 (v - v1)))).bind fun x =>
      rec (v, (wr .i64 (v1 + x)), (wr .i64 (v2 + 1)), w))) (
    kx (.exit 0) (v, v1, v2, w))) (
   kx (.exit 0) (v, v1, v2, w))
def much1_px (R : Type) (k : Nat) (rf : FT [.sv .expr, .int .i64] [.int .i64]) : Px R := ⟨ttOf ttL, glT, callT [(24, callOr [.sv .expr, .int .i64] [.int .i64] rf)], callQT [], loopT [(3, loopOr k much1_0_sg (much1_0 rf))]⟩
theorem much1_0_eq (R : Type) (k : Nat) (rf : FT [.sv .expr, .int .i64] [.int .i64]) : ∀ (fr : List Fr) (rec : much1_0_V → Option R) (kx : Ex → much1_0_V → Option R) (v : much1_0_V), round (much1_px R k rf) much1_0_sg (lp Tryd.f24 0) fr rec kx v = much1_0 rf rec kx v
  | fr, rec, kx, (v, v1, v2, w) => by kernel_rfl
def much1_body (k : Nat) (rf : FT [.sv .expr, .int .i64] [.int .i64]) (x : HV [.sv .expr, .int .i64]) : Option (HV [.int .i64]) := match x with
 | (e, most) =>
  iter (fun rec => much1_0 rf rec (fun e v => match v with | (_, v4, _, _) => match e with
   | .exit 0 =>
    some v4
   | _ => none)) k (most, (wr .i64 (1 + (wr .i64 (Int.tdiv (wr .i64 ((e.v.s.length : Int) + (e.name.length : Int))) 30)))), 0, e)
theorem much1_eq (k : Nat) (rf : FT [.sv .expr, .int .i64] [.int .i64]) : ∀ (x : HV [.sv .expr, .int .i64]), runF (much1_px _ k rf) Tryd.f24 [.sv .expr, .int .i64] [.int .i64] x some = much1_body k rf x
  | (e, most) => by kernel_rfl
theorem much1_run (k : Nat) (rf : FT [.sv .expr, .int .i64] [.int .i64]) (hrf : FnOk Tryd.prog elT glT 24 [.sv .expr, .int .i64] [.int .i64] rf) : FnOk Tryd.prog elT glT 24 [.sv .expr, .int .i64] [.int .i64] (much1_body k rf) := by
  refine fnOk_run Tryd.func24 rfl (by kernel_rfl) follows (by kernel_rfl) (n := 1) (by kernel_rfl) (px := much1_px _ k rf) (fun cx hP hel hgl => ?_) (much1_eq k rf)
  have hp0 : PxOk cx (much1_px (HV [.int .i64]) k rf) := ⟨fun t => by rw [hP, hel]; exact tt_ok ttL_ok t, by rw [hgl]; rfl⟩
  have hc0 : CallOk cx (much1_px (HV [.int .i64]) k rf) := callT_ok rfl (cfs_cons (cf_or (by rw [hP, hel, hgl]; exact hrf) (by kernel_rfl)) cfs_nil)
  have hq0 : CallQOk cx (much1_px (HV [.int .i64]) k rf) := callQT_ok rfl cqfs_nil
  have hlmuch1_0 : LoopOk cx (much1_px (HV [.int .i64]) k rf) (lp Tryd.f24 0) := loop_ok hp0 hc0 hq0 (by rw [hP]; exact follows) (k := k) (s := much1_0_sg) (step := much1_0 rf) (fun _ _ => by kernel_rfl) (by kernel_rfl) (much1_0_eq _ k rf) (loops_in (n := 0) (by kernel_rfl) all0)
  exact ⟨hp0, hc0, hq0, (allS all0 hlmuch1_0)⟩
mutual
def much1 : Xpr → Int → Int
  | .mk _ v nm l, most => muchL l most (wr .i64 (1 + wr .i64 (Int.tdiv (wr .i64 ((v.s.length : Int) + (nm.length : Int))) 30)))
def muchL : List Xpr → Int → Int → Int
  | [], _, n => n
  | x :: l, most, n => cond (decide (n < most)) (muchL l most (wr .i64 (n + much1 x (wr .i64 (most - n))))) n
end
def much1_F : FT [.sv .expr, .int .i64] [.int .i64] := fun x => some (much1 x.1 x.2)
theorem much1_loop {R : Type} {rf : FT [.sv .expr, .int .i64] [.int .i64]} {kx : Ex → much1_0_V → Option R} {e : Xpr} {most : Int} {g : Int → Option R} (hn : ln e.l.length) (hrf : ∀ x, x ∈ e.l → ∀ m, rf (x, m) = some (much1 x m)) (h2 : ∀ n j, kx (.exit 0) (most, n, j, e) = g n) : ∀ (k i : Nat) n, i ≤ e.l.length → e.l.length - i < k → iter (fun rec => much1_0 rf rec kx) k (most, n, (i : Int), e) = g (muchL (e.l.drop i) most n)
  | 0, i, n, _, h => by omega
  | k + 1, i, n, hi, h => by
    rw [iter_s]
    by_cases hl : i < e.l.length
    · have ih := fun n => much1_loop hn hrf h2 k (i + 1) n (by omega) (by omega)
      simp only [much1_0, wr_succ hl hn, ih, h2, drop_cons hl, at_nat (c := .expr) hl, inb_t hl, chk, cond_t, Bool.cond_decide, muchL, hrf _ (List.getElem_mem hl), Option.bind_some]
      rw [if_pos (by omega)]
      split <;> rfl
    · simp only [much1_0, h2, Bool.cond_decide]
      rw [if_neg (by omega), List.drop_eq_nil_of_le (by omega)]
      rfl
theorem much1_all (k : Nat) : ∀ (n : Nat) (e : Xpr) (m : Int), BdExpr e → esize e ≤ n → esize e ≤ k → iter (much1_body k) n (e, m) = some (much1 e m)
  | 0, e, m, _, h, _ => by have := esize_pos e; omega
  | n + 1, .mk kd v nm l, m, hb, h, hk => by
    obtain ⟨_, _, _, _, hb1, hb2, hb3, hb4, hb5⟩ := hb
    simp only [esize] at h hk
    have hl := esizes_len l
    have hrf : ∀ x, x ∈ l → ∀ m, iter (much1_body k) n (x, m) = some (much1 x m) := fun x hx m => much1_all k n x m (hb5 x hx) (by have := esize_mem hx; omega) (by have := esize_mem hx; omega)
    rw [iter_s]
    simp only [much1_body]
    refine (much1_loop (e := .mk kd v nm l) (g := some) hb4 hrf ?_ k 0 _ (Nat.zero_le _) (by simp only [Xpr.l]; omega)).trans ?_
    · exact fun _ _ => rfl
    · simp only [much1, Xpr.l, List.drop_zero, Xpr.v, Xpr.name]
theorem much1_ok : FnOk Tryd.prog elT glT 24 [.sv .expr, .int .i64] [.int .i64] much1_F := by
  refine .fin (ι := Nat) 0 (F := fun n => iter (much1_body n) n) (fun n => FnOk.rec' (Sx.enters_of Tryd.func24 rfl rfl) (fun rf hrf => much1_run n rf hrf) n) fun (e, m) r hb hx => ⟨esize e, ?_⟩
  exact (much1_all (esize e) (esize e) e m hb.1 (Nat.le_refl _) (Nat.le_refl _)).trans hx
end Go.Proofs.YtlhebakbbfmiiaaDoor
