/- ReckonNames: a name is its column's value; with more columns behind nothing changes; a name that no column has is told; on the condition of the row alone: that ast.signs holds what the program's text lays. -/
import Derived.Test.YtlhebakbbfmiiaaDoorFf
import Derived.Test.YtlhebakbbfmiiaaDoorFrE
namespace Go.Proofs.YtlhebakbbfmiiaaDoor
open Go.Ax Go.ChangeShapes Go.WideShapes Go.ChangeAt Go.RowKit Go.ChangeMaps
/-! ## exchequer/exchequerlaw15.ReckonNames -/
def lNames_0_sg : Sig := ⟨124, [(1, .sl .col false), (2, .sl .val false), (10, .bool), (17, .int .i64)], [], [], 0, 0, 0, []⟩
abbrev lNames_0_V := List Col × List Val × Bool × Int
def lNames_0 {R : Type} (rec : lNames_0_V → Option R) (kx : Ex → lNames_0_V → Option R) (v : lNames_0_V) : Option R := match v with
 | (v1, v2, v3, v4) =>
  cond (decide (v4 < (v1.length : Int))) (
   chk (inb v4 v1.length) (
    cond (!decide (((at' .col v1 v4).name) = [97])) (
     rec (v1, v2, v3, (wr .i64 (v4 + 1)))) (
     cond (decide ((evalX (Xpr.mk 2 ⟨0, 0, []⟩ [97] []) v1 v2).2 = 0)) (
      chk (inb v4 v2.length) (
       cond (decide (((evalX (Xpr.mk 2 ⟨0, 0, []⟩ [97] []) v1 v2).1) = (at' .val v2 v4))) (
        kx .ret (v1, v2, known, v4)) (
        kx .ret (v1, v2, false, v4)))) (
      kx .ret (v1, v2, false, v4))))) (
   kx (.exit 0) (v1, v2, v3, v4))
def lNames_px (R : Type) (k : Nat) : Px R := ⟨ttOf ttL, glT, callT [(9, callOr [.sv .expr, .sl .col false, .sl .val false] [.bool] much_F), (17, callOr [.sl .col false, .sl .val false] [.bool] rowfits_F), (19, callOr [.sv .val, .int .i64] [.bool] rfits2_F), (10, callOr [] [.bool] known_F), (13, callOr [.sv .expr, .sl .col false, .sl .val false] [.sv .val, .int .i64] evalX_F)], callQT [(10, callOrQ [] [.bool] known_F)], loopT [(14, loopOr k lNames_0_sg (lNames_0))]⟩
theorem lNames_0_eq (R : Type) (k : Nat) : ∀ (fr : List Fr) (rec : lNames_0_V → Option R) (kx : Ex → lNames_0_V → Option R) (v : lNames_0_V), round (lNames_px R k) lNames_0_sg (lp Tryd.f7 0) fr rec kx v = lNames_0 rec kx v
  | fr, rec, kx, (v1, v2, v3, v4) => by kernel_rfl
def lNames_body (k : Nat) (x : HV [.sv .expr, .sl .col false, .sl .val false, .sv .col, .sv .val]) : Option (HV [.bool]) := match x with
 | (e, cols, row, c, v) =>
  cond ((much e cols row)) (
   some known) (
   cond (!(rowfits cols row)) (
    some known) (
    cond (!(rfits2 v c.kind)) (
     some known) (
     chk (decide (0 + cols.length ≤ maxApp)) (
      chk (decide (([] ++ cols).length + 1 ≤ maxApp)) (
       chk (decide (0 + row.length ≤ maxApp)) (
        chk (decide (([] ++ row).length + 1 ≤ maxApp)) (
         let j := fun (_ : Unit) =>
          iter (fun rec => lNames_0 rec (fun e v => match v with | (v5, v6, v7, _) => match e with
           | .ret =>
            some v7
           | .exit 0 =>
            cond (decide ((evalX (Xpr.mk 2 ⟨0, 0, []⟩ [97] []) v5 v6).2 = 150)) (
             some known) (
             some false)
           | _ => none)) k (cols, row, false, 0)
         cond (!decide ((evalX e cols row).2 = 150)) (
          cond (!decide (((evalX e cols row).1) = ((evalX e (([] ++ cols) ++ [c]) (([] ++ row) ++ [v])).1))) (
           some false) (
           cond (!decide ((evalX e cols row).2 = (evalX e (([] ++ cols) ++ [c]) (([] ++ row) ++ [v])).2)) (
            some false) (
            j ()))) (
          j ()))))))))
theorem lNames_eq (k : Nat) : ∀ (x : HV [.sv .expr, .sl .col false, .sl .val false, .sv .col, .sv .val]), runF (lNames_px _ k) Tryd.f7 [.sv .expr, .sl .col false, .sl .val false, .sv .col, .sv .val] [.bool] x some = lNames_body k x
  | (e, cols, row, c, v) => by kernel_rfl
theorem lNames_run (k : Nat) : FnOk Tryd.prog elT glT 7 [.sv .expr, .sl .col false, .sl .val false, .sv .col, .sv .val] [.bool] (lNames_body k) := by
  refine fnOk_run Tryd.func7 rfl (by kernel_rfl) follows (by kernel_rfl) (n := 1) (by kernel_rfl) (px := lNames_px _ k) (fun cx hP hel hgl => ?_) (lNames_eq k)
  have hp0 : PxOk cx (lNames_px (HV [.bool]) k) := ⟨fun t => by rw [hP, hel]; exact tt_ok ttL_ok t, by rw [hgl]; rfl⟩
  have hc0 : CallOk cx (lNames_px (HV [.bool]) k) := callT_ok rfl (cfs_cons (cf_or (by rw [hP, hel, hgl]; exact much_ok) (by kernel_rfl)) (cfs_cons (cf_or (by rw [hP, hel, hgl]; exact rowfits_ok) (by kernel_rfl)) (cfs_cons (cf_or (by rw [hP, hel, hgl]; exact rfits2_ok) (by kernel_rfl)) (cfs_cons (cf_or (by rw [hP, hel, hgl]; exact known_ok) (by kernel_rfl)) (cfs_cons (cf_or (by rw [hP, hel, hgl]; exact evalX_ok) (by kernel_rfl)) cfs_nil)))))
  have hq0 : CallQOk cx (lNames_px (HV [.bool]) k) := callQT_ok rfl (cqfs_cons (cqf_or (by rw [hP, hel, hgl]; exact known_ok) (by kernel_rfl)) cqfs_nil)
  have hllNames_0 : LoopOk cx (lNames_px (HV [.bool]) k) (lp Tryd.f7 0) := loop_ok hp0 hc0 hq0 (by rw [hP]; exact follows) (k := k) (s := lNames_0_sg) (step := lNames_0) (fun _ _ => by kernel_rfl) (by kernel_rfl) (lNames_0_eq _ k) (loops_in (n := 0) (by kernel_rfl) all0)
  exact ⟨hp0, hc0, hq0, (allS all0 hllNames_0)⟩
theorem findFrom_app : ∀ (l m : List Col) (s : Str) (i : Nat), findFrom (l ++ m) s i = if findFrom l s i = -1 then findFrom m s (i + l.length) else findFrom l s i
  | [], m, s, i => by simp [findFrom]
  | c :: l, m, s, i => by
    by_cases h : c.name = s
    · have e1 : ∀ k, findFrom (c :: k) s i = (i : Int) := fun k => by simp only [findFrom]; rw [if_pos h]
      rw [List.cons_append, e1, e1, if_neg (by omega)]
    · have e1 : ∀ k, findFrom (c :: k) s i = findFrom k s (i + 1) := fun k => by simp only [findFrom]; rw [if_neg h]
      rw [List.cons_append, e1, e1, findFrom_app l m s (i + 1), List.length_cons, show i + 1 + l.length = i + (l.length + 1) by omega]
theorem find_more {cols : List Col} {s : Str} (m : List Col) (h : ¬ find cols s < 0) : find (cols ++ m) s = find cols s := by
  simp only [find] at *
  rw [findFrom_app, if_neg (by omega)]
theorem at_more {c : Ck} {xs : List (El c)} (m : List (El c)) {i : Int} (h0 : 0 ≤ i) (h1 : i < (xs.length : Int)) : at' c (xs ++ m) i = at' c xs i := by
  obtain ⟨j, rfl⟩ : ∃ j : Nat, i = (j : Int) := ⟨i.toNat, by omega⟩
  have hj : j < xs.length := by omega
  rw [at_nat (c := c) (xs := xs ++ m) (by rw [List.length_append]; omega), at_nat (c := c) hj, List.getElem_append_left hj]
theorem kfin_more {e : Xpr} {cols : List Col} (c : Col) {a b : Int} (h : (kfin e cols a b).2 ≠ 150) : kfin e (cols ++ [c]) a b = kfin e cols a b := by
  simp only [kfin] at h ⊢
  by_cases h1 : e.kind = 1
  · rw [if_pos h1, if_pos h1]
  · rw [if_neg h1] at h
    rw [if_neg h1, if_neg h1]
    by_cases h2 : e.kind = 2
    · rw [if_pos h2] at h
      rw [if_pos h2, if_pos h2]
      by_cases h3 : find cols e.name < 0
      · rw [if_pos h3] at h; exact absurd rfl h
      · rw [find_more _ h3, if_neg h3, if_neg h3, at_more (c := .col) _ (by omega) (by have := find_range cols e.name; omega)]
    · rw [if_neg h2, if_neg h2]
theorem kindE_more (c : Col) (cols : List Col) : ∀ (n : Nat) (e : Xpr), esize e ≤ n → (kindE e cols).2 ≠ 150 → kindE e (cols ++ [c]) = kindE e cols
  | 0, e, h, _ => by have := esize_pos e; omega
  | n + 1, e, h, hk => by
    rw [esize_eq] at h
    rw [kindE_un] at hk
    rw [kindE_un, kindE_un e cols]
    cases hl : e.l with
    | nil =>
      rw [hl] at hk
      exact kfin_more c hk
    | cons x l =>
      rw [hl] at hk h
      cases l with
      | nil =>
        simp only [kindL, kres, esizes] at hk h ⊢
        by_cases hf : (kindE x cols).2 = 0
        · rw [if_pos hf] at hk
          rw [kindE_more c cols n x (by omega) (by omega)]
          simp only [if_pos hf]
          exact kfin_more c hk
        · rw [if_neg hf] at hk
          rw [kindE_more c cols n x (by omega) hk]
          simp only [if_neg hf]
      | cons y l =>
        simp only [kindL, kres, esizes] at hk h ⊢
        by_cases hf : (kindE x cols).2 = 0
        · rw [if_pos hf] at hk
          rw [kindE_more c cols n x (by omega) (by omega)]
          simp only [if_pos hf]
          by_cases hg : (kindE y cols).2 = 0
          · rw [if_pos hg] at hk
            rw [kindE_more c cols n y (by omega) (by omega)]
            simp only [if_pos hg]
            exact kfin_more c hk
          · rw [if_neg hg] at hk
            rw [kindE_more c cols n y (by omega) hk]
            simp only [if_neg hg]
        · rw [if_neg hf] at hk
          rw [kindE_more c cols n x (by omega) hk]
          simp only [if_neg hf]
theorem efin_more {e : Xpr} {cols : List Col} {row : List Val} (c : Col) (v : Val) (hlen : cols.length = row.length) (h : e.kind = 2 → ¬ find cols e.name < 0) (q : List Val) (z : Bool) : efin e (cols ++ [c]) (row ++ [v]) q z = efin e cols row q z := by
  simp only [efin]
  by_cases h2 : e.kind = 2
  · have h3 := h h2
    have hr := find_range cols e.name
    have hi : inb (find cols e.name) (row ++ [v]).length = inb (find cols e.name) row.length := by
      obtain ⟨j, hj⟩ : ∃ j : Nat, find cols e.name = (j : Int) := ⟨(find cols e.name).toNat, by omega⟩
      rw [hj, inb_t (i := j) (n := row.length) (by omega), inb_t (by rw [List.length_append]; omega)]
    rw [find_more _ h3, hi, at_more (c := .val) _ (by omega) (by omega)]
  · simp only [decide_eq_false h2, cond_f]
theorem evalE_more {cols : List Col} {row : List Val} (c : Col) (v : Val) (hf : cols.length = row.length) : ∀ (n : Nat) (e : Xpr) (m : Int), esize e ≤ n → eright e m = true → (kindE e cols).2 = 0 → evalE e (cols ++ [c]) (row ++ [v]) = evalE e cols row
  | 0, e, _, h, _, _ => by have := esize_pos e; omega
  | n + 1, e, m, h, hr, hk => by
    obtain ⟨hp, hok, hs⟩ := eright_parts hr
    rw [esize_eq] at h
    rw [kindE_un] at hk
    rw [evalE_un, evalE_un e cols row]
    have hq : e.kind = 2 → ¬ find cols e.name < 0 := by
      intro h2
      have h0 : parts e.kind = 0 := by rw [h2]; decide
      have hl : e.l = [] := List.eq_nil_of_length_eq_zero (by omega)
      rw [hl] at hk
      simp only [kindL, kres, kfin, h2] at hk
      intro h3
      simp [h3] at hk
    have hL : evalL e.l (cols ++ [c]) (row ++ [v]) = evalL e.l cols row := by
      cases hl : e.l with
      | nil => rfl
      | cons x l =>
        rw [hl] at hk hs h hp
        cases l with
        | nil =>
          simp only [kindL, kres, erights, Bool.and_eq_true, esizes] at hk hs h
          have hx : (kindE x cols).2 = 0 := by
            by_cases hx : (kindE x cols).2 = 0
            · exact hx
            · rw [if_neg hx] at hk; exact absurd hk hx
          simp only [evalL, evalE_more c v hf n x _ (by omega) hs.1 hx]
        | cons y l =>
          simp only [kindL, kres, erights, Bool.and_eq_true, esizes] at hk hs h
          have hx : (kindE x cols).2 = 0 := by
            by_cases hx : (kindE x cols).2 = 0
            · exact hx
            · rw [if_neg hx] at hk; exact absurd hk hx
          rw [if_pos hx] at hk
          have hy : (kindE y cols).2 = 0 := by
            by_cases hy : (kindE y cols).2 = 0
            · exact hy
            · rw [if_neg hy] at hk; exact absurd hk hy
          have hl0 : l = [] := List.eq_nil_of_length_eq_zero (by
            simp only [List.length_cons] at hp
            rcases parts_spec e.kind with ⟨h0, _⟩ | ⟨h0, _⟩ | ⟨h0, _⟩ | h0 <;> omega)
          subst hl0
          simp only [evalL, evalE_more c v hf n x _ (by omega) hs.1 hx, evalE_more c v hf n y _ (by omega) hs.2.1 hy]
    rw [hL]
    cases evalL e.l cols row with
    | none => rfl
    | some p =>
      obtain ⟨f, vs⟩ := p
      simp only [efin_more c v hf hq]
theorem allFit_app {c : Col} {v : Val} (hv : vfits v c.kind = true) : ∀ {cols : List Col} {row : List Val}, allFit cols row = true → allFit (cols ++ [c]) (row ++ [v]) = true
  | [], [], _ => by simp [allFit, hv]
  | _ :: cs, _ :: vs, h => by
    simp only [allFit, Bool.and_eq_true, List.cons_append] at h ⊢
    exact ⟨h.1, allFit_app hv h.2⟩
  | [], _ :: _, h => by simp [allFit] at h
  | _ :: _, [], h => by simp [allFit] at h
theorem evalX_more {e : Xpr} {cols : List Col} {row : List Val} (c : Col) (v : Val) (hf : rowfits cols row = true) (hv : vfits v c.kind = true) (h : ¬ (evalX e cols row).2 = 150) : evalX e (cols ++ [c]) (row ++ [v]) = evalX e cols row := by
  have hf2 : rowfits (cols ++ [c]) (row ++ [v]) = true := allFit_app hv hf
  have hlen := allFit_len hf
  simp only [evalX, hf, hf2] at h ⊢
  by_cases h1 : aexpr e = 0
  · simp only [h1, decide_true, Bool.not_true, cond_f] at h ⊢
    by_cases h2 : (kindE e cols).2 = 0
    · rw [kindE_more c cols _ e (Nat.le_refl _) (by omega)]
      rw [evalE_more c v hlen _ e 30 (Nat.le_refl _) (aexpr_iff.1 h1) h2]
    · simp only [decide_eq_false h2, Bool.not_false, cond_t] at h
      rw [kindE_more c cols _ e (Nat.le_refl _) h]
      simp only [decide_eq_false h2, Bool.not_false, cond_t]
  · simp only [decide_eq_false h1, Bool.not_false, cond_t]
theorem xN_right : aexpr (Xpr.mk 2 ⟨0, 0, []⟩ [97] []) = 0 := by kernel_rfl
theorem xN_kind (cols : List Col) : kindE (Xpr.mk 2 ⟨0, 0, []⟩ [97] []) cols = if find cols [97] < 0 then (0, 150) else ((at' .col cols (find cols [97])).kind, 0) := by
  rw [kindE_un]; rfl
theorem xN_eval (cols : List Col) (row : List Val) : evalE (Xpr.mk 2 ⟨0, 0, []⟩ [97] []) cols row = chk (inb (find cols [97]) row.length) (some (at' .val row (find cols [97]), 0)) := by
  rw [evalE_un]; rfl
theorem xN_neg {cols : List Col} {row : List Val} (hf : rowfits cols row = true) (h : find cols [97] = -1) : (evalX (Xpr.mk 2 ⟨0, 0, []⟩ [97] []) cols row).2 = 150 := by
  simp [evalX, xN_right, hf, xN_kind, h]
theorem xN_pos {cols : List Col} {row : List Val} (hf : rowfits cols row = true) {i : Nat} (hi : i < row.length) (h : find cols [97] = (i : Int)) : evalX (Xpr.mk 2 ⟨0, 0, []⟩ [97] []) cols row = (row[i], 0) := by
  simp only [evalX, xN_right, hf, xN_kind, xN_eval, h, inb_t hi, at_nat (c := .val) hi, chk]
  rw [if_neg (by omega)]
  rfl
theorem lNames_loop {R : Type} {kx : Ex → lNames_0_V → Option R} {cols : List Col} {row : List Val} {a : Option R} (hn : ln cols.length) (hf : rowfits cols row = true) (h1 : ∀ j, kx .ret (cols, row, true, j) = a) (h2 : find cols [97] = -1 → ∀ q j, kx (.exit 0) (cols, row, q, j) = a) : ∀ (k i : Nat) q, i ≤ cols.length → find cols [97] = findFrom (cols.drop i) [97] i → cols.length - i < k → iter (fun rec => lNames_0 rec kx) k (cols, row, q, (i : Int)) = a
  | 0, i, q, _, _, h => by omega
  | k + 1, i, q, hi, hd, h => by
    rw [iter_s]
    by_cases hl : i < cols.length
    · have hl2 : i < row.length := by have := allFit_len hf; omega
      rw [drop_cons hl] at hd
      simp only [findFrom] at hd
      simp only [lNames_0, inb_t hl, inb_t hl2, chk, cond_t, at_nat (c := .col) hl, at_nat (c := .val) hl2, wr_succ hl hn, known_true]
      rw [decide_eq_true (show (i : Int) < (cols.length : Int) by omega)]
      by_cases hc : cols[i].name = [97]
      · rw [if_pos hc] at hd
        rw [xN_pos hf hl2 hd, decide_eq_true hc]
        simp only [decide_true, Bool.not_true, cond_t, cond_f]
        exact h1 i
      · rw [if_neg hc] at hd
        rw [decide_eq_false hc]
        simp only [Bool.not_false, cond_t]
        exact lNames_loop hn hf h1 h2 k (i + 1) q (by omega) hd (by omega)
    · rw [List.drop_eq_nil_of_le (by omega)] at hd
      simp only [lNames_0]
      rw [decide_eq_false (by omega)]
      exact h2 hd q i
theorem lNames_true (e : Xpr) (cols : List Col) (row : List Val) (c : Col) (v : Val) (hb : ln cols.length) : lNames_body (cols.length + 1) (e, cols, row, c, v) = some true := by
  simp only [lNames_body, known_true, rfits2_v]
  cases hm : much e cols row
  · cases hf : rowfits cols row
    · rfl
    · cases hv : vfits v c.kind
      · rfl
      · have hc : cols.length ≤ 60 ∧ row.length ≤ 60 := by
          simp only [much] at hm
          by_cases a1 : 60 < (cols.length : Int)
          · rw [decide_eq_true a1] at hm
            cases decide (400 ≤ much1 e 400) <;> simp at hm
          · by_cases a2 : 60 < (row.length : Int)
            · rw [decide_eq_true a2] at hm
              cases decide (400 ≤ much1 e 400) <;> cases decide (60 < (cols.length : Int)) <;> simp at hm
            · omega
        have q1 : decide (0 + cols.length ≤ maxApp) = true := decide_eq_true (by unfold maxApp; omega)
        have q2 : decide ((([] : List Col) ++ cols).length + 1 ≤ maxApp) = true := decide_eq_true (by unfold maxApp; rw [List.nil_append]; omega)
        have q3 : decide (0 + row.length ≤ maxApp) = true := decide_eq_true (by unfold maxApp; omega)
        have q4 : decide ((([] : List Val) ++ row).length + 1 ≤ maxApp) = true := decide_eq_true (by unfold maxApp; rw [List.nil_append]; omega)
        simp only [q1, q2, q3, q4, chk, cond_t, cond_f, Bool.not_true]
        by_cases h150 : (evalX e cols row).2 = 150
        · rw [decide_eq_true h150]
          simp only [Bool.not_true, cond_f]
          refine lNames_loop hb hf (a := some true) (fun j => rfl) ?_ (cols.length + 1) 0 false (Nat.zero_le _) rfl (by omega)
          intro hn q j
          simp only [xN_neg hf hn, decide_true, cond_t]
        · have hX : evalX e (([] ++ cols) ++ [c]) (([] ++ row) ++ [v]) = evalX e cols row := evalX_more c v hf hv h150
          generalize evalX e (([] ++ cols) ++ [c]) (([] ++ row) ++ [v]) = X at hX ⊢
          subst hX
          rw [decide_eq_false h150]
          simp only [decide_true, Bool.not_true, Bool.not_false, cond_f, cond_t]
          refine lNames_loop hb hf (a := some true) (fun j => rfl) ?_ (cols.length + 1) 0 false (Nat.zero_le _) rfl (by omega)
          intro hn q j
          simp only [xN_neg hf hn, decide_true, cond_t]
  · rfl
theorem lNames_ok : FnOk Tryd.prog elT glT 7 [.sv .expr, .sl .col false, .sl .val false, .sv .col, .sv .val] [.bool] (fun _ => some true) := .fin 0 lNames_run fun (e, cols, row, c, v) r hb hx => ⟨cols.length + 1, by
  rw [← hx]
  exact lNames_true e cols row c v hb.2.1.1⟩
set_option maxRecDepth 100000 in
theorem reckonNames_contract (H : Type) (enc : TypeId × Value → H) (W : World) (base : Nat) (args : Array Value) (ds gs : List (DataW H)) (before : List MemPlace)
    (hval : ∀ (j : Nat) t v, Tryd.f7.params[j]? = some t → args[j]? = some v → Value.okWide Tryd.prog W .any base t v)
    (hW : DataW.Whole enc Tryd.prog Tryd.f7.params.toList Rows.reckonNamesSpec.vars false W args.toList ds gs before) (hL : laidMetH Tryd.prog Rows.reckonNamesRow.laid W) :
    Calls Tryd.prog 7 args W fun e W' => ∃ v, e = .returned v ∧ Rows.reckonNamesSpec.post enc Tryd.prog Tryd.f7 false true false false W args v W' :=
  law_frame (fn := Tryd.f7) lNames_ok (fun _ _ => rfl) (by kernel_rfl) rfl (fun ds h => match ds, h with | [_, _, _, _, _], _ => ⟨rfl, rfl, rfl⟩) (by kernel_rfl) (by kernel_rfl) hval hW (laid_glR hL)
theorem reckonNames_laid_met (os : Os) (args : Array Value) : laidMet Tryd.prog Rows.reckonNamesRow.laid ((laidWorld os).forCall (fun _ _ => 0) ⟨#[], args, []⟩).memory :=
  laidMet_of_run' 8 (by kernel_rfl) (by kernel_rfl)
theorem reckonNames_reads (os : Os) {H : Type} (enc : TypeId × Value → H) : ∃ places, DataW.whole enc Tryd.prog ((laidWorld os).forCall (fun _ _ => 0) ⟨#[], #[.agg #[.int .i64 0, .int .i64 0, .int .i64 0, .string ⟨#[]⟩, .string ⟨#[]⟩, .slice none 0 0], .slice none 0 0, .slice none 0 0, .agg #[.string ⟨#[]⟩, .int .i64 0, .bool false, .bool false, .string ⟨#[]⟩], .agg #[.int .i64 0, .int .i64 0, .string ⟨#[]⟩]], []⟩).memory Tryd.f7.params.toList Rows.reckonNamesSpec.vars false (#[.agg #[.int .i64 0, .int .i64 0, .int .i64 0, .string ⟨#[]⟩, .string ⟨#[]⟩, .slice none 0 0], .slice none 0 0, .slice none 0 0, .agg #[.string ⟨#[]⟩, .int .i64 0, .bool false, .bool false, .string ⟨#[]⟩], .agg #[.int .i64 0, .int .i64 0, .string ⟨#[]⟩]] : Array Value).toList 8 = some ([.agg [.lit (.int .i64 0), .agg [.lit (.int .i64 0), .lit (.int .i64 0), .lit (.string [])], .lit (.string []), .nil], .nil, .nil, .agg [.lit (.string []), .lit (.int .i64 0), .lit (.bool false), .lit (.bool false), .lit (.string [])], .agg [.lit (.int .i64 0), .lit (.int .i64 0), .lit (.string [])]], [], places) :=
  ⟨[], by kernel_rfl⟩
set_option maxRecDepth 100000 in
theorem reckonNames_lifted (os : Os) (started : os.Started) (H : Type) (enc : TypeId × Value → H) (F : Stop.Interp) :
    ReturnsInHanded {} Tryd.checked os 7 .any ((OpenSpec.ofChange Rows.reckonNamesSpec).preRow enc Tryd.prog Tryd.f7 Rows.reckonNamesRow.domain false Rows.reckonNamesRow.laid) (((OpenSpec.ofChange Rows.reckonNamesSpec).at F).post enc Tryd.prog Tryd.f7 false true false false) := by
  obtain ⟨places, hx⟩ := reckonNames_reads os enc
  refine returnsInHanded_of_row (C := Tryd.checked) (s := OpenSpec.ofChange Rows.reckonNamesSpec) own started (by kernel_rfl) Tryd.func7
    (witness_row_at (enc := enc) (C := Tryd.checked) false (laidWorld os) #[.agg #[.int .i64 0, .int .i64 0, .int .i64 0, .string ⟨#[]⟩, .string ⟨#[]⟩, .slice none 0 0], .slice none 0 0, .slice none 0 0, .agg #[.string ⟨#[]⟩, .int .i64 0, .bool false, .bool false, .string ⟨#[]⟩], .agg #[.int .i64 0, .int .i64 0, .string ⟨#[]⟩]] rfl (by kernel_rfl) (by kernel_rfl) (by kernel_rfl)
      (OpenSpec.preRow_of_cond 8 hx (by kernel_rfl) (fun k hk => by cases hk) (by kernel_rfl) (reckonNames_laid_met os _))) ?_
  intro W base args ds gs before hval hW _ _ _ hL _ _
  exact reckonNames_contract H enc W base args ds gs before hval hW hL
theorem reckonNames_said : Rows.ReckonNamesSaid :=
  OpenClaim.holds_of_cond 7 Tryd.f7 rfl rfl rfl rfl rfl rfl rfl ⟨rfl, rfl, rfl, rfl, rfl⟩ rfl rfl rfl rfl rfl (by kernel_rfl) Tryd.func7 (by kernel_rfl)
    (of_decide_eq_true (by kernel_rfl)) (by unfold Func.isWrapper; first | (rw [if_pos (by decide +kernel)]; kernel_rfl) | (rw [if_neg (by decide +kernel)]; exact ⟨rfl, rfl⟩))
    (fun os started H enc _ F => by rw [OpenClaim.pre_eq_preRow]; exact reckonNames_lifted os started H enc F)
theorem reckonNames_plain (f : FuncId) (fn : Func) (hf : Tryd.pinned.checked.prog.funcNamed "exchequer/exchequerlaw15.ReckonNames" = some f) (hfn : Tryd.pinned.checked.prog.funcs[f]? = some fn) :
    false = Tryd.pinned.checked.prog.looks [] ∧ ∀ (j : Nat) t, fn.params[j]? = some t → Tryd.pinned.checked.prog.wantsStandIn t = false := by
  obtain rfl : f = 7 := Option.some.inj ((show Tryd.prog.funcNamed "exchequer/exchequerlaw15.ReckonNames" = some 7 by kernel_rfl).symm.trans hf) |>.symm
  obtain rfl : fn = Tryd.f7 := (Option.some.inj (Tryd.func7.symm.trans hfn)).symm
  refine ⟨by kernel_rfl, fun j t ht => ?_⟩
  have hall : (Tryd.f7.params.all fun t => !Tryd.prog.wantsStandIn t) = true := by kernel_rfl
  have := Array.all_eq_true_iff_forall_mem.1 hall t (Array.mem_of_getElem? ht)
  have h2 : Tryd.prog.wantsStandIn t = false := by simpa using this
  exact h2
/-- THE CARD -/
theorem reckonNames_card : Rows.ReckonNamesCardSaid :=
  Claim7.holds_tied_plain_at .later [] _ _ _ _ reckonNames_said (fun _ h => by cases h) (by kernel_rfl) (fun _ h => by cases h) reckonNames_row_tie rfl ⟨rfl, rfl⟩ (by kernel_rfl) rfl reckonNames_plain (by kernel_rfl)
#print axioms reckonNames_card
end Go.Proofs.YtlhebakbbfmiiaaDoor
