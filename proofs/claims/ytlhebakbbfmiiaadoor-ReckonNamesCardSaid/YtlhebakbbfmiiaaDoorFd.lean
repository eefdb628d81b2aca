/- Functions: the kind and the value of an expression. -/
import Derived.Test.YtlhebakbbfmiiaaDoorFc
namespace Go.Proofs.YtlhebakbbfmiiaaDoor
open Go.Ax
theorem findFrom_range : ∀ (l : List Col) (s : Str) (i : Nat), findFrom l s i = -1 ∨ ((i : Int) ≤ findFrom l s i ∧ findFrom l s i < (i + l.length : Nat))
  | [], _, _ => .inl rfl
  | c :: l, s, i => by
    simp only [findFrom, List.length_cons]
    split
    · right; omega
    · have := findFrom_range l s (i + 1); omega
theorem find_range (l : List Col) (s : Str) : find l s = -1 ∨ (0 ≤ find l s ∧ find l s < (l.length : Int)) := by
  have := findFrom_range l s 0
  simpa [find] using this
theorem find_inb {l : List Col} {s : Str} (h : ¬ find l s < 0) : inb (find l s) l.length = true := by
  have := find_range l s
  simp only [inb, Bool.and_eq_true, decide_eq_true_eq]
  omega
/-! ## exchequer/reckon.kind -/
def kindE_0_sg : Sig := ⟨102, [(1, .sl .col false), (4, .int .i64), (5, .int .i64), (12, .sl .expr false), (13, .int .i64), (14, .int .i64)], [(2, .ptr 0 0), (6, .ptr 1 0)], [(0, .one (.sv .expr)), (1, .one (.rw .int 2))], 2, 0, 0, []⟩
abbrev kindE_0_V := List Col × Int × Int × List Xpr × Int × Int × Xpr × List Int
def kindE_0 {R : Type} (rf : FT [.sv .expr, .sl .col false] [.int .i64, .int .i64]) (rec : kindE_0_V → Option R) (kx : Ex → kindE_0_V → Option R) (v : kindE_0_V) : Option R := match v with
 | (v, v1, v2, v3, v4, v5, w, w1) =>
  cond (decide (v5 < v4)) (
   chk (inb v5 v3.length) (
    (rf ((Xpr.mk ((at' .expr v3 v5).kind) ⟨((at' .expr v3 v5).v.kind), ((at' .expr v3 v5).v.n), ((at' .expr v3 v5).v.s)⟩ ((at' .expr v3 v5).name) ((at' .expr v3 v5).l)), v)).bind fun (x, x1) =>
     chk (inb v5 2) (
      cond (!decide (x1 = 0)) (
       kx .ret (v, 0, x1, v3, v4, v5, w, (w1.set (v5 : Int).toNat x))) (
       cond (decide (v5 = 1)) (
        kx (.exit 0) (v, v1, v2, v3, v4, v5, w, (w1.set (v5 : Int).toNat x))) (
        rec (v, v1, v2, v3, v4, (wr .i64 (v5 + 1)), w, (w1.set (v5 : Int).toNat x))))))) (
   kx (.exit 0) (v, v1, v2, v3, v4, v5, w, w1))
def kindE_px (R : Type) (k : Nat) (rf : FT [.sv .expr, .sl .col false] [.int .i64, .int .i64]) : Px R := ⟨ttOf ttL, glT, callT [(26, callOr [.sv .expr, .sl .col false] [.int .i64, .int .i64] rf), (35, callOr [.sl .col false, .str] [.int .i64] find_F), (31, callOr [.int .i64, .int .i64] [.bool] rfits_F)], callQT [], loopT [(3, loopOr k kindE_0_sg (kindE_0 rf))]⟩
theorem kindE_0_eq (R : Type) (k : Nat) (rf : FT [.sv .expr, .sl .col false] [.int .i64, .int .i64]) : ∀ (fr : List Fr) (rec : kindE_0_V → Option R) (kx : Ex → kindE_0_V → Option R) (v : kindE_0_V), round (kindE_px R k rf) kindE_0_sg (lp Tryd.f26 0) fr rec kx v = kindE_0 rf rec kx v
  | fr, rec, kx, (v, v1, v2, v3, v4, v5, w, w1) => by kernel_rfl
def kindE_body (k : Nat) (rf : FT [.sv .expr, .sl .col false] [.int .i64, .int .i64]) (x : HV [.sv .expr, .sl .col false]) : Option (HV [.int .i64, .int .i64]) := match x with
 | (e, cols) =>
  iter (fun rec => kindE_0 rf rec (fun e v => match v with | (v6, v7, v8, _, _, _, v12, v13) => match e with
   | .ret =>
    some (v7, v8)
   | .exit 0 =>
    let j2 := fun (q : List Int) =>
     cond (decide (v12.kind = 1)) (
      some (v12.v.kind, 0)) (
      cond (decide (v12.kind = 2)) (
       cond (decide ((find v6 v12.name) < 0)) (
        some (0, 150)) (
        chk (inb (find v6 v12.name) v6.length) (
         some ((at' .col v6 (find v6 v12.name)).kind, 0)))) (
       cond (decide (v12.kind = 16)) (
        some (2, 0)) (
        let j1 := fun (p : Bool) =>
         cond (p) (
          cond ((rfits (at' .int q 0) 2)) (
           cond ((rfits (at' .int q 1) 2)) (
            some (2, 0)) (
            some (0, 151))) (
           some (0, 151))) (
          let j := fun (p3 : Bool) =>
           cond (p3) (
            cond ((rfits (at' .int q 0) 3)) (
             cond ((rfits (at' .int q 1) 3)) (
              some (3, 0)) (
              some (0, 151))) (
             some (0, 151))) (
            cond (decide ((at' .int q 0) = (at' .int q 1))) (
             some (2, 0)) (
             cond (decide ((at' .int q 0) = 1)) (
              some (2, 0)) (
              cond (decide ((at' .int q 1) = 1)) (
               some (2, 0)) (
               some (0, 151)))))
          cond (decide (v12.kind = 12)) (
           j (decide (v12.kind = 12))) (
           cond (decide (v12.kind = 13)) (
            j (decide (v12.kind = 13))) (
            cond (decide (v12.kind = 14)) (
             j (decide (v12.kind = 14))) (
             j (decide (v12.kind = 15))))))
        cond (decide (v12.kind = 3)) (
         j1 (decide (v12.kind = 3))) (
         cond (decide (v12.kind = 4)) (
          j1 (decide (v12.kind = 4))) (
          j1 (decide (v12.kind = 5)))))))
    cond (decide ((v12.l.length : Int) = 1)) (
     j2 (v13.set (1 : Int).toNat (at' .int v13 0))) (
     j2 v13)
   | _ => none)) k (cols, 0, 0, e.l, (e.l.length : Int), 0, e, [0, 0])
theorem kindE_eq (k : Nat) (rf : FT [.sv .expr, .sl .col false] [.int .i64, .int .i64]) : ∀ (x : HV [.sv .expr, .sl .col false]), runF (kindE_px _ k rf) Tryd.f26 [.sv .expr, .sl .col false] [.int .i64, .int .i64] x some = kindE_body k rf x
  | (e, cols) => by kernel_rfl
theorem kindE_run (k : Nat) (rf : FT [.sv .expr, .sl .col false] [.int .i64, .int .i64]) (hrf : FnOk Tryd.prog elT glT 26 [.sv .expr, .sl .col false] [.int .i64, .int .i64] rf) : FnOk Tryd.prog elT glT 26 [.sv .expr, .sl .col false] [.int .i64, .int .i64] (kindE_body k rf) := by
  refine fnOk_run Tryd.func26 rfl (by kernel_rfl) follows (by kernel_rfl) (n := 1) (by kernel_rfl) (px := kindE_px _ k rf) (fun cx hP hel hgl => ?_) (kindE_eq k rf)
  have hp0 : PxOk cx (kindE_px (HV [.int .i64, .int .i64]) k rf) := ⟨fun t => by rw [hP, hel]; exact tt_ok ttL_ok t, by rw [hgl]; rfl⟩
  have hc0 : CallOk cx (kindE_px (HV [.int .i64, .int .i64]) k rf) := callT_ok rfl (cfs_cons (cf_or (by rw [hP, hel, hgl]; exact hrf) (by kernel_rfl)) (cfs_cons (cf_or (by rw [hP, hel, hgl]; exact find_ok) (by kernel_rfl)) (cfs_cons (cf_or (by rw [hP, hel, hgl]; exact rfits_ok) (by kernel_rfl)) cfs_nil)))
  have hq0 : CallQOk cx (kindE_px (HV [.int .i64, .int .i64]) k rf) := callQT_ok rfl cqfs_nil
  have hlkindE_0 : LoopOk cx (kindE_px (HV [.int .i64, .int .i64]) k rf) (lp Tryd.f26 0) := loop_ok hp0 hc0 hq0 (by rw [hP]; exact follows) (k := k) (s := kindE_0_sg) (step := kindE_0 rf) (fun _ _ => by kernel_rfl) (by kernel_rfl) (kindE_0_eq _ k rf) (loops_in (n := 0) (by kernel_rfl) all0)
  exact ⟨hp0, hc0, hq0, (allS all0 hlkindE_0)⟩
def kfin (e : Xpr) (cols : List Col) (a b : Int) : Int × Int :=
  if e.kind = 1 then (e.v.kind, 0)
  else if e.kind = 2 then (if find cols e.name < 0 then (0, 150) else ((at' .col cols (find cols e.name)).kind, 0))
  else if e.kind = 16 then (2, 0)
  else if e.kind = 3 ∨ e.kind = 4 ∨ e.kind = 5 then (if rfits a 2 && rfits b 2 then (2, 0) else (0, 151))
  else if e.kind = 12 ∨ e.kind = 13 ∨ e.kind = 14 ∨ e.kind = 15 then (if rfits a 3 && rfits b 3 then (3, 0) else (0, 151))
  else if a = b ∨ a = 1 ∨ b = 1 then (2, 0) else (0, 151)
def kres (e : Xpr) (cols : List Col) : List (Int × Int) → Int × Int
  | [] => kfin e cols 0 0
  | [(a, f)] => if f = 0 then kfin e cols a a else (0, f)
  | (a, f) :: (b, g) :: _ => if f = 0 then (if g = 0 then kfin e cols a b else (0, g)) else (0, f)
mutual
def kindE : Xpr → List Col → Int × Int
  | .mk k v nm l, cols => kres (.mk k v nm l) cols (kindL l cols)
def kindL : List Xpr → List Col → List (Int × Int)
  | [], _ => []
  | x :: l, cols => kindE x cols :: kindL l cols
end
theorem kindE_un (e : Xpr) (cols : List Col) : kindE e cols = kres e cols (kindL e.l cols) := by
  cases e
  simp only [kindE, Xpr.l]
def kindE_F : FT [.sv .expr, .sl .col false] [.int .i64, .int .i64] := fun x => some (kindE x.1 x.2)
def kindT (v12 : Xpr) (v6 : List Col) (q : List Int) : Option (Int × Int) :=
     cond (decide (v12.kind = 1)) (
      some (v12.v.kind, 0)) (
      cond (decide (v12.kind = 2)) (
       cond (decide ((find v6 v12.name) < 0)) (
        some (0, 150)) (
        chk (inb (find v6 v12.name) v6.length) (
         some ((at' .col v6 (find v6 v12.name)).kind, 0)))) (
       cond (decide (v12.kind = 16)) (
        some (2, 0)) (
        let j1 := fun (p : Bool) =>
         cond (p) (
          cond ((rfits (at' .int q 0) 2)) (
           cond ((rfits (at' .int q 1) 2)) (
            some (2, 0)) (
            some (0, 151))) (
           some (0, 151))) (
          let j := fun (p3 : Bool) =>
           cond (p3) (
            cond ((rfits (at' .int q 0) 3)) (
             cond ((rfits (at' .int q 1) 3)) (
              some (3, 0)) (
              some (0, 151))) (
             some (0, 151))) (
            cond (decide ((at' .int q 0) = (at' .int q 1))) (
             some (2, 0)) (
             cond (decide ((at' .int q 0) = 1)) (
              some (2, 0)) (
              cond (decide ((at' .int q 1) = 1)) (
               some (2, 0)) (
               some (0, 151)))))
          cond (decide (v12.kind = 12)) (
           j (decide (v12.kind = 12))) (
           cond (decide (v12.kind = 13)) (
            j (decide (v12.kind = 13))) (
            cond (decide (v12.kind = 14)) (
             j (decide (v12.kind = 14))) (
             j (decide (v12.kind = 15))))))
        cond (decide (v12.kind = 3)) (
         j1 (decide (v12.kind = 3))) (
         cond (decide (v12.kind = 4)) (
          j1 (decide (v12.kind = 4))) (
          j1 (decide (v12.kind = 5)))))))
theorem kindT_fin (e : Xpr) (cols : List Col) (a b : Int) : kindT e cols [a, b] = some (kfin e cols a b) := by
  have ha : at' .int [a, b] 0 = a := rfl
  have hb : at' .int [a, b] 1 = b := rfl
  simp only [kindT, kfin, ha, hb]
  generalize e.kind = k
  by_cases h1 : k = 1
  · simp [h1]
  by_cases h2 : k = 2
  · simp only [h2]
    by_cases hf : find cols e.name < 0
    · simp [hf]
    · rw [find_inb hf]
      simp [hf, chk]
  by_cases h16 : k = 16
  · simp [h16]
  rw [decide_eq_false h1, decide_eq_false h2, decide_eq_false h16, if_neg h1, if_neg h2, if_neg h16]
  simp only [cond_f]
  by_cases h3 : k = 3
  · subst h3; cases rfits a 2 <;> cases rfits b 2 <;> rfl
  by_cases h4 : k = 4
  · subst h4; cases rfits a 2 <;> cases rfits b 2 <;> rfl
  by_cases h5 : k = 5
  · subst h5; cases rfits a 2 <;> cases rfits b 2 <;> rfl
  rw [decide_eq_false h3, decide_eq_false h4, decide_eq_false h5, if_neg (by omega)]
  simp only [cond_f]
  by_cases h12 : k = 12
  · subst h12; cases rfits a 3 <;> cases rfits b 3 <;> rfl
  by_cases h13 : k = 13
  · subst h13; cases rfits a 3 <;> cases rfits b 3 <;> rfl
  by_cases h14 : k = 14
  · subst h14; cases rfits a 3 <;> cases rfits b 3 <;> rfl
  by_cases h15 : k = 15
  · subst h15; cases rfits a 3 <;> cases rfits b 3 <;> rfl
  rw [decide_eq_false h12, decide_eq_false h13, decide_eq_false h14, decide_eq_false h15, if_neg (by omega)]
  simp only [cond_f]
  by_cases c1 : a = b
  · simp [c1]
  by_cases c2 : a = 1
  · simp [c2]
  by_cases c3 : b = 1
  · simp [c3]
  simp [c1, c2, c3]
def kloop {R : Type} (ga : Int → Option R) (gb : Int → Int → Option R) : List (Int × Int) → Option R
  | [] => gb 0 0
  | [(a, f)] => if f = 0 then gb a 0 else ga f
  | (a, f) :: (b, g) :: _ => if f = 0 then (if g = 0 then gb a b else ga g) else ga f
theorem kind_loop {R : Type} {rf : FT [.sv .expr, .sl .col false] [.int .i64, .int .i64]} {kx : Ex → kindE_0_V → Option R} {cols : List Col} {e : Xpr} {ga : Int → Option R} {gb : Int → Int → Option R} (hn : ln e.l.length) (hrf : ∀ x, x ∈ e.l → rf (x, cols) = some (kindE x cols)) (h1 : ∀ f i ks, kx .ret (cols, 0, f, e.l, (e.l.length : Int), i, e, ks) = ga f) (h2 : ∀ i a b, kx (.exit 0) (cols, 0, 0, e.l, (e.l.length : Int), i, e, [a, b]) = gb a b) (k : Nat) : iter (fun rec => kindE_0 rf rec kx) (k + 3) (cols, 0, 0, e.l, (e.l.length : Int), 0, e, [0, 0]) = kloop ga gb (kindL e.l cols) := by
  rw [iter_s]
  generalize e.l = l at *
  match l with
  | [] =>
    simp only [kindE_0, kindL, kloop]
    exact h2 0 0 0
  | [x] =>
    simp only [kindE_0, List.length_cons, List.length_nil]
    have e1 : at' .expr [x] 0 = x := rfl
    rw [e1, expr_eta, hrf x (by simp)]
    simp only [Option.bind_some, kindL, kloop]
    show cond (!decide ((kindE x cols).2 = 0)) (kx .ret (cols, 0, (kindE x cols).2, [x], 1, 0, e, [(kindE x cols).1, 0])) (iter (fun rec => kindE_0 rf rec kx) (k + 2) (cols, 0, 0, [x], 1, 1, e, [(kindE x cols).1, 0])) = _
    have h1' := fun f i ks => h1 f i ks
    have h2' := fun i a b => h2 i a b
    have hl : (([x] : List Xpr).length : Int) = 1 := rfl
    rw [hl] at h1' h2'
    rw [h1', iter_s]
    have : kindE_0 rf (iter (fun rec => kindE_0 rf rec kx) (k + 1)) kx (cols, 0, 0, [x], 1, 1, e, [(kindE x cols).1, 0]) = kx (.exit 0) (cols, 0, 0, [x], 1, 1, e, [(kindE x cols).1, 0]) := rfl
    rw [this, h2']
    by_cases hf : (kindE x cols).2 = 0
    · simp [hf]
    · simp [hf]
  | x :: y :: t =>
    simp only [kindE_0]
    have hlen : (0 : Int) < ((x :: y :: t).length : Int) := by simp; omega
    have hlen1 : (1 : Int) < ((x :: y :: t).length : Int) := by simp; omega
    have e1 : at' .expr (x :: y :: t) 0 = x := rfl
    have e2 : at' .expr (x :: y :: t) 1 = y := rfl
    rw [decide_eq_true hlen, e1, expr_eta, hrf x (by simp)]
    have i1 : inb 0 (x :: y :: t).length = true := inb_t (i := 0) (by simp)
    have i2 : inb 1 (x :: y :: t).length = true := inb_t (i := 1) (by simp)
    rw [i1]
    simp only [cond_t, chk, Option.bind_some, kindL, kloop]
    show cond (!decide ((kindE x cols).2 = 0)) (kx .ret (cols, 0, (kindE x cols).2, x :: y :: t, _, 0, e, [(kindE x cols).1, 0])) (iter (fun rec => kindE_0 rf rec kx) (k + 2) (cols, 0, 0, x :: y :: t, ((x :: y :: t).length : Int), 1, e, [(kindE x cols).1, 0])) = _
    rw [h1, iter_s]
    simp only [kindE_0]
    rw [decide_eq_true hlen1, e2, expr_eta, hrf y (by simp), i2]
    simp only [cond_t, chk, Option.bind_some]
    show cond (!decide ((kindE x cols).2 = 0)) (ga (kindE x cols).2) (cond (!decide ((kindE y cols).2 = 0)) (kx .ret (cols, 0, (kindE y cols).2, x :: y :: t, _, 1, e, _)) (kx (.exit 0) (cols, 0, 0, x :: y :: t, _, 1, e, [(kindE x cols).1, (kindE y cols).1]))) = _
    rw [h1, h2]
    by_cases hf : (kindE x cols).2 = 0
    · by_cases hg : (kindE y cols).2 = 0
      · simp [hf, hg]
      · simp [hf, hg]
    · simp [hf]
theorem kindE_all (k : Nat) : ∀ (n : Nat) (e : Xpr) (cols : List Col), BdExpr e → esize e ≤ n → iter (kindE_body (k + 3)) n (e, cols) = some (kindE e cols)
  | 0, e, cols, _, h => by have := esize_pos e; omega
  | n + 1, e, cols, hb, h => by
    obtain ⟨hb4, hb5⟩ := bd_ls hb
    rw [esize_eq] at h
    have hrf : ∀ x, x ∈ e.l → iter (kindE_body (k + 3)) n (x, cols) = some (kindE x cols) := fun x hx => kindE_all k n x cols (hb5 x hx) (by have := esize_mem hx; omega)
    rw [iter_s, kindE_un]
    simp only [kindE_body]
    refine (kind_loop (ga := fun f => some (0, f)) (gb := fun a b => cond (decide ((e.l.length : Int) = 1)) (kindT e cols [a, a]) (kindT e cols [a, b])) hb4 hrf ?_ ?_ k).trans ?_
    · exact fun _ _ _ => rfl
    · exact fun _ _ _ => rfl
    · generalize e.l = l
      match l with
      | [] => simp [kindL, kloop, kres, kindT_fin]
      | [x] =>
        simp only [kindL, kloop, kres, kindT_fin]
        split <;> simp
      | x :: y :: t =>
        simp only [kindL, kloop, kres, kindT_fin]
        have : ¬ (((x :: y :: t).length : Int) = 1) := by simp; omega
        rw [decide_eq_false this]
        split
        · split <;> rfl
        · rfl
theorem kindE_ok : FnOk Tryd.prog elT glT 26 [.sv .expr, .sl .col false] [.int .i64, .int .i64] kindE_F := by
  refine .fin (ι := Nat) 0 (F := fun n => iter (kindE_body 3) n) (fun n => FnOk.rec' (Sx.enters_of Tryd.func26 rfl rfl) (fun rf hrf => kindE_run 3 rf hrf) n) fun (e, cols) r hb hx => ⟨esize e, ?_⟩
  exact (kindE_all 0 (esize e) e cols hb.1 (Nat.le_refl _)).trans hx
/-! ## exchequer/reckon.Kind -/
def kindX_px (R : Type) : Px R := ⟨ttOf ttL, glT, callT [(25, callOr [.sv .expr] [.int .i64] aexpr_F), (26, callOr [.sv .expr, .sl .col false] [.int .i64, .int .i64] kindE_F)], callQT [], loopT []⟩
def kindX_body (x : HV [.sv .expr, .sl .col false]) : Option (HV [.int .i64, .int .i64]) := match x with
 | (e, cols) =>
  cond (!decide ((aexpr e) = 0)) (
   some (0, (aexpr e))) (
   some ((kindE e cols).1, (kindE e cols).2))
theorem kindX_eq : ∀ (x : HV [.sv .expr, .sl .col false]), runF (kindX_px _) Tryd.f11 [.sv .expr, .sl .col false] [.int .i64, .int .i64] x some = kindX_body x
  | (e, cols) => by kernel_rfl
theorem kindX_run : FnOk Tryd.prog elT glT 11 [.sv .expr, .sl .col false] [.int .i64, .int .i64] (kindX_body) := by
  refine fnOk_run Tryd.func11 rfl (by kernel_rfl) follows (by kernel_rfl) (n := 0) (by kernel_rfl) (px := kindX_px _) (fun cx hP hel hgl => ?_) (kindX_eq)
  have hp0 : PxOk cx (kindX_px (HV [.int .i64, .int .i64])) := ⟨fun t => by rw [hP, hel]; exact tt_ok ttL_ok t, by rw [hgl]; rfl⟩
  have hc0 : CallOk cx (kindX_px (HV [.int .i64, .int .i64])) := callT_ok rfl (cfs_cons (cf_or (by rw [hP, hel, hgl]; exact aexpr_ok) (by kernel_rfl)) (cfs_cons (cf_or (by rw [hP, hel, hgl]; exact kindE_ok) (by kernel_rfl)) cfs_nil))
  have hq0 : CallQOk cx (kindX_px (HV [.int .i64, .int .i64])) := callQT_ok rfl cqfs_nil
  exact ⟨hp0, hc0, hq0, all0⟩
def kindX (e : Xpr) (cols : List Col) : Int × Int :=
  cond (!decide ((aexpr e) = 0)) (
   (0, (aexpr e))) (
   ((kindE e cols).1, (kindE e cols).2))
theorem kindX_tot (x : HV [.sv .expr, .sl .col false]) : kindX_body x = some (kindX x.1 x.2) := by
  first
    | exact rfl
    | simp only [kindX_body, kindX, cond_some]
def kindX_F : FT [.sv .expr, .sl .col false] [.int .i64, .int .i64] := fun x => some (kindX x.1 x.2)
theorem kindX_ok : FnOk Tryd.prog elT glT 11 [.sv .expr, .sl .col false] [.int .i64, .int .i64] kindX_F := .fin0 kindX_run fun x _ _ hx => (kindX_tot x).trans hx
/-! ## the value -/
/-! ## exchequer/reckon.eval -/
def evalE_0_sg : Sig := ⟨133, [(1, .sl .col false), (2, .sl .val false), (7, .int .i64), (8, .sl .val true), (9, .bool), (15, .sl .expr false), (16, .int .i64), (17, .int .i64)], [(3, .ptr 0 0), (6, .ptr 1 0)], [(0, .one (.sv .expr)), (1, .one (.sv .val))], 2, 0, 0, []⟩
abbrev evalE_0_V := List Col × List Val × Int × List Val × Bool × List Xpr × Int × Int × Xpr × Val
def evalE_0 {R : Type} (rf : FT [.sv .expr, .sl .col false, .sl .val false] [.sv .val, .int .i64]) (rec : evalE_0_V → Option R) (kx : Ex → evalE_0_V → Option R) (v : evalE_0_V) : Option R := match v with
 | (v, v1, v2, v3, v4, v5, v6, v7, w, w1) =>
  cond (decide (v7 < v6)) (
   chk (inb v7 v5.length) (
    (rf ((Xpr.mk ((at' .expr v5 v7).kind) ⟨((at' .expr v5 v7).v.kind), ((at' .expr v5 v7).v.n), ((at' .expr v5 v7).v.s)⟩ ((at' .expr v5 v7).name) ((at' .expr v5 v7).l)), v, v1)).bind fun (x, x1) =>
     cond (!decide (x1 = 0)) (
      kx .ret (v, v1, x1, v3, v4, v5, v6, v7, w, (Val.mk 0 0 []))) (
      chk (decide (v3.length + 1 ≤ maxApp)) (
       cond (v4) (
        rec (v, v1, v2, (v3 ++ [x]), true, v5, v6, (wr .i64 (v7 + 1)), w, w1)) (
        rec (v, v1, v2, (v3 ++ [x]), decide (x.kind = 1), v5, v6, (wr .i64 (v7 + 1)), w, w1)))))) (
   kx (.exit 0) (v, v1, v2, v3, v4, v5, v6, v7, w, w1))
def evalE_px (R : Type) (k : Nat) (rf : FT [.sv .expr, .sl .col false, .sl .val false] [.sv .val, .int .i64]) : Px R := ⟨ttOf ttL, glT, callT [(29, callOr [.sv .expr, .sl .col false, .sl .val false] [.sv .val, .int .i64] rf), (35, callOr [.sl .col false, .str] [.int .i64] find_F), (32, callOr [.bool] [.sv .val] truth_F), (38, callOr [.int .i64, .sl .val false] [.sv .val] logic_F)], callQT [(39, callOrQ [.int .i64, .int .i64, .int .i64] [.sv .val, .int .i64] rsum_F), (41, callOrQ [.sv .val, .sv .val] [.int .i64] vcmp_F), (40, callOrQ [.int .i64, .int .i64] [.bool] stands_F), (32, callOrQ [.bool] [.sv .val] truth_F)], loopT [(4, loopOr k evalE_0_sg (evalE_0 rf))]⟩
theorem evalE_0_eq (R : Type) (k : Nat) (rf : FT [.sv .expr, .sl .col false, .sl .val false] [.sv .val, .int .i64]) : ∀ (fr : List Fr) (rec : evalE_0_V → Option R) (kx : Ex → evalE_0_V → Option R) (v : evalE_0_V), round (evalE_px R k rf) evalE_0_sg (lp Tryd.f29 0) fr rec kx v = evalE_0 rf rec kx v
  | fr, rec, kx, (v, v1, v2, v3, v4, v5, v6, v7, w, w1) => by kernel_rfl
def evalE_body (k : Nat) (rf : FT [.sv .expr, .sl .col false, .sl .val false] [.sv .val, .int .i64]) (x : HV [.sv .expr, .sl .col false, .sl .val false]) : Option (HV [.sv .val, .int .i64]) := match x with
 | (e, cols, row) =>
  iter (fun rec => evalE_0 rf rec (fun e v => match v with | (v8, v9, v10, v11, v12, _, _, _, v16, v17) => match e with
   | .ret =>
    some (v17, v10)
   | .exit 0 =>
    cond (decide (v16.kind = 1)) (
     some (v16.v, 0)) (
     cond (decide (v16.kind = 2)) (
      chk (inb (find v8 v16.name) v9.length) (
       some ((at' .val v9 (find v8 v16.name)), 0))) (
      cond (decide (v16.kind = 16)) (
       some ((truth v12), 0)) (
       let j := fun (p3 : Bool) =>
        cond (p3) (
         some ((logic v16.kind v11), 0)) (
         cond (v12) (
          some ((Val.mk 1 0 []), 0)) (
          cond (decide (v16.kind = 3)) (
           chk (inb 0 v11.length) (
            some ((truth (decide ((at' .val v11 0).n = 0))), 0))) (
           cond (decide (v16.kind = 15)) (
            chk (inb 0 v11.length) (
             some (((rsum v16.kind ((at' .val v11 0).n) 0).1), (rsum v16.kind ((at' .val v11 0).n) 0).2))) (
            cond (decide (12 ≤ v16.kind)) (
             chk (inb 0 v11.length) (
              chk (inb 1 v11.length) (
               some (((rsum v16.kind ((at' .val v11 0).n) ((at' .val v11 1).n)).1), (rsum v16.kind ((at' .val v11 0).n) ((at' .val v11 1).n)).2)))) (
             chk (inb 0 v11.length) (
              chk (inb 1 v11.length) (
               some ((truth (stands v16.kind (vcmp (at' .val v11 0) (at' .val v11 1)))), 0))))))))
       cond (decide (v16.kind = 4)) (
        j true) (
        j (decide (v16.kind = 5))))))
   | _ => none)) k (cols, row, 0, [], false, e.l, (e.l.length : Int), 0, e, (Val.mk 0 0 []))
theorem evalE_eq (k : Nat) (rf : FT [.sv .expr, .sl .col false, .sl .val false] [.sv .val, .int .i64]) : ∀ (x : HV [.sv .expr, .sl .col false, .sl .val false]), runF (evalE_px _ k rf) Tryd.f29 [.sv .expr, .sl .col false, .sl .val false] [.sv .val, .int .i64] x some = evalE_body k rf x
  | (e, cols, row) => by kernel_rfl
theorem evalE_run (k : Nat) (rf : FT [.sv .expr, .sl .col false, .sl .val false] [.sv .val, .int .i64]) (hrf : FnOk Tryd.prog elT glT 29 [.sv .expr, .sl .col false, .sl .val false] [.sv .val, .int .i64] rf) : FnOk Tryd.prog elT glT 29 [.sv .expr, .sl .col false, .sl .val false] [.sv .val, .int .i64] (evalE_body k rf) := by
  refine fnOk_run Tryd.func29 rfl (by kernel_rfl) follows (by kernel_rfl) (n := 1) (by kernel_rfl) (px := evalE_px _ k rf) (fun cx hP hel hgl => ?_) (evalE_eq k rf)
  have hp0 : PxOk cx (evalE_px (HV [.sv .val, .int .i64]) k rf) := ⟨fun t => by rw [hP, hel]; exact tt_ok ttL_ok t, by rw [hgl]; rfl⟩
  have hc0 : CallOk cx (evalE_px (HV [.sv .val, .int .i64]) k rf) := callT_ok rfl (cfs_cons (cf_or (by rw [hP, hel, hgl]; exact hrf) (by kernel_rfl)) (cfs_cons (cf_or (by rw [hP, hel, hgl]; exact find_ok) (by kernel_rfl)) (cfs_cons (cf_or (by rw [hP, hel, hgl]; exact truth_ok) (by kernel_rfl)) (cfs_cons (cf_or (by rw [hP, hel, hgl]; exact logic_ok) (by kernel_rfl)) cfs_nil))))
  have hq0 : CallQOk cx (evalE_px (HV [.sv .val, .int .i64]) k rf) := callQT_ok rfl (cqfs_cons (cqf_or (by rw [hP, hel, hgl]; exact rsum_ok) (by kernel_rfl)) (cqfs_cons (cqf_or (by rw [hP, hel, hgl]; exact vcmp_ok) (by kernel_rfl)) (cqfs_cons (cqf_or (by rw [hP, hel, hgl]; exact stands_ok) (by kernel_rfl)) (cqfs_cons (cqf_or (by rw [hP, hel, hgl]; exact truth_ok) (by kernel_rfl)) cqfs_nil))))
  have hlevalE_0 : LoopOk cx (evalE_px (HV [.sv .val, .int .i64]) k rf) (lp Tryd.f29 0) := loop_ok hp0 hc0 hq0 (by rw [hP]; exact follows) (k := k) (s := evalE_0_sg) (step := evalE_0 rf) (fun _ _ => by kernel_rfl) (by kernel_rfl) (evalE_0_eq _ k rf) (loops_in (n := 0) (by kernel_rfl) all0)
  exact ⟨hp0, hc0, hq0, (allS all0 hlevalE_0)⟩
def efin (v16 : Xpr) (v8 : List Col) (v9 : List Val) (v11 : List Val) (v12 : Bool) : Option (Val × Int) :=
    cond (decide (v16.kind = 1)) (
     some (v16.v, 0)) (
     cond (decide (v16.kind = 2)) (
      chk (inb (find v8 v16.name) v9.length) (
       some ((at' .val v9 (find v8 v16.name)), 0))) (
      cond (decide (v16.kind = 16)) (
       some ((truth v12), 0)) (
       let j := fun (p3 : Bool) =>
        cond (p3) (
         some ((logic v16.kind v11), 0)) (
         cond (v12) (
          some ((Val.mk 1 0 []), 0)) (
          cond (decide (v16.kind = 3)) (
           chk (inb 0 v11.length) (
            some ((truth (decide ((at' .val v11 0).n = 0))), 0))) (
           cond (decide (v16.kind = 15)) (
            chk (inb 0 v11.length) (
             some (((rsum v16.kind ((at' .val v11 0).n) 0).1), (rsum v16.kind ((at' .val v11 0).n) 0).2))) (
            cond (decide (12 ≤ v16.kind)) (
             chk (inb 0 v11.length) (
              chk (inb 1 v11.length) (
               some (((rsum v16.kind ((at' .val v11 0).n) ((at' .val v11 1).n)).1), (rsum v16.kind ((at' .val v11 0).n) ((at' .val v11 1).n)).2)))) (
             chk (inb 0 v11.length) (
              chk (inb 1 v11.length) (
               some ((truth (stands v16.kind (vcmp (at' .val v11 0) (at' .val v11 1)))), 0))))))))
       cond (decide (v16.kind = 4)) (
        j true) (
        j (decide (v16.kind = 5))))))
mutual
def evalE : Xpr → List Col → List Val → Option (Val × Int)
  | .mk k v nm l, cols, row => match evalL l cols row with
    | some (f, vs) => chk (decide (l.length ≤ maxApp)) (if f = 0 then efin (.mk k v nm l) cols row vs (vs.any isNull) else some (⟨0, 0, []⟩, f))
    | none => none
def evalL : List Xpr → List Col → List Val → Option (Int × List Val)
  | [], _, _ => some (0, [])
  | x :: l, cols, row => match evalE x cols row with
    | some (v, f) => if f = 0 then (match evalL l cols row with
      | some (g, vs) => some (g, v :: vs)
      | none => none) else some (f, [])
    | none => none
end
theorem evalE_un (e : Xpr) (cols : List Col) (row : List Val) : evalE e cols row = match evalL e.l cols row with
    | some (f, vs) => chk (decide (e.l.length ≤ maxApp)) (if f = 0 then efin e cols row vs (vs.any isNull) else some (⟨0, 0, []⟩, f))
    | none => none := by
  cases e
  simp only [evalE, Xpr.l]
  rfl
def evalE_F : FT [.sv .expr, .sl .col false, .sl .val false] [.sv .val, .int .i64] := fun x => evalE x.1 x.2.1 x.2.2
theorem eval_loop {R : Type} {rf : FT [.sv .expr, .sl .col false, .sl .val false] [.sv .val, .int .i64]} {kx : Ex → evalE_0_V → Option R} {cols : List Col} {row : List Val} {e : Xpr} {ga : Int → Option R} {gb : List Val → Bool → Option R} (hn : ln e.l.length) (hm : e.l.length ≤ maxApp) (hrf : ∀ x, x ∈ e.l → ∀ r, evalE x cols row = some r → rf (x, cols, row) = some r) (h1 : ∀ f vs u j, kx .ret (cols, row, f, vs, u, e.l, (e.l.length : Int), j, e, ⟨0, 0, []⟩) = ga f) (h2 : ∀ vs u j z, kx (.exit 0) (cols, row, 0, vs, u, e.l, (e.l.length : Int), j, e, z) = gb vs u) : ∀ (k i : Nat) (acc : List Val) (u : Bool) z f vs, acc.length = i → i ≤ e.l.length → e.l.length - i < k → evalL (e.l.drop i) cols row = some (f, vs) → iter (fun rec => evalE_0 rf rec kx) k (cols, row, 0, acc, u, e.l, (e.l.length : Int), (i : Int), e, z) = if f = 0 then gb (acc ++ vs) (u || vs.any isNull) else ga f
  | 0, i, _, _, _, _, _, _, _, h, _ => by omega
  | k + 1, i, acc, u, z, f, vs, ha, hi, h, hev => by
    rw [iter_s]
    by_cases hl : i < e.l.length
    · rw [drop_cons hl] at hev
      simp only [evalL] at hev
      split at hev
      · rename_i v f' hx
        have hr := hrf _ (List.getElem_mem hl) _ hx
        simp only [evalE_0, at_nat (c := .expr) hl, inb_t hl, expr_eta, hr, Option.bind_some, chk, cond_t, Bool.cond_decide]
        rw [if_pos (by omega)]
        split at hev
        · rename_i hf
          subst hf
          split at hev
          · rename_i g vs' hrest
            simp only [Option.some.injEq, Prod.mk.injEq] at hev
            obtain ⟨rfl, rfl⟩ := hev
            have ih := fun u => eval_loop hn hm hrf h1 h2 k (i + 1) (acc ++ [v]) u z g vs' (by simp [ha]) (by omega) (by omega) hrest
            rw [if_pos (by simp only [maxApp] at *; omega)]
            simp only [decide_true, Bool.not_true, cond_f, wr_succ hl hn, ih, List.append_assoc, List.singleton_append, List.any_cons]
            cases u <;> simp [isNull]
          · cases hev
        · rename_i hf
          simp only [Option.some.injEq, Prod.mk.injEq] at hev
          obtain ⟨rfl, rfl⟩ := hev
          rw [decide_eq_false hf, if_neg hf]
          simp only [Bool.not_false, cond_t, h1]
      · cases hev
    · rw [List.drop_eq_nil_of_le (by omega)] at hev
      simp only [evalL, Option.some.injEq, Prod.mk.injEq] at hev
      obtain ⟨rfl, rfl⟩ := hev
      simp only [evalE_0, h2, Bool.cond_decide]
      rw [if_neg (by omega)]
      simp
theorem evalE_all (k : Nat) : ∀ (n : Nat) (e : Xpr) (cols : List Col) (row : List Val) r, BdExpr e → esize e ≤ n → esize e ≤ k → evalE e cols row = some r → iter (evalE_body k) n (e, cols, row) = some r
  | 0, e, _, _, _, _, h, _, _ => by have := esize_pos e; omega
  | n + 1, e, cols, row, r, hb, h, hk, he => by
    obtain ⟨hb4, hb5⟩ := bd_ls hb
    rw [esize_eq] at h hk
    have hl := esizes_len e.l
    have hrf : ∀ x, x ∈ e.l → ∀ r, evalE x cols row = some r → iter (evalE_body k) n (x, cols, row) = some r := fun x hx r hr => evalE_all k n x cols row r (hb5 x hx) (by have := esize_mem hx; omega) (by have := esize_mem hx; omega) hr
    rw [iter_s]
    simp only [evalE_body]
    rw [evalE_un] at he
    split at he
    · rename_i f vs hev
      obtain ⟨hc, he⟩ := chk_some he
      simp only [decide_eq_true_eq] at hc
      refine (eval_loop (ga := fun f => some (⟨0, 0, []⟩, f)) (gb := fun vs u => efin e cols row vs u) hb4 hc hrf ?_ ?_ k 0 [] false _ f vs rfl (Nat.zero_le _) (by omega) (by simpa using hev)).trans ?_
      · exact fun _ _ _ _ => rfl
      · exact fun _ _ _ _ => rfl
      · simpa using he
    · cases he
theorem evalE_ok : FnOk Tryd.prog elT glT 29 [.sv .expr, .sl .col false, .sl .val false] [.sv .val, .int .i64] evalE_F := by
  refine .fin (ι := Nat) 0 (F := fun n => iter (evalE_body n) n) (fun n => FnOk.rec' (Sx.enters_of Tryd.func29 rfl rfl) (fun rf hrf => evalE_run n rf hrf) n) fun (e, cols, row) r hb hx => ⟨esize e, ?_⟩
  exact evalE_all (esize e) (esize e) e cols row r hb.1 (Nat.le_refl _) (Nat.le_refl _) hx
end Go.Proofs.YtlhebakbbfmiiaaDoor
