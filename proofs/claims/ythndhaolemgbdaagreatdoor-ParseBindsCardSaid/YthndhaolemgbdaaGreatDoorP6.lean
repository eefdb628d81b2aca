/- Texts of the proof, one behind the other: Ws, Pi, Vc, Da. -/
import Derived.Test.YthndhaolemgbdaaGreatDoorP5
/- The program's writer of statements: texts of expressions, of statements. -/
namespace Go.Proofs.YthndhaolemgbdaaGreatDoor
open Go.Ax
theorem app_congr {R : Type} {out t : Str} {f g : Str → Option R} (h : ∀ x : Str, x.length ≤ 100000000000 → f x = g x) : (app out t).bind f = (app out t).bind g := by
  cases hx : app out t with
  | none => rfl
  | some x => exact h x (app_le hx).1
theorem sep_step {R : Type} (i : Nat) (acc t : Str) (c : Str → Option R) : cond (decide ((0 : Int) < (i : Int))) ((app acc [44, 32]).bind fun x => (app x t).bind c) ((app acc t).bind c) = (app acc ((if i = 0 then [] else [44, 32]) ++ t)).bind c := by
  by_cases h : i = 0
  · rw [decide_eq_false (by omega), if_pos h]
    rfl
  · rw [decide_eq_true (by omega), if_neg h, cond_t, app_cont]
theorem fl1 (a : Str) : ([a] : List Str).flatten = a := by simp
theorem fl2 (a b : Str) : ([a, b] : List Str).flatten = a ++ b := by simp
theorem fl3 (a b c : Str) : ([a, b, c] : List Str).flatten = a ++ (b ++ c) := by simp
theorem fl5 (a b c d e : Str) : ([a, b, c, d, e] : List Str).flatten = a ++ (b ++ (c ++ (d ++ e))) := by simp
theorem cat_loop {V R α : Type} {step : (V → Option R) → V → Option R} (l : List α) (f : α → Str) (st : Nat → Str → V) (c : Str → Option R)
    (hs : ∀ i (hi : i < l.length) (acc : Str) rec, step rec (st i acc) = (app acc (f l[i])).bind fun x => rec (st (i + 1) x))
    (he : ∀ acc rec, step rec (st l.length acc) = c acc) (k : Nat) (hk : l.length < k) (out : Str) (ho : out.length ≤ 100000000000) : iter step k (st 0 out) = (app out (l.map f).flatten).bind c := by
  refine (iter_ind l.length st (fun _ acc => acc.length ≤ 100000000000) (fun i acc => (app acc ((l.drop i).map f).flatten).bind c) (fun i hi acc ha rec hr => ?_) (fun acc ha rec => ?_) k 0 out (Nat.zero_le _) (by omega) ho).trans (by rw [List.drop_zero])
  · rw [hs i hi acc rec, drop_cons hi, List.map_cons, List.flatten_cons, ← app_cont]
    exact app_congr fun x hx => hr x hx
  · rw [he, List.drop_length, List.map_nil, List.flatten_nil, app_nil ha]
    rfl
theorem app_z {out r : Str} (h : app out [] = some r) : some out = some r := by
  have := (app_le h).2
  rw [List.append_nil] at this
  rw [this]
/-! ## the text of an expression -/
/-! ## exchequer/ast.Text -/
def atext_px (R : Type) : Px R := ⟨ttOf ttL, glT, callT [(39, callOr [.sv .expr, .int .i64] [.bool] eright_F), (40, callLn wexpr_si wexpr_so wexpr_F), (41, callLn bstr_si bstr_so bstr_F)], callQT [], loopT [], tbl []⟩
def atext_body (x : HV [.sv .expr]) : Option (HV [.str, .int .i64]) := match x with
 | e =>
  cond (!(eright e 30)) (
   some ([], 2)) (
   (wexpr_F (e, [])).bind fun x =>
    (bstr_F x).bind fun x1 =>
     some (x1, 0))
theorem atext_eq : ∀ (x : HV [.sv .expr]), runF (atext_px _) Tryz.f14 [.sv .expr] [.str, .int .i64] x some = atext_body x
  | e => by kernel_rfl
theorem atext_run : FnOk Tryz.prog elT glT 14 [.sv .expr] [.str, .int .i64] (atext_body) := by
  refine fnOk_run Tryz.func14 rfl (by kernel_rfl) follows (by kernel_rfl) (n := 0) (by kernel_rfl) (px := atext_px _) (fun cx hP hel hgl => ?_) (atext_eq)
  have hp0 : PxOk cx (atext_px (HV [.str, .int .i64])) := ⟨fun t => by rw [hP, hel]; exact tt_ok ttL_ok t, by rw [hgl]; rfl⟩
  have hc0 : CallOk cx (atext_px (HV [.str, .int .i64])) := callT_ok rfl (cfs_cons (cf_or (by rw [hP, hel, hgl]; exact eright_ok) (by kernel_rfl)) (cfs_cons (cf_ln (by rw [hP, hel, hgl]; exact wexpr_ok) (by kernel_rfl)) (cfs_cons (cf_ln (by rw [hP, hel, hgl]; exact bstr_ok) (by kernel_rfl)) cfs_nil)))
  have hq0 : CallQOk cx (atext_px (HV [.str, .int .i64])) := callQT_ok rfl rfl cqfs_nil cwfs_nil
  exact ⟨hp0, hc0, hq0, all0⟩
def atext (e : Xpr) : Option (Str × Int) := cond (eright e 30) (cond (okx e) ((app [] (etx e)).bind fun t => some (t, 0)) none) (some ([], 2))
def atext_F : FT [.sv .expr] [.str, .int .i64] := fun x => atext x
theorem atext_ok : FnOk Tryz.prog elT glT 14 [.sv .expr] [.str, .int .i64] atext_F := .fin0 atext_run fun e r hb hx => by
  have hx : atext e = some r := hx
  rw [← hx]
  simp only [atext_body, atext]
  simp only [atext] at hx
  cases hr : eright e 30 with
  | false => rfl
  | true =>
    rw [hr] at hx
    cases ho : okx e with
    | false => rw [ho] at hx; cases hx
    | true =>
      simp only [we ho, Bool.not_true, cond_f, cond_t]
      rfl
/-! ## names, columns, conditions -/
def okNm (l : List Str) : Bool := decide (l.length ≤ 1000000) && decide ((Lib.join l [44, 32]).length ≤ 1000000000)
def nmT (l : List Str) : Str := [40] ++ (Lib.join l [44, 32] ++ [41])
/-! ## (*exchequer/ast.writer).names -/
def wnames_si : Sig := ⟨2, [(1, .sl .str false)], [(0, .ptr 0 0)], [(0, .bld 82)], 1, 1, 0, [], []⟩
def wnames_so : Sig := ⟨0, [], [], [(0, .bld 82)], 1, 1, 0, [], []⟩
abbrev wnames_I := List Str × List UInt8
abbrev wnames_O := List UInt8
def wnames_px (R : Type) : Px R := ⟨ttOf ttL, glT, callT [(105, callOr [.sl .str false, .str] [.str] sjoin_F), (49, callLn wwords_si wwords_so wwords_F)], callQT [], loopT [], tbl []⟩
def wnames_body (x : wnames_I) : Option (wnames_O) := match x with
 | (l, out) =>
  (sjoin l [44, 32]).bind fun x =>
   (wwords_F ([[40], x, [41]], out)).bind fun x1 =>
    some x1
theorem wnames_eq : ∀ (x : wnames_I), runLn (wnames_px _) Tryz.f50 wnames_si wnames_so x some = wnames_body x
  | (l, out) => by kernel_rfl
theorem wnames_run : FnLn Tryz.prog elT glT 50 wnames_si wnames_so (wnames_body) := by
  refine fnLn_run Tryz.func50 rfl (by kernel_rfl) follows (by kernel_rfl) (n := 0) (by kernel_rfl) (px := wnames_px _) (fun cx hP hel hgl => ?_) (wnames_eq)
  have hp0 : PxOk cx (wnames_px (wnames_O)) := ⟨fun t => by rw [hP, hel]; exact tt_ok ttL_ok t, by rw [hgl]; rfl⟩
  have hc0 : CallOk cx (wnames_px (wnames_O)) := callT_ok rfl (cfs_cons (cf_or (by rw [hP, hel, hgl]; exact sjoin_ok) (by kernel_rfl)) (cfs_cons (cf_ln (by rw [hP, hel, hgl]; exact wwords_ok) (by kernel_rfl)) cfs_nil))
  have hq0 : CallQOk cx (wnames_px (wnames_O)) := callQT_ok rfl rfl cqfs_nil cwfs_nil
  exact ⟨hp0, hc0, hq0, all0⟩
def wnames (l : List Str) (out : Str) : Option Str := cond (okNm l) (app out (nmT l)) none
def wnames_F : wnames_I → Option wnames_O := fun x => wnames x.1 x.2
theorem wnames_b (l : List Str) (out : Str) (h : okNm l = true) : wnames_body (l, out) = app out (nmT l) := by
  simp only [okNm, Bool.and_eq_true, decide_eq_true_eq] at h
  have hj : sjoin l [44, 32] = some (Lib.join l [44, 32]) := if_pos h
  simp only [wnames_body, hj, ww, Option.bind_some, app_one, fl3]
  rfl
theorem wnames_ok : FnLn Tryz.prog elT glT 50 wnames_si wnames_so wnames_F := .fin0 wnames_run fun (l, out) r hb hx => by
  have hx : cond (okNm l) (app out (nmT l)) none = some r := hx
  cases ho : okNm l with
  | false => rw [ho] at hx; cases hx
  | true =>
    rw [ho] at hx
    exact (wnames_b l out ho).trans hx
theorem wn {l : List Str} (h : okNm l = true) (out : Str) : wnames_F (l, out) = app out (nmT l) := by
  show cond (okNm l) _ _ = _
  rw [h]
  rfl
def colT (c : Col) : Str := c.name ++ ([32] ++ at' .str kindsL c.kind) ++ cond c.notNull [32, 78, 79, 84, 32, 78, 85, 76, 76] [] ++ cond c.unique [32, 85, 78, 73, 81, 85, 69] [] ++ cond (decide (c.ref = [])) [] ([32, 82, 69, 70, 69, 82, 69, 78, 67, 69, 83, 32] ++ c.ref)
/-! ## (*exchequer/ast.writer).col -/
def wcol_si : Sig := ⟨2, [(1, .sv .col)], [(0, .ptr 0 0)], [(0, .bld 82)], 1, 1, 0, [], []⟩
def wcol_so : Sig := ⟨0, [], [], [(0, .bld 82)], 1, 1, 0, [], []⟩
abbrev wcol_I := Col × List UInt8
abbrev wcol_O := List UInt8
def wcol_px (R : Type) : Px R := ⟨ttOf ttL, glT, callT [(49, callLn wwords_si wwords_so wwords_F)], callQT [], loopT [], tbl []⟩
def wcol_body (x : wcol_I) : Option (wcol_O) := match x with
 | (c, out) =>
  chk (inb c.kind 6) (
   (wwords_F ([c.name, [32], (at' .str kindsL c.kind)], out)).bind fun x =>
    let j1 := fun (q : List UInt8) =>
     let j := fun (q1 : List UInt8) =>
      cond (!decide (c.ref = [])) (
       (wwords_F ([[32, 82, 69, 70, 69, 82, 69, 78, 67, 69, 83, 32], c.ref], q1)).bind fun x3 =>
        some x3) (
       some q1)
     cond (c.unique) (
      (wwords_F ([[32, 85, 78, 73, 81, 85, 69]], q)).bind fun x2 =>
       j x2) (
      j q)
    cond (c.notNull) (
     (wwords_F ([[32, 78, 79, 84, 32, 78, 85, 76, 76]], x)).bind fun x1 =>
      j1 x1) (
     j1 x))
theorem wcol_eq : ∀ (x : wcol_I), runLn (wcol_px _) Tryz.f103 wcol_si wcol_so x some = wcol_body x
  | (c, out) => by kernel_rfl
theorem wcol_run : FnLn Tryz.prog elT glT 103 wcol_si wcol_so (wcol_body) := by
  refine fnLn_run Tryz.func103 rfl (by kernel_rfl) follows (by kernel_rfl) (n := 0) (by kernel_rfl) (px := wcol_px _) (fun cx hP hel hgl => ?_) (wcol_eq)
  have hp0 : PxOk cx (wcol_px (wcol_O)) := ⟨fun t => by rw [hP, hel]; exact tt_ok ttL_ok t, by rw [hgl]; rfl⟩
  have hc0 : CallOk cx (wcol_px (wcol_O)) := callT_ok rfl (cfs_cons (cf_ln (by rw [hP, hel, hgl]; exact wwords_ok) (by kernel_rfl)) cfs_nil)
  have hq0 : CallQOk cx (wcol_px (wcol_O)) := callQT_ok rfl rfl cqfs_nil cwfs_nil
  exact ⟨hp0, hc0, hq0, all0⟩
def wcol (c : Col) (out : Str) : Option Str := cond (inb c.kind 6) (app out (colT c)) none
def wcol_F : wcol_I → Option wcol_O := fun x => wcol x.1 x.2
theorem wcol_b (c : Col) (out : Str) (h : inb c.kind 6 = true) : wcol_body (c, out) = app out (colT c) := by
  simp only [wcol_body, h, chk, cond_t, ww, fl1, fl2, fl3, colT]
  cases c.notNull <;> cases c.unique <;> cases decide (c.ref = []) <;> simp only [cond_t, cond_f, Bool.not_true, Bool.not_false, app_one, app_app, List.append_nil, List.append_assoc]
theorem wcol_ok : FnLn Tryz.prog elT glT 103 wcol_si wcol_so wcol_F := .fin0 wcol_run fun (c, out) r hb hx => by
  have hx : cond (inb c.kind 6) (app out (colT c)) none = some r := hx
  cases ho : inb c.kind 6 with
  | false => rw [ho] at hx; cases hx
  | true =>
    rw [ho] at hx
    exact (wcol_b c out ho).trans hx
theorem wc {c : Col} (h : inb c.kind 6 = true) (out : Str) : wcol_F (c, out) = app out (colT c) := by
  show cond (inb c.kind 6) _ _ = _
  rw [h]
  rfl
def whT (s : Stm) : Str := cond s.has ([32, 87, 72, 69, 82, 69, 32] ++ etx s.whr) []
def okW (s : Stm) : Bool := !s.has || okx s.whr
/-! ## (*exchequer/ast.writer).where -/
def wwhere_si : Sig := ⟨2, [(1, .sv .stmt)], [(0, .ptr 0 0)], [(0, .bld 82)], 1, 1, 0, [], []⟩
def wwhere_so : Sig := ⟨0, [], [], [(0, .bld 82)], 1, 1, 0, [], []⟩
abbrev wwhere_I := Stm × List UInt8
abbrev wwhere_O := List UInt8
def wwhere_px (R : Type) : Px R := ⟨ttOf ttL, glT, callT [(49, callLn wwords_si wwords_so wwords_F), (40, callLn wexpr_si wexpr_so wexpr_F)], callQT [], loopT [], tbl []⟩
def wwhere_body (x : wwhere_I) : Option (wwhere_O) := match x with
 | (s, out) =>
  cond (s.has) (
   (wwords_F ([[32, 87, 72, 69, 82, 69, 32]], out)).bind fun x =>
    (wexpr_F ((xeta s.whr), x)).bind fun x1 =>
     some x1) (
   some out)
theorem wwhere_eq : ∀ (x : wwhere_I), runLn (wwhere_px _) Tryz.f55 wwhere_si wwhere_so x some = wwhere_body x
  | (s, out) => by kernel_rfl
theorem wwhere_run : FnLn Tryz.prog elT glT 55 wwhere_si wwhere_so (wwhere_body) := by
  refine fnLn_run Tryz.func55 rfl (by kernel_rfl) follows (by kernel_rfl) (n := 0) (by kernel_rfl) (px := wwhere_px _) (fun cx hP hel hgl => ?_) (wwhere_eq)
  have hp0 : PxOk cx (wwhere_px (wwhere_O)) := ⟨fun t => by rw [hP, hel]; exact tt_ok ttL_ok t, by rw [hgl]; rfl⟩
  have hc0 : CallOk cx (wwhere_px (wwhere_O)) := callT_ok rfl (cfs_cons (cf_ln (by rw [hP, hel, hgl]; exact wwords_ok) (by kernel_rfl)) (cfs_cons (cf_ln (by rw [hP, hel, hgl]; exact wexpr_ok) (by kernel_rfl)) cfs_nil))
  have hq0 : CallQOk cx (wwhere_px (wwhere_O)) := callQT_ok rfl rfl cqfs_nil cwfs_nil
  exact ⟨hp0, hc0, hq0, all0⟩
def wwhere (s : Stm) (out : Str) : Option Str := cond (okW s) (app out (whT s)) none
def wwhere_F : wwhere_I → Option wwhere_O := fun x => wwhere x.1 x.2
theorem wwhere_b (s : Stm) (out r : Str) (h : okW s = true) (hr : app out (whT s) = some r) : wwhere_body (s, out) = some r := by
  simp only [okW] at h
  simp only [whT] at hr
  simp only [wwhere_body, xeta_eq, ww, fl1]
  cases hs : s.has with
  | false =>
    rw [hs] at hr
    exact app_z hr
  | true =>
    rw [hs] at h hr
    simp only [we (show okx s.whr = true from h), cond_t, app_one, app_app]
    exact hr
theorem wwhere_ok : FnLn Tryz.prog elT glT 55 wwhere_si wwhere_so wwhere_F := .fin0 wwhere_run fun (s, out) r hb hx => by
  have hx : cond (okW s) (app out (whT s)) none = some r := hx
  cases ho : okW s with
  | false => rw [ho] at hx; cases hx
  | true =>
    rw [ho] at hx
    exact wwhere_b s out r ho hx
theorem wh {s : Stm} (h : okW s = true) (out : Str) : wwhere_F (s, out) = app out (whT s) := by
  show cond (okW s) _ _ = _
  rw [h]
  rfl
/-! ## a table -/
def chkT (e : Xpr) : Str := [44, 32, 67, 72, 69, 67, 75, 32] ++ cond (decide (parts e.kind = 0)) ([40] ++ (etx e ++ [41])) (etx e)
def tableT (s : Stm) : Str := [67, 82, 69, 65, 84, 69, 32, 84, 65, 66, 76, 69, 32] ++ (s.name ++ [32, 40]) ++ listT colT s.cols ++ [44, 32, 80, 82, 73, 77, 65, 82, 89, 32, 75, 69, 89, 32] ++ nmT s.names ++ (s.l.map chkT).flatten ++ [41]
def okT (s : Stm) : Bool := s.cols.all (fun c => inb c.kind 6) && okNm s.names && s.l.all okx
def fuelS (s : Stm) : Nat := s.cols.length + s.l.length + s.order.length + s.rows.length + s.sets.length + (s.rows.map List.length).sum + 1
/-! ## (*exchequer/ast.writer).table -/
def wtable_si : Sig := ⟨2, [(1, .sv .stmt)], [(0, .ptr 0 0)], [(0, .bld 82)], 1, 1, 0, [], []⟩
def wtable_so : Sig := ⟨0, [], [], [(0, .bld 82)], 1, 1, 0, [], []⟩
abbrev wtable_I := Stm × List UInt8
abbrev wtable_O := List UInt8
def wtable_1_sg : Sig := ⟨54, [(25, .sl .expr false), (26, .int .i64), (27, .int .i64)], [(2, .ptr 1 0)], [(0, .bld 82), (1, .fx [.ptr 0 0])], 2, 1, 0, [], []⟩
abbrev wtable_1_V := List Xpr × Int × Int × List UInt8
def wtable_1 {R : Type} (rec : wtable_1_V → Option R) (kx : Ex → wtable_1_V → Option R) (v : wtable_1_V) : Option R := match v with
 | (v6, v7, v8, w2) =>
  cond (decide (v8 < v7)) (
   chk (inb v8 v6.length) (
    (wwords_F ([[44, 32, 67, 72, 69, 67, 75, 32]], w2)).bind fun x5 =>
     cond (decide ((parts ((at' .expr v6 v8).kind)) = 0)) (
      (wwords_F ([[40]], x5)).bind fun x6 =>
       (wexpr_F ((at' .expr v6 v8), x6)).bind fun x7 =>
        (wwords_F ([[41]], x7)).bind fun x8 =>
         rec (v6, v7, (wr .i64 (v8 + 1)), x8)) (
      (wexpr_F ((at' .expr v6 v8), x5)).bind fun x9 =>
       rec (v6, v7, (wr .i64 (v8 + 1)), x9)))) (
   kx (.exit 0) (v6, v7, v8, w2))
def wtable_0_sg : Sig := ⟨20, [(7, .int .i64), (8, .int .i64)], [(0, .ptr 0 0), (2, .fn 102 [.ptr 1 0, .ptr 2 0])], [(0, .bld 82), (1, .fx [.ptr 0 0]), (2, .one (.sv .stmt))], 80, 80, 400, [2], []⟩
abbrev wtable_0_V := Int × Int × List UInt8 × Stm
def wtable_0 {R : Type} (rec : wtable_0_V → Option R) (kx : Ex → wtable_0_V → Option R) (v : wtable_0_V) : Option R := match v with
 | (v, v1, w, w1) =>
  cond (decide (v1 < v)) (
   let j := fun (q : List UInt8) =>
    chk (inb v1 w1.cols.length) (
     (wcol_F ((at' .col w1.cols v1), q)).bind fun x2 =>
      rec (v, (wr .i64 (v1 + 1)), x2, w1))
   cond (decide (0 < v1)) (
    (wwords_F ([[44, 32]], w)).bind fun x1 =>
     j x1) (
    j w)) (
   kx (.exit 0) (v, v1, w, w1))
def wtable_pxi0i0 (R : Type) (_k : Nat) : Px R := ⟨ttOf ttL, glT, callT [(103, callLn wcol_si wcol_so wcol_F)], callQT [], loopT [], tbl []⟩
noncomputable def wtable_pxi0 (R : Type) (k : Nat) : Px R := ⟨ttOf ttL, glT, callT [(49, callLn wwords_si wwords_so wwords_F), (102, callRun 120 600 (wtable_pxi0i0 R k) Tryz.f102)], callQT [], loopT [(1, loopOr k wtable_0_sg (wtable_0))], tbl []⟩
noncomputable def wtable_px (R : Type) (k : Nat) : Px R := ⟨ttOf ttL, glT, callT [(49, callLn wwords_si wwords_so wwords_F), (50, callLn wnames_si wnames_so wnames_F), (94, callOr [.int .i64] [.int .i64] parts_F), (40, callLn wexpr_si wexpr_so wexpr_F), (51, callRun 80 400 (wtable_pxi0 R k) Tryz.f51)], callQT [], loopT [(6, loopOr k wtable_1_sg (wtable_1))], tbl []⟩
theorem wtable_0_eq (R : Type) (k : Nat) : ∀ (fr : List Fr) (rec : wtable_0_V → Option R) (kx : Ex → wtable_0_V → Option R) (v : wtable_0_V), round (wtable_pxi0 R k) wtable_0_sg (lp Tryz.f51 0) fr rec kx v = wtable_0 rec kx v
  | fr, rec, kx, (v, v1, w, w1) => by kernel_rfl
theorem wtable_1_eq (R : Type) (k : Nat) : ∀ (fr : List Fr) (rec : wtable_1_V → Option R) (kx : Ex → wtable_1_V → Option R) (v : wtable_1_V), round (wtable_px R k) wtable_1_sg (lp Tryz.f48 0) fr rec kx v = wtable_1 rec kx v
  | fr, rec, kx, (v6, v7, v8, w2) => by kernel_rfl
def wtable_body (k : Nat) (x : wtable_I) : Option (wtable_O) := match x with
 | (s, out) =>
  (wwords_F ([[67, 82, 69, 65, 84, 69, 32, 84, 65, 66, 76, 69, 32], s.name, [32, 40]], out)).bind fun x =>
   iter (fun rec => wtable_0 rec (fun e vz => match vz with | (_, _, v4, v5) => match e with
    | .exit 0 =>
     (wwords_F ([[44, 32, 80, 82, 73, 77, 65, 82, 89, 32, 75, 69, 89, 32]], v4)).bind fun x3 =>
      (wnames_F (v5.names, x3)).bind fun x4 =>
       iter (fun rec => wtable_1 rec (fun e vz => match vz with | (_, _, _, v12) => match e with
        | .exit 0 =>
         (wwords_F ([[41]], v12)).bind fun x10 =>
          some x10
        | _ => none)) k (v5.l, (v5.l.length : Int), 0, x4)
    | _ => none)) k ((s.cols.length : Int), 0, x, s)
theorem wtable_eq (k : Nat) : ∀ (x : wtable_I), runLn (wtable_px _ k) Tryz.f48 wtable_si wtable_so x some = wtable_body k x
  | (s, out) => by kernel_rfl
theorem wtable_run (k : Nat) : FnLn Tryz.prog elT glT 48 wtable_si wtable_so (wtable_body k) := by
  refine fnLn_run Tryz.func48 rfl (by kernel_rfl) follows (by kernel_rfl) (n := 1) (by kernel_rfl) (px := wtable_px _ k) (fun cx hP hel hgl => ?_) (wtable_eq k)
  have hp2 : PxOk cx (wtable_pxi0i0 (wtable_O) k) := ⟨fun t => by rw [hP, hel]; exact tt_ok ttL_ok t, by rw [hgl]; rfl⟩
  have hc2 : CallOk cx (wtable_pxi0i0 (wtable_O) k) := callT_ok rfl (cfs_cons (cf_ln (by rw [hP, hel, hgl]; exact wcol_ok) (by kernel_rfl)) cfs_nil)
  have hq2 : CallQOk cx (wtable_pxi0i0 (wtable_O) k) := callQT_ok rfl rfl cqfs_nil cwfs_nil
  have hp1 : PxOk cx (wtable_pxi0 (wtable_O) k) := ⟨fun t => by rw [hP, hel]; exact tt_ok ttL_ok t, by rw [hgl]; rfl⟩
  have hc1 : CallOk cx (wtable_pxi0 (wtable_O) k) := callT_ok rfl (cfs_cons (cf_ln (by rw [hP, hel, hgl]; exact wwords_ok) (by kernel_rfl)) (cfs_cons (cf_run hp2 hc2 hq2 (by rw [hP]; exact follows) (by rw [hP]; exact Tryz.func102) rfl (by kernel_rfl) (by kernel_rfl) (n := 0) (by kernel_rfl) (all0)) cfs_nil))
  have hq1 : CallQOk cx (wtable_pxi0 (wtable_O) k) := callQT_ok rfl rfl cqfs_nil cwfs_nil
  have hlwtable_0 : LoopOk cx (wtable_pxi0 (wtable_O) k) (lp Tryz.f51 0) := loop_ok hp1 hc1 hq1 (by rw [hP]; exact follows) (k := k) (s := wtable_0_sg) (step := wtable_0) (fun _ _ => by kernel_rfl) (by kernel_rfl) (wtable_0_eq _ k) (loops_in (n := 0) (by kernel_rfl) all0)
  have hp0 : PxOk cx (wtable_px (wtable_O) k) := ⟨fun t => by rw [hP, hel]; exact tt_ok ttL_ok t, by rw [hgl]; rfl⟩
  have hc0 : CallOk cx (wtable_px (wtable_O) k) := callT_ok rfl (cfs_cons (cf_ln (by rw [hP, hel, hgl]; exact wwords_ok) (by kernel_rfl)) (cfs_cons (cf_ln (by rw [hP, hel, hgl]; exact wnames_ok) (by kernel_rfl)) (cfs_cons (cf_or (by rw [hP, hel, hgl]; exact parts_ok) (by kernel_rfl)) (cfs_cons (cf_ln (by rw [hP, hel, hgl]; exact wexpr_ok) (by kernel_rfl)) (cfs_cons (cf_run hp1 hc1 hq1 (by rw [hP]; exact follows) (by rw [hP]; exact Tryz.func51) rfl (by kernel_rfl) (by kernel_rfl) (n := 1) (by kernel_rfl) ((allS all0 hlwtable_0))) cfs_nil)))))
  have hq0 : CallQOk cx (wtable_px (wtable_O) k) := callQT_ok rfl rfl cqfs_nil cwfs_nil
  have hlwtable_1 : LoopOk cx (wtable_px (wtable_O) k) (lp Tryz.f48 0) := loop_ok hp0 hc0 hq0 (by rw [hP]; exact follows) (k := k) (s := wtable_1_sg) (step := wtable_1) (fun _ _ => by kernel_rfl) (by kernel_rfl) (wtable_1_eq _ k) (loops_in (n := 0) (by kernel_rfl) all0)
  exact ⟨hp0, hc0, hq0, (allS all0 hlwtable_1)⟩
def wtable (s : Stm) (out : Str) : Option Str := cond (okT s) (app out (tableT s)) none
def wtable_F : wtable_I → Option wtable_O := fun x => wtable x.1 x.2
theorem wtable_b (k : Nat) (s : Stm) (out : Str) (hb : BdStm s) (h : okT s = true) (hk : fuelS s ≤ k) : wtable_body k (s, out) = app out (tableT s) := by
  simp only [okT, Bool.and_eq_true] at h
  obtain ⟨⟨h1, h2⟩, h3⟩ := h
  simp only [fuelS] at hk
  have hc := List.all_eq_true.1 h1
  have hl := List.all_eq_true.1 h3
  simp only [wtable_body, ww, fl1, fl3]
  refine (app_congr fun x hx => (list_loop s.cols colT (fun i acc => ((s.cols.length : Int), (i : Int), acc, s)) (fun acc => (app acc ([44, 32, 80, 82, 73, 77, 65, 82, 89, 32, 75, 69, 89, 32] ++ nmT s.names)).bind fun x => (app x (s.l.map chkT).flatten).bind fun x => app x [41]) (fun i hi acc rec => ?_) (fun acc rec => ?_) k (by omega) x hx)).trans ?_
  · simp only [wtable_0, lt_t hi, cond_t, inb_t hi, chk, at_nat (c := .col) hi, wc (hc _ (List.getElem_mem hi)), wr_succ hi hb.cols.1, ww, fl1]
    exact sep_step i acc (colT s.cols[i]) _
  · simp only [wtable_0, lt_n, cond_f, ww, fl1, wn h2]
    rw [app_cont]
    refine app_congr fun x hx => cat_loop s.l chkT (fun i acc => (s.l, (s.l.length : Int), (i : Int), acc)) (fun acc => app acc [41]) (fun i hi acc rec => ?_) (fun acc rec => ?_) k (by omega) x hx
    · simp only [wtable_1, lt_t hi, cond_t, inb_t hi, chk, at_nat (c := .expr) hi, we (hl _ (List.getElem_mem hi)), wr_succ hi hb.l.1, ww, fl1, chkT]
      cases decide (parts s.l[i].kind = 0) with
      | true => simp only [cond_t, app_cont]
      | false => simp only [cond_f, app_cont]
    · simp only [wtable_1, lt_n, cond_f, ww, fl1, app_one]
  · simp only [app_app, tableT, List.append_assoc]
theorem wtable_ok : FnLn Tryz.prog elT glT 48 wtable_si wtable_so wtable_F := .fin 0 wtable_run fun (s, out) r hb hx => ⟨fuelS s, by
  have hx : cond (okT s) (app out (tableT s)) none = some r := hx
  cases ho : okT s with
  | false => rw [ho] at hx; cases hx
  | true =>
    rw [ho] at hx
    exact (wtable_b (fuelS s) s out hb.1 ho (Nat.le_refl _)).trans hx⟩
theorem wt {s : Stm} (h : okT s = true) (out : Str) : wtable_F (s, out) = app out (tableT s) := by
  show cond (okT s) _ _ = _
  rw [h]
  rfl
/-! ## a select -/
def ordT (p : Str × Bool) : Str := p.1 ++ cond p.2 [32, 68, 69, 83, 67] []
def limT (s : Stm) : Str := cond (decide (0 ≤ s.most)) ([32, 76, 73, 77, 73, 84, 32] ++ vprint ⟨3, s.most, []⟩) []
def obT (s : Stm) : Str := cond (decide (0 < (s.order.length : Int))) [32, 79, 82, 68, 69, 82, 32, 66, 89, 32] []
def selT (s : Stm) : Str := [83, 69, 76, 69, 67, 84, 32] ++ cond (decide ((s.l.length : Int) = 0)) [42] [] ++ listT etx s.l ++ ([32, 70, 82, 79, 77, 32] ++ s.name) ++ whT s ++ obT s ++ listT ordT (s.order.zip s.desc) ++ limT s
def okS (s : Stm) : Bool := s.l.all okx && okW s && decide (s.desc.length = s.order.length)
/-! ## (*exchequer/ast.writer).chosen -/
def wchosen_si : Sig := ⟨2, [(1, .sv .stmt)], [(0, .ptr 0 0)], [(0, .bld 82)], 1, 1, 0, [], []⟩
def wchosen_so : Sig := ⟨0, [], [], [(0, .bld 82)], 1, 1, 0, [], []⟩
abbrev wchosen_I := Stm × List UInt8
abbrev wchosen_O := List UInt8
def wchosen_1_sg : Sig := ⟨20, [(7, .int .i64), (8, .int .i64)], [(0, .ptr 0 0), (2, .fn 107 [.ptr 1 0, .ptr 2 0])], [(0, .bld 82), (1, .fx [.ptr 0 0]), (2, .one (.sv .stmt))], 80, 80, 600, [404, 2], []⟩
abbrev wchosen_1_V := Int × Int × List UInt8 × Stm
def wchosen_1 {R : Type} (rec : wchosen_1_V → Option R) (kx : Ex → wchosen_1_V → Option R) (v : wchosen_1_V) : Option R := match v with
 | (v6, v7, w2, w3) =>
  cond (decide (v7 < v6)) (
   let j1 := fun (q3 : List UInt8) =>
    chk (inb v7 w3.order.length) (
     (wwords_F ([(at' .str w3.order v7)], q3)).bind fun x8 =>
      chk (inb v7 w3.desc.length) (
       cond ((at' .bool w3.desc v7)) (
        (wwords_F ([[32, 68, 69, 83, 67]], x8)).bind fun x9 =>
         rec (v6, (wr .i64 (v7 + 1)), x9, w3)) (
        rec (v6, (wr .i64 (v7 + 1)), x8, w3))))
   cond (decide (0 < v7)) (
    (wwords_F ([[44, 32]], w2)).bind fun x7 =>
     j1 x7) (
    j1 w2)) (
   kx (.exit 0) (v6, v7, w2, w3))
def wchosen_0_sg : Sig := ⟨20, [(7, .int .i64), (8, .int .i64)], [(0, .ptr 0 0), (2, .fn 106 [.ptr 1 0, .ptr 2 0])], [(0, .bld 82), (1, .fx [.ptr 0 0]), (2, .one (.sv .stmt))], 80, 80, 400, [2], []⟩
abbrev wchosen_0_V := Int × Int × List UInt8 × Stm
def wchosen_0 {R : Type} (rec : wchosen_0_V → Option R) (kx : Ex → wchosen_0_V → Option R) (v : wchosen_0_V) : Option R := match v with
 | (v, v1, w, w1) =>
  cond (decide (v1 < v)) (
   let j := fun (q1 : List UInt8) =>
    chk (inb v1 w1.l.length) (
     (wexpr_F ((at' .expr w1.l v1), q1)).bind fun x3 =>
      rec (v, (wr .i64 (v1 + 1)), x3, w1))
   cond (decide (0 < v1)) (
    (wwords_F ([[44, 32]], w)).bind fun x2 =>
     j x2) (
    j w)) (
   kx (.exit 0) (v, v1, w, w1))
def wchosen_pxi0i0 (R : Type) (_k : Nat) : Px R := ⟨ttOf ttL, glT, callT [(40, callLn wexpr_si wexpr_so wexpr_F)], callQT [], loopT [], tbl []⟩
noncomputable def wchosen_pxi0 (R : Type) (k : Nat) : Px R := ⟨ttOf ttL, glT, callT [(49, callLn wwords_si wwords_so wwords_F), (106, callRun 120 600 (wchosen_pxi0i0 R k) Tryz.f106)], callQT [], loopT [(1, loopOr k wchosen_0_sg (wchosen_0))], tbl []⟩
def wchosen_pxi1i0 (R : Type) (_k : Nat) : Px R := ⟨ttOf ttL, glT, callT [(49, callLn wwords_si wwords_so wwords_F)], callQT [], loopT [], tbl []⟩
noncomputable def wchosen_pxi1 (R : Type) (k : Nat) : Px R := ⟨ttOf ttL, glT, callT [(49, callLn wwords_si wwords_so wwords_F), (107, callRun 120 800 (wchosen_pxi1i0 R k) Tryz.f107)], callQT [], loopT [(1, loopOr k wchosen_1_sg (wchosen_1))], tbl []⟩
noncomputable def wchosen_px (R : Type) (k : Nat) : Px R := ⟨ttOf ttL, glT, callT [(49, callLn wwords_si wwords_so wwords_F), (55, callLn wwhere_si wwhere_so wwhere_F), (51, callRunOr 80 400 (wchosen_pxi0 R k) Tryz.f51 (callRun 80 600 (wchosen_pxi1 R k) Tryz.f51))], callQT [(98, callOrQ [.sv .val] [.str] vprint_F)], loopT [], tbl []⟩
theorem wchosen_0_eq (R : Type) (k : Nat) : ∀ (fr : List Fr) (rec : wchosen_0_V → Option R) (kx : Ex → wchosen_0_V → Option R) (v : wchosen_0_V), round (wchosen_pxi0 R k) wchosen_0_sg (lp Tryz.f51 0) fr rec kx v = wchosen_0 rec kx v
  | fr, rec, kx, (v, v1, w, w1) => by kernel_rfl
theorem wchosen_1_eq (R : Type) (k : Nat) : ∀ (fr : List Fr) (rec : wchosen_1_V → Option R) (kx : Ex → wchosen_1_V → Option R) (v : wchosen_1_V), round (wchosen_pxi1 R k) wchosen_1_sg (lp Tryz.f51 0) fr rec kx v = wchosen_1 rec kx v
  | fr, rec, kx, (v6, v7, w2, w3) => by kernel_rfl
def wchosen_body (k : Nat) (x : wchosen_I) : Option (wchosen_O) := match x with
 | (s, out) =>
  (wwords_F ([[83, 69, 76, 69, 67, 84, 32]], out)).bind fun x =>
   let j3 := fun (q : List UInt8) =>
    iter (fun rec => wchosen_0 rec (fun e vz => match vz with | (_, _, v4, v5) => match e with
     | .exit 0 =>
      (wwords_F ([[32, 70, 82, 79, 77, 32], v5.name], v4)).bind fun x4 =>
       (wwhere_F (v5, x4)).bind fun x5 =>
        let j2 := fun (q2 : List UInt8) =>
         iter (fun rec => wchosen_1 rec (fun e vz => match vz with | (_, _, v10, v11) => match e with
          | .exit 0 =>
           cond (decide (0 ≤ v11.most)) (
            (wwords_F ([[32, 76, 73, 77, 73, 84, 32], (vprint (Val.mk 3 v11.most []))], v10)).bind fun x10 =>
             some x10) (
            some v10)
          | _ => none)) k ((v5.order.length : Int), 0, q2, v5)
        cond (decide (0 < (v5.order.length : Int))) (
         (wwords_F ([[32, 79, 82, 68, 69, 82, 32, 66, 89, 32]], x5)).bind fun x6 =>
          j2 x6) (
         j2 x5)
     | _ => none)) k ((s.l.length : Int), 0, q, s)
   cond (decide ((s.l.length : Int) = 0)) (
    (wwords_F ([[42]], x)).bind fun x1 =>
     j3 x1) (
    j3 x)
theorem wchosen_eq (k : Nat) : ∀ (x : wchosen_I), runLn (wchosen_px _ k) Tryz.f56 wchosen_si wchosen_so x some = wchosen_body k x
  | (s, out) => by kernel_rfl
theorem wchosen_run (k : Nat) : FnLn Tryz.prog elT glT 56 wchosen_si wchosen_so (wchosen_body k) := by
  refine fnLn_run Tryz.func56 rfl (by kernel_rfl) follows (by kernel_rfl) (n := 0) (by kernel_rfl) (px := wchosen_px _ k) (fun cx hP hel hgl => ?_) (wchosen_eq k)
  have hp2 : PxOk cx (wchosen_pxi0i0 (wchosen_O) k) := ⟨fun t => by rw [hP, hel]; exact tt_ok ttL_ok t, by rw [hgl]; rfl⟩
  have hc2 : CallOk cx (wchosen_pxi0i0 (wchosen_O) k) := callT_ok rfl (cfs_cons (cf_ln (by rw [hP, hel, hgl]; exact wexpr_ok) (by kernel_rfl)) cfs_nil)
  have hq2 : CallQOk cx (wchosen_pxi0i0 (wchosen_O) k) := callQT_ok rfl rfl cqfs_nil cwfs_nil
  have hp1 : PxOk cx (wchosen_pxi0 (wchosen_O) k) := ⟨fun t => by rw [hP, hel]; exact tt_ok ttL_ok t, by rw [hgl]; rfl⟩
  have hc1 : CallOk cx (wchosen_pxi0 (wchosen_O) k) := callT_ok rfl (cfs_cons (cf_ln (by rw [hP, hel, hgl]; exact wwords_ok) (by kernel_rfl)) (cfs_cons (cf_run hp2 hc2 hq2 (by rw [hP]; exact follows) (by rw [hP]; exact Tryz.func106) rfl (by kernel_rfl) (by kernel_rfl) (n := 0) (by kernel_rfl) (all0)) cfs_nil))
  have hq1 : CallQOk cx (wchosen_pxi0 (wchosen_O) k) := callQT_ok rfl rfl cqfs_nil cwfs_nil
  have hlwchosen_0 : LoopOk cx (wchosen_pxi0 (wchosen_O) k) (lp Tryz.f51 0) := loop_ok hp1 hc1 hq1 (by rw [hP]; exact follows) (k := k) (s := wchosen_0_sg) (step := wchosen_0) (fun _ _ => by kernel_rfl) (by kernel_rfl) (wchosen_0_eq _ k) (loops_in (n := 0) (by kernel_rfl) all0)
  have hp4 : PxOk cx (wchosen_pxi1i0 (wchosen_O) k) := ⟨fun t => by rw [hP, hel]; exact tt_ok ttL_ok t, by rw [hgl]; rfl⟩
  have hc4 : CallOk cx (wchosen_pxi1i0 (wchosen_O) k) := callT_ok rfl (cfs_cons (cf_ln (by rw [hP, hel, hgl]; exact wwords_ok) (by kernel_rfl)) cfs_nil)
  have hq4 : CallQOk cx (wchosen_pxi1i0 (wchosen_O) k) := callQT_ok rfl rfl cqfs_nil cwfs_nil
  have hp3 : PxOk cx (wchosen_pxi1 (wchosen_O) k) := ⟨fun t => by rw [hP, hel]; exact tt_ok ttL_ok t, by rw [hgl]; rfl⟩
  have hc3 : CallOk cx (wchosen_pxi1 (wchosen_O) k) := callT_ok rfl (cfs_cons (cf_ln (by rw [hP, hel, hgl]; exact wwords_ok) (by kernel_rfl)) (cfs_cons (cf_run hp4 hc4 hq4 (by rw [hP]; exact follows) (by rw [hP]; exact Tryz.func107) rfl (by kernel_rfl) (by kernel_rfl) (n := 0) (by kernel_rfl) (all0)) cfs_nil))
  have hq3 : CallQOk cx (wchosen_pxi1 (wchosen_O) k) := callQT_ok rfl rfl cqfs_nil cwfs_nil
  have hlwchosen_1 : LoopOk cx (wchosen_pxi1 (wchosen_O) k) (lp Tryz.f51 0) := loop_ok hp3 hc3 hq3 (by rw [hP]; exact follows) (k := k) (s := wchosen_1_sg) (step := wchosen_1) (fun _ _ => by kernel_rfl) (by kernel_rfl) (wchosen_1_eq _ k) (loops_in (n := 0) (by kernel_rfl) all0)
  have hp0 : PxOk cx (wchosen_px (wchosen_O) k) := ⟨fun t => by rw [hP, hel]; exact tt_ok ttL_ok t, by rw [hgl]; rfl⟩
  have hc0 : CallOk cx (wchosen_px (wchosen_O) k) := callT_ok rfl (cfs_cons (cf_ln (by rw [hP, hel, hgl]; exact wwords_ok) (by kernel_rfl)) (cfs_cons (cf_ln (by rw [hP, hel, hgl]; exact wwhere_ok) (by kernel_rfl)) (cfs_cons (cf_runOr (cf_run hp1 hc1 hq1 (by rw [hP]; exact follows) (by rw [hP]; exact Tryz.func51) rfl (by kernel_rfl) (by kernel_rfl) (n := 1) (by kernel_rfl) ((allS all0 hlwchosen_0))) (cf_run hp3 hc3 hq3 (by rw [hP]; exact follows) (by rw [hP]; exact Tryz.func51) rfl (by kernel_rfl) (by kernel_rfl) (n := 1) (by kernel_rfl) ((allS all0 hlwchosen_1)))) cfs_nil)))
  have hq0 : CallQOk cx (wchosen_px (wchosen_O) k) := callQT_ok rfl rfl (cqfs_cons (cqf_or (by rw [hP, hel, hgl]; exact vprint_ok) (by kernel_rfl)) cqfs_nil) cwfs_nil
  exact ⟨hp0, hc0, hq0, all0⟩
def wchosen (s : Stm) (out : Str) : Option Str := cond (okS s) (app out (selT s)) none
def wchosen_F : wchosen_I → Option wchosen_O := fun x => wchosen x.1 x.2
theorem cond_app {R : Type} {b : Bool} {out t : Str} {c : Str → Option R} (ho : out.length ≤ 100000000000) : cond b ((app out t).bind c) (c out) = (app out (cond b t [])).bind c := by
  cases b with
  | true => rfl
  | false => rw [cond_f, cond_f, app_nil ho]; rfl
theorem wchosen_b (k : Nat) (s : Stm) (out : Str) (hb : BdStm s) (h : okS s = true) (hk : fuelS s ≤ k) : wchosen_body k (s, out) = app out (selT s) := by
  simp only [okS, Bool.and_eq_true, decide_eq_true_eq] at h
  obtain ⟨⟨h1, h2⟩, h3⟩ := h
  simp only [fuelS] at hk
  have hl := List.all_eq_true.1 h1
  have hz : (s.order.zip s.desc).length = s.order.length := by rw [List.length_zip]; omega
  have hend : ∀ x : Str, x.length ≤ 100000000000 → cond (decide (0 ≤ s.most)) (app x ([32, 76, 73, 77, 73, 84, 32] ++ vprint ⟨3, s.most, []⟩)) (some x) = app x (limT s) := fun x hx => by
    simp only [limT]
    cases decide (0 ≤ s.most) with
    | true => rfl
    | false => rw [cond_f, cond_f, app_nil hx]
  have hord : ∀ (kx : Ex → wchosen_1_V → Option wchosen_O), (∀ acc, kx (.exit 0) ((s.order.length : Int), (s.order.length : Int), acc, s) = cond (decide (0 ≤ s.most)) (app acc ([32, 76, 73, 77, 73, 84, 32] ++ vprint ⟨3, s.most, []⟩)) (some acc)) → ∀ x : Str, x.length ≤ 100000000000 →
      iter (fun rec => wchosen_1 rec kx) k ((s.order.length : Int), 0, x, s) = (app x (listT ordT (s.order.zip s.desc))).bind fun x => app x (limT s) := fun kx hkx x hx => by
    refine (list_loop (s.order.zip s.desc) ordT (fun i acc => ((s.order.length : Int), (i : Int), acc, s)) (fun acc => cond (decide (0 ≤ s.most)) (app acc ([32, 76, 73, 77, 73, 84, 32] ++ vprint ⟨3, s.most, []⟩)) (some acc)) (fun i hi acc rec => ?_) (fun acc rec => ?_) k (by omega) x hx).trans (app_congr hend)
    · have hi1 : i < s.order.length := by omega
      have hi2 : i < s.desc.length := by omega
      have hg : (s.order.zip s.desc)[i] = (s.order[i], s.desc[i]) := by simp
      simp only [wchosen_1, lt_t hi1, cond_t, inb_t hi1, inb_t hi2, chk, at_nat (c := .str) hi1, at_nat (c := .bool) hi2, wr_succ hi1 hb.order.1, ww, fl1, hg]
      have hitem : ∀ q : Str, ((app q s.order[i]).bind fun x8 => cond s.desc[i] ((app x8 [32, 68, 69, 83, 67]).bind fun x9 => rec ((s.order.length : Int), ((i + 1 : Nat) : Int), x9, s)) (rec ((s.order.length : Int), ((i + 1 : Nat) : Int), x8, s))) = (app q (ordT (s.order[i], s.desc[i]))).bind fun x => rec ((s.order.length : Int), ((i + 1 : Nat) : Int), x, s) := fun q => by
        simp only [ordT]
        rw [← app_cont]
        exact app_congr fun x hx => cond_app hx
      simp only [hitem]
      exact sep_step i acc _ _
    · rw [hz]
      simp only [wchosen_1, lt_n, cond_f, hkx]
  simp only [wchosen_body, ww, fl1, fl2]
  have hsel : ∀ (kx : Ex → wchosen_0_V → Option wchosen_O), (∀ acc : Str, acc.length ≤ 100000000000 → kx (.exit 0) ((s.l.length : Int), (s.l.length : Int), acc, s) = app acc (([32, 70, 82, 79, 77, 32] ++ s.name) ++ whT s ++ obT s ++ listT ordT (s.order.zip s.desc) ++ limT s)) → ∀ x : Str, x.length ≤ 100000000000 →
      iter (fun rec => wchosen_0 rec kx) k ((s.l.length : Int), 0, x, s) = app x (listT etx s.l ++ (([32, 70, 82, 79, 77, 32] ++ s.name) ++ whT s ++ obT s ++ listT ordT (s.order.zip s.desc) ++ limT s)) := fun kx hkx x hx => by
    refine (list_loop s.l etx (fun i acc => ((s.l.length : Int), (i : Int), acc, s)) (fun acc => kx (.exit 0) ((s.l.length : Int), (s.l.length : Int), acc, s)) (fun i hi acc rec => ?_) (fun acc rec => ?_) k (by omega) x hx).trans ((app_congr hkx).trans (app_app _ _ _))
    · simp only [wchosen_0, lt_t hi, cond_t, inb_t hi, chk, at_nat (c := .expr) hi, we (hl _ (List.getElem_mem hi)), wr_succ hi hb.l.1, ww, fl1]
      exact sep_step i acc _ _
    · simp only [wchosen_0, lt_n, cond_f]
  refine (app_congr fun x hx => (cond_app hx).trans (app_congr fun q hq => hsel _ (fun acc ha => ?_) q hq)).trans ?_
  · show ((app acc ([32, 70, 82, 79, 77, 32] ++ s.name)).bind fun x4 => (wwhere_F (s, x4)).bind fun x5 => cond (decide (0 < (s.order.length : Int))) ((app x5 [32, 79, 82, 68, 69, 82, 32, 66, 89, 32]).bind fun x6 => iter (fun rec => wchosen_1 rec _) k ((s.order.length : Int), 0, x6, s)) (iter (fun rec => wchosen_1 rec _) k ((s.order.length : Int), 0, x5, s))) = _
    simp only [wh h2]
    rw [app_cont]
    refine (app_congr fun x5 hx5 => (cond_app hx5).trans (app_congr fun y hy => hord _ (fun _ => ?_) y hy)).trans ?_
    · simp only [app_one, vprint]
    · simp only [app_app, obT, List.append_assoc]
  · simp only [app_app, selT, List.append_assoc]
theorem wchosen_ok : FnLn Tryz.prog elT glT 56 wchosen_si wchosen_so wchosen_F := .fin 0 wchosen_run fun (s, out) r hb hx => ⟨fuelS s, by
  have hx : cond (okS s) (app out (selT s)) none = some r := hx
  cases ho : okS s with
  | false => rw [ho] at hx; cases hx
  | true =>
    rw [ho] at hx
    exact (wchosen_b (fuelS s) s out hb.1 ho (Nat.le_refl _)).trans hx⟩
theorem ws {s : Stm} (h : okS s = true) (out : Str) : wchosen_F (s, out) = app out (selT s) := by
  show cond (okS s) _ _ = _
  rw [h]
  rfl
/-! ## a statement's text -/
def rowT (r : List Xpr) : Str := [40] ++ (listT etx r ++ [41])
def setT (x : SetE) : Str := x.name ++ [32, 61, 32] ++ etx x.e
def printT (s : Stm) : Str :=
  if s.kind = 1 then tableT s
  else if s.kind = 2 then [68, 82, 79, 80, 32, 84, 65, 66, 76, 69, 32] ++ s.name
  else if s.kind = 3 then [67, 82, 69, 65, 84, 69, 32, 73, 78, 68, 69, 88, 32] ++ (s.name ++ ([32, 79, 78, 32] ++ (s.on ++ [32]))) ++ nmT s.names
  else if s.kind = 4 then [68, 82, 79, 80, 32, 73, 78, 68, 69, 88, 32] ++ s.name
  else if s.kind = 5 then [73, 78, 83, 69, 82, 84, 32, 73, 78, 84, 79, 32] ++ (s.name ++ [32, 86, 65, 76, 85, 69, 83, 32]) ++ listT rowT s.rows
  else if s.kind = 6 then [85, 80, 68, 65, 84, 69, 32] ++ (s.name ++ [32, 83, 69, 84, 32]) ++ listT setT s.sets ++ whT s
  else if s.kind = 7 then [68, 69, 76, 69, 84, 69, 32, 70, 82, 79, 77, 32] ++ s.name ++ whT s
  else selT s
def okP (s : Stm) : Bool :=
  if s.kind = 1 then okT s
  else if s.kind = 2 ∨ s.kind = 4 then true
  else if s.kind = 3 then okNm s.names
  else if s.kind = 5 then s.rows.all fun r => r.all okx
  else if s.kind = 6 then s.sets.all (fun x => okx x.e) && okW s
  else if s.kind = 7 then okW s
  else decide (s.kind = 8) && okS s
/-! ## exchequer/ast.Print -/
def aprint_2_sg : Sig := ⟨20, [(7, .int .i64), (8, .int .i64)], [(0, .ptr 1 0), (2, .fn 54 [.ptr 1 0, .ptr 0 0])], [(0, .one (.sv .stmt)), (1, .bld 82)], 40, 40, 200, [2], []⟩
abbrev aprint_2_V := Int × Int × Stm × List UInt8
def aprint_2 {R : Type} (rec : aprint_2_V → Option R) (kx : Ex → aprint_2_V → Option R) (v : aprint_2_V) : Option R := match v with
 | (v13, v14, w5, w6) =>
  cond (decide (v14 < v13)) (
   let j2 := fun (q2 : List UInt8) =>
    chk (inb v14 w5.sets.length) (
     (wwords_F ([((at' .set w5.sets v14).name), [32, 61, 32]], q2)).bind fun x14 =>
      chk (inb v14 w5.sets.length) (
       (wexpr_F ((xeta ((at' .set w5.sets v14).e)), x14)).bind fun x15 =>
        rec (v13, (wr .i64 (v14 + 1)), w5, x15)))
   cond (decide (0 < v14)) (
    (wwords_F ([[44, 32]], w6)).bind fun x13 =>
     j2 x13) (
    j2 w6)) (
   kx (.exit 0) (v13, v14, w5, w6))
def aprint_1_sg : Sig := ⟨20, [(7, .int .i64), (8, .int .i64)], [(0, .ptr 1 0), (2, .fn 53 [.ptr 1 0, .ptr 0 0, .ptr 80 0])], [(0, .one (.sv .stmt)), (1, .bld 82), (80, .cells [.int .i64])], 120, 120, 600, [400, 2], []⟩
abbrev aprint_1_V := Int × Int × Stm × List UInt8 × Int
def aprint_1 {R : Type} (rec : aprint_1_V → Option R) (kx : Ex → aprint_1_V → Option R) (v : aprint_1_V) : Option R := match v with
 | (v2, v3, w2, w3, w4) =>
  cond (decide (v3 < v2)) (
   let j := fun (q1 : List UInt8) =>
    chk (inb w4 w2.rows.length) (
     chk (inb v3 ((at' .exprs w2.rows w4).length)) (
      (wexpr_F ((at' .expr (at' .exprs w2.rows w4) v3), q1)).bind fun x10 =>
       rec (v2, (wr .i64 (v3 + 1)), w2, x10, w4)))
   cond (decide (0 < v3)) (
    (wwords_F ([[44, 32]], w3)).bind fun x9 =>
     j x9) (
    j w3)) (
   kx (.exit 0) (v2, v3, w2, w3, w4))
def aprint_0_sg : Sig := ⟨20, [(7, .int .i64), (8, .int .i64)], [(0, .ptr 1 0), (2, .fn 52 [.ptr 1 0, .ptr 0 0])], [(0, .one (.sv .stmt)), (1, .bld 82)], 40, 40, 200, [2], []⟩
abbrev aprint_0_V := Int × Int × Stm × List UInt8
def aprint_0 {R : Type} (k : Nat) (rec : aprint_0_V → Option R) (kx : Ex → aprint_0_V → Option R) (v : aprint_0_V) : Option R := match v with
 | (v, v1, w, w1) =>
  cond (decide (v1 < v)) (
   let j1 := fun (q : List UInt8) =>
    (wwords_F ([[40]], q)).bind fun x8 =>
     chk (inb v1 w.rows.length) (
      iter (fun rc => aprint_1 rc (fun e vz => match vz with | (_, _, v6, v7, _) => match e with
       | .exit 0 =>
        (wwords_F ([[41]], v7)).bind fun x11 =>
         rec (v, (wr .i64 (v1 + 1)), v6, x11)
       | _ => none)) k (((at' .exprs w.rows v1).length : Int), 0, w, x8, v1))
   cond (decide (0 < v1)) (
    (wwords_F ([[44, 32]], w1)).bind fun x7 =>
     j1 x7) (
    j1 w1)) (
   kx (.exit 0) (v, v1, w, w1))
def aprint_pxi0i0i0i0 (R : Type) (_k : Nat) : Px R := ⟨ttOf ttL, glT, callT [(40, callLn wexpr_si wexpr_so wexpr_F)], callQT [], loopT [], tbl []⟩
noncomputable def aprint_pxi0i0i0 (R : Type) (k : Nat) : Px R := ⟨ttOf ttL, glT, callT [(49, callLn wwords_si wwords_so wwords_F), (53, callRun 160 800 (aprint_pxi0i0i0i0 R k) Tryz.f53)], callQT [], loopT [(1, loopOr k aprint_1_sg (aprint_1))], tbl []⟩
noncomputable def aprint_pxi0i0 (R : Type) (k : Nat) : Px R := ⟨ttOf ttL, glT, callT [(49, callLn wwords_si wwords_so wwords_F), (51, callRun 120 600 (aprint_pxi0i0i0 R k) Tryz.f51)], callQT [], loopT [], tbl []⟩
def aprint_pxi0i1 (R : Type) (_k : Nat) : Px R := ⟨ttOf ttL, glT, callT [(49, callLn wwords_si wwords_so wwords_F), (40, callLn wexpr_si wexpr_so wexpr_F)], callQT [], loopT [], tbl []⟩
noncomputable def aprint_pxi0 (R : Type) (k : Nat) : Px R := ⟨ttOf ttL, glT, callT [(49, callLn wwords_si wwords_so wwords_F), (52, callRun 80 400 (aprint_pxi0i0 R k) Tryz.f52), (54, callRun 80 400 (aprint_pxi0i1 R k) Tryz.f54)], callQT [], loopT [(1, loopTry k aprint_0_sg (aprint_0 k) (loopOr k aprint_2_sg (aprint_2)))], tbl []⟩
noncomputable def aprint_px (R : Type) (k : Nat) : Px R := ⟨ttOf ttL, glT, callT [(25, callOr [.sv .stmt] [.int .i64] acheck_F), (48, callLn wtable_si wtable_so wtable_F), (49, callLn wwords_si wwords_so wwords_F), (50, callLn wnames_si wnames_so wnames_F), (55, callLn wwhere_si wwhere_so wwhere_F), (56, callLn wchosen_si wchosen_so wchosen_F), (41, callLn bstr_si bstr_so bstr_F), (51, callRun 40 200 (aprint_pxi0 R k) Tryz.f51)], callQT [], loopT [], tbl []⟩
theorem aprint_1_eq (R : Type) (k : Nat) : ∀ (fr : List Fr) (rec : aprint_1_V → Option R) (kx : Ex → aprint_1_V → Option R) (v : aprint_1_V), round (aprint_pxi0i0i0 R k) aprint_1_sg (lp Tryz.f51 0) fr rec kx v = aprint_1 rec kx v
  | fr, rec, kx, (v2, v3, w2, w3, w4) => by kernel_rfl
theorem aprint_0_eq (R : Type) (k : Nat) : ∀ (fr : List Fr) (rec : aprint_0_V → Option R) (kx : Ex → aprint_0_V → Option R) (v : aprint_0_V), round (aprint_pxi0 R k) aprint_0_sg (lp Tryz.f51 0) fr rec kx v = aprint_0 k rec kx v
  | fr, rec, kx, (v, v1, w, w1) => by kernel_rfl
theorem aprint_2_eq (R : Type) (k : Nat) : ∀ (fr : List Fr) (rec : aprint_2_V → Option R) (kx : Ex → aprint_2_V → Option R) (v : aprint_2_V), round (aprint_pxi0 R k) aprint_2_sg (lp Tryz.f51 0) fr rec kx v = aprint_2 rec kx v
  | fr, rec, kx, (v13, v14, w5, w6) => by kernel_rfl
def aprint_body (k : Nat) (x : HV [.sv .stmt]) : Option (HV [.str, .int .i64]) := match x with
 | s =>
  (acheck s).bind fun x =>
   cond (!decide (x = 0)) (
    some ([], x)) (
    cond (decide (s.kind = 1)) (
     (wtable_F (s, [])).bind fun x1 =>
      (bstr_F x1).bind fun x21 =>
       some (x21, 0)) (
     cond (decide (s.kind = 2)) (
      (wwords_F ([[68, 82, 79, 80, 32, 84, 65, 66, 76, 69, 32], s.name], [])).bind fun x2 =>
       (bstr_F x2).bind fun x22 =>
        some (x22, 0)) (
      cond (decide (s.kind = 3)) (
       (wwords_F ([[67, 82, 69, 65, 84, 69, 32, 73, 78, 68, 69, 88, 32], s.name, [32, 79, 78, 32], s.on, [32]], [])).bind fun x3 =>
        (wnames_F (s.names, x3)).bind fun x4 =>
         (bstr_F x4).bind fun x23 =>
          some (x23, 0)) (
       cond (decide (s.kind = 4)) (
        (wwords_F ([[68, 82, 79, 80, 32, 73, 78, 68, 69, 88, 32], s.name], [])).bind fun x5 =>
         (bstr_F x5).bind fun x24 =>
          some (x24, 0)) (
        cond (decide (s.kind = 5)) (
         (wwords_F ([[73, 78, 83, 69, 82, 84, 32, 73, 78, 84, 79, 32], s.name, [32, 86, 65, 76, 85, 69, 83, 32]], [])).bind fun x6 =>
          iter (fun rec => aprint_0 k rec (fun e vz => match vz with | (_, _, _, v12) => match e with
           | .exit 0 =>
            (bstr_F v12).bind fun x25 =>
             some (x25, 0)
           | _ => none)) k ((s.rows.length : Int), 0, s, x6)) (
         cond (decide (s.kind = 6)) (
          (wwords_F ([[85, 80, 68, 65, 84, 69, 32], s.name, [32, 83, 69, 84, 32]], [])).bind fun x12 =>
           iter (fun rec => aprint_2 rec (fun e vz => match vz with | (_, _, v17, v18) => match e with
            | .exit 0 =>
             (wwhere_F (v17, v18)).bind fun x16 =>
              (bstr_F x16).bind fun x26 =>
               some (x26, 0)
            | _ => none)) k ((s.sets.length : Int), 0, s, x12)) (
          cond (decide (s.kind = 7)) (
           (wwords_F ([[68, 69, 76, 69, 84, 69, 32, 70, 82, 79, 77, 32], s.name], [])).bind fun x17 =>
            (wwhere_F (s, x17)).bind fun x18 =>
             (bstr_F x18).bind fun x27 =>
              some (x27, 0)) (
           cond (decide (s.kind = 8)) (
            (wchosen_F (s, [])).bind fun x19 =>
             (bstr_F x19).bind fun x28 =>
              some (x28, 0)) (
            (bstr_F []).bind fun x29 =>
             some (x29, 0))))))))))
theorem aprint_eq (k : Nat) : ∀ (x : HV [.sv .stmt]), runF (aprint_px _ k) Tryz.f23 [.sv .stmt] [.str, .int .i64] x some = aprint_body k x
  | s => by kernel_rfl
theorem aprint_run (k : Nat) : FnOk Tryz.prog elT glT 23 [.sv .stmt] [.str, .int .i64] (aprint_body k) := by
  refine fnOk_run Tryz.func23 rfl (by kernel_rfl) follows (by kernel_rfl) (n := 0) (by kernel_rfl) (px := aprint_px _ k) (fun cx hP hel hgl => ?_) (aprint_eq k)
  have hp4 : PxOk cx (aprint_pxi0i0i0i0 (HV [.str, .int .i64]) k) := ⟨fun t => by rw [hP, hel]; exact tt_ok ttL_ok t, by rw [hgl]; rfl⟩
  have hc4 : CallOk cx (aprint_pxi0i0i0i0 (HV [.str, .int .i64]) k) := callT_ok rfl (cfs_cons (cf_ln (by rw [hP, hel, hgl]; exact wexpr_ok) (by kernel_rfl)) cfs_nil)
  have hq4 : CallQOk cx (aprint_pxi0i0i0i0 (HV [.str, .int .i64]) k) := callQT_ok rfl rfl cqfs_nil cwfs_nil
  have hp3 : PxOk cx (aprint_pxi0i0i0 (HV [.str, .int .i64]) k) := ⟨fun t => by rw [hP, hel]; exact tt_ok ttL_ok t, by rw [hgl]; rfl⟩
  have hc3 : CallOk cx (aprint_pxi0i0i0 (HV [.str, .int .i64]) k) := callT_ok rfl (cfs_cons (cf_ln (by rw [hP, hel, hgl]; exact wwords_ok) (by kernel_rfl)) (cfs_cons (cf_run hp4 hc4 hq4 (by rw [hP]; exact follows) (by rw [hP]; exact Tryz.func53) rfl (by kernel_rfl) (by kernel_rfl) (n := 0) (by kernel_rfl) (all0)) cfs_nil))
  have hq3 : CallQOk cx (aprint_pxi0i0i0 (HV [.str, .int .i64]) k) := callQT_ok rfl rfl cqfs_nil cwfs_nil
  have hlaprint_1 : LoopOk cx (aprint_pxi0i0i0 (HV [.str, .int .i64]) k) (lp Tryz.f51 0) := loop_ok hp3 hc3 hq3 (by rw [hP]; exact follows) (k := k) (s := aprint_1_sg) (step := aprint_1) (fun _ _ => by kernel_rfl) (by kernel_rfl) (aprint_1_eq _ k) (loops_in (n := 0) (by kernel_rfl) all0)
  have hp2 : PxOk cx (aprint_pxi0i0 (HV [.str, .int .i64]) k) := ⟨fun t => by rw [hP, hel]; exact tt_ok ttL_ok t, by rw [hgl]; rfl⟩
  have hc2 : CallOk cx (aprint_pxi0i0 (HV [.str, .int .i64]) k) := callT_ok rfl (cfs_cons (cf_ln (by rw [hP, hel, hgl]; exact wwords_ok) (by kernel_rfl)) (cfs_cons (cf_run hp3 hc3 hq3 (by rw [hP]; exact follows) (by rw [hP]; exact Tryz.func51) rfl (by kernel_rfl) (by kernel_rfl) (n := 1) (by kernel_rfl) ((allS all0 hlaprint_1))) cfs_nil))
  have hq2 : CallQOk cx (aprint_pxi0i0 (HV [.str, .int .i64]) k) := callQT_ok rfl rfl cqfs_nil cwfs_nil
  have hp5 : PxOk cx (aprint_pxi0i1 (HV [.str, .int .i64]) k) := ⟨fun t => by rw [hP, hel]; exact tt_ok ttL_ok t, by rw [hgl]; rfl⟩
  have hc5 : CallOk cx (aprint_pxi0i1 (HV [.str, .int .i64]) k) := callT_ok rfl (cfs_cons (cf_ln (by rw [hP, hel, hgl]; exact wwords_ok) (by kernel_rfl)) (cfs_cons (cf_ln (by rw [hP, hel, hgl]; exact wexpr_ok) (by kernel_rfl)) cfs_nil))
  have hq5 : CallQOk cx (aprint_pxi0i1 (HV [.str, .int .i64]) k) := callQT_ok rfl rfl cqfs_nil cwfs_nil
  have hp1 : PxOk cx (aprint_pxi0 (HV [.str, .int .i64]) k) := ⟨fun t => by rw [hP, hel]; exact tt_ok ttL_ok t, by rw [hgl]; rfl⟩
  have hc1 : CallOk cx (aprint_pxi0 (HV [.str, .int .i64]) k) := callT_ok rfl (cfs_cons (cf_ln (by rw [hP, hel, hgl]; exact wwords_ok) (by kernel_rfl)) (cfs_cons (cf_run hp2 hc2 hq2 (by rw [hP]; exact follows) (by rw [hP]; exact Tryz.func52) rfl (by kernel_rfl) (by kernel_rfl) (n := 0) (by kernel_rfl) (all0)) (cfs_cons (cf_run hp5 hc5 hq5 (by rw [hP]; exact follows) (by rw [hP]; exact Tryz.func54) rfl (by kernel_rfl) (by kernel_rfl) (n := 0) (by kernel_rfl) (all0)) cfs_nil)))
  have hq1 : CallQOk cx (aprint_pxi0 (HV [.str, .int .i64]) k) := callQT_ok rfl rfl cqfs_nil cwfs_nil
  have hlaprint_0 : LoopOk cx (aprint_pxi0 (HV [.str, .int .i64]) k) (lp Tryz.f51 0) := loop_of (fun _ _ => by kernel_rfl) (loopW_try (loopW_or hp1 hc1 hq1 (by rw [hP]; exact follows) (k := k) (s := aprint_0_sg) (step := aprint_0 k) (by kernel_rfl) (aprint_0_eq _ k) (loops_in (n := 0) (by kernel_rfl) all0)) (loopW_or hp1 hc1 hq1 (by rw [hP]; exact follows) (k := k) (s := aprint_2_sg) (step := aprint_2) (by kernel_rfl) (aprint_2_eq _ k) (loops_in (n := 0) (by kernel_rfl) all0)))
  have hp0 : PxOk cx (aprint_px (HV [.str, .int .i64]) k) := ⟨fun t => by rw [hP, hel]; exact tt_ok ttL_ok t, by rw [hgl]; rfl⟩
  have hc0 : CallOk cx (aprint_px (HV [.str, .int .i64]) k) := callT_ok rfl (cfs_cons (cf_or (by rw [hP, hel, hgl]; exact acheck_ok) (by kernel_rfl)) (cfs_cons (cf_ln (by rw [hP, hel, hgl]; exact wtable_ok) (by kernel_rfl)) (cfs_cons (cf_ln (by rw [hP, hel, hgl]; exact wwords_ok) (by kernel_rfl)) (cfs_cons (cf_ln (by rw [hP, hel, hgl]; exact wnames_ok) (by kernel_rfl)) (cfs_cons (cf_ln (by rw [hP, hel, hgl]; exact wwhere_ok) (by kernel_rfl)) (cfs_cons (cf_ln (by rw [hP, hel, hgl]; exact wchosen_ok) (by kernel_rfl)) (cfs_cons (cf_ln (by rw [hP, hel, hgl]; exact bstr_ok) (by kernel_rfl)) (cfs_cons (cf_run hp1 hc1 hq1 (by rw [hP]; exact follows) (by rw [hP]; exact Tryz.func51) rfl (by kernel_rfl) (by kernel_rfl) (n := 1) (by kernel_rfl) ((allS all0 hlaprint_0))) cfs_nil))))))))
  have hq0 : CallQOk cx (aprint_px (HV [.str, .int .i64]) k) := callQT_ok rfl rfl cqfs_nil cwfs_nil
  exact ⟨hp0, hc0, hq0, all0⟩
def aprint (s : Stm) : Option (Str × Int) := (acheck s).bind fun x => cond (!decide (x = 0)) (some ([], x)) (cond (okP s) ((app [] (printT s)).bind fun t => some (t, 0)) none)
def aprint_F : FT [.sv .stmt] [.str, .int .i64] := fun x => aprint x
theorem aprint_1_loop {R : Type} {kx : Ex → aprint_1_V → Option R} {s : Stm} {j : Nat} {c : Str → Option R} (hj : j < s.rows.length) (hn : ln s.rows[j].length) (hok : s.rows[j].all okx = true) (h2 : ∀ acc, kx (.exit 0) ((s.rows[j].length : Int), (s.rows[j].length : Int), s, acc, (j : Int)) = c acc) (k : Nat) (hk : s.rows[j].length < k) (out : Str) (ho : out.length ≤ 100000000000) :
    iter (fun rec => aprint_1 rec kx) k ((s.rows[j].length : Int), 0, s, out, (j : Int)) = (app out (listT etx s.rows[j])).bind c := by
  have hl := List.all_eq_true.1 hok
  refine list_loop s.rows[j] etx (fun i acc => ((s.rows[j].length : Int), (i : Int), s, acc, (j : Int))) c (fun i hi acc rec => ?_) (fun acc rec => ?_) k hk out ho
  · simp only [aprint_1, lt_t hi, cond_t, inb_t hi, inb_t hj, chk, at_nat (c := .exprs) hj, at_nat (c := .expr) hi, we (hl _ (List.getElem_mem hi)), wr_succ hi hn, ww, fl1]
    exact sep_step i acc _ _
  · simp only [aprint_1, lt_n, cond_f, h2]
theorem aprint_0_loop {R : Type} {kx : Ex → aprint_0_V → Option R} {s : Stm} {c : Str → Option R} (hb : BdStm s) (hok : (s.rows.all fun r => r.all okx) = true) (h2 : ∀ acc, kx (.exit 0) ((s.rows.length : Int), (s.rows.length : Int), s, acc) = c acc) (k : Nat) (hk : fuelS s ≤ k) (out : Str) (ho : out.length ≤ 100000000000) :
    iter (fun rec => aprint_0 k rec kx) k ((s.rows.length : Int), 0, s, out) = (app out (listT rowT s.rows)).bind c := by
  have hl := List.all_eq_true.1 hok
  simp only [fuelS] at hk
  refine list_loop s.rows rowT (fun i acc => ((s.rows.length : Int), (i : Int), s, acc)) c (fun i hi acc rec => ?_) (fun acc rec => ?_) k (by omega) out ho
  · have hm := sum_mem (List.getElem_mem hi)
    have hrow : ∀ q : Str, ((app q [40]).bind fun x8 => iter (fun rc => aprint_1 rc (fun e v => match v with
        | (_, _, v6, v7, _) => match e with
          | .exit 0 => (app v7 [41]).bind fun x11 => rec ((s.rows.length : Int), ((i + 1 : Nat) : Int), v6, x11)
          | _ => none)) k ((s.rows[i].length : Int), 0, s, x8, (i : Int))) = (app q (rowT s.rows[i])).bind fun x => rec ((s.rows.length : Int), ((i + 1 : Nat) : Int), s, x) := fun q => by
      refine (app_congr fun x hx => aprint_1_loop (c := fun acc => (app acc [41]).bind fun x11 => rec ((s.rows.length : Int), ((i + 1 : Nat) : Int), s, x11)) hi (hb.rows.2 _ (List.getElem_mem hi)).1 (hl _ (List.getElem_mem hi)) (fun _ => rfl) k (by omega) x hx).trans ?_
      simp only [app_cont, rowT]
    simp only [aprint_0, lt_t hi, cond_t, inb_t hi, chk, at_nat (c := .exprs) hi, wr_succ hi hb.rows.1, ww, fl1]
    refine Eq.trans ?_ (sep_step i acc _ _)
    have e : ∀ (b : Bool) (x y x' y' : Option R), x = x' → y = y' → cond b x y = cond b x' y' := fun _ _ _ _ _ h1 h2 => by rw [h1, h2]
    exact e _ _ _ _ _ (app_congr fun x _ => hrow x) (hrow acc)
  · simp only [aprint_0, lt_n, cond_f, h2]
theorem aprint_2_loop {R : Type} {kx : Ex → aprint_2_V → Option R} {s : Stm} {c : Str → Option R} (hb : BdStm s) (hok : (s.sets.all fun x => okx x.e) = true) (h2 : ∀ acc, kx (.exit 0) ((s.sets.length : Int), (s.sets.length : Int), s, acc) = c acc) (k : Nat) (hk : s.sets.length < k) (out : Str) (ho : out.length ≤ 100000000000) :
    iter (fun rec => aprint_2 rec kx) k ((s.sets.length : Int), 0, s, out) = (app out (listT setT s.sets)).bind c := by
  have hl := List.all_eq_true.1 hok
  refine list_loop s.sets setT (fun i acc => ((s.sets.length : Int), (i : Int), s, acc)) c (fun i hi acc rec => ?_) (fun acc rec => ?_) k hk out ho
  · simp only [aprint_2, lt_t hi, cond_t, inb_t hi, chk, at_nat (c := .set) hi, xeta_eq, we (hl _ (List.getElem_mem hi)), wr_succ hi hb.sets.1, ww, fl1, fl2]
    have hitem : ∀ q : Str, ((app q (s.sets[i].name ++ [32, 61, 32])).bind fun x14 => (app x14 (etx s.sets[i].e)).bind fun x15 => rec ((s.sets.length : Int), ((i + 1 : Nat) : Int), s, x15)) = (app q (setT s.sets[i])).bind fun x => rec ((s.sets.length : Int), ((i + 1 : Nat) : Int), s, x) := fun q => by
      rw [app_cont]
      rfl
    simp only [hitem]
    exact sep_step i acc _ _
  · simp only [aprint_2, lt_n, cond_f, h2]
theorem bs (x : Str) : ((bstr_F x).bind fun t => some (t, (0 : Int))) = some (x, 0) := rfl
theorem aprint_b (k : Nat) (s : Stm) (hb : BdStm s) (hk : fuelS s ≤ k) (h : okP s = true) (hc : acheck s = some 0) : aprint_body k s = ((app [] (printT s)).bind fun t => some (t, 0)) := by
  have hk2 := hk
  simp only [fuelS] at hk2
  simp only [aprint_body, hc, Option.bind_some, bs, ww, fl2, fl3, fl5]
  simp only [okP] at h
  simp only [printT]
  rw [decide_true, Bool.not_true, cond_f]
  by_cases h1 : s.kind = 1
  · rw [if_pos h1] at h
    rw [decide_eq_true h1, if_pos h1, cond_t, wt h]
  rw [if_neg h1] at h
  rw [decide_eq_false h1, if_neg h1, cond_f]
  by_cases h2 : s.kind = 2
  · rw [decide_eq_true h2, if_pos h2, cond_t]
  rw [decide_eq_false h2, if_neg h2, cond_f]
  by_cases h3 : s.kind = 3
  · rw [if_neg (by omega), if_pos h3] at h
    rw [decide_eq_true h3, if_pos h3, cond_t]
    simp only [wn h, app_cont]
  rw [decide_eq_false h3, if_neg h3, cond_f]
  by_cases h4 : s.kind = 4
  · rw [decide_eq_true h4, if_pos h4, cond_t]
  rw [if_neg (by omega), if_neg h3] at h
  rw [decide_eq_false h4, if_neg h4, cond_f]
  by_cases h5 : s.kind = 5
  · rw [if_pos h5] at h
    rw [decide_eq_true h5, if_pos h5, cond_t]
    refine (app_congr fun x hx => aprint_0_loop (c := fun t => some (t, (0 : Int))) hb h (fun _ => rfl) k hk x hx).trans ?_
    rw [app_cont]
  rw [if_neg h5] at h
  rw [decide_eq_false h5, if_neg h5, cond_f]
  by_cases h6 : s.kind = 6
  · rw [if_pos h6, Bool.and_eq_true] at h
    rw [decide_eq_true h6, if_pos h6, cond_t]
    refine (app_congr fun x hx => aprint_2_loop (c := fun t => (app t (whT s)).bind fun t => some (t, (0 : Int))) hb h.1 (fun acc => ?_) k (by omega) x hx).trans ?_
    · show ((wwhere_F (s, acc)).bind fun x16 => some (x16, (0 : Int))) = _
      rw [wh h.2]
    · simp only [app_cont, List.append_assoc]
  rw [if_neg h6] at h
  rw [decide_eq_false h6, if_neg h6, cond_f]
  by_cases h7 : s.kind = 7
  · rw [if_pos h7] at h
    rw [decide_eq_true h7, if_pos h7, cond_t]
    simp only [wh h, app_cont]
  rw [if_neg h7, Bool.and_eq_true, decide_eq_true_eq] at h
  rw [decide_eq_false h7, if_neg h7, cond_f, decide_eq_true h.1, cond_t, ws h.2]
theorem aprint_ok : FnOk Tryz.prog elT glT 23 [.sv .stmt] [.str, .int .i64] aprint_F := .fin 0 aprint_run fun s r hb hx => ⟨fuelS s, by
  have hx : aprint s = some r := hx
  simp only [aprint] at hx
  cases hc : acheck s with
  | none => rw [hc] at hx; cases hx
  | some x =>
    rw [hc, Option.bind_some] at hx
    by_cases h0 : x = 0
    · subst h0
      cases ho : okP s with
      | false => rw [ho] at hx; cases hx
      | true =>
        rw [ho] at hx
        exact (aprint_b (fuelS s) s hb (Nat.le_refl _) ho hc).trans hx
    · rw [decide_eq_false h0] at hx
      rw [← hx]
      simp only [aprint_body, hc, Option.bind_some]
      rw [decide_eq_false h0]
      rfl⟩
end Go.Proofs.YthndhaolemgbdaaGreatDoor

/- The program's reader of statements: statements, expressions, and round. -/
namespace Go.Proofs.YthndhaolemgbdaaGreatDoor
open Go.Ax
/-! ## exchequer/parse.Stmt -/
def xstmt_pxi0 (R : Type) : Px R := ⟨ttOf ttL, glT, callT [(116, callOr [.str] [.sl .tok true, .int .i64, .int .i64] lall_F)], callQT [], loopT [], tbl []⟩
noncomputable def xstmt_px (R : Type) : Px R := ⟨ttOf ttL, glT, callT [(85, callLn pstmt_si pstmt_so pstmt_F), (86, callLn pdone_si pdone_so pdone_F), (25, callOr [.sv .stmt] [.int .i64] acheck_F), (84, callRun 40 200 (xstmt_pxi0 R) Tryz.f84)], callQT [], loopT [], tbl []⟩
def xstmt_body (x : HV [.str]) : Option (HV [.sv .stmt, .int .i64, .int .i64]) := match x with
 | s =>
  cond (!decide ((lall s).2.2 = 0)) (
   some ((Stm.mk 0 [] [] [] [] [] [] [] false (Xpr.mk 0 ⟨0, 0, []⟩ [] []) [] [] 0), (lall s).2.1, (lall s).2.2)) (
   (pstmt_F ((lall s).1, (s.length : Int), false, 0)).bind fun (x, x1, x2, x3, x4) =>
    (pdone_F (x1, x2, x3, x4)).bind fun (x5, _, _, _, x9) =>
     cond (!x5) (
      some ((Stm.mk 0 [] [] [] [] [] [] [] false (Xpr.mk 0 ⟨0, 0, []⟩ [] []) [] [] 0), x9, 11)) (
      (acheck x).bind fun x10 =>
       cond (!decide (x10 = 0)) (
        some ((Stm.mk 0 [] [] [] [] [] [] [] false (Xpr.mk 0 ⟨0, 0, []⟩ [] []) [] [] 0), 0, x10)) (
        some (x, 0, 0))))
theorem xstmt_eq : ∀ (x : HV [.str]), runF (xstmt_px _) Tryz.f30 [.str] [.sv .stmt, .int .i64, .int .i64] x some = xstmt_body x
  | s => by kernel_rfl
theorem xstmt_run : FnOk Tryz.prog elT glT 30 [.str] [.sv .stmt, .int .i64, .int .i64] (xstmt_body) := by
  refine fnOk_run Tryz.func30 rfl (by kernel_rfl) follows (by kernel_rfl) (n := 0) (by kernel_rfl) (px := xstmt_px _) (fun cx hP hel hgl => ?_) (xstmt_eq)
  have hp1 : PxOk cx (xstmt_pxi0 (HV [.sv .stmt, .int .i64, .int .i64])) := ⟨fun t => by rw [hP, hel]; exact tt_ok ttL_ok t, by rw [hgl]; rfl⟩
  have hc1 : CallOk cx (xstmt_pxi0 (HV [.sv .stmt, .int .i64, .int .i64])) := callT_ok rfl (cfs_cons (cf_or (by rw [hP, hel, hgl]; exact lall_ok) (by kernel_rfl)) cfs_nil)
  have hq1 : CallQOk cx (xstmt_pxi0 (HV [.sv .stmt, .int .i64, .int .i64])) := callQT_ok rfl rfl cqfs_nil cwfs_nil
  have hp0 : PxOk cx (xstmt_px (HV [.sv .stmt, .int .i64, .int .i64])) := ⟨fun t => by rw [hP, hel]; exact tt_ok ttL_ok t, by rw [hgl]; rfl⟩
  have hc0 : CallOk cx (xstmt_px (HV [.sv .stmt, .int .i64, .int .i64])) := callT_ok rfl (cfs_cons (cf_ln (by rw [hP, hel, hgl]; exact pstmt_ok) (by kernel_rfl)) (cfs_cons (cf_ln (by rw [hP, hel, hgl]; exact pdone_ok) (by kernel_rfl)) (cfs_cons (cf_or (by rw [hP, hel, hgl]; exact acheck_ok) (by kernel_rfl)) (cfs_cons (cf_run hp1 hc1 hq1 (by rw [hP]; exact follows) (by rw [hP]; exact Tryz.func84) rfl (by kernel_rfl) (by kernel_rfl) (n := 0) (by kernel_rfl) (all0)) cfs_nil))))
  have hq0 : CallQOk cx (xstmt_px (HV [.sv .stmt, .int .i64, .int .i64])) := callQT_ok rfl rfl cqfs_nil cwfs_nil
  exact ⟨hp0, hc0, hq0, all0⟩
def xstmt (s : Str) : Option (Stm × Int × Int) := xstmt_body s
def xstmt_F : FT [.str] [.sv .stmt, .int .i64, .int .i64] := fun x => xstmt x
theorem xstmt_ok : FnOk Tryz.prog elT glT 30 [.str] [.sv .stmt, .int .i64, .int .i64] xstmt_F := .fin0 xstmt_run fun _ _ _ hx => hx
/-! ## exchequer/parse.Expr -/
def xexpr_pxi0 (R : Type) : Px R := ⟨ttOf ttL, glT, callT [(116, callOr [.str] [.sl .tok true, .int .i64, .int .i64] lall_F)], callQT [], loopT [], tbl []⟩
noncomputable def xexpr_px (R : Type) : Px R := ⟨ttOf ttL, glT, callT [(90, callLn por_si por_so por_F), (86, callLn pdone_si pdone_so pdone_F), (18, callOr [.sv .expr] [.int .i64] aexpr_F), (84, callRun 40 200 (xexpr_pxi0 R) Tryz.f84)], callQT [], loopT [], tbl []⟩
def xexpr_body (x : HV [.str]) : Option (HV [.sv .expr, .int .i64, .int .i64]) := match x with
 | s =>
  cond (!decide ((lall s).2.2 = 0)) (
   some ((Xpr.mk 0 ⟨0, 0, []⟩ [] []), (lall s).2.1, (lall s).2.2)) (
   (por_F ((lall s).1, (s.length : Int), false, 0)).bind fun (x, x1, x2, x3, x4) =>
    (pdone_F (x1, x2, x3, x4)).bind fun (x5, _, _, _, x9) =>
     cond (!x5) (
      some ((Xpr.mk 0 ⟨0, 0, []⟩ [] []), x9, 11)) (
      cond (!decide ((aexpr x) = 0)) (
       some ((Xpr.mk 0 ⟨0, 0, []⟩ [] []), 0, (aexpr x))) (
       some (x, 0, 0))))
theorem xexpr_eq : ∀ (x : HV [.str]), runF (xexpr_px _) Tryz.f32 [.str] [.sv .expr, .int .i64, .int .i64] x some = xexpr_body x
  | s => by kernel_rfl
theorem xexpr_run : FnOk Tryz.prog elT glT 32 [.str] [.sv .expr, .int .i64, .int .i64] (xexpr_body) := by
  refine fnOk_run Tryz.func32 rfl (by kernel_rfl) follows (by kernel_rfl) (n := 0) (by kernel_rfl) (px := xexpr_px _) (fun cx hP hel hgl => ?_) (xexpr_eq)
  have hp1 : PxOk cx (xexpr_pxi0 (HV [.sv .expr, .int .i64, .int .i64])) := ⟨fun t => by rw [hP, hel]; exact tt_ok ttL_ok t, by rw [hgl]; rfl⟩
  have hc1 : CallOk cx (xexpr_pxi0 (HV [.sv .expr, .int .i64, .int .i64])) := callT_ok rfl (cfs_cons (cf_or (by rw [hP, hel, hgl]; exact lall_ok) (by kernel_rfl)) cfs_nil)
  have hq1 : CallQOk cx (xexpr_pxi0 (HV [.sv .expr, .int .i64, .int .i64])) := callQT_ok rfl rfl cqfs_nil cwfs_nil
  have hp0 : PxOk cx (xexpr_px (HV [.sv .expr, .int .i64, .int .i64])) := ⟨fun t => by rw [hP, hel]; exact tt_ok ttL_ok t, by rw [hgl]; rfl⟩
  have hc0 : CallOk cx (xexpr_px (HV [.sv .expr, .int .i64, .int .i64])) := callT_ok rfl (cfs_cons (cf_ln (by rw [hP, hel, hgl]; exact por_ok) (by kernel_rfl)) (cfs_cons (cf_ln (by rw [hP, hel, hgl]; exact pdone_ok) (by kernel_rfl)) (cfs_cons (cf_or (by rw [hP, hel, hgl]; exact aexpr_ok) (by kernel_rfl)) (cfs_cons (cf_run hp1 hc1 hq1 (by rw [hP]; exact follows) (by rw [hP]; exact Tryz.func84) rfl (by kernel_rfl) (by kernel_rfl) (n := 0) (by kernel_rfl) (all0)) cfs_nil))))
  have hq0 : CallQOk cx (xexpr_px (HV [.sv .expr, .int .i64, .int .i64])) := callQT_ok rfl rfl cqfs_nil cwfs_nil
  exact ⟨hp0, hc0, hq0, all0⟩
def xexpr (s : Str) : Option (Xpr × Int × Int) := xexpr_body s
def xexpr_F : FT [.str] [.sv .expr, .int .i64, .int .i64] := fun x => xexpr x
theorem xexpr_ok : FnOk Tryz.prog elT glT 32 [.str] [.sv .expr, .int .i64, .int .i64] xexpr_F := .fin0 xexpr_run fun _ _ _ hx => hx
/-! ## exchequer/parse.Round -/
def xround_px (R : Type) : Px R := ⟨ttOf ttL, glT, callT [(30, callOr [.str] [.sv .stmt, .int .i64, .int .i64] xstmt_F), (23, callOr [.sv .stmt] [.str, .int .i64] aprint_F)], callQT [], loopT [], tbl []⟩
def xround_body (x : HV [.str]) : Option (HV [.str, .int .i64, .int .i64]) := match x with
 | s =>
  (xstmt s).bind fun (x, x1, x2) =>
   cond (!decide (x2 = 0)) (
    some ([], x1, x2)) (
    (aprint x).bind fun (x3, x4) =>
     some (x3, 0, x4))
theorem xround_eq : ∀ (x : HV [.str]), runF (xround_px _) Tryz.f34 [.str] [.str, .int .i64, .int .i64] x some = xround_body x
  | s => by kernel_rfl
theorem xround_run : FnOk Tryz.prog elT glT 34 [.str] [.str, .int .i64, .int .i64] (xround_body) := by
  refine fnOk_run Tryz.func34 rfl (by kernel_rfl) follows (by kernel_rfl) (n := 0) (by kernel_rfl) (px := xround_px _) (fun cx hP hel hgl => ?_) (xround_eq)
  have hp0 : PxOk cx (xround_px (HV [.str, .int .i64, .int .i64])) := ⟨fun t => by rw [hP, hel]; exact tt_ok ttL_ok t, by rw [hgl]; rfl⟩
  have hc0 : CallOk cx (xround_px (HV [.str, .int .i64, .int .i64])) := callT_ok rfl (cfs_cons (cf_or (by rw [hP, hel, hgl]; exact xstmt_ok) (by kernel_rfl)) (cfs_cons (cf_or (by rw [hP, hel, hgl]; exact aprint_ok) (by kernel_rfl)) cfs_nil))
  have hq0 : CallQOk cx (xround_px (HV [.str, .int .i64, .int .i64])) := callQT_ok rfl rfl cqfs_nil cwfs_nil
  exact ⟨hp0, hc0, hq0, all0⟩
def xround (s : Str) : Option (Str × Int × Int) := xround_body s
def xround_F : FT [.str] [.str, .int .i64, .int .i64] := fun x => xround x
theorem xround_ok : FnOk Tryz.prog elT glT 34 [.str] [.str, .int .i64, .int .i64] xround_F := .fin0 xround_run fun _ _ _ hx => hx
/-! ## exchequer/exchequerlaw14.known -/
def known14_px (R : Type) : Px R := ⟨ttOf ttL, glT, callT [(34, callOr [.str] [.str, .int .i64, .int .i64] xround_F), (30, callOr [.str] [.sv .stmt, .int .i64, .int .i64] xstmt_F), (32, callOr [.str] [.sv .expr, .int .i64, .int .i64] xexpr_F), (14, callOr [.sv .expr] [.str, .int .i64] atext_F)], callQT [], loopT [], tbl []⟩
def known14_body (x : HV []) : Option (HV [.bool]) := match x with
 | () =>
  (xround [83, 69, 76, 69, 67, 84, 32, 97, 43, 98, 42, 50, 32, 70, 82, 79, 77, 32, 116, 32, 87, 72, 69, 82, 69, 32, 78, 79, 84, 32, 97, 61, 49, 32, 79, 82, 32, 98, 32, 73, 83, 32, 78, 79, 84, 32, 78, 85, 76, 76]).bind fun (x, x1, x2) =>
   (xstmt [83, 69, 76, 69, 67, 84, 32, 97, 32, 70, 82, 79, 77]).bind fun (_, x4, x5) =>
    (xexpr [97, 45, 98, 45, 49]).bind fun (x6, _, x8) =>
     (atext x6).bind fun (x9, _) =>
      let j3 := fun (p : Bool) =>
       let j2 := fun (p1 : Bool) =>
        let j1 := fun (p2 : Bool) =>
         let j := fun (p3 : Bool) =>
          cond (p3) (
           cond (decide (x8 = 0)) (
            some (decide (x9 = [40, 40, 97, 32, 45, 32, 98, 41, 32, 45, 32, 49, 41]))) (
            some false)) (
           some false)
         cond (p2) (
          j (decide (x5 = 11))) (
          j false)
        cond (p1) (
         j1 (decide (x4 = 13))) (
         j1 false)
       cond (p) (
        j2 (decide (x2 = 0))) (
        j2 false)
      cond (decide (x = [83, 69, 76, 69, 67, 84, 32, 40, 97, 32, 43, 32, 40, 98, 32, 42, 32, 50, 41, 41, 32, 70, 82, 79, 77, 32, 116, 32, 87, 72, 69, 82, 69, 32, 40, 40, 78, 79, 84, 32, 40, 97, 32, 61, 32, 49, 41, 41, 32, 79, 82, 32, 40, 78, 79, 84, 32, 40, 98, 32, 73, 83, 32, 78, 85, 76, 76, 41, 41, 41])) (
       j3 (decide (x1 = 0))) (
       j3 false)
theorem known14_eq : ∀ (x : HV []), runF (known14_px _) Tryz.f29 [] [.bool] x some = known14_body x
  | () => by kernel_rfl
theorem known14_run : FnOk Tryz.prog elT glT 29 [] [.bool] (known14_body) := by
  refine fnOk_run Tryz.func29 rfl (by kernel_rfl) follows (by kernel_rfl) (n := 0) (by kernel_rfl) (px := known14_px _) (fun cx hP hel hgl => ?_) (known14_eq)
  have hp0 : PxOk cx (known14_px (HV [.bool])) := ⟨fun t => by rw [hP, hel]; exact tt_ok ttL_ok t, by rw [hgl]; rfl⟩
  have hc0 : CallOk cx (known14_px (HV [.bool])) := callT_ok rfl (cfs_cons (cf_or (by rw [hP, hel, hgl]; exact xround_ok) (by kernel_rfl)) (cfs_cons (cf_or (by rw [hP, hel, hgl]; exact xstmt_ok) (by kernel_rfl)) (cfs_cons (cf_or (by rw [hP, hel, hgl]; exact xexpr_ok) (by kernel_rfl)) (cfs_cons (cf_or (by rw [hP, hel, hgl]; exact atext_ok) (by kernel_rfl)) cfs_nil))))
  have hq0 : CallQOk cx (known14_px (HV [.bool])) := callQT_ok rfl rfl cqfs_nil cwfs_nil
  exact ⟨hp0, hc0, hq0, all0⟩
def known14 : Option Bool := known14_body ()
def known14_F : FT [] [.bool] := fun _ => known14
theorem known14_ok : FnOk Tryz.prog elT glT 29 [] [.bool] known14_F := .fin0 known14_run fun _ _ _ hx => hx
end Go.Proofs.YthndhaolemgbdaaGreatDoor

/- The document's answer: may a value be. -/
namespace Go.Proofs.YthndhaolemgbdaaGreatDoor
open Go.Ax
/-! ## exchequer/exchequerref02.Check -/
end Go.Proofs.YthndhaolemgbdaaGreatDoor

/- The document's answer: names, signs. -/
namespace Go.Proofs.YthndhaolemgbdaaGreatDoor
open Go.Ax
/-! ## exchequer/exchequerref12.class -/
/-! ## exchequer/exchequerref12.Name -/
/-! ## exchequer/exchequerref13.Sign -/
def rsign_px (R : Type) : Px R := ⟨ttOf ttL, glT, callT [], callQT [], loopT [], tbl []⟩
def rsign_body (x : HV [.int .i64]) : Option (HV [.str]) := match x with
 | kind =>
  cond (decide (kind < 0)) (
   some []) (
   cond (decide (15 ≤ kind)) (
    some []) (
    chk (inb kind 15) (
     some (at' .str [[], [], [], [], [65, 78, 68], [79, 82], [61], [60, 62], [60], [60, 61], [62], [62, 61], [43], [45], [42]] kind))))
theorem rsign_eq : ∀ (x : HV [.int .i64]), runF (rsign_px _) Tryz.f36 [.int .i64] [.str] x some = rsign_body x
  | kind => by kernel_rfl
theorem rsign_run : FnOk Tryz.prog elT glT 36 [.int .i64] [.str] (rsign_body) := by
  refine fnOk_run Tryz.func36 rfl (by kernel_rfl) follows (by kernel_rfl) (n := 0) (by kernel_rfl) (px := rsign_px _) (fun cx hP hel hgl => ?_) (rsign_eq)
  have hp0 : PxOk cx (rsign_px (HV [.str])) := ⟨fun t => by rw [hP, hel]; exact tt_ok ttL_ok t, by rw [hgl]; rfl⟩
  have hc0 : CallOk cx (rsign_px (HV [.str])) := callT_ok rfl cfs_nil
  have hq0 : CallQOk cx (rsign_px (HV [.str])) := callQT_ok rfl rfl cqfs_nil cwfs_nil
  exact ⟨hp0, hc0, hq0, all0⟩
def rsigns : List Str := [[], [], [], [], [65, 78, 68], [79, 82], [61], [60, 62], [60], [60, 61], [62], [62, 61], [43], [45], [42]]
def rsign (k : Int) : Str := if k < 0 ∨ 15 ≤ k then [] else at' .str rsigns k
def rsign_F : FT [.int .i64] [.str] := fun x => some (rsign x)
theorem rsign_ok : FnOk Tryz.prog elT glT 36 [.int .i64] [.str] rsign_F := .fin0 rsign_run fun (k : Int) r _ hx => by
  simp only [rsign_F, Option.some.injEq] at hx
  subst hx
  simp only [rsign_body, rsign]
  by_cases h1 : k < 0
  · rw [decide_eq_true h1, if_pos (.inl h1)]; rfl
  · by_cases h2 : 15 ≤ k
    · rw [decide_eq_false h1, decide_eq_true h2, if_pos (.inr h2)]; rfl
    · rw [decide_eq_false h1, decide_eq_false h2, if_neg (by omega)]
      obtain ⟨j, rfl⟩ : ∃ j : Nat, k = (j : Int) := ⟨k.toNat, by omega⟩
      rw [inb_t (i := j) (n := 15) (by omega)]
      rfl
end Go.Proofs.YthndhaolemgbdaaGreatDoor
