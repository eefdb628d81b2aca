/- Texts of the proof, one behind the other: Ad, Pg, Ph, Pj, Bw, Shj, Sj, Wr. -/
import Derived.Test.YthndhaolemgbdaaGreatDoorP4
import Derived.Lib.Walk
import Derived.Lib.Strings
import Derived.Lib.Slices
import Derived.Lib.Builder
import Derived.Lib.UnsafeStr
import Derived.Lib.FrozenHead
import Derived.Laws.Externs
import Derived.Shelf.RegionOpenPlain
import Derived.Shelf.Strings.OnBuilder
/- May a statement be? -/
namespace Go.Proofs.YthndhaolemgbdaaGreatDoor
open Go.Ax
instance : DecidableEq Stm := fun a b => decidable_of_iff (ssame a b = true) (ssame_iff a b)
theorem ssame_dec (a b : Stm) : ssame a b = decide (a = b) := by
  rw [Bool.eq_iff_iff, ssame_iff, decide_eq_true_eq]
/-! ## exchequer/ast.some -/
def asome_px (R : Type) : Px R := ⟨ttOf ttL, glT, callT [], callQT [], loopT [], tbl []⟩
def asome_body (x : HV [.int .i64]) : Option (HV [.bool]) := match x with
 | n =>
  cond (decide (1 ≤ n)) (
   some (decide (n ≤ 100))) (
   some false)
theorem asome_eq : ∀ (x : HV [.int .i64]), runF (asome_px _) Tryz.f66 [.int .i64] [.bool] x some = asome_body x
  | n => by kernel_rfl
theorem asome_run : FnOk Tryz.prog elT glT 66 [.int .i64] [.bool] (asome_body) := by
  refine fnOk_run Tryz.func66 rfl (by kernel_rfl) follows (by kernel_rfl) (n := 0) (by kernel_rfl) (px := asome_px _) (fun cx hP hel hgl => ?_) (asome_eq)
  have hp0 : PxOk cx (asome_px (HV [.bool])) := ⟨fun t => by rw [hP, hel]; exact tt_ok ttL_ok t, by rw [hgl]; rfl⟩
  have hc0 : CallOk cx (asome_px (HV [.bool])) := callT_ok rfl cfs_nil
  have hq0 : CallQOk cx (asome_px (HV [.bool])) := callQT_ok rfl rfl cqfs_nil cwfs_nil
  exact ⟨hp0, hc0, hq0, all0⟩
def asome (n : Int) : Bool :=
  cond (decide (1 ≤ n)) (
   (decide (n ≤ 100))) (
   false)
theorem asome_tot (x : HV [.int .i64]) : asome_body x = some (asome x) := by
  first
    | exact rfl
    | simp only [asome_body, asome, cond_some]
def asome_F : FT [.int .i64] [.bool] := fun x => some (asome x)
theorem asome_ok : FnOk Tryz.prog elT glT 66 [.int .i64] [.bool] asome_F := .fin0 asome_run fun x _ _ hx => (asome_tot x).trans hx
/-! ## names, none twice -/
/-! ## exchequer/ast.once -/
def aonce_0_sg : Sig := ⟨26, [(0, .sl .str false), (2, .bool), (5, .sl .str false), (6, .int .i64), (7, .int .i64)], [], [], 0, 0, 0, [], []⟩
abbrev aonce_0_V := List Str × Bool × List Str × Int × Int
def aonce_0 {R : Type} (rec : aonce_0_V → Option R) (kx : Ex → aonce_0_V → Option R) (v : aonce_0_V) : Option R := match v with
 | (v, v1, v2, v3, v4) =>
  cond (decide (v4 < v3)) (
   chk (inb v4 v2.length) (
    cond (!(lname (at' .str v2 v4))) (
     kx .ret (v, false, v2, v3, v4)) (
     chk (upto 0 v4 v.length) (
      cond ((shas (v.take (v4 : Int).toNat) (at' .str v2 v4))) (
       kx .ret (v, false, v2, v3, v4)) (
       rec (v, v1, v2, v3, (wr .i64 (v4 + 1)))))))) (
   kx (.exit 0) (v, v1, v2, v3, v4))
def aonce_px (R : Type) (k : Nat) : Px R := ⟨ttOf ttL, glT, callT [(63, callOr [.str] [.bool] lname_F), (44, callOr [.sl .str false, .str] [.bool] shas_F)], callQT [], loopT [(2, loopOr k aonce_0_sg (aonce_0))], tbl []⟩
theorem aonce_0_eq (R : Type) (k : Nat) : ∀ (fr : List Fr) (rec : aonce_0_V → Option R) (kx : Ex → aonce_0_V → Option R) (v : aonce_0_V), round (aonce_px R k) aonce_0_sg (lp Tryz.f67 0) fr rec kx v = aonce_0 rec kx v
  | fr, rec, kx, (v, v1, v2, v3, v4) => by kernel_rfl
def aonce_body (k : Nat) (x : HV [.sl .str false]) : Option (HV [.bool]) := match x with
 | l =>
  iter (fun rec => aonce_0 rec (fun e vz => match vz with | (v5, v6, _, _, _) => match e with
   | .ret =>
    some v6
   | .exit 0 =>
    some (decide ((v5.length : Int) ≤ 100))
   | _ => none)) k (l, false, l, (l.length : Int), 0)
theorem aonce_eq (k : Nat) : ∀ (x : HV [.sl .str false]), runF (aonce_px _ k) Tryz.f67 [.sl .str false] [.bool] x some = aonce_body k x
  | l => by kernel_rfl
theorem aonce_run (k : Nat) : FnOk Tryz.prog elT glT 67 [.sl .str false] [.bool] (aonce_body k) := by
  refine fnOk_run Tryz.func67 rfl (by kernel_rfl) follows (by kernel_rfl) (n := 1) (by kernel_rfl) (px := aonce_px _ k) (fun cx hP hel hgl => ?_) (aonce_eq k)
  have hp0 : PxOk cx (aonce_px (HV [.bool]) k) := ⟨fun t => by rw [hP, hel]; exact tt_ok ttL_ok t, by rw [hgl]; rfl⟩
  have hc0 : CallOk cx (aonce_px (HV [.bool]) k) := callT_ok rfl (cfs_cons (cf_or (by rw [hP, hel, hgl]; exact lname_ok) (by kernel_rfl)) (cfs_cons (cf_or (by rw [hP, hel, hgl]; exact shas_ok) (by kernel_rfl)) cfs_nil))
  have hq0 : CallQOk cx (aonce_px (HV [.bool]) k) := callQT_ok rfl rfl cqfs_nil cwfs_nil
  have hlaonce_0 : LoopOk cx (aonce_px (HV [.bool]) k) (lp Tryz.f67 0) := loop_ok hp0 hc0 hq0 (by rw [hP]; exact follows) (k := k) (s := aonce_0_sg) (step := aonce_0) (fun _ _ => by kernel_rfl) (by kernel_rfl) (aonce_0_eq _ k) (loops_in (n := 0) (by kernel_rfl) all0)
  exact ⟨hp0, hc0, hq0, (allS all0 hlaonce_0)⟩
def onceF : List Str → List Str → Bool
  | _, [] => true
  | seen, s :: r => lname s && !seen.contains s && onceF (seen ++ [s]) r
def aonce (l : List Str) : Bool := onceF [] l && decide (l.length ≤ 100)
def aonce_F : FT [.sl .str false] [.bool] := fun x => some (aonce x)
theorem take_succ' {l : List Str} {i : Nat} (hi : i < l.length) : l.take (i + 1) = l.take i ++ [l[i]] := by
  rw [List.take_add_one, List.getElem?_eq_getElem hi]
  rfl
theorem aonce_loop {R : Type} {kx : Ex → aonce_0_V → Option R} {l : List Str} {c : Bool → Option R} (hn : ln l.length) (h1 : ∀ i, kx .ret (l, false, l, (l.length : Int), i) = c false) (h2 : ∀ q i, kx (.exit 0) (l, q, l, (l.length : Int), i) = c true) (k : Nat) (hk : l.length < k) :
    iter (fun rec => aonce_0 rec kx) k (l, false, l, (l.length : Int), 0) = c (onceF [] l) := by
  refine (iter_ind0 l.length (fun i => (l, false, l, (l.length : Int), (i : Int))) (fun i => c (onceF (l.take i) (l.drop i))) (fun i hi rec hr => ?_) (fun rec => ?_) k 0 (Nat.zero_le _) (by omega)).trans (by rw [List.drop_zero, List.take_zero])
  · have hu : upto 0 (i : Int) l.length = true := by simp [upto]; omega
    simp only [aonce_0, lt_t hi, cond_t, inb_t hi, chk, at_nat (c := .str) hi, wr_succ hi hn, hr, h1, drop_cons hi, onceF, hu, Int.toNat_natCast, shas_is, take_succ' hi]
    cases lname l[i] <;> cases (l.take i).contains l[i] <;> rfl
  · simp only [aonce_0, lt_n, cond_f, h2]
    rw [List.drop_eq_nil_of_le (Nat.le_refl _)]
    rfl
theorem aonce_ok : FnOk Tryz.prog elT glT 67 [.sl .str false] [.bool] aonce_F := .fin 0 aonce_run fun l r hb hx => ⟨l.length + 1, by
  simp only [aonce_F, Option.some.injEq] at hx
  rw [← hx]
  simp only [aonce_body]
  refine (aonce_loop (l := l) (c := fun b => cond b (some (decide ((l.length : Int) ≤ 100))) (some false)) hb.1 (fun _ => rfl) (fun _ _ => rfl) (l.length + 1) (by omega)).trans ?_
  rw [show decide ((l.length : Int) ≤ 100) = decide (l.length ≤ 100) from decide_eq_decide.2 (by omega), aonce]
  cases onceF [] l <;> rfl⟩
/-! ## expressions, rows -/
/-! ## exchequer/ast.exprs -/
def aexprs_0_sg : Sig := ⟨19, [(0, .sl .expr false), (4, .int .i64), (7, .int .i64), (8, .int .i64)], [(1, .fn 112 [])], [], 80, 80, 400, [], []⟩
abbrev aexprs_0_V := List Xpr × Int × Int × Int
def aexprs_0 {R : Type} (rec : aexprs_0_V → Option R) (kx : Ex → aexprs_0_V → Option R) (v : aexprs_0_V) : Option R := match v with
 | (v, v1, v2, v3) =>
  cond (decide (v3 < v2)) (
   chk (inb v3 v.length) (
    cond (!(eright (at' .expr v v3) 30)) (
     kx .ret (v, v3, v2, v3)) (
     rec (v, v1, v2, (wr .i64 (v3 + 1)))))) (
   kx (.exit 0) (v, v1, v2, v3))
def aexprs_pxi0i0i0 (R : Type) (_k : Nat) : Px R := ⟨ttOf ttL, glT, callT [(39, callOr [.sv .expr, .int .i64] [.bool] eright_F)], callQT [], loopT [], tbl []⟩
noncomputable def aexprs_pxi0i0 (R : Type) (k : Nat) : Px R := ⟨ttOf ttL, glT, callT [(112, callRun 120 600 (aexprs_pxi0i0i0 R k) Tryz.f112)], callQT [], loopT [(2, loopOr k aexprs_0_sg (aexprs_0))], tbl []⟩
noncomputable def aexprs_pxi0 (R : Type) (k : Nat) : Px R := ⟨ttOf ttL, glT, callT [(148, callRun 80 400 (aexprs_pxi0i0 R k) Tryz.f148)], callQT [], loopT [], tbl []⟩
noncomputable def aexprs_px (R : Type) (k : Nat) : Px R := ⟨ttOf ttL, glT, callT [(96, callRun 40 200 (aexprs_pxi0 R k) Tryz.f96)], callQT [], loopT [], tbl []⟩
theorem aexprs_0_eq (R : Type) (k : Nat) : ∀ (fr : List Fr) (rec : aexprs_0_V → Option R) (kx : Ex → aexprs_0_V → Option R) (v : aexprs_0_V), round (aexprs_pxi0i0 R k) aexprs_0_sg (lp Tryz.f148 0) fr rec kx v = aexprs_0 rec kx v
  | fr, rec, kx, (v, v1, v2, v3) => by kernel_rfl
def aexprs_body (k : Nat) (x : HV [.sl .expr false]) : Option (HV [.bool]) := match x with
 | l =>
  cond (decide ((l.length : Int) ≤ 100)) (
   iter (fun rec => aexprs_0 rec (fun e vz => match vz with | (_, v5, _, _) => match e with
    | .ret =>
     some (!(decide (0 ≤ v5)))
    | .exit 0 =>
     some true
    | _ => none)) k (l, 0, (l.length : Int), 0)) (
   some false)
theorem aexprs_eq (k : Nat) : ∀ (x : HV [.sl .expr false]), runF (aexprs_px _ k) Tryz.f68 [.sl .expr false] [.bool] x some = aexprs_body k x
  | l => by kernel_rfl
theorem aexprs_run (k : Nat) : FnOk Tryz.prog elT glT 68 [.sl .expr false] [.bool] (aexprs_body k) := by
  refine fnOk_run Tryz.func68 rfl (by kernel_rfl) follows (by kernel_rfl) (n := 0) (by kernel_rfl) (px := aexprs_px _ k) (fun cx hP hel hgl => ?_) (aexprs_eq k)
  have hp3 : PxOk cx (aexprs_pxi0i0i0 (HV [.bool]) k) := ⟨fun t => by rw [hP, hel]; exact tt_ok ttL_ok t, by rw [hgl]; rfl⟩
  have hc3 : CallOk cx (aexprs_pxi0i0i0 (HV [.bool]) k) := callT_ok rfl (cfs_cons (cf_or (by rw [hP, hel, hgl]; exact eright_ok) (by kernel_rfl)) cfs_nil)
  have hq3 : CallQOk cx (aexprs_pxi0i0i0 (HV [.bool]) k) := callQT_ok rfl rfl cqfs_nil cwfs_nil
  have hp2 : PxOk cx (aexprs_pxi0i0 (HV [.bool]) k) := ⟨fun t => by rw [hP, hel]; exact tt_ok ttL_ok t, by rw [hgl]; rfl⟩
  have hc2 : CallOk cx (aexprs_pxi0i0 (HV [.bool]) k) := callT_ok rfl (cfs_cons (cf_run hp3 hc3 hq3 (by rw [hP]; exact follows) (by rw [hP]; exact Tryz.func112) rfl (by kernel_rfl) (by kernel_rfl) (n := 0) (by kernel_rfl) (all0)) cfs_nil)
  have hq2 : CallQOk cx (aexprs_pxi0i0 (HV [.bool]) k) := callQT_ok rfl rfl cqfs_nil cwfs_nil
  have hlaexprs_0 : LoopOk cx (aexprs_pxi0i0 (HV [.bool]) k) (lp Tryz.f148 0) := loop_ok hp2 hc2 hq2 (by rw [hP]; exact follows) (k := k) (s := aexprs_0_sg) (step := aexprs_0) (fun _ _ => by kernel_rfl) (by kernel_rfl) (aexprs_0_eq _ k) (loops_in (n := 0) (by kernel_rfl) all0)
  have hp1 : PxOk cx (aexprs_pxi0 (HV [.bool]) k) := ⟨fun t => by rw [hP, hel]; exact tt_ok ttL_ok t, by rw [hgl]; rfl⟩
  have hc1 : CallOk cx (aexprs_pxi0 (HV [.bool]) k) := callT_ok rfl (cfs_cons (cf_run hp2 hc2 hq2 (by rw [hP]; exact follows) (by rw [hP]; exact Tryz.func148) rfl (by kernel_rfl) (by kernel_rfl) (n := 1) (by kernel_rfl) ((allS all0 hlaexprs_0))) cfs_nil)
  have hq1 : CallQOk cx (aexprs_pxi0 (HV [.bool]) k) := callQT_ok rfl rfl cqfs_nil cwfs_nil
  have hp0 : PxOk cx (aexprs_px (HV [.bool]) k) := ⟨fun t => by rw [hP, hel]; exact tt_ok ttL_ok t, by rw [hgl]; rfl⟩
  have hc0 : CallOk cx (aexprs_px (HV [.bool]) k) := callT_ok rfl (cfs_cons (cf_run hp1 hc1 hq1 (by rw [hP]; exact follows) (by rw [hP]; exact Tryz.func96) rfl (by kernel_rfl) (by kernel_rfl) (n := 0) (by kernel_rfl) (all0)) cfs_nil)
  have hq0 : CallQOk cx (aexprs_px (HV [.bool]) k) := callQT_ok rfl rfl cqfs_nil cwfs_nil
  exact ⟨hp0, hc0, hq0, all0⟩
def aexprs (l : List Xpr) : Bool := decide (l.length ≤ 100) && l.all fun e => eright e 30
def aexprs_F : FT [.sl .expr false] [.bool] := fun x => some (aexprs x)
theorem aexprs_loop {R : Type} {kx : Ex → aexprs_0_V → Option R} {l : List Xpr} {c : Bool → Option R} (hn : ln l.length) (h1 : ∀ i : Nat, kx .ret (l, (i : Int), (l.length : Int), (i : Int)) = c false) (h2 : ∀ q i, kx (.exit 0) (l, q, (l.length : Int), i) = c true) (k : Nat) (hk : l.length < k) :
    iter (fun rec => aexprs_0 rec kx) k (l, 0, (l.length : Int), 0) = c (l.all fun e => eright e 30) := by
  refine (iter_ind0 l.length (fun i => (l, (0 : Int), (l.length : Int), (i : Int))) (fun i => c ((l.drop i).all fun e => eright e 30)) (fun i hi rec hr => ?_) (fun rec => ?_) k 0 (Nat.zero_le _) (by omega)).trans (by rw [List.drop_zero])
  · simp only [aexprs_0, lt_t hi, cond_t, inb_t hi, chk, at_nat (c := .expr) hi, wr_succ hi hn, hr, h1, drop_cons hi, List.all_cons]
    cases eright l[i] 30 <;> rfl
  · simp only [aexprs_0, lt_n, cond_f, h2]
    rw [List.drop_eq_nil_of_le (Nat.le_refl _)]
    rfl
theorem aexprs_ok : FnOk Tryz.prog elT glT 68 [.sl .expr false] [.bool] aexprs_F := .fin 0 aexprs_run fun l r hb hx => ⟨l.length + 1, by
  simp only [aexprs_F, Option.some.injEq] at hx
  rw [← hx]
  simp only [aexprs_body, aexprs]
  rw [show decide ((l.length : Int) ≤ 100) = decide (l.length ≤ 100) from decide_eq_decide.2 (by omega)]
  cases decide (l.length ≤ 100) with
  | false => rfl
  | true =>
    rw [cond_t, Bool.true_and]
    exact aexprs_loop (l := l) (c := some) hb.1 (fun i => by simp) (fun _ _ => rfl) (l.length + 1) (by omega)⟩
/-! ## exchequer/ast.rows -/
def arows_0_sg : Sig := ⟨19, [(0, .sl .exprs false), (4, .int .i64), (7, .int .i64), (8, .int .i64)], [(1, .fn 114 [])], [], 80, 80, 400, [], []⟩
abbrev arows_0_V := List (List Xpr) × Int × Int × Int
def arows_0 {R : Type} (rec : arows_0_V → Option R) (kx : Ex → arows_0_V → Option R) (v : arows_0_V) : Option R := match v with
 | (v, v1, v2, v3) =>
  cond (decide (v3 < v2)) (
   chk (inb v3 v.length) (
    cond (decide (((at' .exprs v v3).length : Int) = 0)) (
     kx .ret (v, v3, v2, v3)) (
     cond (!(aexprs (at' .exprs v v3))) (
      kx .ret (v, v3, v2, v3)) (
      rec (v, v1, v2, (wr .i64 (v3 + 1))))))) (
   kx (.exit 0) (v, v1, v2, v3))
def arows_pxi0i0i0 (R : Type) (_k : Nat) : Px R := ⟨ttOf ttL, glT, callT [(68, callOr [.sl .expr false] [.bool] aexprs_F)], callQT [], loopT [], tbl []⟩
noncomputable def arows_pxi0i0 (R : Type) (k : Nat) : Px R := ⟨ttOf ttL, glT, callT [(114, callRun 120 600 (arows_pxi0i0i0 R k) Tryz.f114)], callQT [], loopT [(2, loopOr k arows_0_sg (arows_0))], tbl []⟩
noncomputable def arows_pxi0 (R : Type) (k : Nat) : Px R := ⟨ttOf ttL, glT, callT [(155, callRun 80 400 (arows_pxi0i0 R k) Tryz.f155)], callQT [], loopT [], tbl []⟩
noncomputable def arows_px (R : Type) (k : Nat) : Px R := ⟨ttOf ttL, glT, callT [(66, callOr [.int .i64] [.bool] asome_F), (113, callRun 40 200 (arows_pxi0 R k) Tryz.f113)], callQT [], loopT [], tbl []⟩
theorem arows_0_eq (R : Type) (k : Nat) : ∀ (fr : List Fr) (rec : arows_0_V → Option R) (kx : Ex → arows_0_V → Option R) (v : arows_0_V), round (arows_pxi0i0 R k) arows_0_sg (lp Tryz.f155 0) fr rec kx v = arows_0 rec kx v
  | fr, rec, kx, (v, v1, v2, v3) => by kernel_rfl
def arows_body (k : Nat) (x : HV [.sl .exprs false]) : Option (HV [.bool]) := match x with
 | l =>
  cond ((asome (l.length : Int))) (
   iter (fun rec => arows_0 rec (fun e vz => match vz with | (_, v5, _, _) => match e with
    | .ret =>
     some (!(decide (0 ≤ v5)))
    | .exit 0 =>
     some true
    | _ => none)) k (l, 0, (l.length : Int), 0)) (
   some false)
theorem arows_eq (k : Nat) : ∀ (x : HV [.sl .exprs false]), runF (arows_px _ k) Tryz.f69 [.sl .exprs false] [.bool] x some = arows_body k x
  | l => by kernel_rfl
theorem arows_run (k : Nat) : FnOk Tryz.prog elT glT 69 [.sl .exprs false] [.bool] (arows_body k) := by
  refine fnOk_run Tryz.func69 rfl (by kernel_rfl) follows (by kernel_rfl) (n := 0) (by kernel_rfl) (px := arows_px _ k) (fun cx hP hel hgl => ?_) (arows_eq k)
  have hp3 : PxOk cx (arows_pxi0i0i0 (HV [.bool]) k) := ⟨fun t => by rw [hP, hel]; exact tt_ok ttL_ok t, by rw [hgl]; rfl⟩
  have hc3 : CallOk cx (arows_pxi0i0i0 (HV [.bool]) k) := callT_ok rfl (cfs_cons (cf_or (by rw [hP, hel, hgl]; exact aexprs_ok) (by kernel_rfl)) cfs_nil)
  have hq3 : CallQOk cx (arows_pxi0i0i0 (HV [.bool]) k) := callQT_ok rfl rfl cqfs_nil cwfs_nil
  have hp2 : PxOk cx (arows_pxi0i0 (HV [.bool]) k) := ⟨fun t => by rw [hP, hel]; exact tt_ok ttL_ok t, by rw [hgl]; rfl⟩
  have hc2 : CallOk cx (arows_pxi0i0 (HV [.bool]) k) := callT_ok rfl (cfs_cons (cf_run hp3 hc3 hq3 (by rw [hP]; exact follows) (by rw [hP]; exact Tryz.func114) rfl (by kernel_rfl) (by kernel_rfl) (n := 0) (by kernel_rfl) (all0)) cfs_nil)
  have hq2 : CallQOk cx (arows_pxi0i0 (HV [.bool]) k) := callQT_ok rfl rfl cqfs_nil cwfs_nil
  have hlarows_0 : LoopOk cx (arows_pxi0i0 (HV [.bool]) k) (lp Tryz.f155 0) := loop_ok hp2 hc2 hq2 (by rw [hP]; exact follows) (k := k) (s := arows_0_sg) (step := arows_0) (fun _ _ => by kernel_rfl) (by kernel_rfl) (arows_0_eq _ k) (loops_in (n := 0) (by kernel_rfl) all0)
  have hp1 : PxOk cx (arows_pxi0 (HV [.bool]) k) := ⟨fun t => by rw [hP, hel]; exact tt_ok ttL_ok t, by rw [hgl]; rfl⟩
  have hc1 : CallOk cx (arows_pxi0 (HV [.bool]) k) := callT_ok rfl (cfs_cons (cf_run hp2 hc2 hq2 (by rw [hP]; exact follows) (by rw [hP]; exact Tryz.func155) rfl (by kernel_rfl) (by kernel_rfl) (n := 1) (by kernel_rfl) ((allS all0 hlarows_0))) cfs_nil)
  have hq1 : CallQOk cx (arows_pxi0 (HV [.bool]) k) := callQT_ok rfl rfl cqfs_nil cwfs_nil
  have hp0 : PxOk cx (arows_px (HV [.bool]) k) := ⟨fun t => by rw [hP, hel]; exact tt_ok ttL_ok t, by rw [hgl]; rfl⟩
  have hc0 : CallOk cx (arows_px (HV [.bool]) k) := callT_ok rfl (cfs_cons (cf_or (by rw [hP, hel, hgl]; exact asome_ok) (by kernel_rfl)) (cfs_cons (cf_run hp1 hc1 hq1 (by rw [hP]; exact follows) (by rw [hP]; exact Tryz.func113) rfl (by kernel_rfl) (by kernel_rfl) (n := 0) (by kernel_rfl) (all0)) cfs_nil))
  have hq0 : CallQOk cx (arows_px (HV [.bool]) k) := callQT_ok rfl rfl cqfs_nil cwfs_nil
  exact ⟨hp0, hc0, hq0, all0⟩
def rowOk (r : List Xpr) : Bool := !decide (r.length = 0) && aexprs r
def arows (l : List (List Xpr)) : Bool := asome (l.length : Int) && l.all rowOk
def arows_F : FT [.sl .exprs false] [.bool] := fun x => some (arows x)
theorem arows_loop {R : Type} {kx : Ex → arows_0_V → Option R} {l : List (List Xpr)} {c : Bool → Option R} (hn : ln l.length) (h1 : ∀ i : Nat, kx .ret (l, (i : Int), (l.length : Int), (i : Int)) = c false) (h2 : ∀ q i, kx (.exit 0) (l, q, (l.length : Int), i) = c true) (k : Nat) (hk : l.length < k) :
    iter (fun rec => arows_0 rec kx) k (l, 0, (l.length : Int), 0) = c (l.all rowOk) := by
  refine (iter_ind0 l.length (fun i => (l, (0 : Int), (l.length : Int), (i : Int))) (fun i => c ((l.drop i).all rowOk)) (fun i hi rec hr => ?_) (fun rec => ?_) k 0 (Nat.zero_le _) (by omega)).trans (by rw [List.drop_zero])
  · simp only [arows_0, lt_t hi, cond_t, inb_t hi, chk, at_nat (c := .exprs) hi, wr_succ hi hn, hr, h1, drop_cons hi, List.all_cons, rowOk]
    rw [show decide ((l[i].length : Int) = 0) = decide (l[i].length = 0) from decide_eq_decide.2 (by omega)]
    cases decide (l[i].length = 0) <;> cases aexprs l[i] <;> rfl
  · simp only [arows_0, lt_n, cond_f, h2]
    rw [List.drop_eq_nil_of_le (Nat.le_refl _)]
    rfl
theorem arows_ok : FnOk Tryz.prog elT glT 69 [.sl .exprs false] [.bool] arows_F := .fin 0 arows_run fun l r hb hx => ⟨l.length + 1, by
  simp only [arows_F, Option.some.injEq] at hx
  rw [← hx]
  simp only [arows_body, arows]
  cases asome (l.length : Int) with
  | false => rfl
  | true =>
    rw [cond_t, Bool.true_and]
    exact arows_loop (l := l) (c := some) hb.1 (fun i => by simp) (fun _ _ => rfl) (l.length + 1) (by omega)⟩
/-! ## exchequer/ast.none -/
def anone_px (R : Type) : Px R := ⟨ttOf ttL, glT, callT [(20, callOr [.sv .expr, .sv .expr] [.bool] asame_F)], callQT [], loopT [], tbl []⟩
def anone_body (x : HV [.sv .expr]) : Option (HV [.bool]) := match x with
 | e =>
  some (asame e (Xpr.mk 0 ⟨0, 0, []⟩ [] []))
theorem anone_eq : ∀ (x : HV [.sv .expr]), runF (anone_px _) Tryz.f115 [.sv .expr] [.bool] x some = anone_body x
  | e => by kernel_rfl
theorem anone_run : FnOk Tryz.prog elT glT 115 [.sv .expr] [.bool] (anone_body) := by
  refine fnOk_run Tryz.func115 rfl (by kernel_rfl) follows (by kernel_rfl) (n := 0) (by kernel_rfl) (px := anone_px _) (fun cx hP hel hgl => ?_) (anone_eq)
  have hp0 : PxOk cx (anone_px (HV [.bool])) := ⟨fun t => by rw [hP, hel]; exact tt_ok ttL_ok t, by rw [hgl]; rfl⟩
  have hc0 : CallOk cx (anone_px (HV [.bool])) := callT_ok rfl (cfs_cons (cf_or (by rw [hP, hel, hgl]; exact asame_ok) (by kernel_rfl)) cfs_nil)
  have hq0 : CallQOk cx (anone_px (HV [.bool])) := callQT_ok rfl rfl cqfs_nil cwfs_nil
  exact ⟨hp0, hc0, hq0, all0⟩
def anone (e : Xpr) : Bool :=
  (asame e (Xpr.mk 0 ⟨0, 0, []⟩ [] []))
theorem anone_tot (x : HV [.sv .expr]) : anone_body x = some (anone x) := by
  first
    | exact rfl
    | simp only [anone_body, anone, cond_some]
def anone_F : FT [.sv .expr] [.bool] := fun x => some (anone x)
theorem anone_ok : FnOk Tryz.prog elT glT 115 [.sv .expr] [.bool] anone_F := .fin0 anone_run fun x _ _ hx => (anone_tot x).trans hx
/-! ## exchequer/ast.where -/
def awhere_px (R : Type) : Px R := ⟨ttOf ttL, glT, callT [(115, callOr [.sv .expr] [.bool] anone_F), (39, callOr [.sv .expr, .int .i64] [.bool] eright_F)], callQT [], loopT [], tbl []⟩
def awhere_body (x : HV [.sv .stmt]) : Option (HV [.bool]) := match x with
 | s =>
  cond (!s.has) (
   some (anone (xeta s.whr))) (
   some (eright (xeta s.whr) 30))
theorem awhere_eq : ∀ (x : HV [.sv .stmt]), runF (awhere_px _) Tryz.f71 [.sv .stmt] [.bool] x some = awhere_body x
  | s => by kernel_rfl
theorem awhere_run : FnOk Tryz.prog elT glT 71 [.sv .stmt] [.bool] (awhere_body) := by
  refine fnOk_run Tryz.func71 rfl (by kernel_rfl) follows (by kernel_rfl) (n := 0) (by kernel_rfl) (px := awhere_px _) (fun cx hP hel hgl => ?_) (awhere_eq)
  have hp0 : PxOk cx (awhere_px (HV [.bool])) := ⟨fun t => by rw [hP, hel]; exact tt_ok ttL_ok t, by rw [hgl]; rfl⟩
  have hc0 : CallOk cx (awhere_px (HV [.bool])) := callT_ok rfl (cfs_cons (cf_or (by rw [hP, hel, hgl]; exact anone_ok) (by kernel_rfl)) (cfs_cons (cf_or (by rw [hP, hel, hgl]; exact eright_ok) (by kernel_rfl)) cfs_nil))
  have hq0 : CallQOk cx (awhere_px (HV [.bool])) := callQT_ok rfl rfl cqfs_nil cwfs_nil
  exact ⟨hp0, hc0, hq0, all0⟩
def awhere (s : Stm) : Bool :=
  cond (!s.has) (
   (anone (xeta s.whr))) (
   (eright (xeta s.whr) 30))
theorem awhere_tot (x : HV [.sv .stmt]) : awhere_body x = some (awhere x) := by
  first
    | exact rfl
    | simp only [awhere_body, awhere, cond_some]
def awhere_F : FT [.sv .stmt] [.bool] := fun x => some (awhere x)
theorem awhere_ok : FnOk Tryz.prog elT glT 71 [.sv .stmt] [.bool] awhere_F := .fin0 awhere_run fun x _ _ hx => (awhere_tot x).trans hx
/-! ## columns, what is set -/
/-! ## exchequer/ast.cols -/
def acols_0_sg : Sig := ⟨44, [(0, .sl .col false), (2, .bool), (3, .sl .str true), (6, .sl .col false), (7, .int .i64), (8, .int .i64)], [], [], 0, 0, 0, [], []⟩
abbrev acols_0_V := List Col × Bool × List Str × List Col × Int × Int
def acols_0 {R : Type} (rec : acols_0_V → Option R) (kx : Ex → acols_0_V → Option R) (v : acols_0_V) : Option R := match v with
 | (v, v1, v2, v3, v4, v5) =>
  cond (decide (v5 < v4)) (
   chk (inb v5 v3.length) (
    let j := fun (p : Bool) =>
     cond (p) (
      kx .ret (v, false, v2, v3, v4, v5)) (
      cond (!decide (((at' .col v3 v5).ref) = [])) (
       cond (!(lname ((at' .col v3 v5).ref))) (
        kx .ret (v, false, v2, v3, v4, v5)) (
        chk (decide (v2.length + 1 ≤ maxApp)) (
         rec (v, v1, (v2 ++ [((at' .col v3 v5).name)]), v3, v4, (wr .i64 (v5 + 1)))))) (
       chk (decide (v2.length + 1 ≤ maxApp)) (
        rec (v, v1, (v2 ++ [((at' .col v3 v5).name)]), v3, v4, (wr .i64 (v5 + 1))))))
    cond (decide ((at' .col v3 v5).kind < 2)) (
     j true) (
     j (decide (5 < (at' .col v3 v5).kind))))) (
   kx (.exit 0) (v, v1, v2, v3, v4, v5))
def acols_px (R : Type) (k : Nat) : Px R := ⟨ttOf ttL, glT, callT [(63, callOr [.str] [.bool] lname_F), (66, callOr [.int .i64] [.bool] asome_F), (67, callOr [.sl .str false] [.bool] aonce_F)], callQT [], loopT [(3, loopOr k acols_0_sg (acols_0))], tbl []⟩
theorem acols_0_eq (R : Type) (k : Nat) : ∀ (fr : List Fr) (rec : acols_0_V → Option R) (kx : Ex → acols_0_V → Option R) (v : acols_0_V), round (acols_px R k) acols_0_sg (lp Tryz.f65 0) fr rec kx v = acols_0 rec kx v
  | fr, rec, kx, (v, v1, v2, v3, v4, v5) => by kernel_rfl
def acols_body (k : Nat) (x : HV [.sl .col false]) : Option (HV [.bool]) := match x with
 | l =>
  iter (fun rec => acols_0 rec (fun e vz => match vz with | (v6, v7, v8, _, _, _) => match e with
   | .ret =>
    some v7
   | .exit 0 =>
    cond ((asome (v6.length : Int))) (
     some (aonce v8)) (
     some false)
   | _ => none)) k (l, false, [], l, (l.length : Int), 0)
theorem acols_eq (k : Nat) : ∀ (x : HV [.sl .col false]), runF (acols_px _ k) Tryz.f65 [.sl .col false] [.bool] x some = acols_body k x
  | l => by kernel_rfl
theorem acols_run (k : Nat) : FnOk Tryz.prog elT glT 65 [.sl .col false] [.bool] (acols_body k) := by
  refine fnOk_run Tryz.func65 rfl (by kernel_rfl) follows (by kernel_rfl) (n := 1) (by kernel_rfl) (px := acols_px _ k) (fun cx hP hel hgl => ?_) (acols_eq k)
  have hp0 : PxOk cx (acols_px (HV [.bool]) k) := ⟨fun t => by rw [hP, hel]; exact tt_ok ttL_ok t, by rw [hgl]; rfl⟩
  have hc0 : CallOk cx (acols_px (HV [.bool]) k) := callT_ok rfl (cfs_cons (cf_or (by rw [hP, hel, hgl]; exact lname_ok) (by kernel_rfl)) (cfs_cons (cf_or (by rw [hP, hel, hgl]; exact asome_ok) (by kernel_rfl)) (cfs_cons (cf_or (by rw [hP, hel, hgl]; exact aonce_ok) (by kernel_rfl)) cfs_nil)))
  have hq0 : CallQOk cx (acols_px (HV [.bool]) k) := callQT_ok rfl rfl cqfs_nil cwfs_nil
  have hlacols_0 : LoopOk cx (acols_px (HV [.bool]) k) (lp Tryz.f65 0) := loop_ok hp0 hc0 hq0 (by rw [hP]; exact follows) (k := k) (s := acols_0_sg) (step := acols_0) (fun _ _ => by kernel_rfl) (by kernel_rfl) (acols_0_eq _ k) (loops_in (n := 0) (by kernel_rfl) all0)
  exact ⟨hp0, hc0, hq0, (allS all0 hlacols_0)⟩
def colOk (c : Col) : Bool := decide (2 ≤ c.kind) && decide (c.kind ≤ 5) && (decide (c.ref = []) || lname c.ref)
def acols (l : List Col) : Option Bool := if l.length ≤ 1000000 then some (l.all colOk && asome (l.length : Int) && aonce (l.map (·.name))) else none
def acols_F : FT [.sl .col false] [.bool] := fun x => acols x
theorem acols_loop {R : Type} {kx : Ex → acols_0_V → Option R} {l : List Col} {c : Bool → Option R} (hn : l.length ≤ 1000000) (h1 : ∀ o i, kx .ret (l, false, o, l, (l.length : Int), i) = c false) (h2 : ∀ q o i, kx (.exit 0) (l, q, o, l, (l.length : Int), i) = cond (asome (l.length : Int)) (c (aonce o)) (c false)) (k : Nat) (hk : l.length < k) :
    iter (fun rec => acols_0 rec kx) k (l, false, [], l, (l.length : Int), 0) = c (l.all colOk && asome (l.length : Int) && aonce (l.map (·.name))) := by
  have hl : ln l.length := by simp only [ln]; omega
  refine (iter_ind0 l.length (fun i => (l, false, (l.take i).map (·.name), l, (l.length : Int), (i : Int))) (fun i => c ((l.drop i).all colOk && asome (l.length : Int) && aonce (l.map (·.name)))) (fun i hi rec hr => ?_) (fun rec => ?_) k 0 (Nat.zero_le _) (by omega)).trans (by rw [List.drop_zero])
  · have ht : (l.take (i + 1)).map (·.name) = (l.take i).map (·.name) ++ [l[i].name] := by
      rw [List.take_add_one, List.getElem?_eq_getElem hi, List.map_append]
      rfl
    have hlen : ((l.take i).map (·.name)).length + 1 ≤ maxApp := by simp only [List.length_map, List.length_take, maxApp]; omega
    rw [ht] at hr
    simp only [acols_0, lt_t hi, cond_t, inb_t hi, chk, at_nat (c := .col) hi, wr_succ hi hl, hr, h1, drop_cons hi, List.all_cons, colOk, decide_eq_true hlen]
    by_cases ha : l[i].kind < 2
    · rw [decide_eq_true ha, decide_eq_false (show ¬ 2 ≤ l[i].kind by omega)]
      rfl
    · rw [decide_eq_false ha, decide_eq_true (show 2 ≤ l[i].kind by omega)]
      by_cases hb : 5 < l[i].kind
      · rw [decide_eq_true hb, decide_eq_false (show ¬ l[i].kind ≤ 5 by omega)]
        rfl
      · rw [decide_eq_false hb, decide_eq_true (show l[i].kind ≤ 5 by omega)]
        cases decide (l[i].ref = []) <;> cases lname l[i].ref <;> rfl
  · simp only [acols_0, lt_n, cond_f, h2]
    rw [List.drop_eq_nil_of_le (Nat.le_refl _), List.take_length]
    cases asome (l.length : Int) <;> rfl
theorem acols_ok : FnOk Tryz.prog elT glT 65 [.sl .col false] [.bool] acols_F := .fin 0 acols_run fun l r hb hx => ⟨l.length + 1, by
  simp only [acols_F, acols] at hx
  split at hx
  · rename_i h
    rw [← hx]
    simp only [acols_body]
    refine acols_loop (l := l) (c := some) h (fun _ _ => rfl) (fun _ _ _ => ?_) (l.length + 1) (by omega)
    cases asome (l.length : Int) <;> rfl
  · cases hx⟩
/-! ## exchequer/ast.sets -/
def asets_0_sg : Sig := ⟨29, [(0, .sl .set false), (2, .bool), (3, .sl .str true), (6, .sl .set false), (7, .int .i64), (8, .int .i64)], [], [], 0, 0, 0, [], []⟩
abbrev asets_0_V := List SetE × Bool × List Str × List SetE × Int × Int
def asets_0 {R : Type} (rec : asets_0_V → Option R) (kx : Ex → asets_0_V → Option R) (v : asets_0_V) : Option R := match v with
 | (v, v1, v2, v3, v4, v5) =>
  cond (decide (v5 < v4)) (
   chk (inb v5 v3.length) (
    cond (!(eright (xeta ((at' .set v3 v5).e)) 30)) (
     kx .ret (v, false, v2, v3, v4, v5)) (
     chk (decide (v2.length + 1 ≤ maxApp)) (
      rec (v, v1, (v2 ++ [((at' .set v3 v5).name)]), v3, v4, (wr .i64 (v5 + 1))))))) (
   kx (.exit 0) (v, v1, v2, v3, v4, v5))
def asets_px (R : Type) (k : Nat) : Px R := ⟨ttOf ttL, glT, callT [(39, callOr [.sv .expr, .int .i64] [.bool] eright_F), (66, callOr [.int .i64] [.bool] asome_F), (67, callOr [.sl .str false] [.bool] aonce_F)], callQT [], loopT [(3, loopOr k asets_0_sg (asets_0))], tbl []⟩
theorem asets_0_eq (R : Type) (k : Nat) : ∀ (fr : List Fr) (rec : asets_0_V → Option R) (kx : Ex → asets_0_V → Option R) (v : asets_0_V), round (asets_px R k) asets_0_sg (lp Tryz.f70 0) fr rec kx v = asets_0 rec kx v
  | fr, rec, kx, (v, v1, v2, v3, v4, v5) => by kernel_rfl
def asets_body (k : Nat) (x : HV [.sl .set false]) : Option (HV [.bool]) := match x with
 | l =>
  iter (fun rec => asets_0 rec (fun e vz => match vz with | (v6, v7, v8, _, _, _) => match e with
   | .ret =>
    some v7
   | .exit 0 =>
    cond ((asome (v6.length : Int))) (
     some (aonce v8)) (
     some false)
   | _ => none)) k (l, false, [], l, (l.length : Int), 0)
theorem asets_eq (k : Nat) : ∀ (x : HV [.sl .set false]), runF (asets_px _ k) Tryz.f70 [.sl .set false] [.bool] x some = asets_body k x
  | l => by kernel_rfl
theorem asets_run (k : Nat) : FnOk Tryz.prog elT glT 70 [.sl .set false] [.bool] (asets_body k) := by
  refine fnOk_run Tryz.func70 rfl (by kernel_rfl) follows (by kernel_rfl) (n := 1) (by kernel_rfl) (px := asets_px _ k) (fun cx hP hel hgl => ?_) (asets_eq k)
  have hp0 : PxOk cx (asets_px (HV [.bool]) k) := ⟨fun t => by rw [hP, hel]; exact tt_ok ttL_ok t, by rw [hgl]; rfl⟩
  have hc0 : CallOk cx (asets_px (HV [.bool]) k) := callT_ok rfl (cfs_cons (cf_or (by rw [hP, hel, hgl]; exact eright_ok) (by kernel_rfl)) (cfs_cons (cf_or (by rw [hP, hel, hgl]; exact asome_ok) (by kernel_rfl)) (cfs_cons (cf_or (by rw [hP, hel, hgl]; exact aonce_ok) (by kernel_rfl)) cfs_nil)))
  have hq0 : CallQOk cx (asets_px (HV [.bool]) k) := callQT_ok rfl rfl cqfs_nil cwfs_nil
  have hlasets_0 : LoopOk cx (asets_px (HV [.bool]) k) (lp Tryz.f70 0) := loop_ok hp0 hc0 hq0 (by rw [hP]; exact follows) (k := k) (s := asets_0_sg) (step := asets_0) (fun _ _ => by kernel_rfl) (by kernel_rfl) (asets_0_eq _ k) (loops_in (n := 0) (by kernel_rfl) all0)
  exact ⟨hp0, hc0, hq0, (allS all0 hlasets_0)⟩
def asets (l : List SetE) : Option Bool := if l.length ≤ 1000000 then some (l.all (fun x => eright x.e 30) && asome (l.length : Int) && aonce (l.map (·.name))) else none
def asets_F : FT [.sl .set false] [.bool] := fun x => asets x
theorem asets_loop {R : Type} {kx : Ex → asets_0_V → Option R} {l : List SetE} {c : Bool → Option R} (hn : l.length ≤ 1000000) (h1 : ∀ o i, kx .ret (l, false, o, l, (l.length : Int), i) = c false) (h2 : ∀ q o i, kx (.exit 0) (l, q, o, l, (l.length : Int), i) = cond (asome (l.length : Int)) (c (aonce o)) (c false)) (k : Nat) (hk : l.length < k) :
    iter (fun rec => asets_0 rec kx) k (l, false, [], l, (l.length : Int), 0) = c (l.all (fun x => eright x.e 30) && asome (l.length : Int) && aonce (l.map (·.name))) := by
  have hl : ln l.length := by simp only [ln]; omega
  refine (iter_ind0 l.length (fun i => (l, false, (l.take i).map (·.name), l, (l.length : Int), (i : Int))) (fun i => c ((l.drop i).all (fun x => eright x.e 30) && asome (l.length : Int) && aonce (l.map (·.name)))) (fun i hi rec hr => ?_) (fun rec => ?_) k 0 (Nat.zero_le _) (by omega)).trans (by rw [List.drop_zero])
  · have ht : (l.take (i + 1)).map (·.name) = (l.take i).map (·.name) ++ [l[i].name] := by
      rw [List.take_add_one, List.getElem?_eq_getElem hi, List.map_append]
      rfl
    have hlen : ((l.take i).map (·.name)).length + 1 ≤ maxApp := by simp only [List.length_map, List.length_take, maxApp]; omega
    rw [ht] at hr
    simp only [asets_0, lt_t hi, cond_t, inb_t hi, chk, at_nat (c := .set) hi, wr_succ hi hl, hr, h1, drop_cons hi, List.all_cons, decide_eq_true hlen, xeta_eq]
    cases eright l[i].e 30 <;> rfl
  · simp only [asets_0, lt_n, cond_f, h2]
    rw [List.drop_eq_nil_of_le (Nat.le_refl _), List.take_length]
    cases asome (l.length : Int) <;> rfl
theorem asets_ok : FnOk Tryz.prog elT glT 70 [.sl .set false] [.bool] asets_F := .fin 0 asets_run fun l r hb hx => ⟨l.length + 1, by
  simp only [asets_F, asets] at hx
  split at hx
  · rename_i h
    rw [← hx]
    simp only [asets_body]
    refine asets_loop (l := l) (c := some) h (fun _ _ => rfl) (fun _ _ _ => ?_) (l.length + 1) (by omega)
    cases asome (l.length : Int) <;> rfl
  · cases hx⟩
/-! ## without what a kind has -/
def noX : Xpr := .mk 0 ⟨0, 0, []⟩ [] []
def noS : Stm := ⟨0, [], [], [], [], [], [], [], false, noX, [], [], 0⟩
/-! ## exchequer/ast.rest -/
def arest_px (R : Type) : Px R := ⟨ttOf ttL, glT, callT [], callQT [], loopT [], tbl []⟩
def arest_body (x : HV [.sv .stmt]) : Option (HV [.sv .stmt]) := match x with
 | s =>
  cond (decide (s.kind = 1)) (
   some (Stm.mk 0 [] s.on [] [] [] s.rows s.sets s.has (xeta s.whr) s.order s.desc s.most)) (
   cond (decide (s.kind = 3)) (
    some (Stm.mk 0 [] [] s.cols [] s.l s.rows s.sets s.has (xeta s.whr) s.order s.desc s.most)) (
    cond (decide (s.kind = 5)) (
     some (Stm.mk 0 [] s.on s.cols s.names s.l [] s.sets s.has (xeta s.whr) s.order s.desc s.most)) (
     cond (decide (s.kind = 6)) (
      some (Stm.mk 0 [] s.on s.cols s.names s.l s.rows [] false (Xpr.mk 0 ⟨0, 0, []⟩ [] []) s.order s.desc s.most)) (
      cond (decide (s.kind = 7)) (
       some (Stm.mk 0 [] s.on s.cols s.names s.l s.rows s.sets false (Xpr.mk 0 ⟨0, 0, []⟩ [] []) s.order s.desc s.most)) (
       cond (decide (s.kind = 8)) (
        some (Stm.mk 0 [] s.on s.cols s.names [] s.rows s.sets false (Xpr.mk 0 ⟨0, 0, []⟩ [] []) [] [] 0)) (
        some (Stm.mk 0 [] s.on s.cols s.names s.l s.rows s.sets s.has (xeta s.whr) s.order s.desc s.most)))))))
theorem arest_eq : ∀ (x : HV [.sv .stmt]), runF (arest_px _) Tryz.f64 [.sv .stmt] [.sv .stmt] x some = arest_body x
  | s => by kernel_rfl
theorem arest_run : FnOk Tryz.prog elT glT 64 [.sv .stmt] [.sv .stmt] (arest_body) := by
  refine fnOk_run Tryz.func64 rfl (by kernel_rfl) follows (by kernel_rfl) (n := 0) (by kernel_rfl) (px := arest_px _) (fun cx hP hel hgl => ?_) (arest_eq)
  have hp0 : PxOk cx (arest_px (HV [.sv .stmt])) := ⟨fun t => by rw [hP, hel]; exact tt_ok ttL_ok t, by rw [hgl]; rfl⟩
  have hc0 : CallOk cx (arest_px (HV [.sv .stmt])) := callT_ok rfl cfs_nil
  have hq0 : CallQOk cx (arest_px (HV [.sv .stmt])) := callQT_ok rfl rfl cqfs_nil cwfs_nil
  exact ⟨hp0, hc0, hq0, all0⟩
def arest (s : Stm) : Stm :=
  if s.kind = 1 then { s with kind := 0, name := [], cols := [], names := [], l := [] }
  else if s.kind = 3 then { s with kind := 0, name := [], on := [], names := [] }
  else if s.kind = 5 then { s with kind := 0, name := [], rows := [] }
  else if s.kind = 6 then { s with kind := 0, name := [], sets := [], has := false, whr := noX }
  else if s.kind = 7 then { s with kind := 0, name := [], has := false, whr := noX }
  else if s.kind = 8 then { s with kind := 0, name := [], l := [], has := false, whr := noX, order := [], desc := [], most := 0 }
  else { s with kind := 0, name := [] }
def arest_F : FT [.sv .stmt] [.sv .stmt] := fun x => some (arest x)
theorem arest_ok : FnOk Tryz.prog elT glT 64 [.sv .stmt] [.sv .stmt] arest_F := .fin0 arest_run fun s r hb hx => by
  simp only [arest_F, Option.some.injEq] at hx
  rw [← hx]
  simp only [arest_body, arest, xeta_eq, Bool.cond_decide]
  split; · rfl
  split; · rfl
  split; · rfl
  split; · rfl
  split; · rfl
  split <;> rfl
/-! ## exchequer/ast.Check -/
def acheck_px (R : Type) : Px R := ⟨ttOf ttL, glT, callT [(63, callOr [.str] [.bool] lname_F), (64, callOr [.sv .stmt] [.sv .stmt] arest_F), (27, callOr [.sv .stmt, .sv .stmt] [.bool] astmts_F), (65, callOr [.sl .col false] [.bool] acols_F), (66, callOr [.int .i64] [.bool] asome_F), (67, callOr [.sl .str false] [.bool] aonce_F), (68, callOr [.sl .expr false] [.bool] aexprs_F), (69, callOr [.sl .exprs false] [.bool] arows_F), (70, callOr [.sl .set false] [.bool] asets_F), (71, callOr [.sv .stmt] [.bool] awhere_F)], callQT [], loopT [], tbl []⟩
def acheck_body (x : HV [.sv .stmt]) : Option (HV [.int .i64]) := match x with
 | s =>
  let j7 := fun (p1 : Bool) =>
   cond (decide (s.kind = 1)) (
    let j1 := fun (p2 : Bool) =>
     let j := fun (p3 : Bool) =>
      cond (p3) (
       cond ((aonce s.names)) (
        cond (!(aexprs s.l)) (
         some 2) (
         some 0)) (
        some 2)) (
       some 2)
     cond (p2) (
      j (asome (s.names.length : Int))) (
      j false)
    cond (p1) (
     (acols s.cols).bind fun x =>
      j1 x) (
     j1 false)) (
    cond (decide (s.kind = 3)) (
     let j2 := fun (p7 : Bool) =>
      cond (p7) (
       cond ((asome (s.names.length : Int))) (
        cond (!(aonce s.names)) (
         some 2) (
         some 0)) (
        some 2)) (
       some 2)
     cond (p1) (
      j2 (lname s.on)) (
      j2 false)) (
     let j6 := fun (p11 : Bool) =>
      cond (p11) (
       cond (!p1) (
        some 2) (
        some 0)) (
       cond (decide (s.kind = 5)) (
        cond (p1) (
         cond (!(arows s.rows)) (
          some 2) (
          some 0)) (
         some 2)) (
        cond (decide (s.kind = 6)) (
         cond (p1) (
          (asets s.sets).bind fun x1 =>
           cond (x1) (
            cond (!(awhere s)) (
             some 2) (
             some 0)) (
            some 2)) (
          some 2)) (
         cond (decide (s.kind = 7)) (
          cond (p1) (
           cond (!(awhere s)) (
            some 2) (
            some 0)) (
           some 2)) (
          cond (decide (s.kind = 8)) (
           let j5 := fun (p17 : Bool) =>
            let j4 := fun (p18 : Bool) =>
             let j3 := fun (p19 : Bool) =>
              cond (p19) (
               cond (decide ((s.desc.length : Int) = (s.order.length : Int))) (
                cond (!(decide ((-1) ≤ s.most))) (
                 some 2) (
                 some 0)) (
                some 2)) (
               some 2)
             cond (p18) (
              j3 (aonce s.order)) (
              j3 false)
            cond (p17) (
             j4 (awhere s)) (
             j4 false)
           cond (p1) (
            j5 (aexprs s.l)) (
            j5 false)) (
           some 2)))))
     cond (decide (s.kind = 2)) (
      j6 (decide (s.kind = 2))) (
      j6 (decide (s.kind = 4)))))
  cond ((lname s.name)) (
   j7 (astmts (arest s) (Stm.mk 0 [] [] [] [] [] [] [] false (Xpr.mk 0 ⟨0, 0, []⟩ [] []) [] [] 0))) (
   j7 false)
theorem acheck_eq : ∀ (x : HV [.sv .stmt]), runF (acheck_px _) Tryz.f25 [.sv .stmt] [.int .i64] x some = acheck_body x
  | s => by kernel_rfl
theorem acheck_run : FnOk Tryz.prog elT glT 25 [.sv .stmt] [.int .i64] (acheck_body) := by
  refine fnOk_run Tryz.func25 rfl (by kernel_rfl) follows (by kernel_rfl) (n := 0) (by kernel_rfl) (px := acheck_px _) (fun cx hP hel hgl => ?_) (acheck_eq)
  have hp0 : PxOk cx (acheck_px (HV [.int .i64])) := ⟨fun t => by rw [hP, hel]; exact tt_ok ttL_ok t, by rw [hgl]; rfl⟩
  have hc0 : CallOk cx (acheck_px (HV [.int .i64])) := callT_ok rfl (cfs_cons (cf_or (by rw [hP, hel, hgl]; exact lname_ok) (by kernel_rfl)) (cfs_cons (cf_or (by rw [hP, hel, hgl]; exact arest_ok) (by kernel_rfl)) (cfs_cons (cf_or (by rw [hP, hel, hgl]; exact astmts_ok) (by kernel_rfl)) (cfs_cons (cf_or (by rw [hP, hel, hgl]; exact acols_ok) (by kernel_rfl)) (cfs_cons (cf_or (by rw [hP, hel, hgl]; exact asome_ok) (by kernel_rfl)) (cfs_cons (cf_or (by rw [hP, hel, hgl]; exact aonce_ok) (by kernel_rfl)) (cfs_cons (cf_or (by rw [hP, hel, hgl]; exact aexprs_ok) (by kernel_rfl)) (cfs_cons (cf_or (by rw [hP, hel, hgl]; exact arows_ok) (by kernel_rfl)) (cfs_cons (cf_or (by rw [hP, hel, hgl]; exact asets_ok) (by kernel_rfl)) (cfs_cons (cf_or (by rw [hP, hel, hgl]; exact awhere_ok) (by kernel_rfl)) cfs_nil))))))))))
  have hq0 : CallQOk cx (acheck_px (HV [.int .i64])) := callQT_ok rfl rfl cqfs_nil cwfs_nil
  exact ⟨hp0, hc0, hq0, all0⟩
def checkB (s : Stm) : Bool := lname s.name && decide (arest s = noS) && (
  if s.kind = 1 then s.cols.all colOk && asome (s.cols.length : Int) && aonce (s.cols.map (·.name)) && asome (s.names.length : Int) && aonce s.names && aexprs s.l
  else if s.kind = 3 then lname s.on && asome (s.names.length : Int) && aonce s.names
  else if s.kind = 2 ∨ s.kind = 4 then true
  else if s.kind = 5 then arows s.rows
  else if s.kind = 6 then s.sets.all (fun x => eright x.e 30) && asome (s.sets.length : Int) && aonce (s.sets.map (·.name)) && awhere s
  else if s.kind = 7 then awhere s
  else if s.kind = 8 then aexprs s.l && awhere s && aonce s.order && decide (s.desc.length = s.order.length) && decide (-1 ≤ s.most)
  else false)
def acheck (s : Stm) : Option Int := if s.cols.length ≤ 1000000 ∧ s.sets.length ≤ 1000000 then some (cond (checkB s) 0 2) else none
def acheck_F : FT [.sv .stmt] [.int .i64] := fun x => acheck x
theorem acheck_ok : FnOk Tryz.prog elT glT 25 [.sv .stmt] [.int .i64] acheck_F := .fin0 acheck_run fun s r hb hx => by
  simp only [acheck_F, acheck] at hx
  split at hx
  case isFalse => cases hx
  rename_i h
  rw [← hx]
  have e1 : acols s.cols = some (s.cols.all colOk && asome (s.cols.length : Int) && aonce (s.cols.map (·.name))) := if_pos h.1
  have e2 : asets s.sets = some (s.sets.all (fun x => eright x.e 30) && asome (s.sets.length : Int) && aonce (s.sets.map (·.name))) := if_pos h.2
  have e3 : astmts (arest s) (Stm.mk 0 [] [] [] [] [] [] [] false (Xpr.mk 0 ⟨0, 0, []⟩ [] []) [] [] 0) = decide (arest s = noS) := ssame_dec _ _
  have e4 : decide ((s.desc.length : Int) = (s.order.length : Int)) = decide (s.desc.length = s.order.length) := decide_eq_decide.2 (by omega)
  simp only [acheck_body, checkB, e1, e2, e3, e4, Option.bind_some]
  generalize lname s.name = A
  generalize decide (arest s = noS) = B
  generalize (s.cols.all colOk && asome (s.cols.length : Int) && aonce (s.cols.map (·.name))) = C
  generalize asome (s.names.length : Int) = D
  generalize aonce s.names = E
  generalize aexprs s.l = F
  generalize lname s.on = G
  generalize arows s.rows = H
  generalize (s.sets.all (fun x => eright x.e 30) && asome (s.sets.length : Int) && aonce (s.sets.map (·.name))) = I
  generalize awhere s = J
  generalize aonce s.order = K
  generalize decide (s.desc.length = s.order.length) = L
  generalize decide (-1 ≤ s.most) = M
  by_cases h1 : s.kind = 1
  · rw [decide_eq_true h1, if_pos h1]
    cases A <;> cases B <;> cases C <;> cases D <;> cases E <;> cases F <;> rfl
  rw [decide_eq_false h1, if_neg h1]
  by_cases h3 : s.kind = 3
  · rw [decide_eq_true h3, if_pos h3]
    cases A <;> cases B <;> cases G <;> cases D <;> cases E <;> rfl
  rw [decide_eq_false h3, if_neg h3]
  by_cases h24 : s.kind = 2 ∨ s.kind = 4
  · rw [if_pos h24]
    rcases h24 with h2 | h2
    · rw [decide_eq_true h2]
      cases A <;> cases B <;> rfl
    · rw [decide_eq_true h2, decide_eq_false (show ¬ s.kind = 2 by omega)]
      cases A <;> cases B <;> rfl
  rw [if_neg h24, decide_eq_false (show ¬ s.kind = 2 by omega), decide_eq_false (show ¬ s.kind = 4 by omega)]
  by_cases h5 : s.kind = 5
  · rw [decide_eq_true h5, if_pos h5]
    cases A <;> cases B <;> cases H <;> rfl
  rw [decide_eq_false h5, if_neg h5]
  by_cases h6 : s.kind = 6
  · rw [decide_eq_true h6, if_pos h6]
    cases A <;> cases B <;> cases I <;> cases J <;> rfl
  rw [decide_eq_false h6, if_neg h6]
  by_cases h7 : s.kind = 7
  · rw [decide_eq_true h7, if_pos h7]
    cases A <;> cases B <;> cases J <;> rfl
  rw [decide_eq_false h7, if_neg h7]
  by_cases h8 : s.kind = 8
  · rw [decide_eq_true h8, if_pos h8]
    cases A <;> cases B <;> cases F <;> cases J <;> cases K <;> cases L <;> cases M <;> rfl
  rw [decide_eq_false h8, if_neg h8]
  cases A <;> cases B <;> rfl
end Go.Proofs.YthndhaolemgbdaaGreatDoor

/- The program's reader of statements: what its functions come to. -/
namespace Go.Proofs.YthndhaolemgbdaaGreatDoor
open Go.Ax
/-! ## (*exchequer/parse.row).peek -/
def ppeek_si : Sig := ⟨1, [], [(0, .ptr 0 0)], [(0, .cells [.sl .tok false, .int .i64, .bool, .int .i64])], 1, 1, 0, [], []⟩
def ppeek_so : Sig := ⟨1, [(0, .sv .tok)], [], [(0, .cells [.sl .tok false, .int .i64, .bool, .int .i64])], 1, 1, 0, [], []⟩
abbrev ppeek_I := List Tok × Int × Bool × Int
abbrev ppeek_O := Tok × List Tok × Int × Bool × Int
def ppeek_px (R : Type) : Px R := ⟨ttOf ttL, glT, callT [], callQT [], loopT [], tbl []⟩
def ppeek_body (x : ppeek_I) : Option (ppeek_O) := match x with
 | (l, n, b, p) =>
  cond (decide ((l.length : Int) = 0)) (
   some ((Tok.mk 0 n [] 0), l, n, b, p)) (
   chk (inb 0 l.length) (
    some ((at' .tok l 0), l, n, b, p)))
theorem ppeek_eq : ∀ (x : ppeek_I), runLn (ppeek_px _) Tryz.f158 ppeek_si ppeek_so x some = ppeek_body x
  | (l, n, b, p) => by kernel_rfl
theorem ppeek_run : FnLn Tryz.prog elT glT 158 ppeek_si ppeek_so (ppeek_body) := by
  refine fnLn_run Tryz.func158 rfl (by kernel_rfl) follows (by kernel_rfl) (n := 0) (by kernel_rfl) (px := ppeek_px _) (fun cx hP hel hgl => ?_) (ppeek_eq)
  have hp0 : PxOk cx (ppeek_px (ppeek_O)) := ⟨fun t => by rw [hP, hel]; exact tt_ok ttL_ok t, by rw [hgl]; rfl⟩
  have hc0 : CallOk cx (ppeek_px (ppeek_O)) := callT_ok rfl cfs_nil
  have hq0 : CallQOk cx (ppeek_px (ppeek_O)) := callQT_ok rfl rfl cqfs_nil cwfs_nil
  exact ⟨hp0, hc0, hq0, all0⟩
def ppeek_F : ppeek_I → Option ppeek_O := fun x => ppeek_body x
theorem ppeek_ok : FnLn Tryz.prog elT glT 158 ppeek_si ppeek_so (ppeek_F) := ppeek_run
/-! ## (*exchequer/parse.row).next -/
def pnext_si : Sig := ⟨1, [], [(0, .ptr 0 0)], [(0, .cells [.sl .tok false, .int .i64, .bool, .int .i64])], 1, 1, 0, [], []⟩
def pnext_so : Sig := ⟨1, [(0, .sv .tok)], [], [(0, .cells [.sl .tok false, .int .i64, .bool, .int .i64])], 1, 1, 0, [], []⟩
abbrev pnext_I := List Tok × Int × Bool × Int
abbrev pnext_O := Tok × List Tok × Int × Bool × Int
def pnext_px (R : Type) : Px R := ⟨ttOf ttL, glT, callT [(158, callLn ppeek_si ppeek_so ppeek_F)], callQT [], loopT [], tbl []⟩
def pnext_body (x : pnext_I) : Option (pnext_O) := match x with
 | (l, n, b, p) =>
  (ppeek_F (l, n, b, p)).bind fun (x, x1, x2, x3, x4) =>
   cond (decide (0 < (x1.length : Int))) (
    chk (upto 1 x1.length x1.length) (
     some (x, (x1.drop (1 : Int).toNat), x2, x3, x4))) (
    some (x, x1, x2, x3, x4))
theorem pnext_eq : ∀ (x : pnext_I), runLn (pnext_px _) Tryz.f159 pnext_si pnext_so x some = pnext_body x
  | (l, n, b, p) => by kernel_rfl
theorem pnext_run : FnLn Tryz.prog elT glT 159 pnext_si pnext_so (pnext_body) := by
  refine fnLn_run Tryz.func159 rfl (by kernel_rfl) follows (by kernel_rfl) (n := 0) (by kernel_rfl) (px := pnext_px _) (fun cx hP hel hgl => ?_) (pnext_eq)
  have hp0 : PxOk cx (pnext_px (pnext_O)) := ⟨fun t => by rw [hP, hel]; exact tt_ok ttL_ok t, by rw [hgl]; rfl⟩
  have hc0 : CallOk cx (pnext_px (pnext_O)) := callT_ok rfl (cfs_cons (cf_ln (by rw [hP, hel, hgl]; exact ppeek_ok) (by kernel_rfl)) cfs_nil)
  have hq0 : CallQOk cx (pnext_px (pnext_O)) := callQT_ok rfl rfl cqfs_nil cwfs_nil
  exact ⟨hp0, hc0, hq0, all0⟩
def pnext_F : pnext_I → Option pnext_O := fun x => pnext_body x
theorem pnext_ok : FnLn Tryz.prog elT glT 159 pnext_si pnext_so (pnext_F) := pnext_run
/-! ## (*exchequer/parse.row).is -/
def pis_si : Sig := ⟨2, [(1, .str)], [(0, .ptr 0 0)], [(0, .cells [.sl .tok false, .int .i64, .bool, .int .i64])], 1, 1, 0, [], []⟩
def pis_so : Sig := ⟨1, [(0, .bool)], [], [(0, .cells [.sl .tok false, .int .i64, .bool, .int .i64])], 1, 1, 0, [], []⟩
abbrev pis_I := Str × List Tok × Int × Bool × Int
abbrev pis_O := Bool × List Tok × Int × Bool × Int
def pis_px (R : Type) : Px R := ⟨ttOf ttL, glT, callT [(158, callLn ppeek_si ppeek_so ppeek_F), (159, callLn pnext_si pnext_so pnext_F)], callQT [], loopT [], tbl []⟩
def pis_body (x : pis_I) : Option (pis_O) := match x with
 | (s, l, n, b, p) =>
  (ppeek_F (l, n, b, p)).bind fun (x, x1, x2, x3, x4) =>
   cond (!decide (x.kind = 1)) (
    cond (!decide (x.kind = 6)) (
     some (false, x1, x2, x3, x4)) (
     cond (!decide (x.s = s)) (
      some (false, x1, x2, x3, x4)) (
      (pnext_F (x1, x2, x3, x4)).bind fun (_, x11, x12, x13, x14) =>
       some (true, x11, x12, x13, x14)))) (
    cond (!decide (x.s = s)) (
     some (false, x1, x2, x3, x4)) (
     (pnext_F (x1, x2, x3, x4)).bind fun (_, x16, x17, x18, x19) =>
      some (true, x16, x17, x18, x19)))
theorem pis_eq : ∀ (x : pis_I), runLn (pis_px _) Tryz.f117 pis_si pis_so x some = pis_body x
  | (s, l, n, b, p) => by kernel_rfl
theorem pis_run : FnLn Tryz.prog elT glT 117 pis_si pis_so (pis_body) := by
  refine fnLn_run Tryz.func117 rfl (by kernel_rfl) follows (by kernel_rfl) (n := 0) (by kernel_rfl) (px := pis_px _) (fun cx hP hel hgl => ?_) (pis_eq)
  have hp0 : PxOk cx (pis_px (pis_O)) := ⟨fun t => by rw [hP, hel]; exact tt_ok ttL_ok t, by rw [hgl]; rfl⟩
  have hc0 : CallOk cx (pis_px (pis_O)) := callT_ok rfl (cfs_cons (cf_ln (by rw [hP, hel, hgl]; exact ppeek_ok) (by kernel_rfl)) (cfs_cons (cf_ln (by rw [hP, hel, hgl]; exact pnext_ok) (by kernel_rfl)) cfs_nil))
  have hq0 : CallQOk cx (pis_px (pis_O)) := callQT_ok rfl rfl cqfs_nil cwfs_nil
  exact ⟨hp0, hc0, hq0, all0⟩
def pis_F : pis_I → Option pis_O := fun x => pis_body x
theorem pis_ok : FnLn Tryz.prog elT glT 117 pis_si pis_so (pis_F) := pis_run
/-! ## (*exchequer/parse.reader).wrong -/
def pwrong_si : Sig := ⟨1, [], [(0, .ptr 0 0)], [(0, .cells [.sl .tok false, .int .i64, .bool, .int .i64])], 1, 1, 0, [], []⟩
def pwrong_so : Sig := ⟨0, [], [], [(0, .cells [.sl .tok false, .int .i64, .bool, .int .i64])], 1, 1, 0, [], []⟩
abbrev pwrong_I := List Tok × Int × Bool × Int
abbrev pwrong_O := List Tok × Int × Bool × Int
def pwrong_px (R : Type) : Px R := ⟨ttOf ttL, glT, callT [(158, callLn ppeek_si ppeek_so ppeek_F)], callQT [], loopT [], tbl []⟩
def pwrong_body (x : pwrong_I) : Option (pwrong_O) := match x with
 | (l, n, b, p) =>
  cond (!b) (
   (ppeek_F (l, n, b, p)).bind fun (x, x1, x2, _, _) =>
    some (x1, x2, true, x.pos)) (
   some (l, n, b, p))
theorem pwrong_eq : ∀ (x : pwrong_I), runLn (pwrong_px _) Tryz.f127 pwrong_si pwrong_so x some = pwrong_body x
  | (l, n, b, p) => by kernel_rfl
theorem pwrong_run : FnLn Tryz.prog elT glT 127 pwrong_si pwrong_so (pwrong_body) := by
  refine fnLn_run Tryz.func127 rfl (by kernel_rfl) follows (by kernel_rfl) (n := 0) (by kernel_rfl) (px := pwrong_px _) (fun cx hP hel hgl => ?_) (pwrong_eq)
  have hp0 : PxOk cx (pwrong_px (pwrong_O)) := ⟨fun t => by rw [hP, hel]; exact tt_ok ttL_ok t, by rw [hgl]; rfl⟩
  have hc0 : CallOk cx (pwrong_px (pwrong_O)) := callT_ok rfl (cfs_cons (cf_ln (by rw [hP, hel, hgl]; exact ppeek_ok) (by kernel_rfl)) cfs_nil)
  have hq0 : CallQOk cx (pwrong_px (pwrong_O)) := callQT_ok rfl rfl cqfs_nil cwfs_nil
  exact ⟨hp0, hc0, hq0, all0⟩
def pwrong_F : pwrong_I → Option pwrong_O := fun x => pwrong_body x
theorem pwrong_ok : FnLn Tryz.prog elT glT 127 pwrong_si pwrong_so (pwrong_F) := pwrong_run
/-! ## (*exchequer/parse.reader).must -/
def pmust_si : Sig := ⟨2, [(1, .sl .str false)], [(0, .ptr 0 0)], [(0, .cells [.sl .tok false, .int .i64, .bool, .int .i64])], 1, 1, 0, [], []⟩
def pmust_so : Sig := ⟨0, [], [], [(0, .cells [.sl .tok false, .int .i64, .bool, .int .i64])], 1, 1, 0, [], []⟩
abbrev pmust_I := List Str × List Tok × Int × Bool × Int
abbrev pmust_O := List Tok × Int × Bool × Int
def pmust_0_sg : Sig := ⟨27, [(6, .sl .str false), (7, .int .i64), (8, .int .i64)], [(0, .ptr 0 0)], [(0, .cells [.sl .tok false, .int .i64, .bool, .int .i64])], 1, 1, 0, [], []⟩
abbrev pmust_0_V := List Str × Int × Int × List Tok × Int × Bool × Int
def pmust_0 {R : Type} (rec : pmust_0_V → Option R) (kx : Ex → pmust_0_V → Option R) (v : pmust_0_V) : Option R := match v with
 | (v, v1, v2, w, w1, w2, w3) =>
  cond (decide (v2 < v1)) (
   chk (inb v2 v.length) (
    let j := fun (p2 : Bool) (q4 : List Tok) (q5 : Int) (q6 : Bool) (q7 : Int) =>
     cond (p2) (
      (pwrong_F (q4, q5, q6, q7)).bind fun (x5, x6, x7, x8) =>
       kx .ret (v, v1, v2, x5, x6, x7, x8)) (
      rec (v, v1, (wr .i64 (v2 + 1)), q4, q5, q6, q7))
    cond (w2) (
     j true w w1 w2 w3) (
     (pis_F ((at' .str v v2), w, w1, w2, w3)).bind fun (x, x1, x2, x3, x4) =>
      j (!x) x1 x2 x3 x4))) (
   kx (.exit 0) (v, v1, v2, w, w1, w2, w3))
def pmust_px (R : Type) (k : Nat) : Px R := ⟨ttOf ttL, glT, callT [(117, callLn pis_si pis_so pis_F), (127, callLn pwrong_si pwrong_so pwrong_F)], callQT [], loopT [(1, loopOr k pmust_0_sg (pmust_0))], tbl []⟩
theorem pmust_0_eq (R : Type) (k : Nat) : ∀ (fr : List Fr) (rec : pmust_0_V → Option R) (kx : Ex → pmust_0_V → Option R) (v : pmust_0_V), round (pmust_px R k) pmust_0_sg (lp Tryz.f119 0) fr rec kx v = pmust_0 rec kx v
  | fr, rec, kx, (v, v1, v2, w, w1, w2, w3) => by kernel_rfl
def pmust_body (k : Nat) (x : pmust_I) : Option (pmust_O) := match x with
 | (ss, l, n, b, p) =>
  iter (fun rec => pmust_0 rec (fun e vz => match vz with | (_, _, _, v6, v7, v8, v9) => match e with
   | .ret =>
    some (v6, v7, v8, v9)
   | .exit 0 =>
    some (v6, v7, v8, v9)
   | _ => none)) k (ss, (ss.length : Int), 0, l, n, b, p)
theorem pmust_eq (k : Nat) : ∀ (x : pmust_I), runLn (pmust_px _ k) Tryz.f119 pmust_si pmust_so x some = pmust_body k x
  | (ss, l, n, b, p) => by kernel_rfl
theorem pmust_run (k : Nat) : FnLn Tryz.prog elT glT 119 pmust_si pmust_so (pmust_body k) := by
  refine fnLn_run Tryz.func119 rfl (by kernel_rfl) follows (by kernel_rfl) (n := 1) (by kernel_rfl) (px := pmust_px _ k) (fun cx hP hel hgl => ?_) (pmust_eq k)
  have hp0 : PxOk cx (pmust_px (pmust_O) k) := ⟨fun t => by rw [hP, hel]; exact tt_ok ttL_ok t, by rw [hgl]; rfl⟩
  have hc0 : CallOk cx (pmust_px (pmust_O) k) := callT_ok rfl (cfs_cons (cf_ln (by rw [hP, hel, hgl]; exact pis_ok) (by kernel_rfl)) (cfs_cons (cf_ln (by rw [hP, hel, hgl]; exact pwrong_ok) (by kernel_rfl)) cfs_nil))
  have hq0 : CallQOk cx (pmust_px (pmust_O) k) := callQT_ok rfl rfl cqfs_nil cwfs_nil
  have hlpmust_0 : LoopOk cx (pmust_px (pmust_O) k) (lp Tryz.f119 0) := loop_ok hp0 hc0 hq0 (by rw [hP]; exact follows) (k := k) (s := pmust_0_sg) (step := pmust_0) (fun _ _ => by kernel_rfl) (by kernel_rfl) (pmust_0_eq _ k) (loops_in (n := 0) (by kernel_rfl) all0)
  exact ⟨hp0, hc0, hq0, (allS all0 hlpmust_0)⟩
def pmust_F : pmust_I → Option pmust_O := fun x => pmust_body ((x.1.length + 1)) x
theorem pmust_ok : FnLn Tryz.prog elT glT 119 pmust_si pmust_so (pmust_F) := FnLn.fin (ι := Nat) (sg := pmust_si) (so := pmust_so) 0 (F := fun k => pmust_body k) (fun k => pmust_run k) fun x _ _ hx => ⟨(x.1.length + 1), hx⟩
/-! ## (*exchequer/parse.reader).name -/
def pname_si : Sig := ⟨1, [], [(0, .ptr 0 0)], [(0, .cells [.sl .tok false, .int .i64, .bool, .int .i64])], 1, 1, 0, [], []⟩
def pname_so : Sig := ⟨1, [(0, .str)], [], [(0, .cells [.sl .tok false, .int .i64, .bool, .int .i64])], 1, 1, 0, [], []⟩
abbrev pname_I := List Tok × Int × Bool × Int
abbrev pname_O := Str × List Tok × Int × Bool × Int
def pname_px (R : Type) : Px R := ⟨ttOf ttL, glT, callT [(158, callLn ppeek_si ppeek_so ppeek_F), (127, callLn pwrong_si pwrong_so pwrong_F), (159, callLn pnext_si pnext_so pnext_F)], callQT [], loopT [], tbl []⟩
def pname_body (x : pname_I) : Option (pname_O) := match x with
 | (l, n, b, p) =>
  (ppeek_F (l, n, b, p)).bind fun (x, x1, x2, x3, x4) =>
   let j := fun (p2 : Bool) =>
    cond (p2) (
     (pwrong_F (x1, x2, x3, x4)).bind fun (x5, x6, x7, x8) =>
      some ([], x5, x6, x7, x8)) (
     (pnext_F (x1, x2, x3, x4)).bind fun (x9, x10, x11, x12, x13) =>
      some (x9.s, x10, x11, x12, x13))
   cond (x3) (
    j true) (
    j (!decide (x.kind = 2)))
theorem pname_eq : ∀ (x : pname_I), runLn (pname_px _) Tryz.f120 pname_si pname_so x some = pname_body x
  | (l, n, b, p) => by kernel_rfl
theorem pname_run : FnLn Tryz.prog elT glT 120 pname_si pname_so (pname_body) := by
  refine fnLn_run Tryz.func120 rfl (by kernel_rfl) follows (by kernel_rfl) (n := 0) (by kernel_rfl) (px := pname_px _) (fun cx hP hel hgl => ?_) (pname_eq)
  have hp0 : PxOk cx (pname_px (pname_O)) := ⟨fun t => by rw [hP, hel]; exact tt_ok ttL_ok t, by rw [hgl]; rfl⟩
  have hc0 : CallOk cx (pname_px (pname_O)) := callT_ok rfl (cfs_cons (cf_ln (by rw [hP, hel, hgl]; exact ppeek_ok) (by kernel_rfl)) (cfs_cons (cf_ln (by rw [hP, hel, hgl]; exact pwrong_ok) (by kernel_rfl)) (cfs_cons (cf_ln (by rw [hP, hel, hgl]; exact pnext_ok) (by kernel_rfl)) cfs_nil)))
  have hq0 : CallQOk cx (pname_px (pname_O)) := callQT_ok rfl rfl cqfs_nil cwfs_nil
  exact ⟨hp0, hc0, hq0, all0⟩
def pname_F : pname_I → Option pname_O := fun x => pname_body x
theorem pname_ok : FnLn Tryz.prog elT glT 120 pname_si pname_so (pname_F) := pname_run
def por_si : Sig := ⟨1, [], [(0, .ptr 0 0)], [(0, .cells [.sl .tok false, .int .i64, .bool, .int .i64])], 1, 1, 0, [], []⟩
def por_so : Sig := ⟨1, [(0, .sv .expr)], [], [(0, .cells [.sl .tok false, .int .i64, .bool, .int .i64])], 1, 1, 0, [], []⟩
abbrev por_I := List Tok × Int × Bool × Int
abbrev por_O := Xpr × List Tok × Int × Bool × Int
/-! ## (*exchequer/parse.reader).tight -/
def ptight_si : Sig := ⟨1, [], [(0, .ptr 0 0)], [(0, .cells [.sl .tok false, .int .i64, .bool, .int .i64])], 1, 1, 0, [], []⟩
def ptight_so : Sig := ⟨1, [(0, .sv .expr)], [], [(0, .cells [.sl .tok false, .int .i64, .bool, .int .i64])], 1, 1, 0, [], []⟩
abbrev ptight_I := List Tok × Int × Bool × Int
abbrev ptight_O := Xpr × List Tok × Int × Bool × Int
def ptight_pxi0 (R : Type) (_rf : por_I → Option por_O) : Px R := ⟨ttOf ttL, glT, callT [(159, callLn pnext_si pnext_so pnext_F)], callQT [], loopT [], tbl []⟩
noncomputable def ptight_px (R : Type) (rf : por_I → Option por_O) : Px R := ⟨ttOf ttL, glT, callT [(158, callLn ppeek_si ppeek_so ppeek_F), (159, callLn pnext_si pnext_so pnext_F), (119, callLn pmust_si pmust_so pmust_F), (90, callLn por_si por_so rf), (209, callRun 80 400 (ptight_pxi0 R rf) Tryz.f209)], callQT [], loopT [], tbl []⟩
def ptight_body (rf : por_I → Option por_O) (x : ptight_I) : Option (ptight_O) := match x with
 | (l, n, b, p) =>
  (ppeek_F (l, n, b, p)).bind fun (x, x1, x2, x3, x4) =>
   cond (x3) (
    some ((Xpr.mk 0 ⟨0, 0, []⟩ [] []), x1, x2, x3, x4)) (
    cond (decide (x.kind = 2)) (
     (pnext_F (x1, x2, x3, x4)).bind fun (_, x6, x7, x8, x9) =>
      some ((Xpr.mk 2 ⟨0, 0, []⟩ x.s []), x6, x7, x8, x9)) (
     cond (decide (x.kind = 3)) (
      (pnext_F (x1, x2, x3, x4)).bind fun (_, x11, x12, x13, x14) =>
       some ((Xpr.mk 1 ⟨3, x.n, []⟩ [] []), x11, x12, x13, x14)) (
      cond (decide (x.kind = 4)) (
       (pnext_F (x1, x2, x3, x4)).bind fun (_, x16, x17, x18, x19) =>
        some ((Xpr.mk 1 ⟨4, 0, x.s⟩ [] []), x16, x17, x18, x19)) (
       cond (decide (x.kind = 5)) (
        (pnext_F (x1, x2, x3, x4)).bind fun (_, x21, x22, x23, x24) =>
         some ((Xpr.mk 1 ⟨5, 0, x.s⟩ [] []), x21, x22, x23, x24)) (
        let j2 := fun (p2 : Bool) =>
         cond (p2) (
          (pnext_F (x1, x2, x3, x4)).bind fun (_, x26, x27, x28, x29) =>
           some ((Xpr.mk 1 ⟨2, 1, []⟩ [] []), x26, x27, x28, x29)) (
          let j1 := fun (p4 : Bool) =>
           cond (p4) (
            (pnext_F (x1, x2, x3, x4)).bind fun (_, x31, x32, x33, x34) =>
             some ((Xpr.mk 1 ⟨2, 0, []⟩ [] []), x31, x32, x33, x34)) (
            let j := fun (p6 : Bool) =>
             cond (p6) (
              (pnext_F (x1, x2, x3, x4)).bind fun (_, x36, x37, x38, x39) =>
               some ((Xpr.mk 1 ⟨1, 0, []⟩ [] []), x36, x37, x38, x39)) (
              (pmust_F ([[40]], x1, x2, x3, x4)).bind fun (x40, x41, x42, x43) =>
               (rf (x40, x41, x42, x43)).bind fun (x44, x45, x46, x47, x48) =>
                (pmust_F ([[41]], x45, x46, x47, x48)).bind fun (x49, x50, x51, x52) =>
                 some (x44, x49, x50, x51, x52))
            cond (decide (x.kind = 1)) (
             j (decide (x.s = [78, 85, 76, 76]))) (
             j false))
          cond (decide (x.kind = 1)) (
           j1 (decide (x.s = [70, 65, 76, 83, 69]))) (
           j1 false))
        cond (decide (x.kind = 1)) (
         j2 (decide (x.s = [84, 82, 85, 69]))) (
         j2 false))))))
theorem ptight_eq (rf : por_I → Option por_O) : ∀ (x : ptight_I), runLn (ptight_px _ rf) Tryz.f208 ptight_si ptight_so x some = ptight_body rf x
  | (l, n, b, p) => by kernel_rfl
theorem ptight_run (rf : por_I → Option por_O) (hrf : FnLn Tryz.prog elT glT 90 por_si por_so rf) : FnLn Tryz.prog elT glT 208 ptight_si ptight_so (ptight_body rf) := by
  refine fnLn_run Tryz.func208 rfl (by kernel_rfl) follows (by kernel_rfl) (n := 0) (by kernel_rfl) (px := ptight_px _ rf) (fun cx hP hel hgl => ?_) (ptight_eq rf)
  have hp1 : PxOk cx (ptight_pxi0 (ptight_O) rf) := ⟨fun t => by rw [hP, hel]; exact tt_ok ttL_ok t, by rw [hgl]; rfl⟩
  have hc1 : CallOk cx (ptight_pxi0 (ptight_O) rf) := callT_ok rfl (cfs_cons (cf_ln (by rw [hP, hel, hgl]; exact pnext_ok) (by kernel_rfl)) cfs_nil)
  have hq1 : CallQOk cx (ptight_pxi0 (ptight_O) rf) := callQT_ok rfl rfl cqfs_nil cwfs_nil
  have hp0 : PxOk cx (ptight_px (ptight_O) rf) := ⟨fun t => by rw [hP, hel]; exact tt_ok ttL_ok t, by rw [hgl]; rfl⟩
  have hc0 : CallOk cx (ptight_px (ptight_O) rf) := callT_ok rfl (cfs_cons (cf_ln (by rw [hP, hel, hgl]; exact ppeek_ok) (by kernel_rfl)) (cfs_cons (cf_ln (by rw [hP, hel, hgl]; exact pnext_ok) (by kernel_rfl)) (cfs_cons (cf_ln (by rw [hP, hel, hgl]; exact pmust_ok) (by kernel_rfl)) (cfs_cons (cf_ln (by rw [hP, hel, hgl]; exact hrf) (by kernel_rfl)) (cfs_cons (cf_run hp1 hc1 hq1 (by rw [hP]; exact follows) (by rw [hP]; exact Tryz.func209) rfl (by kernel_rfl) (by kernel_rfl) (n := 0) (by kernel_rfl) (all0)) cfs_nil)))))
  have hq0 : CallQOk cx (ptight_px (ptight_O) rf) := callQT_ok rfl rfl cqfs_nil cwfs_nil
  exact ⟨hp0, hc0, hq0, all0⟩
def ptight_F (rf : por_I → Option por_O) : ptight_I → Option ptight_O := fun x => ptight_body rf x
theorem ptight_ok (rf : por_I → Option por_O) (hrf : FnLn Tryz.prog elT glT 90 por_si por_so rf) : FnLn Tryz.prog elT glT 208 ptight_si ptight_so (ptight_F rf) := ptight_run rf hrf
/-! ## (*exchequer/parse.reader).neg -/
def pneg_si : Sig := ⟨1, [], [(0, .ptr 0 0)], [(0, .cells [.sl .tok false, .int .i64, .bool, .int .i64])], 1, 1, 0, [], []⟩
def pneg_so : Sig := ⟨1, [(0, .sv .expr)], [], [(0, .cells [.sl .tok false, .int .i64, .bool, .int .i64])], 1, 1, 0, [], []⟩
abbrev pneg_I := List Tok × Int × Bool × Int
abbrev pneg_O := Xpr × List Tok × Int × Bool × Int
def pneg_1_sg : Sig := ⟨36, [(2, .int .i64), (27, .int .i64), (28, .int .i64)], [(8, .ptr 80 0), (10, .ptr 81 0)], [(0, .cells [.sl .tok false, .int .i64, .bool, .int .i64]), (1, .one (.sv .expr)), (80, .one (.sv .expr)), (81, .one (.sv .expr))], 82, 80, 400, [], []⟩
abbrev pneg_1_V := Int × Int × Int × List Tok × Int × Bool × Int × Xpr × Xpr × Xpr
def pneg_1 {R : Type} (rec : pneg_1_V → Option R) (kx : Ex → pneg_1_V → Option R) (v : pneg_1_V) : Option R := match v with
 | (v12, v13, v14, w6, w7, w8, w9, w10, w11, w12) =>
  cond (decide (v14 < v13)) (
   rec (v12, v13, (wr .i64 (v14 + 1)), w6, w7, w8, w9, w10, w11, (Xpr.mk v12 ⟨0, 0, []⟩ [] [w12]))) (
   kx (.exit 2) (v12, v13, v14, w6, w7, w8, w9, w10, w11, w12))
def pneg_0_sg : Sig := ⟨36, [(1, .str), (2, .int .i64), (9, .int .i64)], [(0, .ptr 0 0), (3, .bm 208 [.ptr 0 0]), (8, .ptr 80 0)], [(0, .cells [.sl .tok false, .int .i64, .bool, .int .i64]), (1, .one (.sv .expr)), (80, .one (.sv .expr))], 81, 80, 400, [], []⟩
abbrev pneg_0_V := Str × Int × Int × List Tok × Int × Bool × Int × Xpr × Xpr
def pneg_0 {R : Type} (rec : pneg_0_V → Option R) (kx : Ex → pneg_0_V → Option R) (v : pneg_0_V) : Option R := match v with
 | (v, v1, v2, w, w1, w2, w3, w4, w5) =>
  cond (!w2) (
   (pis_F (v, w, w1, w2, w3)).bind fun (x, x1, x2, x3, x4) =>
    cond (x) (
     rec (v, v1, (wr .i64 (v2 + 1)), x1, x2, x3, x4, w4, w5)) (
     kx (.exit 0) (v, v1, v2, x1, x2, x3, x4, w4, w5))) (
   kx (.exit 0) (v, v1, v2, w, w1, w2, w3, w4, w5))
def pneg_pxi0 (R : Type) (k : Nat) (rf : por_I → Option por_O) : Px R := ⟨ttOf ttL, glT, callT [(117, callLn pis_si pis_so pis_F), (208, callLn ptight_si ptight_so (ptight_F rf))], callQT [], loopT [(2, loopOr k pneg_0_sg (pneg_0)), (6, loopOr k pneg_1_sg (pneg_1))], tbl []⟩
noncomputable def pneg_px (R : Type) (k : Nat) (rf : por_I → Option por_O) : Px R := ⟨ttOf ttL, glT, callT [(185, callRun 80 400 (pneg_pxi0 R k rf) Tryz.f185)], callQT [], loopT [], tbl []⟩
theorem pneg_0_eq (R : Type) (k : Nat) (rf : por_I → Option por_O) : ∀ (fr : List Fr) (rec : pneg_0_V → Option R) (kx : Ex → pneg_0_V → Option R) (v : pneg_0_V), round (pneg_pxi0 R k rf) pneg_0_sg (lp Tryz.f185 0) fr rec kx v = pneg_0 rec kx v
  | fr, rec, kx, (v, v1, v2, w, w1, w2, w3, w4, w5) => by kernel_rfl
theorem pneg_1_eq (R : Type) (k : Nat) (rf : por_I → Option por_O) : ∀ (fr : List Fr) (rec : pneg_1_V → Option R) (kx : Ex → pneg_1_V → Option R) (v : pneg_1_V), round (pneg_pxi0 R k rf) pneg_1_sg (lp Tryz.f185 1) fr rec kx v = pneg_1 rec kx v
  | fr, rec, kx, (v12, v13, v14, w6, w7, w8, w9, w10, w11, w12) => by kernel_rfl
def pneg_body (k : Nat) (rf : por_I → Option por_O) (x : pneg_I) : Option (pneg_O) := match x with
 | (l, n, b, p) =>
  iter (fun rec => pneg_0 rec (fun e vz => match vz with | (_, v4, v5, v6, v7, v8, v9, v10, v11) => match e with
   | .exit 0 =>
    (ptight_F rf (v6, v7, v8, v9)).bind fun (x5, x6, x7, x8, x9) =>
     iter (fun rec => pneg_1 rec (fun e vz => match vz with | (_, _, _, v18, v19, v20, v21, _, _, v24) => match e with
      | .exit 2 =>
       some (v24, v18, v19, v20, v21)
      | _ => none)) k (v4, v5, 0, x6, x7, x8, x9, v10, v11, x5)
   | _ => none)) k ([45], 15, 0, l, n, b, p, (Xpr.mk 0 ⟨0, 0, []⟩ [] []), (Xpr.mk 0 ⟨0, 0, []⟩ [] []))
theorem pneg_eq (k : Nat) (rf : por_I → Option por_O) : ∀ (x : pneg_I), runLn (pneg_px _ k rf) Tryz.f206 pneg_si pneg_so x some = pneg_body k rf x
  | (l, n, b, p) => by kernel_rfl
theorem pneg_run (k : Nat) (rf : por_I → Option por_O) (hrf : FnLn Tryz.prog elT glT 90 por_si por_so rf) : FnLn Tryz.prog elT glT 206 pneg_si pneg_so (pneg_body k rf) := by
  refine fnLn_run Tryz.func206 rfl (by kernel_rfl) follows (by kernel_rfl) (n := 0) (by kernel_rfl) (px := pneg_px _ k rf) (fun cx hP hel hgl => ?_) (pneg_eq k rf)
  have hp1 : PxOk cx (pneg_pxi0 (pneg_O) k rf) := ⟨fun t => by rw [hP, hel]; exact tt_ok ttL_ok t, by rw [hgl]; rfl⟩
  have hc1 : CallOk cx (pneg_pxi0 (pneg_O) k rf) := callT_ok rfl (cfs_cons (cf_ln (by rw [hP, hel, hgl]; exact pis_ok) (by kernel_rfl)) (cfs_cons (cf_ln (by rw [hP, hel, hgl]; exact ptight_ok rf hrf) (by kernel_rfl)) cfs_nil))
  have hq1 : CallQOk cx (pneg_pxi0 (pneg_O) k rf) := callQT_ok rfl rfl cqfs_nil cwfs_nil
  have hlpneg_0 : LoopOk cx (pneg_pxi0 (pneg_O) k rf) (lp Tryz.f185 0) := loop_ok hp1 hc1 hq1 (by rw [hP]; exact follows) (k := k) (s := pneg_0_sg) (step := pneg_0) (fun _ _ => by kernel_rfl) (by kernel_rfl) (pneg_0_eq _ k rf) (loops_in (n := 0) (by kernel_rfl) all0)
  have hlpneg_1 : LoopOk cx (pneg_pxi0 (pneg_O) k rf) (lp Tryz.f185 1) := loop_ok hp1 hc1 hq1 (by rw [hP]; exact follows) (k := k) (s := pneg_1_sg) (step := pneg_1) (fun _ _ => by kernel_rfl) (by kernel_rfl) (pneg_1_eq _ k rf) (loops_in (n := 0) (by kernel_rfl) all0)
  have hp0 : PxOk cx (pneg_px (pneg_O) k rf) := ⟨fun t => by rw [hP, hel]; exact tt_ok ttL_ok t, by rw [hgl]; rfl⟩
  have hc0 : CallOk cx (pneg_px (pneg_O) k rf) := callT_ok rfl (cfs_cons (cf_run hp1 hc1 hq1 (by rw [hP]; exact follows) (by rw [hP]; exact Tryz.func185) rfl (by kernel_rfl) (by kernel_rfl) (n := 2) (by kernel_rfl) ((allS (allS all0 hlpneg_0) hlpneg_1))) cfs_nil)
  have hq0 : CallQOk cx (pneg_px (pneg_O) k rf) := callQT_ok rfl rfl cqfs_nil cwfs_nil
  exact ⟨hp0, hc0, hq0, all0⟩
def pneg_F (rf : por_I → Option por_O) : pneg_I → Option pneg_O := fun x => pneg_body ((x.1.length + 1)) rf x
theorem pneg_ok (rf : por_I → Option por_O) (hrf : FnLn Tryz.prog elT glT 90 por_si por_so rf) : FnLn Tryz.prog elT glT 206 pneg_si pneg_so (pneg_F rf) := FnLn.fin (ι := Nat) (sg := pneg_si) (so := pneg_so) 0 (F := fun k => pneg_body k rf) (fun k => pneg_run k rf hrf) fun x _ _ hx => ⟨(x.1.length + 1), hx⟩
/-! ## (*exchequer/parse.reader).product -/
def pproduct_si : Sig := ⟨1, [], [(0, .ptr 0 0)], [(0, .cells [.sl .tok false, .int .i64, .bool, .int .i64])], 1, 1, 0, [], []⟩
def pproduct_so : Sig := ⟨1, [(0, .sv .expr)], [], [(0, .cells [.sl .tok false, .int .i64, .bool, .int .i64])], 1, 1, 0, [], []⟩
abbrev pproduct_I := List Tok × Int × Bool × Int
abbrev pproduct_O := Xpr × List Tok × Int × Bool × Int
def pproduct_1_sg : Sig := ⟨38, [(2, .sl .pair true), (17, .sl .pair false), (18, .int .i64), (19, .int .i64)], [(0, .ptr 0 0), (1, .bm 206 [.ptr 0 0]), (6, .ptr 80 0), (7, .ptr 81 0)], [(0, .cells [.sl .tok false, .int .i64, .bool, .int .i64]), (1, .one (.sv .expr)), (80, .one (.sv .expr)), (81, .one (.sv .expr))], 82, 80, 400, [], []⟩
abbrev pproduct_1_V := List PairS × List PairS × Int × Int × List Tok × Int × Bool × Int × Xpr × Xpr × Xpr
def pproduct_1 {R : Type} (rf : por_I → Option por_O) (rec : pproduct_1_V → Option R) (kx : Ex → pproduct_1_V → Option R) (v : pproduct_1_V) : Option R := match v with
 | (v1, v2, v3, v4, w7, w8, w9, w10, w11, w12, w13) =>
  cond (decide (v4 < v3)) (
   chk (inb v4 v2.length) (
    (pis_F ((at' .pair v2 v4).sign, w7, w8, w9, w10)).bind fun (x5, x6, x7, x8, x9) =>
     cond (x5) (
      (pneg_F rf (x6, x7, x8, x9)).bind fun (x10, x11, x12, x13, x14) =>
       kx (.exit 1) (v1, v2, v3, v4, x11, x12, x13, x14, w11, w12, (Xpr.mk ((at' .pair v2 v4).kind) ⟨0, 0, []⟩ [] [w13, x10]))) (
      rec (v1, v2, v3, (wr .i64 (v4 + 1)), x6, x7, x8, x9, w11, w12, w13)))) (
   kx (.exit 2) (v1, v2, v3, v4, w7, w8, w9, w10, w11, w12, w13))
def pproduct_0_sg : Sig := ⟨38, [(2, .sl .pair true)], [(0, .ptr 0 0), (1, .bm 206 [.ptr 0 0]), (6, .ptr 80 0), (7, .ptr 81 0)], [(0, .cells [.sl .tok false, .int .i64, .bool, .int .i64]), (1, .one (.sv .expr)), (80, .one (.sv .expr)), (81, .one (.sv .expr))], 82, 80, 400, [], []⟩
abbrev pproduct_0_V := List PairS × List Tok × Int × Bool × Int × Xpr × Xpr × Xpr
def pproduct_0 {R : Type} (k : Nat) (rf : por_I → Option por_O) (rec : pproduct_0_V → Option R) (kx : Ex → pproduct_0_V → Option R) (v : pproduct_0_V) : Option R := match v with
 | (v, w, w1, w2, w3, w4, w5, w6) =>
  cond (!w2) (
   iter (fun rc => pproduct_1 rf rc (fun e vz => match vz with | (v5, _, _, _, v9, v10, v11, v12, v13, v14, v15) => match e with
    | .exit 1 =>
     rec (v5, v9, v10, v11, v12, v13, v14, v15)
    | .exit 2 =>
     kx (.exit 0) (v5, v9, v10, v11, v12, v13, v14, v15)
    | _ => none)) k (v, v, (v.length : Int), 0, w, w1, w2, w3, w4, w5, w6)) (
   kx (.exit 0) (v, w, w1, w2, w3, w4, w5, w6))
def pproduct_pxi0 (R : Type) (k : Nat) (rf : por_I → Option por_O) : Px R := ⟨ttOf ttL, glT, callT [(206, callLn pneg_si pneg_so (pneg_F rf)), (117, callLn pis_si pis_so pis_F)], callQT [], loopT [(4, loopOr k pproduct_1_sg (pproduct_1 rf)), (2, loopOr k pproduct_0_sg (pproduct_0 k rf))], tbl [(206, callLnW pneg_si pneg_so (pneg_F rf))]⟩
noncomputable def pproduct_px (R : Type) (k : Nat) (rf : por_I → Option por_O) : Px R := ⟨ttOf ttL, glT, callT [(137, callRun 80 400 (pproduct_pxi0 R k rf) Tryz.f137)], callQT [], loopT [], tbl []⟩
theorem pproduct_1_eq (R : Type) (k : Nat) (rf : por_I → Option por_O) : ∀ (fr : List Fr) (rec : pproduct_1_V → Option R) (kx : Ex → pproduct_1_V → Option R) (v : pproduct_1_V), round (pproduct_pxi0 R k rf) pproduct_1_sg (lpC (lp Tryz.f137 0) 0) fr rec kx v = pproduct_1 rf rec kx v
  | fr, rec, kx, (v1, v2, v3, v4, w7, w8, w9, w10, w11, w12, w13) => by kernel_rfl
theorem pproduct_0_eq (R : Type) (k : Nat) (rf : por_I → Option por_O) : ∀ (fr : List Fr) (rec : pproduct_0_V → Option R) (kx : Ex → pproduct_0_V → Option R) (v : pproduct_0_V), round (pproduct_pxi0 R k rf) pproduct_0_sg (lp Tryz.f137 0) fr rec kx v = pproduct_0 k rf rec kx v
  | fr, rec, kx, (v, w, w1, w2, w3, w4, w5, w6) => by kernel_rfl
def pproduct_body (k : Nat) (rf : por_I → Option por_O) (x : pproduct_I) : Option (pproduct_O) := match x with
 | (l, n, b, p) =>
  (pneg_F rf (l, n, b, p)).bind fun (x, x1, x2, x3, x4) =>
   iter (fun rec => pproduct_0 k rf rec (fun e vz => match vz with | (_, v17, v18, v19, v20, _, _, v23) => match e with
    | .exit 0 =>
     some (v23, v17, v18, v19, v20)
    | _ => none)) k ([(PairS.mk [42] 14)], x1, x2, x3, x4, (Xpr.mk 0 ⟨0, 0, []⟩ [] []), (Xpr.mk 0 ⟨0, 0, []⟩ [] []), x)
theorem pproduct_eq (k : Nat) (rf : por_I → Option por_O) : ∀ (x : pproduct_I), runLn (pproduct_px _ k rf) Tryz.f202 pproduct_si pproduct_so x some = pproduct_body k rf x
  | (l, n, b, p) => by kernel_rfl
theorem pproduct_run (k : Nat) (rf : por_I → Option por_O) (hrf : FnLn Tryz.prog elT glT 90 por_si por_so rf) : FnLn Tryz.prog elT glT 202 pproduct_si pproduct_so (pproduct_body k rf) := by
  refine fnLn_run Tryz.func202 rfl (by kernel_rfl) follows (by kernel_rfl) (n := 0) (by kernel_rfl) (px := pproduct_px _ k rf) (fun cx hP hel hgl => ?_) (pproduct_eq k rf)
  have hp1 : PxOk cx (pproduct_pxi0 (pproduct_O) k rf) := ⟨fun t => by rw [hP, hel]; exact tt_ok ttL_ok t, by rw [hgl]; rfl⟩
  have hc1 : CallOk cx (pproduct_pxi0 (pproduct_O) k rf) := callT_ok rfl (cfs_cons (cf_ln (by rw [hP, hel, hgl]; exact pneg_ok rf hrf) (by kernel_rfl)) (cfs_cons (cf_ln (by rw [hP, hel, hgl]; exact pis_ok) (by kernel_rfl)) cfs_nil))
  have hq1 : CallQOk cx (pproduct_pxi0 (pproduct_O) k rf) := callQT_ok rfl rfl cqfs_nil (cwfs_cons (cw_ln (by rw [hP, hel, hgl]; exact pneg_ok rf hrf) (by kernel_rfl)) cwfs_nil)
  have hlpproduct_1 : LoopOk cx (pproduct_pxi0 (pproduct_O) k rf) (lpC (lp Tryz.f137 0) 0) := loop_ok hp1 hc1 hq1 (by rw [hP]; exact follows) (k := k) (s := pproduct_1_sg) (step := pproduct_1 rf) (fun _ _ => by kernel_rfl) (by kernel_rfl) (pproduct_1_eq _ k rf) (loops_in (n := 0) (by kernel_rfl) all0)
  have hlpproduct_0 : LoopOk cx (pproduct_pxi0 (pproduct_O) k rf) (lp Tryz.f137 0) := loop_ok hp1 hc1 hq1 (by rw [hP]; exact follows) (k := k) (s := pproduct_0_sg) (step := pproduct_0 k rf) (fun _ _ => by kernel_rfl) (by kernel_rfl) (pproduct_0_eq _ k rf) (loops_in (n := 1) (by kernel_rfl) (allS all0 hlpproduct_1))
  have hp0 : PxOk cx (pproduct_px (pproduct_O) k rf) := ⟨fun t => by rw [hP, hel]; exact tt_ok ttL_ok t, by rw [hgl]; rfl⟩
  have hc0 : CallOk cx (pproduct_px (pproduct_O) k rf) := callT_ok rfl (cfs_cons (cf_run hp1 hc1 hq1 (by rw [hP]; exact follows) (by rw [hP]; exact Tryz.func137) rfl (by kernel_rfl) (by kernel_rfl) (n := 2) (by kernel_rfl) ((allS (allS all0 hlpproduct_0) hlpproduct_1))) cfs_nil)
  have hq0 : CallQOk cx (pproduct_px (pproduct_O) k rf) := callQT_ok rfl rfl cqfs_nil cwfs_nil
  exact ⟨hp0, hc0, hq0, all0⟩
def pproduct_F (rf : por_I → Option por_O) : pproduct_I → Option pproduct_O := fun x => pproduct_body ((x.1.length + 3)) rf x
theorem pproduct_ok (rf : por_I → Option por_O) (hrf : FnLn Tryz.prog elT glT 90 por_si por_so rf) : FnLn Tryz.prog elT glT 202 pproduct_si pproduct_so (pproduct_F rf) := FnLn.fin (ι := Nat) (sg := pproduct_si) (so := pproduct_so) 0 (F := fun k => pproduct_body k rf) (fun k => pproduct_run k rf hrf) fun x _ _ hx => ⟨(x.1.length + 3), hx⟩
/-! ## (*exchequer/parse.reader).sum -/
def psum_si : Sig := ⟨1, [], [(0, .ptr 0 0)], [(0, .cells [.sl .tok false, .int .i64, .bool, .int .i64])], 1, 1, 0, [], []⟩
def psum_so : Sig := ⟨1, [(0, .sv .expr)], [], [(0, .cells [.sl .tok false, .int .i64, .bool, .int .i64])], 1, 1, 0, [], []⟩
abbrev psum_I := List Tok × Int × Bool × Int
abbrev psum_O := Xpr × List Tok × Int × Bool × Int
def psum_1_sg : Sig := ⟨38, [(2, .sl .pair true), (17, .sl .pair false), (18, .int .i64), (19, .int .i64)], [(0, .ptr 0 0), (1, .bm 202 [.ptr 0 0]), (6, .ptr 80 0), (7, .ptr 81 0)], [(0, .cells [.sl .tok false, .int .i64, .bool, .int .i64]), (1, .one (.sv .expr)), (80, .one (.sv .expr)), (81, .one (.sv .expr))], 82, 80, 400, [], []⟩
abbrev psum_1_V := List PairS × List PairS × Int × Int × List Tok × Int × Bool × Int × Xpr × Xpr × Xpr
def psum_1 {R : Type} (rf : por_I → Option por_O) (rec : psum_1_V → Option R) (kx : Ex → psum_1_V → Option R) (v : psum_1_V) : Option R := match v with
 | (v1, v2, v3, v4, w7, w8, w9, w10, w11, w12, w13) =>
  cond (decide (v4 < v3)) (
   chk (inb v4 v2.length) (
    (pis_F ((at' .pair v2 v4).sign, w7, w8, w9, w10)).bind fun (x5, x6, x7, x8, x9) =>
     cond (x5) (
      (pproduct_F rf (x6, x7, x8, x9)).bind fun (x10, x11, x12, x13, x14) =>
       kx (.exit 1) (v1, v2, v3, v4, x11, x12, x13, x14, w11, w12, (Xpr.mk ((at' .pair v2 v4).kind) ⟨0, 0, []⟩ [] [w13, x10]))) (
      rec (v1, v2, v3, (wr .i64 (v4 + 1)), x6, x7, x8, x9, w11, w12, w13)))) (
   kx (.exit 2) (v1, v2, v3, v4, w7, w8, w9, w10, w11, w12, w13))
def psum_0_sg : Sig := ⟨38, [(2, .sl .pair true)], [(0, .ptr 0 0), (1, .bm 202 [.ptr 0 0]), (6, .ptr 80 0), (7, .ptr 81 0)], [(0, .cells [.sl .tok false, .int .i64, .bool, .int .i64]), (1, .one (.sv .expr)), (80, .one (.sv .expr)), (81, .one (.sv .expr))], 82, 80, 400, [], []⟩
abbrev psum_0_V := List PairS × List Tok × Int × Bool × Int × Xpr × Xpr × Xpr
def psum_0 {R : Type} (k : Nat) (rf : por_I → Option por_O) (rec : psum_0_V → Option R) (kx : Ex → psum_0_V → Option R) (v : psum_0_V) : Option R := match v with
 | (v, w, w1, w2, w3, w4, w5, w6) =>
  cond (!w2) (
   iter (fun rc => psum_1 rf rc (fun e vz => match vz with | (v5, _, _, _, v9, v10, v11, v12, v13, v14, v15) => match e with
    | .exit 1 =>
     rec (v5, v9, v10, v11, v12, v13, v14, v15)
    | .exit 2 =>
     kx (.exit 0) (v5, v9, v10, v11, v12, v13, v14, v15)
    | _ => none)) k (v, v, (v.length : Int), 0, w, w1, w2, w3, w4, w5, w6)) (
   kx (.exit 0) (v, w, w1, w2, w3, w4, w5, w6))
def psum_pxi0 (R : Type) (k : Nat) (rf : por_I → Option por_O) : Px R := ⟨ttOf ttL, glT, callT [(202, callLn pproduct_si pproduct_so (pproduct_F rf)), (117, callLn pis_si pis_so pis_F)], callQT [], loopT [(4, loopOr k psum_1_sg (psum_1 rf)), (2, loopOr k psum_0_sg (psum_0 k rf))], tbl [(202, callLnW pproduct_si pproduct_so (pproduct_F rf))]⟩
noncomputable def psum_px (R : Type) (k : Nat) (rf : por_I → Option por_O) : Px R := ⟨ttOf ttL, glT, callT [(137, callRun 80 400 (psum_pxi0 R k rf) Tryz.f137)], callQT [], loopT [], tbl []⟩
theorem psum_1_eq (R : Type) (k : Nat) (rf : por_I → Option por_O) : ∀ (fr : List Fr) (rec : psum_1_V → Option R) (kx : Ex → psum_1_V → Option R) (v : psum_1_V), round (psum_pxi0 R k rf) psum_1_sg (lpC (lp Tryz.f137 0) 0) fr rec kx v = psum_1 rf rec kx v
  | fr, rec, kx, (v1, v2, v3, v4, w7, w8, w9, w10, w11, w12, w13) => by kernel_rfl
theorem psum_0_eq (R : Type) (k : Nat) (rf : por_I → Option por_O) : ∀ (fr : List Fr) (rec : psum_0_V → Option R) (kx : Ex → psum_0_V → Option R) (v : psum_0_V), round (psum_pxi0 R k rf) psum_0_sg (lp Tryz.f137 0) fr rec kx v = psum_0 k rf rec kx v
  | fr, rec, kx, (v, w, w1, w2, w3, w4, w5, w6) => by kernel_rfl
def psum_body (k : Nat) (rf : por_I → Option por_O) (x : psum_I) : Option (psum_O) := match x with
 | (l, n, b, p) =>
  (pproduct_F rf (l, n, b, p)).bind fun (x, x1, x2, x3, x4) =>
   iter (fun rec => psum_0 k rf rec (fun e vz => match vz with | (_, v17, v18, v19, v20, _, _, v23) => match e with
    | .exit 0 =>
     some (v23, v17, v18, v19, v20)
    | _ => none)) k ([(PairS.mk [43] 12), (PairS.mk [45] 13)], x1, x2, x3, x4, (Xpr.mk 0 ⟨0, 0, []⟩ [] []), (Xpr.mk 0 ⟨0, 0, []⟩ [] []), x)
theorem psum_eq (k : Nat) (rf : por_I → Option por_O) : ∀ (x : psum_I), runLn (psum_px _ k rf) Tryz.f196 psum_si psum_so x some = psum_body k rf x
  | (l, n, b, p) => by kernel_rfl
theorem psum_run (k : Nat) (rf : por_I → Option por_O) (hrf : FnLn Tryz.prog elT glT 90 por_si por_so rf) : FnLn Tryz.prog elT glT 196 psum_si psum_so (psum_body k rf) := by
  refine fnLn_run Tryz.func196 rfl (by kernel_rfl) follows (by kernel_rfl) (n := 0) (by kernel_rfl) (px := psum_px _ k rf) (fun cx hP hel hgl => ?_) (psum_eq k rf)
  have hp1 : PxOk cx (psum_pxi0 (psum_O) k rf) := ⟨fun t => by rw [hP, hel]; exact tt_ok ttL_ok t, by rw [hgl]; rfl⟩
  have hc1 : CallOk cx (psum_pxi0 (psum_O) k rf) := callT_ok rfl (cfs_cons (cf_ln (by rw [hP, hel, hgl]; exact pproduct_ok rf hrf) (by kernel_rfl)) (cfs_cons (cf_ln (by rw [hP, hel, hgl]; exact pis_ok) (by kernel_rfl)) cfs_nil))
  have hq1 : CallQOk cx (psum_pxi0 (psum_O) k rf) := callQT_ok rfl rfl cqfs_nil (cwfs_cons (cw_ln (by rw [hP, hel, hgl]; exact pproduct_ok rf hrf) (by kernel_rfl)) cwfs_nil)
  have hlpsum_1 : LoopOk cx (psum_pxi0 (psum_O) k rf) (lpC (lp Tryz.f137 0) 0) := loop_ok hp1 hc1 hq1 (by rw [hP]; exact follows) (k := k) (s := psum_1_sg) (step := psum_1 rf) (fun _ _ => by kernel_rfl) (by kernel_rfl) (psum_1_eq _ k rf) (loops_in (n := 0) (by kernel_rfl) all0)
  have hlpsum_0 : LoopOk cx (psum_pxi0 (psum_O) k rf) (lp Tryz.f137 0) := loop_ok hp1 hc1 hq1 (by rw [hP]; exact follows) (k := k) (s := psum_0_sg) (step := psum_0 k rf) (fun _ _ => by kernel_rfl) (by kernel_rfl) (psum_0_eq _ k rf) (loops_in (n := 1) (by kernel_rfl) (allS all0 hlpsum_1))
  have hp0 : PxOk cx (psum_px (psum_O) k rf) := ⟨fun t => by rw [hP, hel]; exact tt_ok ttL_ok t, by rw [hgl]; rfl⟩
  have hc0 : CallOk cx (psum_px (psum_O) k rf) := callT_ok rfl (cfs_cons (cf_run hp1 hc1 hq1 (by rw [hP]; exact follows) (by rw [hP]; exact Tryz.func137) rfl (by kernel_rfl) (by kernel_rfl) (n := 2) (by kernel_rfl) ((allS (allS all0 hlpsum_0) hlpsum_1))) cfs_nil)
  have hq0 : CallQOk cx (psum_px (psum_O) k rf) := callQT_ok rfl rfl cqfs_nil cwfs_nil
  exact ⟨hp0, hc0, hq0, all0⟩
def psum_F (rf : por_I → Option por_O) : psum_I → Option psum_O := fun x => psum_body ((x.1.length + 3)) rf x
theorem psum_ok (rf : por_I → Option por_O) (hrf : FnLn Tryz.prog elT glT 90 por_si por_so rf) : FnLn Tryz.prog elT glT 196 psum_si psum_so (psum_F rf) := FnLn.fin (ι := Nat) (sg := psum_si) (so := psum_so) 0 (F := fun k => psum_body k rf) (fun k => psum_run k rf hrf) fun x _ _ hx => ⟨(x.1.length + 3), hx⟩
/-! ## (*exchequer/parse.reader).compared -/
def pcmp_si : Sig := ⟨1, [], [(0, .ptr 0 0)], [(0, .cells [.sl .tok false, .int .i64, .bool, .int .i64])], 1, 1, 0, [], []⟩
def pcmp_so : Sig := ⟨1, [(0, .sv .expr)], [], [(0, .cells [.sl .tok false, .int .i64, .bool, .int .i64])], 1, 1, 0, [], []⟩
abbrev pcmp_I := List Tok × Int × Bool × Int
abbrev pcmp_O := Xpr × List Tok × Int × Bool × Int
def pcmp_0_sg : Sig := ⟨61, [(20, .sl .pair true), (21, .int .i64), (22, .int .i64)], [(0, .ptr 0 0), (2, .ptr 1 0), (3, .ptr 2 0)], [(0, .cells [.sl .tok false, .int .i64, .bool, .int .i64]), (1, .one (.sv .expr)), (2, .one (.sv .expr))], 3, 1, 0, [], []⟩
abbrev pcmp_0_V := List PairS × Int × Int × List Tok × Int × Bool × Int × Xpr × Xpr
def pcmp_0 {R : Type} (rf : por_I → Option por_O) (rec : pcmp_0_V → Option R) (kx : Ex → pcmp_0_V → Option R) (v : pcmp_0_V) : Option R := match v with
 | (v, v1, v2, w, w1, w2, w3, w4, w5) =>
  cond (decide (v2 < v1)) (
   chk (inb v2 v.length) (
    (pis_F ((at' .pair v v2).sign, w, w1, w2, w3)).bind fun (x5, x6, x7, x8, x9) =>
     cond (x5) (
      (psum_F rf (x6, x7, x8, x9)).bind fun (x10, x11, x12, x13, x14) =>
       kx .ret (v, v1, v2, x11, x12, x13, x14, (Xpr.mk ((at' .pair v v2).kind) ⟨0, 0, []⟩ [] [w5, x10]), w5)) (
      rec (v, v1, (wr .i64 (v2 + 1)), x6, x7, x8, x9, w4, w5)))) (
   kx (.exit 0) (v, v1, v2, w, w1, w2, w3, w4, w5))
def pcmp_px (R : Type) (k : Nat) (rf : por_I → Option por_O) : Px R := ⟨ttOf ttL, glT, callT [(196, callLn psum_si psum_so (psum_F rf)), (117, callLn pis_si pis_so pis_F), (119, callLn pmust_si pmust_so pmust_F)], callQT [], loopT [(5, loopOr k pcmp_0_sg (pcmp_0 rf))], tbl [(196, callLnW psum_si psum_so (psum_F rf))]⟩
theorem pcmp_0_eq (R : Type) (k : Nat) (rf : por_I → Option por_O) : ∀ (fr : List Fr) (rec : pcmp_0_V → Option R) (kx : Ex → pcmp_0_V → Option R) (v : pcmp_0_V), round (pcmp_px R k rf) pcmp_0_sg (lp Tryz.f186 0) fr rec kx v = pcmp_0 rf rec kx v
  | fr, rec, kx, (v, v1, v2, w, w1, w2, w3, w4, w5) => by kernel_rfl
def pcmp_body (k : Nat) (rf : por_I → Option por_O) (x : pcmp_I) : Option (pcmp_O) := match x with
 | (l, n, b, p) =>
  (psum_F rf (l, n, b, p)).bind fun (x, x1, x2, x3, x4) =>
   cond (x3) (
    some (x, x1, x2, x3, x4)) (
    iter (fun rec => pcmp_0 rf rec (fun e vz => match vz with | (_, _, _, v6, v7, v8, v9, v10, v11) => match e with
     | .ret =>
      some (v10, v6, v7, v8, v9)
     | .exit 0 =>
      (pis_F ([73, 83], v6, v7, v8, v9)).bind fun (x15, x16, x17, x18, x19) =>
       cond (!x15) (
        some (v11, x16, x17, x18, x19)) (
        (pis_F ([78, 79, 84], x16, x17, x18, x19)).bind fun (x20, x21, x22, x23, x24) =>
         (pmust_F ([[78, 85, 76, 76]], x21, x22, x23, x24)).bind fun (x25, x26, x27, x28) =>
          cond (x20) (
           some ((Xpr.mk 3 ⟨0, 0, []⟩ [] [(Xpr.mk 16 ⟨0, 0, []⟩ [] [v11])]), x25, x26, x27, x28)) (
           some ((Xpr.mk 16 ⟨0, 0, []⟩ [] [v11]), x25, x26, x27, x28)))
     | _ => none)) k ([(PairS.mk [61] 6), (PairS.mk [60, 62] 7), (PairS.mk [60] 8), (PairS.mk [60, 61] 9), (PairS.mk [62] 10), (PairS.mk [62, 61] 11)], 6, 0, x1, x2, x3, x4, (Xpr.mk 0 ⟨0, 0, []⟩ [] []), x))
theorem pcmp_eq (k : Nat) (rf : por_I → Option por_O) : ∀ (x : pcmp_I), runLn (pcmp_px _ k rf) Tryz.f186 pcmp_si pcmp_so x some = pcmp_body k rf x
  | (l, n, b, p) => by kernel_rfl
theorem pcmp_run (k : Nat) (rf : por_I → Option por_O) (hrf : FnLn Tryz.prog elT glT 90 por_si por_so rf) : FnLn Tryz.prog elT glT 186 pcmp_si pcmp_so (pcmp_body k rf) := by
  refine fnLn_run Tryz.func186 rfl (by kernel_rfl) follows (by kernel_rfl) (n := 1) (by kernel_rfl) (px := pcmp_px _ k rf) (fun cx hP hel hgl => ?_) (pcmp_eq k rf)
  have hp0 : PxOk cx (pcmp_px (pcmp_O) k rf) := ⟨fun t => by rw [hP, hel]; exact tt_ok ttL_ok t, by rw [hgl]; rfl⟩
  have hc0 : CallOk cx (pcmp_px (pcmp_O) k rf) := callT_ok rfl (cfs_cons (cf_ln (by rw [hP, hel, hgl]; exact psum_ok rf hrf) (by kernel_rfl)) (cfs_cons (cf_ln (by rw [hP, hel, hgl]; exact pis_ok) (by kernel_rfl)) (cfs_cons (cf_ln (by rw [hP, hel, hgl]; exact pmust_ok) (by kernel_rfl)) cfs_nil)))
  have hq0 : CallQOk cx (pcmp_px (pcmp_O) k rf) := callQT_ok rfl rfl cqfs_nil (cwfs_cons (cw_ln (by rw [hP, hel, hgl]; exact psum_ok rf hrf) (by kernel_rfl)) cwfs_nil)
  have hlpcmp_0 : LoopOk cx (pcmp_px (pcmp_O) k rf) (lp Tryz.f186 0) := loop_ok hp0 hc0 hq0 (by rw [hP]; exact follows) (k := k) (s := pcmp_0_sg) (step := pcmp_0 rf) (fun _ _ => by kernel_rfl) (by kernel_rfl) (pcmp_0_eq _ k rf) (loops_in (n := 0) (by kernel_rfl) all0)
  exact ⟨hp0, hc0, hq0, (allS all0 hlpcmp_0)⟩
def pcmp_F (rf : por_I → Option por_O) : pcmp_I → Option pcmp_O := fun x => pcmp_body (10) rf x
theorem pcmp_ok (rf : por_I → Option por_O) (hrf : FnLn Tryz.prog elT glT 90 por_si por_so rf) : FnLn Tryz.prog elT glT 186 pcmp_si pcmp_so (pcmp_F rf) := FnLn.fin (ι := Nat) (sg := pcmp_si) (so := pcmp_so) 0 (F := fun k => pcmp_body k rf) (fun k => pcmp_run k rf hrf) fun _ _ _ hx => ⟨10, hx⟩
/-! ## (*exchequer/parse.reader).not -/
def pnot_si : Sig := ⟨1, [], [(0, .ptr 0 0)], [(0, .cells [.sl .tok false, .int .i64, .bool, .int .i64])], 1, 1, 0, [], []⟩
def pnot_so : Sig := ⟨1, [(0, .sv .expr)], [], [(0, .cells [.sl .tok false, .int .i64, .bool, .int .i64])], 1, 1, 0, [], []⟩
abbrev pnot_I := List Tok × Int × Bool × Int
abbrev pnot_O := Xpr × List Tok × Int × Bool × Int
def pnot_1_sg : Sig := ⟨36, [(2, .int .i64), (27, .int .i64), (28, .int .i64)], [(8, .ptr 80 0), (10, .ptr 81 0)], [(0, .cells [.sl .tok false, .int .i64, .bool, .int .i64]), (1, .one (.sv .expr)), (80, .one (.sv .expr)), (81, .one (.sv .expr))], 82, 80, 400, [], []⟩
abbrev pnot_1_V := Int × Int × Int × List Tok × Int × Bool × Int × Xpr × Xpr × Xpr
def pnot_1 {R : Type} (rec : pnot_1_V → Option R) (kx : Ex → pnot_1_V → Option R) (v : pnot_1_V) : Option R := match v with
 | (v12, v13, v14, w6, w7, w8, w9, w10, w11, w12) =>
  cond (decide (v14 < v13)) (
   rec (v12, v13, (wr .i64 (v14 + 1)), w6, w7, w8, w9, w10, w11, (Xpr.mk v12 ⟨0, 0, []⟩ [] [w12]))) (
   kx (.exit 2) (v12, v13, v14, w6, w7, w8, w9, w10, w11, w12))
def pnot_0_sg : Sig := ⟨36, [(1, .str), (2, .int .i64), (9, .int .i64)], [(0, .ptr 0 0), (3, .bm 186 [.ptr 0 0]), (8, .ptr 80 0)], [(0, .cells [.sl .tok false, .int .i64, .bool, .int .i64]), (1, .one (.sv .expr)), (80, .one (.sv .expr))], 81, 80, 400, [], []⟩
abbrev pnot_0_V := Str × Int × Int × List Tok × Int × Bool × Int × Xpr × Xpr
def pnot_0 {R : Type} (rec : pnot_0_V → Option R) (kx : Ex → pnot_0_V → Option R) (v : pnot_0_V) : Option R := match v with
 | (v, v1, v2, w, w1, w2, w3, w4, w5) =>
  cond (!w2) (
   (pis_F (v, w, w1, w2, w3)).bind fun (x, x1, x2, x3, x4) =>
    cond (x) (
     rec (v, v1, (wr .i64 (v2 + 1)), x1, x2, x3, x4, w4, w5)) (
     kx (.exit 0) (v, v1, v2, x1, x2, x3, x4, w4, w5))) (
   kx (.exit 0) (v, v1, v2, w, w1, w2, w3, w4, w5))
def pnot_pxi0 (R : Type) (k : Nat) (rf : por_I → Option por_O) : Px R := ⟨ttOf ttL, glT, callT [(117, callLn pis_si pis_so pis_F), (186, callLn pcmp_si pcmp_so (pcmp_F rf))], callQT [], loopT [(2, loopOr k pnot_0_sg (pnot_0)), (6, loopOr k pnot_1_sg (pnot_1))], tbl []⟩
noncomputable def pnot_px (R : Type) (k : Nat) (rf : por_I → Option por_O) : Px R := ⟨ttOf ttL, glT, callT [(185, callRun 80 400 (pnot_pxi0 R k rf) Tryz.f185)], callQT [], loopT [], tbl []⟩
theorem pnot_0_eq (R : Type) (k : Nat) (rf : por_I → Option por_O) : ∀ (fr : List Fr) (rec : pnot_0_V → Option R) (kx : Ex → pnot_0_V → Option R) (v : pnot_0_V), round (pnot_pxi0 R k rf) pnot_0_sg (lp Tryz.f185 0) fr rec kx v = pnot_0 rec kx v
  | fr, rec, kx, (v, v1, v2, w, w1, w2, w3, w4, w5) => by kernel_rfl
theorem pnot_1_eq (R : Type) (k : Nat) (rf : por_I → Option por_O) : ∀ (fr : List Fr) (rec : pnot_1_V → Option R) (kx : Ex → pnot_1_V → Option R) (v : pnot_1_V), round (pnot_pxi0 R k rf) pnot_1_sg (lp Tryz.f185 1) fr rec kx v = pnot_1 rec kx v
  | fr, rec, kx, (v12, v13, v14, w6, w7, w8, w9, w10, w11, w12) => by kernel_rfl
def pnot_body (k : Nat) (rf : por_I → Option por_O) (x : pnot_I) : Option (pnot_O) := match x with
 | (l, n, b, p) =>
  iter (fun rec => pnot_0 rec (fun e vz => match vz with | (_, v4, v5, v6, v7, v8, v9, v10, v11) => match e with
   | .exit 0 =>
    (pcmp_F rf (v6, v7, v8, v9)).bind fun (x5, x6, x7, x8, x9) =>
     iter (fun rec => pnot_1 rec (fun e vz => match vz with | (_, _, _, v18, v19, v20, v21, _, _, v24) => match e with
      | .exit 2 =>
       some (v24, v18, v19, v20, v21)
      | _ => none)) k (v4, v5, 0, x6, x7, x8, x9, v10, v11, x5)
   | _ => none)) k ([78, 79, 84], 3, 0, l, n, b, p, (Xpr.mk 0 ⟨0, 0, []⟩ [] []), (Xpr.mk 0 ⟨0, 0, []⟩ [] []))
theorem pnot_eq (k : Nat) (rf : por_I → Option por_O) : ∀ (x : pnot_I), runLn (pnot_px _ k rf) Tryz.f167 pnot_si pnot_so x some = pnot_body k rf x
  | (l, n, b, p) => by kernel_rfl
theorem pnot_run (k : Nat) (rf : por_I → Option por_O) (hrf : FnLn Tryz.prog elT glT 90 por_si por_so rf) : FnLn Tryz.prog elT glT 167 pnot_si pnot_so (pnot_body k rf) := by
  refine fnLn_run Tryz.func167 rfl (by kernel_rfl) follows (by kernel_rfl) (n := 0) (by kernel_rfl) (px := pnot_px _ k rf) (fun cx hP hel hgl => ?_) (pnot_eq k rf)
  have hp1 : PxOk cx (pnot_pxi0 (pnot_O) k rf) := ⟨fun t => by rw [hP, hel]; exact tt_ok ttL_ok t, by rw [hgl]; rfl⟩
  have hc1 : CallOk cx (pnot_pxi0 (pnot_O) k rf) := callT_ok rfl (cfs_cons (cf_ln (by rw [hP, hel, hgl]; exact pis_ok) (by kernel_rfl)) (cfs_cons (cf_ln (by rw [hP, hel, hgl]; exact pcmp_ok rf hrf) (by kernel_rfl)) cfs_nil))
  have hq1 : CallQOk cx (pnot_pxi0 (pnot_O) k rf) := callQT_ok rfl rfl cqfs_nil cwfs_nil
  have hlpnot_0 : LoopOk cx (pnot_pxi0 (pnot_O) k rf) (lp Tryz.f185 0) := loop_ok hp1 hc1 hq1 (by rw [hP]; exact follows) (k := k) (s := pnot_0_sg) (step := pnot_0) (fun _ _ => by kernel_rfl) (by kernel_rfl) (pnot_0_eq _ k rf) (loops_in (n := 0) (by kernel_rfl) all0)
  have hlpnot_1 : LoopOk cx (pnot_pxi0 (pnot_O) k rf) (lp Tryz.f185 1) := loop_ok hp1 hc1 hq1 (by rw [hP]; exact follows) (k := k) (s := pnot_1_sg) (step := pnot_1) (fun _ _ => by kernel_rfl) (by kernel_rfl) (pnot_1_eq _ k rf) (loops_in (n := 0) (by kernel_rfl) all0)
  have hp0 : PxOk cx (pnot_px (pnot_O) k rf) := ⟨fun t => by rw [hP, hel]; exact tt_ok ttL_ok t, by rw [hgl]; rfl⟩
  have hc0 : CallOk cx (pnot_px (pnot_O) k rf) := callT_ok rfl (cfs_cons (cf_run hp1 hc1 hq1 (by rw [hP]; exact follows) (by rw [hP]; exact Tryz.func185) rfl (by kernel_rfl) (by kernel_rfl) (n := 2) (by kernel_rfl) ((allS (allS all0 hlpnot_0) hlpnot_1))) cfs_nil)
  have hq0 : CallQOk cx (pnot_px (pnot_O) k rf) := callQT_ok rfl rfl cqfs_nil cwfs_nil
  exact ⟨hp0, hc0, hq0, all0⟩
def pnot_F (rf : por_I → Option por_O) : pnot_I → Option pnot_O := fun x => pnot_body ((x.1.length + 1)) rf x
theorem pnot_ok (rf : por_I → Option por_O) (hrf : FnLn Tryz.prog elT glT 90 por_si por_so rf) : FnLn Tryz.prog elT glT 167 pnot_si pnot_so (pnot_F rf) := FnLn.fin (ι := Nat) (sg := pnot_si) (so := pnot_so) 0 (F := fun k => pnot_body k rf) (fun k => pnot_run k rf hrf) fun x _ _ hx => ⟨(x.1.length + 1), hx⟩
/-! ## (*exchequer/parse.reader).and -/
def pand_si : Sig := ⟨1, [], [(0, .ptr 0 0)], [(0, .cells [.sl .tok false, .int .i64, .bool, .int .i64])], 1, 1, 0, [], []⟩
def pand_so : Sig := ⟨1, [(0, .sv .expr)], [], [(0, .cells [.sl .tok false, .int .i64, .bool, .int .i64])], 1, 1, 0, [], []⟩
abbrev pand_I := List Tok × Int × Bool × Int
abbrev pand_O := Xpr × List Tok × Int × Bool × Int
def pand_1_sg : Sig := ⟨38, [(2, .sl .pair true), (17, .sl .pair false), (18, .int .i64), (19, .int .i64)], [(0, .ptr 0 0), (1, .bm 167 [.ptr 0 0]), (6, .ptr 80 0), (7, .ptr 81 0)], [(0, .cells [.sl .tok false, .int .i64, .bool, .int .i64]), (1, .one (.sv .expr)), (80, .one (.sv .expr)), (81, .one (.sv .expr))], 82, 80, 400, [], []⟩
abbrev pand_1_V := List PairS × List PairS × Int × Int × List Tok × Int × Bool × Int × Xpr × Xpr × Xpr
def pand_1 {R : Type} (rf : por_I → Option por_O) (rec : pand_1_V → Option R) (kx : Ex → pand_1_V → Option R) (v : pand_1_V) : Option R := match v with
 | (v1, v2, v3, v4, w7, w8, w9, w10, w11, w12, w13) =>
  cond (decide (v4 < v3)) (
   chk (inb v4 v2.length) (
    (pis_F ((at' .pair v2 v4).sign, w7, w8, w9, w10)).bind fun (x5, x6, x7, x8, x9) =>
     cond (x5) (
      (pnot_F rf (x6, x7, x8, x9)).bind fun (x10, x11, x12, x13, x14) =>
       kx (.exit 1) (v1, v2, v3, v4, x11, x12, x13, x14, w11, w12, (Xpr.mk ((at' .pair v2 v4).kind) ⟨0, 0, []⟩ [] [w13, x10]))) (
      rec (v1, v2, v3, (wr .i64 (v4 + 1)), x6, x7, x8, x9, w11, w12, w13)))) (
   kx (.exit 2) (v1, v2, v3, v4, w7, w8, w9, w10, w11, w12, w13))
def pand_0_sg : Sig := ⟨38, [(2, .sl .pair true)], [(0, .ptr 0 0), (1, .bm 167 [.ptr 0 0]), (6, .ptr 80 0), (7, .ptr 81 0)], [(0, .cells [.sl .tok false, .int .i64, .bool, .int .i64]), (1, .one (.sv .expr)), (80, .one (.sv .expr)), (81, .one (.sv .expr))], 82, 80, 400, [], []⟩
abbrev pand_0_V := List PairS × List Tok × Int × Bool × Int × Xpr × Xpr × Xpr
def pand_0 {R : Type} (k : Nat) (rf : por_I → Option por_O) (rec : pand_0_V → Option R) (kx : Ex → pand_0_V → Option R) (v : pand_0_V) : Option R := match v with
 | (v, w, w1, w2, w3, w4, w5, w6) =>
  cond (!w2) (
   iter (fun rc => pand_1 rf rc (fun e vz => match vz with | (v5, _, _, _, v9, v10, v11, v12, v13, v14, v15) => match e with
    | .exit 1 =>
     rec (v5, v9, v10, v11, v12, v13, v14, v15)
    | .exit 2 =>
     kx (.exit 0) (v5, v9, v10, v11, v12, v13, v14, v15)
    | _ => none)) k (v, v, (v.length : Int), 0, w, w1, w2, w3, w4, w5, w6)) (
   kx (.exit 0) (v, w, w1, w2, w3, w4, w5, w6))
def pand_pxi0 (R : Type) (k : Nat) (rf : por_I → Option por_O) : Px R := ⟨ttOf ttL, glT, callT [(167, callLn pnot_si pnot_so (pnot_F rf)), (117, callLn pis_si pis_so pis_F)], callQT [], loopT [(4, loopOr k pand_1_sg (pand_1 rf)), (2, loopOr k pand_0_sg (pand_0 k rf))], tbl [(167, callLnW pnot_si pnot_so (pnot_F rf))]⟩
noncomputable def pand_px (R : Type) (k : Nat) (rf : por_I → Option por_O) : Px R := ⟨ttOf ttL, glT, callT [(137, callRun 80 400 (pand_pxi0 R k rf) Tryz.f137)], callQT [], loopT [], tbl []⟩
theorem pand_1_eq (R : Type) (k : Nat) (rf : por_I → Option por_O) : ∀ (fr : List Fr) (rec : pand_1_V → Option R) (kx : Ex → pand_1_V → Option R) (v : pand_1_V), round (pand_pxi0 R k rf) pand_1_sg (lpC (lp Tryz.f137 0) 0) fr rec kx v = pand_1 rf rec kx v
  | fr, rec, kx, (v1, v2, v3, v4, w7, w8, w9, w10, w11, w12, w13) => by kernel_rfl
theorem pand_0_eq (R : Type) (k : Nat) (rf : por_I → Option por_O) : ∀ (fr : List Fr) (rec : pand_0_V → Option R) (kx : Ex → pand_0_V → Option R) (v : pand_0_V), round (pand_pxi0 R k rf) pand_0_sg (lp Tryz.f137 0) fr rec kx v = pand_0 k rf rec kx v
  | fr, rec, kx, (v, w, w1, w2, w3, w4, w5, w6) => by kernel_rfl
def pand_body (k : Nat) (rf : por_I → Option por_O) (x : pand_I) : Option (pand_O) := match x with
 | (l, n, b, p) =>
  (pnot_F rf (l, n, b, p)).bind fun (x, x1, x2, x3, x4) =>
   iter (fun rec => pand_0 k rf rec (fun e vz => match vz with | (_, v17, v18, v19, v20, _, _, v23) => match e with
    | .exit 0 =>
     some (v23, v17, v18, v19, v20)
    | _ => none)) k ([(PairS.mk [65, 78, 68] 4)], x1, x2, x3, x4, (Xpr.mk 0 ⟨0, 0, []⟩ [] []), (Xpr.mk 0 ⟨0, 0, []⟩ [] []), x)
theorem pand_eq (k : Nat) (rf : por_I → Option por_O) : ∀ (x : pand_I), runLn (pand_px _ k rf) Tryz.f138 pand_si pand_so x some = pand_body k rf x
  | (l, n, b, p) => by kernel_rfl
theorem pand_run (k : Nat) (rf : por_I → Option por_O) (hrf : FnLn Tryz.prog elT glT 90 por_si por_so rf) : FnLn Tryz.prog elT glT 138 pand_si pand_so (pand_body k rf) := by
  refine fnLn_run Tryz.func138 rfl (by kernel_rfl) follows (by kernel_rfl) (n := 0) (by kernel_rfl) (px := pand_px _ k rf) (fun cx hP hel hgl => ?_) (pand_eq k rf)
  have hp1 : PxOk cx (pand_pxi0 (pand_O) k rf) := ⟨fun t => by rw [hP, hel]; exact tt_ok ttL_ok t, by rw [hgl]; rfl⟩
  have hc1 : CallOk cx (pand_pxi0 (pand_O) k rf) := callT_ok rfl (cfs_cons (cf_ln (by rw [hP, hel, hgl]; exact pnot_ok rf hrf) (by kernel_rfl)) (cfs_cons (cf_ln (by rw [hP, hel, hgl]; exact pis_ok) (by kernel_rfl)) cfs_nil))
  have hq1 : CallQOk cx (pand_pxi0 (pand_O) k rf) := callQT_ok rfl rfl cqfs_nil (cwfs_cons (cw_ln (by rw [hP, hel, hgl]; exact pnot_ok rf hrf) (by kernel_rfl)) cwfs_nil)
  have hlpand_1 : LoopOk cx (pand_pxi0 (pand_O) k rf) (lpC (lp Tryz.f137 0) 0) := loop_ok hp1 hc1 hq1 (by rw [hP]; exact follows) (k := k) (s := pand_1_sg) (step := pand_1 rf) (fun _ _ => by kernel_rfl) (by kernel_rfl) (pand_1_eq _ k rf) (loops_in (n := 0) (by kernel_rfl) all0)
  have hlpand_0 : LoopOk cx (pand_pxi0 (pand_O) k rf) (lp Tryz.f137 0) := loop_ok hp1 hc1 hq1 (by rw [hP]; exact follows) (k := k) (s := pand_0_sg) (step := pand_0 k rf) (fun _ _ => by kernel_rfl) (by kernel_rfl) (pand_0_eq _ k rf) (loops_in (n := 1) (by kernel_rfl) (allS all0 hlpand_1))
  have hp0 : PxOk cx (pand_px (pand_O) k rf) := ⟨fun t => by rw [hP, hel]; exact tt_ok ttL_ok t, by rw [hgl]; rfl⟩
  have hc0 : CallOk cx (pand_px (pand_O) k rf) := callT_ok rfl (cfs_cons (cf_run hp1 hc1 hq1 (by rw [hP]; exact follows) (by rw [hP]; exact Tryz.func137) rfl (by kernel_rfl) (by kernel_rfl) (n := 2) (by kernel_rfl) ((allS (allS all0 hlpand_0) hlpand_1))) cfs_nil)
  have hq0 : CallQOk cx (pand_px (pand_O) k rf) := callQT_ok rfl rfl cqfs_nil cwfs_nil
  exact ⟨hp0, hc0, hq0, all0⟩
def pand_F (rf : por_I → Option por_O) : pand_I → Option pand_O := fun x => pand_body ((x.1.length + 3)) rf x
theorem pand_ok (rf : por_I → Option por_O) (hrf : FnLn Tryz.prog elT glT 90 por_si por_so rf) : FnLn Tryz.prog elT glT 138 pand_si pand_so (pand_F rf) := FnLn.fin (ι := Nat) (sg := pand_si) (so := pand_so) 0 (F := fun k => pand_body k rf) (fun k => pand_run k rf hrf) fun x _ _ hx => ⟨(x.1.length + 3), hx⟩
/-! ## (*exchequer/parse.reader).or -/
def por_1_sg : Sig := ⟨38, [(2, .sl .pair true), (17, .sl .pair false), (18, .int .i64), (19, .int .i64)], [(0, .ptr 0 0), (1, .bm 138 [.ptr 0 0]), (6, .ptr 80 0), (7, .ptr 81 0)], [(0, .cells [.sl .tok false, .int .i64, .bool, .int .i64]), (1, .one (.sv .expr)), (80, .one (.sv .expr)), (81, .one (.sv .expr))], 82, 80, 400, [], []⟩
abbrev por_1_V := List PairS × List PairS × Int × Int × List Tok × Int × Bool × Int × Xpr × Xpr × Xpr
def por_1 {R : Type} (rf : por_I → Option por_O) (rec : por_1_V → Option R) (kx : Ex → por_1_V → Option R) (v : por_1_V) : Option R := match v with
 | (v1, v2, v3, v4, w7, w8, w9, w10, w11, w12, w13) =>
  cond (decide (v4 < v3)) (
   chk (inb v4 v2.length) (
    (pis_F ((at' .pair v2 v4).sign, w7, w8, w9, w10)).bind fun (x5, x6, x7, x8, x9) =>
     cond (x5) (
      (pand_F rf (x6, x7, x8, x9)).bind fun (x10, x11, x12, x13, x14) =>
       kx (.exit 1) (v1, v2, v3, v4, x11, x12, x13, x14, w11, w12, (Xpr.mk ((at' .pair v2 v4).kind) ⟨0, 0, []⟩ [] [w13, x10]))) (
      rec (v1, v2, v3, (wr .i64 (v4 + 1)), x6, x7, x8, x9, w11, w12, w13)))) (
   kx (.exit 2) (v1, v2, v3, v4, w7, w8, w9, w10, w11, w12, w13))
def por_0_sg : Sig := ⟨38, [(2, .sl .pair true)], [(0, .ptr 0 0), (1, .bm 138 [.ptr 0 0]), (6, .ptr 80 0), (7, .ptr 81 0)], [(0, .cells [.sl .tok false, .int .i64, .bool, .int .i64]), (1, .one (.sv .expr)), (80, .one (.sv .expr)), (81, .one (.sv .expr))], 82, 80, 400, [], []⟩
abbrev por_0_V := List PairS × List Tok × Int × Bool × Int × Xpr × Xpr × Xpr
def por_0 {R : Type} (k : Nat) (rf : por_I → Option por_O) (rec : por_0_V → Option R) (kx : Ex → por_0_V → Option R) (v : por_0_V) : Option R := match v with
 | (v, w, w1, w2, w3, w4, w5, w6) =>
  cond (!w2) (
   iter (fun rc => por_1 rf rc (fun e vz => match vz with | (v5, _, _, _, v9, v10, v11, v12, v13, v14, v15) => match e with
    | .exit 1 =>
     rec (v5, v9, v10, v11, v12, v13, v14, v15)
    | .exit 2 =>
     kx (.exit 0) (v5, v9, v10, v11, v12, v13, v14, v15)
    | _ => none)) k (v, v, (v.length : Int), 0, w, w1, w2, w3, w4, w5, w6)) (
   kx (.exit 0) (v, w, w1, w2, w3, w4, w5, w6))
def por_pxi0 (R : Type) (k : Nat) (rf : por_I → Option por_O) : Px R := ⟨ttOf ttL, glT, callT [(138, callLn pand_si pand_so (pand_F rf)), (117, callLn pis_si pis_so pis_F)], callQT [], loopT [(4, loopOr k por_1_sg (por_1 rf)), (2, loopOr k por_0_sg (por_0 k rf))], tbl [(138, callLnW pand_si pand_so (pand_F rf))]⟩
noncomputable def por_px (R : Type) (k : Nat) (rf : por_I → Option por_O) : Px R := ⟨ttOf ttL, glT, callT [(137, callRun 80 400 (por_pxi0 R k rf) Tryz.f137)], callQT [], loopT [], tbl []⟩
theorem por_1_eq (R : Type) (k : Nat) (rf : por_I → Option por_O) : ∀ (fr : List Fr) (rec : por_1_V → Option R) (kx : Ex → por_1_V → Option R) (v : por_1_V), round (por_pxi0 R k rf) por_1_sg (lpC (lp Tryz.f137 0) 0) fr rec kx v = por_1 rf rec kx v
  | fr, rec, kx, (v1, v2, v3, v4, w7, w8, w9, w10, w11, w12, w13) => by kernel_rfl
theorem por_0_eq (R : Type) (k : Nat) (rf : por_I → Option por_O) : ∀ (fr : List Fr) (rec : por_0_V → Option R) (kx : Ex → por_0_V → Option R) (v : por_0_V), round (por_pxi0 R k rf) por_0_sg (lp Tryz.f137 0) fr rec kx v = por_0 k rf rec kx v
  | fr, rec, kx, (v, w, w1, w2, w3, w4, w5, w6) => by kernel_rfl
def por_body (k : Nat) (rf : por_I → Option por_O) (x : por_I) : Option (por_O) := match x with
 | (l, n, b, p) =>
  (pand_F rf (l, n, b, p)).bind fun (x, x1, x2, x3, x4) =>
   iter (fun rec => por_0 k rf rec (fun e vz => match vz with | (_, v17, v18, v19, v20, _, _, v23) => match e with
    | .exit 0 =>
     some (v23, v17, v18, v19, v20)
    | _ => none)) k ([(PairS.mk [79, 82] 5)], x1, x2, x3, x4, (Xpr.mk 0 ⟨0, 0, []⟩ [] []), (Xpr.mk 0 ⟨0, 0, []⟩ [] []), x)
theorem por_eq (k : Nat) (rf : por_I → Option por_O) : ∀ (x : por_I), runLn (por_px _ k rf) Tryz.f90 por_si por_so x some = por_body k rf x
  | (l, n, b, p) => by kernel_rfl
theorem por_run (k : Nat) (rf : por_I → Option por_O) (hrf : FnLn Tryz.prog elT glT 90 por_si por_so rf) : FnLn Tryz.prog elT glT 90 por_si por_so (por_body k rf) := by
  refine fnLn_run Tryz.func90 rfl (by kernel_rfl) follows (by kernel_rfl) (n := 0) (by kernel_rfl) (px := por_px _ k rf) (fun cx hP hel hgl => ?_) (por_eq k rf)
  have hp1 : PxOk cx (por_pxi0 (por_O) k rf) := ⟨fun t => by rw [hP, hel]; exact tt_ok ttL_ok t, by rw [hgl]; rfl⟩
  have hc1 : CallOk cx (por_pxi0 (por_O) k rf) := callT_ok rfl (cfs_cons (cf_ln (by rw [hP, hel, hgl]; exact pand_ok rf hrf) (by kernel_rfl)) (cfs_cons (cf_ln (by rw [hP, hel, hgl]; exact pis_ok) (by kernel_rfl)) cfs_nil))
  have hq1 : CallQOk cx (por_pxi0 (por_O) k rf) := callQT_ok rfl rfl cqfs_nil (cwfs_cons (cw_ln (by rw [hP, hel, hgl]; exact pand_ok rf hrf) (by kernel_rfl)) cwfs_nil)
  have hlpor_1 : LoopOk cx (por_pxi0 (por_O) k rf) (lpC (lp Tryz.f137 0) 0) := loop_ok hp1 hc1 hq1 (by rw [hP]; exact follows) (k := k) (s := por_1_sg) (step := por_1 rf) (fun _ _ => by kernel_rfl) (by kernel_rfl) (por_1_eq _ k rf) (loops_in (n := 0) (by kernel_rfl) all0)
  have hlpor_0 : LoopOk cx (por_pxi0 (por_O) k rf) (lp Tryz.f137 0) := loop_ok hp1 hc1 hq1 (by rw [hP]; exact follows) (k := k) (s := por_0_sg) (step := por_0 k rf) (fun _ _ => by kernel_rfl) (by kernel_rfl) (por_0_eq _ k rf) (loops_in (n := 1) (by kernel_rfl) (allS all0 hlpor_1))
  have hp0 : PxOk cx (por_px (por_O) k rf) := ⟨fun t => by rw [hP, hel]; exact tt_ok ttL_ok t, by rw [hgl]; rfl⟩
  have hc0 : CallOk cx (por_px (por_O) k rf) := callT_ok rfl (cfs_cons (cf_run hp1 hc1 hq1 (by rw [hP]; exact follows) (by rw [hP]; exact Tryz.func137) rfl (by kernel_rfl) (by kernel_rfl) (n := 2) (by kernel_rfl) ((allS (allS all0 hlpor_0) hlpor_1))) cfs_nil)
  have hq0 : CallQOk cx (por_px (por_O) k rf) := callQT_ok rfl rfl cqfs_nil cwfs_nil
  exact ⟨hp0, hc0, hq0, all0⟩
def por_B (rf : por_I → Option por_O) : por_I → Option por_O := fun x => por_body (x.1.length + 3) rf x
theorem por_Bok (rf : por_I → Option por_O) (hrf : FnLn Tryz.prog elT glT 90 por_si por_so rf) : FnLn Tryz.prog elT glT 90 por_si por_so (por_B rf) := .fin (ι := Nat) (sg := por_si) (so := por_so) 0 (F := fun k => por_body k rf) (fun k => por_run k rf hrf) fun x _ _ hx => ⟨x.1.length + 3, hx⟩
def por_F : por_I → Option por_O := fun x => iter (V := por_I) (R := por_O) por_B (x.1.length + 2) x
theorem por_ok : FnLn Tryz.prog elT glT 90 por_si por_so por_F := .fin (ι := Nat) (sg := por_si) (so := por_so) 0 (F := fun n => iter (V := por_I) (R := por_O) por_B n) (fun n => FnLn.rec' (Sx.enters_of Tryz.func90 rfl rfl) (fun rf hrf => por_Bok rf hrf) n) fun x _ _ hx => ⟨x.1.length + 2, hx⟩
end Go.Proofs.YthndhaolemgbdaaGreatDoor

/- The program's reader of statements, further. -/
namespace Go.Proofs.YthndhaolemgbdaaGreatDoor
open Go.Ax
/-! ## (*exchequer/parse.reader).names -/
def pnames_si : Sig := ⟨1, [], [(0, .ptr 0 0)], [(0, .cells [.sl .tok false, .int .i64, .bool, .int .i64])], 1, 1, 0, [], []⟩
def pnames_so : Sig := ⟨1, [(0, .sl .str true)], [], [(0, .cells [.sl .tok false, .int .i64, .bool, .int .i64])], 1, 1, 0, [], []⟩
abbrev pnames_I := List Tok × Int × Bool × Int
abbrev pnames_O := List Str × List Tok × Int × Bool × Int
def pnames_0_sg : Sig := ⟨19, [], [(0, .ptr 0 0), (1, .fn 184 [.ptr 2 0, .ptr 1 0])], [(0, .cells [.sl .tok false, .int .i64, .bool, .int .i64]), (1, .fx [.ptr 0 0]), (2, .cells [.sl .str true])], 80, 80, 400, [4], []⟩
abbrev pnames_0_V := List Tok × Int × Bool × Int × List Str
def pnames_0 {R : Type} (rec : pnames_0_V → Option R) (kx : Ex → pnames_0_V → Option R) (v : pnames_0_V) : Option R := match v with
 | (w, w1, w2, w3, w4) =>
  cond (!w2) (
   (pis_F ([44], w, w1, w2, w3)).bind fun (x9, x10, x11, x12, x13) =>
    cond (x9) (
     (pname_F (x10, x11, x12, x13)).bind fun (x14, x15, x16, x17, x18) =>
      chk (decide (w4.length + 1 ≤ maxApp)) (
       rec (x15, x16, x17, x18, (w4 ++ [x14])))) (
     kx (.exit 0) (x10, x11, x12, x13, w4))) (
   kx (.exit 0) (w, w1, w2, w3, w4))
def pnames_pxi0i0 (R : Type) (_k : Nat) : Px R := ⟨ttOf ttL, glT, callT [], callQT [], loopT [], tbl [(120, callLnW pname_si pname_so pname_F)]⟩
noncomputable def pnames_pxi0 (R : Type) (k : Nat) : Px R := ⟨ttOf ttL, glT, callT [(117, callLn pis_si pis_so pis_F), (184, callRun 120 600 (pnames_pxi0i0 R k) Tryz.f184)], callQT [], loopT [(1, loopOr k pnames_0_sg (pnames_0))], tbl []⟩
noncomputable def pnames_px (R : Type) (k : Nat) : Px R := ⟨ttOf ttL, glT, callT [(119, callLn pmust_si pmust_so pmust_F), (121, callRun 80 400 (pnames_pxi0 R k) Tryz.f121)], callQT [], loopT [], tbl []⟩
theorem pnames_0_eq (R : Type) (k : Nat) : ∀ (fr : List Fr) (rec : pnames_0_V → Option R) (kx : Ex → pnames_0_V → Option R) (v : pnames_0_V), round (pnames_pxi0 R k) pnames_0_sg (lp Tryz.f121 0) fr rec kx v = pnames_0 rec kx v
  | fr, rec, kx, (w, w1, w2, w3, w4) => by kernel_rfl
def pnames_body (k : Nat) (x : pnames_I) : Option (pnames_O) := match x with
 | (l, n, b, p) =>
  (pmust_F ([[40]], l, n, b, p)).bind fun (x, x1, x2, x3) =>
   (pname_F (x, x1, x2, x3)).bind fun (x4, x5, x6, x7, x8) =>
    iter (fun rec => pnames_0 rec (fun e vz => match vz with | (v, v1, v2, v3, v4) => match e with
     | .exit 0 =>
      (pmust_F ([[41]], v, v1, v2, v3)).bind fun (x19, x20, x21, x22) =>
       some (v4, x19, x20, x21, x22)
     | _ => none)) k (x5, x6, x7, x8, [x4])
theorem pnames_eq (k : Nat) : ∀ (x : pnames_I), runLn (pnames_px _ k) Tryz.f161 pnames_si pnames_so x some = pnames_body k x
  | (l, n, b, p) => by kernel_rfl
theorem pnames_run (k : Nat) : FnLn Tryz.prog elT glT 161 pnames_si pnames_so (pnames_body k) := by
  refine fnLn_run Tryz.func161 rfl (by kernel_rfl) follows (by kernel_rfl) (n := 0) (by kernel_rfl) (px := pnames_px _ k) (fun cx hP hel hgl => ?_) (pnames_eq k)
  have hp2 : PxOk cx (pnames_pxi0i0 (pnames_O) k) := ⟨fun t => by rw [hP, hel]; exact tt_ok ttL_ok t, by rw [hgl]; rfl⟩
  have hc2 : CallOk cx (pnames_pxi0i0 (pnames_O) k) := callT_ok rfl cfs_nil
  have hq2 : CallQOk cx (pnames_pxi0i0 (pnames_O) k) := callQT_ok rfl rfl cqfs_nil (cwfs_cons (cw_ln (by rw [hP, hel, hgl]; exact pname_ok) (by kernel_rfl)) cwfs_nil)
  have hp1 : PxOk cx (pnames_pxi0 (pnames_O) k) := ⟨fun t => by rw [hP, hel]; exact tt_ok ttL_ok t, by rw [hgl]; rfl⟩
  have hc1 : CallOk cx (pnames_pxi0 (pnames_O) k) := callT_ok rfl (cfs_cons (cf_ln (by rw [hP, hel, hgl]; exact pis_ok) (by kernel_rfl)) (cfs_cons (cf_run hp2 hc2 hq2 (by rw [hP]; exact follows) (by rw [hP]; exact Tryz.func184) rfl (by kernel_rfl) (by kernel_rfl) (n := 0) (by kernel_rfl) (all0)) cfs_nil))
  have hq1 : CallQOk cx (pnames_pxi0 (pnames_O) k) := callQT_ok rfl rfl cqfs_nil cwfs_nil
  have hlpnames_0 : LoopOk cx (pnames_pxi0 (pnames_O) k) (lp Tryz.f121 0) := loop_ok hp1 hc1 hq1 (by rw [hP]; exact follows) (k := k) (s := pnames_0_sg) (step := pnames_0) (fun _ _ => by kernel_rfl) (by kernel_rfl) (pnames_0_eq _ k) (loops_in (n := 0) (by kernel_rfl) all0)
  have hp0 : PxOk cx (pnames_px (pnames_O) k) := ⟨fun t => by rw [hP, hel]; exact tt_ok ttL_ok t, by rw [hgl]; rfl⟩
  have hc0 : CallOk cx (pnames_px (pnames_O) k) := callT_ok rfl (cfs_cons (cf_ln (by rw [hP, hel, hgl]; exact pmust_ok) (by kernel_rfl)) (cfs_cons (cf_run hp1 hc1 hq1 (by rw [hP]; exact follows) (by rw [hP]; exact Tryz.func121) rfl (by kernel_rfl) (by kernel_rfl) (n := 1) (by kernel_rfl) ((allS all0 hlpnames_0))) cfs_nil))
  have hq0 : CallQOk cx (pnames_px (pnames_O) k) := callQT_ok rfl rfl cqfs_nil cwfs_nil
  exact ⟨hp0, hc0, hq0, all0⟩
def pnames_F : pnames_I → Option pnames_O := fun x => pnames_body ((x.1.length + 3)) x
theorem pnames_ok : FnLn Tryz.prog elT glT 161 pnames_si pnames_so (pnames_F) := FnLn.fin (ι := Nat) (sg := pnames_si) (so := pnames_so) 0 (F := fun k => pnames_body k) (fun k => pnames_run k) fun x _ _ hx => ⟨(x.1.length + 3), hx⟩
/-! ## (*exchequer/parse.reader).exprs -/
def pexprs_si : Sig := ⟨1, [], [(0, .ptr 0 0)], [(0, .cells [.sl .tok false, .int .i64, .bool, .int .i64])], 1, 1, 0, [], []⟩
def pexprs_so : Sig := ⟨1, [(0, .sl .expr true)], [], [(0, .cells [.sl .tok false, .int .i64, .bool, .int .i64])], 1, 1, 0, [], []⟩
abbrev pexprs_I := List Tok × Int × Bool × Int
abbrev pexprs_O := List Xpr × List Tok × Int × Bool × Int
def pexprs_0_sg : Sig := ⟨19, [], [(0, .ptr 0 0), (1, .fn 162 [.ptr 2 0, .ptr 1 0])], [(0, .cells [.sl .tok false, .int .i64, .bool, .int .i64]), (1, .fx [.ptr 0 0]), (2, .cells [.sl .expr true])], 80, 80, 400, [], []⟩
abbrev pexprs_0_V := List Tok × Int × Bool × Int × List Xpr
def pexprs_0 {R : Type} (rec : pexprs_0_V → Option R) (kx : Ex → pexprs_0_V → Option R) (v : pexprs_0_V) : Option R := match v with
 | (w, w1, w2, w3, w4) =>
  cond (!w2) (
   (pis_F ([44], w, w1, w2, w3)).bind fun (x5, x6, x7, x8, x9) =>
    cond (x5) (
     (por_F (x6, x7, x8, x9)).bind fun (x10, x11, x12, x13, x14) =>
      chk (decide (w4.length + 1 ≤ maxApp) && decide ((w4.length : Int) = (w4.length : Int))) (
       rec (x11, x12, x13, x14, (w4 ++ [x10])))) (
     kx (.exit 0) (x6, x7, x8, x9, w4))) (
   kx (.exit 0) (w, w1, w2, w3, w4))
def pexprs_pxi0i0 (R : Type) (_k : Nat) : Px R := ⟨ttOf ttL, glT, callT [], callQT [], loopT [], tbl [(90, callLnW por_si por_so por_F)]⟩
noncomputable def pexprs_pxi0 (R : Type) (k : Nat) : Px R := ⟨ttOf ttL, glT, callT [(117, callLn pis_si pis_so pis_F), (162, callRun 120 600 (pexprs_pxi0i0 R k) Tryz.f162)], callQT [], loopT [(1, loopOr k pexprs_0_sg (pexprs_0))], tbl []⟩
noncomputable def pexprs_px (R : Type) (k : Nat) : Px R := ⟨ttOf ttL, glT, callT [(121, callRun 80 400 (pexprs_pxi0 R k) Tryz.f121)], callQT [], loopT [], tbl []⟩
theorem pexprs_0_eq (R : Type) (k : Nat) : ∀ (fr : List Fr) (rec : pexprs_0_V → Option R) (kx : Ex → pexprs_0_V → Option R) (v : pexprs_0_V), round (pexprs_pxi0 R k) pexprs_0_sg (lp Tryz.f121 0) fr rec kx v = pexprs_0 rec kx v
  | fr, rec, kx, (w, w1, w2, w3, w4) => by kernel_rfl
def pexprs_body (k : Nat) (x : pexprs_I) : Option (pexprs_O) := match x with
 | (l, n, b, p) =>
  (por_F (l, n, b, p)).bind fun (x, x1, x2, x3, x4) =>
   chk (decide (0 + 1 ≤ maxApp) && decide (0 = (0 : Int))) (
    iter (fun rec => pexprs_0 rec (fun e vz => match vz with | (v, v1, v2, v3, v4) => match e with
     | .exit 0 =>
      some (v4, v, v1, v2, v3)
     | _ => none)) k (x1, x2, x3, x4, [x]))
theorem pexprs_eq (k : Nat) : ∀ (x : pexprs_I), runLn (pexprs_px _ k) Tryz.f123 pexprs_si pexprs_so x some = pexprs_body k x
  | (l, n, b, p) => by kernel_rfl
theorem pexprs_run (k : Nat) : FnLn Tryz.prog elT glT 123 pexprs_si pexprs_so (pexprs_body k) := by
  refine fnLn_run Tryz.func123 rfl (by kernel_rfl) follows (by kernel_rfl) (n := 0) (by kernel_rfl) (px := pexprs_px _ k) (fun cx hP hel hgl => ?_) (pexprs_eq k)
  have hp2 : PxOk cx (pexprs_pxi0i0 (pexprs_O) k) := ⟨fun t => by rw [hP, hel]; exact tt_ok ttL_ok t, by rw [hgl]; rfl⟩
  have hc2 : CallOk cx (pexprs_pxi0i0 (pexprs_O) k) := callT_ok rfl cfs_nil
  have hq2 : CallQOk cx (pexprs_pxi0i0 (pexprs_O) k) := callQT_ok rfl rfl cqfs_nil (cwfs_cons (cw_ln (by rw [hP, hel, hgl]; exact por_ok) (by kernel_rfl)) cwfs_nil)
  have hp1 : PxOk cx (pexprs_pxi0 (pexprs_O) k) := ⟨fun t => by rw [hP, hel]; exact tt_ok ttL_ok t, by rw [hgl]; rfl⟩
  have hc1 : CallOk cx (pexprs_pxi0 (pexprs_O) k) := callT_ok rfl (cfs_cons (cf_ln (by rw [hP, hel, hgl]; exact pis_ok) (by kernel_rfl)) (cfs_cons (cf_run hp2 hc2 hq2 (by rw [hP]; exact follows) (by rw [hP]; exact Tryz.func162) rfl (by kernel_rfl) (by kernel_rfl) (n := 0) (by kernel_rfl) (all0)) cfs_nil))
  have hq1 : CallQOk cx (pexprs_pxi0 (pexprs_O) k) := callQT_ok rfl rfl cqfs_nil cwfs_nil
  have hlpexprs_0 : LoopOk cx (pexprs_pxi0 (pexprs_O) k) (lp Tryz.f121 0) := loop_ok hp1 hc1 hq1 (by rw [hP]; exact follows) (k := k) (s := pexprs_0_sg) (step := pexprs_0) (fun _ _ => by kernel_rfl) (by kernel_rfl) (pexprs_0_eq _ k) (loops_in (n := 0) (by kernel_rfl) all0)
  have hp0 : PxOk cx (pexprs_px (pexprs_O) k) := ⟨fun t => by rw [hP, hel]; exact tt_ok ttL_ok t, by rw [hgl]; rfl⟩
  have hc0 : CallOk cx (pexprs_px (pexprs_O) k) := callT_ok rfl (cfs_cons (cf_run hp1 hc1 hq1 (by rw [hP]; exact follows) (by rw [hP]; exact Tryz.func121) rfl (by kernel_rfl) (by kernel_rfl) (n := 1) (by kernel_rfl) ((allS all0 hlpexprs_0))) cfs_nil)
  have hq0 : CallQOk cx (pexprs_px (pexprs_O) k) := callQT_ok rfl rfl cqfs_nil cwfs_nil
  exact ⟨hp0, hc0, hq0, all0⟩
def pexprs_F : pexprs_I → Option pexprs_O := fun x => pexprs_body ((x.1.length + 3)) x
theorem pexprs_ok : FnLn Tryz.prog elT glT 123 pexprs_si pexprs_so (pexprs_F) := FnLn.fin (ι := Nat) (sg := pexprs_si) (so := pexprs_so) 0 (F := fun k => pexprs_body k) (fun k => pexprs_run k) fun x _ _ hx => ⟨(x.1.length + 3), hx⟩
/-! ## (*exchequer/parse.reader).col -/
def pcol_si : Sig := ⟨1, [], [(0, .ptr 0 0)], [(0, .cells [.sl .tok false, .int .i64, .bool, .int .i64])], 1, 1, 0, [], []⟩
def pcol_so : Sig := ⟨1, [(0, .sv .col)], [], [(0, .cells [.sl .tok false, .int .i64, .bool, .int .i64])], 1, 1, 0, [], []⟩
abbrev pcol_I := List Tok × Int × Bool × Int
abbrev pcol_O := Col × List Tok × Int × Bool × Int
def pcol_0_sg : Sig := ⟨87, [(10, .int .i64)], [(0, .ptr 0 0), (2, .ptr 1 0), (3, .ptr 2 0), (9, .agg [.str [], .str [], .str [66, 79, 79, 76], .str [73, 78, 84], .str [84, 69, 88, 84], .str [66, 89, 84, 69, 83]])], [(0, .cells [.sl .tok false, .int .i64, .bool, .int .i64]), (1, .one (.sv .col)), (2, .one (.sv .col))], 3, 1, 0, [], []⟩
abbrev pcol_0_V := Int × List Tok × Int × Bool × Int × Col × Col
def pcol_0 {R : Type} (rec : pcol_0_V → Option R) (kx : Ex → pcol_0_V → Option R) (v : pcol_0_V) : Option R := match v with
 | (v, w, w1, w2, w3, w4, w5) =>
  cond (decide (v < 6)) (
   chk (inb v 6) (
    let j1 := fun (p1 : Bool) =>
     let j := fun (p2 : Bool) =>
      cond (p2) (
       (pis_F ((at' .str [[], [], [66, 79, 79, 76], [73, 78, 84], [84, 69, 88, 84], [66, 89, 84, 69, 83]] v), w, w1, w2, w3)).bind fun (x5, x6, x7, x8, x9) =>
        cond (x5) (
         rec ((wr .i64 (v + 1)), x6, x7, x8, x9, w4, (Col.mk w5.name v w5.notNull w5.unique w5.ref))) (
         rec ((wr .i64 (v + 1)), x6, x7, x8, x9, w4, w5))) (
       rec ((wr .i64 (v + 1)), w, w1, w2, w3, w4, w5))
     cond (p1) (
      j (decide (w5.kind = 0))) (
      j false)
    cond (decide (2 ≤ v)) (
     j1 (!w2)) (
     j1 false))) (
   kx (.exit 0) (v, w, w1, w2, w3, w4, w5))
def pcol_px (R : Type) (k : Nat) : Px R := ⟨ttOf ttL, glT, callT [(120, callLn pname_si pname_so pname_F), (117, callLn pis_si pis_so pis_F), (127, callLn pwrong_si pwrong_so pwrong_F), (119, callLn pmust_si pmust_so pmust_F)], callQT [], loopT [(3, loopOr k pcol_0_sg (pcol_0))], tbl []⟩
theorem pcol_0_eq (R : Type) (k : Nat) : ∀ (fr : List Fr) (rec : pcol_0_V → Option R) (kx : Ex → pcol_0_V → Option R) (v : pcol_0_V), round (pcol_px R k) pcol_0_sg (lp Tryz.f183 0) fr rec kx v = pcol_0 rec kx v
  | fr, rec, kx, (v, w, w1, w2, w3, w4, w5) => by kernel_rfl
def pcol_body (k : Nat) (x : pcol_I) : Option (pcol_O) := match x with
 | (l, n, b, p) =>
  (pname_F (l, n, b, p)).bind fun (x, x1, x2, x3, x4) =>
   iter (fun rec => pcol_0 rec (fun e vz => match vz with | (_, v2, v3, v4, v5, _, v7) => match e with
    | .exit 0 =>
     let j6 := fun (q13 : List Tok) (q14 : Int) (q15 : Bool) (q16 : Int) =>
      let j2 := fun (q21 : List Tok) (q22 : Int) (q23 : Bool) (q24 : Int) (q25 : Col) =>
       let j5 := fun (q30 : List Tok) (q31 : Int) (q32 : Bool) (q33 : Int) =>
        let j4 := fun (q38 : List Tok) (q39 : Int) (q40 : Bool) (q41 : Int) (q42 : Col) =>
         let j3 := fun (p8 : Bool) (q47 : List Tok) (q48 : Int) (q49 : Bool) (q50 : Int) =>
          cond (p8) (
           (pname_F (q47, q48, q49, q50)).bind fun (x33, x34, x35, x36, x37) =>
            some ((Col.mk q42.name q42.kind q42.notNull q42.unique x33), x34, x35, x36, x37)) (
           some (q42, q47, q48, q49, q50))
         cond (!q40) (
          (pis_F ([82, 69, 70, 69, 82, 69, 78, 67, 69, 83], q38, q39, q40, q41)).bind fun (x28, x29, x30, x31, x32) =>
           j3 x28 x29 x30 x31 x32) (
          j3 false q38 q39 q40 q41)
        cond (!q32) (
         (pis_F ([85, 78, 73, 81, 85, 69], q30, q31, q32, q33)).bind fun (x23, x24, x25, x26, x27) =>
          j4 x24 x25 x26 x27 (Col.mk q25.name q25.kind q25.notNull x23 q25.ref)) (
         j4 q30 q31 q32 q33 (Col.mk q25.name q25.kind q25.notNull false q25.ref))
       cond (q25.notNull) (
        (pmust_F ([[78, 85, 76, 76]], q21, q22, q23, q24)).bind fun (x19, x20, x21, x22) =>
         j5 x19 x20 x21 x22) (
        j5 q21 q22 q23 q24)
      cond (!q15) (
       (pis_F ([78, 79, 84], q13, q14, q15, q16)).bind fun (x14, x15, x16, x17, x18) =>
        j2 x15 x16 x17 x18 (Col.mk v7.name v7.kind x14 v7.unique v7.ref)) (
       j2 q13 q14 q15 q16 (Col.mk v7.name v7.kind false v7.unique v7.ref))
     cond (decide (v7.kind = 0)) (
      (pwrong_F (v2, v3, v4, v5)).bind fun (x10, x11, x12, x13) =>
       j6 x10 x11 x12 x13) (
      j6 v2 v3 v4 v5)
    | _ => none)) k (0, x1, x2, x3, x4, (Col.mk [] 0 false false []), (Col.mk x 0 false false []))
theorem pcol_eq (k : Nat) : ∀ (x : pcol_I), runLn (pcol_px _ k) Tryz.f183 pcol_si pcol_so x some = pcol_body k x
  | (l, n, b, p) => by kernel_rfl
theorem pcol_run (k : Nat) : FnLn Tryz.prog elT glT 183 pcol_si pcol_so (pcol_body k) := by
  refine fnLn_run Tryz.func183 rfl (by kernel_rfl) follows (by kernel_rfl) (n := 1) (by kernel_rfl) (px := pcol_px _ k) (fun cx hP hel hgl => ?_) (pcol_eq k)
  have hp0 : PxOk cx (pcol_px (pcol_O) k) := ⟨fun t => by rw [hP, hel]; exact tt_ok ttL_ok t, by rw [hgl]; rfl⟩
  have hc0 : CallOk cx (pcol_px (pcol_O) k) := callT_ok rfl (cfs_cons (cf_ln (by rw [hP, hel, hgl]; exact pname_ok) (by kernel_rfl)) (cfs_cons (cf_ln (by rw [hP, hel, hgl]; exact pis_ok) (by kernel_rfl)) (cfs_cons (cf_ln (by rw [hP, hel, hgl]; exact pwrong_ok) (by kernel_rfl)) (cfs_cons (cf_ln (by rw [hP, hel, hgl]; exact pmust_ok) (by kernel_rfl)) cfs_nil))))
  have hq0 : CallQOk cx (pcol_px (pcol_O) k) := callQT_ok rfl rfl cqfs_nil cwfs_nil
  have hlpcol_0 : LoopOk cx (pcol_px (pcol_O) k) (lp Tryz.f183 0) := loop_ok hp0 hc0 hq0 (by rw [hP]; exact follows) (k := k) (s := pcol_0_sg) (step := pcol_0) (fun _ _ => by kernel_rfl) (by kernel_rfl) (pcol_0_eq _ k) (loops_in (n := 0) (by kernel_rfl) all0)
  exact ⟨hp0, hc0, hq0, (allS all0 hlpcol_0)⟩
def pcol_F : pcol_I → Option pcol_O := fun x => pcol_body (10) x
theorem pcol_ok : FnLn Tryz.prog elT glT 183 pcol_si pcol_so (pcol_F) := FnLn.fin (ι := Nat) (sg := pcol_si) (so := pcol_so) 0 (F := fun k => pcol_body k) (fun k => pcol_run k) fun _ _ _ hx => ⟨10, hx⟩
/-! ## (*exchequer/parse.reader).table -/
def ptable_si : Sig := ⟨2, [], [(0, .ptr 0 0), (1, .ptr 1 0)], [(0, .cells [.sl .tok false, .int .i64, .bool, .int .i64]), (1, .cells [.int .i64, .str, .str, .sl .col true, .sl .str false, .sl .expr true, .sl .exprs true, .sl .set true, .bool, .int .i64, .int .i64, .int .i64, .str, .str, .sl .expr false, .sl .str true, .sl .bool true, .int .i64])], 2, 2, 0, [], []⟩
def ptable_so : Sig := ⟨0, [], [], [(0, .cells [.sl .tok false, .int .i64, .bool, .int .i64]), (1, .cells [.int .i64, .str, .str, .sl .col true, .sl .str false, .sl .expr true, .sl .exprs true, .sl .set true, .bool, .int .i64, .int .i64, .int .i64, .str, .str, .sl .expr false, .sl .str true, .sl .bool true, .int .i64])], 2, 2, 0, [], []⟩
abbrev ptable_I := List Tok × Int × Bool × Int × Int × Str × Str × List Col × List Str × List Xpr × List (List Xpr) × List SetE × Bool × Int × Int × Int × Str × Str × List Xpr × List Str × List Bool × Int
abbrev ptable_O := List Tok × Int × Bool × Int × Int × Str × Str × List Col × List Str × List Xpr × List (List Xpr) × List SetE × Bool × Int × Int × Int × Str × Str × List Xpr × List Str × List Bool × Int
def ptable_1_sg : Sig := ⟨95, [], [(0, .ptr 0 0), (1, .ptr 1 0)], [(0, .cells [.sl .tok false, .int .i64, .bool, .int .i64]), (1, .cells [.int .i64, .str, .str, .sl .col true, .sl .str true, .sl .expr true, .sl .exprs true, .sl .set true, .bool, .int .i64, .int .i64, .int .i64, .str, .str, .sl .expr false, .sl .str true, .sl .bool true, .int .i64])], 2, 2, 0, [], []⟩
abbrev ptable_1_V := List Tok × Int × Bool × Int × Int × Str × Str × List Col × List Str × List Xpr × List (List Xpr) × List SetE × Bool × Int × Int × Int × Str × Str × List Xpr × List Str × List Bool × Int
def ptable_1 {R : Type} (rec : ptable_1_V → Option R) (kx : Ex → ptable_1_V → Option R) (v : ptable_1_V) : Option R := match v with
 | (w22, w23, w24, w25, w26, w27, w28, w29, w30, w31, w32, w33, w34, w35, w36, w37, w38, w39, w40, w41, w42, w43) =>
  cond (!w24) (
   (pis_F ([44], w22, w23, w24, w25)).bind fun (x41, x42, x43, x44, x45) =>
    cond (x41) (
     (pmust_F ([[67, 72, 69, 67, 75], [40]], x42, x43, x44, x45)).bind fun (x46, x47, x48, x49) =>
      (por_F (x46, x47, x48, x49)).bind fun (x50, x51, x52, x53, x54) =>
       chk (decide (w31.length + 1 ≤ maxApp) && decide ((w31.length : Int) = (w31.length : Int))) (
        (pmust_F ([[41]], x51, x52, x53, x54)).bind fun (x55, x56, x57, x58) =>
         rec (x55, x56, x57, x58, w26, w27, w28, w29, w30, (w31 ++ [x50]), w32, w33, w34, w35, w36, w37, w38, w39, w40, w41, w42, w43))) (
     kx (.exit 2) (x42, x43, x44, x45, w26, w27, w28, w29, w30, w31, w32, w33, w34, w35, w36, w37, w38, w39, w40, w41, w42, w43))) (
   kx (.exit 2) (w22, w23, w24, w25, w26, w27, w28, w29, w30, w31, w32, w33, w34, w35, w36, w37, w38, w39, w40, w41, w42, w43))
def ptable_0_sg : Sig := ⟨95, [], [(0, .ptr 0 0), (1, .ptr 1 0)], [(0, .cells [.sl .tok false, .int .i64, .bool, .int .i64]), (1, .cells [.int .i64, .str, .str, .sl .col true, .sl .str false, .sl .expr true, .sl .exprs true, .sl .set true, .bool, .int .i64, .int .i64, .int .i64, .str, .str, .sl .expr false, .sl .str true, .sl .bool true, .int .i64])], 2, 2, 0, [], []⟩
abbrev ptable_0_V := List Tok × Int × Bool × Int × Int × Str × Str × List Col × List Str × List Xpr × List (List Xpr) × List SetE × Bool × Int × Int × Int × Str × Str × List Xpr × List Str × List Bool × Int
def ptable_0 {R : Type} (rec : ptable_0_V → Option R) (kx : Ex → ptable_0_V → Option R) (v : ptable_0_V) : Option R := match v with
 | (w, w1, w2, w3, w4, w5, w6, w7, w8, w9, w10, w11, w12, w13, w14, w15, w16, w17, w18, w19, w20, w21) =>
  cond (!w2) (
   (pis_F ([80, 82, 73, 77, 65, 82, 89], w, w1, w2, w3)).bind fun (x18, x19, x20, x21, x22) =>
    cond (!x18) (
     (pcol_F (x19, x20, x21, x22)).bind fun (x23, x24, x25, x26, x27) =>
      chk (decide (w7.length + 1 ≤ maxApp)) (
       (pmust_F ([[44]], x24, x25, x26, x27)).bind fun (x28, x29, x30, x31) =>
        rec (x28, x29, x30, x31, w4, w5, w6, (w7 ++ [x23]), w8, w9, w10, w11, w12, w13, w14, w15, w16, w17, w18, w19, w20, w21))) (
     kx (.exit 0) (x19, x20, x21, x22, w4, w5, w6, w7, w8, w9, w10, w11, w12, w13, w14, w15, w16, w17, w18, w19, w20, w21))) (
   kx (.exit 0) (w, w1, w2, w3, w4, w5, w6, w7, w8, w9, w10, w11, w12, w13, w14, w15, w16, w17, w18, w19, w20, w21))
def ptable_px (R : Type) (k : Nat) : Px R := ⟨ttOf ttL, glT, callT [(120, callLn pname_si pname_so pname_F), (119, callLn pmust_si pmust_so pmust_F), (117, callLn pis_si pis_so pis_F), (161, callLn pnames_si pnames_so pnames_F)], callQT [], loopT [(4, loopOr k ptable_0_sg (ptable_0)), (9, loopOr k ptable_1_sg (ptable_1))], tbl [(183, callLnW pcol_si pcol_so pcol_F), (90, callLnW por_si por_so por_F)]⟩
theorem ptable_0_eq (R : Type) (k : Nat) : ∀ (fr : List Fr) (rec : ptable_0_V → Option R) (kx : Ex → ptable_0_V → Option R) (v : ptable_0_V), round (ptable_px R k) ptable_0_sg (lp Tryz.f160 0) fr rec kx v = ptable_0 rec kx v
  | fr, rec, kx, (w, w1, w2, w3, w4, w5, w6, w7, w8, w9, w10, w11, w12, w13, w14, w15, w16, w17, w18, w19, w20, w21) => by kernel_rfl
theorem ptable_1_eq (R : Type) (k : Nat) : ∀ (fr : List Fr) (rec : ptable_1_V → Option R) (kx : Ex → ptable_1_V → Option R) (v : ptable_1_V), round (ptable_px R k) ptable_1_sg (lp Tryz.f160 1) fr rec kx v = ptable_1 rec kx v
  | fr, rec, kx, (w22, w23, w24, w25, w26, w27, w28, w29, w30, w31, w32, w33, w34, w35, w36, w37, w38, w39, w40, w41, w42, w43) => by kernel_rfl
def ptable_body (k : Nat) (x : ptable_I) : Option (ptable_O) := match x with
 | (l, n, b, p, _, _, so, sc, ss, sl, sr, st, sh, wk, vk, vn, vs, wn, wl, sd, se, sm) =>
  (pname_F (l, n, b, p)).bind fun (x, x1, x2, x3, x4) =>
   (pmust_F ([[40]], x1, x2, x3, x4)).bind fun (x5, x6, x7, x8) =>
    (pcol_F (x5, x6, x7, x8)).bind fun (x9, x10, x11, x12, x13) =>
     chk (decide (sc.length + 1 ≤ maxApp)) (
      (pmust_F ([[44]], x10, x11, x12, x13)).bind fun (x14, x15, x16, x17) =>
       iter (fun rec => ptable_0 rec (fun e vz => match vz with | (v, v1, v2, v3, v4, v5, v6, v7, _, v9, v10, v11, v12, v13, v14, v15, v16, v17, v18, v19, v20, v21) => match e with
        | .exit 0 =>
         (pmust_F ([[75, 69, 89]], v, v1, v2, v3)).bind fun (x32, x33, x34, x35) =>
          (pnames_F (x32, x33, x34, x35)).bind fun (x36, x37, x38, x39, x40) =>
           iter (fun rec => ptable_1 rec (fun e vz => match vz with | (v22, v23, v24, v25, v26, v27, v28, v29, v30, v31, v32, v33, v34, v35, v36, v37, v38, v39, v40, v41, v42, v43) => match e with
            | .exit 2 =>
             (pmust_F ([[41]], v22, v23, v24, v25)).bind fun (x59, x60, x61, x62) =>
              some (x59, x60, x61, x62, v26, v27, v28, v29, v30, v31, v32, v33, v34, v35, v36, v37, v38, v39, v40, v41, v42, v43)
            | _ => none)) k (x37, x38, x39, x40, v4, v5, v6, v7, x36, v9, v10, v11, v12, v13, v14, v15, v16, v17, v18, v19, v20, v21)
        | _ => none)) k (x14, x15, x16, x17, 1, x, so, (sc ++ [x9]), ss, sl, sr, st, sh, wk, vk, vn, vs, wn, wl, sd, se, sm))
theorem ptable_eq (k : Nat) : ∀ (x : ptable_I), runLn (ptable_px _ k) Tryz.f160 ptable_si ptable_so x some = ptable_body k x
  | (l, n, b, p, sk, sn, so, sc, ss, sl, sr, st, sh, wk, vk, vn, vs, wn, wl, sd, se, sm) => by kernel_rfl
theorem ptable_run (k : Nat) : FnLn Tryz.prog elT glT 160 ptable_si ptable_so (ptable_body k) := by
  refine fnLn_run Tryz.func160 rfl (by kernel_rfl) follows (by kernel_rfl) (n := 2) (by kernel_rfl) (px := ptable_px _ k) (fun cx hP hel hgl => ?_) (ptable_eq k)
  have hp0 : PxOk cx (ptable_px (ptable_O) k) := ⟨fun t => by rw [hP, hel]; exact tt_ok ttL_ok t, by rw [hgl]; rfl⟩
  have hc0 : CallOk cx (ptable_px (ptable_O) k) := callT_ok rfl (cfs_cons (cf_ln (by rw [hP, hel, hgl]; exact pname_ok) (by kernel_rfl)) (cfs_cons (cf_ln (by rw [hP, hel, hgl]; exact pmust_ok) (by kernel_rfl)) (cfs_cons (cf_ln (by rw [hP, hel, hgl]; exact pis_ok) (by kernel_rfl)) (cfs_cons (cf_ln (by rw [hP, hel, hgl]; exact pnames_ok) (by kernel_rfl)) cfs_nil))))
  have hq0 : CallQOk cx (ptable_px (ptable_O) k) := callQT_ok rfl rfl cqfs_nil (cwfs_cons (cw_ln (by rw [hP, hel, hgl]; exact pcol_ok) (by kernel_rfl)) (cwfs_cons (cw_ln (by rw [hP, hel, hgl]; exact por_ok) (by kernel_rfl)) cwfs_nil))
  have hlptable_0 : LoopOk cx (ptable_px (ptable_O) k) (lp Tryz.f160 0) := loop_ok hp0 hc0 hq0 (by rw [hP]; exact follows) (k := k) (s := ptable_0_sg) (step := ptable_0) (fun _ _ => by kernel_rfl) (by kernel_rfl) (ptable_0_eq _ k) (loops_in (n := 0) (by kernel_rfl) all0)
  have hlptable_1 : LoopOk cx (ptable_px (ptable_O) k) (lp Tryz.f160 1) := loop_ok hp0 hc0 hq0 (by rw [hP]; exact follows) (k := k) (s := ptable_1_sg) (step := ptable_1) (fun _ _ => by kernel_rfl) (by kernel_rfl) (ptable_1_eq _ k) (loops_in (n := 0) (by kernel_rfl) all0)
  exact ⟨hp0, hc0, hq0, (allS (allS all0 hlptable_0) hlptable_1)⟩
def ptable_F : ptable_I → Option ptable_O := fun x => ptable_body ((x.1.length + 3)) x
theorem ptable_ok : FnLn Tryz.prog elT glT 160 ptable_si ptable_so (ptable_F) := FnLn.fin (ι := Nat) (sg := ptable_si) (so := ptable_so) 0 (F := fun k => ptable_body k) (fun k => ptable_run k) fun x _ _ hx => ⟨(x.1.length + 3), hx⟩
/-! ## (*exchequer/parse.reader).create -/
def pcreate_si : Sig := ⟨2, [], [(0, .ptr 0 0), (1, .ptr 1 0)], [(0, .cells [.sl .tok false, .int .i64, .bool, .int .i64]), (1, .cells [.int .i64, .str, .str, .sl .col true, .sl .str false, .sl .expr true, .sl .exprs true, .sl .set true, .bool, .int .i64, .int .i64, .int .i64, .str, .str, .sl .expr false, .sl .str true, .sl .bool true, .int .i64])], 2, 2, 0, [], []⟩
def pcreate_so : Sig := ⟨0, [], [], [(0, .cells [.sl .tok false, .int .i64, .bool, .int .i64]), (1, .cells [.int .i64, .str, .str, .sl .col true, .sl .str false, .sl .expr true, .sl .exprs true, .sl .set true, .bool, .int .i64, .int .i64, .int .i64, .str, .str, .sl .expr false, .sl .str true, .sl .bool true, .int .i64])], 2, 2, 0, [], []⟩
abbrev pcreate_I := List Tok × Int × Bool × Int × Int × Str × Str × List Col × List Str × List Xpr × List (List Xpr) × List SetE × Bool × Int × Int × Int × Str × Str × List Xpr × List Str × List Bool × Int
abbrev pcreate_O := List Tok × Int × Bool × Int × Int × Str × Str × List Col × List Str × List Xpr × List (List Xpr) × List SetE × Bool × Int × Int × Int × Str × Str × List Xpr × List Str × List Bool × Int
def pcreate_px (R : Type) : Px R := ⟨ttOf ttL, glT, callT [(117, callLn pis_si pis_so pis_F), (160, callLn ptable_si ptable_so ptable_F), (119, callLn pmust_si pmust_so pmust_F), (120, callLn pname_si pname_so pname_F), (161, callLn pnames_si pnames_so pnames_F)], callQT [], loopT [], tbl []⟩
def pcreate_body (x : pcreate_I) : Option (pcreate_O) := match x with
 | (l, n, b, p, sk, sn, so, sc, ss, sl, sr, st, sh, wk, vk, vn, vs, wn, wl, sd, se, sm) =>
  (pis_F ([84, 65, 66, 76, 69], l, n, b, p)).bind fun (x, x1, x2, x3, x4) =>
   cond (x) (
    (ptable_F (x1, x2, x3, x4, sk, sn, so, sc, ss, sl, sr, st, sh, wk, vk, vn, vs, wn, wl, sd, se, sm)).bind fun (x5, x6, x7, x8, x9, x10, x11, x12, x13, x14, x15, x16, x17, x18, x19, x20, x21, x22, x23, x24, x25, x26) =>
     some (x5, x6, x7, x8, x9, x10, x11, x12, x13, x14, x15, x16, x17, x18, x19, x20, x21, x22, x23, x24, x25, x26)) (
    (pmust_F ([[73, 78, 68, 69, 88]], x1, x2, x3, x4)).bind fun (x27, x28, x29, x30) =>
     (pname_F (x27, x28, x29, x30)).bind fun (x31, x32, x33, x34, x35) =>
      (pmust_F ([[79, 78]], x32, x33, x34, x35)).bind fun (x36, x37, x38, x39) =>
       (pname_F (x36, x37, x38, x39)).bind fun (x40, x41, x42, x43, x44) =>
        (pnames_F (x41, x42, x43, x44)).bind fun (x45, x46, x47, x48, x49) =>
         some (x46, x47, x48, x49, 3, x31, x40, sc, x45, sl, sr, st, sh, wk, vk, vn, vs, wn, wl, sd, se, sm))
theorem pcreate_eq : ∀ (x : pcreate_I), runLn (pcreate_px _) Tryz.f118 pcreate_si pcreate_so x some = pcreate_body x
  | (l, n, b, p, sk, sn, so, sc, ss, sl, sr, st, sh, wk, vk, vn, vs, wn, wl, sd, se, sm) => by kernel_rfl
theorem pcreate_run : FnLn Tryz.prog elT glT 118 pcreate_si pcreate_so (pcreate_body) := by
  refine fnLn_run Tryz.func118 rfl (by kernel_rfl) follows (by kernel_rfl) (n := 0) (by kernel_rfl) (px := pcreate_px _) (fun cx hP hel hgl => ?_) (pcreate_eq)
  have hp0 : PxOk cx (pcreate_px (pcreate_O)) := ⟨fun t => by rw [hP, hel]; exact tt_ok ttL_ok t, by rw [hgl]; rfl⟩
  have hc0 : CallOk cx (pcreate_px (pcreate_O)) := callT_ok rfl (cfs_cons (cf_ln (by rw [hP, hel, hgl]; exact pis_ok) (by kernel_rfl)) (cfs_cons (cf_ln (by rw [hP, hel, hgl]; exact ptable_ok) (by kernel_rfl)) (cfs_cons (cf_ln (by rw [hP, hel, hgl]; exact pmust_ok) (by kernel_rfl)) (cfs_cons (cf_ln (by rw [hP, hel, hgl]; exact pname_ok) (by kernel_rfl)) (cfs_cons (cf_ln (by rw [hP, hel, hgl]; exact pnames_ok) (by kernel_rfl)) cfs_nil)))))
  have hq0 : CallQOk cx (pcreate_px (pcreate_O)) := callQT_ok rfl rfl cqfs_nil cwfs_nil
  exact ⟨hp0, hc0, hq0, all0⟩
def pcreate_F : pcreate_I → Option pcreate_O := fun x => pcreate_body x
theorem pcreate_ok : FnLn Tryz.prog elT glT 118 pcreate_si pcreate_so (pcreate_F) := pcreate_run
/-! ## (*exchequer/parse.reader).where -/
def pwhere_si : Sig := ⟨2, [], [(0, .ptr 0 0), (1, .ptr 1 0)], [(0, .cells [.sl .tok false, .int .i64, .bool, .int .i64]), (1, .cells [.int .i64, .str, .str, .sl .col true, .sl .str false, .sl .expr true, .sl .exprs true, .sl .set true, .bool, .int .i64, .int .i64, .int .i64, .str, .str, .sl .expr false, .sl .str true, .sl .bool true, .int .i64])], 2, 2, 0, [], []⟩
def pwhere_so : Sig := ⟨0, [], [], [(0, .cells [.sl .tok false, .int .i64, .bool, .int .i64]), (1, .cells [.int .i64, .str, .str, .sl .col true, .sl .str false, .sl .expr true, .sl .exprs true, .sl .set true, .bool, .int .i64, .int .i64, .int .i64, .str, .str, .sl .expr false, .sl .str true, .sl .bool true, .int .i64])], 2, 2, 0, [], []⟩
abbrev pwhere_I := List Tok × Int × Bool × Int × Int × Str × Str × List Col × List Str × List Xpr × List (List Xpr) × List SetE × Bool × Int × Int × Int × Str × Str × List Xpr × List Str × List Bool × Int
abbrev pwhere_O := List Tok × Int × Bool × Int × Int × Str × Str × List Col × List Str × List Xpr × List (List Xpr) × List SetE × Bool × Int × Int × Int × Str × Str × List Xpr × List Str × List Bool × Int
def pwhere_px (R : Type) : Px R := ⟨ttOf ttL, glT, callT [(117, callLn pis_si pis_so pis_F), (90, callLn por_si por_so por_F)], callQT [], loopT [], tbl []⟩
def pwhere_body (x : pwhere_I) : Option (pwhere_O) := match x with
 | (l, n, b, p, sk, sn, so, sc, ss, sl, sr, st, sh, wk, vk, vn, vs, wn, wl, sd, se, sm) =>
  let j := fun (p2 : Bool) (q4 : List Tok) (q5 : Int) (q6 : Bool) (q7 : Int) =>
   cond (p2) (
    (por_F (q4, q5, q6, q7)).bind fun (x5, x6, x7, x8, x9) =>
     some (x6, x7, x8, x9, sk, sn, so, sc, ss, sl, sr, st, true, x5.kind, x5.v.kind, x5.v.n, x5.v.s, x5.name, x5.l, sd, se, sm)) (
    some (q4, q5, q6, q7, sk, sn, so, sc, ss, sl, sr, st, sh, wk, vk, vn, vs, wn, wl, sd, se, sm))
  cond (!b) (
   (pis_F ([87, 72, 69, 82, 69], l, n, b, p)).bind fun (x, x1, x2, x3, x4) =>
    j x x1 x2 x3 x4) (
   j false l n b p)
theorem pwhere_eq : ∀ (x : pwhere_I), runLn (pwhere_px _) Tryz.f125 pwhere_si pwhere_so x some = pwhere_body x
  | (l, n, b, p, sk, sn, so, sc, ss, sl, sr, st, sh, wk, vk, vn, vs, wn, wl, sd, se, sm) => by kernel_rfl
theorem pwhere_run : FnLn Tryz.prog elT glT 125 pwhere_si pwhere_so (pwhere_body) := by
  refine fnLn_run Tryz.func125 rfl (by kernel_rfl) follows (by kernel_rfl) (n := 0) (by kernel_rfl) (px := pwhere_px _) (fun cx hP hel hgl => ?_) (pwhere_eq)
  have hp0 : PxOk cx (pwhere_px (pwhere_O)) := ⟨fun t => by rw [hP, hel]; exact tt_ok ttL_ok t, by rw [hgl]; rfl⟩
  have hc0 : CallOk cx (pwhere_px (pwhere_O)) := callT_ok rfl (cfs_cons (cf_ln (by rw [hP, hel, hgl]; exact pis_ok) (by kernel_rfl)) (cfs_cons (cf_ln (by rw [hP, hel, hgl]; exact por_ok) (by kernel_rfl)) cfs_nil))
  have hq0 : CallQOk cx (pwhere_px (pwhere_O)) := callQT_ok rfl rfl cqfs_nil cwfs_nil
  exact ⟨hp0, hc0, hq0, all0⟩
def pwhere_F : pwhere_I → Option pwhere_O := fun x => pwhere_body x
theorem pwhere_ok : FnLn Tryz.prog elT glT 125 pwhere_si pwhere_so (pwhere_F) := pwhere_run
/-! ## (*exchequer/parse.reader).update -/
def pupdate_si : Sig := ⟨2, [], [(0, .ptr 0 0), (1, .ptr 1 0)], [(0, .cells [.sl .tok false, .int .i64, .bool, .int .i64]), (1, .cells [.int .i64, .str, .str, .sl .col true, .sl .str false, .sl .expr true, .sl .exprs true, .sl .set true, .bool, .int .i64, .int .i64, .int .i64, .str, .str, .sl .expr false, .sl .str true, .sl .bool true, .int .i64])], 2, 2, 0, [], []⟩
def pupdate_so : Sig := ⟨0, [], [], [(0, .cells [.sl .tok false, .int .i64, .bool, .int .i64]), (1, .cells [.int .i64, .str, .str, .sl .col true, .sl .str false, .sl .expr true, .sl .exprs true, .sl .set true, .bool, .int .i64, .int .i64, .int .i64, .str, .str, .sl .expr false, .sl .str true, .sl .bool true, .int .i64])], 2, 2, 0, [], []⟩
abbrev pupdate_I := List Tok × Int × Bool × Int × Int × Str × Str × List Col × List Str × List Xpr × List (List Xpr) × List SetE × Bool × Int × Int × Int × Str × Str × List Xpr × List Str × List Bool × Int
abbrev pupdate_O := List Tok × Int × Bool × Int × Int × Str × Str × List Col × List Str × List Xpr × List (List Xpr) × List SetE × Bool × Int × Int × Int × Str × Str × List Xpr × List Str × List Bool × Int
def pupdate_0_sg : Sig := ⟨19, [], [(0, .ptr 0 0), (1, .fn 163 [.ptr 2 0, .ptr 3 0])], [(0, .cells [.sl .tok false, .int .i64, .bool, .int .i64]), (1, .cells [.int .i64, .str, .str, .sl .col true, .sl .str false, .sl .expr true, .sl .exprs true, .sl .set true, .bool, .int .i64, .int .i64, .int .i64, .str, .str, .sl .expr false, .sl .str true, .sl .bool true, .int .i64]), (2, .fx [.ptr 0 0]), (3, .fx [.ptr 1 0])], 80, 80, 400, [27], []⟩
abbrev pupdate_0_V := List Tok × Int × Bool × Int × Int × Str × Str × List Col × List Str × List Xpr × List (List Xpr) × List SetE × Bool × Int × Int × Int × Str × Str × List Xpr × List Str × List Bool × Int
def pupdate_0 {R : Type} (rec : pupdate_0_V → Option R) (kx : Ex → pupdate_0_V → Option R) (v : pupdate_0_V) : Option R := match v with
 | (w, w1, w2, w3, w4, w5, w6, w7, w8, w9, w10, w11, w12, w13, w14, w15, w16, w17, w18, w19, w20, w21) =>
  cond (!w2) (
   (pis_F ([44], w, w1, w2, w3)).bind fun (x23, x24, x25, x26, x27) =>
    cond (x23) (
     (pname_F (x24, x25, x26, x27)).bind fun (x28, x29, x30, x31, x32) =>
      (pmust_F ([[61]], x29, x30, x31, x32)).bind fun (x33, x34, x35, x36) =>
       (por_F (x33, x34, x35, x36)).bind fun (x37, x38, x39, x40, x41) =>
        chk (decide (w11.length + 1 ≤ maxApp)) (
         rec (x38, x39, x40, x41, w4, w5, w6, w7, w8, w9, w10, (w11 ++ [(SetE.mk x28 (xeta x37))]), w12, w13, w14, w15, w16, w17, w18, w19, w20, w21))) (
     kx (.exit 0) (x24, x25, x26, x27, w4, w5, w6, w7, w8, w9, w10, w11, w12, w13, w14, w15, w16, w17, w18, w19, w20, w21))) (
   kx (.exit 0) (w, w1, w2, w3, w4, w5, w6, w7, w8, w9, w10, w11, w12, w13, w14, w15, w16, w17, w18, w19, w20, w21))
def pupdate_pxi0i0 (R : Type) (_k : Nat) : Px R := ⟨ttOf ttL, glT, callT [(120, callLn pname_si pname_so pname_F), (119, callLn pmust_si pmust_so pmust_F), (90, callLn por_si por_so por_F)], callQT [], loopT [], tbl []⟩
noncomputable def pupdate_pxi0 (R : Type) (k : Nat) : Px R := ⟨ttOf ttL, glT, callT [(117, callLn pis_si pis_so pis_F), (163, callRun 120 600 (pupdate_pxi0i0 R k) Tryz.f163)], callQT [], loopT [(1, loopOr k pupdate_0_sg (pupdate_0))], tbl []⟩
noncomputable def pupdate_px (R : Type) (k : Nat) : Px R := ⟨ttOf ttL, glT, callT [(119, callLn pmust_si pmust_so pmust_F), (125, callLn pwhere_si pwhere_so pwhere_F), (121, callRun 80 400 (pupdate_pxi0 R k) Tryz.f121)], callQT [], loopT [], tbl [(120, callLnW pname_si pname_so pname_F)]⟩
theorem pupdate_0_eq (R : Type) (k : Nat) : ∀ (fr : List Fr) (rec : pupdate_0_V → Option R) (kx : Ex → pupdate_0_V → Option R) (v : pupdate_0_V), round (pupdate_pxi0 R k) pupdate_0_sg (lp Tryz.f121 0) fr rec kx v = pupdate_0 rec kx v
  | fr, rec, kx, (w, w1, w2, w3, w4, w5, w6, w7, w8, w9, w10, w11, w12, w13, w14, w15, w16, w17, w18, w19, w20, w21) => by kernel_rfl
def pupdate_body (k : Nat) (x : pupdate_I) : Option (pupdate_O) := match x with
 | (l, n, b, p, _, _, so, sc, ss, sl, sr, st, sh, wk, vk, vn, vs, wn, wl, sd, se, sm) =>
  (pname_F (l, n, b, p)).bind fun (x, x1, x2, x3, x4) =>
   (pmust_F ([[83, 69, 84]], x1, x2, x3, x4)).bind fun (x5, x6, x7, x8) =>
    (pname_F (x5, x6, x7, x8)).bind fun (x9, x10, x11, x12, x13) =>
     (pmust_F ([[61]], x10, x11, x12, x13)).bind fun (x14, x15, x16, x17) =>
      (por_F (x14, x15, x16, x17)).bind fun (x18, x19, x20, x21, x22) =>
       chk (decide (st.length + 1 ≤ maxApp)) (
        iter (fun rec => pupdate_0 rec (fun e vz => match vz with | (v, v1, v2, v3, v4, v5, v6, v7, v8, v9, v10, v11, v12, v13, v14, v15, v16, v17, v18, v19, v20, v21) => match e with
         | .exit 0 =>
          (pwhere_F (v, v1, v2, v3, v4, v5, v6, v7, v8, v9, v10, v11, v12, v13, v14, v15, v16, v17, v18, v19, v20, v21)).bind fun (x42, x43, x44, x45, x46, x47, x48, x49, x50, x51, x52, x53, x54, x55, x56, x57, x58, x59, x60, x61, x62, x63) =>
           some (x42, x43, x44, x45, x46, x47, x48, x49, x50, x51, x52, x53, x54, x55, x56, x57, x58, x59, x60, x61, x62, x63)
         | _ => none)) k (x19, x20, x21, x22, 6, x, so, sc, ss, sl, sr, (st ++ [(SetE.mk x9 (xeta x18))]), sh, wk, vk, vn, vs, wn, wl, sd, se, sm))
theorem pupdate_eq (k : Nat) : ∀ (x : pupdate_I), runLn (pupdate_px _ k) Tryz.f124 pupdate_si pupdate_so x some = pupdate_body k x
  | (l, n, b, p, sk, sn, so, sc, ss, sl, sr, st, sh, wk, vk, vn, vs, wn, wl, sd, se, sm) => by kernel_rfl
theorem pupdate_run (k : Nat) : FnLn Tryz.prog elT glT 124 pupdate_si pupdate_so (pupdate_body k) := by
  refine fnLn_run Tryz.func124 rfl (by kernel_rfl) follows (by kernel_rfl) (n := 0) (by kernel_rfl) (px := pupdate_px _ k) (fun cx hP hel hgl => ?_) (pupdate_eq k)
  have hp2 : PxOk cx (pupdate_pxi0i0 (pupdate_O) k) := ⟨fun t => by rw [hP, hel]; exact tt_ok ttL_ok t, by rw [hgl]; rfl⟩
  have hc2 : CallOk cx (pupdate_pxi0i0 (pupdate_O) k) := callT_ok rfl (cfs_cons (cf_ln (by rw [hP, hel, hgl]; exact pname_ok) (by kernel_rfl)) (cfs_cons (cf_ln (by rw [hP, hel, hgl]; exact pmust_ok) (by kernel_rfl)) (cfs_cons (cf_ln (by rw [hP, hel, hgl]; exact por_ok) (by kernel_rfl)) cfs_nil)))
  have hq2 : CallQOk cx (pupdate_pxi0i0 (pupdate_O) k) := callQT_ok rfl rfl cqfs_nil cwfs_nil
  have hp1 : PxOk cx (pupdate_pxi0 (pupdate_O) k) := ⟨fun t => by rw [hP, hel]; exact tt_ok ttL_ok t, by rw [hgl]; rfl⟩
  have hc1 : CallOk cx (pupdate_pxi0 (pupdate_O) k) := callT_ok rfl (cfs_cons (cf_ln (by rw [hP, hel, hgl]; exact pis_ok) (by kernel_rfl)) (cfs_cons (cf_run hp2 hc2 hq2 (by rw [hP]; exact follows) (by rw [hP]; exact Tryz.func163) rfl (by kernel_rfl) (by kernel_rfl) (n := 0) (by kernel_rfl) (all0)) cfs_nil))
  have hq1 : CallQOk cx (pupdate_pxi0 (pupdate_O) k) := callQT_ok rfl rfl cqfs_nil cwfs_nil
  have hlpupdate_0 : LoopOk cx (pupdate_pxi0 (pupdate_O) k) (lp Tryz.f121 0) := loop_ok hp1 hc1 hq1 (by rw [hP]; exact follows) (k := k) (s := pupdate_0_sg) (step := pupdate_0) (fun _ _ => by kernel_rfl) (by kernel_rfl) (pupdate_0_eq _ k) (loops_in (n := 0) (by kernel_rfl) all0)
  have hp0 : PxOk cx (pupdate_px (pupdate_O) k) := ⟨fun t => by rw [hP, hel]; exact tt_ok ttL_ok t, by rw [hgl]; rfl⟩
  have hc0 : CallOk cx (pupdate_px (pupdate_O) k) := callT_ok rfl (cfs_cons (cf_ln (by rw [hP, hel, hgl]; exact pmust_ok) (by kernel_rfl)) (cfs_cons (cf_ln (by rw [hP, hel, hgl]; exact pwhere_ok) (by kernel_rfl)) (cfs_cons (cf_run hp1 hc1 hq1 (by rw [hP]; exact follows) (by rw [hP]; exact Tryz.func121) rfl (by kernel_rfl) (by kernel_rfl) (n := 1) (by kernel_rfl) ((allS all0 hlpupdate_0))) cfs_nil)))
  have hq0 : CallQOk cx (pupdate_px (pupdate_O) k) := callQT_ok rfl rfl cqfs_nil (cwfs_cons (cw_ln (by rw [hP, hel, hgl]; exact pname_ok) (by kernel_rfl)) cwfs_nil)
  exact ⟨hp0, hc0, hq0, all0⟩
def pupdate_F : pupdate_I → Option pupdate_O := fun x => pupdate_body ((x.1.length + 3)) x
theorem pupdate_ok : FnLn Tryz.prog elT glT 124 pupdate_si pupdate_so (pupdate_F) := FnLn.fin (ι := Nat) (sg := pupdate_si) (so := pupdate_so) 0 (F := fun k => pupdate_body k) (fun k => pupdate_run k) fun x _ _ hx => ⟨(x.1.length + 3), hx⟩
end Go.Proofs.YthndhaolemgbdaaGreatDoor

/- The program's reader of statements: what is chosen; statements. -/
namespace Go.Proofs.YthndhaolemgbdaaGreatDoor
open Go.Ax
/-! ## (*exchequer/parse.reader).selects -/
def pselects_si : Sig := ⟨2, [], [(0, .ptr 0 0), (1, .ptr 1 0)], [(0, .cells [.sl .tok false, .int .i64, .bool, .int .i64]), (1, .cells [.int .i64, .str, .str, .sl .col true, .sl .str false, .sl .expr true, .sl .exprs true, .sl .set true, .bool, .int .i64, .int .i64, .int .i64, .str, .str, .sl .expr false, .sl .str true, .sl .bool true, .int .i64])], 2, 2, 0, [], []⟩
def pselects_so : Sig := ⟨0, [], [], [(0, .cells [.sl .tok false, .int .i64, .bool, .int .i64]), (1, .cells [.int .i64, .str, .str, .sl .col true, .sl .str false, .sl .expr true, .sl .exprs true, .sl .set true, .bool, .int .i64, .int .i64, .int .i64, .str, .str, .sl .expr false, .sl .str true, .sl .bool true, .int .i64])], 2, 2, 0, [], []⟩
abbrev pselects_I := List Tok × Int × Bool × Int × Int × Str × Str × List Col × List Str × List Xpr × List (List Xpr) × List SetE × Bool × Int × Int × Int × Str × Str × List Xpr × List Str × List Bool × Int
abbrev pselects_O := List Tok × Int × Bool × Int × Int × Str × Str × List Col × List Str × List Xpr × List (List Xpr) × List SetE × Bool × Int × Int × Int × Str × Str × List Xpr × List Str × List Bool × Int
def pselects_0_sg : Sig := ⟨19, [], [(0, .ptr 0 0), (1, .fn 164 [.ptr 3 0, .ptr 2 0])], [(0, .cells [.sl .tok false, .int .i64, .bool, .int .i64]), (1, .cells [.int .i64, .str, .str, .sl .col true, .sl .str false, .sl .expr true, .sl .exprs true, .sl .set true, .bool, .int .i64, .int .i64, .int .i64, .str, .str, .sl .expr false, .sl .str true, .sl .bool true, .int .i64]), (2, .fx [.ptr 0 0]), (3, .fx [.ptr 1 0])], 80, 80, 400, [], []⟩
abbrev pselects_0_V := List Tok × Int × Bool × Int × Int × Str × Str × List Col × List Str × List Xpr × List (List Xpr) × List SetE × Bool × Int × Int × Int × Str × Str × List Xpr × List Str × List Bool × Int
def pselects_0 {R : Type} (rec : pselects_0_V → Option R) (kx : Ex → pselects_0_V → Option R) (v : pselects_0_V) : Option R := match v with
 | (w, w1, w2, w3, w4, w5, w6, w7, w8, w9, w10, w11, w12, w13, w14, w15, w16, w17, w18, w19, w20, w21) =>
  cond (!w2) (
   (pis_F ([44], w, w1, w2, w3)).bind fun (x90, x91, x92, x93, x94) =>
    cond (x90) (
     (pname_F (x91, x92, x93, x94)).bind fun (x95, x96, x97, x98, x99) =>
      chk (decide (w19.length + 1 ≤ maxApp)) (
       cond (!x98) (
        (pis_F ([68, 69, 83, 67], x96, x97, x98, x99)).bind fun (x100, x101, x102, x103, x104) =>
         cond (!x103) (
          cond (!x100) (
           (pis_F ([65, 83, 67], x101, x102, x103, x104)).bind fun (_, x121, x122, x123, x124) =>
            chk (decide (w20.length + 1 ≤ maxApp)) (
             rec (x121, x122, x123, x124, w4, w5, w6, w7, w8, w9, w10, w11, w12, w13, w14, w15, w16, w17, w18, (w19 ++ [x95]), (w20 ++ [x100]), w21))) (
           chk (decide (w20.length + 1 ≤ maxApp)) (
            rec (x101, x102, x103, x104, w4, w5, w6, w7, w8, w9, w10, w11, w12, w13, w14, w15, w16, w17, w18, (w19 ++ [x95]), (w20 ++ [x100]), w21)))) (
          chk (decide (w20.length + 1 ≤ maxApp)) (
           rec (x101, x102, x103, x104, w4, w5, w6, w7, w8, w9, w10, w11, w12, w13, w14, w15, w16, w17, w18, (w19 ++ [x95]), (w20 ++ [x100]), w21)))) (
        cond (!x98) (
         (pis_F ([65, 83, 67], x96, x97, x98, x99)).bind fun (_, x131, x132, x133, x134) =>
          chk (decide (w20.length + 1 ≤ maxApp)) (
           rec (x131, x132, x133, x134, w4, w5, w6, w7, w8, w9, w10, w11, w12, w13, w14, w15, w16, w17, w18, (w19 ++ [x95]), (w20 ++ [false]), w21))) (
         chk (decide (w20.length + 1 ≤ maxApp)) (
          rec (x96, x97, x98, x99, w4, w5, w6, w7, w8, w9, w10, w11, w12, w13, w14, w15, w16, w17, w18, (w19 ++ [x95]), (w20 ++ [false]), w21)))))) (
     kx (.exit 0) (x91, x92, x93, x94, w4, w5, w6, w7, w8, w9, w10, w11, w12, w13, w14, w15, w16, w17, w18, w19, w20, w21))) (
   kx (.exit 0) (w, w1, w2, w3, w4, w5, w6, w7, w8, w9, w10, w11, w12, w13, w14, w15, w16, w17, w18, w19, w20, w21))
def pselects_pxi0i0 (R : Type) (_k : Nat) : Px R := ⟨ttOf ttL, glT, callT [(117, callLn pis_si pis_so pis_F)], callQT [], loopT [], tbl [(120, callLnW pname_si pname_so pname_F)]⟩
noncomputable def pselects_pxi0 (R : Type) (k : Nat) : Px R := ⟨ttOf ttL, glT, callT [(117, callLn pis_si pis_so pis_F), (164, callRun 120 600 (pselects_pxi0i0 R k) Tryz.f164)], callQT [], loopT [(1, loopOr k pselects_0_sg (pselects_0))], tbl []⟩
noncomputable def pselects_px (R : Type) (k : Nat) : Px R := ⟨ttOf ttL, glT, callT [(117, callLn pis_si pis_so pis_F), (119, callLn pmust_si pmust_so pmust_F), (125, callLn pwhere_si pwhere_so pwhere_F), (158, callLn ppeek_si ppeek_so ppeek_F), (127, callLn pwrong_si pwrong_so pwrong_F), (121, callRun 80 400 (pselects_pxi0 R k) Tryz.f121)], callQT [], loopT [], tbl [(123, callLnW pexprs_si pexprs_so pexprs_F), (120, callLnW pname_si pname_so pname_F), (159, callLnW pnext_si pnext_so pnext_F)]⟩
theorem pselects_0_eq (R : Type) (k : Nat) : ∀ (fr : List Fr) (rec : pselects_0_V → Option R) (kx : Ex → pselects_0_V → Option R) (v : pselects_0_V), round (pselects_pxi0 R k) pselects_0_sg (lp Tryz.f121 0) fr rec kx v = pselects_0 rec kx v
  | fr, rec, kx, (w, w1, w2, w3, w4, w5, w6, w7, w8, w9, w10, w11, w12, w13, w14, w15, w16, w17, w18, w19, w20, w21) => by kernel_rfl
def pselects_body (k : Nat) (x : pselects_I) : Option (pselects_O) := match x with
 | (l, n, b, p, _, _, so, sc, ss, sl, sr, st, sh, wk, vk, vn, vs, wn, wl, sd, se, _) =>
  let j3 := fun (q : List Tok) (q1 : Int) (q2 : Bool) (q3 : Int) (q4 : List Xpr) =>
   (pmust_F ([[70, 82, 79, 77]], q, q1, q2, q3)).bind fun (x10, x11, x12, x13) =>
    (pname_F (x10, x11, x12, x13)).bind fun (x14, x15, x16, x17, x18) =>
     (pwhere_F (x15, x16, x17, x18, 8, x14, so, sc, ss, q4, sr, st, sh, wk, vk, vn, vs, wn, wl, sd, se, (-1))).bind fun (x19, x20, x21, x22, x23, x24, x25, x26, x27, x28, x29, x30, x31, x32, x33, x34, x35, x36, x37, x38, x39, x40) =>
      let j2 := fun (q161 : List Tok) (q162 : Int) (q163 : Bool) (q164 : Int) (q165 : Int) (q166 : Str) (q167 : Str) (q168 : List Col) (q169 : List Str) (q170 : List Xpr) (q171 : List (List Xpr)) (q172 : List SetE) (q173 : Bool) (q174 : Int) (q175 : Int) (q176 : Int) (q177 : Str) (q178 : Str) (q179 : List Xpr) (q180 : List Str) (q181 : List Bool) (q182 : Int) =>
       cond (!q163) (
        (pis_F ([76, 73, 77, 73, 84], q161, q162, q163, q164)).bind fun (x179, x180, x181, x182, x183) =>
         cond (x179) (
          (ppeek_F (x180, x181, x182, x183)).bind fun (x208, x209, x210, x211, x212) =>
           cond (!decide (x208.kind = 3)) (
            (pwrong_F (x209, x210, x211, x212)).bind fun (x213, x214, x215, x216) =>
             (pnext_F (x213, x214, x215, x216)).bind fun (x222, x223, x224, x225, x226) =>
              some (x223, x224, x225, x226, q165, q166, q167, q168, q169, q170, q171, q172, q173, q174, q175, q176, q177, q178, q179, q180, q181, x222.n)) (
            (pnext_F (x209, x210, x211, x212)).bind fun (x227, x228, x229, x230, x231) =>
             some (x228, x229, x230, x231, q165, q166, q167, q168, q169, q170, q171, q172, q173, q174, q175, q176, q177, q178, q179, q180, q181, x227.n))) (
          some (x180, x181, x182, x183, q165, q166, q167, q168, q169, q170, q171, q172, q173, q174, q175, q176, q177, q178, q179, q180, q181, q182))) (
        some (q161, q162, q163, q164, q165, q166, q167, q168, q169, q170, q171, q172, q173, q174, q175, q176, q177, q178, q179, q180, q181, q182))
      cond (!x21) (
       (pis_F ([79, 82, 68, 69, 82], x19, x20, x21, x22)).bind fun (x41, x42, x43, x44, x45) =>
        cond (x41) (
         (pmust_F ([[66, 89]], x42, x43, x44, x45)).bind fun (x135, x136, x137, x138) =>
          (pname_F (x135, x136, x137, x138)).bind fun (x139, x140, x141, x142, x143) =>
           let j1 := fun (q156 : List Tok) (q157 : Int) (q158 : Bool) (q159 : Int) (q160 : List Bool) =>
            iter (fun rec => pselects_0 rec (fun e vz => match vz with | (v22, v23, v24, v25, v26, v27, v28, v29, v30, v31, v32, v33, v34, v35, v36, v37, v38, v39, v40, v41, v42, v43) => match e with
             | .exit 0 =>
              j2 v22 v23 v24 v25 v26 v27 v28 v29 v30 v31 v32 v33 v34 v35 v36 v37 v38 v39 v40 v41 v42 v43
             | _ => none)) k (q156, q157, q158, q159, x23, x24, x25, x26, x27, x28, x29, x30, x31, x32, x33, x34, x35, x36, x37, (x38 ++ [x139]), q160, x40)
           chk (decide (x38.length + 1 ≤ maxApp)) (
            cond (!x142) (
             (pis_F ([68, 69, 83, 67], x140, x141, x142, x143)).bind fun (x144, x145, x146, x147, x148) =>
              cond (!x147) (
               cond (!x144) (
                (pis_F ([65, 83, 67], x145, x146, x147, x148)).bind fun (_, x165, x166, x167, x168) =>
                 chk (decide (x39.length + 1 ≤ maxApp)) (
                  j1 x165 x166 x167 x168 (x39 ++ [x144]))) (
                chk (decide (x39.length + 1 ≤ maxApp)) (
                 j1 x145 x146 x147 x148 (x39 ++ [x144])))) (
               chk (decide (x39.length + 1 ≤ maxApp)) (
                j1 x145 x146 x147 x148 (x39 ++ [x144])))) (
             cond (!x142) (
              (pis_F ([65, 83, 67], x140, x141, x142, x143)).bind fun (_, x175, x176, x177, x178) =>
               chk (decide (x39.length + 1 ≤ maxApp)) (
                j1 x175 x176 x177 x178 (x39 ++ [false]))) (
              chk (decide (x39.length + 1 ≤ maxApp)) (
               j1 x140 x141 x142 x143 (x39 ++ [false])))))) (
         j2 x42 x43 x44 x45 x23 x24 x25 x26 x27 x28 x29 x30 x31 x32 x33 x34 x35 x36 x37 x38 x39 x40)) (
       j2 x19 x20 x21 x22 x23 x24 x25 x26 x27 x28 x29 x30 x31 x32 x33 x34 x35 x36 x37 x38 x39 x40)
  (pis_F ([42], l, n, b, p)).bind fun (x, x1, x2, x3, x4) =>
   cond (!x) (
    (pexprs_F (x1, x2, x3, x4)).bind fun (x5, x6, x7, x8, x9) =>
     j3 x6 x7 x8 x9 x5) (
    j3 x1 x2 x3 x4 sl)
theorem pselects_eq (k : Nat) : ∀ (x : pselects_I), runLn (pselects_px _ k) Tryz.f126 pselects_si pselects_so x some = pselects_body k x
  | (l, n, b, p, sk, sn, so, sc, ss, sl, sr, st, sh, wk, vk, vn, vs, wn, wl, sd, se, sm) => by kernel_rfl
theorem pselects_run (k : Nat) : FnLn Tryz.prog elT glT 126 pselects_si pselects_so (pselects_body k) := by
  refine fnLn_run Tryz.func126 rfl (by kernel_rfl) follows (by kernel_rfl) (n := 0) (by kernel_rfl) (px := pselects_px _ k) (fun cx hP hel hgl => ?_) (pselects_eq k)
  have hp2 : PxOk cx (pselects_pxi0i0 (pselects_O) k) := ⟨fun t => by rw [hP, hel]; exact tt_ok ttL_ok t, by rw [hgl]; rfl⟩
  have hc2 : CallOk cx (pselects_pxi0i0 (pselects_O) k) := callT_ok rfl (cfs_cons (cf_ln (by rw [hP, hel, hgl]; exact pis_ok) (by kernel_rfl)) cfs_nil)
  have hq2 : CallQOk cx (pselects_pxi0i0 (pselects_O) k) := callQT_ok rfl rfl cqfs_nil (cwfs_cons (cw_ln (by rw [hP, hel, hgl]; exact pname_ok) (by kernel_rfl)) cwfs_nil)
  have hp1 : PxOk cx (pselects_pxi0 (pselects_O) k) := ⟨fun t => by rw [hP, hel]; exact tt_ok ttL_ok t, by rw [hgl]; rfl⟩
  have hc1 : CallOk cx (pselects_pxi0 (pselects_O) k) := callT_ok rfl (cfs_cons (cf_ln (by rw [hP, hel, hgl]; exact pis_ok) (by kernel_rfl)) (cfs_cons (cf_run hp2 hc2 hq2 (by rw [hP]; exact follows) (by rw [hP]; exact Tryz.func164) rfl (by kernel_rfl) (by kernel_rfl) (n := 0) (by kernel_rfl) (all0)) cfs_nil))
  have hq1 : CallQOk cx (pselects_pxi0 (pselects_O) k) := callQT_ok rfl rfl cqfs_nil cwfs_nil
  have hlpselects_0 : LoopOk cx (pselects_pxi0 (pselects_O) k) (lp Tryz.f121 0) := loop_ok hp1 hc1 hq1 (by rw [hP]; exact follows) (k := k) (s := pselects_0_sg) (step := pselects_0) (fun _ _ => by kernel_rfl) (by kernel_rfl) (pselects_0_eq _ k) (loops_in (n := 0) (by kernel_rfl) all0)
  have hp0 : PxOk cx (pselects_px (pselects_O) k) := ⟨fun t => by rw [hP, hel]; exact tt_ok ttL_ok t, by rw [hgl]; rfl⟩
  have hc0 : CallOk cx (pselects_px (pselects_O) k) := callT_ok rfl (cfs_cons (cf_ln (by rw [hP, hel, hgl]; exact pis_ok) (by kernel_rfl)) (cfs_cons (cf_ln (by rw [hP, hel, hgl]; exact pmust_ok) (by kernel_rfl)) (cfs_cons (cf_ln (by rw [hP, hel, hgl]; exact pwhere_ok) (by kernel_rfl)) (cfs_cons (cf_ln (by rw [hP, hel, hgl]; exact ppeek_ok) (by kernel_rfl)) (cfs_cons (cf_ln (by rw [hP, hel, hgl]; exact pwrong_ok) (by kernel_rfl)) (cfs_cons (cf_run hp1 hc1 hq1 (by rw [hP]; exact follows) (by rw [hP]; exact Tryz.func121) rfl (by kernel_rfl) (by kernel_rfl) (n := 1) (by kernel_rfl) ((allS all0 hlpselects_0))) cfs_nil))))))
  have hq0 : CallQOk cx (pselects_px (pselects_O) k) := callQT_ok rfl rfl cqfs_nil (cwfs_cons (cw_ln (by rw [hP, hel, hgl]; exact pexprs_ok) (by kernel_rfl)) (cwfs_cons (cw_ln (by rw [hP, hel, hgl]; exact pname_ok) (by kernel_rfl)) (cwfs_cons (cw_ln (by rw [hP, hel, hgl]; exact pnext_ok) (by kernel_rfl)) cwfs_nil)))
  exact ⟨hp0, hc0, hq0, all0⟩
def pselects_F : pselects_I → Option pselects_O := fun x => pselects_body ((x.1.length + 3)) x
theorem pselects_ok : FnLn Tryz.prog elT glT 126 pselects_si pselects_so (pselects_F) := FnLn.fin (ι := Nat) (sg := pselects_si) (so := pselects_so) 0 (F := fun k => pselects_body k) (fun k => pselects_run k) fun x _ _ hx => ⟨(x.1.length + 3), hx⟩
/-! ## (*exchequer/parse.reader).stmt -/
def pstmt_si : Sig := ⟨1, [], [(0, .ptr 0 0)], [(0, .cells [.sl .tok false, .int .i64, .bool, .int .i64])], 1, 1, 0, [], []⟩
def pstmt_so : Sig := ⟨1, [(0, .sv .stmt)], [], [(0, .cells [.sl .tok false, .int .i64, .bool, .int .i64])], 1, 1, 0, [], []⟩
abbrev pstmt_I := List Tok × Int × Bool × Int
abbrev pstmt_O := Stm × List Tok × Int × Bool × Int
def pstmt_0_sg : Sig := ⟨19, [], [(0, .ptr 0 0), (1, .fn 122 [.ptr 1 0, .ptr 3 0])], [(0, .cells [.sl .tok false, .int .i64, .bool, .int .i64]), (1, .fx [.ptr 0 0]), (2, .one (.sv .stmt)), (3, .cells [.int .i64, .str, .str, .sl .col true, .sl .str true, .sl .expr true, .sl .exprs true, .sl .set true, .bool, .int .i64, .int .i64, .int .i64, .str, .str, .sl .expr true, .sl .str true, .sl .bool true, .int .i64])], 80, 80, 400, [], []⟩
abbrev pstmt_0_V := List Tok × Int × Bool × Int × Stm × Int × Str × Str × List Col × List Str × List Xpr × List (List Xpr) × List SetE × Bool × Int × Int × Int × Str × Str × List Xpr × List Str × List Bool × Int
def pstmt_0 {R : Type} (rec : pstmt_0_V → Option R) (kx : Ex → pstmt_0_V → Option R) (v : pstmt_0_V) : Option R := match v with
 | (w, w1, w2, w3, w4, w5, w6, w7, w8, w9, w10, w11, w12, w13, w14, w15, w16, w17, w18, w19, w20, w21, w22) =>
  cond (!w2) (
   (pis_F ([44], w, w1, w2, w3)).bind fun (x87, x88, x89, x90, x91) =>
    cond (x87) (
     (pmust_F ([[40]], x88, x89, x90, x91)).bind fun (x92, x93, x94, x95) =>
      (pexprs_F (x92, x93, x94, x95)).bind fun (x96, x97, x98, x99, x100) =>
       chk (decide (w11.length + 1 ≤ maxApp)) (
        (pmust_F ([[41]], x97, x98, x99, x100)).bind fun (x101, x102, x103, x104) =>
         rec (x101, x102, x103, x104, w4, w5, w6, w7, w8, w9, w10, (w11 ++ [x96]), w12, w13, w14, w15, w16, w17, w18, w19, w20, w21, w22))) (
     kx (.exit 0) (x88, x89, x90, x91, w4, w5, w6, w7, w8, w9, w10, w11, w12, w13, w14, w15, w16, w17, w18, w19, w20, w21, w22))) (
   kx (.exit 0) (w, w1, w2, w3, w4, w5, w6, w7, w8, w9, w10, w11, w12, w13, w14, w15, w16, w17, w18, w19, w20, w21, w22))
def pstmt_pxi0i0 (R : Type) (_k : Nat) : Px R := ⟨ttOf ttL, glT, callT [(119, callLn pmust_si pmust_so pmust_F)], callQT [], loopT [], tbl [(123, callLnW pexprs_si pexprs_so pexprs_F)]⟩
noncomputable def pstmt_pxi0 (R : Type) (k : Nat) : Px R := ⟨ttOf ttL, glT, callT [(117, callLn pis_si pis_so pis_F), (122, callRun 120 600 (pstmt_pxi0i0 R k) Tryz.f122)], callQT [], loopT [(1, loopOr k pstmt_0_sg (pstmt_0))], tbl []⟩
noncomputable def pstmt_px (R : Type) (k : Nat) : Px R := ⟨ttOf ttL, glT, callT [(117, callLn pis_si pis_so pis_F), (118, callLn pcreate_si pcreate_so pcreate_F), (119, callLn pmust_si pmust_so pmust_F), (120, callLn pname_si pname_so pname_F), (124, callLn pupdate_si pupdate_so pupdate_F), (125, callLn pwhere_si pwhere_so pwhere_F), (126, callLn pselects_si pselects_so pselects_F), (127, callLn pwrong_si pwrong_so pwrong_F), (121, callRun 80 400 (pstmt_pxi0 R k) Tryz.f121)], callQT [], loopT [], tbl []⟩
theorem pstmt_0_eq (R : Type) (k : Nat) : ∀ (fr : List Fr) (rec : pstmt_0_V → Option R) (kx : Ex → pstmt_0_V → Option R) (v : pstmt_0_V), round (pstmt_pxi0 R k) pstmt_0_sg (lp Tryz.f121 0) fr rec kx v = pstmt_0 rec kx v
  | fr, rec, kx, (w, w1, w2, w3, w4, w5, w6, w7, w8, w9, w10, w11, w12, w13, w14, w15, w16, w17, w18, w19, w20, w21, w22) => by kernel_rfl
def pstmt_body (k : Nat) (x : pstmt_I) : Option (pstmt_O) := match x with
 | (l, n, b, p) =>
  (pis_F ([67, 82, 69, 65, 84, 69], l, n, b, p)).bind fun (x, x1, x2, x3, x4) =>
   cond (x) (
    (pcreate_F (x1, x2, x3, x4, 0, [], [], [], [], [], [], [], false, 0, 0, 0, [], [], [], [], [], 0)).bind fun (x5, x6, x7, x8, x9, x10, x11, x12, x13, x14, x15, x16, x17, x18, x19, x20, x21, x22, x23, x24, x25, x26) =>
     cond (!x7) (
      (pis_F ([59], x5, x6, x7, x8)).bind fun (_, x200, x201, x202, x203) =>
       some ((Stm.mk x9 x10 x11 x12 x13 x14 x15 x16 x17 (Xpr.mk x18 ⟨x19, x20, x21⟩ x22 x23) x24 x25 x26), x200, x201, x202, x203)) (
      some ((Stm.mk x9 x10 x11 x12 x13 x14 x15 x16 x17 (Xpr.mk x18 ⟨x19, x20, x21⟩ x22 x23) x24 x25 x26), x5, x6, x7, x8))) (
    (pis_F ([68, 82, 79, 80], x1, x2, x3, x4)).bind fun (x27, x28, x29, x30, x31) =>
     cond (x27) (
      (pis_F ([84, 65, 66, 76, 69], x28, x29, x30, x31)).bind fun (x32, x33, x34, x35, x36) =>
       cond (!x32) (
        (pmust_F ([[73, 78, 68, 69, 88]], x33, x34, x35, x36)).bind fun (x37, x38, x39, x40) =>
         (pname_F (x37, x38, x39, x40)).bind fun (x46, x47, x48, x49, x50) =>
          cond (!x49) (
           (pis_F ([59], x47, x48, x49, x50)).bind fun (_, x205, x206, x207, x208) =>
            some ((Stm.mk 4 x46 [] [] [] [] [] [] false (Xpr.mk 0 ⟨0, 0, []⟩ [] []) [] [] 0), x205, x206, x207, x208)) (
           some ((Stm.mk 4 x46 [] [] [] [] [] [] false (Xpr.mk 0 ⟨0, 0, []⟩ [] []) [] [] 0), x47, x48, x49, x50))) (
        (pname_F (x33, x34, x35, x36)).bind fun (x51, x52, x53, x54, x55) =>
         cond (!x54) (
          (pis_F ([59], x52, x53, x54, x55)).bind fun (_, x210, x211, x212, x213) =>
           some ((Stm.mk 2 x51 [] [] [] [] [] [] false (Xpr.mk 0 ⟨0, 0, []⟩ [] []) [] [] 0), x210, x211, x212, x213)) (
          some ((Stm.mk 2 x51 [] [] [] [] [] [] false (Xpr.mk 0 ⟨0, 0, []⟩ [] []) [] [] 0), x52, x53, x54, x55)))) (
      (pis_F ([73, 78, 83, 69, 82, 84], x28, x29, x30, x31)).bind fun (x56, x57, x58, x59, x60) =>
       cond (x56) (
        (pmust_F ([[73, 78, 84, 79]], x57, x58, x59, x60)).bind fun (x61, x62, x63, x64) =>
         (pname_F (x61, x62, x63, x64)).bind fun (x65, x66, x67, x68, x69) =>
          (pmust_F ([[86, 65, 76, 85, 69, 83]], x66, x67, x68, x69)).bind fun (x70, x71, x72, x73) =>
           (pmust_F ([[40]], x70, x71, x72, x73)).bind fun (x74, x75, x76, x77) =>
            (pexprs_F (x74, x75, x76, x77)).bind fun (x78, x79, x80, x81, x82) =>
             (pmust_F ([[41]], x79, x80, x81, x82)).bind fun (x83, x84, x85, x86) =>
              iter (fun rec => pstmt_0 rec (fun e vz => match vz with | (v, v1, v2, v3, _, v5, v6, v7, v8, v9, v10, v11, v12, v13, v14, v15, v16, v17, v18, v19, v20, v21, v22) => match e with
               | .exit 0 =>
                cond (!v2) (
                 (pis_F ([59], v, v1, v2, v3)).bind fun (_, x215, x216, x217, x218) =>
                  some ((Stm.mk v5 v6 v7 v8 v9 v10 v11 v12 v13 (Xpr.mk v14 ⟨v15, v16, v17⟩ v18 v19) v20 v21 v22), x215, x216, x217, x218)) (
                 some ((Stm.mk v5 v6 v7 v8 v9 v10 v11 v12 v13 (Xpr.mk v14 ⟨v15, v16, v17⟩ v18 v19) v20 v21 v22), v, v1, v2, v3))
               | _ => none)) k (x83, x84, x85, x86, (Stm.mk 0 [] [] [] [] [] [] [] false (Xpr.mk 0 ⟨0, 0, []⟩ [] []) [] [] 0), 5, x65, [], [], [], [], [x78], [], false, 0, 0, 0, [], [], [], [], [], 0)) (
        (pis_F ([85, 80, 68, 65, 84, 69], x57, x58, x59, x60)).bind fun (x105, x106, x107, x108, x109) =>
         cond (x105) (
          (pupdate_F (x106, x107, x108, x109, 0, [], [], [], [], [], [], [], false, 0, 0, 0, [], [], [], [], [], 0)).bind fun (x110, x111, x112, x113, x114, x115, x116, x117, x118, x119, x120, x121, x122, x123, x124, x125, x126, x127, x128, x129, x130, x131) =>
           cond (!x112) (
            (pis_F ([59], x110, x111, x112, x113)).bind fun (_, x220, x221, x222, x223) =>
             some ((Stm.mk x114 x115 x116 x117 x118 x119 x120 x121 x122 (Xpr.mk x123 ⟨x124, x125, x126⟩ x127 x128) x129 x130 x131), x220, x221, x222, x223)) (
            some ((Stm.mk x114 x115 x116 x117 x118 x119 x120 x121 x122 (Xpr.mk x123 ⟨x124, x125, x126⟩ x127 x128) x129 x130 x131), x110, x111, x112, x113))) (
          (pis_F ([68, 69, 76, 69, 84, 69], x106, x107, x108, x109)).bind fun (x132, x133, x134, x135, x136) =>
           cond (x132) (
            (pmust_F ([[70, 82, 79, 77]], x133, x134, x135, x136)).bind fun (x137, x138, x139, x140) =>
             (pname_F (x137, x138, x139, x140)).bind fun (x141, x142, x143, x144, x145) =>
              (pwhere_F (x142, x143, x144, x145, 7, x141, [], [], [], [], [], [], false, 0, 0, 0, [], [], [], [], [], 0)).bind fun (x146, x147, x148, x149, x150, x151, x152, x153, x154, x155, x156, x157, x158, x159, x160, x161, x162, x163, x164, x165, x166, x167) =>
               cond (!x148) (
                (pis_F ([59], x146, x147, x148, x149)).bind fun (_, x225, x226, x227, x228) =>
                 some ((Stm.mk x150 x151 x152 x153 x154 x155 x156 x157 x158 (Xpr.mk x159 ⟨x160, x161, x162⟩ x163 x164) x165 x166 x167), x225, x226, x227, x228)) (
                some ((Stm.mk x150 x151 x152 x153 x154 x155 x156 x157 x158 (Xpr.mk x159 ⟨x160, x161, x162⟩ x163 x164) x165 x166 x167), x146, x147, x148, x149))) (
            (pis_F ([83, 69, 76, 69, 67, 84], x133, x134, x135, x136)).bind fun (x168, x169, x170, x171, x172) =>
             cond (x168) (
              (pselects_F (x169, x170, x171, x172, 0, [], [], [], [], [], [], [], false, 0, 0, 0, [], [], [], [], [], 0)).bind fun (x173, x174, x175, x176, x177, x178, x179, x180, x181, x182, x183, x184, x185, x186, x187, x188, x189, x190, x191, x192, x193, x194) =>
               cond (!x175) (
                (pis_F ([59], x173, x174, x175, x176)).bind fun (_, x230, x231, x232, x233) =>
                 some ((Stm.mk x177 x178 x179 x180 x181 x182 x183 x184 x185 (Xpr.mk x186 ⟨x187, x188, x189⟩ x190 x191) x192 x193 x194), x230, x231, x232, x233)) (
                some ((Stm.mk x177 x178 x179 x180 x181 x182 x183 x184 x185 (Xpr.mk x186 ⟨x187, x188, x189⟩ x190 x191) x192 x193 x194), x173, x174, x175, x176))) (
              (pwrong_F (x169, x170, x171, x172)).bind fun (x195, x196, x197, x198) =>
               cond (!x197) (
                (pis_F ([59], x195, x196, x197, x198)).bind fun (_, x235, x236, x237, x238) =>
                 some ((Stm.mk 0 [] [] [] [] [] [] [] false (Xpr.mk 0 ⟨0, 0, []⟩ [] []) [] [] 0), x235, x236, x237, x238)) (
                some ((Stm.mk 0 [] [] [] [] [] [] [] false (Xpr.mk 0 ⟨0, 0, []⟩ [] []) [] [] 0), x195, x196, x197, x198))))))))
theorem pstmt_eq (k : Nat) : ∀ (x : pstmt_I), runLn (pstmt_px _ k) Tryz.f85 pstmt_si pstmt_so x some = pstmt_body k x
  | (l, n, b, p) => by kernel_rfl
theorem pstmt_run (k : Nat) : FnLn Tryz.prog elT glT 85 pstmt_si pstmt_so (pstmt_body k) := by
  refine fnLn_run Tryz.func85 rfl (by kernel_rfl) follows (by kernel_rfl) (n := 0) (by kernel_rfl) (px := pstmt_px _ k) (fun cx hP hel hgl => ?_) (pstmt_eq k)
  have hp2 : PxOk cx (pstmt_pxi0i0 (pstmt_O) k) := ⟨fun t => by rw [hP, hel]; exact tt_ok ttL_ok t, by rw [hgl]; rfl⟩
  have hc2 : CallOk cx (pstmt_pxi0i0 (pstmt_O) k) := callT_ok rfl (cfs_cons (cf_ln (by rw [hP, hel, hgl]; exact pmust_ok) (by kernel_rfl)) cfs_nil)
  have hq2 : CallQOk cx (pstmt_pxi0i0 (pstmt_O) k) := callQT_ok rfl rfl cqfs_nil (cwfs_cons (cw_ln (by rw [hP, hel, hgl]; exact pexprs_ok) (by kernel_rfl)) cwfs_nil)
  have hp1 : PxOk cx (pstmt_pxi0 (pstmt_O) k) := ⟨fun t => by rw [hP, hel]; exact tt_ok ttL_ok t, by rw [hgl]; rfl⟩
  have hc1 : CallOk cx (pstmt_pxi0 (pstmt_O) k) := callT_ok rfl (cfs_cons (cf_ln (by rw [hP, hel, hgl]; exact pis_ok) (by kernel_rfl)) (cfs_cons (cf_run hp2 hc2 hq2 (by rw [hP]; exact follows) (by rw [hP]; exact Tryz.func122) rfl (by kernel_rfl) (by kernel_rfl) (n := 0) (by kernel_rfl) (all0)) cfs_nil))
  have hq1 : CallQOk cx (pstmt_pxi0 (pstmt_O) k) := callQT_ok rfl rfl cqfs_nil cwfs_nil
  have hlpstmt_0 : LoopOk cx (pstmt_pxi0 (pstmt_O) k) (lp Tryz.f121 0) := loop_ok hp1 hc1 hq1 (by rw [hP]; exact follows) (k := k) (s := pstmt_0_sg) (step := pstmt_0) (fun _ _ => by kernel_rfl) (by kernel_rfl) (pstmt_0_eq _ k) (loops_in (n := 0) (by kernel_rfl) all0)
  have hp0 : PxOk cx (pstmt_px (pstmt_O) k) := ⟨fun t => by rw [hP, hel]; exact tt_ok ttL_ok t, by rw [hgl]; rfl⟩
  have hc0 : CallOk cx (pstmt_px (pstmt_O) k) := callT_ok rfl (cfs_cons (cf_ln (by rw [hP, hel, hgl]; exact pis_ok) (by kernel_rfl)) (cfs_cons (cf_ln (by rw [hP, hel, hgl]; exact pcreate_ok) (by kernel_rfl)) (cfs_cons (cf_ln (by rw [hP, hel, hgl]; exact pmust_ok) (by kernel_rfl)) (cfs_cons (cf_ln (by rw [hP, hel, hgl]; exact pname_ok) (by kernel_rfl)) (cfs_cons (cf_ln (by rw [hP, hel, hgl]; exact pupdate_ok) (by kernel_rfl)) (cfs_cons (cf_ln (by rw [hP, hel, hgl]; exact pwhere_ok) (by kernel_rfl)) (cfs_cons (cf_ln (by rw [hP, hel, hgl]; exact pselects_ok) (by kernel_rfl)) (cfs_cons (cf_ln (by rw [hP, hel, hgl]; exact pwrong_ok) (by kernel_rfl)) (cfs_cons (cf_run hp1 hc1 hq1 (by rw [hP]; exact follows) (by rw [hP]; exact Tryz.func121) rfl (by kernel_rfl) (by kernel_rfl) (n := 1) (by kernel_rfl) ((allS all0 hlpstmt_0))) cfs_nil)))))))))
  have hq0 : CallQOk cx (pstmt_px (pstmt_O) k) := callQT_ok rfl rfl cqfs_nil cwfs_nil
  exact ⟨hp0, hc0, hq0, all0⟩
def pstmt_F : pstmt_I → Option pstmt_O := fun x => pstmt_body ((x.1.length + 3)) x
theorem pstmt_ok : FnLn Tryz.prog elT glT 85 pstmt_si pstmt_so (pstmt_F) := FnLn.fin (ι := Nat) (sg := pstmt_si) (so := pstmt_so) 0 (F := fun k => pstmt_body k) (fun k => pstmt_run k) fun x _ _ hx => ⟨(x.1.length + 3), hx⟩
/-! ## (*exchequer/parse.reader).done -/
def pdone_si : Sig := ⟨1, [], [(0, .ptr 0 0)], [(0, .cells [.sl .tok false, .int .i64, .bool, .int .i64])], 1, 1, 0, [], []⟩
def pdone_so : Sig := ⟨1, [(0, .bool)], [], [(0, .cells [.sl .tok false, .int .i64, .bool, .int .i64])], 1, 1, 0, [], []⟩
abbrev pdone_I := List Tok × Int × Bool × Int
abbrev pdone_O := Bool × List Tok × Int × Bool × Int
def pdone_px (R : Type) : Px R := ⟨ttOf ttL, glT, callT [(127, callLn pwrong_si pwrong_so pwrong_F)], callQT [], loopT [], tbl []⟩
def pdone_body (x : pdone_I) : Option (pdone_O) := match x with
 | (l, n, b, p) =>
  cond (decide (0 < (l.length : Int))) (
   (pwrong_F (l, n, b, p)).bind fun (x, x1, x2, x3) =>
    some (!x2, x, x1, x2, x3)) (
   some (!b, l, n, b, p))
theorem pdone_eq : ∀ (x : pdone_I), runLn (pdone_px _) Tryz.f86 pdone_si pdone_so x some = pdone_body x
  | (l, n, b, p) => by kernel_rfl
theorem pdone_run : FnLn Tryz.prog elT glT 86 pdone_si pdone_so (pdone_body) := by
  refine fnLn_run Tryz.func86 rfl (by kernel_rfl) follows (by kernel_rfl) (n := 0) (by kernel_rfl) (px := pdone_px _) (fun cx hP hel hgl => ?_) (pdone_eq)
  have hp0 : PxOk cx (pdone_px (pdone_O)) := ⟨fun t => by rw [hP, hel]; exact tt_ok ttL_ok t, by rw [hgl]; rfl⟩
  have hc0 : CallOk cx (pdone_px (pdone_O)) := callT_ok rfl (cfs_cons (cf_ln (by rw [hP, hel, hgl]; exact pwrong_ok) (by kernel_rfl)) cfs_nil)
  have hq0 : CallQOk cx (pdone_px (pdone_O)) := callQT_ok rfl rfl cqfs_nil cwfs_nil
  exact ⟨hp0, hc0, hq0, all0⟩
def pdone_F : pdone_I → Option pdone_O := fun x => pdone_body x
theorem pdone_ok : FnLn Tryz.prog elT glT 86 pdone_si pdone_so (pdone_F) := pdone_run
end Go.Proofs.YthndhaolemgbdaaGreatDoor

/- strings.Builder, as the program's writer has it: what its methods come to. -/
namespace Go.Proofs.YthndhaolemgbdaaGreatDoor
open Go.Ax Go.RowKit
def bldTs : List Nat := [80, 82]
abbrev bldT : TypeId := 80
theorem sizeBld : (Tryz.prog.info? bldT).map (·.size) = some 2 := by kernel_rfl
theorem liesBld (T : TypeId) (h : T ∈ bldTs) : liesAt Tryz.prog Tryz.prog.depth T (2 / Tryz.prog.cellsOf T) 0 bldT 1 = true := by
  simp only [bldTs, List.mem_cons, List.not_mem_nil, or_false] at h
  rcases h with rfl | rfl <;> kernel_rfl
set_option maxRecDepth 100000 in
theorem cc_used (b : Nat) (w : World) (h0 : w.cell? ⟨b, 0, none⟩ = some (.pointer (some ⟨b, 0, none⟩))) :
    Calls Tryz.prog 152 #[.pointer (some ⟨b, 0, none⟩)] w fun e w' => e = .returned (.tuple #[]) ∧ w' = w := by
  obtain ⟨j, hj, _⟩ := Option.map_eq_some_iff.1 sizeBld
  have mixed := follows
  have t1 := Tryz.underlying77
  have t2 := Tryz.underlying80
  have u1 := run_underlying (P := Tryz.prog) t1
  have u2 := run_underlying (P := Tryz.prog) t2
  go_enter Tryz.func152, Tryz.ntmps152
  go_wp2
  rw [Lib.run_neq_ptr_same w _ t1 hj]
  go_wp2
  go_end0
  exact ⟨rfl, rfl⟩
set_option maxRecDepth 100000 in
theorem cc_fresh (b : Nat) (T : TypeId) (hT : T ∈ bldTs) (w : World) (h0 : w.cell? ⟨b, 0, none⟩ = some (.pointer none)) (hsh : w.shape? b = some (T, 2)) (hfz : w.frozen? ⟨b, 0, none⟩ = false) :
    Calls Tryz.prog 152 #[.pointer (some ⟨b, 0, none⟩)] w fun e w' => e = .returned (.tuple #[]) ∧ w' = w.setCell ⟨b, 0, none⟩ (.pointer (some ⟨b, 0, none⟩)) := by
  obtain ⟨j, hj, hjs⟩ := Option.map_eq_some_iff.1 sizeBld
  have mixed := follows
  have t1 := Tryz.underlying77
  have t2 := Tryz.underlying80
  have t3 := Tryz.underlying205
  have u1 := run_underlying (P := Tryz.prog) t1
  have u2 := run_underlying (P := Tryz.prog) t2
  have u3 := run_underlying (P := Tryz.prog) t3
  go_enter Tryz.func152, Tryz.ntmps152
  go_wp2
  rw [Lib.run_to_unsafe w ⟨b, 0, none⟩ t1 t3 hj (by rw [hjs]; decide) hsh (Nat.zero_lt_succ 1)]
  simp only [Result.andThen]
  rw [Oper.upon_value]
  go_wp2
  rw [run_callFunc_extern Tryz.func172 (by kernel_rfl) (by kernel_rfl) (by kernel_rfl) (e := Extern.AbiNoEscape.same) (by kernel_rfl)]
  rw [Lib.run_noEscape]
  simp only [Result.andThen]
  rw [Oper.upon_value]
  go_wp2
  rw [Lib.run_from_unsafe w ⟨b, 0, none⟩ t3 t1 hj hsh (liesBld T hT)]
  simp only [Result.andThen]
  rw [Oper.upon_value]
  go_wp2
  go_end0
  exact ⟨rfl, rfl⟩
theorem cc_enters : Sx.Enters Tryz.prog 152 := Sx.enters_of Tryz.func152 rfl (by kernel_rfl)
theorem cc_ok : ∀ T, T ∈ bldTs → ∀ (b : Nat) (w : World) (a v : Value), w.heap[b]? = some (.cells #[a, v] T (0, 0)) → (a = .pointer none ∨ a = .pointer (some ⟨b, 0, none⟩)) → Calls Tryz.prog 152 #[.pointer (some ⟨b, 0, none⟩)] w fun e w' => e = .returned (.tuple #[]) ∧ (w' = w ∨ w' = w.setCell ⟨b, 0, none⟩ (.pointer (some ⟨b, 0, none⟩))) := by
  intro T hT b w a v hh ha
  have c0 : w.cell? ⟨b, 0, none⟩ = some a := by simp [World.cell?, hh]
  rcases ha with rfl | rfl
  · refine (cc_fresh b T hT w c0 (by simp [World.shape?, hh]) (by simp [World.frozen?, hh])).mono ?_
    rintro e w' ⟨rfl, rfl⟩
    exact ⟨rfl, .inr rfl⟩
  · refine (cc_used b w c0).mono ?_
    rintro e w' ⟨rfl, rfl⟩
    exact ⟨rfl, .inl rfl⟩
/-! ## String -/
theorem chg_freeze (w : World) (g n k : Nat) : Chg (fun b i => b = g ∧ k ≤ i) w (w.freeze ⟨g, 0, none⟩ n) := by
  unfold World.freeze
  split
  · exact Chg.refl _ _
  · have hne : ∀ (q : Nat), q ≠ g → ∀ F : Obj → Obj, (w.heap.modify g F)[q]? = w.heap[q]? := fun q hq F => by
      rw [Array.getElem?_modify, if_neg (Ne.symm hq)]
    refine ⟨rfl, rfl, rfl, by simp, fun q _ hq2 => hne q (fun e => hq2 k ⟨e, Nat.le_refl _⟩) _, fun b i v hv _ => ?_, fun b cs t f hb => ?_⟩
    · by_cases hbg : b = g
      · subst hbg
        unfold World.cell? at hv ⊢
        simp only [Array.getElem?_modify, if_true] at hv ⊢
        cases hh : w.heap[b]? with
        | none => rw [hh] at hv; cases hv
        | some o =>
          rw [hh] at hv
          cases o with
          | cells c e f => obtain ⟨lo, hi⟩ := f; exact hv
          | _ => cases hv
      · rw [World.cell?_of_block (a := ⟨b, i, none⟩) (hne b hbg _)]
        exact hv
    · by_cases hbg : b = g
      · subst hbg
        obtain ⟨lo, hi⟩ := f
        exact ⟨cs, _, by simp only [Array.getElem?_modify, if_true, hb]; rfl, rfl⟩
      · exact ⟨cs, f, by rw [hne b hbg]; exact hb, rfl⟩
theorem cellsByte : Tryz.prog.cellsOf 5 = 1 := by kernel_rfl
set_option maxHeartbeats 2000000 in
set_option maxRecDepth 100000 in
theorem str_some (b g cap n : Nat) (w : World) (s : ByteArray) (hcap : cap ≠ 0) (hc : w.cell? ⟨b, 1, none⟩ = some (.slice (some ⟨g, 0, none⟩) n cap)) (hUS : (Builtin.unsafeString_ #[148, 3] 9 #[.pointer (some ⟨g, 0, none⟩), .int .i64 n]).run Tryz.prog w.drew = .ok (.string s) (w.drew.freeze ⟨g, 0, none⟩ n)) :
    Calls Tryz.prog 41 #[.pointer (some ⟨b, 0, none⟩)] w fun e w' => e = .returned (.string s) ∧ w' = w.drew.freeze ⟨g, 0, none⟩ n := by
  have c1 : w.drew.cell? ⟨b, 1, none⟩ = some (.slice (some ⟨g, 0, none⟩) n cap) := hc
  have hSD : (Builtin.unsafeSliceData_ #[78] 148 #[.slice (some ⟨g, 0, none⟩) n cap]).run Tryz.prog w.drew = .ok (.pointer (some ⟨g, 0, none⟩)) w.drew := Lib.run_unsafeSliceData_row _ _ _ _ _ _ hcap
  clear hcap
  have mixed := follows
  have t1 := Tryz.underlying77
  have t2 := Tryz.underlying80
  have t3 := Tryz.underlying78
  have t4 := Tryz.underlying148
  have t5 := Tryz.underlying3
  have t6 := Tryz.underlying9
  have u1 := run_underlying (P := Tryz.prog) t1
  have u2 := run_underlying (P := Tryz.prog) t2
  have u3 := run_underlying (P := Tryz.prog) t3
  have u4 := run_underlying (P := Tryz.prog) t4
  have u5 := run_underlying (P := Tryz.prog) t5
  have u6 := run_underlying (P := Tryz.prog) t6
  go_enter Tryz.func41, Tryz.ntmps41
  go_wp2
  go_region_o
  all_goals (go_wp2; go_ret; exact ⟨rfl, rfl⟩)
theorem us_none (W : World) (q : Option Addr) : (Builtin.unsafeString_ #[148, 3] 9 #[.pointer q, .int .i64 0]).run Tryz.prog W = .ok (.string .empty) W := Lib.run_unsafeString_none W _ _ _ q
set_option maxHeartbeats 2000000 in
set_option maxRecDepth 100000 in
theorem str_nil (b : Nat) (w : World) (hc : w.cell? ⟨b, 1, none⟩ = some (.slice none 0 0)) :
    Calls Tryz.prog 41 #[.pointer (some ⟨b, 0, none⟩)] w fun e w' => e = .returned (.string ⟨#[]⟩) ∧ w' = w.drew := by
  have hUS := us_none
  have c1 : w.drew.cell? ⟨b, 1, none⟩ = some (.slice none 0 0) := hc
  have hSD : (Builtin.unsafeSliceData_ #[78] 148 #[.slice none 0 0]).run Tryz.prog w.drew = .ok (.pointer none) w.drew := rfl
  have mixed := follows
  have t1 := Tryz.underlying77
  have t2 := Tryz.underlying80
  have t3 := Tryz.underlying78
  have t4 := Tryz.underlying148
  have t5 := Tryz.underlying3
  have t6 := Tryz.underlying9
  have u1 := run_underlying (P := Tryz.prog) t1
  have u2 := run_underlying (P := Tryz.prog) t2
  have u3 := run_underlying (P := Tryz.prog) t3
  have u4 := run_underlying (P := Tryz.prog) t4
  have u5 := run_underlying (P := Tryz.prog) t5
  have u6 := run_underlying (P := Tryz.prog) t6
  go_enter Tryz.func41, Tryz.ntmps41
  go_wp2
  go_region_o
  all_goals (go_wp2; go_ret; exact ⟨rfl, rfl⟩)
set_option maxHeartbeats 2000000 in
set_option maxRecDepth 100000 in
theorem str_noroom (b g : Nat) (w : World) (cur : Array Value) (hlt : b < w.heap.size) (hc : w.cell? ⟨b, 1, none⟩ = some (.slice (some ⟨g, 0, none⟩) 0 0)) (hg : w.heap[g]? = some (.cells cur 5 (0, 0))) :
    Calls Tryz.prog 41 #[.pointer (some ⟨b, 0, none⟩)] w fun e w' => e = .returned (.string ⟨#[]⟩) ∧ Chg noFp w w' := by
  have hUS := us_none
  have c1 : w.drew.cell? ⟨b, 1, none⟩ = some (.slice (some ⟨g, 0, none⟩) 0 0) := hc
  have t4 := Tryz.underlying148
  have hSD : (Builtin.unsafeSliceData_ #[78] 148 #[.slice (some ⟨g, 0, none⟩) 0 0]).run Tryz.prog w.drew = .ok (.pointer (some ⟨w.drew.heap.size, 0, none⟩)) (w.drew.alloc (.view ⟨g, 0, none⟩ 5)) :=
    Lib.run_unsafeSliceData_zero w.drew _ _ 5 t4 ⟨g, 0, none⟩ 0 (5, cur.size) (by have hg' : w.drew.heap[g]? = some (.cells cur 5 (0, 0)) := hg; simp [World.shape?, hg'])
  have c2 : (w.drew.alloc (.view ⟨g, 0, none⟩ 5)).cell? ⟨b, 1, none⟩ = some (.slice (some ⟨g, 0, none⟩) 0 0) := by
    rw [World.cell?_of_block (a := ⟨b, 1, none⟩) (Below.heap_alloc w.drew _ _ hlt)]
    exact c1
  have c3 : (w.alloc (.view ⟨g, 0, none⟩ 5)).drew.cell? ⟨b, 1, none⟩ = some (.slice (some ⟨g, 0, none⟩) 0 0) := c2
  have c0 : w.cell? ⟨b, 1, none⟩ = some (.slice (some ⟨g, 0, none⟩) 0 0) := c1
  have mixed := follows
  have t1 := Tryz.underlying77
  have t2 := Tryz.underlying80
  have t3 := Tryz.underlying78
  have t5 := Tryz.underlying3
  have t6 := Tryz.underlying9
  have u1 := run_underlying (P := Tryz.prog) t1
  have u2 := run_underlying (P := Tryz.prog) t2
  have u3 := run_underlying (P := Tryz.prog) t3
  have u4 := run_underlying (P := Tryz.prog) t4
  have u5 := run_underlying (P := Tryz.prog) t5
  have u6 := run_underlying (P := Tryz.prog) t6
  go_enter Tryz.func41, Tryz.ntmps41
  go_wp2
  go_region_o
  all_goals (go_wp2; go_ret; exact ⟨rfl, (Chg.drew noFp w).trans (Chg.alloc noFp w.drew _)⟩)
/-! ## what is left behind a call that keeps no block -/
theorem rel_end {cx : Cx} {m : Mp} {a : Act} {rs : List Act} {st : St} {w w' : World} (hr : Rel cx m a rs (fs st) w) (hch : Chg (fpOf m (fs st)) w w') {d : D} {v : Value} (hd : Rep (vx cx m (fs { st with n := 1, env := [(0, d)], bl := [], tk := [] }) w') d v) : Rel cx m ⟨#[v], []⟩ rs (fs { st with n := 1, env := [(0, d)], bl := [], tk := [] }) w' := by
  have hnf : ∀ b i, ¬ fpOf m (fs { st with n := 1, env := [(0, d)], bl := [], tk := [] }) b i := by
    rintro b i (⟨q, hq, _⟩ | ⟨t, o, h1, _, _⟩)
    · exact hq rfl
    · simp [fs] at h1
  have nx : Nx (vx cx m (fs st) w) (vx cx m (fs { st with n := 1, env := [(0, d)], bl := [], tk := [] }) w') := by
    refine ⟨hch.mono fun b i hi => .inr hi, ?_, rfl, fun _ _ => rfl, Nat.le_refl _, Nat.le_refl _, fun t _ ha => ?_⟩
    · rintro b i (h | h)
      · exact .inl (.inl h)
      · exact absurd h (hnf b i)
    · simp [vx, fs] at ha
  have h1 : Rel cx m a rs { fs st with bl := fun _ => none, al := fun _ => False } w' := by
    refine hr.step (s' := { fs st with bl := fun _ => none, al := fun _ => False }) rfl rfl rfl rfl rfl hch ?_ (fun b k hk => by cases hk) (fun t ht => ht.elim) (fun b b' h => absurd rfl h) (fun t t' g o o' h => h.elim) (fun b t g o h => absurd rfl h) (fun b i hi => ?_)
    · refine ⟨hch.mono fun b i hi => .inr hi, ?_, rfl, fun _ _ => rfl, Nat.le_refl _, Nat.le_refl _, fun t _ ha => ha.elim⟩
      rintro b i (h | ⟨q, hq, _⟩ | ⟨t, o, h1, _, _⟩)
      · exact .inl (.inl h)
      · exact absurd rfl hq
      · exact h1.elim
    · rcases hi with ⟨q, hq, _⟩ | ⟨t, o, h1, _, _⟩
      · exact absurd rfl hq
      · exact h1.elim
  have hal : (fs { st with n := 1, env := [(0, d)], bl := [], tk := [] }).al = fun _ => False := by
    funext t; simp [fs]
  have e : fs { st with n := 1, env := [(0, d)], bl := [], tk := [] } = { (fs { st with n := 1, env := [(0, d)], bl := [], tk := [] }) with al := fun _ => False } := by
    rw [← hal]
  rw [e] at hd ⊢
  refine ⟨h1.chg, ⟨rfl, rfl, fun k d' hk => ?_⟩, h1.frs, h1.lb, h1.lt, h1.blks, h1.als, h1.inj, h1.injt, h1.injbt, h1.own, h1.away, h1.glb⟩
  have hk : get [(0, d)] k = some d' := hk
  rw [get_cons] at hk
  by_cases h0 : k = 0
  · subst h0
    simp only [if_true, Option.some.injEq] at hk
    subst hk
    exact ⟨v, rfl, hd⟩
  · rw [if_neg h0] at hk
    cases hk
abbrev wT : TypeId := 82
def bstr_si : Sig := ⟨1, [], [(0, .ptr 0 0)], [(0, .bld wT)], 1, 1, 0, [], []⟩
def bstr_so : Sig := ⟨1, [(0, .str)], [], [], 1, 1, 0, [], []⟩
abbrev bstr_I := List UInt8
abbrev bstr_O := Str
def bstr_F : bstr_I → Option bstr_O := fun x => some x
theorem bstr_ok : FnLn Tryz.prog elT glT 41 bstr_si bstr_so bstr_F := by
  refine ⟨Sx.enters_of Tryz.func41 rfl (by kernel_rfl), fun (l : List UInt8) r hx _ cx m vs af w h1 h2 h3 hr => ?_⟩
  obtain rfl : l = r := Option.some.inj hx
  obtain ⟨_, hb⟩ := hr.blks 0 (.bld wT (.sl .byte l (.id 0))) rfl
  obtain ⟨_, a, v, hh, ha, hrep⟩ := hb
  obtain ⟨u, hu, hup⟩ := hr.env.get 0 (.ptr 0 0) rfl
  have hsz : vs.toArray.size = 1 := hr.env.size
  have hvs : vs = [u] := by
    match vs, hsz, hu with
    | [y], _, hu => simpa using hu
  subst hvs
  simp only [Rep] at hup hrep
  obtain ⟨_, rfl⟩ := hup
  obtain ⟨hrf, _, htk⟩ := hrep
  have htk := htk (show (fs (encSt bstr_si [keepF bstr_si] l)).al 0 by simp [fs, encSt, bstr_si, Sig.sgs, zipE, owns, Bs.sgs, owSg])
  have hh : w.heap[m.bl 0]? = some (.cells #[a, v] wT (0, 0)) := hh
  have hblt : m.bl 0 < w.heap.size := (Array.getElem?_eq_some_iff.1 hh).1
  have hlen : l.length ≤ maxLen := hrf.here.len
  have c1 : w.cell? ⟨m.bl 0, 1, none⟩ = some v := by simp [World.cell?, hh]
  have done : (Calls Tryz.prog 41 #[.pointer (some ⟨m.bl 0, 0, none⟩)] w fun e w' => e = .returned (.string ⟨l.toArray⟩) ∧ Chg (fpOf m (fs (encSt bstr_si [keepF bstr_si] l))) w w') → Calls Tryz.prog 41 ([.pointer (some ⟨m.bl 0, 0, none⟩)] : List Value).toArray w fun en w' => ∃ us st' m', en = .returned (Sx.resv us) ∧ (∀ k, (bstr_si.bl.map (·.1)).contains k = true → m'.bl k = m.bl k) ∧ decSt bstr_so st' = some l ∧ Rel cx m' ⟨us.toArray, []⟩ [af] (fs st') w' := fun hc => by
    refine hc.mono ?_
    rintro e w' ⟨rfl, hch⟩
    exact ⟨[.string ⟨l.toArray⟩], { encSt bstr_si [keepF bstr_si] l with n := 1, env := [(0, .str l)], bl := [], tk := [] }, m, rfl, fun _ _ => rfl, rfl, rel_end hr hch (by simp only [Rep]; exact ⟨trivial, hlen⟩)⟩
  refine done ?_
  rcases htk with ⟨rfl, _, rfl⟩ | ⟨g, cap, cur, rfl, ht, hg, hcs, hle, hcm⟩
  · refine (str_nil (m.bl 0) w c1).mono ?_
    rintro e w' ⟨rfl, rfl⟩
    exact ⟨rfl, Chg.drew _ w⟩
  · have ht : m.tk 0 = some (g, l.length * 1) := ht
    have hel : (vx cx m (fs (encSt bstr_si [keepF bstr_si] l)) w).el .byte = 5 := by
      show cx.el .byte = _
      rw [h2]; rfl
    rw [hel] at hg
    have hg : w.heap[g]? = some (.cells cur 5 (0, 0)) := hg
    have hcs : cur.size = cap * 1 := hcs
    by_cases hl0 : l = []
    · subst hl0
      by_cases hc0 : cap = 0
      · subst hc0
        refine (str_noroom (m.bl 0) g w cur hblt c1 hg).mono ?_
        rintro e w' ⟨rfl, hch⟩
        exact ⟨rfl, hch.mono fun _ _ h => h.elim⟩
      · refine (str_some (m.bl 0) g cap 0 w .empty hc0 c1 (us_none _ _)).mono ?_
        rintro e w' ⟨rfl, rfl⟩
        exact ⟨rfl, Chg.drew _ w⟩
    · have hcells : ∀ (j : Nat) x, l[j]? = some x → w.cell? ⟨g, j, none⟩ = some (.int .u8 x.toNat) := fun j x hj => by
        obtain ⟨a', cap', e1, h | ⟨b0, o0, e2, _, h4⟩⟩ := hrf.here.slice
        · exact absurd h hl0
        · simp only [Value.slice.injEq] at e1
          rw [e2] at e1
          simp only [Option.some.injEq, Addr.mk.injEq] at e1
          obtain ⟨⟨rfl, rfl, _⟩, _⟩ := e1
          obtain ⟨u, hu, hf⟩ := h4 j x hj 0 _ rfl
          have e3 : 0 + j * csz .byte + 0 = j := by simp [csz]
          rw [e3] at hu
          cases hf
          exact hu
      have hn0 : l.length ≠ 0 := fun e => hl0 (List.eq_nil_of_length_eq_zero e)
      have hUS := Lib.run_unsafeString_row w.drew 148 3 9 5 Tryz.underlying148 cellsByte g cur.size (by have hg' : w.drew.heap[g]? = some (.cells cur 5 (0, 0)) := hg; simp [World.shape?, hg']) l hl0 (by omega) (by unfold maxLen at hcm; omega) (fun j x hj => by
        have e : (⟨g, 0, none⟩ : Addr).add j = ⟨g, j, none⟩ := by
          unfold Addr.add
          by_cases hj0 : j = 0
          · subst hj0; simp
          · simp [hj0]
        rw [e]
        exact hcells j x hj)
      refine (str_some (m.bl 0) g cap l.length w ⟨l.toArray⟩ (by omega) c1 hUS).mono ?_
      rintro e w' ⟨rfl, rfl⟩
      refine ⟨rfl, (Chg.drew _ w).trans ((chg_freeze w.drew g l.length (l.length * 1)).mono fun b i hi => ?_)⟩
      obtain ⟨rfl, hi⟩ := hi
      exact .inr ⟨0, l.length * 1, by simp [fs, encSt, bstr_si, Sig.sgs, zipE, owns, Bs.sgs, owSg], ht, hi⟩
/-! ## (*strings.Builder).WriteString -/
def bwrite_si : Sig := ⟨2, [(1, .str)], [(0, .ptr 0 0)], [(0, .bld 82)], 1, 1, 0, [], []⟩
def bwrite_so : Sig := ⟨2, [], [], [(0, .bld 82)], 1, 1, 0, [], []⟩
abbrev bwrite_I := Str × List UInt8
abbrev bwrite_O := List UInt8
def bwrite_px (R : Type) : Px R := ⟨ttOf ttL, glT, callT [(152, callCC bldTs)], callQT [], loopT [], tbl []⟩
def bwrite_body (x : bwrite_I) : Option (bwrite_O) := match x with
 | (s, out) =>
  chk (decide (out.length + s.length ≤ maxApp)) (
   some (out ++ s))
theorem bwrite_eq : ∀ (x : bwrite_I), runLn (bwrite_px _) Tryz.f104 bwrite_si bwrite_so x some = bwrite_body x
  | (s, out) => by kernel_rfl
theorem bwrite_run : FnLn Tryz.prog elT glT 104 bwrite_si bwrite_so (bwrite_body) := by
  refine fnLn_run Tryz.func104 rfl (by kernel_rfl) follows (by kernel_rfl) (n := 0) (by kernel_rfl) (px := bwrite_px _) (fun cx hP hel hgl => ?_) (bwrite_eq)
  have hp0 : PxOk cx (bwrite_px (bwrite_O)) := ⟨fun t => by rw [hP, hel]; exact tt_ok ttL_ok t, by rw [hgl]; rfl⟩
  have hc0 : CallOk cx (bwrite_px (bwrite_O)) := callT_ok rfl (cfs_cons (cf_cc (by rw [hP]; exact cc_enters) (by rw [hP]; exact cc_ok)) cfs_nil)
  have hq0 : CallQOk cx (bwrite_px (bwrite_O)) := callQT_ok rfl rfl cqfs_nil cwfs_nil
  exact ⟨hp0, hc0, hq0, all0⟩
def bwrite (s out : Str) : Option Str := if out.length + s.length ≤ maxApp then some (out ++ s) else none
def bwrite_F : bwrite_I → Option bwrite_O := fun x => bwrite x.1 x.2
theorem bwrite_ok : FnLn Tryz.prog elT glT 104 bwrite_si bwrite_so bwrite_F := .fin0 bwrite_run fun (s, out) r hb hx => by
  simp only [bwrite_F, bwrite] at hx
  split at hx
  · rename_i h
    simp only [bwrite_body]
    rw [decide_eq_true h]
    exact hx
  · cases hx
end Go.Proofs.YthndhaolemgbdaaGreatDoor

/- The library's facts behind Lays.n156 at this seat's program. -/
namespace Go.Proofs
open Go.Shelf
def Tryz.laysRJ_ren : Go.Shelf.Ren := ⟨fun | 156 => 105 | 165 => 153 | 166 => 104 | 169 => 41 | 240 => 152 | 241 => 173 | 276 => 172 | 277 => 190 | n => n, fun | 0 => 0 | 3 => 3 | 4 => 4 | 5 => 5 | 9 => 9 | 20 => 20 | 31 => 34 | 37 => 78 | 70 => 77 | 72 => 80 | 75 => 153 | 76 => 154 | 80 => 84 | 127 => 148 | 164 => 205 | n => n, fun n => n⟩
theorem Tryz.laysRJ : Go.Proofs.Lays.n156 Tryz.prog Tryz.laysRJ_ren := {
  mixed := by kernel_rfl
  f156 := Tryz.func105.trans (congrArg some (by kernel_rfl))
  f165 := Tryz.func153.trans (congrArg some (by kernel_rfl))
  f166 := Tryz.func104.trans (congrArg some (by kernel_rfl))
  f169 := Tryz.func41.trans (congrArg some (by kernel_rfl))
  f240 := Tryz.func152.trans (congrArg some (by kernel_rfl))
  f241 := Tryz.func173.trans (congrArg some (by kernel_rfl))
  f276 := Tryz.func172.trans (congrArg some (by kernel_rfl))
  f277 := Tryz.func190.trans (congrArg some (by kernel_rfl))
  t0 := Tryz.underlying0
  a0 := Tryz.isAgg0
  z0 := Tryz.sizeOf0
  v0 := Tryz.zeroValue0
  t3 := Tryz.underlying3
  a3 := Tryz.isAgg3
  z3 := Tryz.sizeOf3
  v3 := Tryz.zeroValue3
  t4 := Tryz.underlying4
  a4 := Tryz.isAgg4
  z4 := Tryz.sizeOf4
  v4 := Tryz.zeroValue4
  t9 := Tryz.underlying9
  a9 := Tryz.isAgg9
  z9 := Tryz.sizeOf9
  v9 := Tryz.zeroValue9
  t20 := Tryz.underlying20
  a20 := Tryz.isAgg20
  z20 := Tryz.sizeOf20
  v20 := Tryz.zeroValue20
  t31 := Tryz.underlying34
  a31 := Tryz.isAgg34
  z31 := Tryz.sizeOf34
  v31 := Tryz.zeroValue34
  t37 := Tryz.underlying78
  a37 := Tryz.isAgg78
  z37 := Tryz.sizeOf78
  v37 := Tryz.zeroValue78
  t70 := Tryz.underlying77
  a70 := Tryz.isAgg77
  z70 := Tryz.sizeOf77
  v70 := Tryz.zeroValue77
  t72 := Tryz.underlying80
  a72 := Tryz.isAgg80
  z72 := Tryz.sizeOf80
  v72 := Tryz.zeroValue80
  t75 := Tryz.underlying153
  a75 := Tryz.isAgg153
  z75 := Tryz.sizeOf153
  v75 := Tryz.zeroValue153
  t76 := Tryz.underlying154
  a76 := Tryz.isAgg154
  z76 := Tryz.sizeOf154
  v76 := Tryz.zeroValue154
  t127 := Tryz.underlying148
  a127 := Tryz.isAgg148
  z127 := Tryz.sizeOf148
  v127 := Tryz.zeroValue148
  t164 := Tryz.underlying205
  a164 := Tryz.isAgg205
  z164 := Tryz.sizeOf205
  v164 := Tryz.zeroValue205 }
theorem Tryz.extraRJ : Builder.Extra Tryz.prog Tryz.laysRJ_ren := {
  sizeBuilder := by kernel_rfl
  liesBuilder := by kernel_rfl
  t5 := Tryz.underlying5
  a5 := Tryz.isAgg5
  z5 := Tryz.sizeOf5
  v5 := Tryz.zeroValue5
  infoByte := by kernel_rfl
  cellsByte := by kernel_rfl
  sizeByte := by kernel_rfl
  neB5 := by decide }
end Go.Proofs

/- strings.Join, by the library's contract. -/
namespace Go.Proofs.YthndhaolemgbdaaGreatDoor
open Go.Ax Go.RowKit
def sjoin (l : List Str) (sep : Str) : Option Str := if l.length ≤ 1000000 ∧ (Lib.join l sep).length ≤ 1000000000 then some (Lib.join l sep) else none
def sjoin_F : FT [.sl .str false, .str] [.str] := fun x => sjoin x.1 x.2
theorem sjoin_ok : FnOk Tryz.prog elT glT 105 [.sl .str false, .str] [.str] sjoin_F := by
  refine ⟨Sx.enters_of Tryz.func105 rfl (by kernel_rfl), fun x r hx w M vs hM hgl hr => ?_⟩
  obtain ⟨l, sep⟩ := x
  simp only [sjoin_F, sjoin] at hx
  split at hx
  case isFalse => cases hx
  rename_i hc
  obtain ⟨h1, h2⟩ := hc
  obtain rfl := Option.some.inj hx
  simp only [encL, enc1, Reps, Rep] at hr
  obtain ⟨u, us, rfl, ⟨hrf, _⟩, u2, us2, rfl, ⟨rfl, _⟩, rfl⟩ := hr
  have key : Calls Tryz.prog 105 #[u, .string ⟨sep.toArray⟩] w fun e w' => e = .returned (.string ⟨(Lib.join l sep).toArray⟩) ∧ Below w.heap.size w w' := by
    obtain ⟨a, cap, rfl, h⟩ := hrf.here.slice
    rcases h with rfl | ⟨b, o, rfl, ⟨hle, hcm⟩, hat⟩
    · have c := Any.strings_Join_none Tryz.laysRJ Tryz.extraRJ a cap ⟨sep.toArray⟩ w
      refine Calls.mono (show Calls Tryz.prog 105 _ w _ from c) ?_
      rintro e w' ⟨rfl, rfl⟩
      exact ⟨rfl, Below.refl _ _⟩
    · by_cases hl : l = []
      · subst hl
        have c := Any.strings_Join_none Tryz.laysRJ Tryz.extraRJ (some ⟨b, o, none⟩) cap ⟨sep.toArray⟩ w
        refine Calls.mono (show Calls Tryz.prog 105 _ w _ from c) ?_
        rintro e w' ⟨rfl, rfl⟩
        exact ⟨rfl, Below.refl _ _⟩
      · have hcell : ∀ (j : Nat) x, l[j]? = some x → w.cell? ⟨b, o + j, none⟩ = some (.string ⟨x.toArray⟩) := fun j x hj => by
          obtain ⟨u, hu, hf⟩ := hat j x hj 0 _ rfl
          have e3 : o + j * csz .str + 0 = o + j := by simp [csz]
          rw [e3] at hu
          cases hf
          exact hu
        have hb : b < w.heap.size := by
          cases l with
          | nil => exact absurd rfl hl
          | cons x l => exact cell_lt (hcell 0 x rfl)
        have em : (l.map fun s => (⟨s.toArray⟩ : ByteArray)).map (·.data.toList) = l := by
          rw [List.map_map]
          simp [Function.comp_def]
        have es : (⟨sep.toArray⟩ : ByteArray).data.toList = sep := by simp
        have c := Any.strings_Join Tryz.laysRJ Tryz.extraRJ b o cap (l.map fun s => ⟨s.toArray⟩) ⟨sep.toArray⟩ w (fun j x hj => by
          rw [List.getElem?_map] at hj
          obtain ⟨y, hy, rfl⟩ := Option.map_eq_some_iff.1 hj
          exact hcell j y hy) hb (by rw [List.length_map]; omega) (by rw [List.length_map]; exact hle) (by rw [em, es]; omega)
        rw [em, es, List.length_map] at c
        exact c
  refine key.mono ?_
  rintro en w' ⟨rfl, hbel⟩
  refine ⟨_, ⟨fun _ => 0, fun _ => Option.none⟩, rfl, Chg.of_below hbel, fun p g o hp => (by simp [owns] at hp), fun p q g o o2 hp => (by simp [owns] at hp), ?_⟩
  simp only [pack, encL, enc1, Rep]
  exact ⟨trivial, by simp only [maxLen]; omega⟩
end Go.Proofs.YthndhaolemgbdaaGreatDoor

/- The program's writer of statements: what it appends. -/
namespace Go.Proofs.YthndhaolemgbdaaGreatDoor
open Go.Ax
/-! ## a text more -/
def app (out t : Str) : Option Str := if out.length + t.length ≤ 100000000000 then some (out ++ t) else none
theorem app_app (out a b : Str) : ((app out a).bind fun x => app x b) = app out (a ++ b) := by
  simp only [app, List.length_append]
  by_cases h1 : out.length + a.length ≤ 100000000000
  · rw [if_pos h1, Option.bind_some]
    simp only [List.length_append, List.append_assoc, Nat.add_assoc]
  · rw [if_neg h1, if_neg (by omega)]
    rfl
theorem app_cont {R : Type} (out a b : Str) (c : Str → Option R) : ((app out a).bind fun x => (app x b).bind c) = (app out (a ++ b)).bind c := by
  rw [← app_app, Option.bind_assoc]
theorem app_one {o : Option Str} : (o.bind fun x => some x) = o := by cases o <;> rfl
theorem app_nil {out : Str} (h : out.length ≤ 100000000000) : app out [] = some out := by
  simp only [app, List.length_nil, Nat.add_zero, List.append_nil]
  rw [if_pos h]
theorem app_le {out t r : Str} (h : app out t = some r) : r.length ≤ 100000000000 ∧ r = out ++ t := by
  simp only [app] at h
  split at h
  · rename_i h1
    obtain rfl := Option.some.inj h
    exact ⟨by rw [List.length_append]; exact h1, rfl⟩
  · cases h
theorem app_len {out t r : Str} (h : app out t = some r) : out.length + t.length ≤ 100000000000 := by
  simp only [app] at h
  split at h
  · rename_i h1; exact h1
  · cases h
/-! ## lists with a comma between -/
def tailT {α : Type} (f : α → Str) : List α → Str
  | [] => []
  | x :: l => [44, 32] ++ f x ++ tailT f l
def listT {α : Type} (f : α → Str) : List α → Str
  | [] => []
  | x :: l => f x ++ tailT f l
theorem list_loop {V R α : Type} {step : (V → Option R) → V → Option R} (l : List α) (f : α → Str) (st : Nat → Str → V) (c : Str → Option R)
    (hs : ∀ i (hi : i < l.length) (acc : Str) rec, step rec (st i acc) = (app acc ((if i = 0 then [] else [44, 32]) ++ f l[i])).bind fun x => rec (st (i + 1) x))
    (he : ∀ acc rec, step rec (st l.length acc) = c acc) (k : Nat) (hk : l.length < k) (out : Str) (ho : out.length ≤ 100000000000) : iter step k (st 0 out) = (app out (listT f l)).bind c := by
  refine (iter_ind l.length st (fun _ acc => acc.length ≤ 100000000000) (fun i acc => (app acc (if i = 0 then listT f (l.drop i) else tailT f (l.drop i))).bind c) (fun i hi acc ha rec hr => ?_) (fun acc ha rec => ?_) k 0 out (Nat.zero_le _) (by omega) ho).trans (by rw [if_pos rfl, List.drop_zero])
  · rw [hs i hi acc rec]
    have hd : (if i = 0 then listT f (l.drop i) else tailT f (l.drop i)) = ((if i = 0 then [] else [44, 32]) ++ f l[i]) ++ tailT f (l.drop (i + 1)) := by
      rw [drop_cons hi]
      split <;> simp [listT, tailT]
    rw [hd, ← app_cont acc ((if i = 0 then [] else [44, 32]) ++ f l[i]) (tailT f (l.drop (i + 1))) c]
    cases hx : app acc ((if i = 0 then [] else [44, 32]) ++ f l[i]) with
    | none => rfl
    | some x =>
      rw [Option.bind_some, Option.bind_some, hr x (app_le hx).1, if_neg (by omega)]
  · rw [he]
    have : (if l.length = 0 then listT f (l.drop l.length) else tailT f (l.drop l.length)) = [] := by
      rw [List.drop_length]
      split <;> rfl
    rw [this, app_nil ha]
    rfl
/-! ## words -/
/-! ## (*exchequer/ast.writer).words -/
def wwords_si : Sig := ⟨2, [(1, .sl .str false)], [(0, .ptr 0 0)], [(0, .bld 82)], 1, 1, 0, [], []⟩
def wwords_so : Sig := ⟨0, [], [], [(0, .bld 82)], 1, 1, 0, [], []⟩
abbrev wwords_I := List Str × List UInt8
abbrev wwords_O := List UInt8
def wwords_0_sg : Sig := ⟨18, [(6, .sl .str false), (7, .int .i64), (8, .int .i64)], [(0, .ptr 0 0)], [(0, .bld 82)], 1, 1, 0, [], []⟩
abbrev wwords_0_V := List Str × Int × Int × List UInt8
def wwords_0 {R : Type} (rec : wwords_0_V → Option R) (kx : Ex → wwords_0_V → Option R) (v : wwords_0_V) : Option R := match v with
 | (v, v1, v2, w) =>
  cond (decide (v2 < v1)) (
   chk (inb v2 v.length) (
    (bwrite_F ((at' .str v v2), w)).bind fun x =>
     rec (v, v1, (wr .i64 (v2 + 1)), x))) (
   kx (.exit 0) (v, v1, v2, w))
def wwords_px (R : Type) (k : Nat) : Px R := ⟨ttOf ttL, glT, callT [(104, callLn bwrite_si bwrite_so bwrite_F)], callQT [], loopT [(1, loopOr k wwords_0_sg (wwords_0))], tbl []⟩
theorem wwords_0_eq (R : Type) (k : Nat) : ∀ (fr : List Fr) (rec : wwords_0_V → Option R) (kx : Ex → wwords_0_V → Option R) (v : wwords_0_V), round (wwords_px R k) wwords_0_sg (lp Tryz.f49 0) fr rec kx v = wwords_0 rec kx v
  | fr, rec, kx, (v, v1, v2, w) => by kernel_rfl
def wwords_body (k : Nat) (x : wwords_I) : Option (wwords_O) := match x with
 | (l, out) =>
  iter (fun rec => wwords_0 rec (fun e vz => match vz with | (_, _, _, v6) => match e with
   | .exit 0 =>
    some v6
   | _ => none)) k (l, (l.length : Int), 0, out)
theorem wwords_eq (k : Nat) : ∀ (x : wwords_I), runLn (wwords_px _ k) Tryz.f49 wwords_si wwords_so x some = wwords_body k x
  | (l, out) => by kernel_rfl
theorem wwords_run (k : Nat) : FnLn Tryz.prog elT glT 49 wwords_si wwords_so (wwords_body k) := by
  refine fnLn_run Tryz.func49 rfl (by kernel_rfl) follows (by kernel_rfl) (n := 1) (by kernel_rfl) (px := wwords_px _ k) (fun cx hP hel hgl => ?_) (wwords_eq k)
  have hp0 : PxOk cx (wwords_px (wwords_O) k) := ⟨fun t => by rw [hP, hel]; exact tt_ok ttL_ok t, by rw [hgl]; rfl⟩
  have hc0 : CallOk cx (wwords_px (wwords_O) k) := callT_ok rfl (cfs_cons (cf_ln (by rw [hP, hel, hgl]; exact bwrite_ok) (by kernel_rfl)) cfs_nil)
  have hq0 : CallQOk cx (wwords_px (wwords_O) k) := callQT_ok rfl rfl cqfs_nil cwfs_nil
  have hlwwords_0 : LoopOk cx (wwords_px (wwords_O) k) (lp Tryz.f49 0) := loop_ok hp0 hc0 hq0 (by rw [hP]; exact follows) (k := k) (s := wwords_0_sg) (step := wwords_0) (fun _ _ => by kernel_rfl) (by kernel_rfl) (wwords_0_eq _ k) (loops_in (n := 0) (by kernel_rfl) all0)
  exact ⟨hp0, hc0, hq0, (allS all0 hlwwords_0)⟩
def wwords (l : List Str) (out : Str) : Option Str := app out l.flatten
def wwords_F : wwords_I → Option wwords_O := fun x => wwords x.1 x.2
theorem wwords_loop {R : Type} {kx : Ex → wwords_0_V → Option R} {l : List Str} {c : Str → Option R} (hn : ln l.length) (h2 : ∀ i out, kx (.exit 0) (l, (l.length : Int), i, out) = c out) (k : Nat) (hk : l.length < k) (out : Str) (ho : out.length + l.flatten.length ≤ 100000000000) :
    iter (fun rec => wwords_0 rec kx) k (l, (l.length : Int), 0, out) = c (out ++ l.flatten) := by
  refine (iter_ind l.length (fun i out => (l, (l.length : Int), (i : Int), out)) (fun i out => List.length out + ((l.drop i).flatten).length ≤ 100000000000) (fun i out => c (out ++ (l.drop i).flatten)) (fun i hi out ha rec hr => ?_) (fun out _ rec => ?_) k 0 out (Nat.zero_le _) (by omega) (by rw [List.drop_zero]; exact ho)).trans (by rw [List.drop_zero])
  · rw [drop_cons hi] at ha ⊢
    simp only [List.flatten_cons, List.length_append] at ha
    have hw : bwrite l[i] out = some (out ++ l[i]) := by
      simp only [bwrite]
      rw [if_pos (by simp only [maxApp]; omega)]
    have hr := hr (out ++ l[i]) (by rw [List.length_append]; omega)
    simp only [wwords_0, lt_t hi, cond_t, inb_t hi, chk, at_nat (c := .str) hi, bwrite_F, hw, Option.bind_some, wr_succ hi hn, hr, List.flatten_cons, List.append_assoc]
  · simp only [wwords_0, lt_n, cond_f, h2]
    rw [List.drop_eq_nil_of_le (Nat.le_refl _)]
    simp
theorem wwords_ok : FnLn Tryz.prog elT glT 49 wwords_si wwords_so wwords_F := .fin 0 wwords_run fun (l, out) r hb hx => ⟨l.length + 1, by
  have hx : app out l.flatten = some r := hx
  have hlen := app_len hx
  rw [(app_le hx).2]
  exact wwords_loop (l := l) (c := some) hb.1.1 (fun _ _ => rfl) (l.length + 1) (by omega) out hlen⟩
theorem ww (l : List Str) (out : Str) : wwords_F (l, out) = app out l.flatten := rfl
/-! ## an expression -/
def sgn (k : Int) : Str := mget signsL k
mutual
def etx : Xpr → Str
  | .mk k v n l => if k = 1 then vprint v else if k = 2 then n else etxs k l
def etxs : Int → List Xpr → Str
  | _, [] => []
  | k, x :: l => if k = 3 then [40] ++ [78, 79, 84, 32] ++ etx x ++ [41] else if k = 15 then [40] ++ [45] ++ etx x ++ [41] else if k = 16 then [40] ++ etx x ++ [32, 73, 83, 32, 78, 85, 76, 76] ++ [41] else [40] ++ etx x ++ ([32] ++ (sgn k ++ [32])) ++ etx1 l ++ [41]
def etx1 : List Xpr → Str
  | [] => []
  | y :: _ => etx y
end
mutual
def okx : Xpr → Bool
  | .mk k _ _ l => if k = 1 ∨ k = 2 then true else okxs k l
def okxs : Int → List Xpr → Bool
  | _, [] => false
  | k, x :: l => okx x && (if k = 3 ∨ k = 15 ∨ k = 16 then true else okx1 l)
def okx1 : List Xpr → Bool
  | [] => false
  | y :: _ => okx y
end
theorem etx_un (e : Xpr) : etx e = if e.kind = 1 then vprint e.v else if e.kind = 2 then e.name else etxs e.kind e.l := by
  cases e; simp only [etx]; rfl
theorem okx_un (e : Xpr) : okx e = if e.kind = 1 ∨ e.kind = 2 then true else okxs e.kind e.l := by
  cases e; simp only [okx]; rfl
/-! ## (*exchequer/ast.writer).expr -/
def wexpr_si : Sig := ⟨2, [(1, .sv .expr)], [(0, .ptr 0 0)], [(0, .bld 82)], 1, 1, 0, [], []⟩
def wexpr_so : Sig := ⟨0, [], [], [(0, .bld 82)], 1, 1, 0, [], []⟩
abbrev wexpr_I := Xpr × List UInt8
abbrev wexpr_O := List UInt8
def wexpr_px (R : Type) (rf : wexpr_I → Option wexpr_O) : Px R := ⟨ttOf ttL, glT, callT [(98, callOr [.sv .val] [.str] vprint_F), (49, callLn wwords_si wwords_so wwords_F), (40, callLn wexpr_si wexpr_so rf)], callQT [], loopT [], tbl []⟩
def wexpr_body (rf : wexpr_I → Option wexpr_O) (x : wexpr_I) : Option (wexpr_O) := match x with
 | (e, out) =>
  cond (decide (e.kind = 1)) (
   (wwords_F ([(vprint e.v)], out)).bind fun x =>
    some x) (
   cond (decide (e.kind = 2)) (
    (wwords_F ([e.name], out)).bind fun x1 =>
     some x1) (
    (wwords_F ([[40]], out)).bind fun x2 =>
     cond (decide (e.kind = 3)) (
      (wwords_F ([[78, 79, 84, 32]], x2)).bind fun x3 =>
       chk (inb 0 e.l.length) (
        (rf ((at' .expr e.l 0), x3)).bind fun x4 =>
         (wwords_F ([[41]], x4)).bind fun x13 =>
          some x13)) (
      cond (decide (e.kind = 15)) (
       (wwords_F ([[45]], x2)).bind fun x5 =>
        chk (inb 0 e.l.length) (
         (rf ((at' .expr e.l 0), x5)).bind fun x6 =>
          (wwords_F ([[41]], x6)).bind fun x14 =>
           some x14)) (
       cond (decide (e.kind = 16)) (
        chk (inb 0 e.l.length) (
         (rf ((at' .expr e.l 0), x2)).bind fun x7 =>
          (wwords_F ([[32, 73, 83, 32, 78, 85, 76, 76]], x7)).bind fun x8 =>
           (wwords_F ([[41]], x8)).bind fun x15 =>
            some x15)) (
        chk (inb 0 e.l.length) (
         (rf ((at' .expr e.l 0), x2)).bind fun x9 =>
          (wwords_F ([[32], (mget signsL e.kind), [32]], x9)).bind fun x10 =>
           chk (inb 1 e.l.length) (
            (rf ((at' .expr e.l 1), x10)).bind fun x11 =>
             (wwords_F ([[41]], x11)).bind fun x16 =>
              some x16)))))))
theorem wexpr_eq (rf : wexpr_I → Option wexpr_O) : ∀ (x : wexpr_I), runLn (wexpr_px _ rf) Tryz.f40 wexpr_si wexpr_so x some = wexpr_body rf x
  | (e, out) => by kernel_rfl
theorem wexpr_run (rf : wexpr_I → Option wexpr_O) (hrf : FnLn Tryz.prog elT glT 40 wexpr_si wexpr_so rf) : FnLn Tryz.prog elT glT 40 wexpr_si wexpr_so (wexpr_body rf) := by
  refine fnLn_run Tryz.func40 rfl (by kernel_rfl) follows (by kernel_rfl) (n := 0) (by kernel_rfl) (px := wexpr_px _ rf) (fun cx hP hel hgl => ?_) (wexpr_eq rf)
  have hp0 : PxOk cx (wexpr_px (wexpr_O) rf) := ⟨fun t => by rw [hP, hel]; exact tt_ok ttL_ok t, by rw [hgl]; rfl⟩
  have hc0 : CallOk cx (wexpr_px (wexpr_O) rf) := callT_ok rfl (cfs_cons (cf_or (by rw [hP, hel, hgl]; exact vprint_ok) (by kernel_rfl)) (cfs_cons (cf_ln (by rw [hP, hel, hgl]; exact wwords_ok) (by kernel_rfl)) (cfs_cons (cf_ln (by rw [hP, hel, hgl]; exact hrf) (by kernel_rfl)) cfs_nil)))
  have hq0 : CallQOk cx (wexpr_px (wexpr_O) rf) := callQT_ok rfl rfl cqfs_nil cwfs_nil
  exact ⟨hp0, hc0, hq0, all0⟩
def wexpr (e : Xpr) (out : Str) : Option Str := cond (okx e) (app out (etx e)) none
def wexpr_F : wexpr_I → Option wexpr_O := fun x => wexpr x.1 x.2
theorem wexpr_all : ∀ (n : Nat) (e : Xpr) (out : Str), BdExpr e → esize e ≤ n → okx e = true → iter (V := wexpr_I) (R := wexpr_O) wexpr_body n (e, out) = app out (etx e)
  | 0, e, _, _, h, _ => by have := esize_pos e; omega
  | n + 1, e, out, hb, h, hok => by
    obtain ⟨hb4, hb5⟩ := bd_ls hb
    rw [esize_eq] at h
    have hrf : ∀ x, x ∈ e.l → okx x = true → ∀ out : Str, iter (V := wexpr_I) (R := wexpr_O) wexpr_body n (x, out) = app out (etx x) := fun x hx ho out => wexpr_all n x out (hb5 x hx) (by have := esize_mem hx; omega) ho
    rw [iter_s, etx_un]
    rw [okx_un] at hok
    simp only [wexpr_body, ww]
    by_cases h1 : e.kind = 1
    · rw [decide_eq_true h1, if_pos h1, cond_t, app_one]
      simp
    by_cases h2 : e.kind = 2
    · rw [decide_eq_false h1, decide_eq_true h2, if_neg h1, if_pos h2, cond_f, cond_t, app_one]
      simp
    rw [decide_eq_false h1, decide_eq_false h2, if_neg h1, if_neg h2, cond_f, cond_f]
    rw [if_neg (by omega)] at hok
    cases hl : e.l with
    | nil => rw [hl] at hok; cases hok
    | cons x l =>
      rw [hl] at hok hrf
      simp only [okxs, Bool.and_eq_true] at hok
      have hx := hrf x List.mem_cons_self hok.1
      have e0 : at' .expr (x :: l) 0 = x := rfl
      have i0 : inb 0 (x :: l).length = true := inb_t (i := 0) (by simp)
      simp only [e0, i0, hx, chk, cond_t, etxs]
      by_cases h3 : e.kind = 3
      · rw [decide_eq_true h3, if_pos h3]
        simp only [cond_t, app_cont, app_one, app_app, List.flatten_cons, List.flatten_nil, List.append_nil, List.append_assoc]
      by_cases h15 : e.kind = 15
      · rw [decide_eq_false h3, decide_eq_true h15, if_neg h3, if_pos h15]
        simp only [cond_t, cond_f, app_cont, app_one, app_app, List.flatten_cons, List.flatten_nil, List.append_nil, List.append_assoc]
      by_cases h16 : e.kind = 16
      · rw [decide_eq_false h3, decide_eq_false h15, decide_eq_true h16, if_neg h3, if_neg h15, if_pos h16]
        simp only [cond_t, cond_f, app_cont, app_one, app_app, List.flatten_cons, List.flatten_nil, List.append_nil, List.append_assoc]
      rw [decide_eq_false h3, decide_eq_false h15, decide_eq_false h16, if_neg h3, if_neg h15, if_neg h16]
      rw [if_neg (by omega)] at hok
      cases l with
      | nil => exact absurd hok.2 (by simp [okx1])
      | cons y l =>
        have hy := hrf y (by simp) hok.2
        have e1 : at' .expr (x :: y :: l) 1 = y := rfl
        have i1 : inb 1 (x :: y :: l).length = true := inb_t (i := 1) (by simp)
        simp only [e1, i1, hy, cond_t, cond_f, etx1]
        simp only [app_one, app_app, List.flatten_cons, List.flatten_nil, List.append_nil, List.append_assoc, sgn]
theorem wexpr_ok : FnLn Tryz.prog elT glT 40 wexpr_si wexpr_so wexpr_F := by
  refine .fin (ι := Nat) (sg := wexpr_si) (so := wexpr_so) 0 (F := fun n => iter (V := wexpr_I) (R := wexpr_O) wexpr_body n) (fun n => FnLn.rec' (Sx.enters_of Tryz.func40 rfl rfl) (fun rf hrf => wexpr_run rf hrf) n) fun (e, out) r hb hx => ⟨esize e, ?_⟩
  have hx : cond (okx e) (app out (etx e)) none = some r := hx
  cases hok : okx e with
  | false => rw [hok] at hx; cases hx
  | true =>
    rw [hok] at hx
    exact (wexpr_all (esize e) e out hb.1 (Nat.le_refl _) hok).trans hx
theorem we {e : Xpr} (h : okx e = true) (out : Str) : wexpr_F (e, out) = app out (etx e) := by
  show cond (okx e) _ _ = _
  rw [h]
  rfl
end Go.Proofs.YthndhaolemgbdaaGreatDoor
