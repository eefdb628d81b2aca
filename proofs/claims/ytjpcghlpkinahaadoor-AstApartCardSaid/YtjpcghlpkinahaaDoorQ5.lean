/- Texts of the proof, one behind the other: Ad, Bw, Shj, Sj, Wr, Ws, Vc, Rh, Da, Vt, Nf, Uq, Us. -/
import Derived.Test.YtjpcghlpkinahaaDoorQ4
import Derived.Lib.Walk
import Derived.Lib.Strings
import Derived.Lib.Slices
import Derived.Lib.Builder
import Derived.Lib.UnsafeStr
import Derived.Lib.FrozenHead
import Derived.Laws.Externs
import Derived.Shelf.RegionOpenPlain
import Derived.Shelf.Strings.OnBuilder
/- May a statement be? -/
namespace Go.Proofs.YtjpcghlpkinahaaDoor
open Go.Ax
instance : DecidableEq Stm := fun a b => decidable_of_iff (ssame a b = true) (ssame_iff a b)
theorem ssame_dec (a b : Stm) : ssame a b = decide (a = b) := by
  rw [Bool.eq_iff_iff, ssame_iff, decide_eq_true_eq]
/-! ## exchequer/ast.some -/
def asome_px (R : Type) : Px R := ⟨ttOf ttL, glT, callT [], callQT [], loopT []⟩
def asome_body (x : HV [.int .i64]) : Option (HV [.bool]) := match x with
 | n =>
  cond (decide (1 ≤ n)) (
   some (decide (n ≤ 100))) (
   some false)
theorem asome_eq : ∀ (x : HV [.int .i64]), runF (asome_px _) Tryd.f68 [.int .i64] [.bool] x some = asome_body x
  | n => by kernel_rfl
theorem asome_run : FnOk Tryd.prog elT glT 68 [.int .i64] [.bool] (asome_body) := by
  refine fnOk_run Tryd.func68 rfl (by kernel_rfl) follows (by kernel_rfl) (n := 0) (by kernel_rfl) (px := asome_px _) (fun cx hP hel hgl => ?_) (asome_eq)
  have hp0 : PxOk cx (asome_px (HV [.bool])) := ⟨fun t => by rw [hP, hel]; exact tt_ok ttL_ok t, by rw [hgl]; rfl⟩
  have hc0 : CallOk cx (asome_px (HV [.bool])) := callT_ok rfl cfs_nil
  have hq0 : CallQOk cx (asome_px (HV [.bool])) := callQT_ok rfl cqfs_nil
  exact ⟨hp0, hc0, hq0, all0⟩
def asome (n : Int) : Bool :=
  cond (decide (1 ≤ n)) (
   (decide (n ≤ 100))) (
   false)
theorem asome_tot (x : HV [.int .i64]) : asome_body x = some (asome x) := by
  first
    | exact rfl
    | simp only [asome_body, asome, cond_some]
def asome_F : FT [.int .i64] [.bool] := fun x => some (asome x)
theorem asome_ok : FnOk Tryd.prog elT glT 68 [.int .i64] [.bool] asome_F := .fin0 asome_run fun x _ _ hx => (asome_tot x).trans hx
theorem asome_is (n : Nat) : asome (n : Int) = (decide (1 ≤ n) && decide (n ≤ 100)) := by
  simp only [asome]
  rw [show decide ((1 : Int) ≤ (n : Int)) = decide (1 ≤ n) from decide_eq_decide.2 (by omega), show decide ((n : Int) ≤ 100) = decide (n ≤ 100) from decide_eq_decide.2 (by omega)]
  cases decide (1 ≤ n) <;> rfl
/-! ## names, none twice -/
/-! ## exchequer/ast.once -/
def aonce_0_sg : Sig := ⟨26, [(0, .sl .str false), (2, .bool), (5, .sl .str false), (6, .int .i64), (7, .int .i64)], [], [], 0, 0, 0, [], []⟩
abbrev aonce_0_V := List Str × Bool × List Str × Int × Int
def aonce_0 {R : Type} (rec : aonce_0_V → Option R) (kx : Ex → aonce_0_V → Option R) (v : aonce_0_V) : Option R := match v with
 | (v, v1, v2, v3, v4) =>
  cond (decide (v4 < v3)) (
   chk (inb v4 v2.length) (
    cond (!(lname (at' .str v2 v4))) (
     kx .ret (v, false, v2, v3, v4)) (
     chk (upto 0 v4 v.length) (
      cond ((shas (v.take (v4 : Int).toNat) (at' .str v2 v4))) (
       kx .ret (v, false, v2, v3, v4)) (
       rec (v, v1, v2, v3, (wr .i64 (v4 + 1)))))))) (
   kx (.exit 0) (v, v1, v2, v3, v4))
def aonce_px (R : Type) (k : Nat) : Px R := ⟨ttOf ttL, glT, callT [(12, callOr [.str] [.bool] lname_F), (34, callOr [.sl .str false, .str] [.bool] shas_F)], callQT [], loopT [(2, loopOr k aonce_0_sg (aonce_0))]⟩
theorem aonce_0_eq (R : Type) (k : Nat) : ∀ (fr : List Fr) (rec : aonce_0_V → Option R) (kx : Ex → aonce_0_V → Option R) (v : aonce_0_V), round (aonce_px R k) aonce_0_sg (lp Tryd.f69 0) fr rec kx v = aonce_0 rec kx v
  | fr, rec, kx, (v, v1, v2, v3, v4) => by kernel_rfl
def aonce_body (k : Nat) (x : HV [.sl .str false]) : Option (HV [.bool]) := match x with
 | l =>
  iter (fun rec => aonce_0 rec (fun e vz => match vz with | (v5, v6, _, _, _) => match e with
   | .ret =>
    some v6
   | .exit 0 =>
    some (decide ((v5.length : Int) ≤ 100))
   | _ => none)) k (l, false, l, (l.length : Int), 0)
theorem aonce_eq (k : Nat) : ∀ (x : HV [.sl .str false]), runF (aonce_px _ k) Tryd.f69 [.sl .str false] [.bool] x some = aonce_body k x
  | l => by kernel_rfl
theorem aonce_run (k : Nat) : FnOk Tryd.prog elT glT 69 [.sl .str false] [.bool] (aonce_body k) := by
  refine fnOk_run Tryd.func69 rfl (by kernel_rfl) follows (by kernel_rfl) (n := 1) (by kernel_rfl) (px := aonce_px _ k) (fun cx hP hel hgl => ?_) (aonce_eq k)
  have hp0 : PxOk cx (aonce_px (HV [.bool]) k) := ⟨fun t => by rw [hP, hel]; exact tt_ok ttL_ok t, by rw [hgl]; rfl⟩
  have hc0 : CallOk cx (aonce_px (HV [.bool]) k) := callT_ok rfl (cfs_cons (cf_or (by rw [hP, hel, hgl]; exact lname_ok) (by kernel_rfl)) (cfs_cons (cf_or (by rw [hP, hel, hgl]; exact shas_ok) (by kernel_rfl)) cfs_nil))
  have hq0 : CallQOk cx (aonce_px (HV [.bool]) k) := callQT_ok rfl cqfs_nil
  have hlaonce_0 : LoopOk cx (aonce_px (HV [.bool]) k) (lp Tryd.f69 0) := loop_ok hp0 hc0 hq0 (by rw [hP]; exact follows) (k := k) (s := aonce_0_sg) (step := aonce_0) (fun _ _ => by kernel_rfl) (by kernel_rfl) (aonce_0_eq _ k) (loops_in (n := 0) (by kernel_rfl) all0)
  exact ⟨hp0, hc0, hq0, (allS all0 hlaonce_0)⟩
def onceF : List Str → List Str → Bool
  | _, [] => true
  | seen, s :: r => lname s && !seen.contains s && onceF (seen ++ [s]) r
def aonce (l : List Str) : Bool := onceF [] l && decide (l.length ≤ 100)
def aonce_F : FT [.sl .str false] [.bool] := fun x => some (aonce x)
theorem take_succ' {l : List Str} {i : Nat} (hi : i < l.length) : l.take (i + 1) = l.take i ++ [l[i]] := by
  rw [List.take_add_one, List.getElem?_eq_getElem hi]
  rfl
theorem aonce_loop {R : Type} {kx : Ex → aonce_0_V → Option R} {l : List Str} {c : Bool → Option R} (hn : ln l.length) (h1 : ∀ i, kx .ret (l, false, l, (l.length : Int), i) = c false) (h2 : ∀ q i, kx (.exit 0) (l, q, l, (l.length : Int), i) = c true) (k : Nat) (hk : l.length < k) :
    iter (fun rec => aonce_0 rec kx) k (l, false, l, (l.length : Int), 0) = c (onceF [] l) := by
  refine (iter_ind0 l.length (fun i => (l, false, l, (l.length : Int), (i : Int))) (fun i => c (onceF (l.take i) (l.drop i))) (fun i hi rec hr => ?_) (fun rec => ?_) k 0 (Nat.zero_le _) (by omega)).trans (by rw [List.drop_zero, List.take_zero])
  · have hu : upto 0 (i : Int) l.length = true := by simp [upto]; omega
    simp only [aonce_0, lt_t hi, cond_t, inb_t hi, chk, at_nat (c := .str) hi, wr_succ hi hn, hr, h1, drop_cons hi, onceF, hu, Int.toNat_natCast, shas_is, take_succ' hi]
    cases lname l[i] <;> cases (l.take i).contains l[i] <;> rfl
  · simp only [aonce_0, lt_n, cond_f, h2]
    rw [List.drop_eq_nil_of_le (Nat.le_refl _)]
    rfl
theorem aonce_ok : FnOk Tryd.prog elT glT 69 [.sl .str false] [.bool] aonce_F := .fin 0 aonce_run fun l r hb hx => ⟨l.length + 1, by
  simp only [aonce_F, Option.some.injEq] at hx
  rw [← hx]
  simp only [aonce_body]
  refine (aonce_loop (l := l) (c := fun b => cond b (some (decide ((l.length : Int) ≤ 100))) (some false)) hb.1 (fun _ => rfl) (fun _ _ => rfl) (l.length + 1) (by omega)).trans ?_
  rw [show decide ((l.length : Int) ≤ 100) = decide (l.length ≤ 100) from decide_eq_decide.2 (by omega), aonce]
  cases onceF [] l <;> rfl⟩
theorem onceF_iff : ∀ (l seen : List Str), onceF seen l = true ↔ (∀ s, s ∈ l → lname s = true) ∧ l.Nodup ∧ ∀ s, s ∈ l → s ∉ seen
  | [], seen => by simp [onceF]
  | x :: l, seen => by
    simp only [onceF, Bool.and_eq_true, Bool.not_eq_true', onceF_iff l (seen ++ [x]), List.mem_cons, List.nodup_cons, List.mem_append, List.not_mem_nil, or_false, not_or]
    rw [← Bool.not_eq_true, List.contains_iff_mem]
    constructor
    · rintro ⟨⟨h1, h2⟩, h3, h4, h5⟩
      exact ⟨fun s hs => hs.elim (fun e => by rw [e]; exact h1) (h3 s), ⟨fun hx => (h5 x hx).2 rfl, h4⟩, fun s hs => hs.elim (fun e => by rw [e]; exact h2) (fun h => (h5 s h).1)⟩
    · rintro ⟨h1, ⟨h2, h3⟩, h4⟩
      exact ⟨⟨h1 x (.inl rfl), h4 x (.inl rfl)⟩, fun s hs => h1 s (.inr hs), h3, fun s hs => ⟨h4 s (.inr hs), fun e => h2 (by rw [← e]; exact hs)⟩⟩
/-! ## expressions, rows -/
/-! ## exchequer/ast.exprs -/
def aexprs_0_sg : Sig := ⟨19, [(0, .sl .expr false), (4, .int .i64), (7, .int .i64), (8, .int .i64)], [(1, .fn 96 [])], [], 80, 80, 400, [], []⟩
abbrev aexprs_0_V := List Xpr × Int × Int × Int
def aexprs_0 {R : Type} (rec : aexprs_0_V → Option R) (kx : Ex → aexprs_0_V → Option R) (v : aexprs_0_V) : Option R := match v with
 | (v, v1, v2, v3) =>
  cond (decide (v3 < v2)) (
   chk (inb v3 v.length) (
    cond (!(eright (at' .expr v v3) 30)) (
     kx .ret (v, v3, v2, v3)) (
     rec (v, v1, v2, (wr .i64 (v3 + 1)))))) (
   kx (.exit 0) (v, v1, v2, v3))
def aexprs_pxi0i0i0 (R : Type) (_k : Nat) : Px R := ⟨ttOf ttL, glT, callT [(45, callOr [.sv .expr, .int .i64] [.bool] eright_F)], callQT [], loopT []⟩
noncomputable def aexprs_pxi0i0 (R : Type) (k : Nat) : Px R := ⟨ttOf ttL, glT, callT [(96, callRun 120 600 (aexprs_pxi0i0i0 R k) Tryd.f96)], callQT [], loopT [(2, loopOr k aexprs_0_sg (aexprs_0))]⟩
noncomputable def aexprs_pxi0 (R : Type) (k : Nat) : Px R := ⟨ttOf ttL, glT, callT [(109, callRun 80 400 (aexprs_pxi0i0 R k) Tryd.f109)], callQT [], loopT []⟩
noncomputable def aexprs_px (R : Type) (k : Nat) : Px R := ⟨ttOf ttL, glT, callT [(88, callRun 40 200 (aexprs_pxi0 R k) Tryd.f88)], callQT [], loopT []⟩
theorem aexprs_0_eq (R : Type) (k : Nat) : ∀ (fr : List Fr) (rec : aexprs_0_V → Option R) (kx : Ex → aexprs_0_V → Option R) (v : aexprs_0_V), round (aexprs_pxi0i0 R k) aexprs_0_sg (lp Tryd.f109 0) fr rec kx v = aexprs_0 rec kx v
  | fr, rec, kx, (v, v1, v2, v3) => by kernel_rfl
def aexprs_body (k : Nat) (x : HV [.sl .expr false]) : Option (HV [.bool]) := match x with
 | l =>
  cond (decide ((l.length : Int) ≤ 100)) (
   iter (fun rec => aexprs_0 rec (fun e vz => match vz with | (_, v5, _, _) => match e with
    | .ret =>
     some (!(decide (0 ≤ v5)))
    | .exit 0 =>
     some true
    | _ => none)) k (l, 0, (l.length : Int), 0)) (
   some false)
theorem aexprs_eq (k : Nat) : ∀ (x : HV [.sl .expr false]), runF (aexprs_px _ k) Tryd.f70 [.sl .expr false] [.bool] x some = aexprs_body k x
  | l => by kernel_rfl
theorem aexprs_run (k : Nat) : FnOk Tryd.prog elT glT 70 [.sl .expr false] [.bool] (aexprs_body k) := by
  refine fnOk_run Tryd.func70 rfl (by kernel_rfl) follows (by kernel_rfl) (n := 0) (by kernel_rfl) (px := aexprs_px _ k) (fun cx hP hel hgl => ?_) (aexprs_eq k)
  have hp3 : PxOk cx (aexprs_pxi0i0i0 (HV [.bool]) k) := ⟨fun t => by rw [hP, hel]; exact tt_ok ttL_ok t, by rw [hgl]; rfl⟩
  have hc3 : CallOk cx (aexprs_pxi0i0i0 (HV [.bool]) k) := callT_ok rfl (cfs_cons (cf_or (by rw [hP, hel, hgl]; exact eright_ok) (by kernel_rfl)) cfs_nil)
  have hq3 : CallQOk cx (aexprs_pxi0i0i0 (HV [.bool]) k) := callQT_ok rfl cqfs_nil
  have hp2 : PxOk cx (aexprs_pxi0i0 (HV [.bool]) k) := ⟨fun t => by rw [hP, hel]; exact tt_ok ttL_ok t, by rw [hgl]; rfl⟩
  have hc2 : CallOk cx (aexprs_pxi0i0 (HV [.bool]) k) := callT_ok rfl (cfs_cons (cf_run hp3 hc3 hq3 (by rw [hP]; exact follows) (by rw [hP]; exact Tryd.func96) rfl (by kernel_rfl) (by kernel_rfl) (n := 0) (by kernel_rfl) (all0)) cfs_nil)
  have hq2 : CallQOk cx (aexprs_pxi0i0 (HV [.bool]) k) := callQT_ok rfl cqfs_nil
  have hlaexprs_0 : LoopOk cx (aexprs_pxi0i0 (HV [.bool]) k) (lp Tryd.f109 0) := loop_ok hp2 hc2 hq2 (by rw [hP]; exact follows) (k := k) (s := aexprs_0_sg) (step := aexprs_0) (fun _ _ => by kernel_rfl) (by kernel_rfl) (aexprs_0_eq _ k) (loops_in (n := 0) (by kernel_rfl) all0)
  have hp1 : PxOk cx (aexprs_pxi0 (HV [.bool]) k) := ⟨fun t => by rw [hP, hel]; exact tt_ok ttL_ok t, by rw [hgl]; rfl⟩
  have hc1 : CallOk cx (aexprs_pxi0 (HV [.bool]) k) := callT_ok rfl (cfs_cons (cf_run hp2 hc2 hq2 (by rw [hP]; exact follows) (by rw [hP]; exact Tryd.func109) rfl (by kernel_rfl) (by kernel_rfl) (n := 1) (by kernel_rfl) ((allS all0 hlaexprs_0))) cfs_nil)
  have hq1 : CallQOk cx (aexprs_pxi0 (HV [.bool]) k) := callQT_ok rfl cqfs_nil
  have hp0 : PxOk cx (aexprs_px (HV [.bool]) k) := ⟨fun t => by rw [hP, hel]; exact tt_ok ttL_ok t, by rw [hgl]; rfl⟩
  have hc0 : CallOk cx (aexprs_px (HV [.bool]) k) := callT_ok rfl (cfs_cons (cf_run hp1 hc1 hq1 (by rw [hP]; exact follows) (by rw [hP]; exact Tryd.func88) rfl (by kernel_rfl) (by kernel_rfl) (n := 0) (by kernel_rfl) (all0)) cfs_nil)
  have hq0 : CallQOk cx (aexprs_px (HV [.bool]) k) := callQT_ok rfl cqfs_nil
  exact ⟨hp0, hc0, hq0, all0⟩
def aexprs (l : List Xpr) : Bool := decide (l.length ≤ 100) && l.all fun e => eright e 30
def aexprs_F : FT [.sl .expr false] [.bool] := fun x => some (aexprs x)
theorem aexprs_loop {R : Type} {kx : Ex → aexprs_0_V → Option R} {l : List Xpr} {c : Bool → Option R} (hn : ln l.length) (h1 : ∀ i : Nat, kx .ret (l, (i : Int), (l.length : Int), (i : Int)) = c false) (h2 : ∀ q i, kx (.exit 0) (l, q, (l.length : Int), i) = c true) (k : Nat) (hk : l.length < k) :
    iter (fun rec => aexprs_0 rec kx) k (l, 0, (l.length : Int), 0) = c (l.all fun e => eright e 30) := by
  refine (iter_ind0 l.length (fun i => (l, (0 : Int), (l.length : Int), (i : Int))) (fun i => c ((l.drop i).all fun e => eright e 30)) (fun i hi rec hr => ?_) (fun rec => ?_) k 0 (Nat.zero_le _) (by omega)).trans (by rw [List.drop_zero])
  · simp only [aexprs_0, lt_t hi, cond_t, inb_t hi, chk, at_nat (c := .expr) hi, wr_succ hi hn, hr, h1, drop_cons hi, List.all_cons]
    cases eright l[i] 30 <;> rfl
  · simp only [aexprs_0, lt_n, cond_f, h2]
    rw [List.drop_eq_nil_of_le (Nat.le_refl _)]
    rfl
theorem aexprs_ok : FnOk Tryd.prog elT glT 70 [.sl .expr false] [.bool] aexprs_F := .fin 0 aexprs_run fun l r hb hx => ⟨l.length + 1, by
  simp only [aexprs_F, Option.some.injEq] at hx
  rw [← hx]
  simp only [aexprs_body, aexprs]
  rw [show decide ((l.length : Int) ≤ 100) = decide (l.length ≤ 100) from decide_eq_decide.2 (by omega)]
  cases decide (l.length ≤ 100) with
  | false => rfl
  | true =>
    rw [cond_t, Bool.true_and]
    exact aexprs_loop (l := l) (c := some) hb.1 (fun i => by simp) (fun _ _ => rfl) (l.length + 1) (by omega)⟩
/-! ## exchequer/ast.rows -/
def arows_0_sg : Sig := ⟨19, [(0, .sl .exprs false), (4, .int .i64), (7, .int .i64), (8, .int .i64)], [(1, .fn 98 [])], [], 80, 80, 400, [], []⟩
abbrev arows_0_V := List (List Xpr) × Int × Int × Int
def arows_0 {R : Type} (rec : arows_0_V → Option R) (kx : Ex → arows_0_V → Option R) (v : arows_0_V) : Option R := match v with
 | (v, v1, v2, v3) =>
  cond (decide (v3 < v2)) (
   chk (inb v3 v.length) (
    cond (decide (((at' .exprs v v3).length : Int) = 0)) (
     kx .ret (v, v3, v2, v3)) (
     cond (!(aexprs (at' .exprs v v3))) (
      kx .ret (v, v3, v2, v3)) (
      rec (v, v1, v2, (wr .i64 (v3 + 1))))))) (
   kx (.exit 0) (v, v1, v2, v3))
def arows_pxi0i0i0 (R : Type) (_k : Nat) : Px R := ⟨ttOf ttL, glT, callT [(70, callOr [.sl .expr false] [.bool] aexprs_F)], callQT [], loopT []⟩
noncomputable def arows_pxi0i0 (R : Type) (k : Nat) : Px R := ⟨ttOf ttL, glT, callT [(98, callRun 120 600 (arows_pxi0i0i0 R k) Tryd.f98)], callQT [], loopT [(2, loopOr k arows_0_sg (arows_0))]⟩
noncomputable def arows_pxi0 (R : Type) (k : Nat) : Px R := ⟨ttOf ttL, glT, callT [(111, callRun 80 400 (arows_pxi0i0 R k) Tryd.f111)], callQT [], loopT []⟩
noncomputable def arows_px (R : Type) (k : Nat) : Px R := ⟨ttOf ttL, glT, callT [(68, callOr [.int .i64] [.bool] asome_F), (97, callRun 40 200 (arows_pxi0 R k) Tryd.f97)], callQT [], loopT []⟩
theorem arows_0_eq (R : Type) (k : Nat) : ∀ (fr : List Fr) (rec : arows_0_V → Option R) (kx : Ex → arows_0_V → Option R) (v : arows_0_V), round (arows_pxi0i0 R k) arows_0_sg (lp Tryd.f111 0) fr rec kx v = arows_0 rec kx v
  | fr, rec, kx, (v, v1, v2, v3) => by kernel_rfl
def arows_body (k : Nat) (x : HV [.sl .exprs false]) : Option (HV [.bool]) := match x with
 | l =>
  cond ((asome (l.length : Int))) (
   iter (fun rec => arows_0 rec (fun e vz => match vz with | (_, v5, _, _) => match e with
    | .ret =>
     some (!(decide (0 ≤ v5)))
    | .exit 0 =>
     some true
    | _ => none)) k (l, 0, (l.length : Int), 0)) (
   some false)
theorem arows_eq (k : Nat) : ∀ (x : HV [.sl .exprs false]), runF (arows_px _ k) Tryd.f71 [.sl .exprs false] [.bool] x some = arows_body k x
  | l => by kernel_rfl
theorem arows_run (k : Nat) : FnOk Tryd.prog elT glT 71 [.sl .exprs false] [.bool] (arows_body k) := by
  refine fnOk_run Tryd.func71 rfl (by kernel_rfl) follows (by kernel_rfl) (n := 0) (by kernel_rfl) (px := arows_px _ k) (fun cx hP hel hgl => ?_) (arows_eq k)
  have hp3 : PxOk cx (arows_pxi0i0i0 (HV [.bool]) k) := ⟨fun t => by rw [hP, hel]; exact tt_ok ttL_ok t, by rw [hgl]; rfl⟩
  have hc3 : CallOk cx (arows_pxi0i0i0 (HV [.bool]) k) := callT_ok rfl (cfs_cons (cf_or (by rw [hP, hel, hgl]; exact aexprs_ok) (by kernel_rfl)) cfs_nil)
  have hq3 : CallQOk cx (arows_pxi0i0i0 (HV [.bool]) k) := callQT_ok rfl cqfs_nil
  have hp2 : PxOk cx (arows_pxi0i0 (HV [.bool]) k) := ⟨fun t => by rw [hP, hel]; exact tt_ok ttL_ok t, by rw [hgl]; rfl⟩
  have hc2 : CallOk cx (arows_pxi0i0 (HV [.bool]) k) := callT_ok rfl (cfs_cons (cf_run hp3 hc3 hq3 (by rw [hP]; exact follows) (by rw [hP]; exact Tryd.func98) rfl (by kernel_rfl) (by kernel_rfl) (n := 0) (by kernel_rfl) (all0)) cfs_nil)
  have hq2 : CallQOk cx (arows_pxi0i0 (HV [.bool]) k) := callQT_ok rfl cqfs_nil
  have hlarows_0 : LoopOk cx (arows_pxi0i0 (HV [.bool]) k) (lp Tryd.f111 0) := loop_ok hp2 hc2 hq2 (by rw [hP]; exact follows) (k := k) (s := arows_0_sg) (step := arows_0) (fun _ _ => by kernel_rfl) (by kernel_rfl) (arows_0_eq _ k) (loops_in (n := 0) (by kernel_rfl) all0)
  have hp1 : PxOk cx (arows_pxi0 (HV [.bool]) k) := ⟨fun t => by rw [hP, hel]; exact tt_ok ttL_ok t, by rw [hgl]; rfl⟩
  have hc1 : CallOk cx (arows_pxi0 (HV [.bool]) k) := callT_ok rfl (cfs_cons (cf_run hp2 hc2 hq2 (by rw [hP]; exact follows) (by rw [hP]; exact Tryd.func111) rfl (by kernel_rfl) (by kernel_rfl) (n := 1) (by kernel_rfl) ((allS all0 hlarows_0))) cfs_nil)
  have hq1 : CallQOk cx (arows_pxi0 (HV [.bool]) k) := callQT_ok rfl cqfs_nil
  have hp0 : PxOk cx (arows_px (HV [.bool]) k) := ⟨fun t => by rw [hP, hel]; exact tt_ok ttL_ok t, by rw [hgl]; rfl⟩
  have hc0 : CallOk cx (arows_px (HV [.bool]) k) := callT_ok rfl (cfs_cons (cf_or (by rw [hP, hel, hgl]; exact asome_ok) (by kernel_rfl)) (cfs_cons (cf_run hp1 hc1 hq1 (by rw [hP]; exact follows) (by rw [hP]; exact Tryd.func97) rfl (by kernel_rfl) (by kernel_rfl) (n := 0) (by kernel_rfl) (all0)) cfs_nil))
  have hq0 : CallQOk cx (arows_px (HV [.bool]) k) := callQT_ok rfl cqfs_nil
  exact ⟨hp0, hc0, hq0, all0⟩
def rowOk (r : List Xpr) : Bool := !decide (r.length = 0) && aexprs r
def arows (l : List (List Xpr)) : Bool := asome (l.length : Int) && l.all rowOk
def arows_F : FT [.sl .exprs false] [.bool] := fun x => some (arows x)
theorem arows_loop {R : Type} {kx : Ex → arows_0_V → Option R} {l : List (List Xpr)} {c : Bool → Option R} (hn : ln l.length) (h1 : ∀ i : Nat, kx .ret (l, (i : Int), (l.length : Int), (i : Int)) = c false) (h2 : ∀ q i, kx (.exit 0) (l, q, (l.length : Int), i) = c true) (k : Nat) (hk : l.length < k) :
    iter (fun rec => arows_0 rec kx) k (l, 0, (l.length : Int), 0) = c (l.all rowOk) := by
  refine (iter_ind0 l.length (fun i => (l, (0 : Int), (l.length : Int), (i : Int))) (fun i => c ((l.drop i).all rowOk)) (fun i hi rec hr => ?_) (fun rec => ?_) k 0 (Nat.zero_le _) (by omega)).trans (by rw [List.drop_zero])
  · simp only [arows_0, lt_t hi, cond_t, inb_t hi, chk, at_nat (c := .exprs) hi, wr_succ hi hn, hr, h1, drop_cons hi, List.all_cons, rowOk]
    rw [show decide ((l[i].length : Int) = 0) = decide (l[i].length = 0) from decide_eq_decide.2 (by omega)]
    cases decide (l[i].length = 0) <;> cases aexprs l[i] <;> rfl
  · simp only [arows_0, lt_n, cond_f, h2]
    rw [List.drop_eq_nil_of_le (Nat.le_refl _)]
    rfl
theorem arows_ok : FnOk Tryd.prog elT glT 71 [.sl .exprs false] [.bool] arows_F := .fin 0 arows_run fun l r hb hx => ⟨l.length + 1, by
  simp only [arows_F, Option.some.injEq] at hx
  rw [← hx]
  simp only [arows_body, arows]
  cases asome (l.length : Int) with
  | false => rfl
  | true =>
    rw [cond_t, Bool.true_and]
    exact arows_loop (l := l) (c := some) hb.1 (fun i => by simp) (fun _ _ => rfl) (l.length + 1) (by omega)⟩
/-! ## exchequer/ast.none -/
def anone_px (R : Type) : Px R := ⟨ttOf ttL, glT, callT [(23, callOr [.sv .expr, .sv .expr] [.bool] asame_F)], callQT [], loopT []⟩
def anone_body (x : HV [.sv .expr]) : Option (HV [.bool]) := match x with
 | e =>
  some (asame e (Xpr.mk 0 ⟨0, 0, []⟩ [] []))
theorem anone_eq : ∀ (x : HV [.sv .expr]), runF (anone_px _) Tryd.f99 [.sv .expr] [.bool] x some = anone_body x
  | e => by kernel_rfl
theorem anone_run : FnOk Tryd.prog elT glT 99 [.sv .expr] [.bool] (anone_body) := by
  refine fnOk_run Tryd.func99 rfl (by kernel_rfl) follows (by kernel_rfl) (n := 0) (by kernel_rfl) (px := anone_px _) (fun cx hP hel hgl => ?_) (anone_eq)
  have hp0 : PxOk cx (anone_px (HV [.bool])) := ⟨fun t => by rw [hP, hel]; exact tt_ok ttL_ok t, by rw [hgl]; rfl⟩
  have hc0 : CallOk cx (anone_px (HV [.bool])) := callT_ok rfl (cfs_cons (cf_or (by rw [hP, hel, hgl]; exact asame_ok) (by kernel_rfl)) cfs_nil)
  have hq0 : CallQOk cx (anone_px (HV [.bool])) := callQT_ok rfl cqfs_nil
  exact ⟨hp0, hc0, hq0, all0⟩
def anone (e : Xpr) : Bool :=
  (asame e (Xpr.mk 0 ⟨0, 0, []⟩ [] []))
theorem anone_tot (x : HV [.sv .expr]) : anone_body x = some (anone x) := by
  first
    | exact rfl
    | simp only [anone_body, anone, cond_some]
def anone_F : FT [.sv .expr] [.bool] := fun x => some (anone x)
theorem anone_ok : FnOk Tryd.prog elT glT 99 [.sv .expr] [.bool] anone_F := .fin0 anone_run fun x _ _ hx => (anone_tot x).trans hx
theorem anone_is (e : Xpr) : anone e = decide (e = .mk 0 ⟨0, 0, []⟩ [] []) := xsame_dec e _
/-! ## exchequer/ast.where -/
def awhere_px (R : Type) : Px R := ⟨ttOf ttL, glT, callT [(99, callOr [.sv .expr] [.bool] anone_F), (45, callOr [.sv .expr, .int .i64] [.bool] eright_F)], callQT [], loopT []⟩
def awhere_body (x : HV [.sv .stmt]) : Option (HV [.bool]) := match x with
 | s =>
  cond (!s.has) (
   some (anone (xeta s.whr))) (
   some (eright (xeta s.whr) 30))
theorem awhere_eq : ∀ (x : HV [.sv .stmt]), runF (awhere_px _) Tryd.f73 [.sv .stmt] [.bool] x some = awhere_body x
  | s => by kernel_rfl
theorem awhere_run : FnOk Tryd.prog elT glT 73 [.sv .stmt] [.bool] (awhere_body) := by
  refine fnOk_run Tryd.func73 rfl (by kernel_rfl) follows (by kernel_rfl) (n := 0) (by kernel_rfl) (px := awhere_px _) (fun cx hP hel hgl => ?_) (awhere_eq)
  have hp0 : PxOk cx (awhere_px (HV [.bool])) := ⟨fun t => by rw [hP, hel]; exact tt_ok ttL_ok t, by rw [hgl]; rfl⟩
  have hc0 : CallOk cx (awhere_px (HV [.bool])) := callT_ok rfl (cfs_cons (cf_or (by rw [hP, hel, hgl]; exact anone_ok) (by kernel_rfl)) (cfs_cons (cf_or (by rw [hP, hel, hgl]; exact eright_ok) (by kernel_rfl)) cfs_nil))
  have hq0 : CallQOk cx (awhere_px (HV [.bool])) := callQT_ok rfl cqfs_nil
  exact ⟨hp0, hc0, hq0, all0⟩
def awhere (s : Stm) : Bool :=
  cond (!s.has) (
   (anone (xeta s.whr))) (
   (eright (xeta s.whr) 30))
theorem awhere_tot (x : HV [.sv .stmt]) : awhere_body x = some (awhere x) := by
  first
    | exact rfl
    | simp only [awhere_body, awhere, cond_some]
def awhere_F : FT [.sv .stmt] [.bool] := fun x => some (awhere x)
theorem awhere_ok : FnOk Tryd.prog elT glT 73 [.sv .stmt] [.bool] awhere_F := .fin0 awhere_run fun x _ _ hx => (awhere_tot x).trans hx
theorem awhere_is (s : Stm) : awhere s = cond s.has (eright s.whr 30) (decide (s.whr = .mk 0 ⟨0, 0, []⟩ [] [])) := by
  simp only [awhere, xeta_eq, anone_is]
  cases s.has <;> rfl
/-! ## columns, what is set -/
/-! ## exchequer/ast.cols -/
def acols_0_sg : Sig := ⟨44, [(0, .sl .col false), (2, .bool), (3, .sl .str true), (6, .sl .col false), (7, .int .i64), (8, .int .i64)], [], [], 0, 0, 0, [], []⟩
abbrev acols_0_V := List Col × Bool × List Str × List Col × Int × Int
def acols_0 {R : Type} (rec : acols_0_V → Option R) (kx : Ex → acols_0_V → Option R) (v : acols_0_V) : Option R := match v with
 | (v, v1, v2, v3, v4, v5) =>
  cond (decide (v5 < v4)) (
   chk (inb v5 v3.length) (
    let j := fun (p : Bool) =>
     cond (p) (
      kx .ret (v, false, v2, v3, v4, v5)) (
      cond (!decide (((at' .col v3 v5).ref) = [])) (
       cond (!(lname ((at' .col v3 v5).ref))) (
        kx .ret (v, false, v2, v3, v4, v5)) (
        chk (decide (v2.length + 1 ≤ maxApp)) (
         rec (v, v1, (v2 ++ [((at' .col v3 v5).name)]), v3, v4, (wr .i64 (v5 + 1)))))) (
       chk (decide (v2.length + 1 ≤ maxApp)) (
        rec (v, v1, (v2 ++ [((at' .col v3 v5).name)]), v3, v4, (wr .i64 (v5 + 1))))))
    cond (decide ((at' .col v3 v5).kind < 2)) (
     j true) (
     j (decide (5 < (at' .col v3 v5).kind))))) (
   kx (.exit 0) (v, v1, v2, v3, v4, v5))
def acols_px (R : Type) (k : Nat) : Px R := ⟨ttOf ttL, glT, callT [(12, callOr [.str] [.bool] lname_F), (68, callOr [.int .i64] [.bool] asome_F), (69, callOr [.sl .str false] [.bool] aonce_F)], callQT [], loopT [(3, loopOr k acols_0_sg (acols_0))]⟩
theorem acols_0_eq (R : Type) (k : Nat) : ∀ (fr : List Fr) (rec : acols_0_V → Option R) (kx : Ex → acols_0_V → Option R) (v : acols_0_V), round (acols_px R k) acols_0_sg (lp Tryd.f67 0) fr rec kx v = acols_0 rec kx v
  | fr, rec, kx, (v, v1, v2, v3, v4, v5) => by kernel_rfl
def acols_body (k : Nat) (x : HV [.sl .col false]) : Option (HV [.bool]) := match x with
 | l =>
  iter (fun rec => acols_0 rec (fun e vz => match vz with | (v6, v7, v8, _, _, _) => match e with
   | .ret =>
    some v7
   | .exit 0 =>
    cond ((asome (v6.length : Int))) (
     some (aonce v8)) (
     some false)
   | _ => none)) k (l, false, [], l, (l.length : Int), 0)
theorem acols_eq (k : Nat) : ∀ (x : HV [.sl .col false]), runF (acols_px _ k) Tryd.f67 [.sl .col false] [.bool] x some = acols_body k x
  | l => by kernel_rfl
theorem acols_run (k : Nat) : FnOk Tryd.prog elT glT 67 [.sl .col false] [.bool] (acols_body k) := by
  refine fnOk_run Tryd.func67 rfl (by kernel_rfl) follows (by kernel_rfl) (n := 1) (by kernel_rfl) (px := acols_px _ k) (fun cx hP hel hgl => ?_) (acols_eq k)
  have hp0 : PxOk cx (acols_px (HV [.bool]) k) := ⟨fun t => by rw [hP, hel]; exact tt_ok ttL_ok t, by rw [hgl]; rfl⟩
  have hc0 : CallOk cx (acols_px (HV [.bool]) k) := callT_ok rfl (cfs_cons (cf_or (by rw [hP, hel, hgl]; exact lname_ok) (by kernel_rfl)) (cfs_cons (cf_or (by rw [hP, hel, hgl]; exact asome_ok) (by kernel_rfl)) (cfs_cons (cf_or (by rw [hP, hel, hgl]; exact aonce_ok) (by kernel_rfl)) cfs_nil)))
  have hq0 : CallQOk cx (acols_px (HV [.bool]) k) := callQT_ok rfl cqfs_nil
  have hlacols_0 : LoopOk cx (acols_px (HV [.bool]) k) (lp Tryd.f67 0) := loop_ok hp0 hc0 hq0 (by rw [hP]; exact follows) (k := k) (s := acols_0_sg) (step := acols_0) (fun _ _ => by kernel_rfl) (by kernel_rfl) (acols_0_eq _ k) (loops_in (n := 0) (by kernel_rfl) all0)
  exact ⟨hp0, hc0, hq0, (allS all0 hlacols_0)⟩
def colOk (c : Col) : Bool := decide (2 ≤ c.kind) && decide (c.kind ≤ 5) && (decide (c.ref = []) || lname c.ref)
def acols (l : List Col) : Option Bool := if l.length ≤ 1000000 then some (l.all colOk && asome (l.length : Int) && aonce (l.map (·.name))) else none
def acols_F : FT [.sl .col false] [.bool] := fun x => acols x
theorem acols_loop {R : Type} {kx : Ex → acols_0_V → Option R} {l : List Col} {c : Bool → Option R} (hn : l.length ≤ 1000000) (h1 : ∀ o i, kx .ret (l, false, o, l, (l.length : Int), i) = c false) (h2 : ∀ q o i, kx (.exit 0) (l, q, o, l, (l.length : Int), i) = cond (asome (l.length : Int)) (c (aonce o)) (c false)) (k : Nat) (hk : l.length < k) :
    iter (fun rec => acols_0 rec kx) k (l, false, [], l, (l.length : Int), 0) = c (l.all colOk && asome (l.length : Int) && aonce (l.map (·.name))) := by
  have hl : ln l.length := by simp only [ln]; omega
  refine (iter_ind0 l.length (fun i => (l, false, (l.take i).map (·.name), l, (l.length : Int), (i : Int))) (fun i => c ((l.drop i).all colOk && asome (l.length : Int) && aonce (l.map (·.name)))) (fun i hi rec hr => ?_) (fun rec => ?_) k 0 (Nat.zero_le _) (by omega)).trans (by rw [List.drop_zero])
  · have ht : (l.take (i + 1)).map (·.name) = (l.take i).map (·.name) ++ [l[i].name] := by
      rw [List.take_add_one, List.getElem?_eq_getElem hi, List.map_append]
      rfl
    have hlen : ((l.take i).map (·.name)).length + 1 ≤ maxApp := by simp only [List.length_map, List.length_take, maxApp]; omega
    rw [ht] at hr
    simp only [acols_0, lt_t hi, cond_t, inb_t hi, chk, at_nat (c := .col) hi, wr_succ hi hl, hr, h1, drop_cons hi, List.all_cons, colOk, decide_eq_true hlen]
    by_cases ha : l[i].kind < 2
    · rw [decide_eq_true ha, decide_eq_false (show ¬ 2 ≤ l[i].kind by omega)]
      rfl
    · rw [decide_eq_false ha, decide_eq_true (show 2 ≤ l[i].kind by omega)]
      by_cases hb : 5 < l[i].kind
      · rw [decide_eq_true hb, decide_eq_false (show ¬ l[i].kind ≤ 5 by omega)]
        rfl
      · rw [decide_eq_false hb, decide_eq_true (show l[i].kind ≤ 5 by omega)]
        cases decide (l[i].ref = []) <;> cases lname l[i].ref <;> rfl
  · simp only [acols_0, lt_n, cond_f, h2]
    rw [List.drop_eq_nil_of_le (Nat.le_refl _), List.take_length]
    cases asome (l.length : Int) <;> rfl
theorem acols_ok : FnOk Tryd.prog elT glT 67 [.sl .col false] [.bool] acols_F := .fin 0 acols_run fun l r hb hx => ⟨l.length + 1, by
  simp only [acols_F, acols] at hx
  split at hx
  · rename_i h
    rw [← hx]
    simp only [acols_body]
    refine acols_loop (l := l) (c := some) h (fun _ _ => rfl) (fun _ _ _ => ?_) (l.length + 1) (by omega)
    cases asome (l.length : Int) <;> rfl
  · cases hx⟩
/-! ## exchequer/ast.sets -/
def asets_0_sg : Sig := ⟨29, [(0, .sl .set false), (2, .bool), (3, .sl .str true), (6, .sl .set false), (7, .int .i64), (8, .int .i64)], [], [], 0, 0, 0, [], []⟩
abbrev asets_0_V := List SetE × Bool × List Str × List SetE × Int × Int
def asets_0 {R : Type} (rec : asets_0_V → Option R) (kx : Ex → asets_0_V → Option R) (v : asets_0_V) : Option R := match v with
 | (v, v1, v2, v3, v4, v5) =>
  cond (decide (v5 < v4)) (
   chk (inb v5 v3.length) (
    cond (!(eright (xeta ((at' .set v3 v5).e)) 30)) (
     kx .ret (v, false, v2, v3, v4, v5)) (
     chk (decide (v2.length + 1 ≤ maxApp)) (
      rec (v, v1, (v2 ++ [((at' .set v3 v5).name)]), v3, v4, (wr .i64 (v5 + 1))))))) (
   kx (.exit 0) (v, v1, v2, v3, v4, v5))
def asets_px (R : Type) (k : Nat) : Px R := ⟨ttOf ttL, glT, callT [(45, callOr [.sv .expr, .int .i64] [.bool] eright_F), (68, callOr [.int .i64] [.bool] asome_F), (69, callOr [.sl .str false] [.bool] aonce_F)], callQT [], loopT [(3, loopOr k asets_0_sg (asets_0))]⟩
theorem asets_0_eq (R : Type) (k : Nat) : ∀ (fr : List Fr) (rec : asets_0_V → Option R) (kx : Ex → asets_0_V → Option R) (v : asets_0_V), round (asets_px R k) asets_0_sg (lp Tryd.f72 0) fr rec kx v = asets_0 rec kx v
  | fr, rec, kx, (v, v1, v2, v3, v4, v5) => by kernel_rfl
def asets_body (k : Nat) (x : HV [.sl .set false]) : Option (HV [.bool]) := match x with
 | l =>
  iter (fun rec => asets_0 rec (fun e vz => match vz with | (v6, v7, v8, _, _, _) => match e with
   | .ret =>
    some v7
   | .exit 0 =>
    cond ((asome (v6.length : Int))) (
     some (aonce v8)) (
     some false)
   | _ => none)) k (l, false, [], l, (l.length : Int), 0)
theorem asets_eq (k : Nat) : ∀ (x : HV [.sl .set false]), runF (asets_px _ k) Tryd.f72 [.sl .set false] [.bool] x some = asets_body k x
  | l => by kernel_rfl
theorem asets_run (k : Nat) : FnOk Tryd.prog elT glT 72 [.sl .set false] [.bool] (asets_body k) := by
  refine fnOk_run Tryd.func72 rfl (by kernel_rfl) follows (by kernel_rfl) (n := 1) (by kernel_rfl) (px := asets_px _ k) (fun cx hP hel hgl => ?_) (asets_eq k)
  have hp0 : PxOk cx (asets_px (HV [.bool]) k) := ⟨fun t => by rw [hP, hel]; exact tt_ok ttL_ok t, by rw [hgl]; rfl⟩
  have hc0 : CallOk cx (asets_px (HV [.bool]) k) := callT_ok rfl (cfs_cons (cf_or (by rw [hP, hel, hgl]; exact eright_ok) (by kernel_rfl)) (cfs_cons (cf_or (by rw [hP, hel, hgl]; exact asome_ok) (by kernel_rfl)) (cfs_cons (cf_or (by rw [hP, hel, hgl]; exact aonce_ok) (by kernel_rfl)) cfs_nil)))
  have hq0 : CallQOk cx (asets_px (HV [.bool]) k) := callQT_ok rfl cqfs_nil
  have hlasets_0 : LoopOk cx (asets_px (HV [.bool]) k) (lp Tryd.f72 0) := loop_ok hp0 hc0 hq0 (by rw [hP]; exact follows) (k := k) (s := asets_0_sg) (step := asets_0) (fun _ _ => by kernel_rfl) (by kernel_rfl) (asets_0_eq _ k) (loops_in (n := 0) (by kernel_rfl) all0)
  exact ⟨hp0, hc0, hq0, (allS all0 hlasets_0)⟩
def asets (l : List SetE) : Option Bool := if l.length ≤ 1000000 then some (l.all (fun x => eright x.e 30) && asome (l.length : Int) && aonce (l.map (·.name))) else none
def asets_F : FT [.sl .set false] [.bool] := fun x => asets x
theorem asets_loop {R : Type} {kx : Ex → asets_0_V → Option R} {l : List SetE} {c : Bool → Option R} (hn : l.length ≤ 1000000) (h1 : ∀ o i, kx .ret (l, false, o, l, (l.length : Int), i) = c false) (h2 : ∀ q o i, kx (.exit 0) (l, q, o, l, (l.length : Int), i) = cond (asome (l.length : Int)) (c (aonce o)) (c false)) (k : Nat) (hk : l.length < k) :
    iter (fun rec => asets_0 rec kx) k (l, false, [], l, (l.length : Int), 0) = c (l.all (fun x => eright x.e 30) && asome (l.length : Int) && aonce (l.map (·.name))) := by
  have hl : ln l.length := by simp only [ln]; omega
  refine (iter_ind0 l.length (fun i => (l, false, (l.take i).map (·.name), l, (l.length : Int), (i : Int))) (fun i => c ((l.drop i).all (fun x => eright x.e 30) && asome (l.length : Int) && aonce (l.map (·.name)))) (fun i hi rec hr => ?_) (fun rec => ?_) k 0 (Nat.zero_le _) (by omega)).trans (by rw [List.drop_zero])
  · have ht : (l.take (i + 1)).map (·.name) = (l.take i).map (·.name) ++ [l[i].name] := by
      rw [List.take_add_one, List.getElem?_eq_getElem hi, List.map_append]
      rfl
    have hlen : ((l.take i).map (·.name)).length + 1 ≤ maxApp := by simp only [List.length_map, List.length_take, maxApp]; omega
    rw [ht] at hr
    simp only [asets_0, lt_t hi, cond_t, inb_t hi, chk, at_nat (c := .set) hi, wr_succ hi hl, hr, h1, drop_cons hi, List.all_cons, decide_eq_true hlen, xeta_eq]
    cases eright l[i].e 30 <;> rfl
  · simp only [asets_0, lt_n, cond_f, h2]
    rw [List.drop_eq_nil_of_le (Nat.le_refl _), List.take_length]
    cases asome (l.length : Int) <;> rfl
theorem asets_ok : FnOk Tryd.prog elT glT 72 [.sl .set false] [.bool] asets_F := .fin 0 asets_run fun l r hb hx => ⟨l.length + 1, by
  simp only [asets_F, asets] at hx
  split at hx
  · rename_i h
    rw [← hx]
    simp only [asets_body]
    refine asets_loop (l := l) (c := some) h (fun _ _ => rfl) (fun _ _ _ => ?_) (l.length + 1) (by omega)
    cases asome (l.length : Int) <;> rfl
  · cases hx⟩
/-! ## without what a kind has -/
def noX : Xpr := .mk 0 ⟨0, 0, []⟩ [] []
def noS : Stm := ⟨0, [], [], [], [], [], [], [], false, noX, [], [], 0⟩
/-! ## exchequer/ast.rest -/
def arest_px (R : Type) : Px R := ⟨ttOf ttL, glT, callT [], callQT [], loopT []⟩
def arest_body (x : HV [.sv .stmt]) : Option (HV [.sv .stmt]) := match x with
 | s =>
  cond (decide (s.kind = 1)) (
   some (Stm.mk 0 [] s.on [] [] [] s.rows s.sets s.has (xeta s.whr) s.order s.desc s.most)) (
   cond (decide (s.kind = 3)) (
    some (Stm.mk 0 [] [] s.cols [] s.l s.rows s.sets s.has (xeta s.whr) s.order s.desc s.most)) (
    cond (decide (s.kind = 5)) (
     some (Stm.mk 0 [] s.on s.cols s.names s.l [] s.sets s.has (xeta s.whr) s.order s.desc s.most)) (
     cond (decide (s.kind = 6)) (
      some (Stm.mk 0 [] s.on s.cols s.names s.l s.rows [] false (Xpr.mk 0 ⟨0, 0, []⟩ [] []) s.order s.desc s.most)) (
      cond (decide (s.kind = 7)) (
       some (Stm.mk 0 [] s.on s.cols s.names s.l s.rows s.sets false (Xpr.mk 0 ⟨0, 0, []⟩ [] []) s.order s.desc s.most)) (
       cond (decide (s.kind = 8)) (
        some (Stm.mk 0 [] s.on s.cols s.names [] s.rows s.sets false (Xpr.mk 0 ⟨0, 0, []⟩ [] []) [] [] 0)) (
        some (Stm.mk 0 [] s.on s.cols s.names s.l s.rows s.sets s.has (xeta s.whr) s.order s.desc s.most)))))))
theorem arest_eq : ∀ (x : HV [.sv .stmt]), runF (arest_px _) Tryd.f66 [.sv .stmt] [.sv .stmt] x some = arest_body x
  | s => by kernel_rfl
theorem arest_run : FnOk Tryd.prog elT glT 66 [.sv .stmt] [.sv .stmt] (arest_body) := by
  refine fnOk_run Tryd.func66 rfl (by kernel_rfl) follows (by kernel_rfl) (n := 0) (by kernel_rfl) (px := arest_px _) (fun cx hP hel hgl => ?_) (arest_eq)
  have hp0 : PxOk cx (arest_px (HV [.sv .stmt])) := ⟨fun t => by rw [hP, hel]; exact tt_ok ttL_ok t, by rw [hgl]; rfl⟩
  have hc0 : CallOk cx (arest_px (HV [.sv .stmt])) := callT_ok rfl cfs_nil
  have hq0 : CallQOk cx (arest_px (HV [.sv .stmt])) := callQT_ok rfl cqfs_nil
  exact ⟨hp0, hc0, hq0, all0⟩
def arest (s : Stm) : Stm :=
  if s.kind = 1 then { s with kind := 0, name := [], cols := [], names := [], l := [] }
  else if s.kind = 3 then { s with kind := 0, name := [], on := [], names := [] }
  else if s.kind = 5 then { s with kind := 0, name := [], rows := [] }
  else if s.kind = 6 then { s with kind := 0, name := [], sets := [], has := false, whr := noX }
  else if s.kind = 7 then { s with kind := 0, name := [], has := false, whr := noX }
  else if s.kind = 8 then { s with kind := 0, name := [], l := [], has := false, whr := noX, order := [], desc := [], most := 0 }
  else { s with kind := 0, name := [] }
def arest_F : FT [.sv .stmt] [.sv .stmt] := fun x => some (arest x)
theorem arest_ok : FnOk Tryd.prog elT glT 66 [.sv .stmt] [.sv .stmt] arest_F := .fin0 arest_run fun s r hb hx => by
  simp only [arest_F, Option.some.injEq] at hx
  rw [← hx]
  simp only [arest_body, arest, xeta_eq, Bool.cond_decide]
  split; · rfl
  split; · rfl
  split; · rfl
  split; · rfl
  split; · rfl
  split <;> rfl
/-! ## exchequer/ast.Check -/
def acheck_px (R : Type) : Px R := ⟨ttOf ttL, glT, callT [(12, callOr [.str] [.bool] lname_F), (66, callOr [.sv .stmt] [.sv .stmt] arest_F), (24, callOr [.sv .stmt, .sv .stmt] [.bool] astmts_F), (67, callOr [.sl .col false] [.bool] acols_F), (68, callOr [.int .i64] [.bool] asome_F), (69, callOr [.sl .str false] [.bool] aonce_F), (70, callOr [.sl .expr false] [.bool] aexprs_F), (71, callOr [.sl .exprs false] [.bool] arows_F), (72, callOr [.sl .set false] [.bool] asets_F), (73, callOr [.sv .stmt] [.bool] awhere_F)], callQT [], loopT []⟩
def acheck_body (x : HV [.sv .stmt]) : Option (HV [.int .i64]) := match x with
 | s =>
  let j7 := fun (p1 : Bool) =>
   cond (decide (s.kind = 1)) (
    let j1 := fun (p2 : Bool) =>
     let j := fun (p3 : Bool) =>
      cond (p3) (
       cond ((aonce s.names)) (
        cond (!(aexprs s.l)) (
         some 2) (
         some 0)) (
        some 2)) (
       some 2)
     cond (p2) (
      j (asome (s.names.length : Int))) (
      j false)
    cond (p1) (
     (acols s.cols).bind fun x =>
      j1 x) (
     j1 false)) (
    cond (decide (s.kind = 3)) (
     let j2 := fun (p7 : Bool) =>
      cond (p7) (
       cond ((asome (s.names.length : Int))) (
        cond (!(aonce s.names)) (
         some 2) (
         some 0)) (
        some 2)) (
       some 2)
     cond (p1) (
      j2 (lname s.on)) (
      j2 false)) (
     let j6 := fun (p11 : Bool) =>
      cond (p11) (
       cond (!p1) (
        some 2) (
        some 0)) (
       cond (decide (s.kind = 5)) (
        cond (p1) (
         cond (!(arows s.rows)) (
          some 2) (
          some 0)) (
         some 2)) (
        cond (decide (s.kind = 6)) (
         cond (p1) (
          (asets s.sets).bind fun x1 =>
           cond (x1) (
            cond (!(awhere s)) (
             some 2) (
             some 0)) (
            some 2)) (
          some 2)) (
         cond (decide (s.kind = 7)) (
          cond (p1) (
           cond (!(awhere s)) (
            some 2) (
            some 0)) (
           some 2)) (
          cond (decide (s.kind = 8)) (
           let j5 := fun (p17 : Bool) =>
            let j4 := fun (p18 : Bool) =>
             let j3 := fun (p19 : Bool) =>
              cond (p19) (
               cond (decide ((s.desc.length : Int) = (s.order.length : Int))) (
                cond (!(decide ((-1) ≤ s.most))) (
                 some 2) (
                 some 0)) (
                some 2)) (
               some 2)
             cond (p18) (
              j3 (aonce s.order)) (
              j3 false)
            cond (p17) (
             j4 (awhere s)) (
             j4 false)
           cond (p1) (
            j5 (aexprs s.l)) (
            j5 false)) (
           some 2)))))
     cond (decide (s.kind = 2)) (
      j6 (decide (s.kind = 2))) (
      j6 (decide (s.kind = 4)))))
  cond ((lname s.name)) (
   j7 (astmts (arest s) (Stm.mk 0 [] [] [] [] [] [] [] false (Xpr.mk 0 ⟨0, 0, []⟩ [] []) [] [] 0))) (
   j7 false)
theorem acheck_eq : ∀ (x : HV [.sv .stmt]), runF (acheck_px _) Tryd.f32 [.sv .stmt] [.int .i64] x some = acheck_body x
  | s => by kernel_rfl
theorem acheck_run : FnOk Tryd.prog elT glT 32 [.sv .stmt] [.int .i64] (acheck_body) := by
  refine fnOk_run Tryd.func32 rfl (by kernel_rfl) follows (by kernel_rfl) (n := 0) (by kernel_rfl) (px := acheck_px _) (fun cx hP hel hgl => ?_) (acheck_eq)
  have hp0 : PxOk cx (acheck_px (HV [.int .i64])) := ⟨fun t => by rw [hP, hel]; exact tt_ok ttL_ok t, by rw [hgl]; rfl⟩
  have hc0 : CallOk cx (acheck_px (HV [.int .i64])) := callT_ok rfl (cfs_cons (cf_or (by rw [hP, hel, hgl]; exact lname_ok) (by kernel_rfl)) (cfs_cons (cf_or (by rw [hP, hel, hgl]; exact arest_ok) (by kernel_rfl)) (cfs_cons (cf_or (by rw [hP, hel, hgl]; exact astmts_ok) (by kernel_rfl)) (cfs_cons (cf_or (by rw [hP, hel, hgl]; exact acols_ok) (by kernel_rfl)) (cfs_cons (cf_or (by rw [hP, hel, hgl]; exact asome_ok) (by kernel_rfl)) (cfs_cons (cf_or (by rw [hP, hel, hgl]; exact aonce_ok) (by kernel_rfl)) (cfs_cons (cf_or (by rw [hP, hel, hgl]; exact aexprs_ok) (by kernel_rfl)) (cfs_cons (cf_or (by rw [hP, hel, hgl]; exact arows_ok) (by kernel_rfl)) (cfs_cons (cf_or (by rw [hP, hel, hgl]; exact asets_ok) (by kernel_rfl)) (cfs_cons (cf_or (by rw [hP, hel, hgl]; exact awhere_ok) (by kernel_rfl)) cfs_nil))))))))))
  have hq0 : CallQOk cx (acheck_px (HV [.int .i64])) := callQT_ok rfl cqfs_nil
  exact ⟨hp0, hc0, hq0, all0⟩
def checkB (s : Stm) : Bool := lname s.name && decide (arest s = noS) && (
  if s.kind = 1 then s.cols.all colOk && asome (s.cols.length : Int) && aonce (s.cols.map (·.name)) && asome (s.names.length : Int) && aonce s.names && aexprs s.l
  else if s.kind = 3 then lname s.on && asome (s.names.length : Int) && aonce s.names
  else if s.kind = 2 ∨ s.kind = 4 then true
  else if s.kind = 5 then arows s.rows
  else if s.kind = 6 then s.sets.all (fun x => eright x.e 30) && asome (s.sets.length : Int) && aonce (s.sets.map (·.name)) && awhere s
  else if s.kind = 7 then awhere s
  else if s.kind = 8 then aexprs s.l && awhere s && aonce s.order && decide (s.desc.length = s.order.length) && decide (-1 ≤ s.most)
  else false)
def acheck (s : Stm) : Option Int := if s.cols.length ≤ 1000000 ∧ s.sets.length ≤ 1000000 then some (cond (checkB s) 0 2) else none
def acheck_F : FT [.sv .stmt] [.int .i64] := fun x => acheck x
theorem acheck_ok : FnOk Tryd.prog elT glT 32 [.sv .stmt] [.int .i64] acheck_F := .fin0 acheck_run fun s r hb hx => by
  simp only [acheck_F, acheck] at hx
  split at hx
  case isFalse => cases hx
  rename_i h
  rw [← hx]
  have e1 : acols s.cols = some (s.cols.all colOk && asome (s.cols.length : Int) && aonce (s.cols.map (·.name))) := if_pos h.1
  have e2 : asets s.sets = some (s.sets.all (fun x => eright x.e 30) && asome (s.sets.length : Int) && aonce (s.sets.map (·.name))) := if_pos h.2
  have e3 : astmts (arest s) (Stm.mk 0 [] [] [] [] [] [] [] false (Xpr.mk 0 ⟨0, 0, []⟩ [] []) [] [] 0) = decide (arest s = noS) := ssame_dec _ _
  have e4 : decide ((s.desc.length : Int) = (s.order.length : Int)) = decide (s.desc.length = s.order.length) := decide_eq_decide.2 (by omega)
  simp only [acheck_body, checkB, e1, e2, e3, e4, Option.bind_some]
  generalize lname s.name = A
  generalize decide (arest s = noS) = B
  generalize (s.cols.all colOk && asome (s.cols.length : Int) && aonce (s.cols.map (·.name))) = C
  generalize asome (s.names.length : Int) = D
  generalize aonce s.names = E
  generalize aexprs s.l = F
  generalize lname s.on = G
  generalize arows s.rows = H
  generalize (s.sets.all (fun x => eright x.e 30) && asome (s.sets.length : Int) && aonce (s.sets.map (·.name))) = I
  generalize awhere s = J
  generalize aonce s.order = K
  generalize decide (s.desc.length = s.order.length) = L
  generalize decide (-1 ≤ s.most) = M
  by_cases h1 : s.kind = 1
  · rw [decide_eq_true h1, if_pos h1]
    cases A <;> cases B <;> cases C <;> cases D <;> cases E <;> cases F <;> rfl
  rw [decide_eq_false h1, if_neg h1]
  by_cases h3 : s.kind = 3
  · rw [decide_eq_true h3, if_pos h3]
    cases A <;> cases B <;> cases G <;> cases D <;> cases E <;> rfl
  rw [decide_eq_false h3, if_neg h3]
  by_cases h24 : s.kind = 2 ∨ s.kind = 4
  · rw [if_pos h24]
    rcases h24 with h2 | h2
    · rw [decide_eq_true h2]
      cases A <;> cases B <;> rfl
    · rw [decide_eq_true h2, decide_eq_false (show ¬ s.kind = 2 by omega)]
      cases A <;> cases B <;> rfl
  rw [if_neg h24, decide_eq_false (show ¬ s.kind = 2 by omega), decide_eq_false (show ¬ s.kind = 4 by omega)]
  by_cases h5 : s.kind = 5
  · rw [decide_eq_true h5, if_pos h5]
    cases A <;> cases B <;> cases H <;> rfl
  rw [decide_eq_false h5, if_neg h5]
  by_cases h6 : s.kind = 6
  · rw [decide_eq_true h6, if_pos h6]
    cases A <;> cases B <;> cases I <;> cases J <;> rfl
  rw [decide_eq_false h6, if_neg h6]
  by_cases h7 : s.kind = 7
  · rw [decide_eq_true h7, if_pos h7]
    cases A <;> cases B <;> cases J <;> rfl
  rw [decide_eq_false h7, if_neg h7]
  by_cases h8 : s.kind = 8
  · rw [decide_eq_true h8, if_pos h8]
    cases A <;> cases B <;> cases F <;> cases J <;> cases K <;> cases L <;> cases M <;> rfl
  rw [decide_eq_false h8, if_neg h8]
  cases A <;> cases B <;> rfl
end Go.Proofs.YtjpcghlpkinahaaDoor

/- strings.Builder, as the program's writer has it: what its methods come to. -/
namespace Go.Proofs.YtjpcghlpkinahaaDoor
open Go.Ax Go.RowKit
def bldTs : List Nat := [84, 86]
abbrev bldT : TypeId := 84
theorem sizeBld : (Tryd.prog.info? bldT).map (·.size) = some 2 := by kernel_rfl
theorem liesBld (T : TypeId) (h : T ∈ bldTs) : liesAt Tryd.prog Tryd.prog.depth T (2 / Tryd.prog.cellsOf T) 0 bldT 1 = true := by
  simp only [bldTs, List.mem_cons, List.not_mem_nil, or_false] at h
  rcases h with rfl | rfl <;> kernel_rfl
set_option maxRecDepth 100000 in
theorem cc_used (b : Nat) (w : World) (h0 : w.cell? ⟨b, 0, none⟩ = some (.pointer (some ⟨b, 0, none⟩))) :
    Calls Tryd.prog 110 #[.pointer (some ⟨b, 0, none⟩)] w fun e w' => e = .returned (.tuple #[]) ∧ w' = w := by
  obtain ⟨j, hj, _⟩ := Option.map_eq_some_iff.1 sizeBld
  have mixed := follows
  have t1 := Tryd.underlying81
  have t2 := Tryd.underlying84
  have u1 := run_underlying (P := Tryd.prog) t1
  have u2 := run_underlying (P := Tryd.prog) t2
  go_enter Tryd.func110, Tryd.ntmps110
  go_wp2
  rw [Lib.run_neq_ptr_same w _ t1 hj]
  go_wp2
  go_end0
  exact ⟨rfl, rfl⟩
set_option maxRecDepth 100000 in
theorem cc_fresh (b : Nat) (T : TypeId) (hT : T ∈ bldTs) (w : World) (h0 : w.cell? ⟨b, 0, none⟩ = some (.pointer none)) (hsh : w.shape? b = some (T, 2)) (hfz : w.frozen? ⟨b, 0, none⟩ = false) :
    Calls Tryd.prog 110 #[.pointer (some ⟨b, 0, none⟩)] w fun e w' => e = .returned (.tuple #[]) ∧ w' = w.setCell ⟨b, 0, none⟩ (.pointer (some ⟨b, 0, none⟩)) := by
  obtain ⟨j, hj, hjs⟩ := Option.map_eq_some_iff.1 sizeBld
  have mixed := follows
  have t1 := Tryd.underlying81
  have t2 := Tryd.underlying84
  have t3 := Tryd.underlying149
  have u1 := run_underlying (P := Tryd.prog) t1
  have u2 := run_underlying (P := Tryd.prog) t2
  have u3 := run_underlying (P := Tryd.prog) t3
  go_enter Tryd.func110, Tryd.ntmps110
  go_wp2
  rw [Lib.run_to_unsafe w ⟨b, 0, none⟩ t1 t3 hj (by rw [hjs]; decide) hsh (Nat.zero_lt_succ 1)]
  simp only [Result.andThen]
  rw [Oper.upon_value]
  go_wp2
  rw [run_callFunc_extern Tryd.func118 (by kernel_rfl) (by kernel_rfl) (by kernel_rfl) (e := Extern.AbiNoEscape.same) (by kernel_rfl)]
  rw [Lib.run_noEscape]
  simp only [Result.andThen]
  rw [Oper.upon_value]
  go_wp2
  rw [Lib.run_from_unsafe w ⟨b, 0, none⟩ t3 t1 hj hsh (liesBld T hT)]
  simp only [Result.andThen]
  rw [Oper.upon_value]
  go_wp2
  go_end0
  exact ⟨rfl, rfl⟩
theorem cc_enters : Sx.Enters Tryd.prog 110 := Sx.enters_of Tryd.func110 rfl (by kernel_rfl)
theorem cc_ok : ∀ T, T ∈ bldTs → ∀ (b : Nat) (w : World) (a v : Value), w.heap[b]? = some (.cells #[a, v] T (0, 0)) → (a = .pointer none ∨ a = .pointer (some ⟨b, 0, none⟩)) → Calls Tryd.prog 110 #[.pointer (some ⟨b, 0, none⟩)] w fun e w' => e = .returned (.tuple #[]) ∧ (w' = w ∨ w' = w.setCell ⟨b, 0, none⟩ (.pointer (some ⟨b, 0, none⟩))) := by
  intro T hT b w a v hh ha
  have c0 : w.cell? ⟨b, 0, none⟩ = some a := by simp [World.cell?, hh]
  rcases ha with rfl | rfl
  · refine (cc_fresh b T hT w c0 (by simp [World.shape?, hh]) (by simp [World.frozen?, hh])).mono ?_
    rintro e w' ⟨rfl, rfl⟩
    exact ⟨rfl, .inr rfl⟩
  · refine (cc_used b w c0).mono ?_
    rintro e w' ⟨rfl, rfl⟩
    exact ⟨rfl, .inl rfl⟩
/-! ## String -/
theorem chg_freeze (w : World) (g n k : Nat) : Chg (fun b i => b = g ∧ k ≤ i) w (w.freeze ⟨g, 0, none⟩ n) := by
  unfold World.freeze
  split
  · exact Chg.refl _ _
  · have hne : ∀ (q : Nat), q ≠ g → ∀ F : Obj → Obj, (w.heap.modify g F)[q]? = w.heap[q]? := fun q hq F => by
      rw [Array.getElem?_modify, if_neg (Ne.symm hq)]
    refine ⟨rfl, rfl, rfl, by simp, fun q _ hq2 => hne q (fun e => hq2 k ⟨e, Nat.le_refl _⟩) _, fun b i v hv _ => ?_, fun b cs t f hb => ?_⟩
    · by_cases hbg : b = g
      · subst hbg
        unfold World.cell? at hv ⊢
        simp only [Array.getElem?_modify, if_true] at hv ⊢
        cases hh : w.heap[b]? with
        | none => rw [hh] at hv; cases hv
        | some o =>
          rw [hh] at hv
          cases o with
          | cells c e f => obtain ⟨lo, hi⟩ := f; exact hv
          | _ => cases hv
      · rw [World.cell?_of_block (a := ⟨b, i, none⟩) (hne b hbg _)]
        exact hv
    · by_cases hbg : b = g
      · subst hbg
        obtain ⟨lo, hi⟩ := f
        exact ⟨cs, _, by simp only [Array.getElem?_modify, if_true, hb]; rfl, rfl⟩
      · exact ⟨cs, f, by rw [hne b hbg]; exact hb, rfl⟩
theorem cellsByte : Tryd.prog.cellsOf 5 = 1 := by kernel_rfl
set_option maxHeartbeats 2000000 in
set_option maxRecDepth 100000 in
theorem str_some (b g cap n : Nat) (w : World) (s : ByteArray) (hcap : cap ≠ 0) (hc : w.cell? ⟨b, 1, none⟩ = some (.slice (some ⟨g, 0, none⟩) n cap)) (hUS : (Builtin.unsafeString_ #[129, 3] 9 #[.pointer (some ⟨g, 0, none⟩), .int .i64 n]).run Tryd.prog w.drew = .ok (.string s) (w.drew.freeze ⟨g, 0, none⟩ n)) :
    Calls Tryd.prog 47 #[.pointer (some ⟨b, 0, none⟩)] w fun e w' => e = .returned (.string s) ∧ w' = w.drew.freeze ⟨g, 0, none⟩ n := by
  have c1 : w.drew.cell? ⟨b, 1, none⟩ = some (.slice (some ⟨g, 0, none⟩) n cap) := hc
  have hSD : (Builtin.unsafeSliceData_ #[82] 129 #[.slice (some ⟨g, 0, none⟩) n cap]).run Tryd.prog w.drew = .ok (.pointer (some ⟨g, 0, none⟩)) w.drew := Lib.run_unsafeSliceData_row _ _ _ _ _ _ hcap
  clear hcap
  have mixed := follows
  have t1 := Tryd.underlying81
  have t2 := Tryd.underlying84
  have t3 := Tryd.underlying82
  have t4 := Tryd.underlying129
  have t5 := Tryd.underlying3
  have t6 := Tryd.underlying9
  have u1 := run_underlying (P := Tryd.prog) t1
  have u2 := run_underlying (P := Tryd.prog) t2
  have u3 := run_underlying (P := Tryd.prog) t3
  have u4 := run_underlying (P := Tryd.prog) t4
  have u5 := run_underlying (P := Tryd.prog) t5
  have u6 := run_underlying (P := Tryd.prog) t6
  go_enter Tryd.func47, Tryd.ntmps47
  go_wp2
  go_region_o
  all_goals (go_wp2; go_ret; exact ⟨rfl, rfl⟩)
theorem us_none (W : World) (q : Option Addr) : (Builtin.unsafeString_ #[129, 3] 9 #[.pointer q, .int .i64 0]).run Tryd.prog W = .ok (.string .empty) W := Lib.run_unsafeString_none W _ _ _ q
set_option maxHeartbeats 2000000 in
set_option maxRecDepth 100000 in
theorem str_nil (b : Nat) (w : World) (hc : w.cell? ⟨b, 1, none⟩ = some (.slice none 0 0)) :
    Calls Tryd.prog 47 #[.pointer (some ⟨b, 0, none⟩)] w fun e w' => e = .returned (.string ⟨#[]⟩) ∧ w' = w.drew := by
  have hUS := us_none
  have c1 : w.drew.cell? ⟨b, 1, none⟩ = some (.slice none 0 0) := hc
  have hSD : (Builtin.unsafeSliceData_ #[82] 129 #[.slice none 0 0]).run Tryd.prog w.drew = .ok (.pointer none) w.drew := rfl
  have mixed := follows
  have t1 := Tryd.underlying81
  have t2 := Tryd.underlying84
  have t3 := Tryd.underlying82
  have t4 := Tryd.underlying129
  have t5 := Tryd.underlying3
  have t6 := Tryd.underlying9
  have u1 := run_underlying (P := Tryd.prog) t1
  have u2 := run_underlying (P := Tryd.prog) t2
  have u3 := run_underlying (P := Tryd.prog) t3
  have u4 := run_underlying (P := Tryd.prog) t4
  have u5 := run_underlying (P := Tryd.prog) t5
  have u6 := run_underlying (P := Tryd.prog) t6
  go_enter Tryd.func47, Tryd.ntmps47
  go_wp2
  go_region_o
  all_goals (go_wp2; go_ret; exact ⟨rfl, rfl⟩)
set_option maxHeartbeats 2000000 in
set_option maxRecDepth 100000 in
theorem str_noroom (b g : Nat) (w : World) (cur : Array Value) (hlt : b < w.heap.size) (hc : w.cell? ⟨b, 1, none⟩ = some (.slice (some ⟨g, 0, none⟩) 0 0)) (hg : w.heap[g]? = some (.cells cur 5 (0, 0))) :
    Calls Tryd.prog 47 #[.pointer (some ⟨b, 0, none⟩)] w fun e w' => e = .returned (.string ⟨#[]⟩) ∧ Chg noFp w w' := by
  have hUS := us_none
  have c1 : w.drew.cell? ⟨b, 1, none⟩ = some (.slice (some ⟨g, 0, none⟩) 0 0) := hc
  have t4 := Tryd.underlying129
  have hSD : (Builtin.unsafeSliceData_ #[82] 129 #[.slice (some ⟨g, 0, none⟩) 0 0]).run Tryd.prog w.drew = .ok (.pointer (some ⟨w.drew.heap.size, 0, none⟩)) (w.drew.alloc (.view ⟨g, 0, none⟩ 5)) :=
    Lib.run_unsafeSliceData_zero w.drew _ _ 5 t4 ⟨g, 0, none⟩ 0 (5, cur.size) (by have hg' : w.drew.heap[g]? = some (.cells cur 5 (0, 0)) := hg; simp [World.shape?, hg'])
  have c2 : (w.drew.alloc (.view ⟨g, 0, none⟩ 5)).cell? ⟨b, 1, none⟩ = some (.slice (some ⟨g, 0, none⟩) 0 0) := by
    rw [World.cell?_of_block (a := ⟨b, 1, none⟩) (Below.heap_alloc w.drew _ _ hlt)]
    exact c1
  have c3 : (w.alloc (.view ⟨g, 0, none⟩ 5)).drew.cell? ⟨b, 1, none⟩ = some (.slice (some ⟨g, 0, none⟩) 0 0) := c2
  have c0 : w.cell? ⟨b, 1, none⟩ = some (.slice (some ⟨g, 0, none⟩) 0 0) := c1
  have mixed := follows
  have t1 := Tryd.underlying81
  have t2 := Tryd.underlying84
  have t3 := Tryd.underlying82
  have t5 := Tryd.underlying3
  have t6 := Tryd.underlying9
  have u1 := run_underlying (P := Tryd.prog) t1
  have u2 := run_underlying (P := Tryd.prog) t2
  have u3 := run_underlying (P := Tryd.prog) t3
  have u4 := run_underlying (P := Tryd.prog) t4
  have u5 := run_underlying (P := Tryd.prog) t5
  have u6 := run_underlying (P := Tryd.prog) t6
  go_enter Tryd.func47, Tryd.ntmps47
  go_wp2
  go_region_o
  all_goals (go_wp2; go_ret; exact ⟨rfl, (Chg.drew noFp w).trans (Chg.alloc noFp w.drew _)⟩)
/-! ## what is left behind a call that keeps no block -/
theorem rel_end {cx : Cx} {m : Mp} {a : Act} {rs : List Act} {st : St} {w w' : World} (hr : Rel cx m a rs (fs st) w) (hch : Chg (fpOf m (fs st)) w w') {d : D} {v : Value} (hd : Rep (vx cx m (fs { st with n := 1, env := [(0, d)], bl := [], tk := [] }) w') d v) : Rel cx m ⟨#[v], []⟩ rs (fs { st with n := 1, env := [(0, d)], bl := [], tk := [] }) w' := by
  have hnf : ∀ b i, ¬ fpOf m (fs { st with n := 1, env := [(0, d)], bl := [], tk := [] }) b i := by
    rintro b i (⟨q, hq, _⟩ | ⟨t, o, h1, _, _⟩)
    · exact hq rfl
    · simp [fs] at h1
  have nx : Nx (vx cx m (fs st) w) (vx cx m (fs { st with n := 1, env := [(0, d)], bl := [], tk := [] }) w') := by
    refine ⟨hch.mono fun b i hi => .inr hi, ?_, rfl, fun _ _ => rfl, Nat.le_refl _, Nat.le_refl _, fun t _ ha => ?_⟩
    · rintro b i (h | h)
      · exact .inl (.inl h)
      · exact absurd h (hnf b i)
    · simp [vx, fs] at ha
  have h1 : Rel cx m a rs { fs st with bl := fun _ => none, al := fun _ => False } w' := by
    refine hr.step (s' := { fs st with bl := fun _ => none, al := fun _ => False }) rfl rfl rfl rfl rfl hch ?_ (fun b k hk => by cases hk) (fun t ht => ht.elim) (fun b b' h => absurd rfl h) (fun t t' g o o' h => h.elim) (fun b t g o h => absurd rfl h) (fun b i hi => ?_)
    · refine ⟨hch.mono fun b i hi => .inr hi, ?_, rfl, fun _ _ => rfl, Nat.le_refl _, Nat.le_refl _, fun t _ ha => ha.elim⟩
      rintro b i (h | ⟨q, hq, _⟩ | ⟨t, o, h1, _, _⟩)
      · exact .inl (.inl h)
      · exact absurd rfl hq
      · exact h1.elim
    · rcases hi with ⟨q, hq, _⟩ | ⟨t, o, h1, _, _⟩
      · exact absurd rfl hq
      · exact h1.elim
  have hal : (fs { st with n := 1, env := [(0, d)], bl := [], tk := [] }).al = fun _ => False := by
    funext t; simp [fs]
  have e : fs { st with n := 1, env := [(0, d)], bl := [], tk := [] } = { (fs { st with n := 1, env := [(0, d)], bl := [], tk := [] }) with al := fun _ => False } := by
    rw [← hal]
  rw [e] at hd ⊢
  refine ⟨h1.chg, ⟨rfl, rfl, fun k d' hk => ?_⟩, h1.frs, h1.lb, h1.lt, h1.blks, h1.als, h1.inj, h1.injt, h1.injbt, h1.own, h1.away, h1.glb⟩
  have hk : get [(0, d)] k = some d' := hk
  rw [get_cons] at hk
  by_cases h0 : k = 0
  · subst h0
    simp only [if_true, Option.some.injEq] at hk
    subst hk
    exact ⟨v, rfl, hd⟩
  · rw [if_neg h0] at hk
    cases hk
abbrev wT : TypeId := 86
def bstr_si : Sig := ⟨1, [], [(0, .ptr 0 0)], [(0, .bld wT)], 1, 1, 0, [], []⟩
def bstr_so : Sig := ⟨1, [(0, .str)], [], [], 1, 1, 0, [], []⟩
abbrev bstr_I := List UInt8
abbrev bstr_O := Str
def bstr_F : bstr_I → Option bstr_O := fun x => some x
theorem bstr_ok : FnLn Tryd.prog elT glT 47 bstr_si bstr_so bstr_F := by
  refine ⟨Sx.enters_of Tryd.func47 rfl (by kernel_rfl), fun (l : List UInt8) r hx _ cx m vs af w h1 h2 h3 hr => ?_⟩
  obtain rfl : l = r := Option.some.inj hx
  obtain ⟨_, hb⟩ := hr.blks 0 (.bld wT (.sl .byte l (.id 0))) rfl
  obtain ⟨_, a, v, hh, ha, hrep⟩ := hb
  obtain ⟨u, hu, hup⟩ := hr.env.get 0 (.ptr 0 0) rfl
  have hsz : vs.toArray.size = 1 := hr.env.size
  have hvs : vs = [u] := by
    match vs, hsz, hu with
    | [y], _, hu => simpa using hu
  subst hvs
  simp only [Rep] at hup hrep
  obtain ⟨_, rfl⟩ := hup
  obtain ⟨hrf, _, htk⟩ := hrep
  have htk := htk (show (fs (encSt bstr_si [keepF bstr_si] l)).al 0 by simp [fs, encSt, bstr_si, Sig.sgs, zipE, owns, Bs.sgs, owSg])
  have hh : w.heap[m.bl 0]? = some (.cells #[a, v] wT (0, 0)) := hh
  have hblt : m.bl 0 < w.heap.size := (Array.getElem?_eq_some_iff.1 hh).1
  have hlen : l.length ≤ maxLen := hrf.here.len
  have c1 : w.cell? ⟨m.bl 0, 1, none⟩ = some v := by simp [World.cell?, hh]
  have done : (Calls Tryd.prog 47 #[.pointer (some ⟨m.bl 0, 0, none⟩)] w fun e w' => e = .returned (.string ⟨l.toArray⟩) ∧ Chg (fpOf m (fs (encSt bstr_si [keepF bstr_si] l))) w w') → Calls Tryd.prog 47 ([.pointer (some ⟨m.bl 0, 0, none⟩)] : List Value).toArray w fun en w' => ∃ us st' m', en = .returned (Sx.resv us) ∧ (∀ k, (bstr_si.bl.map (·.1)).contains k = true → m'.bl k = m.bl k) ∧ decSt bstr_so st' = some l ∧ Rel cx m' ⟨us.toArray, []⟩ [af] (fs st') w' := fun hc => by
    refine hc.mono ?_
    rintro e w' ⟨rfl, hch⟩
    exact ⟨[.string ⟨l.toArray⟩], { encSt bstr_si [keepF bstr_si] l with n := 1, env := [(0, .str l)], bl := [], tk := [] }, m, rfl, fun _ _ => rfl, rfl, rel_end hr hch (by simp only [Rep]; exact ⟨trivial, hlen⟩)⟩
  refine done ?_
  rcases htk with ⟨rfl, _, rfl⟩ | ⟨g, cap, cur, rfl, ht, hg, hcs, hle, hcm⟩
  · refine (str_nil (m.bl 0) w c1).mono ?_
    rintro e w' ⟨rfl, rfl⟩
    exact ⟨rfl, Chg.drew _ w⟩
  · have ht : m.tk 0 = some (g, l.length * 1) := ht
    have hel : (vx cx m (fs (encSt bstr_si [keepF bstr_si] l)) w).el .byte = 5 := by
      show cx.el .byte = _
      rw [h2]; rfl
    rw [hel] at hg
    have hg : w.heap[g]? = some (.cells cur 5 (0, 0)) := hg
    have hcs : cur.size = cap * 1 := hcs
    by_cases hl0 : l = []
    · subst hl0
      by_cases hc0 : cap = 0
      · subst hc0
        refine (str_noroom (m.bl 0) g w cur hblt c1 hg).mono ?_
        rintro e w' ⟨rfl, hch⟩
        exact ⟨rfl, hch.mono fun _ _ h => h.elim⟩
      · refine (str_some (m.bl 0) g cap 0 w .empty hc0 c1 (us_none _ _)).mono ?_
        rintro e w' ⟨rfl, rfl⟩
        exact ⟨rfl, Chg.drew _ w⟩
    · have hcells : ∀ (j : Nat) x, l[j]? = some x → w.cell? ⟨g, j, none⟩ = some (.int .u8 x.toNat) := fun j x hj => by
        obtain ⟨a', cap', e1, h | ⟨b0, o0, e2, _, h4⟩⟩ := hrf.here.slice
        · exact absurd h hl0
        · simp only [Value.slice.injEq] at e1
          rw [e2] at e1
          simp only [Option.some.injEq, Addr.mk.injEq] at e1
          obtain ⟨⟨rfl, rfl, _⟩, _⟩ := e1
          obtain ⟨u, hu, hf⟩ := h4 j x hj 0 _ rfl
          have e3 : 0 + j * csz .byte + 0 = j := by simp [csz]
          rw [e3] at hu
          cases hf
          exact hu
      have hn0 : l.length ≠ 0 := fun e => hl0 (List.eq_nil_of_length_eq_zero e)
      have hUS := Lib.run_unsafeString_row w.drew 129 3 9 5 Tryd.underlying129 cellsByte g cur.size (by have hg' : w.drew.heap[g]? = some (.cells cur 5 (0, 0)) := hg; simp [World.shape?, hg']) l hl0 (by omega) (by unfold maxLen at hcm; omega) (fun j x hj => by
        have e : (⟨g, 0, none⟩ : Addr).add j = ⟨g, j, none⟩ := by
          unfold Addr.add
          by_cases hj0 : j = 0
          · subst hj0; simp
          · simp [hj0]
        rw [e]
        exact hcells j x hj)
      refine (str_some (m.bl 0) g cap l.length w ⟨l.toArray⟩ (by omega) c1 hUS).mono ?_
      rintro e w' ⟨rfl, rfl⟩
      refine ⟨rfl, (Chg.drew _ w).trans ((chg_freeze w.drew g l.length (l.length * 1)).mono fun b i hi => ?_)⟩
      obtain ⟨rfl, hi⟩ := hi
      exact .inr ⟨0, l.length * 1, by simp [fs, encSt, bstr_si, Sig.sgs, zipE, owns, Bs.sgs, owSg], ht, hi⟩
/-! ## (*strings.Builder).WriteString -/
def bwrite_si : Sig := ⟨2, [(1, .str)], [(0, .ptr 0 0)], [(0, .bld 86)], 1, 1, 0, [], []⟩
def bwrite_so : Sig := ⟨2, [], [], [(0, .bld 86)], 1, 1, 0, [], []⟩
abbrev bwrite_I := Str × List UInt8
abbrev bwrite_O := List UInt8
def bwrite_px (R : Type) : Px R := ⟨ttOf ttL, glT, callT [(110, callCC bldTs)], callQT [], loopT []⟩
def bwrite_body (x : bwrite_I) : Option (bwrite_O) := match x with
 | (s, out) =>
  chk (decide (out.length + s.length ≤ maxApp)) (
   some (out ++ s))
theorem bwrite_eq : ∀ (x : bwrite_I), runLn (bwrite_px _) Tryd.f92 bwrite_si bwrite_so x some = bwrite_body x
  | (s, out) => by kernel_rfl
theorem bwrite_run : FnLn Tryd.prog elT glT 92 bwrite_si bwrite_so (bwrite_body) := by
  refine fnLn_run Tryd.func92 rfl (by kernel_rfl) follows (by kernel_rfl) (n := 0) (by kernel_rfl) (px := bwrite_px _) (fun cx hP hel hgl => ?_) (bwrite_eq)
  have hp0 : PxOk cx (bwrite_px (bwrite_O)) := ⟨fun t => by rw [hP, hel]; exact tt_ok ttL_ok t, by rw [hgl]; rfl⟩
  have hc0 : CallOk cx (bwrite_px (bwrite_O)) := callT_ok rfl (cfs_cons (cf_cc (by rw [hP]; exact cc_enters) (by rw [hP]; exact cc_ok)) cfs_nil)
  have hq0 : CallQOk cx (bwrite_px (bwrite_O)) := callQT_ok rfl cqfs_nil
  exact ⟨hp0, hc0, hq0, all0⟩
def bwrite (s out : Str) : Option Str := if out.length + s.length ≤ maxApp then some (out ++ s) else none
def bwrite_F : bwrite_I → Option bwrite_O := fun x => bwrite x.1 x.2
theorem bwrite_ok : FnLn Tryd.prog elT glT 92 bwrite_si bwrite_so bwrite_F := .fin0 bwrite_run fun (s, out) r hb hx => by
  simp only [bwrite_F, bwrite] at hx
  split at hx
  · rename_i h
    simp only [bwrite_body]
    rw [decide_eq_true h]
    exact hx
  · cases hx
end Go.Proofs.YtjpcghlpkinahaaDoor

/- The library's facts behind Lays.n156 at this seat's program. -/
namespace Go.Proofs
open Go.Shelf
def Tryd.laysRJ_ren : Go.Shelf.Ren := ⟨fun | 156 => 93 | 165 => 101 | 166 => 92 | 169 => 47 | 240 => 110 | 241 => 114 | 276 => 118 | 277 => 119 | n => n, fun | 0 => 0 | 3 => 3 | 4 => 4 | 5 => 5 | 9 => 9 | 20 => 20 | 31 => 23 | 37 => 82 | 70 => 81 | 72 => 84 | 75 => 132 | 76 => 133 | 80 => 88 | 127 => 129 | 164 => 149 | n => n, fun n => n⟩
theorem Tryd.laysRJ : Go.Proofs.Lays.n156 Tryd.prog Tryd.laysRJ_ren := {
  mixed := by kernel_rfl
  f156 := Tryd.func93.trans (congrArg some (by kernel_rfl))
  f165 := Tryd.func101.trans (congrArg some (by kernel_rfl))
  f166 := Tryd.func92.trans (congrArg some (by kernel_rfl))
  f169 := Tryd.func47.trans (congrArg some (by kernel_rfl))
  f240 := Tryd.func110.trans (congrArg some (by kernel_rfl))
  f241 := Tryd.func114.trans (congrArg some (by kernel_rfl))
  f276 := Tryd.func118.trans (congrArg some (by kernel_rfl))
  f277 := Tryd.func119.trans (congrArg some (by kernel_rfl))
  t0 := Tryd.underlying0
  a0 := Tryd.isAgg0
  z0 := Tryd.sizeOf0
  v0 := Tryd.zeroValue0
  t3 := Tryd.underlying3
  a3 := Tryd.isAgg3
  z3 := Tryd.sizeOf3
  v3 := Tryd.zeroValue3
  t4 := Tryd.underlying4
  a4 := Tryd.isAgg4
  z4 := Tryd.sizeOf4
  v4 := Tryd.zeroValue4
  t9 := Tryd.underlying9
  a9 := Tryd.isAgg9
  z9 := Tryd.sizeOf9
  v9 := Tryd.zeroValue9
  t20 := Tryd.underlying20
  a20 := Tryd.isAgg20
  z20 := Tryd.sizeOf20
  v20 := Tryd.zeroValue20
  t31 := Tryd.underlying23
  a31 := Tryd.isAgg23
  z31 := Tryd.sizeOf23
  v31 := Tryd.zeroValue23
  t37 := Tryd.underlying82
  a37 := Tryd.isAgg82
  z37 := Tryd.sizeOf82
  v37 := Tryd.zeroValue82
  t70 := Tryd.underlying81
  a70 := Tryd.isAgg81
  z70 := Tryd.sizeOf81
  v70 := Tryd.zeroValue81
  t72 := Tryd.underlying84
  a72 := Tryd.isAgg84
  z72 := Tryd.sizeOf84
  v72 := Tryd.zeroValue84
  t75 := Tryd.underlying132
  a75 := Tryd.isAgg132
  z75 := Tryd.sizeOf132
  v75 := Tryd.zeroValue132
  t76 := Tryd.underlying133
  a76 := Tryd.isAgg133
  z76 := Tryd.sizeOf133
  v76 := Tryd.zeroValue133
  t127 := Tryd.underlying129
  a127 := Tryd.isAgg129
  z127 := Tryd.sizeOf129
  v127 := Tryd.zeroValue129
  t164 := Tryd.underlying149
  a164 := Tryd.isAgg149
  z164 := Tryd.sizeOf149
  v164 := Tryd.zeroValue149 }
theorem Tryd.extraRJ : Builder.Extra Tryd.prog Tryd.laysRJ_ren := {
  sizeBuilder := by kernel_rfl
  liesBuilder := by kernel_rfl
  t5 := Tryd.underlying5
  a5 := Tryd.isAgg5
  z5 := Tryd.sizeOf5
  v5 := Tryd.zeroValue5
  infoByte := by kernel_rfl
  cellsByte := by kernel_rfl
  sizeByte := by kernel_rfl
  neB5 := by decide }
end Go.Proofs

/- strings.Join, by the library's contract. -/
namespace Go.Proofs.YtjpcghlpkinahaaDoor
open Go.Ax Go.RowKit
def sjoin (l : List Str) (sep : Str) : Option Str := if l.length ≤ 1000000 ∧ (Lib.join l sep).length ≤ 1000000000 then some (Lib.join l sep) else none
def sjoin_F : FT [.sl .str false, .str] [.str] := fun x => sjoin x.1 x.2
theorem sjoin_ok : FnOk Tryd.prog elT glT 93 [.sl .str false, .str] [.str] sjoin_F := by
  refine ⟨Sx.enters_of Tryd.func93 rfl (by kernel_rfl), fun x r hx w M vs hM hgl hr => ?_⟩
  obtain ⟨l, sep⟩ := x
  simp only [sjoin_F, sjoin] at hx
  split at hx
  case isFalse => cases hx
  rename_i hc
  obtain ⟨h1, h2⟩ := hc
  obtain rfl := Option.some.inj hx
  simp only [encL, enc1, Reps, Rep] at hr
  obtain ⟨u, us, rfl, ⟨hrf, _⟩, u2, us2, rfl, ⟨rfl, _⟩, rfl⟩ := hr
  have key : Calls Tryd.prog 93 #[u, .string ⟨sep.toArray⟩] w fun e w' => e = .returned (.string ⟨(Lib.join l sep).toArray⟩) ∧ Below w.heap.size w w' := by
    obtain ⟨a, cap, rfl, h⟩ := hrf.here.slice
    rcases h with rfl | ⟨b, o, rfl, ⟨hle, hcm⟩, hat⟩
    · have c := Any.strings_Join_none Tryd.laysRJ Tryd.extraRJ a cap ⟨sep.toArray⟩ w
      refine Calls.mono (show Calls Tryd.prog 93 _ w _ from c) ?_
      rintro e w' ⟨rfl, rfl⟩
      exact ⟨rfl, Below.refl _ _⟩
    · by_cases hl : l = []
      · subst hl
        have c := Any.strings_Join_none Tryd.laysRJ Tryd.extraRJ (some ⟨b, o, none⟩) cap ⟨sep.toArray⟩ w
        refine Calls.mono (show Calls Tryd.prog 93 _ w _ from c) ?_
        rintro e w' ⟨rfl, rfl⟩
        exact ⟨rfl, Below.refl _ _⟩
      · have hcell : ∀ (j : Nat) x, l[j]? = some x → w.cell? ⟨b, o + j, none⟩ = some (.string ⟨x.toArray⟩) := fun j x hj => by
          obtain ⟨u, hu, hf⟩ := hat j x hj 0 _ rfl
          have e3 : o + j * csz .str + 0 = o + j := by simp [csz]
          rw [e3] at hu
          cases hf
          exact hu
        have hb : b < w.heap.size := by
          cases l with
          | nil => exact absurd rfl hl
          | cons x l => exact cell_lt (hcell 0 x rfl)
        have em : (l.map fun s => (⟨s.toArray⟩ : ByteArray)).map (·.data.toList) = l := by
          rw [List.map_map]
          simp [Function.comp_def]
        have es : (⟨sep.toArray⟩ : ByteArray).data.toList = sep := by simp
        have c := Any.strings_Join Tryd.laysRJ Tryd.extraRJ b o cap (l.map fun s => ⟨s.toArray⟩) ⟨sep.toArray⟩ w (fun j x hj => by
          rw [List.getElem?_map] at hj
          obtain ⟨y, hy, rfl⟩ := Option.map_eq_some_iff.1 hj
          exact hcell j y hy) hb (by rw [List.length_map]; omega) (by rw [List.length_map]; exact hle) (by rw [em, es]; omega)
        rw [em, es, List.length_map] at c
        exact c
  refine key.mono ?_
  rintro en w' ⟨rfl, hbel⟩
  refine ⟨_, ⟨fun _ => 0, fun _ => Option.none⟩, rfl, Chg.of_below hbel, fun p g o hp => (by simp [owns] at hp), fun p q g o o2 hp => (by simp [owns] at hp), ?_⟩
  simp only [pack, encL, enc1, Rep]
  exact ⟨trivial, by simp only [maxLen]; omega⟩
end Go.Proofs.YtjpcghlpkinahaaDoor

/- The program's writer of statements: what it appends. -/
namespace Go.Proofs.YtjpcghlpkinahaaDoor
open Go.Ax
/-! ## a text more -/
def app (out t : Str) : Option Str := if out.length + t.length ≤ 100000000000 then some (out ++ t) else none
theorem app_app (out a b : Str) : ((app out a).bind fun x => app x b) = app out (a ++ b) := by
  simp only [app, List.length_append]
  by_cases h1 : out.length + a.length ≤ 100000000000
  · rw [if_pos h1, Option.bind_some]
    simp only [List.length_append, List.append_assoc, Nat.add_assoc]
  · rw [if_neg h1, if_neg (by omega)]
    rfl
theorem app_cont {R : Type} (out a b : Str) (c : Str → Option R) : ((app out a).bind fun x => (app x b).bind c) = (app out (a ++ b)).bind c := by
  rw [← app_app, Option.bind_assoc]
theorem app_one {o : Option Str} : (o.bind fun x => some x) = o := by cases o <;> rfl
theorem app_nil {out : Str} (h : out.length ≤ 100000000000) : app out [] = some out := by
  simp only [app, List.length_nil, Nat.add_zero, List.append_nil]
  rw [if_pos h]
theorem app_le {out t r : Str} (h : app out t = some r) : r.length ≤ 100000000000 ∧ r = out ++ t := by
  simp only [app] at h
  split at h
  · rename_i h1
    obtain rfl := Option.some.inj h
    exact ⟨by rw [List.length_append]; exact h1, rfl⟩
  · cases h
theorem app_len {out t r : Str} (h : app out t = some r) : out.length + t.length ≤ 100000000000 := by
  simp only [app] at h
  split at h
  · rename_i h1; exact h1
  · cases h
theorem app_some {out t : Str} (h : out.length + t.length ≤ 100000000000) : app out t = some (out ++ t) := if_pos h
/-! ## lists with a comma between -/
def tailT {α : Type} (f : α → Str) : List α → Str
  | [] => []
  | x :: l => [44, 32] ++ f x ++ tailT f l
def listT {α : Type} (f : α → Str) : List α → Str
  | [] => []
  | x :: l => f x ++ tailT f l
theorem list_loop {V R α : Type} {step : (V → Option R) → V → Option R} (l : List α) (f : α → Str) (st : Nat → Str → V) (c : Str → Option R)
    (hs : ∀ i (hi : i < l.length) (acc : Str) rec, step rec (st i acc) = (app acc ((if i = 0 then [] else [44, 32]) ++ f l[i])).bind fun x => rec (st (i + 1) x))
    (he : ∀ acc rec, step rec (st l.length acc) = c acc) (k : Nat) (hk : l.length < k) (out : Str) (ho : out.length ≤ 100000000000) : iter step k (st 0 out) = (app out (listT f l)).bind c := by
  refine (iter_ind l.length st (fun _ acc => acc.length ≤ 100000000000) (fun i acc => (app acc (if i = 0 then listT f (l.drop i) else tailT f (l.drop i))).bind c) (fun i hi acc ha rec hr => ?_) (fun acc ha rec => ?_) k 0 out (Nat.zero_le _) (by omega) ho).trans (by rw [if_pos rfl, List.drop_zero])
  · rw [hs i hi acc rec]
    have hd : (if i = 0 then listT f (l.drop i) else tailT f (l.drop i)) = ((if i = 0 then [] else [44, 32]) ++ f l[i]) ++ tailT f (l.drop (i + 1)) := by
      rw [drop_cons hi]
      split <;> simp [listT, tailT]
    rw [hd, ← app_cont acc ((if i = 0 then [] else [44, 32]) ++ f l[i]) (tailT f (l.drop (i + 1))) c]
    cases hx : app acc ((if i = 0 then [] else [44, 32]) ++ f l[i]) with
    | none => rfl
    | some x =>
      rw [Option.bind_some, Option.bind_some, hr x (app_le hx).1, if_neg (by omega)]
  · rw [he]
    have : (if l.length = 0 then listT f (l.drop l.length) else tailT f (l.drop l.length)) = [] := by
      rw [List.drop_length]
      split <;> rfl
    rw [this, app_nil ha]
    rfl
/-! ## words -/
/-! ## (*exchequer/ast.writer).words -/
def wwords_si : Sig := ⟨2, [(1, .sl .str false)], [(0, .ptr 0 0)], [(0, .bld 86)], 1, 1, 0, [], []⟩
def wwords_so : Sig := ⟨0, [], [], [(0, .bld 86)], 1, 1, 0, [], []⟩
abbrev wwords_I := List Str × List UInt8
abbrev wwords_O := List UInt8
def wwords_0_sg : Sig := ⟨18, [(6, .sl .str false), (7, .int .i64), (8, .int .i64)], [(0, .ptr 0 0)], [(0, .bld 86)], 1, 1, 0, [], []⟩
abbrev wwords_0_V := List Str × Int × Int × List UInt8
def wwords_0 {R : Type} (rec : wwords_0_V → Option R) (kx : Ex → wwords_0_V → Option R) (v : wwords_0_V) : Option R := match v with
 | (v, v1, v2, w) =>
  cond (decide (v2 < v1)) (
   chk (inb v2 v.length) (
    (bwrite_F ((at' .str v v2), w)).bind fun x =>
     rec (v, v1, (wr .i64 (v2 + 1)), x))) (
   kx (.exit 0) (v, v1, v2, w))
def wwords_px (R : Type) (k : Nat) : Px R := ⟨ttOf ttL, glT, callT [(92, callLn bwrite_si bwrite_so bwrite_F)], callQT [], loopT [(1, loopOr k wwords_0_sg (wwords_0))]⟩
theorem wwords_0_eq (R : Type) (k : Nat) : ∀ (fr : List Fr) (rec : wwords_0_V → Option R) (kx : Ex → wwords_0_V → Option R) (v : wwords_0_V), round (wwords_px R k) wwords_0_sg (lp Tryd.f49 0) fr rec kx v = wwords_0 rec kx v
  | fr, rec, kx, (v, v1, v2, w) => by kernel_rfl
def wwords_body (k : Nat) (x : wwords_I) : Option (wwords_O) := match x with
 | (l, out) =>
  iter (fun rec => wwords_0 rec (fun e vz => match vz with | (_, _, _, v6) => match e with
   | .exit 0 =>
    some v6
   | _ => none)) k (l, (l.length : Int), 0, out)
theorem wwords_eq (k : Nat) : ∀ (x : wwords_I), runLn (wwords_px _ k) Tryd.f49 wwords_si wwords_so x some = wwords_body k x
  | (l, out) => by kernel_rfl
theorem wwords_run (k : Nat) : FnLn Tryd.prog elT glT 49 wwords_si wwords_so (wwords_body k) := by
  refine fnLn_run Tryd.func49 rfl (by kernel_rfl) follows (by kernel_rfl) (n := 1) (by kernel_rfl) (px := wwords_px _ k) (fun cx hP hel hgl => ?_) (wwords_eq k)
  have hp0 : PxOk cx (wwords_px (wwords_O) k) := ⟨fun t => by rw [hP, hel]; exact tt_ok ttL_ok t, by rw [hgl]; rfl⟩
  have hc0 : CallOk cx (wwords_px (wwords_O) k) := callT_ok rfl (cfs_cons (cf_ln (by rw [hP, hel, hgl]; exact bwrite_ok) (by kernel_rfl)) cfs_nil)
  have hq0 : CallQOk cx (wwords_px (wwords_O) k) := callQT_ok rfl cqfs_nil
  have hlwwords_0 : LoopOk cx (wwords_px (wwords_O) k) (lp Tryd.f49 0) := loop_ok hp0 hc0 hq0 (by rw [hP]; exact follows) (k := k) (s := wwords_0_sg) (step := wwords_0) (fun _ _ => by kernel_rfl) (by kernel_rfl) (wwords_0_eq _ k) (loops_in (n := 0) (by kernel_rfl) all0)
  exact ⟨hp0, hc0, hq0, (allS all0 hlwwords_0)⟩
def wwords (l : List Str) (out : Str) : Option Str := app out l.flatten
def wwords_F : wwords_I → Option wwords_O := fun x => wwords x.1 x.2
theorem bwrite_app (s out : Str) : ∀ r, app out s = some r → bwrite s out = some r := fun r h => by
  simp only [bwrite]
  simp only [app] at h
  split at h
  · rename_i h1
    rw [if_pos (by simp only [maxApp]; omega)]
    exact h
  · cases h
theorem wwords_loop {R : Type} {kx : Ex → wwords_0_V → Option R} {l : List Str} {c : Str → Option R} (hn : ln l.length) (h2 : ∀ i out, kx (.exit 0) (l, (l.length : Int), i, out) = c out) (k : Nat) (hk : l.length < k) (out : Str) (ho : out.length + l.flatten.length ≤ 100000000000) :
    iter (fun rec => wwords_0 rec kx) k (l, (l.length : Int), 0, out) = c (out ++ l.flatten) := by
  refine (iter_ind l.length (fun i out => (l, (l.length : Int), (i : Int), out)) (fun i out => List.length out + ((l.drop i).flatten).length ≤ 100000000000) (fun i out => c (out ++ (l.drop i).flatten)) (fun i hi out ha rec hr => ?_) (fun out _ rec => ?_) k 0 out (Nat.zero_le _) (by omega) (by rw [List.drop_zero]; exact ho)).trans (by rw [List.drop_zero])
  · rw [drop_cons hi] at ha ⊢
    simp only [List.flatten_cons, List.length_append] at ha
    have hw : bwrite l[i] out = some (out ++ l[i]) := by
      simp only [bwrite]
      rw [if_pos (by simp only [maxApp]; omega)]
    have hr := hr (out ++ l[i]) (by rw [List.length_append]; omega)
    simp only [wwords_0, lt_t hi, cond_t, inb_t hi, chk, at_nat (c := .str) hi, bwrite_F, hw, Option.bind_some, wr_succ hi hn, hr, List.flatten_cons, List.append_assoc]
  · simp only [wwords_0, lt_n, cond_f, h2]
    rw [List.drop_eq_nil_of_le (Nat.le_refl _)]
    simp
theorem wwords_ok : FnLn Tryd.prog elT glT 49 wwords_si wwords_so wwords_F := .fin 0 wwords_run fun (l, out) r hb hx => ⟨l.length + 1, by
  have hx : app out l.flatten = some r := hx
  have hlen := app_len hx
  rw [(app_le hx).2]
  exact wwords_loop (l := l) (c := some) hb.1.1 (fun _ _ => rfl) (l.length + 1) (by omega) out hlen⟩
theorem ww (l : List Str) (out : Str) : wwords_F (l, out) = app out l.flatten := rfl
/-! ## an expression -/
def sgn (k : Int) : Str := mget signsL k
mutual
def etx : Xpr → Str
  | .mk k v n l => if k = 1 then vprint v else if k = 2 then n else etxs k l
def etxs : Int → List Xpr → Str
  | _, [] => []
  | k, x :: l => if k = 3 then [40] ++ [78, 79, 84, 32] ++ etx x ++ [41] else if k = 15 then [40] ++ [45] ++ etx x ++ [41] else if k = 16 then [40] ++ etx x ++ [32, 73, 83, 32, 78, 85, 76, 76] ++ [41] else [40] ++ etx x ++ ([32] ++ (sgn k ++ [32])) ++ etx1 l ++ [41]
def etx1 : List Xpr → Str
  | [] => []
  | y :: _ => etx y
end
mutual
def okx : Xpr → Bool
  | .mk k _ _ l => if k = 1 ∨ k = 2 then true else okxs k l
def okxs : Int → List Xpr → Bool
  | _, [] => false
  | k, x :: l => okx x && (if k = 3 ∨ k = 15 ∨ k = 16 then true else okx1 l)
def okx1 : List Xpr → Bool
  | [] => false
  | y :: _ => okx y
end
theorem etx_un (e : Xpr) : etx e = if e.kind = 1 then vprint e.v else if e.kind = 2 then e.name else etxs e.kind e.l := by
  cases e; simp only [etx]; rfl
theorem okx_un (e : Xpr) : okx e = if e.kind = 1 ∨ e.kind = 2 then true else okxs e.kind e.l := by
  cases e; simp only [okx]; rfl
/-! ## (*exchequer/ast.writer).expr -/
def wexpr_si : Sig := ⟨2, [(1, .sv .expr)], [(0, .ptr 0 0)], [(0, .bld 86)], 1, 1, 0, [], []⟩
def wexpr_so : Sig := ⟨0, [], [], [(0, .bld 86)], 1, 1, 0, [], []⟩
abbrev wexpr_I := Xpr × List UInt8
abbrev wexpr_O := List UInt8
def wexpr_px (R : Type) (rf : wexpr_I → Option wexpr_O) : Px R := ⟨ttOf ttL, glT, callT [(15, callOr [.sv .val] [.str] vprint_F), (49, callLn wwords_si wwords_so wwords_F), (46, callLn wexpr_si wexpr_so rf)], callQT [], loopT []⟩
def wexpr_body (rf : wexpr_I → Option wexpr_O) (x : wexpr_I) : Option (wexpr_O) := match x with
 | (e, out) =>
  cond (decide (e.kind = 1)) (
   (wwords_F ([(vprint e.v)], out)).bind fun x =>
    some x) (
   cond (decide (e.kind = 2)) (
    (wwords_F ([e.name], out)).bind fun x1 =>
     some x1) (
    (wwords_F ([[40]], out)).bind fun x2 =>
     cond (decide (e.kind = 3)) (
      (wwords_F ([[78, 79, 84, 32]], x2)).bind fun x3 =>
       chk (inb 0 e.l.length) (
        (rf ((at' .expr e.l 0), x3)).bind fun x4 =>
         (wwords_F ([[41]], x4)).bind fun x13 =>
          some x13)) (
      cond (decide (e.kind = 15)) (
       (wwords_F ([[45]], x2)).bind fun x5 =>
        chk (inb 0 e.l.length) (
         (rf ((at' .expr e.l 0), x5)).bind fun x6 =>
          (wwords_F ([[41]], x6)).bind fun x14 =>
           some x14)) (
       cond (decide (e.kind = 16)) (
        chk (inb 0 e.l.length) (
         (rf ((at' .expr e.l 0), x2)).bind fun x7 =>
          (wwords_F ([[32, 73, 83, 32, 78, 85, 76, 76]], x7)).bind fun x8 =>
           (wwords_F ([[41]], x8)).bind fun x15 =>
            some x15)) (
        chk (inb 0 e.l.length) (
         (rf ((at' .expr e.l 0), x2)).bind fun x9 =>
          (wwords_F ([[32], (mget signsL e.kind), [32]], x9)).bind fun x10 =>
           chk (inb 1 e.l.length) (
            (rf ((at' .expr e.l 1), x10)).bind fun x11 =>
             (wwords_F ([[41]], x11)).bind fun x16 =>
              some x16)))))))
theorem wexpr_eq (rf : wexpr_I → Option wexpr_O) : ∀ (x : wexpr_I), runLn (wexpr_px _ rf) Tryd.f46 wexpr_si wexpr_so x some = wexpr_body rf x
  | (e, out) => by kernel_rfl
theorem wexpr_run (rf : wexpr_I → Option wexpr_O) (hrf : FnLn Tryd.prog elT glT 46 wexpr_si wexpr_so rf) : FnLn Tryd.prog elT glT 46 wexpr_si wexpr_so (wexpr_body rf) := by
  refine fnLn_run Tryd.func46 rfl (by kernel_rfl) follows (by kernel_rfl) (n := 0) (by kernel_rfl) (px := wexpr_px _ rf) (fun cx hP hel hgl => ?_) (wexpr_eq rf)
  have hp0 : PxOk cx (wexpr_px (wexpr_O) rf) := ⟨fun t => by rw [hP, hel]; exact tt_ok ttL_ok t, by rw [hgl]; rfl⟩
  have hc0 : CallOk cx (wexpr_px (wexpr_O) rf) := callT_ok rfl (cfs_cons (cf_or (by rw [hP, hel, hgl]; exact vprint_ok) (by kernel_rfl)) (cfs_cons (cf_ln (by rw [hP, hel, hgl]; exact wwords_ok) (by kernel_rfl)) (cfs_cons (cf_ln (by rw [hP, hel, hgl]; exact hrf) (by kernel_rfl)) cfs_nil)))
  have hq0 : CallQOk cx (wexpr_px (wexpr_O) rf) := callQT_ok rfl cqfs_nil
  exact ⟨hp0, hc0, hq0, all0⟩
def wexpr (e : Xpr) (out : Str) : Option Str := cond (okx e) (app out (etx e)) none
def wexpr_F : wexpr_I → Option wexpr_O := fun x => wexpr x.1 x.2
theorem wexpr_all : ∀ (n : Nat) (e : Xpr) (out : Str), BdExpr e → esize e ≤ n → okx e = true → iter (V := wexpr_I) (R := wexpr_O) wexpr_body n (e, out) = app out (etx e)
  | 0, e, _, _, h, _ => by have := esize_pos e; omega
  | n + 1, e, out, hb, h, hok => by
    obtain ⟨hb4, hb5⟩ := bd_ls hb
    rw [esize_eq] at h
    have hrf : ∀ x, x ∈ e.l → okx x = true → ∀ out : Str, iter (V := wexpr_I) (R := wexpr_O) wexpr_body n (x, out) = app out (etx x) := fun x hx ho out => wexpr_all n x out (hb5 x hx) (by have := esize_mem hx; omega) ho
    rw [iter_s, etx_un]
    rw [okx_un] at hok
    simp only [wexpr_body, ww]
    by_cases h1 : e.kind = 1
    · rw [decide_eq_true h1, if_pos h1, cond_t, app_one]
      simp
    by_cases h2 : e.kind = 2
    · rw [decide_eq_false h1, decide_eq_true h2, if_neg h1, if_pos h2, cond_f, cond_t, app_one]
      simp
    rw [decide_eq_false h1, decide_eq_false h2, if_neg h1, if_neg h2, cond_f, cond_f]
    rw [if_neg (by omega)] at hok
    cases hl : e.l with
    | nil => rw [hl] at hok; cases hok
    | cons x l =>
      rw [hl] at hok hrf
      simp only [okxs, Bool.and_eq_true] at hok
      have hx := hrf x List.mem_cons_self hok.1
      have e0 : at' .expr (x :: l) 0 = x := rfl
      have i0 : inb 0 (x :: l).length = true := inb_t (i := 0) (by simp)
      simp only [e0, i0, hx, chk, cond_t, etxs]
      by_cases h3 : e.kind = 3
      · rw [decide_eq_true h3, if_pos h3]
        simp only [cond_t, app_cont, app_one, app_app, List.flatten_cons, List.flatten_nil, List.append_nil, List.append_assoc]
      by_cases h15 : e.kind = 15
      · rw [decide_eq_false h3, decide_eq_true h15, if_neg h3, if_pos h15]
        simp only [cond_t, cond_f, app_cont, app_one, app_app, List.flatten_cons, List.flatten_nil, List.append_nil, List.append_assoc]
      by_cases h16 : e.kind = 16
      · rw [decide_eq_false h3, decide_eq_false h15, decide_eq_true h16, if_neg h3, if_neg h15, if_pos h16]
        simp only [cond_t, cond_f, app_cont, app_one, app_app, List.flatten_cons, List.flatten_nil, List.append_nil, List.append_assoc]
      rw [decide_eq_false h3, decide_eq_false h15, decide_eq_false h16, if_neg h3, if_neg h15, if_neg h16]
      rw [if_neg (by omega)] at hok
      cases l with
      | nil => exact absurd hok.2 (by simp [okx1])
      | cons y l =>
        have hy := hrf y (by simp) hok.2
        have e1 : at' .expr (x :: y :: l) 1 = y := rfl
        have i1 : inb 1 (x :: y :: l).length = true := inb_t (i := 1) (by simp)
        simp only [e1, i1, hy, cond_t, cond_f, etx1]
        simp only [app_one, app_app, List.flatten_cons, List.flatten_nil, List.append_nil, List.append_assoc, sgn]
theorem wexpr_ok : FnLn Tryd.prog elT glT 46 wexpr_si wexpr_so wexpr_F := by
  refine .fin (ι := Nat) (sg := wexpr_si) (so := wexpr_so) 0 (F := fun n => iter (V := wexpr_I) (R := wexpr_O) wexpr_body n) (fun n => FnLn.rec' (Sx.enters_of Tryd.func46 rfl rfl) (fun rf hrf => wexpr_run rf hrf) n) fun (e, out) r hb hx => ⟨esize e, ?_⟩
  have hx : cond (okx e) (app out (etx e)) none = some r := hx
  cases hok : okx e with
  | false => rw [hok] at hx; cases hx
  | true =>
    rw [hok] at hx
    exact (wexpr_all (esize e) e out hb.1 (Nat.le_refl _) hok).trans hx
theorem we {e : Xpr} (h : okx e = true) (out : Str) : wexpr_F (e, out) = app out (etx e) := by
  show cond (okx e) _ _ = _
  rw [h]
  rfl
end Go.Proofs.YtjpcghlpkinahaaDoor

/- The program's writer of statements: texts of expressions, of statements. -/
namespace Go.Proofs.YtjpcghlpkinahaaDoor
open Go.Ax
theorem app_congr {R : Type} {out t : Str} {f g : Str → Option R} (h : ∀ x : Str, x.length ≤ 100000000000 → f x = g x) : (app out t).bind f = (app out t).bind g := by
  cases hx : app out t with
  | none => rfl
  | some x => exact h x (app_le hx).1
theorem sep_step {R : Type} (i : Nat) (acc t : Str) (c : Str → Option R) : cond (decide ((0 : Int) < (i : Int))) ((app acc [44, 32]).bind fun x => (app x t).bind c) ((app acc t).bind c) = (app acc ((if i = 0 then [] else [44, 32]) ++ t)).bind c := by
  by_cases h : i = 0
  · rw [decide_eq_false (by omega), if_pos h]
    rfl
  · rw [decide_eq_true (by omega), if_neg h, cond_t, app_cont]
theorem fl1 (a : Str) : ([a] : List Str).flatten = a := by simp
theorem fl2 (a b : Str) : ([a, b] : List Str).flatten = a ++ b := by simp
theorem fl3 (a b c : Str) : ([a, b, c] : List Str).flatten = a ++ (b ++ c) := by simp
theorem fl5 (a b c d e : Str) : ([a, b, c, d, e] : List Str).flatten = a ++ (b ++ (c ++ (d ++ e))) := by simp
theorem cat_loop {V R α : Type} {step : (V → Option R) → V → Option R} (l : List α) (f : α → Str) (st : Nat → Str → V) (c : Str → Option R)
    (hs : ∀ i (hi : i < l.length) (acc : Str) rec, step rec (st i acc) = (app acc (f l[i])).bind fun x => rec (st (i + 1) x))
    (he : ∀ acc rec, step rec (st l.length acc) = c acc) (k : Nat) (hk : l.length < k) (out : Str) (ho : out.length ≤ 100000000000) : iter step k (st 0 out) = (app out (l.map f).flatten).bind c := by
  refine (iter_ind l.length st (fun _ acc => acc.length ≤ 100000000000) (fun i acc => (app acc ((l.drop i).map f).flatten).bind c) (fun i hi acc ha rec hr => ?_) (fun acc ha rec => ?_) k 0 out (Nat.zero_le _) (by omega) ho).trans (by rw [List.drop_zero])
  · rw [hs i hi acc rec, drop_cons hi, List.map_cons, List.flatten_cons, ← app_cont]
    exact app_congr fun x hx => hr x hx
  · rw [he, List.drop_length, List.map_nil, List.flatten_nil, app_nil ha]
    rfl
theorem app_z {out r : Str} (h : app out [] = some r) : some out = some r := by
  have := (app_le h).2
  rw [List.append_nil] at this
  rw [this]
/-! ## the text of an expression -/
/-! ## exchequer/ast.Text -/
def atext_px (R : Type) : Px R := ⟨ttOf ttL, glT, callT [(45, callOr [.sv .expr, .int .i64] [.bool] eright_F), (46, callLn wexpr_si wexpr_so wexpr_F), (47, callLn bstr_si bstr_so bstr_F)], callQT [], loopT []⟩
def atext_body (x : HV [.sv .expr]) : Option (HV [.str, .int .i64]) := match x with
 | e =>
  cond (!(eright e 30)) (
   some ([], 2)) (
   (wexpr_F (e, [])).bind fun x =>
    (bstr_F x).bind fun x1 =>
     some (x1, 0))
theorem atext_eq : ∀ (x : HV [.sv .expr]), runF (atext_px _) Tryd.f21 [.sv .expr] [.str, .int .i64] x some = atext_body x
  | e => by kernel_rfl
theorem atext_run : FnOk Tryd.prog elT glT 21 [.sv .expr] [.str, .int .i64] (atext_body) := by
  refine fnOk_run Tryd.func21 rfl (by kernel_rfl) follows (by kernel_rfl) (n := 0) (by kernel_rfl) (px := atext_px _) (fun cx hP hel hgl => ?_) (atext_eq)
  have hp0 : PxOk cx (atext_px (HV [.str, .int .i64])) := ⟨fun t => by rw [hP, hel]; exact tt_ok ttL_ok t, by rw [hgl]; rfl⟩
  have hc0 : CallOk cx (atext_px (HV [.str, .int .i64])) := callT_ok rfl (cfs_cons (cf_or (by rw [hP, hel, hgl]; exact eright_ok) (by kernel_rfl)) (cfs_cons (cf_ln (by rw [hP, hel, hgl]; exact wexpr_ok) (by kernel_rfl)) (cfs_cons (cf_ln (by rw [hP, hel, hgl]; exact bstr_ok) (by kernel_rfl)) cfs_nil)))
  have hq0 : CallQOk cx (atext_px (HV [.str, .int .i64])) := callQT_ok rfl cqfs_nil
  exact ⟨hp0, hc0, hq0, all0⟩
def atext (e : Xpr) : Option (Str × Int) := cond (eright e 30) (cond (okx e) ((app [] (etx e)).bind fun t => some (t, 0)) none) (some ([], 2))
def atext_F : FT [.sv .expr] [.str, .int .i64] := fun x => atext x
theorem atext_ok : FnOk Tryd.prog elT glT 21 [.sv .expr] [.str, .int .i64] atext_F := .fin0 atext_run fun e r hb hx => by
  have hx : atext e = some r := hx
  rw [← hx]
  simp only [atext_body, atext]
  simp only [atext] at hx
  cases hr : eright e 30 with
  | false => rfl
  | true =>
    rw [hr] at hx
    cases ho : okx e with
    | false => rw [ho] at hx; cases hx
    | true =>
      simp only [we ho, Bool.not_true, cond_f, cond_t]
      rfl
theorem erights_all : ∀ (l : List Xpr) (m : Int), erights l m = l.all fun x => eright x m
  | [], _ => rfl
  | x :: l, m => by simp only [erights, List.all_cons, erights_all l m]
theorem right_okx : ∀ (n : Nat) (e : Xpr) (m : Int), esize e ≤ n → eright e m = true → okx e = true
  | 0, e, _, h, _ => by have := esize_pos e; omega
  | n + 1, e, m, h, hr => by
    obtain ⟨hp, _, hs⟩ := eright_parts hr
    rw [esize_eq] at h
    rw [erights_all] at hs
    have ih : ∀ x, x ∈ e.l → okx x = true := fun x hx => right_okx n x _ (by have := esize_mem hx; omega) (List.all_eq_true.1 hs x hx)
    rw [okx_un]
    rcases parts_spec e.kind with ⟨h0, hk⟩ | ⟨h0, hk⟩ | ⟨h0, hk⟩ | h0
    · rw [if_pos hk]
    · rw [if_neg (by omega)]
      rw [h0] at hp
      match hl : e.l, hp with
      | [x], _ => rw [okxs, if_pos hk, ih x (by rw [hl]; simp)]; rfl
    · rw [if_neg (by omega)]
      rw [h0] at hp
      match hl : e.l, hp with
      | [x, y], _ =>
        rw [okxs, ih x (by rw [hl]; simp), okx1, ih y (by rw [hl]; simp)]
        split <;> rfl
    · rw [h0] at hp
      omega
theorem right_ok {e : Xpr} {m : Int} (h : eright e m = true) : okx e = true := right_okx _ e m (Nat.le_refl _) h
/-! ## names, columns, conditions -/
def okNm (l : List Str) : Bool := decide (l.length ≤ 1000000) && decide ((Lib.join l [44, 32]).length ≤ 1000000000)
def nmT (l : List Str) : Str := [40] ++ (Lib.join l [44, 32] ++ [41])
/-! ## (*exchequer/ast.writer).names -/
def wnames_si : Sig := ⟨2, [(1, .sl .str false)], [(0, .ptr 0 0)], [(0, .bld 86)], 1, 1, 0, [], []⟩
def wnames_so : Sig := ⟨0, [], [], [(0, .bld 86)], 1, 1, 0, [], []⟩
abbrev wnames_I := List Str × List UInt8
abbrev wnames_O := List UInt8
def wnames_px (R : Type) : Px R := ⟨ttOf ttL, glT, callT [(93, callOr [.sl .str false, .str] [.str] sjoin_F), (49, callLn wwords_si wwords_so wwords_F)], callQT [], loopT []⟩
def wnames_body (x : wnames_I) : Option (wnames_O) := match x with
 | (l, out) =>
  (sjoin l [44, 32]).bind fun x =>
   (wwords_F ([[40], x, [41]], out)).bind fun x1 =>
    some x1
theorem wnames_eq : ∀ (x : wnames_I), runLn (wnames_px _) Tryd.f50 wnames_si wnames_so x some = wnames_body x
  | (l, out) => by kernel_rfl
theorem wnames_run : FnLn Tryd.prog elT glT 50 wnames_si wnames_so (wnames_body) := by
  refine fnLn_run Tryd.func50 rfl (by kernel_rfl) follows (by kernel_rfl) (n := 0) (by kernel_rfl) (px := wnames_px _) (fun cx hP hel hgl => ?_) (wnames_eq)
  have hp0 : PxOk cx (wnames_px (wnames_O)) := ⟨fun t => by rw [hP, hel]; exact tt_ok ttL_ok t, by rw [hgl]; rfl⟩
  have hc0 : CallOk cx (wnames_px (wnames_O)) := callT_ok rfl (cfs_cons (cf_or (by rw [hP, hel, hgl]; exact sjoin_ok) (by kernel_rfl)) (cfs_cons (cf_ln (by rw [hP, hel, hgl]; exact wwords_ok) (by kernel_rfl)) cfs_nil))
  have hq0 : CallQOk cx (wnames_px (wnames_O)) := callQT_ok rfl cqfs_nil
  exact ⟨hp0, hc0, hq0, all0⟩
def wnames (l : List Str) (out : Str) : Option Str := cond (okNm l) (app out (nmT l)) none
def wnames_F : wnames_I → Option wnames_O := fun x => wnames x.1 x.2
theorem wnames_b (l : List Str) (out : Str) (h : okNm l = true) : wnames_body (l, out) = app out (nmT l) := by
  simp only [okNm, Bool.and_eq_true, decide_eq_true_eq] at h
  have hj : sjoin l [44, 32] = some (Lib.join l [44, 32]) := if_pos h
  simp only [wnames_body, hj, ww, Option.bind_some, app_one, fl3]
  rfl
theorem wnames_ok : FnLn Tryd.prog elT glT 50 wnames_si wnames_so wnames_F := .fin0 wnames_run fun (l, out) r hb hx => by
  have hx : cond (okNm l) (app out (nmT l)) none = some r := hx
  cases ho : okNm l with
  | false => rw [ho] at hx; cases hx
  | true =>
    rw [ho] at hx
    exact (wnames_b l out ho).trans hx
theorem wn {l : List Str} (h : okNm l = true) (out : Str) : wnames_F (l, out) = app out (nmT l) := by
  show cond (okNm l) _ _ = _
  rw [h]
  rfl
def colT (c : Col) : Str := c.name ++ ([32] ++ at' .str kindsL c.kind) ++ cond c.notNull [32, 78, 79, 84, 32, 78, 85, 76, 76] [] ++ cond c.unique [32, 85, 78, 73, 81, 85, 69] [] ++ cond (decide (c.ref = [])) [] ([32, 82, 69, 70, 69, 82, 69, 78, 67, 69, 83, 32] ++ c.ref)
/-! ## (*exchequer/ast.writer).col -/
def wcol_si : Sig := ⟨2, [(1, .sv .col)], [(0, .ptr 0 0)], [(0, .bld 86)], 1, 1, 0, [], []⟩
def wcol_so : Sig := ⟨0, [], [], [(0, .bld 86)], 1, 1, 0, [], []⟩
abbrev wcol_I := Col × List UInt8
abbrev wcol_O := List UInt8
def wcol_px (R : Type) : Px R := ⟨ttOf ttL, glT, callT [(49, callLn wwords_si wwords_so wwords_F)], callQT [], loopT []⟩
def wcol_body (x : wcol_I) : Option (wcol_O) := match x with
 | (c, out) =>
  chk (inb c.kind 6) (
   (wwords_F ([c.name, [32], (at' .str kindsL c.kind)], out)).bind fun x =>
    let j1 := fun (q : List UInt8) =>
     let j := fun (q1 : List UInt8) =>
      cond (!decide (c.ref = [])) (
       (wwords_F ([[32, 82, 69, 70, 69, 82, 69, 78, 67, 69, 83, 32], c.ref], q1)).bind fun x3 =>
        some x3) (
       some q1)
     cond (c.unique) (
      (wwords_F ([[32, 85, 78, 73, 81, 85, 69]], q)).bind fun x2 =>
       j x2) (
      j q)
    cond (c.notNull) (
     (wwords_F ([[32, 78, 79, 84, 32, 78, 85, 76, 76]], x)).bind fun x1 =>
      j1 x1) (
     j1 x))
theorem wcol_eq : ∀ (x : wcol_I), runLn (wcol_px _) Tryd.f91 wcol_si wcol_so x some = wcol_body x
  | (c, out) => by kernel_rfl
theorem wcol_run : FnLn Tryd.prog elT glT 91 wcol_si wcol_so (wcol_body) := by
  refine fnLn_run Tryd.func91 rfl (by kernel_rfl) follows (by kernel_rfl) (n := 0) (by kernel_rfl) (px := wcol_px _) (fun cx hP hel hgl => ?_) (wcol_eq)
  have hp0 : PxOk cx (wcol_px (wcol_O)) := ⟨fun t => by rw [hP, hel]; exact tt_ok ttL_ok t, by rw [hgl]; rfl⟩
  have hc0 : CallOk cx (wcol_px (wcol_O)) := callT_ok rfl (cfs_cons (cf_ln (by rw [hP, hel, hgl]; exact wwords_ok) (by kernel_rfl)) cfs_nil)
  have hq0 : CallQOk cx (wcol_px (wcol_O)) := callQT_ok rfl cqfs_nil
  exact ⟨hp0, hc0, hq0, all0⟩
def wcol (c : Col) (out : Str) : Option Str := cond (inb c.kind 6) (app out (colT c)) none
def wcol_F : wcol_I → Option wcol_O := fun x => wcol x.1 x.2
theorem wcol_b (c : Col) (out : Str) (h : inb c.kind 6 = true) : wcol_body (c, out) = app out (colT c) := by
  simp only [wcol_body, h, chk, cond_t, ww, fl1, fl2, fl3, colT]
  cases c.notNull <;> cases c.unique <;> cases decide (c.ref = []) <;> simp only [cond_t, cond_f, Bool.not_true, Bool.not_false, app_one, app_app, List.append_nil, List.append_assoc]
theorem wcol_ok : FnLn Tryd.prog elT glT 91 wcol_si wcol_so wcol_F := .fin0 wcol_run fun (c, out) r hb hx => by
  have hx : cond (inb c.kind 6) (app out (colT c)) none = some r := hx
  cases ho : inb c.kind 6 with
  | false => rw [ho] at hx; cases hx
  | true =>
    rw [ho] at hx
    exact (wcol_b c out ho).trans hx
theorem wc {c : Col} (h : inb c.kind 6 = true) (out : Str) : wcol_F (c, out) = app out (colT c) := by
  show cond (inb c.kind 6) _ _ = _
  rw [h]
  rfl
def whT (s : Stm) : Str := cond s.has ([32, 87, 72, 69, 82, 69, 32] ++ etx s.whr) []
def okW (s : Stm) : Bool := !s.has || okx s.whr
/-! ## (*exchequer/ast.writer).where -/
def wwhere_si : Sig := ⟨2, [(1, .sv .stmt)], [(0, .ptr 0 0)], [(0, .bld 86)], 1, 1, 0, [], []⟩
def wwhere_so : Sig := ⟨0, [], [], [(0, .bld 86)], 1, 1, 0, [], []⟩
abbrev wwhere_I := Stm × List UInt8
abbrev wwhere_O := List UInt8
def wwhere_px (R : Type) : Px R := ⟨ttOf ttL, glT, callT [(49, callLn wwords_si wwords_so wwords_F), (46, callLn wexpr_si wexpr_so wexpr_F)], callQT [], loopT []⟩
def wwhere_body (x : wwhere_I) : Option (wwhere_O) := match x with
 | (s, out) =>
  cond (s.has) (
   (wwords_F ([[32, 87, 72, 69, 82, 69, 32]], out)).bind fun x =>
    (wexpr_F ((xeta s.whr), x)).bind fun x1 =>
     some x1) (
   some out)
theorem wwhere_eq : ∀ (x : wwhere_I), runLn (wwhere_px _) Tryd.f55 wwhere_si wwhere_so x some = wwhere_body x
  | (s, out) => by kernel_rfl
theorem wwhere_run : FnLn Tryd.prog elT glT 55 wwhere_si wwhere_so (wwhere_body) := by
  refine fnLn_run Tryd.func55 rfl (by kernel_rfl) follows (by kernel_rfl) (n := 0) (by kernel_rfl) (px := wwhere_px _) (fun cx hP hel hgl => ?_) (wwhere_eq)
  have hp0 : PxOk cx (wwhere_px (wwhere_O)) := ⟨fun t => by rw [hP, hel]; exact tt_ok ttL_ok t, by rw [hgl]; rfl⟩
  have hc0 : CallOk cx (wwhere_px (wwhere_O)) := callT_ok rfl (cfs_cons (cf_ln (by rw [hP, hel, hgl]; exact wwords_ok) (by kernel_rfl)) (cfs_cons (cf_ln (by rw [hP, hel, hgl]; exact wexpr_ok) (by kernel_rfl)) cfs_nil))
  have hq0 : CallQOk cx (wwhere_px (wwhere_O)) := callQT_ok rfl cqfs_nil
  exact ⟨hp0, hc0, hq0, all0⟩
def wwhere (s : Stm) (out : Str) : Option Str := cond (okW s) (app out (whT s)) none
def wwhere_F : wwhere_I → Option wwhere_O := fun x => wwhere x.1 x.2
theorem wwhere_b (s : Stm) (out r : Str) (h : okW s = true) (hr : app out (whT s) = some r) : wwhere_body (s, out) = some r := by
  simp only [okW] at h
  simp only [whT] at hr
  simp only [wwhere_body, xeta_eq, ww, fl1]
  cases hs : s.has with
  | false =>
    rw [hs] at hr
    exact app_z hr
  | true =>
    rw [hs] at h hr
    simp only [we (show okx s.whr = true from h), cond_t, app_one, app_app]
    exact hr
theorem wwhere_ok : FnLn Tryd.prog elT glT 55 wwhere_si wwhere_so wwhere_F := .fin0 wwhere_run fun (s, out) r hb hx => by
  have hx : cond (okW s) (app out (whT s)) none = some r := hx
  cases ho : okW s with
  | false => rw [ho] at hx; cases hx
  | true =>
    rw [ho] at hx
    exact wwhere_b s out r ho hx
theorem wh {s : Stm} (h : okW s = true) (out : Str) : wwhere_F (s, out) = app out (whT s) := by
  show cond (okW s) _ _ = _
  rw [h]
  rfl
/-! ## a table -/
def chkT (e : Xpr) : Str := [44, 32, 67, 72, 69, 67, 75, 32] ++ cond (decide (parts e.kind = 0)) ([40] ++ (etx e ++ [41])) (etx e)
def tableT (s : Stm) : Str := [67, 82, 69, 65, 84, 69, 32, 84, 65, 66, 76, 69, 32] ++ (s.name ++ [32, 40]) ++ listT colT s.cols ++ [44, 32, 80, 82, 73, 77, 65, 82, 89, 32, 75, 69, 89, 32] ++ nmT s.names ++ (s.l.map chkT).flatten ++ [41]
def okT (s : Stm) : Bool := s.cols.all (fun c => inb c.kind 6) && okNm s.names && s.l.all okx
def fuelS (s : Stm) : Nat := s.cols.length + s.l.length + s.order.length + s.rows.length + s.sets.length + (s.rows.map List.length).sum + 1
/-! ## (*exchequer/ast.writer).table -/
def wtable_si : Sig := ⟨2, [(1, .sv .stmt)], [(0, .ptr 0 0)], [(0, .bld 86)], 1, 1, 0, [], []⟩
def wtable_so : Sig := ⟨0, [], [], [(0, .bld 86)], 1, 1, 0, [], []⟩
abbrev wtable_I := Stm × List UInt8
abbrev wtable_O := List UInt8
def wtable_1_sg : Sig := ⟨54, [(25, .sl .expr false), (26, .int .i64), (27, .int .i64)], [(2, .ptr 1 0)], [(0, .bld 86), (1, .fx [.ptr 0 0])], 2, 1, 0, [], []⟩
abbrev wtable_1_V := List Xpr × Int × Int × List UInt8
def wtable_1 {R : Type} (rec : wtable_1_V → Option R) (kx : Ex → wtable_1_V → Option R) (v : wtable_1_V) : Option R := match v with
 | (v6, v7, v8, w2) =>
  cond (decide (v8 < v7)) (
   chk (inb v8 v6.length) (
    (wwords_F ([[44, 32, 67, 72, 69, 67, 75, 32]], w2)).bind fun x5 =>
     cond (decide ((parts ((at' .expr v6 v8).kind)) = 0)) (
      (wwords_F ([[40]], x5)).bind fun x6 =>
       (wexpr_F ((at' .expr v6 v8), x6)).bind fun x7 =>
        (wwords_F ([[41]], x7)).bind fun x8 =>
         rec (v6, v7, (wr .i64 (v8 + 1)), x8)) (
      (wexpr_F ((at' .expr v6 v8), x5)).bind fun x9 =>
       rec (v6, v7, (wr .i64 (v8 + 1)), x9)))) (
   kx (.exit 0) (v6, v7, v8, w2))
def wtable_0_sg : Sig := ⟨20, [(7, .int .i64), (8, .int .i64)], [(0, .ptr 0 0), (2, .fn 90 [.ptr 1 0, .ptr 2 0])], [(0, .bld 86), (1, .fx [.ptr 0 0]), (2, .one (.sv .stmt))], 80, 80, 400, [2], []⟩
abbrev wtable_0_V := Int × Int × List UInt8 × Stm
def wtable_0 {R : Type} (rec : wtable_0_V → Option R) (kx : Ex → wtable_0_V → Option R) (v : wtable_0_V) : Option R := match v with
 | (v, v1, w, w1) =>
  cond (decide (v1 < v)) (
   let j := fun (q : List UInt8) =>
    chk (inb v1 w1.cols.length) (
     (wcol_F ((at' .col w1.cols v1), q)).bind fun x2 =>
      rec (v, (wr .i64 (v1 + 1)), x2, w1))
   cond (decide (0 < v1)) (
    (wwords_F ([[44, 32]], w)).bind fun x1 =>
     j x1) (
    j w)) (
   kx (.exit 0) (v, v1, w, w1))
def wtable_pxi0i0 (R : Type) (_k : Nat) : Px R := ⟨ttOf ttL, glT, callT [(91, callLn wcol_si wcol_so wcol_F)], callQT [], loopT []⟩
noncomputable def wtable_pxi0 (R : Type) (k : Nat) : Px R := ⟨ttOf ttL, glT, callT [(49, callLn wwords_si wwords_so wwords_F), (90, callRun 120 600 (wtable_pxi0i0 R k) Tryd.f90)], callQT [], loopT [(1, loopOr k wtable_0_sg (wtable_0))]⟩
noncomputable def wtable_px (R : Type) (k : Nat) : Px R := ⟨ttOf ttL, glT, callT [(49, callLn wwords_si wwords_so wwords_F), (50, callLn wnames_si wnames_so wnames_F), (87, callOr [.int .i64] [.int .i64] parts_F), (46, callLn wexpr_si wexpr_so wexpr_F), (51, callRun 80 400 (wtable_pxi0 R k) Tryd.f51)], callQT [], loopT [(6, loopOr k wtable_1_sg (wtable_1))]⟩
theorem wtable_0_eq (R : Type) (k : Nat) : ∀ (fr : List Fr) (rec : wtable_0_V → Option R) (kx : Ex → wtable_0_V → Option R) (v : wtable_0_V), round (wtable_pxi0 R k) wtable_0_sg (lp Tryd.f51 0) fr rec kx v = wtable_0 rec kx v
  | fr, rec, kx, (v, v1, w, w1) => by kernel_rfl
theorem wtable_1_eq (R : Type) (k : Nat) : ∀ (fr : List Fr) (rec : wtable_1_V → Option R) (kx : Ex → wtable_1_V → Option R) (v : wtable_1_V), round (wtable_px R k) wtable_1_sg (lp Tryd.f48 0) fr rec kx v = wtable_1 rec kx v
  | fr, rec, kx, (v6, v7, v8, w2) => by kernel_rfl
def wtable_body (k : Nat) (x : wtable_I) : Option (wtable_O) := match x with
 | (s, out) =>
  (wwords_F ([[67, 82, 69, 65, 84, 69, 32, 84, 65, 66, 76, 69, 32], s.name, [32, 40]], out)).bind fun x =>
   iter (fun rec => wtable_0 rec (fun e vz => match vz with | (_, _, v4, v5) => match e with
    | .exit 0 =>
     (wwords_F ([[44, 32, 80, 82, 73, 77, 65, 82, 89, 32, 75, 69, 89, 32]], v4)).bind fun x3 =>
      (wnames_F (v5.names, x3)).bind fun x4 =>
       iter (fun rec => wtable_1 rec (fun e vz => match vz with | (_, _, _, v12) => match e with
        | .exit 0 =>
         (wwords_F ([[41]], v12)).bind fun x10 =>
          some x10
        | _ => none)) k (v5.l, (v5.l.length : Int), 0, x4)
    | _ => none)) k ((s.cols.length : Int), 0, x, s)
theorem wtable_eq (k : Nat) : ∀ (x : wtable_I), runLn (wtable_px _ k) Tryd.f48 wtable_si wtable_so x some = wtable_body k x
  | (s, out) => by kernel_rfl
theorem wtable_run (k : Nat) : FnLn Tryd.prog elT glT 48 wtable_si wtable_so (wtable_body k) := by
  refine fnLn_run Tryd.func48 rfl (by kernel_rfl) follows (by kernel_rfl) (n := 1) (by kernel_rfl) (px := wtable_px _ k) (fun cx hP hel hgl => ?_) (wtable_eq k)
  have hp2 : PxOk cx (wtable_pxi0i0 (wtable_O) k) := ⟨fun t => by rw [hP, hel]; exact tt_ok ttL_ok t, by rw [hgl]; rfl⟩
  have hc2 : CallOk cx (wtable_pxi0i0 (wtable_O) k) := callT_ok rfl (cfs_cons (cf_ln (by rw [hP, hel, hgl]; exact wcol_ok) (by kernel_rfl)) cfs_nil)
  have hq2 : CallQOk cx (wtable_pxi0i0 (wtable_O) k) := callQT_ok rfl cqfs_nil
  have hp1 : PxOk cx (wtable_pxi0 (wtable_O) k) := ⟨fun t => by rw [hP, hel]; exact tt_ok ttL_ok t, by rw [hgl]; rfl⟩
  have hc1 : CallOk cx (wtable_pxi0 (wtable_O) k) := callT_ok rfl (cfs_cons (cf_ln (by rw [hP, hel, hgl]; exact wwords_ok) (by kernel_rfl)) (cfs_cons (cf_run hp2 hc2 hq2 (by rw [hP]; exact follows) (by rw [hP]; exact Tryd.func90) rfl (by kernel_rfl) (by kernel_rfl) (n := 0) (by kernel_rfl) (all0)) cfs_nil))
  have hq1 : CallQOk cx (wtable_pxi0 (wtable_O) k) := callQT_ok rfl cqfs_nil
  have hlwtable_0 : LoopOk cx (wtable_pxi0 (wtable_O) k) (lp Tryd.f51 0) := loop_ok hp1 hc1 hq1 (by rw [hP]; exact follows) (k := k) (s := wtable_0_sg) (step := wtable_0) (fun _ _ => by kernel_rfl) (by kernel_rfl) (wtable_0_eq _ k) (loops_in (n := 0) (by kernel_rfl) all0)
  have hp0 : PxOk cx (wtable_px (wtable_O) k) := ⟨fun t => by rw [hP, hel]; exact tt_ok ttL_ok t, by rw [hgl]; rfl⟩
  have hc0 : CallOk cx (wtable_px (wtable_O) k) := callT_ok rfl (cfs_cons (cf_ln (by rw [hP, hel, hgl]; exact wwords_ok) (by kernel_rfl)) (cfs_cons (cf_ln (by rw [hP, hel, hgl]; exact wnames_ok) (by kernel_rfl)) (cfs_cons (cf_or (by rw [hP, hel, hgl]; exact parts_ok) (by kernel_rfl)) (cfs_cons (cf_ln (by rw [hP, hel, hgl]; exact wexpr_ok) (by kernel_rfl)) (cfs_cons (cf_run hp1 hc1 hq1 (by rw [hP]; exact follows) (by rw [hP]; exact Tryd.func51) rfl (by kernel_rfl) (by kernel_rfl) (n := 1) (by kernel_rfl) ((allS all0 hlwtable_0))) cfs_nil)))))
  have hq0 : CallQOk cx (wtable_px (wtable_O) k) := callQT_ok rfl cqfs_nil
  have hlwtable_1 : LoopOk cx (wtable_px (wtable_O) k) (lp Tryd.f48 0) := loop_ok hp0 hc0 hq0 (by rw [hP]; exact follows) (k := k) (s := wtable_1_sg) (step := wtable_1) (fun _ _ => by kernel_rfl) (by kernel_rfl) (wtable_1_eq _ k) (loops_in (n := 0) (by kernel_rfl) all0)
  exact ⟨hp0, hc0, hq0, (allS all0 hlwtable_1)⟩
def wtable (s : Stm) (out : Str) : Option Str := cond (okT s) (app out (tableT s)) none
def wtable_F : wtable_I → Option wtable_O := fun x => wtable x.1 x.2
theorem wtable_b (k : Nat) (s : Stm) (out : Str) (hb : BdStm s) (h : okT s = true) (hk : fuelS s ≤ k) : wtable_body k (s, out) = app out (tableT s) := by
  simp only [okT, Bool.and_eq_true] at h
  obtain ⟨⟨h1, h2⟩, h3⟩ := h
  simp only [fuelS] at hk
  have hc := List.all_eq_true.1 h1
  have hl := List.all_eq_true.1 h3
  simp only [wtable_body, ww, fl1, fl3]
  refine (app_congr fun x hx => (list_loop s.cols colT (fun i acc => ((s.cols.length : Int), (i : Int), acc, s)) (fun acc => (app acc ([44, 32, 80, 82, 73, 77, 65, 82, 89, 32, 75, 69, 89, 32] ++ nmT s.names)).bind fun x => (app x (s.l.map chkT).flatten).bind fun x => app x [41]) (fun i hi acc rec => ?_) (fun acc rec => ?_) k (by omega) x hx)).trans ?_
  · simp only [wtable_0, lt_t hi, cond_t, inb_t hi, chk, at_nat (c := .col) hi, wc (hc _ (List.getElem_mem hi)), wr_succ hi hb.cols.1, ww, fl1]
    exact sep_step i acc (colT s.cols[i]) _
  · simp only [wtable_0, lt_n, cond_f, ww, fl1, wn h2]
    rw [app_cont]
    refine app_congr fun x hx => cat_loop s.l chkT (fun i acc => (s.l, (s.l.length : Int), (i : Int), acc)) (fun acc => app acc [41]) (fun i hi acc rec => ?_) (fun acc rec => ?_) k (by omega) x hx
    · simp only [wtable_1, lt_t hi, cond_t, inb_t hi, chk, at_nat (c := .expr) hi, we (hl _ (List.getElem_mem hi)), wr_succ hi hb.l.1, ww, fl1, chkT]
      cases decide (parts s.l[i].kind = 0) with
      | true => simp only [cond_t, app_cont]
      | false => simp only [cond_f, app_cont]
    · simp only [wtable_1, lt_n, cond_f, ww, fl1, app_one]
  · simp only [app_app, tableT, List.append_assoc]
theorem wtable_ok : FnLn Tryd.prog elT glT 48 wtable_si wtable_so wtable_F := .fin 0 wtable_run fun (s, out) r hb hx => ⟨fuelS s, by
  have hx : cond (okT s) (app out (tableT s)) none = some r := hx
  cases ho : okT s with
  | false => rw [ho] at hx; cases hx
  | true =>
    rw [ho] at hx
    exact (wtable_b (fuelS s) s out hb.1 ho (Nat.le_refl _)).trans hx⟩
theorem wt {s : Stm} (h : okT s = true) (out : Str) : wtable_F (s, out) = app out (tableT s) := by
  show cond (okT s) _ _ = _
  rw [h]
  rfl
/-! ## a select -/
def ordT (p : Str × Bool) : Str := p.1 ++ cond p.2 [32, 68, 69, 83, 67] []
def limT (s : Stm) : Str := cond (decide (0 ≤ s.most)) ([32, 76, 73, 77, 73, 84, 32] ++ vprint ⟨3, s.most, []⟩) []
def obT (s : Stm) : Str := cond (decide (0 < (s.order.length : Int))) [32, 79, 82, 68, 69, 82, 32, 66, 89, 32] []
def selT (s : Stm) : Str := [83, 69, 76, 69, 67, 84, 32] ++ cond (decide ((s.l.length : Int) = 0)) [42] [] ++ listT etx s.l ++ ([32, 70, 82, 79, 77, 32] ++ s.name) ++ whT s ++ obT s ++ listT ordT (s.order.zip s.desc) ++ limT s
def okS (s : Stm) : Bool := s.l.all okx && okW s && decide (s.desc.length = s.order.length)
/-! ## (*exchequer/ast.writer).chosen -/
def wchosen_si : Sig := ⟨2, [(1, .sv .stmt)], [(0, .ptr 0 0)], [(0, .bld 86)], 1, 1, 0, [], []⟩
def wchosen_so : Sig := ⟨0, [], [], [(0, .bld 86)], 1, 1, 0, [], []⟩
abbrev wchosen_I := Stm × List UInt8
abbrev wchosen_O := List UInt8
def wchosen_1_sg : Sig := ⟨20, [(7, .int .i64), (8, .int .i64)], [(0, .ptr 0 0), (2, .fn 95 [.ptr 1 0, .ptr 2 0])], [(0, .bld 86), (1, .fx [.ptr 0 0]), (2, .one (.sv .stmt))], 80, 80, 600, [404, 2], []⟩
abbrev wchosen_1_V := Int × Int × List UInt8 × Stm
def wchosen_1 {R : Type} (rec : wchosen_1_V → Option R) (kx : Ex → wchosen_1_V → Option R) (v : wchosen_1_V) : Option R := match v with
 | (v6, v7, w2, w3) =>
  cond (decide (v7 < v6)) (
   let j1 := fun (q3 : List UInt8) =>
    chk (inb v7 w3.order.length) (
     (wwords_F ([(at' .str w3.order v7)], q3)).bind fun x8 =>
      chk (inb v7 w3.desc.length) (
       cond ((at' .bool w3.desc v7)) (
        (wwords_F ([[32, 68, 69, 83, 67]], x8)).bind fun x9 =>
         rec (v6, (wr .i64 (v7 + 1)), x9, w3)) (
        rec (v6, (wr .i64 (v7 + 1)), x8, w3))))
   cond (decide (0 < v7)) (
    (wwords_F ([[44, 32]], w2)).bind fun x7 =>
     j1 x7) (
    j1 w2)) (
   kx (.exit 0) (v6, v7, w2, w3))
def wchosen_0_sg : Sig := ⟨20, [(7, .int .i64), (8, .int .i64)], [(0, .ptr 0 0), (2, .fn 94 [.ptr 1 0, .ptr 2 0])], [(0, .bld 86), (1, .fx [.ptr 0 0]), (2, .one (.sv .stmt))], 80, 80, 400, [2], []⟩
abbrev wchosen_0_V := Int × Int × List UInt8 × Stm
def wchosen_0 {R : Type} (rec : wchosen_0_V → Option R) (kx : Ex → wchosen_0_V → Option R) (v : wchosen_0_V) : Option R := match v with
 | (v, v1, w, w1) =>
  cond (decide (v1 < v)) (
   let j := fun (q1 : List UInt8) =>
    chk (inb v1 w1.l.length) (
     (wexpr_F ((at' .expr w1.l v1), q1)).bind fun x3 =>
      rec (v, (wr .i64 (v1 + 1)), x3, w1))
   cond (decide (0 < v1)) (
    (wwords_F ([[44, 32]], w)).bind fun x2 =>
     j x2) (
    j w)) (
   kx (.exit 0) (v, v1, w, w1))
def wchosen_pxi0i0 (R : Type) (_k : Nat) : Px R := ⟨ttOf ttL, glT, callT [(46, callLn wexpr_si wexpr_so wexpr_F)], callQT [], loopT []⟩
noncomputable def wchosen_pxi0 (R : Type) (k : Nat) : Px R := ⟨ttOf ttL, glT, callT [(49, callLn wwords_si wwords_so wwords_F), (94, callRun 120 600 (wchosen_pxi0i0 R k) Tryd.f94)], callQT [], loopT [(1, loopOr k wchosen_0_sg (wchosen_0))]⟩
def wchosen_pxi1i0 (R : Type) (_k : Nat) : Px R := ⟨ttOf ttL, glT, callT [(49, callLn wwords_si wwords_so wwords_F)], callQT [], loopT []⟩
noncomputable def wchosen_pxi1 (R : Type) (k : Nat) : Px R := ⟨ttOf ttL, glT, callT [(49, callLn wwords_si wwords_so wwords_F), (95, callRun 120 800 (wchosen_pxi1i0 R k) Tryd.f95)], callQT [], loopT [(1, loopOr k wchosen_1_sg (wchosen_1))]⟩
noncomputable def wchosen_px (R : Type) (k : Nat) : Px R := ⟨ttOf ttL, glT, callT [(49, callLn wwords_si wwords_so wwords_F), (55, callLn wwhere_si wwhere_so wwhere_F), (51, callRunOr 80 400 (wchosen_pxi0 R k) Tryd.f51 (callRun 80 600 (wchosen_pxi1 R k) Tryd.f51))], callQT [(15, callOrQ [.sv .val] [.str] vprint_F)], loopT []⟩
theorem wchosen_0_eq (R : Type) (k : Nat) : ∀ (fr : List Fr) (rec : wchosen_0_V → Option R) (kx : Ex → wchosen_0_V → Option R) (v : wchosen_0_V), round (wchosen_pxi0 R k) wchosen_0_sg (lp Tryd.f51 0) fr rec kx v = wchosen_0 rec kx v
  | fr, rec, kx, (v, v1, w, w1) => by kernel_rfl
theorem wchosen_1_eq (R : Type) (k : Nat) : ∀ (fr : List Fr) (rec : wchosen_1_V → Option R) (kx : Ex → wchosen_1_V → Option R) (v : wchosen_1_V), round (wchosen_pxi1 R k) wchosen_1_sg (lp Tryd.f51 0) fr rec kx v = wchosen_1 rec kx v
  | fr, rec, kx, (v6, v7, w2, w3) => by kernel_rfl
def wchosen_body (k : Nat) (x : wchosen_I) : Option (wchosen_O) := match x with
 | (s, out) =>
  (wwords_F ([[83, 69, 76, 69, 67, 84, 32]], out)).bind fun x =>
   let j3 := fun (q : List UInt8) =>
    iter (fun rec => wchosen_0 rec (fun e vz => match vz with | (_, _, v4, v5) => match e with
     | .exit 0 =>
      (wwords_F ([[32, 70, 82, 79, 77, 32], v5.name], v4)).bind fun x4 =>
       (wwhere_F (v5, x4)).bind fun x5 =>
        let j2 := fun (q2 : List UInt8) =>
         iter (fun rec => wchosen_1 rec (fun e vz => match vz with | (_, _, v10, v11) => match e with
          | .exit 0 =>
           cond (decide (0 ≤ v11.most)) (
            (wwords_F ([[32, 76, 73, 77, 73, 84, 32], (vprint (Val.mk 3 v11.most []))], v10)).bind fun x10 =>
             some x10) (
            some v10)
          | _ => none)) k ((v5.order.length : Int), 0, q2, v5)
        cond (decide (0 < (v5.order.length : Int))) (
         (wwords_F ([[32, 79, 82, 68, 69, 82, 32, 66, 89, 32]], x5)).bind fun x6 =>
          j2 x6) (
         j2 x5)
     | _ => none)) k ((s.l.length : Int), 0, q, s)
   cond (decide ((s.l.length : Int) = 0)) (
    (wwords_F ([[42]], x)).bind fun x1 =>
     j3 x1) (
    j3 x)
theorem wchosen_eq (k : Nat) : ∀ (x : wchosen_I), runLn (wchosen_px _ k) Tryd.f56 wchosen_si wchosen_so x some = wchosen_body k x
  | (s, out) => by kernel_rfl
theorem wchosen_run (k : Nat) : FnLn Tryd.prog elT glT 56 wchosen_si wchosen_so (wchosen_body k) := by
  refine fnLn_run Tryd.func56 rfl (by kernel_rfl) follows (by kernel_rfl) (n := 0) (by kernel_rfl) (px := wchosen_px _ k) (fun cx hP hel hgl => ?_) (wchosen_eq k)
  have hp2 : PxOk cx (wchosen_pxi0i0 (wchosen_O) k) := ⟨fun t => by rw [hP, hel]; exact tt_ok ttL_ok t, by rw [hgl]; rfl⟩
  have hc2 : CallOk cx (wchosen_pxi0i0 (wchosen_O) k) := callT_ok rfl (cfs_cons (cf_ln (by rw [hP, hel, hgl]; exact wexpr_ok) (by kernel_rfl)) cfs_nil)
  have hq2 : CallQOk cx (wchosen_pxi0i0 (wchosen_O) k) := callQT_ok rfl cqfs_nil
  have hp1 : PxOk cx (wchosen_pxi0 (wchosen_O) k) := ⟨fun t => by rw [hP, hel]; exact tt_ok ttL_ok t, by rw [hgl]; rfl⟩
  have hc1 : CallOk cx (wchosen_pxi0 (wchosen_O) k) := callT_ok rfl (cfs_cons (cf_ln (by rw [hP, hel, hgl]; exact wwords_ok) (by kernel_rfl)) (cfs_cons (cf_run hp2 hc2 hq2 (by rw [hP]; exact follows) (by rw [hP]; exact Tryd.func94) rfl (by kernel_rfl) (by kernel_rfl) (n := 0) (by kernel_rfl) (all0)) cfs_nil))
  have hq1 : CallQOk cx (wchosen_pxi0 (wchosen_O) k) := callQT_ok rfl cqfs_nil
  have hlwchosen_0 : LoopOk cx (wchosen_pxi0 (wchosen_O) k) (lp Tryd.f51 0) := loop_ok hp1 hc1 hq1 (by rw [hP]; exact follows) (k := k) (s := wchosen_0_sg) (step := wchosen_0) (fun _ _ => by kernel_rfl) (by kernel_rfl) (wchosen_0_eq _ k) (loops_in (n := 0) (by kernel_rfl) all0)
  have hp4 : PxOk cx (wchosen_pxi1i0 (wchosen_O) k) := ⟨fun t => by rw [hP, hel]; exact tt_ok ttL_ok t, by rw [hgl]; rfl⟩
  have hc4 : CallOk cx (wchosen_pxi1i0 (wchosen_O) k) := callT_ok rfl (cfs_cons (cf_ln (by rw [hP, hel, hgl]; exact wwords_ok) (by kernel_rfl)) cfs_nil)
  have hq4 : CallQOk cx (wchosen_pxi1i0 (wchosen_O) k) := callQT_ok rfl cqfs_nil
  have hp3 : PxOk cx (wchosen_pxi1 (wchosen_O) k) := ⟨fun t => by rw [hP, hel]; exact tt_ok ttL_ok t, by rw [hgl]; rfl⟩
  have hc3 : CallOk cx (wchosen_pxi1 (wchosen_O) k) := callT_ok rfl (cfs_cons (cf_ln (by rw [hP, hel, hgl]; exact wwords_ok) (by kernel_rfl)) (cfs_cons (cf_run hp4 hc4 hq4 (by rw [hP]; exact follows) (by rw [hP]; exact Tryd.func95) rfl (by kernel_rfl) (by kernel_rfl) (n := 0) (by kernel_rfl) (all0)) cfs_nil))
  have hq3 : CallQOk cx (wchosen_pxi1 (wchosen_O) k) := callQT_ok rfl cqfs_nil
  have hlwchosen_1 : LoopOk cx (wchosen_pxi1 (wchosen_O) k) (lp Tryd.f51 0) := loop_ok hp3 hc3 hq3 (by rw [hP]; exact follows) (k := k) (s := wchosen_1_sg) (step := wchosen_1) (fun _ _ => by kernel_rfl) (by kernel_rfl) (wchosen_1_eq _ k) (loops_in (n := 0) (by kernel_rfl) all0)
  have hp0 : PxOk cx (wchosen_px (wchosen_O) k) := ⟨fun t => by rw [hP, hel]; exact tt_ok ttL_ok t, by rw [hgl]; rfl⟩
  have hc0 : CallOk cx (wchosen_px (wchosen_O) k) := callT_ok rfl (cfs_cons (cf_ln (by rw [hP, hel, hgl]; exact wwords_ok) (by kernel_rfl)) (cfs_cons (cf_ln (by rw [hP, hel, hgl]; exact wwhere_ok) (by kernel_rfl)) (cfs_cons (cf_runOr (cf_run hp1 hc1 hq1 (by rw [hP]; exact follows) (by rw [hP]; exact Tryd.func51) rfl (by kernel_rfl) (by kernel_rfl) (n := 1) (by kernel_rfl) ((allS all0 hlwchosen_0))) (cf_run hp3 hc3 hq3 (by rw [hP]; exact follows) (by rw [hP]; exact Tryd.func51) rfl (by kernel_rfl) (by kernel_rfl) (n := 1) (by kernel_rfl) ((allS all0 hlwchosen_1)))) cfs_nil)))
  have hq0 : CallQOk cx (wchosen_px (wchosen_O) k) := callQT_ok rfl (cqfs_cons (cqf_or (by rw [hP, hel, hgl]; exact vprint_ok) (by kernel_rfl)) cqfs_nil)
  exact ⟨hp0, hc0, hq0, all0⟩
def wchosen (s : Stm) (out : Str) : Option Str := cond (okS s) (app out (selT s)) none
def wchosen_F : wchosen_I → Option wchosen_O := fun x => wchosen x.1 x.2
theorem cond_app {R : Type} {b : Bool} {out t : Str} {c : Str → Option R} (ho : out.length ≤ 100000000000) : cond b ((app out t).bind c) (c out) = (app out (cond b t [])).bind c := by
  cases b with
  | true => rfl
  | false => rw [cond_f, cond_f, app_nil ho]; rfl
theorem wchosen_b (k : Nat) (s : Stm) (out : Str) (hb : BdStm s) (h : okS s = true) (hk : fuelS s ≤ k) : wchosen_body k (s, out) = app out (selT s) := by
  simp only [okS, Bool.and_eq_true, decide_eq_true_eq] at h
  obtain ⟨⟨h1, h2⟩, h3⟩ := h
  simp only [fuelS] at hk
  have hl := List.all_eq_true.1 h1
  have hz : (s.order.zip s.desc).length = s.order.length := by rw [List.length_zip]; omega
  have hend : ∀ x : Str, x.length ≤ 100000000000 → cond (decide (0 ≤ s.most)) (app x ([32, 76, 73, 77, 73, 84, 32] ++ vprint ⟨3, s.most, []⟩)) (some x) = app x (limT s) := fun x hx => by
    simp only [limT]
    cases decide (0 ≤ s.most) with
    | true => rfl
    | false => rw [cond_f, cond_f, app_nil hx]
  have hord : ∀ (kx : Ex → wchosen_1_V → Option wchosen_O), (∀ acc, kx (.exit 0) ((s.order.length : Int), (s.order.length : Int), acc, s) = cond (decide (0 ≤ s.most)) (app acc ([32, 76, 73, 77, 73, 84, 32] ++ vprint ⟨3, s.most, []⟩)) (some acc)) → ∀ x : Str, x.length ≤ 100000000000 →
      iter (fun rec => wchosen_1 rec kx) k ((s.order.length : Int), 0, x, s) = (app x (listT ordT (s.order.zip s.desc))).bind fun x => app x (limT s) := fun kx hkx x hx => by
    refine (list_loop (s.order.zip s.desc) ordT (fun i acc => ((s.order.length : Int), (i : Int), acc, s)) (fun acc => cond (decide (0 ≤ s.most)) (app acc ([32, 76, 73, 77, 73, 84, 32] ++ vprint ⟨3, s.most, []⟩)) (some acc)) (fun i hi acc rec => ?_) (fun acc rec => ?_) k (by omega) x hx).trans (app_congr hend)
    · have hi1 : i < s.order.length := by omega
      have hi2 : i < s.desc.length := by omega
      have hg : (s.order.zip s.desc)[i] = (s.order[i], s.desc[i]) := by simp
      simp only [wchosen_1, lt_t hi1, cond_t, inb_t hi1, inb_t hi2, chk, at_nat (c := .str) hi1, at_nat (c := .bool) hi2, wr_succ hi1 hb.order.1, ww, fl1, hg]
      have hitem : ∀ q : Str, ((app q s.order[i]).bind fun x8 => cond s.desc[i] ((app x8 [32, 68, 69, 83, 67]).bind fun x9 => rec ((s.order.length : Int), ((i + 1 : Nat) : Int), x9, s)) (rec ((s.order.length : Int), ((i + 1 : Nat) : Int), x8, s))) = (app q (ordT (s.order[i], s.desc[i]))).bind fun x => rec ((s.order.length : Int), ((i + 1 : Nat) : Int), x, s) := fun q => by
        simp only [ordT]
        rw [← app_cont]
        exact app_congr fun x hx => cond_app hx
      simp only [hitem]
      exact sep_step i acc _ _
    · rw [hz]
      simp only [wchosen_1, lt_n, cond_f, hkx]
  simp only [wchosen_body, ww, fl1, fl2]
  have hsel : ∀ (kx : Ex → wchosen_0_V → Option wchosen_O), (∀ acc : Str, acc.length ≤ 100000000000 → kx (.exit 0) ((s.l.length : Int), (s.l.length : Int), acc, s) = app acc (([32, 70, 82, 79, 77, 32] ++ s.name) ++ whT s ++ obT s ++ listT ordT (s.order.zip s.desc) ++ limT s)) → ∀ x : Str, x.length ≤ 100000000000 →
      iter (fun rec => wchosen_0 rec kx) k ((s.l.length : Int), 0, x, s) = app x (listT etx s.l ++ (([32, 70, 82, 79, 77, 32] ++ s.name) ++ whT s ++ obT s ++ listT ordT (s.order.zip s.desc) ++ limT s)) := fun kx hkx x hx => by
    refine (list_loop s.l etx (fun i acc => ((s.l.length : Int), (i : Int), acc, s)) (fun acc => kx (.exit 0) ((s.l.length : Int), (s.l.length : Int), acc, s)) (fun i hi acc rec => ?_) (fun acc rec => ?_) k (by omega) x hx).trans ((app_congr hkx).trans (app_app _ _ _))
    · simp only [wchosen_0, lt_t hi, cond_t, inb_t hi, chk, at_nat (c := .expr) hi, we (hl _ (List.getElem_mem hi)), wr_succ hi hb.l.1, ww, fl1]
      exact sep_step i acc _ _
    · simp only [wchosen_0, lt_n, cond_f]
  refine (app_congr fun x hx => (cond_app hx).trans (app_congr fun q hq => hsel _ (fun acc ha => ?_) q hq)).trans ?_
  · show ((app acc ([32, 70, 82, 79, 77, 32] ++ s.name)).bind fun x4 => (wwhere_F (s, x4)).bind fun x5 => cond (decide (0 < (s.order.length : Int))) ((app x5 [32, 79, 82, 68, 69, 82, 32, 66, 89, 32]).bind fun x6 => iter (fun rec => wchosen_1 rec _) k ((s.order.length : Int), 0, x6, s)) (iter (fun rec => wchosen_1 rec _) k ((s.order.length : Int), 0, x5, s))) = _
    simp only [wh h2]
    rw [app_cont]
    refine (app_congr fun x5 hx5 => (cond_app hx5).trans (app_congr fun y hy => hord _ (fun _ => ?_) y hy)).trans ?_
    · simp only [app_one, vprint]
    · simp only [app_app, obT, List.append_assoc]
  · simp only [app_app, selT, List.append_assoc]
theorem wchosen_ok : FnLn Tryd.prog elT glT 56 wchosen_si wchosen_so wchosen_F := .fin 0 wchosen_run fun (s, out) r hb hx => ⟨fuelS s, by
  have hx : cond (okS s) (app out (selT s)) none = some r := hx
  cases ho : okS s with
  | false => rw [ho] at hx; cases hx
  | true =>
    rw [ho] at hx
    exact (wchosen_b (fuelS s) s out hb.1 ho (Nat.le_refl _)).trans hx⟩
theorem ws {s : Stm} (h : okS s = true) (out : Str) : wchosen_F (s, out) = app out (selT s) := by
  show cond (okS s) _ _ = _
  rw [h]
  rfl
/-! ## a statement's text -/
def rowT (r : List Xpr) : Str := [40] ++ (listT etx r ++ [41])
def setT (x : SetE) : Str := x.name ++ [32, 61, 32] ++ etx x.e
def printT (s : Stm) : Str :=
  if s.kind = 1 then tableT s
  else if s.kind = 2 then [68, 82, 79, 80, 32, 84, 65, 66, 76, 69, 32] ++ s.name
  else if s.kind = 3 then [67, 82, 69, 65, 84, 69, 32, 73, 78, 68, 69, 88, 32] ++ (s.name ++ ([32, 79, 78, 32] ++ (s.on ++ [32]))) ++ nmT s.names
  else if s.kind = 4 then [68, 82, 79, 80, 32, 73, 78, 68, 69, 88, 32] ++ s.name
  else if s.kind = 5 then [73, 78, 83, 69, 82, 84, 32, 73, 78, 84, 79, 32] ++ (s.name ++ [32, 86, 65, 76, 85, 69, 83, 32]) ++ listT rowT s.rows
  else if s.kind = 6 then [85, 80, 68, 65, 84, 69, 32] ++ (s.name ++ [32, 83, 69, 84, 32]) ++ listT setT s.sets ++ whT s
  else if s.kind = 7 then [68, 69, 76, 69, 84, 69, 32, 70, 82, 79, 77, 32] ++ s.name ++ whT s
  else selT s
def okP (s : Stm) : Bool :=
  if s.kind = 1 then okT s
  else if s.kind = 2 ∨ s.kind = 4 then true
  else if s.kind = 3 then okNm s.names
  else if s.kind = 5 then s.rows.all fun r => r.all okx
  else if s.kind = 6 then s.sets.all (fun x => okx x.e) && okW s
  else if s.kind = 7 then okW s
  else decide (s.kind = 8) && okS s
/-! ## exchequer/ast.Print -/
def aprint_2_sg : Sig := ⟨20, [(7, .int .i64), (8, .int .i64)], [(0, .ptr 1 0), (2, .fn 54 [.ptr 1 0, .ptr 0 0])], [(0, .one (.sv .stmt)), (1, .bld 86)], 40, 40, 200, [2], []⟩
abbrev aprint_2_V := Int × Int × Stm × List UInt8
def aprint_2 {R : Type} (rec : aprint_2_V → Option R) (kx : Ex → aprint_2_V → Option R) (v : aprint_2_V) : Option R := match v with
 | (v13, v14, w5, w6) =>
  cond (decide (v14 < v13)) (
   let j2 := fun (q2 : List UInt8) =>
    chk (inb v14 w5.sets.length) (
     (wwords_F ([((at' .set w5.sets v14).name), [32, 61, 32]], q2)).bind fun x14 =>
      chk (inb v14 w5.sets.length) (
       (wexpr_F ((xeta ((at' .set w5.sets v14).e)), x14)).bind fun x15 =>
        rec (v13, (wr .i64 (v14 + 1)), w5, x15)))
   cond (decide (0 < v14)) (
    (wwords_F ([[44, 32]], w6)).bind fun x13 =>
     j2 x13) (
    j2 w6)) (
   kx (.exit 0) (v13, v14, w5, w6))
def aprint_1_sg : Sig := ⟨20, [(7, .int .i64), (8, .int .i64)], [(0, .ptr 1 0), (2, .fn 53 [.ptr 1 0, .ptr 0 0, .ptr 80 0])], [(0, .one (.sv .stmt)), (1, .bld 86), (80, .cells [.int .i64])], 120, 120, 600, [400, 2], []⟩
abbrev aprint_1_V := Int × Int × Stm × List UInt8 × Int
def aprint_1 {R : Type} (rec : aprint_1_V → Option R) (kx : Ex → aprint_1_V → Option R) (v : aprint_1_V) : Option R := match v with
 | (v2, v3, w2, w3, w4) =>
  cond (decide (v3 < v2)) (
   let j := fun (q1 : List UInt8) =>
    chk (inb w4 w2.rows.length) (
     chk (inb v3 ((at' .exprs w2.rows w4).length)) (
      (wexpr_F ((at' .expr (at' .exprs w2.rows w4) v3), q1)).bind fun x10 =>
       rec (v2, (wr .i64 (v3 + 1)), w2, x10, w4)))
   cond (decide (0 < v3)) (
    (wwords_F ([[44, 32]], w3)).bind fun x9 =>
     j x9) (
    j w3)) (
   kx (.exit 0) (v2, v3, w2, w3, w4))
def aprint_0_sg : Sig := ⟨20, [(7, .int .i64), (8, .int .i64)], [(0, .ptr 1 0), (2, .fn 52 [.ptr 1 0, .ptr 0 0])], [(0, .one (.sv .stmt)), (1, .bld 86)], 40, 40, 200, [2], []⟩
abbrev aprint_0_V := Int × Int × Stm × List UInt8
def aprint_0 {R : Type} (k : Nat) (rec : aprint_0_V → Option R) (kx : Ex → aprint_0_V → Option R) (v : aprint_0_V) : Option R := match v with
 | (v, v1, w, w1) =>
  cond (decide (v1 < v)) (
   let j1 := fun (q : List UInt8) =>
    (wwords_F ([[40]], q)).bind fun x8 =>
     chk (inb v1 w.rows.length) (
      iter (fun rc => aprint_1 rc (fun e vz => match vz with | (_, _, v6, v7, _) => match e with
       | .exit 0 =>
        (wwords_F ([[41]], v7)).bind fun x11 =>
         rec (v, (wr .i64 (v1 + 1)), v6, x11)
       | _ => none)) k (((at' .exprs w.rows v1).length : Int), 0, w, x8, v1))
   cond (decide (0 < v1)) (
    (wwords_F ([[44, 32]], w1)).bind fun x7 =>
     j1 x7) (
    j1 w1)) (
   kx (.exit 0) (v, v1, w, w1))
def aprint_pxi0i0i0i0 (R : Type) (_k : Nat) : Px R := ⟨ttOf ttL, glT, callT [(46, callLn wexpr_si wexpr_so wexpr_F)], callQT [], loopT []⟩
noncomputable def aprint_pxi0i0i0 (R : Type) (k : Nat) : Px R := ⟨ttOf ttL, glT, callT [(49, callLn wwords_si wwords_so wwords_F), (53, callRun 160 800 (aprint_pxi0i0i0i0 R k) Tryd.f53)], callQT [], loopT [(1, loopOr k aprint_1_sg (aprint_1))]⟩
noncomputable def aprint_pxi0i0 (R : Type) (k : Nat) : Px R := ⟨ttOf ttL, glT, callT [(49, callLn wwords_si wwords_so wwords_F), (51, callRun 120 600 (aprint_pxi0i0i0 R k) Tryd.f51)], callQT [], loopT []⟩
def aprint_pxi0i1 (R : Type) (_k : Nat) : Px R := ⟨ttOf ttL, glT, callT [(49, callLn wwords_si wwords_so wwords_F), (46, callLn wexpr_si wexpr_so wexpr_F)], callQT [], loopT []⟩
noncomputable def aprint_pxi0 (R : Type) (k : Nat) : Px R := ⟨ttOf ttL, glT, callT [(49, callLn wwords_si wwords_so wwords_F), (52, callRun 80 400 (aprint_pxi0i0 R k) Tryd.f52), (54, callRun 80 400 (aprint_pxi0i1 R k) Tryd.f54)], callQT [], loopT [(1, loopTry k aprint_0_sg (aprint_0 k) (loopOr k aprint_2_sg (aprint_2)))]⟩
noncomputable def aprint_px (R : Type) (k : Nat) : Px R := ⟨ttOf ttL, glT, callT [(32, callOr [.sv .stmt] [.int .i64] acheck_F), (48, callLn wtable_si wtable_so wtable_F), (49, callLn wwords_si wwords_so wwords_F), (50, callLn wnames_si wnames_so wnames_F), (55, callLn wwhere_si wwhere_so wwhere_F), (56, callLn wchosen_si wchosen_so wchosen_F), (47, callLn bstr_si bstr_so bstr_F), (51, callRun 40 200 (aprint_pxi0 R k) Tryd.f51)], callQT [], loopT []⟩
theorem aprint_1_eq (R : Type) (k : Nat) : ∀ (fr : List Fr) (rec : aprint_1_V → Option R) (kx : Ex → aprint_1_V → Option R) (v : aprint_1_V), round (aprint_pxi0i0i0 R k) aprint_1_sg (lp Tryd.f51 0) fr rec kx v = aprint_1 rec kx v
  | fr, rec, kx, (v2, v3, w2, w3, w4) => by kernel_rfl
theorem aprint_0_eq (R : Type) (k : Nat) : ∀ (fr : List Fr) (rec : aprint_0_V → Option R) (kx : Ex → aprint_0_V → Option R) (v : aprint_0_V), round (aprint_pxi0 R k) aprint_0_sg (lp Tryd.f51 0) fr rec kx v = aprint_0 k rec kx v
  | fr, rec, kx, (v, v1, w, w1) => by kernel_rfl
theorem aprint_2_eq (R : Type) (k : Nat) : ∀ (fr : List Fr) (rec : aprint_2_V → Option R) (kx : Ex → aprint_2_V → Option R) (v : aprint_2_V), round (aprint_pxi0 R k) aprint_2_sg (lp Tryd.f51 0) fr rec kx v = aprint_2 rec kx v
  | fr, rec, kx, (v13, v14, w5, w6) => by kernel_rfl
def aprint_body (k : Nat) (x : HV [.sv .stmt]) : Option (HV [.str, .int .i64]) := match x with
 | s =>
  (acheck s).bind fun x =>
   cond (!decide (x = 0)) (
    some ([], x)) (
    cond (decide (s.kind = 1)) (
     (wtable_F (s, [])).bind fun x1 =>
      (bstr_F x1).bind fun x21 =>
       some (x21, 0)) (
     cond (decide (s.kind = 2)) (
      (wwords_F ([[68, 82, 79, 80, 32, 84, 65, 66, 76, 69, 32], s.name], [])).bind fun x2 =>
       (bstr_F x2).bind fun x22 =>
        some (x22, 0)) (
      cond (decide (s.kind = 3)) (
       (wwords_F ([[67, 82, 69, 65, 84, 69, 32, 73, 78, 68, 69, 88, 32], s.name, [32, 79, 78, 32], s.on, [32]], [])).bind fun x3 =>
        (wnames_F (s.names, x3)).bind fun x4 =>
         (bstr_F x4).bind fun x23 =>
          some (x23, 0)) (
       cond (decide (s.kind = 4)) (
        (wwords_F ([[68, 82, 79, 80, 32, 73, 78, 68, 69, 88, 32], s.name], [])).bind fun x5 =>
         (bstr_F x5).bind fun x24 =>
          some (x24, 0)) (
        cond (decide (s.kind = 5)) (
         (wwords_F ([[73, 78, 83, 69, 82, 84, 32, 73, 78, 84, 79, 32], s.name, [32, 86, 65, 76, 85, 69, 83, 32]], [])).bind fun x6 =>
          iter (fun rec => aprint_0 k rec (fun e vz => match vz with | (_, _, _, v12) => match e with
           | .exit 0 =>
            (bstr_F v12).bind fun x25 =>
             some (x25, 0)
           | _ => none)) k ((s.rows.length : Int), 0, s, x6)) (
         cond (decide (s.kind = 6)) (
          (wwords_F ([[85, 80, 68, 65, 84, 69, 32], s.name, [32, 83, 69, 84, 32]], [])).bind fun x12 =>
           iter (fun rec => aprint_2 rec (fun e vz => match vz with | (_, _, v17, v18) => match e with
            | .exit 0 =>
             (wwhere_F (v17, v18)).bind fun x16 =>
              (bstr_F x16).bind fun x26 =>
               some (x26, 0)
            | _ => none)) k ((s.sets.length : Int), 0, s, x12)) (
          cond (decide (s.kind = 7)) (
           (wwords_F ([[68, 69, 76, 69, 84, 69, 32, 70, 82, 79, 77, 32], s.name], [])).bind fun x17 =>
            (wwhere_F (s, x17)).bind fun x18 =>
             (bstr_F x18).bind fun x27 =>
              some (x27, 0)) (
           cond (decide (s.kind = 8)) (
            (wchosen_F (s, [])).bind fun x19 =>
             (bstr_F x19).bind fun x28 =>
              some (x28, 0)) (
            (bstr_F []).bind fun x29 =>
             some (x29, 0))))))))))
theorem aprint_eq (k : Nat) : ∀ (x : HV [.sv .stmt]), runF (aprint_px _ k) Tryd.f22 [.sv .stmt] [.str, .int .i64] x some = aprint_body k x
  | s => by kernel_rfl
theorem aprint_run (k : Nat) : FnOk Tryd.prog elT glT 22 [.sv .stmt] [.str, .int .i64] (aprint_body k) := by
  refine fnOk_run Tryd.func22 rfl (by kernel_rfl) follows (by kernel_rfl) (n := 0) (by kernel_rfl) (px := aprint_px _ k) (fun cx hP hel hgl => ?_) (aprint_eq k)
  have hp4 : PxOk cx (aprint_pxi0i0i0i0 (HV [.str, .int .i64]) k) := ⟨fun t => by rw [hP, hel]; exact tt_ok ttL_ok t, by rw [hgl]; rfl⟩
  have hc4 : CallOk cx (aprint_pxi0i0i0i0 (HV [.str, .int .i64]) k) := callT_ok rfl (cfs_cons (cf_ln (by rw [hP, hel, hgl]; exact wexpr_ok) (by kernel_rfl)) cfs_nil)
  have hq4 : CallQOk cx (aprint_pxi0i0i0i0 (HV [.str, .int .i64]) k) := callQT_ok rfl cqfs_nil
  have hp3 : PxOk cx (aprint_pxi0i0i0 (HV [.str, .int .i64]) k) := ⟨fun t => by rw [hP, hel]; exact tt_ok ttL_ok t, by rw [hgl]; rfl⟩
  have hc3 : CallOk cx (aprint_pxi0i0i0 (HV [.str, .int .i64]) k) := callT_ok rfl (cfs_cons (cf_ln (by rw [hP, hel, hgl]; exact wwords_ok) (by kernel_rfl)) (cfs_cons (cf_run hp4 hc4 hq4 (by rw [hP]; exact follows) (by rw [hP]; exact Tryd.func53) rfl (by kernel_rfl) (by kernel_rfl) (n := 0) (by kernel_rfl) (all0)) cfs_nil))
  have hq3 : CallQOk cx (aprint_pxi0i0i0 (HV [.str, .int .i64]) k) := callQT_ok rfl cqfs_nil
  have hlaprint_1 : LoopOk cx (aprint_pxi0i0i0 (HV [.str, .int .i64]) k) (lp Tryd.f51 0) := loop_ok hp3 hc3 hq3 (by rw [hP]; exact follows) (k := k) (s := aprint_1_sg) (step := aprint_1) (fun _ _ => by kernel_rfl) (by kernel_rfl) (aprint_1_eq _ k) (loops_in (n := 0) (by kernel_rfl) all0)
  have hp2 : PxOk cx (aprint_pxi0i0 (HV [.str, .int .i64]) k) := ⟨fun t => by rw [hP, hel]; exact tt_ok ttL_ok t, by rw [hgl]; rfl⟩
  have hc2 : CallOk cx (aprint_pxi0i0 (HV [.str, .int .i64]) k) := callT_ok rfl (cfs_cons (cf_ln (by rw [hP, hel, hgl]; exact wwords_ok) (by kernel_rfl)) (cfs_cons (cf_run hp3 hc3 hq3 (by rw [hP]; exact follows) (by rw [hP]; exact Tryd.func51) rfl (by kernel_rfl) (by kernel_rfl) (n := 1) (by kernel_rfl) ((allS all0 hlaprint_1))) cfs_nil))
  have hq2 : CallQOk cx (aprint_pxi0i0 (HV [.str, .int .i64]) k) := callQT_ok rfl cqfs_nil
  have hp5 : PxOk cx (aprint_pxi0i1 (HV [.str, .int .i64]) k) := ⟨fun t => by rw [hP, hel]; exact tt_ok ttL_ok t, by rw [hgl]; rfl⟩
  have hc5 : CallOk cx (aprint_pxi0i1 (HV [.str, .int .i64]) k) := callT_ok rfl (cfs_cons (cf_ln (by rw [hP, hel, hgl]; exact wwords_ok) (by kernel_rfl)) (cfs_cons (cf_ln (by rw [hP, hel, hgl]; exact wexpr_ok) (by kernel_rfl)) cfs_nil))
  have hq5 : CallQOk cx (aprint_pxi0i1 (HV [.str, .int .i64]) k) := callQT_ok rfl cqfs_nil
  have hp1 : PxOk cx (aprint_pxi0 (HV [.str, .int .i64]) k) := ⟨fun t => by rw [hP, hel]; exact tt_ok ttL_ok t, by rw [hgl]; rfl⟩
  have hc1 : CallOk cx (aprint_pxi0 (HV [.str, .int .i64]) k) := callT_ok rfl (cfs_cons (cf_ln (by rw [hP, hel, hgl]; exact wwords_ok) (by kernel_rfl)) (cfs_cons (cf_run hp2 hc2 hq2 (by rw [hP]; exact follows) (by rw [hP]; exact Tryd.func52) rfl (by kernel_rfl) (by kernel_rfl) (n := 0) (by kernel_rfl) (all0)) (cfs_cons (cf_run hp5 hc5 hq5 (by rw [hP]; exact follows) (by rw [hP]; exact Tryd.func54) rfl (by kernel_rfl) (by kernel_rfl) (n := 0) (by kernel_rfl) (all0)) cfs_nil)))
  have hq1 : CallQOk cx (aprint_pxi0 (HV [.str, .int .i64]) k) := callQT_ok rfl cqfs_nil
  have hlaprint_0 : LoopOk cx (aprint_pxi0 (HV [.str, .int .i64]) k) (lp Tryd.f51 0) := loop_of (fun _ _ => by kernel_rfl) (loopW_try (loopW_or hp1 hc1 hq1 (by rw [hP]; exact follows) (k := k) (s := aprint_0_sg) (step := aprint_0 k) (by kernel_rfl) (aprint_0_eq _ k) (loops_in (n := 0) (by kernel_rfl) all0)) (loopW_or hp1 hc1 hq1 (by rw [hP]; exact follows) (k := k) (s := aprint_2_sg) (step := aprint_2) (by kernel_rfl) (aprint_2_eq _ k) (loops_in (n := 0) (by kernel_rfl) all0)))
  have hp0 : PxOk cx (aprint_px (HV [.str, .int .i64]) k) := ⟨fun t => by rw [hP, hel]; exact tt_ok ttL_ok t, by rw [hgl]; rfl⟩
  have hc0 : CallOk cx (aprint_px (HV [.str, .int .i64]) k) := callT_ok rfl (cfs_cons (cf_or (by rw [hP, hel, hgl]; exact acheck_ok) (by kernel_rfl)) (cfs_cons (cf_ln (by rw [hP, hel, hgl]; exact wtable_ok) (by kernel_rfl)) (cfs_cons (cf_ln (by rw [hP, hel, hgl]; exact wwords_ok) (by kernel_rfl)) (cfs_cons (cf_ln (by rw [hP, hel, hgl]; exact wnames_ok) (by kernel_rfl)) (cfs_cons (cf_ln (by rw [hP, hel, hgl]; exact wwhere_ok) (by kernel_rfl)) (cfs_cons (cf_ln (by rw [hP, hel, hgl]; exact wchosen_ok) (by kernel_rfl)) (cfs_cons (cf_ln (by rw [hP, hel, hgl]; exact bstr_ok) (by kernel_rfl)) (cfs_cons (cf_run hp1 hc1 hq1 (by rw [hP]; exact follows) (by rw [hP]; exact Tryd.func51) rfl (by kernel_rfl) (by kernel_rfl) (n := 1) (by kernel_rfl) ((allS all0 hlaprint_0))) cfs_nil))))))))
  have hq0 : CallQOk cx (aprint_px (HV [.str, .int .i64]) k) := callQT_ok rfl cqfs_nil
  exact ⟨hp0, hc0, hq0, all0⟩
def aprint (s : Stm) : Option (Str × Int) := (acheck s).bind fun x => cond (!decide (x = 0)) (some ([], x)) (cond (okP s) ((app [] (printT s)).bind fun t => some (t, 0)) none)
def aprint_F : FT [.sv .stmt] [.str, .int .i64] := fun x => aprint x
theorem aprint_1_loop {R : Type} {kx : Ex → aprint_1_V → Option R} {s : Stm} {j : Nat} {c : Str → Option R} (hj : j < s.rows.length) (hn : ln s.rows[j].length) (hok : s.rows[j].all okx = true) (h2 : ∀ acc, kx (.exit 0) ((s.rows[j].length : Int), (s.rows[j].length : Int), s, acc, (j : Int)) = c acc) (k : Nat) (hk : s.rows[j].length < k) (out : Str) (ho : out.length ≤ 100000000000) :
    iter (fun rec => aprint_1 rec kx) k ((s.rows[j].length : Int), 0, s, out, (j : Int)) = (app out (listT etx s.rows[j])).bind c := by
  have hl := List.all_eq_true.1 hok
  refine list_loop s.rows[j] etx (fun i acc => ((s.rows[j].length : Int), (i : Int), s, acc, (j : Int))) c (fun i hi acc rec => ?_) (fun acc rec => ?_) k hk out ho
  · simp only [aprint_1, lt_t hi, cond_t, inb_t hi, inb_t hj, chk, at_nat (c := .exprs) hj, at_nat (c := .expr) hi, we (hl _ (List.getElem_mem hi)), wr_succ hi hn, ww, fl1]
    exact sep_step i acc _ _
  · simp only [aprint_1, lt_n, cond_f, h2]
theorem aprint_0_loop {R : Type} {kx : Ex → aprint_0_V → Option R} {s : Stm} {c : Str → Option R} (hb : BdStm s) (hok : (s.rows.all fun r => r.all okx) = true) (h2 : ∀ acc, kx (.exit 0) ((s.rows.length : Int), (s.rows.length : Int), s, acc) = c acc) (k : Nat) (hk : fuelS s ≤ k) (out : Str) (ho : out.length ≤ 100000000000) :
    iter (fun rec => aprint_0 k rec kx) k ((s.rows.length : Int), 0, s, out) = (app out (listT rowT s.rows)).bind c := by
  have hl := List.all_eq_true.1 hok
  simp only [fuelS] at hk
  refine list_loop s.rows rowT (fun i acc => ((s.rows.length : Int), (i : Int), s, acc)) c (fun i hi acc rec => ?_) (fun acc rec => ?_) k (by omega) out ho
  · have hm := sum_mem (List.getElem_mem hi)
    have hrow : ∀ q : Str, ((app q [40]).bind fun x8 => iter (fun rc => aprint_1 rc (fun e v => match v with
        | (_, _, v6, v7, _) => match e with
          | .exit 0 => (app v7 [41]).bind fun x11 => rec ((s.rows.length : Int), ((i + 1 : Nat) : Int), v6, x11)
          | _ => none)) k ((s.rows[i].length : Int), 0, s, x8, (i : Int))) = (app q (rowT s.rows[i])).bind fun x => rec ((s.rows.length : Int), ((i + 1 : Nat) : Int), s, x) := fun q => by
      refine (app_congr fun x hx => aprint_1_loop (c := fun acc => (app acc [41]).bind fun x11 => rec ((s.rows.length : Int), ((i + 1 : Nat) : Int), s, x11)) hi (hb.rows.2 _ (List.getElem_mem hi)).1 (hl _ (List.getElem_mem hi)) (fun _ => rfl) k (by omega) x hx).trans ?_
      simp only [app_cont, rowT]
    simp only [aprint_0, lt_t hi, cond_t, inb_t hi, chk, at_nat (c := .exprs) hi, wr_succ hi hb.rows.1, ww, fl1]
    refine Eq.trans ?_ (sep_step i acc _ _)
    have e : ∀ (b : Bool) (x y x' y' : Option R), x = x' → y = y' → cond b x y = cond b x' y' := fun _ _ _ _ _ h1 h2 => by rw [h1, h2]
    exact e _ _ _ _ _ (app_congr fun x _ => hrow x) (hrow acc)
  · simp only [aprint_0, lt_n, cond_f, h2]
theorem aprint_2_loop {R : Type} {kx : Ex → aprint_2_V → Option R} {s : Stm} {c : Str → Option R} (hb : BdStm s) (hok : (s.sets.all fun x => okx x.e) = true) (h2 : ∀ acc, kx (.exit 0) ((s.sets.length : Int), (s.sets.length : Int), s, acc) = c acc) (k : Nat) (hk : s.sets.length < k) (out : Str) (ho : out.length ≤ 100000000000) :
    iter (fun rec => aprint_2 rec kx) k ((s.sets.length : Int), 0, s, out) = (app out (listT setT s.sets)).bind c := by
  have hl := List.all_eq_true.1 hok
  refine list_loop s.sets setT (fun i acc => ((s.sets.length : Int), (i : Int), s, acc)) c (fun i hi acc rec => ?_) (fun acc rec => ?_) k hk out ho
  · simp only [aprint_2, lt_t hi, cond_t, inb_t hi, chk, at_nat (c := .set) hi, xeta_eq, we (hl _ (List.getElem_mem hi)), wr_succ hi hb.sets.1, ww, fl1, fl2]
    have hitem : ∀ q : Str, ((app q (s.sets[i].name ++ [32, 61, 32])).bind fun x14 => (app x14 (etx s.sets[i].e)).bind fun x15 => rec ((s.sets.length : Int), ((i + 1 : Nat) : Int), s, x15)) = (app q (setT s.sets[i])).bind fun x => rec ((s.sets.length : Int), ((i + 1 : Nat) : Int), s, x) := fun q => by
      rw [app_cont]
      rfl
    simp only [hitem]
    exact sep_step i acc _ _
  · simp only [aprint_2, lt_n, cond_f, h2]
theorem bs (x : Str) : ((bstr_F x).bind fun t => some (t, (0 : Int))) = some (x, 0) := rfl
theorem aprint_b (k : Nat) (s : Stm) (hb : BdStm s) (hk : fuelS s ≤ k) (h : okP s = true) (hc : acheck s = some 0) : aprint_body k s = ((app [] (printT s)).bind fun t => some (t, 0)) := by
  have hk2 := hk
  simp only [fuelS] at hk2
  simp only [aprint_body, hc, Option.bind_some, bs, ww, fl2, fl3, fl5]
  simp only [okP] at h
  simp only [printT]
  rw [decide_true, Bool.not_true, cond_f]
  by_cases h1 : s.kind = 1
  · rw [if_pos h1] at h
    rw [decide_eq_true h1, if_pos h1, cond_t, wt h]
  rw [if_neg h1] at h
  rw [decide_eq_false h1, if_neg h1, cond_f]
  by_cases h2 : s.kind = 2
  · rw [decide_eq_true h2, if_pos h2, cond_t]
  rw [decide_eq_false h2, if_neg h2, cond_f]
  by_cases h3 : s.kind = 3
  · rw [if_neg (by omega), if_pos h3] at h
    rw [decide_eq_true h3, if_pos h3, cond_t]
    simp only [wn h, app_cont]
  rw [decide_eq_false h3, if_neg h3, cond_f]
  by_cases h4 : s.kind = 4
  · rw [decide_eq_true h4, if_pos h4, cond_t]
  rw [if_neg (by omega), if_neg h3] at h
  rw [decide_eq_false h4, if_neg h4, cond_f]
  by_cases h5 : s.kind = 5
  · rw [if_pos h5] at h
    rw [decide_eq_true h5, if_pos h5, cond_t]
    refine (app_congr fun x hx => aprint_0_loop (c := fun t => some (t, (0 : Int))) hb h (fun _ => rfl) k hk x hx).trans ?_
    rw [app_cont]
  rw [if_neg h5] at h
  rw [decide_eq_false h5, if_neg h5, cond_f]
  by_cases h6 : s.kind = 6
  · rw [if_pos h6, Bool.and_eq_true] at h
    rw [decide_eq_true h6, if_pos h6, cond_t]
    refine (app_congr fun x hx => aprint_2_loop (c := fun t => (app t (whT s)).bind fun t => some (t, (0 : Int))) hb h.1 (fun acc => ?_) k (by omega) x hx).trans ?_
    · show ((wwhere_F (s, acc)).bind fun x16 => some (x16, (0 : Int))) = _
      rw [wh h.2]
    · simp only [app_cont, List.append_assoc]
  rw [if_neg h6] at h
  rw [decide_eq_false h6, if_neg h6, cond_f]
  by_cases h7 : s.kind = 7
  · rw [if_pos h7] at h
    rw [decide_eq_true h7, if_pos h7, cond_t]
    simp only [wh h, app_cont]
  rw [if_neg h7, Bool.and_eq_true, decide_eq_true_eq] at h
  rw [decide_eq_false h7, if_neg h7, cond_f, decide_eq_true h.1, cond_t, ws h.2]
theorem aprint_ok : FnOk Tryd.prog elT glT 22 [.sv .stmt] [.str, .int .i64] aprint_F := .fin 0 aprint_run fun s r hb hx => ⟨fuelS s, by
  have hx : aprint s = some r := hx
  simp only [aprint] at hx
  cases hc : acheck s with
  | none => rw [hc] at hx; cases hx
  | some x =>
    rw [hc, Option.bind_some] at hx
    by_cases h0 : x = 0
    · subst h0
      cases ho : okP s with
      | false => rw [ho] at hx; cases hx
      | true =>
        rw [ho] at hx
        exact (aprint_b (fuelS s) s hb (Nat.le_refl _) ho hc).trans hx
    · rw [decide_eq_false h0] at hx
      rw [← hx]
      simp only [aprint_body, hc, Option.bind_some]
      rw [decide_eq_false h0]
      rfl⟩
end Go.Proofs.YtjpcghlpkinahaaDoor

/- The document's answer: may a value be. -/
namespace Go.Proofs.YtjpcghlpkinahaaDoor
open Go.Ax
theorem vcheck_iff {v : Val} : vcheck v = 0 ↔ vright v = true := by
  simp only [vcheck]
  cases vright v <;> simp
end Go.Proofs.YtjpcghlpkinahaaDoor

/- The document's answer: the names in an expression; what is fixed in the heads of chapter 13's laws. -/
namespace Go.Proofs.YtjpcghlpkinahaaDoor
open Go.Ax
/-! ## exchequer/exchequerref13.Has -/
def rhas_0_sg : Sig := ⟨18, [(0, .sl .str false), (1, .str), (4, .bool), (5, .int .i64)], [], [], 0, 0, 0, [], []⟩
abbrev rhas_0_V := List Str × Str × Bool × Int
def rhas_0 {R : Type} (rec : rhas_0_V → Option R) (kx : Ex → rhas_0_V → Option R) (v : rhas_0_V) : Option R := match v with
 | (v, v1, v2, v3) =>
  cond (decide (v3 < (v.length : Int))) (
   chk (inb v3 v.length) (
    cond (decide ((at' .str v v3) = v1)) (
     kx .ret (v, v1, true, v3)) (
     rec (v, v1, v2, (wr .i64 (v3 + 1)))))) (
   kx (.exit 0) (v, v1, v2, v3))
def rhas_px (R : Type) (k : Nat) : Px R := ⟨ttOf ttL, glT, callT [], callQT [], loopT [(2, loopOr k rhas_0_sg (rhas_0))]⟩
theorem rhas_0_eq (R : Type) (k : Nat) : ∀ (fr : List Fr) (rec : rhas_0_V → Option R) (kx : Ex → rhas_0_V → Option R) (v : rhas_0_V), round (rhas_px R k) rhas_0_sg (lp Tryd.f29 0) fr rec kx v = rhas_0 rec kx v
  | fr, rec, kx, (v, v1, v2, v3) => by kernel_rfl
def rhas_body (k : Nat) (x : HV [.sl .str false, .str]) : Option (HV [.bool]) := match x with
 | (l, s) =>
  iter (fun rec => rhas_0 rec (fun e vz => match vz with | (_, _, v6, _) => match e with
   | .ret =>
    some v6
   | .exit 0 =>
    some false
   | _ => none)) k (l, s, false, 0)
theorem rhas_eq (k : Nat) : ∀ (x : HV [.sl .str false, .str]), runF (rhas_px _ k) Tryd.f29 [.sl .str false, .str] [.bool] x some = rhas_body k x
  | (l, s) => by kernel_rfl
theorem rhas_run (k : Nat) : FnOk Tryd.prog elT glT 29 [.sl .str false, .str] [.bool] (rhas_body k) := by
  refine fnOk_run Tryd.func29 rfl (by kernel_rfl) follows (by kernel_rfl) (n := 1) (by kernel_rfl) (px := rhas_px _ k) (fun cx hP hel hgl => ?_) (rhas_eq k)
  have hp0 : PxOk cx (rhas_px (HV [.bool]) k) := ⟨fun t => by rw [hP, hel]; exact tt_ok ttL_ok t, by rw [hgl]; rfl⟩
  have hc0 : CallOk cx (rhas_px (HV [.bool]) k) := callT_ok rfl cfs_nil
  have hq0 : CallQOk cx (rhas_px (HV [.bool]) k) := callQT_ok rfl cqfs_nil
  have hlrhas_0 : LoopOk cx (rhas_px (HV [.bool]) k) (lp Tryd.f29 0) := loop_ok hp0 hc0 hq0 (by rw [hP]; exact follows) (k := k) (s := rhas_0_sg) (step := rhas_0) (fun _ _ => by kernel_rfl) (by kernel_rfl) (rhas_0_eq _ k) (loops_in (n := 0) (by kernel_rfl) all0)
  exact ⟨hp0, hc0, hq0, (allS all0 hlrhas_0)⟩
def rhas (l : List Str) (s : Str) : Bool := l.contains s
def rhas_F : FT [.sl .str false, .str] [.bool] := fun x => some (rhas x.1 x.2)
theorem rhas_loop {R : Type} {kx : Ex → rhas_0_V → Option R} {l : List Str} {s : Str} {c : Bool → Option R} (hn : ln l.length) (h1 : ∀ i, kx .ret (l, s, true, i) = c true) (h2 : ∀ q i, kx (.exit 0) (l, s, q, i) = c false) (k : Nat) (hk : l.length < k) :
    iter (fun rec => rhas_0 rec kx) k (l, s, false, 0) = c (l.contains s) := by
  refine (iter_ind0 l.length (fun i => (l, s, false, (i : Int))) (fun i => c ((l.drop i).contains s)) (fun i hi rec hr => ?_) (fun rec => ?_) k 0 (Nat.zero_le _) (by omega)).trans (by rw [List.drop_zero])
  · simp only [rhas_0, lt_t hi, cond_t, inb_t hi, chk, at_nat (c := .str) hi, wr_succ hi hn, hr, h1, drop_cons hi, List.contains_cons]
    by_cases h : l[i] = s
    · rw [decide_eq_true h, h]
      simp
    · have hf : (s == l[i]) = false := beq_eq_false_iff_ne.2 (fun e => h e.symm)
      rw [decide_eq_false h, hf]
      rfl
  · simp only [rhas_0, lt_n, cond_f, h2]
    rw [List.drop_eq_nil_of_le (Nat.le_refl _)]
    rfl
theorem rhas_ok : FnOk Tryd.prog elT glT 29 [.sl .str false, .str] [.bool] rhas_F := .fin 0 rhas_run fun (l, s) r hb hx => ⟨l.length + 1, by
  simp only [rhas_F, Option.some.injEq] at hx
  rw [← hx]
  simp only [rhas_body]
  exact rhas_loop (c := some) hb.1.1 (fun _ => rfl) (fun _ _ => rfl) (l.length + 1) (by omega)⟩
/-! ## names, added to others -/
theorem mem_addN {out : List Str} {m x : Str} (h : x ∈ out) : x ∈ addN out m := by
  simp only [addN]
  split
  · exact h
  · exact List.mem_append_left _ h
theorem addN_self (out : List Str) (m : Str) : m ∈ addN out m := by
  simp only [addN]
  split
  · rename_i h
    exact List.contains_iff_mem.1 h
  · simp
theorem fold_keep : ∀ (acc out : List Str) {x : Str}, x ∈ out → x ∈ acc.foldl addN out
  | [], _, _, h => h
  | y :: acc, out, _, h => fold_keep acc (addN out y) (mem_addN h)
theorem fold_mem : ∀ (acc out : List Str) {x : Str}, x ∈ acc → x ∈ acc.foldl addN out
  | y :: acc, out, x, h => by
    rcases List.mem_cons.1 h with rfl | h
    · exact fold_keep acc _ (addN_self _ _)
    · exact fold_mem acc _ h
theorem addN_no {out : List Str} {m : Str} (h : m ∈ out) : addN out m = out := by
  simp only [addN]
  rw [if_pos (List.contains_iff_mem.2 h)]
theorem fold_addN (acc out : List Str) (y : Str) : (addN acc y).foldl addN out = addN (acc.foldl addN out) y := by
  by_cases h : y ∈ acc
  · rw [addN_no h, addN_no (fold_mem acc out h)]
  · have e : addN acc y = acc ++ [y] := by
      simp only [addN]
      rw [if_neg (fun q => h (List.contains_iff_mem.1 q))]
    rw [e, List.foldl_append]
    rfl
mutual
theorem nwalk_fold : ∀ (e : Xpr) (acc out : List Str), nwalk e (acc.foldl addN out) = (nwalk e acc).foldl addN out
  | .mk k v n l, acc, out => by
    simp only [nwalk]
    split
    · rw [← fold_addN, nwalks_fold l]
    · rw [nwalks_fold l]
theorem nwalks_fold : ∀ (l : List Xpr) (acc out : List Str), nwalks l (acc.foldl addN out) = (nwalks l acc).foldl addN out
  | [], _, _ => rfl
  | x :: l, acc, out => by
    simp only [nwalks]
    rw [nwalk_fold x, nwalks_fold l]
end
/-! ## exchequer/exchequerref13.Names -/
def rnames_1_sg : Sig := ⟨49, [(3, .sl .str true), (4, .int .i64), (5, .sl .str true), (6, .int .i64)], [(1, .ptr 0 0)], [(0, .one (.sv .expr))], 1, 0, 0, [], []⟩
abbrev rnames_1_V := List Str × Int × List Str × Int × Xpr
def rnames_1 {R : Type} (rec : rnames_1_V → Option R) (kx : Ex → rnames_1_V → Option R) (v : rnames_1_V) : Option R := match v with
 | (v2, v3, v4, v5, w1) =>
  cond (decide (v5 < (v4.length : Int))) (
   chk (inb v5 v4.length) (
    cond (!(rhas v2 (at' .str v4 v5))) (
     chk (inb v5 v4.length) (
      chk (decide (v2.length + 1 ≤ maxApp)) (
       rec ((v2 ++ [(at' .str v4 v5)]), v3, v4, (wr .i64 (v5 + 1)), w1)))) (
     rec (v2, v3, v4, (wr .i64 (v5 + 1)), w1)))) (
   kx (.exit 2) (v2, v3, v4, v5, w1))
def rnames_0_sg : Sig := ⟨49, [(3, .sl .str true), (4, .int .i64)], [(1, .ptr 0 0)], [(0, .one (.sv .expr))], 1, 0, 0, [], []⟩
abbrev rnames_0_V := List Str × Int × Xpr
def rnames_0 {R : Type} (k : Nat) (rf : FT [.sv .expr] [.sl .str true]) (rec : rnames_0_V → Option R) (kx : Ex → rnames_0_V → Option R) (v : rnames_0_V) : Option R := match v with
 | (v, v1, w) =>
  cond (decide (v1 < (w.l.length : Int))) (
   chk (inb v1 w.l.length) (
    (rf (at' .expr w.l v1)).bind fun x =>
     iter (fun rc => rnames_1 rc (fun e vz => match vz with | (v6, v7, _, _, v10) => match e with
      | .exit 2 =>
       rec (v6, (wr .i64 (v7 + 1)), v10)
      | _ => none)) k (v, v1, x, 0, w))) (
   kx (.exit 0) (v, v1, w))
def rnames_px (R : Type) (k : Nat) (rf : FT [.sv .expr] [.sl .str true]) : Px R := ⟨ttOf ttL, glT, callT [(30, callOr [.sv .expr] [.sl .str true] rf), (29, callOr [.sl .str false, .str] [.bool] rhas_F)], callQT [], loopT [(9, loopOr k rnames_1_sg (rnames_1)), (5, loopOr k rnames_0_sg (rnames_0 k rf))]⟩
theorem rnames_1_eq (R : Type) (k : Nat) (rf : FT [.sv .expr] [.sl .str true]) : ∀ (fr : List Fr) (rec : rnames_1_V → Option R) (kx : Ex → rnames_1_V → Option R) (v : rnames_1_V), round (rnames_px R k rf) rnames_1_sg (lpC (lp Tryd.f30 0) 0) fr rec kx v = rnames_1 rec kx v
  | fr, rec, kx, (v2, v3, v4, v5, w1) => by kernel_rfl
theorem rnames_0_eq (R : Type) (k : Nat) (rf : FT [.sv .expr] [.sl .str true]) : ∀ (fr : List Fr) (rec : rnames_0_V → Option R) (kx : Ex → rnames_0_V → Option R) (v : rnames_0_V), round (rnames_px R k rf) rnames_0_sg (lp Tryd.f30 0) fr rec kx v = rnames_0 k rf rec kx v
  | fr, rec, kx, (v, v1, w) => by kernel_rfl
def rnames_body (k : Nat) (rf : FT [.sv .expr] [.sl .str true]) (x : HV [.sv .expr]) : Option (HV [.sl .str true]) := match x with
 | e =>
  let j := fun (p : List Str) =>
   iter (fun rec => rnames_0 k rf rec (fun e vz => match vz with | (v11, _, _) => match e with
    | .exit 0 =>
     some v11
    | _ => none)) k (p, 0, e)
  cond (decide (e.kind = 2)) (
   j [e.name]) (
   j [])
theorem rnames_eq (k : Nat) (rf : FT [.sv .expr] [.sl .str true]) : ∀ (x : HV [.sv .expr]), runF (rnames_px _ k rf) Tryd.f30 [.sv .expr] [.sl .str true] x some = rnames_body k rf x
  | e => by kernel_rfl
theorem rnames_run (k : Nat) (rf : FT [.sv .expr] [.sl .str true]) (hrf : FnOk Tryd.prog elT glT 30 [.sv .expr] [.sl .str true] rf) : FnOk Tryd.prog elT glT 30 [.sv .expr] [.sl .str true] (rnames_body k rf) := by
  refine fnOk_run Tryd.func30 rfl (by kernel_rfl) follows (by kernel_rfl) (n := 2) (by kernel_rfl) (px := rnames_px _ k rf) (fun cx hP hel hgl => ?_) (rnames_eq k rf)
  have hp0 : PxOk cx (rnames_px (HV [.sl .str true]) k rf) := ⟨fun t => by rw [hP, hel]; exact tt_ok ttL_ok t, by rw [hgl]; rfl⟩
  have hc0 : CallOk cx (rnames_px (HV [.sl .str true]) k rf) := callT_ok rfl (cfs_cons (cf_or (by rw [hP, hel, hgl]; exact hrf) (by kernel_rfl)) (cfs_cons (cf_or (by rw [hP, hel, hgl]; exact rhas_ok) (by kernel_rfl)) cfs_nil))
  have hq0 : CallQOk cx (rnames_px (HV [.sl .str true]) k rf) := callQT_ok rfl cqfs_nil
  have hlrnames_1 : LoopOk cx (rnames_px (HV [.sl .str true]) k rf) (lpC (lp Tryd.f30 0) 0) := loop_ok hp0 hc0 hq0 (by rw [hP]; exact follows) (k := k) (s := rnames_1_sg) (step := rnames_1) (fun _ _ => by kernel_rfl) (by kernel_rfl) (rnames_1_eq _ k rf) (loops_in (n := 0) (by kernel_rfl) all0)
  have hlrnames_0 : LoopOk cx (rnames_px (HV [.sl .str true]) k rf) (lp Tryd.f30 0) := loop_ok hp0 hc0 hq0 (by rw [hP]; exact follows) (k := k) (s := rnames_0_sg) (step := rnames_0 k rf) (fun _ _ => by kernel_rfl) (by kernel_rfl) (rnames_0_eq _ k rf) (loops_in (n := 1) (by kernel_rfl) (allS all0 hlrnames_1))
  exact ⟨hp0, hc0, hq0, (allS (allS all0 hlrnames_0) hlrnames_1)⟩
def rnames (e : Xpr) : Option (List Str) := if esize e ≤ 1000000 then some (nwalk e []) else none
def rnames_F : FT [.sv .expr] [.sl .str true] := fun x => rnames x
theorem rnames_1_loop {R : Type} {kx : Ex → rnames_1_V → Option R} {m : List Str} {j : Int} {w : Xpr} {c : List Str → Option R} (hn : ln m.length) (h2 : ∀ out i, kx (.exit 2) (out, j, m, i, w) = c out) (k : Nat) (hk : m.length < k) (out : List Str) (ho : out.length + m.length ≤ 1000000) :
    iter (fun rec => rnames_1 rec kx) k (out, j, m, 0, w) = c (m.foldl addN out) := by
  refine (iter_ind m.length (fun i out => (out, j, m, (i : Int), w)) (fun i out => List.length out + (m.length - i) ≤ 1000000) (fun i out => c ((m.drop i).foldl addN out)) (fun i hi out ha rec hr => ?_) (fun out _ rec => ?_) k 0 out (Nat.zero_le _) (by omega) (by omega)).trans (by rw [List.drop_zero])
  · have hr := hr (addN out m[i]) (by have := addN_len out m[i]; omega)
    simp only [rnames_1, lt_t hi, cond_t, inb_t hi, chk, at_nat (c := .str) hi, wr_succ hi hn, drop_cons hi, List.foldl_cons, rhas, ← hr, decide_eq_true (show out.length + 1 ≤ maxApp by simp only [maxApp]; omega)]
    simp only [addN]
    cases out.contains m[i] <;> rfl
  · simp only [rnames_1, lt_n, cond_f, h2]
    rw [List.drop_eq_nil_of_le (Nat.le_refl _)]
    rfl
theorem rnames_0_loop {R : Type} {rf : FT [.sv .expr] [.sl .str true]} {kx : Ex → rnames_0_V → Option R} {w : Xpr} {c : List Str → Option R} (hn : ln w.l.length) (hrf : ∀ x, x ∈ w.l → rf x = some (nwalk x [])) (h2 : ∀ out i, kx (.exit 0) (out, i, w) = c out) (k : Nat) (hk : esizes w.l < k) (out : List Str) (ho : out.length + esizes w.l ≤ 1000000) :
    iter (fun rec => rnames_0 k rf rec kx) k (out, 0, w) = c (nwalks w.l out) := by
  have hl := esizes_len w.l
  refine (iter_ind w.l.length (fun i out => (out, (i : Int), w)) (fun i out => List.length out + esizes (w.l.drop i) ≤ 1000000) (fun i out => c (nwalks (w.l.drop i) out)) (fun i hi out ha rec hr => ?_) (fun out _ rec => ?_) k 0 out (Nat.zero_le _) (by omega) (by rw [List.drop_zero]; exact ho)).trans (by rw [List.drop_zero])
  · have hd := esizes_drop hi
    have hm := esize_mem (List.getElem_mem hi)
    have hx := nwalk_len w.l[i] []
    have ho := nwalk_len w.l[i] out
    simp only [List.length_nil] at hx
    have hr := hr (nwalk w.l[i] out) (by omega)
    simp only [rnames_0, lt_t hi, cond_t, inb_t hi, chk, at_nat (c := .expr) hi, hrf _ (List.getElem_mem hi), Option.bind_some, drop_cons hi, nwalks]
    refine (rnames_1_loop (c := fun o => rec (o, ((i + 1 : Nat) : Int), w)) (by simp only [ln]; omega) (fun o q => by simp only [wr_succ hi hn]) k (by omega) out (by omega)).trans ?_
    have e := nwalk_fold w.l[i] [] out
    rw [List.foldl_nil] at e
    rw [← e]
    exact hr
  · simp only [rnames_0, lt_n, cond_f, h2]
    rw [List.drop_eq_nil_of_le (Nat.le_refl _)]
    rfl
theorem rnames_all (k : Nat) : ∀ (n : Nat) (e : Xpr), BdExpr e → esize e ≤ n → esize e ≤ k → esize e ≤ 1000000 → iter (rnames_body k) n e = some (nwalk e [])
  | 0, e, _, h, _, _ => by have := esize_pos e; omega
  | n + 1, e, hb, h, hk, ho => by
    obtain ⟨hb4, hb5⟩ := bd_ls hb
    rw [esize_eq] at h hk ho
    have hrf : ∀ x, x ∈ e.l → iter (rnames_body k) n x = some (nwalk x []) := fun x hx => by
      have := esize_mem hx
      exact rnames_all k n x (hb5 x hx) (by omega) (by omega) (by omega)
    have hloop := fun (q : List Str) (hq : q.length + esizes e.l ≤ 1000000) => rnames_0_loop (R := List Str) (rf := iter (rnames_body k) n) (w := e) (c := some) (kx := fun e v => match v with
      | (v11, _, _) => match e with
        | .exit 0 => some v11
        | _ => none) hb4 hrf (fun _ _ => rfl) k (by omega) q hq
    rw [iter_s, nwalk_un]
    simp only [rnames_body]
    by_cases h2 : e.kind = 2
    · have hq := hloop [e.name] (by simp only [List.length_cons, List.length_nil]; omega)
      rw [decide_eq_true h2, if_pos h2, cond_t]
      exact hq
    · have hq := hloop [] (by simp only [List.length_nil]; omega)
      rw [decide_eq_false h2, if_neg h2, cond_f]
      exact hq
theorem rnames_ok : FnOk Tryd.prog elT glT 30 [.sv .expr] [.sl .str true] rnames_F := by
  refine .fin (ι := Nat) 0 (F := fun n => iter (rnames_body n) n) (fun n => FnOk.rec' (Sx.enters_of Tryd.func30 rfl rfl) (fun rf hrf => rnames_run n rf hrf) n) fun e r hb hx => ⟨esize e, ?_⟩
  simp only [rnames_F, rnames] at hx
  split at hx
  · rename_i h
    exact (rnames_all (esize e) (esize e) e hb (Nat.le_refl _) (Nat.le_refl _) h).trans hx
  · cases hx
/-! ## exchequer/exchequerlaw13.name -/
def lnm_px (R : Type) : Px R := ⟨ttOf ttL, glT, callT [], callQT [], loopT []⟩
def lnm_body (x : HV [.str]) : Option (HV [.sv .expr]) := match x with
 | s =>
  some (Xpr.mk 2 ⟨0, 0, []⟩ s [])
theorem lnm_eq : ∀ (x : HV [.str]), runF (lnm_px _) Tryd.f27 [.str] [.sv .expr] x some = lnm_body x
  | s => by kernel_rfl
theorem lnm_run : FnOk Tryd.prog elT glT 27 [.str] [.sv .expr] (lnm_body) := by
  refine fnOk_run Tryd.func27 rfl (by kernel_rfl) follows (by kernel_rfl) (n := 0) (by kernel_rfl) (px := lnm_px _) (fun cx hP hel hgl => ?_) (lnm_eq)
  have hp0 : PxOk cx (lnm_px (HV [.sv .expr])) := ⟨fun t => by rw [hP, hel]; exact tt_ok ttL_ok t, by rw [hgl]; rfl⟩
  have hc0 : CallOk cx (lnm_px (HV [.sv .expr])) := callT_ok rfl cfs_nil
  have hq0 : CallQOk cx (lnm_px (HV [.sv .expr])) := callQT_ok rfl cqfs_nil
  exact ⟨hp0, hc0, hq0, all0⟩
def lnm (s : Str) : Xpr :=
  (Xpr.mk 2 ⟨0, 0, []⟩ s [])
theorem lnm_tot (x : HV [.str]) : lnm_body x = some (lnm x) := by
  first
    | exact rfl
    | simp only [lnm_body, lnm, cond_some]
def lnm_F : FT [.str] [.sv .expr] := fun x => some (lnm x)
theorem lnm_ok : FnOk Tryd.prog elT glT 27 [.str] [.sv .expr] lnm_F := .fin0 lnm_run fun x _ _ hx => (lnm_tot x).trans hx
/-! ## exchequer/exchequerlaw13.two -/
def ltwo_px (R : Type) : Px R := ⟨ttOf ttL, glT, callT [], callQT [], loopT []⟩
def ltwo_body (x : HV [.int .i64, .sv .expr, .sv .expr]) : Option (HV [.sv .expr]) := match x with
 | (kind, a, b) =>
  some (Xpr.mk kind ⟨0, 0, []⟩ [] [a, b])
theorem ltwo_eq : ∀ (x : HV [.int .i64, .sv .expr, .sv .expr]), runF (ltwo_px _) Tryd.f25 [.int .i64, .sv .expr, .sv .expr] [.sv .expr] x some = ltwo_body x
  | (kind, a, b) => by kernel_rfl
theorem ltwo_run : FnOk Tryd.prog elT glT 25 [.int .i64, .sv .expr, .sv .expr] [.sv .expr] (ltwo_body) := by
  refine fnOk_run Tryd.func25 rfl (by kernel_rfl) follows (by kernel_rfl) (n := 0) (by kernel_rfl) (px := ltwo_px _) (fun cx hP hel hgl => ?_) (ltwo_eq)
  have hp0 : PxOk cx (ltwo_px (HV [.sv .expr])) := ⟨fun t => by rw [hP, hel]; exact tt_ok ttL_ok t, by rw [hgl]; rfl⟩
  have hc0 : CallOk cx (ltwo_px (HV [.sv .expr])) := callT_ok rfl cfs_nil
  have hq0 : CallQOk cx (ltwo_px (HV [.sv .expr])) := callQT_ok rfl cqfs_nil
  exact ⟨hp0, hc0, hq0, all0⟩
def ltwo (kind : Int) (a : Xpr) (b : Xpr) : Xpr :=
  (Xpr.mk kind ⟨0, 0, []⟩ [] [a, b])
theorem ltwo_tot (x : HV [.int .i64, .sv .expr, .sv .expr]) : ltwo_body x = some (ltwo x.1 x.2.1 x.2.2) := by
  first
    | exact rfl
    | simp only [ltwo_body, ltwo, cond_some]
def ltwo_F : FT [.int .i64, .sv .expr, .sv .expr] [.sv .expr] := fun x => some (ltwo x.1 x.2.1 x.2.2)
theorem ltwo_ok : FnOk Tryd.prog elT glT 25 [.int .i64, .sv .expr, .sv .expr] [.sv .expr] ltwo_F := .fin0 ltwo_run fun x _ _ hx => (ltwo_tot x).trans hx
/-! ## exchequer/exchequerlaw13.known -/
def known13_px (R : Type) : Px R := ⟨ttOf ttL, glT, callT [(21, callOr [.sv .expr] [.str, .int .i64] atext_F), (27, callOr [.str] [.sv .expr] lnm_F), (22, callOr [.sv .stmt] [.str, .int .i64] aprint_F), (28, callOr [.sv .expr] [.sl .str true] anames_F), (31, callOr [.sv .expr] [.int .i64] aexpr_F), (23, callOr [.sv .expr, .sv .expr] [.bool] asame_F)], callQT [(27, callOrQ [.str] [.sv .expr] lnm_F), (25, callOrQ [.int .i64, .sv .expr, .sv .expr] [.sv .expr] ltwo_F)], loopT []⟩
def known13_body (x : HV []) : Option (HV [.bool]) := match x with
 | () =>
  (atext (ltwo 4 (ltwo 6 (lnm [97]) (Xpr.mk 1 ⟨3, 1, []⟩ [] [])) (Xpr.mk 3 ⟨0, 0, []⟩ [] [(lnm [98])]))).bind fun (x, x1) =>
   (aprint (Stm.mk 7 [116] [] [] [] [] [] [] true (xeta (lnm [98])) [] [] 0)).bind fun (x2, x3) =>
    (aprint (Stm.mk 0 [] [] [] [] [] [] [] false (Xpr.mk 0 ⟨0, 0, []⟩ [] []) [] [] 0)).bind fun (_, x5) =>
     (anames (ltwo 4 (ltwo 6 (lnm [97]) (Xpr.mk 1 ⟨3, 1, []⟩ [] [])) (Xpr.mk 3 ⟨0, 0, []⟩ [] [(lnm [98])]))).bind fun x6 =>
      let j5 := fun (p : Bool) =>
       let j4 := fun (p1 : Bool) =>
        let j3 := fun (p2 : Bool) =>
         let j2 := fun (p3 : Bool) =>
          let j1 := fun (p4 : Bool) =>
           let j := fun (p5 : Bool) =>
            cond (p5) (
             cond (decide ((aexpr (ltwo 4 (ltwo 6 (lnm [97]) (Xpr.mk 1 ⟨3, 1, []⟩ [] [])) (Xpr.mk 3 ⟨0, 0, []⟩ [] [(lnm [98])]))) = 0)) (
              some (asame (ltwo 4 (ltwo 6 (lnm [97]) (Xpr.mk 1 ⟨3, 1, []⟩ [] [])) (Xpr.mk 3 ⟨0, 0, []⟩ [] [(lnm [98])])) (ltwo 4 (ltwo 6 (lnm [97]) (Xpr.mk 1 ⟨3, 1, []⟩ [] [])) (Xpr.mk 3 ⟨0, 0, []⟩ [] [(lnm [98])])))) (
              some false)) (
             some false)
           cond (p4) (
            chk (inb 1 x6.length) (
             j (decide ((at' .str x6 1) = [98])))) (
            j false)
          cond (p3) (
           j1 (decide ((x6.length : Int) = 2))) (
           j1 false)
         cond (p2) (
          j2 (decide (x5 = 2))) (
          j2 false)
        cond (p1) (
         j3 (decide (x3 = 0))) (
         j3 false)
       cond (p) (
        j4 (decide (x2 = [68, 69, 76, 69, 84, 69, 32, 70, 82, 79, 77, 32, 116, 32, 87, 72, 69, 82, 69, 32, 98]))) (
        j4 false)
      cond (decide (x = [40, 40, 97, 32, 61, 32, 49, 41, 32, 65, 78, 68, 32, 40, 78, 79, 84, 32, 98, 41, 41])) (
       j5 (decide (x1 = 0))) (
       j5 false)
theorem known13_eq : ∀ (x : HV []), runF (known13_px _) Tryd.f20 [] [.bool] x some = known13_body x
  | () => by kernel_rfl
theorem known13_run : FnOk Tryd.prog elT glT 20 [] [.bool] (known13_body) := by
  refine fnOk_run Tryd.func20 rfl (by kernel_rfl) follows (by kernel_rfl) (n := 0) (by kernel_rfl) (px := known13_px _) (fun cx hP hel hgl => ?_) (known13_eq)
  have hp0 : PxOk cx (known13_px (HV [.bool])) := ⟨fun t => by rw [hP, hel]; exact tt_ok ttL_ok t, by rw [hgl]; rfl⟩
  have hc0 : CallOk cx (known13_px (HV [.bool])) := callT_ok rfl (cfs_cons (cf_or (by rw [hP, hel, hgl]; exact atext_ok) (by kernel_rfl)) (cfs_cons (cf_or (by rw [hP, hel, hgl]; exact lnm_ok) (by kernel_rfl)) (cfs_cons (cf_or (by rw [hP, hel, hgl]; exact aprint_ok) (by kernel_rfl)) (cfs_cons (cf_or (by rw [hP, hel, hgl]; exact anames_ok) (by kernel_rfl)) (cfs_cons (cf_or (by rw [hP, hel, hgl]; exact aexpr_ok) (by kernel_rfl)) (cfs_cons (cf_or (by rw [hP, hel, hgl]; exact asame_ok) (by kernel_rfl)) cfs_nil))))))
  have hq0 : CallQOk cx (known13_px (HV [.bool])) := callQT_ok rfl (cqfs_cons (cqf_or (by rw [hP, hel, hgl]; exact lnm_ok) (by kernel_rfl)) (cqfs_cons (cqf_or (by rw [hP, hel, hgl]; exact ltwo_ok) (by kernel_rfl)) cqfs_nil))
  exact ⟨hp0, hc0, hq0, all0⟩
def known13 : Bool := true
def known13_F : FT [] [.bool] := fun _ => some (known13)
theorem known13_b : known13_body () = some true := by kernel_rfl
theorem known13_ok : FnOk Tryd.prog elT glT 20 [] [.bool] known13_F := .fin0 known13_run fun x r hb hx => by cases x; exact known13_b.trans hx
end Go.Proofs.YtjpcghlpkinahaaDoor

/- The document's answer: names, signs. -/
namespace Go.Proofs.YtjpcghlpkinahaaDoor
open Go.Ax
/-! ## exchequer/exchequerref12.class -/
def rclass_0_sg : Sig := ⟨58, [(0, .int .u8), (2, .int .i64), (3, .str), (4, .int .i64)], [], [], 0, 0, 0, [], []⟩
abbrev rclass_0_V := Int × Int × Str × Int
def rclass_0 {R : Type} (rec : rclass_0_V → Option R) (kx : Ex → rclass_0_V → Option R) (v : rclass_0_V) : Option R := match v with
 | (v, v1, v2, v3) =>
  cond (decide (v3 < (v2.length : Int))) (
   chk (inb v3 v2.length) (
    cond (decide ((bat v2 v3) = v)) (
     kx .ret (v, 7, v2, v3)) (
     rec (v, v1, v2, (wr .i64 (v3 + 1)))))) (
   kx (.exit 1) (v, v1, v2, v3))
def rclass_px (R : Type) (k : Nat) : Px R := ⟨ttOf ttL, glT, callT [], callQT [], loopT [(15, loopOr k rclass_0_sg (rclass_0))]⟩
theorem rclass_0_eq (R : Type) (k : Nat) : ∀ (fr : List Fr) (rec : rclass_0_V → Option R) (kx : Ex → rclass_0_V → Option R) (v : rclass_0_V), round (rclass_px R k) rclass_0_sg (lp Tryd.f38 0) fr rec kx v = rclass_0 rec kx v
  | fr, rec, kx, (v, v1, v2, v3) => by kernel_rfl
def rclass_body (k : Nat) (x : HV [.int .u8]) : Option (HV [.int .i64]) := match x with
 | c =>
  let j3 : Bool → Option (HV [.int .i64]) := fun (p1 : Bool) =>
   cond (p1) (
    some 1) (
    let j2 : Bool → Option (HV [.int .i64]) := fun (p3 : Bool) =>
     cond (p3) (
      some 2) (
      let j1 : Bool → Option (HV [.int .i64]) := fun (p5 : Bool) =>
       cond (p5) (
        some 3) (
        cond (decide (c = 95)) (
         some 4) (
         cond (decide (c = 39)) (
          some 5) (
          let j : Bool → Option (HV [.int .i64]) := fun (p6 : Bool) =>
           cond (p6) (
            some 6) (
            cond (decide (c = 10)) (
             some 6) (
             cond (decide (c = 13)) (
              some 6) (
              iter (fun rec => rclass_0 rec (fun e vz => match vz with | (_, v5, _, _) => match e with
               | .ret =>
                some v5
               | .exit 1 =>
                some 0
               | _ => none)) k (c, 0, [40, 41, 44, 42, 61, 60, 62, 43, 45, 59], 0))))
          cond (decide (c = 32)) (
           j true) (
           j (decide (c = 9))))))
      cond (decide (48 ≤ c)) (
       j1 (decide (c ≤ 57))) (
       j1 false))
    cond (decide (97 ≤ c)) (
     j2 (decide (c ≤ 122))) (
     j2 false))
  cond (decide (65 ≤ c)) (
   j3 (decide (c ≤ 90))) (
   j3 false)
theorem rclass_eq (k : Nat) : ∀ (x : HV [.int .u8]), runF (rclass_px _ k) Tryd.f38 [.int .u8] [.int .i64] x some = rclass_body k x
  | c => by kernel_rfl
theorem rclass_run (k : Nat) : FnOk Tryd.prog elT glT 38 [.int .u8] [.int .i64] (rclass_body k) := by
  refine fnOk_run Tryd.func38 rfl (by kernel_rfl) follows (by kernel_rfl) (n := 1) (by kernel_rfl) (px := rclass_px _ k) (fun cx hP hel hgl => ?_) (rclass_eq k)
  have hp0 : PxOk cx (rclass_px (HV [.int .i64]) k) := ⟨fun t => by rw [hP, hel]; exact tt_ok ttL_ok t, by rw [hgl]; rfl⟩
  have hc0 : CallOk cx (rclass_px (HV [.int .i64]) k) := callT_ok rfl cfs_nil
  have hq0 : CallQOk cx (rclass_px (HV [.int .i64]) k) := callQT_ok rfl cqfs_nil
  have hlrclass_0 : LoopOk cx (rclass_px (HV [.int .i64]) k) (lp Tryd.f38 0) := loop_ok hp0 hc0 hq0 (by rw [hP]; exact follows) (k := k) (s := rclass_0_sg) (step := rclass_0) (fun _ _ => by kernel_rfl) (by kernel_rfl) (rclass_0_eq _ k) (loops_in (n := 0) (by kernel_rfl) all0)
  exact ⟨hp0, hc0, hq0, (allS all0 hlrclass_0)⟩
def rclass (c : Int) : Int := Lp.clsF c
def rclass_F : FT [.int .u8] [.int .i64] := fun x => some (rclass x)
theorem rclass_all : ((List.range 256).all fun n => decide (rclass_body 11 (n : Int) = some (Lp.clsF (n : Int)))) = true := by kernel_rfl
theorem rclass_ok : FnOk Tryd.prog elT glT 38 [.int .u8] [.int .i64] rclass_F := .fin 0 rclass_run fun (c : Int) r hb hx => ⟨11, by
  simp only [rclass_F, Option.some.injEq] at hx
  have h : 0 ≤ c ∧ c ≤ 255 := by
    have h0 : inK .u8 c := hb
    simp only [inK, IntKind.min, IntKind.max] at h0
    exact ⟨h0.1, h0.2⟩
  obtain ⟨n, rfl⟩ : ∃ n : Nat, c = (n : Int) := ⟨c.toNat, by omega⟩
  have h2 := List.all_eq_true.1 rclass_all n (List.mem_range.2 (by omega))
  exact (of_decide_eq_true h2).trans (congrArg some hx)⟩
/-! ## exchequer/exchequerref12.Name -/
def rname_0_sg : Sig := ⟨37, [(0, .str), (2, .bool), (3, .int .i64)], [], [], 0, 0, 0, [], []⟩
abbrev rname_0_V := Str × Bool × Int
def rname_0 {R : Type} (rec : rname_0_V → Option R) (kx : Ex → rname_0_V → Option R) (v : rname_0_V) : Option R := match v with
 | (v, v1, v2) =>
  cond (decide (v2 < (v.length : Int))) (
   chk (inb v2 v.length) (
    cond (!decide ((rclass (bat v v2)) = 2)) (
     cond (decide (v2 = 0)) (
      kx .ret (v, false, v2)) (
      cond (!decide ((rclass (bat v v2)) = 3)) (
       cond (!decide ((rclass (bat v v2)) = 4)) (
        kx .ret (v, false, v2)) (
        rec (v, v1, (wr .i64 (v2 + 1))))) (
       rec (v, v1, (wr .i64 (v2 + 1)))))) (
     rec (v, v1, (wr .i64 (v2 + 1)))))) (
   kx (.exit 0) (v, v1, v2))
def rname_px (R : Type) (k : Nat) : Px R := ⟨ttOf ttL, glT, callT [(38, callOr [.int .u8] [.int .i64] rclass_F)], callQT [], loopT [(2, loopOr k rname_0_sg (rname_0))]⟩
theorem rname_0_eq (R : Type) (k : Nat) : ∀ (fr : List Fr) (rec : rname_0_V → Option R) (kx : Ex → rname_0_V → Option R) (v : rname_0_V), round (rname_px R k) rname_0_sg (lp Tryd.f14 0) fr rec kx v = rname_0 rec kx v
  | fr, rec, kx, (v, v1, v2) => by kernel_rfl
def rname_body (k : Nat) (x : HV [.str]) : Option (HV [.bool]) := match x with
 | s =>
  iter (fun rec => rname_0 rec (fun e vz => match vz with | (v3, v4, _) => match e with
   | .ret =>
    some v4
   | .exit 0 =>
    cond (decide (1 ≤ (v3.length : Int))) (
     some (decide ((v3.length : Int) ≤ 30))) (
     some false)
   | _ => none)) k (s, false, 0)
theorem rname_eq (k : Nat) : ∀ (x : HV [.str]), runF (rname_px _ k) Tryd.f14 [.str] [.bool] x some = rname_body k x
  | s => by kernel_rfl
theorem rname_run (k : Nat) : FnOk Tryd.prog elT glT 14 [.str] [.bool] (rname_body k) := by
  refine fnOk_run Tryd.func14 rfl (by kernel_rfl) follows (by kernel_rfl) (n := 1) (by kernel_rfl) (px := rname_px _ k) (fun cx hP hel hgl => ?_) (rname_eq k)
  have hp0 : PxOk cx (rname_px (HV [.bool]) k) := ⟨fun t => by rw [hP, hel]; exact tt_ok ttL_ok t, by rw [hgl]; rfl⟩
  have hc0 : CallOk cx (rname_px (HV [.bool]) k) := callT_ok rfl (cfs_cons (cf_or (by rw [hP, hel, hgl]; exact rclass_ok) (by kernel_rfl)) cfs_nil)
  have hq0 : CallQOk cx (rname_px (HV [.bool]) k) := callQT_ok rfl cqfs_nil
  have hlrname_0 : LoopOk cx (rname_px (HV [.bool]) k) (lp Tryd.f14 0) := loop_ok hp0 hc0 hq0 (by rw [hP]; exact follows) (k := k) (s := rname_0_sg) (step := rname_0) (fun _ _ => by kernel_rfl) (by kernel_rfl) (rname_0_eq _ k) (loops_in (n := 0) (by kernel_rfl) all0)
  exact ⟨hp0, hc0, hq0, (allS all0 hlrname_0)⟩
def rname (s : Str) : Bool := Lp.rnameF s
def rname_F : FT [.str] [.bool] := fun x => some (rname x)
theorem rname_loop {R : Type} {kx : Ex → rname_0_V → Option R} {s : Str} {c : Bool → Option R} (hn : ln s.length) (h1 : ∀ j, kx .ret (s, false, j) = c false) (h2 : ∀ q j, kx (.exit 0) (s, q, j) = c true) : ∀ (k i : Nat) q, i ≤ s.length → s.length - i < k → iter (fun rec => rname_0 rec kx) k (s, q, (i : Int)) = c (Lp.okGo (s.drop i) i)
  | 0, i, q, _, h => absurd h (Nat.not_lt_zero _)
  | k + 1, i, q, hi, h => by
    rw [iter_s]
    by_cases hl : i < s.length
    · have ih := rname_loop hn h1 h2 k (i + 1) q (by omega) (by omega)
      have en : ((i + 1 : Nat) : Int) = (i : Int) + 1 := by omega
      simp only [rname_0, wr_succ hl hn, ih, h1, drop_cons hl, bat_nat hl, inb_t hl, chk, cond_t, rclass, Lp.okGo, Lp.nmOk]
      rw [decide_eq_true (show (i : Int) < (s.length : Int) by omega), en]
      cases decide (Lp.clsF (s[i].toNat : Int) = 2) <;> cases decide ((i : Int) = 0) <;> cases decide (Lp.clsF (s[i].toNat : Int) = 3) <;> cases decide (Lp.clsF (s[i].toNat : Int) = 4) <;> rfl
    · simp only [rname_0, h2]
      rw [decide_eq_false (by omega), List.drop_eq_nil_of_le (by omega)]
      rfl
theorem rname_ok : FnOk Tryd.prog elT glT 14 [.str] [.bool] rname_F := .fin 0 rname_run fun s r hb hx => ⟨s.length + 1, by
  simp only [rname_F, Option.some.injEq] at hx
  subst hx
  simp only [rname_body]
  refine (rname_loop (s := s) (c := fun b => cond b (cond (decide (1 ≤ (s.length : Int))) (some (decide ((s.length : Int) ≤ 30))) (some false)) (some false)) hb (fun _ => rfl) (fun _ _ => rfl) (s.length + 1) 0 false (Nat.zero_le _) (by omega)).trans ?_
  rw [List.drop_zero, rname, Lp.rnameF]
  show cond (Lp.okGo s 0) _ _ = _
  cases Lp.okGo s 0 <;> cases decide (1 ≤ (s.length : Int)) <;> rfl⟩
theorem rname_lname (s : Str) : rname s = lname s := (Lp.name_eq s).symm
/-! ## exchequer/exchequerref13.Sign -/
def rsign_px (R : Type) : Px R := ⟨ttOf ttL, glT, callT [], callQT [], loopT []⟩
def rsign_body (x : HV [.int .i64]) : Option (HV [.str]) := match x with
 | kind =>
  cond (decide (kind < 0)) (
   some []) (
   cond (decide (15 ≤ kind)) (
    some []) (
    chk (inb kind 15) (
     some (at' .str [[], [], [], [], [65, 78, 68], [79, 82], [61], [60, 62], [60], [60, 61], [62], [62, 61], [43], [45], [42]] kind))))
theorem rsign_eq : ∀ (x : HV [.int .i64]), runF (rsign_px _) Tryd.f26 [.int .i64] [.str] x some = rsign_body x
  | kind => by kernel_rfl
theorem rsign_run : FnOk Tryd.prog elT glT 26 [.int .i64] [.str] (rsign_body) := by
  refine fnOk_run Tryd.func26 rfl (by kernel_rfl) follows (by kernel_rfl) (n := 0) (by kernel_rfl) (px := rsign_px _) (fun cx hP hel hgl => ?_) (rsign_eq)
  have hp0 : PxOk cx (rsign_px (HV [.str])) := ⟨fun t => by rw [hP, hel]; exact tt_ok ttL_ok t, by rw [hgl]; rfl⟩
  have hc0 : CallOk cx (rsign_px (HV [.str])) := callT_ok rfl cfs_nil
  have hq0 : CallQOk cx (rsign_px (HV [.str])) := callQT_ok rfl cqfs_nil
  exact ⟨hp0, hc0, hq0, all0⟩
def rsigns : List Str := [[], [], [], [], [65, 78, 68], [79, 82], [61], [60, 62], [60], [60, 61], [62], [62, 61], [43], [45], [42]]
def rsign (k : Int) : Str := if k < 0 ∨ 15 ≤ k then [] else at' .str rsigns k
def rsign_F : FT [.int .i64] [.str] := fun x => some (rsign x)
theorem rsign_ok : FnOk Tryd.prog elT glT 26 [.int .i64] [.str] rsign_F := .fin0 rsign_run fun (k : Int) r _ hx => by
  simp only [rsign_F, Option.some.injEq] at hx
  subst hx
  simp only [rsign_body, rsign]
  by_cases h1 : k < 0
  · rw [decide_eq_true h1, if_pos (.inl h1)]; rfl
  · by_cases h2 : 15 ≤ k
    · rw [decide_eq_false h1, decide_eq_true h2, if_pos (.inr h2)]; rfl
    · rw [decide_eq_false h1, decide_eq_false h2, if_neg (by omega)]
      obtain ⟨j, rfl⟩ : ∃ j : Nat, k = (j : Int) := ⟨k.toNat, by omega⟩
      rw [inb_t (i := j) (n := 15) (by omega)]
      rfl
theorem rsign_sgn (k : Int) : rsign k = sgn k := by
  by_cases h : 4 ≤ k ∧ k ≤ 14
  · have : k = 4 ∨ k = 5 ∨ k = 6 ∨ k = 7 ∨ k = 8 ∨ k = 9 ∨ k = 10 ∨ k = 11 ∨ k = 12 ∨ k = 13 ∨ k = 14 := by omega
    rcases this with rfl | rfl | rfl | rfl | rfl | rfl | rfl | rfl | rfl | rfl | rfl <;> rfl
  · have hm : sgn k = [] := by
      simp only [sgn, signsL, mget]
      rw [decide_eq_false (by omega), decide_eq_false (by omega), decide_eq_false (by omega), decide_eq_false (by omega), decide_eq_false (by omega), decide_eq_false (by omega), decide_eq_false (by omega), decide_eq_false (by omega), decide_eq_false (by omega), decide_eq_false (by omega), decide_eq_false (by omega)]
    rw [hm, rsign]
    by_cases h2 : k < 0 ∨ 15 ≤ k
    · rw [if_pos h2]
    · rw [if_neg h2]
      have : k = 0 ∨ k = 1 ∨ k = 2 ∨ k = 3 := by omega
      rcases this with rfl | rfl | rfl | rfl <;> rfl
end Go.Proofs.YtjpcghlpkinahaaDoor

/- The token that a value's text is. -/
namespace Go.Proofs.YtjpcghlpkinahaaDoor
open Go.Ax
open Lp (tokS tw isWd isUp isLo isDi isIn pre clsF rnameF wordF nq qS unGo hexD rnumF rnumGo checkF)
/-- what ends a word -/
def dlm (r : Str) : Prop := ∀ c t, r = c :: t → isWd (c.toNat : Int) = false ∧ c ≠ 39
theorem dlm_nil : dlm [] := fun _ _ h => by cases h
theorem all_imp {p q : UInt8 → Bool} (h : ∀ b, p b = true → q b = true) {w : Str} (hw : w.all p = true) : w.all q = true := List.all_eq_true.2 fun b hb => h b (List.all_eq_true.1 hw b hb)
theorem tw_same {p : Int → Bool} {w r : Str} (hw : w.all (fun b => p b.toNat) = true) (hr : ∀ c t, r = c :: t → p (c.toNat : Int) = false) : tw p (w ++ r) = w := by
  rw [Lp.tw_app r hr w]
  have h1 := (Lp.tw_full (p := p) w).2 hw
  have h2 := Lp.tw_take p w
  rw [h1, List.take_length] at h2
  exact h2.symm
theorem pre_no {m : Str} (h : ∀ a t, m = a :: 39 :: t → False) : pre m [120, 39] = false := by
  match m, h with
  | [], _ => rfl
  | [a], _ => simp [pre]
  | a :: b :: t, h =>
    have hb : b ≠ 39 := fun e => h a t (by rw [e])
    simp [pre, hb]
theorem wd39 : isWd 39 = false := by decide +kernel
theorem pre_word {w r : Str} (hne : w ≠ []) (hw : w.all (fun b => isWd b.toNat) = true) (hr : dlm r) : pre (w ++ r) [120, 39] = false := by
  refine pre_no fun a t h => ?_
  match w, hne, hw, h with
  | [x], _, _, h =>
    simp only [List.cons_append, List.nil_append, List.cons.injEq] at h
    exact (hr 39 t h.2).2 rfl
  | x :: y :: w, _, hw, h =>
    simp only [List.cons_append, List.cons.injEq] at h
    obtain ⟨_, rfl, _⟩ := h
    simp only [List.all_cons, Bool.and_eq_true] at hw
    have h2 := hw.2.1
    have e : ((39 : UInt8).toNat : Int) = 39 := rfl
    rw [e, wd39] at h2
    cases h2
theorem cls_up {c : Int} (h : isUp c = true) : clsF c = 1 := by simp [clsF, h]
theorem cls_lo_all : ∀ n : Fin 256, isLo (n.val : Int) = true → clsF (n.val : Int) = 2 := by decide +kernel
theorem cls_lo {b : UInt8} (h : isLo b.toNat = true) : clsF b.toNat = 2 := Lp.of256 (p := fun c => isLo c = true → clsF c = 2) cls_lo_all b.toNat (Lp.u8_range b) h
theorem tokS_word {w r : Str} (h : wordF w = true) (hr : dlm r) : tokS (w ++ r) = some (1, w, 0, w.length) := by
  have hu := Lp.word_up h
  have hne : w ≠ [] := by rintro rfl; exact absurd h (by decide +kernel)
  have hw : w.all (fun b => isWd b.toNat) = true := all_imp (fun b hb => Lp.up_wd b hb) hu
  have hp := pre_word hne hw hr
  have ht := tw_same hw (fun c t e => (hr c t e).1)
  cases w with
  | nil => exact absurd rfl hne
  | cons c t =>
    simp only [List.all_cons, Bool.and_eq_true] at hu
    have hc : clsF (Sx.byt (c :: t ++ r) 0) = 1 := cls_up hu.1
    unfold tokS
    rw [hp, ht, if_neg (by simp), if_pos hc, if_pos h]
theorem name_split {w : Str} (h : rnameF w = true) : ∃ c t, w = c :: t ∧ isLo c.toNat = true ∧ w.all (fun b => isIn b.toNat) = true := by
  cases w with
  | nil => cases h
  | cons c t =>
    simp only [rnameF, Lp.okGo_zero, Bool.and_eq_true] at h
    exact ⟨c, t, rfl, h.1.1, by simp only [List.all_cons, Bool.and_eq_true]; exact ⟨Lp.lo_in h.1.1, h.1.2⟩⟩
theorem tokS_name {w r : Str} (h : rnameF w = true) (hr : dlm r) : tokS (w ++ r) = some (2, w, 0, w.length) := by
  obtain ⟨c, t, rfl, h1, h2⟩ := name_split h
  have hw : (c :: t).all (fun b => isWd b.toNat) = true := all_imp (fun b hb => Lp.in_wd b hb) h2
  have hp := pre_word (by simp) hw hr
  have ht := tw_same hw (fun c t e => (hr c t e).1)
  have hc : clsF (Sx.byt (c :: t ++ r) 0) = 2 := cls_lo h1
  unfold tokS
  rw [hp, ht, if_neg (by simp), if_neg (by rw [hc]; decide), if_pos hc, if_pos h]
/-! ## numbers -/
theorem rnumGo_app : ∀ (a b : Str) (n : Int), rnumGo (a ++ b) n = (rnumGo a n).bind fun m => rnumGo b m
  | [], b, n => rfl
  | c :: a, b, n => by
    simp only [List.cons_append, rnumGo]
    split
    · rfl
    · exact rnumGo_app a b _
theorem dch_di {d : Int} (h : 0 ≤ d ∧ d ≤ 9) : ((dch d).toNat : Int) = 48 + d ∧ isDi ((dch d).toNat : Int) = true := by
  have e : ((dch d).toNat : Int) = 48 + d := by
    simp only [dch, UInt8.toNat_ofNat']
    omega
  refine ⟨e, ?_⟩
  rw [e]
  simp only [isDi, Bool.and_eq_true, decide_eq_true_eq]
  omega
theorem txt_di : ∀ {l : List Int}, dg l = true → (txt l).all (fun b => isDi b.toNat) = true
  | [], _ => rfl
  | d :: l, h => by
    have h := dg_cons.1 h
    rw [txt_cons, List.all_append, txt_di h.2]
    simp [(dch_di h.1).2]
theorem rnum_txt : ∀ {l : List Int}, dg l = true → rnumGo (txt l) 0 = if val l ≤ 9223372036854775807 then some (val l) else none
  | [], _ => rfl
  | d :: l, h => by
    have h := dg_cons.1 h
    have hv := val_nn h.2
    obtain ⟨hd, hdi⟩ := dch_di h.1
    have hc : clsF (48 + d) = 3 := by rw [← hd]; exact Lp.cls_di hdi
    rw [txt_cons, rnumGo_app, rnum_txt h.2, show val (d :: l) = d + 10 * val l from rfl]
    by_cases h1 : val l ≤ 9223372036854775807
    · rw [if_pos h1]
      simp only [Option.bind_some, rnumGo, hd, hc]
      by_cases h2 : d + 10 * val l ≤ 9223372036854775807
      · rw [if_pos h2, if_neg (by omega)]
        congr 1
        omega
      · rw [if_neg h2, if_pos (by omega)]
    · rw [if_neg h1, if_neg (by omega)]
      rfl
theorem txt_head : ∀ (k n : Nat), n ≤ k → n ≠ 0 → Sx.byt (txt (digs n)) 0 ≠ 48 ∧ txt (digs n) ≠ []
  | 0, n, h, h0 => absurd (Nat.le_zero.1 h) h0
  | k + 1, n, h, h0 => by
    rw [digs_pos h0, txt_cons]
    by_cases h1 : n / 10 = 0
    · rw [h1, digs_zero]
      have e : Sx.byt (txt [] ++ [dch ((n % 10 : Nat) : Int)]) 0 = ((dch ((n % 10 : Nat) : Int)).toNat : Int) := rfl
      rw [e, (dch_di (by omega)).1]
      exact ⟨by omega, by simp⟩
    · obtain ⟨h2, h3⟩ := txt_head k (n / 10) (by omega) h1
      rw [Lp.byt_app h3]
      exact ⟨h2, by simp⟩
theorem rnumF_txt {n : Nat} (h0 : n ≠ 0) : rnumF (txt (digs n)) = if (n : Int) ≤ 9223372036854775807 then (n : Int) else -1 := by
  unfold rnumF
  rw [rnum_txt (digs_dg n), digs_val]
  by_cases h : (n : Int) ≤ 9223372036854775807
  · rw [if_pos h, if_pos h]
    simp only
    rw [if_neg (fun e => (txt_head n n (Nat.le_refl _) h0).1 e.2)]
  · rw [if_neg h, if_neg h]
/-- the digits of a number that is not below 0 -/
def natT (n : Nat) : Str := if n = 0 then [48] else txt (digs n)
theorem natT_di (n : Nat) : (natT n).all (fun b => isDi b.toNat) = true := by
  unfold natT
  split
  · rfl
  · exact txt_di (digs_dg n)
theorem natT_ne (n : Nat) : natT n ≠ [] := by
  unfold natT
  split
  · simp
  · rename_i h; exact (txt_head n n (Nat.le_refl _) h).2
theorem rnumF_natT (n : Nat) : rnumF (natT n) = if (n : Int) ≤ 9223372036854775807 then (n : Int) else -1 := by
  unfold natT
  split
  · rename_i h; subst h; decide +kernel
  · rename_i h; exact rnumF_txt h
theorem natT_wd (n : Nat) : (natT n).all (fun b => isWd b.toNat) = true := all_imp (fun b hb => Lp.in_wd b (Lp.di_in b hb)) (natT_di n)
theorem tokS_nat {n : Nat} {r : Str} (hr : dlm r) : tokS (natT n ++ r) = if (n : Int) ≤ 9223372036854775807 then some (3, natT n, (n : Int), (natT n).length) else none := by
  have hp := pre_word (natT_ne n) (natT_wd n) hr
  have ht := tw_same (natT_wd n) (fun c t e => (hr c t e).1)
  have hc : clsF (Sx.byt (natT n ++ r) 0) = 3 := by
    have h1 := natT_di n
    have h2 := natT_ne n
    cases hw : natT n with
    | nil => exact absurd hw h2
    | cons c t =>
      rw [hw] at h1
      simp only [List.all_cons, Bool.and_eq_true] at h1
      exact Lp.cls_di h1.1
  unfold tokS
  rw [hp, ht, if_neg (by simp), if_neg (by rw [hc]; decide), if_neg (by rw [hc]; decide), if_pos hc, rnumF_natT]
  by_cases h : (n : Int) ≤ 9223372036854775807
  · rw [if_pos h, if_pos h, if_pos (by omega)]
  · rw [if_neg h, if_neg h, if_neg (by decide)]
theorem numT_nat {n : Int} (h : 0 ≤ n) : numT n = natT n.natAbs := by
  unfold numT natT
  rw [if_neg (by omega)]
  by_cases h0 : n = 0
  · rw [if_pos h0, if_pos (by omega)]
  · rw [if_neg h0, if_neg (by omega)]
theorem numT_neg {n : Int} (h : n < 0) : numT n = 45 :: natT n.natAbs := by
  unfold numT natT
  rw [if_pos h, if_neg (by omega), if_neg (by omega)]
/-! ## texts -/
theorem qS_quo {r : Str} (hr : ∀ t, r ≠ 39 :: t) : ∀ (s acc : Str), qS (quo s ++ 39 :: r) acc = some (acc ++ s, (quo s).length + 1)
  | [], acc => by
    cases r with
    | nil => simp [quo, qS]
    | cons d t =>
      have hd : d ≠ 39 := fun e => hr t (by rw [e])
      simp [quo, qS, hd]
  | b :: s, acc => by
    by_cases hb : b = 39
    · subst hb
      simp only [quo, if_true, List.cons_append, qS]
      rw [qS_quo hr s (acc ++ [39])]
      simp
    · have ih := qS_quo hr s (acc ++ [b])
      simp only [quo, if_neg hb, List.cons_append]
      cases hq : quo s ++ 39 :: r with
      | nil => simp at hq
      | cons d t =>
        rw [hq] at ih
        rw [qS, if_neg hb, ih]
        simp
theorem tokS_text {s r : Str} (h : checkF 4 0 s = 0) (hr : ∀ t, r ≠ 39 :: t) : tokS (39 :: (quo s ++ [39]) ++ r) = some (4, s, 0, (quo s).length + 2) := by
  have hp : pre (39 :: (quo s ++ [39]) ++ r) [120, 39] = false := by simp [pre]
  have hc : clsF (Sx.byt (39 :: (quo s ++ [39]) ++ r) 0) = 5 := by
    have e : Sx.byt (39 :: (quo s ++ [39]) ++ r) 0 = 39 := rfl
    rw [e]; decide +kernel
  have hd : (39 :: (quo s ++ [39]) ++ r).drop 1 = quo s ++ 39 :: r := by simp
  unfold tokS
  rw [hp, if_neg (by simp), if_neg (by rw [hc]; decide), if_neg (by rw [hc]; decide), if_neg (by rw [hc]; decide), if_pos hc, hd, qS_quo hr s []]
  simp only [List.nil_append]
  rw [if_pos h]
/-! ## bytes -/
theorem hex2_all : ((List.range 256).all fun n => decide (hexD ((hexL.getD (n / 16) 0).toNat : Int) = some ((n / 16 : Nat) : Int)) && decide (hexD ((hexL.getD (n % 16) 0).toNat : Int) = some ((n % 16 : Nat) : Int)) && nq ((hexL.getD (n / 16) 0).toNat : Int) && nq ((hexL.getD (n % 16) 0).toNat : Int)) = true := by kernel_rfl
theorem hex2_is (b : UInt8) : hexD ((hexL.getD (b.toNat / 16) 0).toNat : Int) = some ((b.toNat / 16 : Nat) : Int) ∧ hexD ((hexL.getD (b.toNat % 16) 0).toNat : Int) = some ((b.toNat % 16 : Nat) : Int) ∧ nq ((hexL.getD (b.toNat / 16) 0).toNat : Int) = true ∧ nq ((hexL.getD (b.toNat % 16) 0).toNat : Int) = true := by
  have h := List.all_eq_true.1 hex2_all b.toNat (List.mem_range.2 b.toNat_lt)
  simp only [Bool.and_eq_true, decide_eq_true_eq] at h
  exact ⟨h.1.1.1, h.1.1.2, h.1.2, h.2⟩
theorem hexs_cons2 (b : UInt8) (s : Str) : hexs (b :: s) = hexL.getD (b.toNat / 16) 0 :: hexL.getD (b.toNat % 16) 0 :: hexs s := rfl
theorem unGo_hexs : ∀ (s acc : Str), unGo (hexs s) acc = some (acc ++ s)
  | [], acc => by simp [hexs, unGo]
  | b :: s, acc => by
    obtain ⟨h1, h2, _, _⟩ := hex2_is b
    rw [hexs_cons2, unGo, h1, h2]
    simp only
    rw [unGo_hexs s]
    have e : (((b.toNat / 16 : Nat) : Int) * 16 + ((b.toNat % 16 : Nat) : Int)).toNat = b.toNat := by omega
    rw [e]
    simp
theorem hexs_nq : ∀ s : Str, (hexs s).all (fun b => nq b.toNat) = true
  | [] => rfl
  | b :: s => by
    obtain ⟨_, _, h1, h2⟩ := hex2_is b
    rw [hexs_cons2, List.all_cons, List.all_cons, h1, h2, hexs_nq s]
    rfl
theorem tokS_bytes {s r : Str} (h : s.length ≤ 1000) : tokS (120 :: 39 :: (hexs s ++ [39]) ++ r) = some (5, s, 0, (hexs s).length + 3) := by
  have hp : pre (120 :: 39 :: (hexs s ++ [39]) ++ r) [120, 39] = true := by simp [pre]
  have hd : (120 :: 39 :: (hexs s ++ [39]) ++ r).drop 2 = hexs s ++ 39 :: r := by simp
  have ht : tw nq (hexs s ++ 39 :: r) = hexs s := tw_same (hexs_nq s) (fun c t e => by cases e; decide +kernel)
  have hl := hexs_len s
  unfold tokS
  rw [hp, if_pos rfl, hd, ht, if_neg (by simp only [List.length_append, List.length_cons]; omega), if_pos (by omega), unGo_hexs]
  simp only [List.nil_append]
  rw [if_neg (by omega)]
/-! ## a value's text -/
theorem vright_one {v : Val} (h : vright v = true) (hk : v.kind = 1) : v.n = 0 ∧ v.s = [] := by
  simp [vright, hk] at h
  by_cases h0 : v.n = 0
  · simp [h0] at h; exact ⟨h0, h⟩
  · simp [h0] at h
theorem vright_kind {v : Val} (h : vright v = true) : v.kind = 1 ∨ v.kind = 2 ∨ v.kind = 3 ∨ v.kind = 4 ∨ v.kind = 5 := by
  by_cases h1 : v.kind = 1; · exact .inl h1
  by_cases h2 : v.kind = 2; · exact .inr (.inl h2)
  by_cases h3 : v.kind = 3; · exact .inr (.inr (.inl h3))
  by_cases h4 : v.kind = 4; · exact .inr (.inr (.inr (.inl h4)))
  by_cases h5 : v.kind = 5; · exact .inr (.inr (.inr (.inr h5)))
  simp [vright, h1, h2, h3, h4, h5] at h
theorem visible_4 (x : Str) : visible x = Lp.visF x := by
  have e : ∀ b : UInt8, vis b = Lp.vis (b.toNat : Int) := fun b => by
    simp only [vis, Lp.vis]
    rw [show decide (32 ≤ b.toNat) = decide (32 ≤ (b.toNat : Int)) from decide_eq_decide.2 (by omega), show decide (b.toNat ≤ 126) = decide ((b.toNat : Int) ≤ 126) from decide_eq_decide.2 (by omega)]
  simp only [visible, Lp.visF]
  congr 1
  funext b
  exact e b
theorem vright_4 (x : Str) : vright (Val.mk 4 0 x) = Lp.rightF 4 0 x := by
  show cond (decide ((x.length : Int) ≤ 1000)) (visible x) false = (decide ((x.length : Int) ≤ 1000) && Lp.visF x)
  rw [visible_4]
  cases decide ((x.length : Int) ≤ 1000) <;> rfl
theorem vright_text {v : Val} (h : vright v = true) (hk : v.kind = 4) : checkF 4 0 v.s = 0 ∧ v.n = 0 := by
  have hn : v.n = 0 := by
    by_cases h0 : v.n = 0
    · exact h0
    · simp [vright, hk, h0] at h
  have e : v = Val.mk 4 0 v.s := by cases v; simp only at hk hn; subst hk hn; rfl
  have h2 := vright_4 v.s
  rw [← e, h] at h2
  refine ⟨?_, hn⟩
  unfold checkF
  rw [if_pos h2.symm]
theorem vright_bytes {v : Val} (h : vright v = true) (hk : v.kind = 5) : v.s.length ≤ 1000 ∧ v.n = 0 := by
  refine ⟨right_len h (.inr hk), ?_⟩
  by_cases h0 : v.n = 0
  · exact h0
  · simp [vright, hk, h0] at h
/-- what a value's text is read as, but for numbers below 0: kind of token, text, number -/
def vtok (v : Val) : Int × Str × Int := if v.kind = 3 then (3, natT v.n.natAbs, v.n) else if v.kind = 4 then (4, v.s, 0) else if v.kind = 5 then (5, v.s, 0) else (1, vprint v, 0)
theorem tokS_val {v : Val} {r : Str} (h : vright v = true) (hn : v.kind = 3 → 0 ≤ v.n ∧ v.n ≤ 9223372036854775807) (hr : dlm r) : tokS (vprint v ++ r) = some ((vtok v).1, (vtok v).2.1, (vtok v).2.2, (vprint v).length) := by
  have hr39 : ∀ t, r ≠ 39 :: t := fun t e => (hr 39 t e).2 rfl
  rcases vright_kind h with hk | hk | hk | hk | hk
  · have e : vprint v = [78, 85, 76, 76] := by simp [vprint, h, hk]
    have e2 : vtok v = (1, [78, 85, 76, 76], 0) := by simp [vtok, hk, e]
    rw [e, e2]
    exact tokS_word (by decide +kernel) hr
  · have e : vprint v = if v.n = 0 then [70, 65, 76, 83, 69] else [84, 82, 85, 69] := by simp [vprint, h, hk]
    have e2 : vtok v = (1, vprint v, 0) := by simp [vtok, hk]
    rw [e2]
    exact tokS_word (by rw [e]; split <;> decide +kernel) hr
  · obtain ⟨h0, h1⟩ := hn hk
    have e : vprint v = natT v.n.natAbs := by simp only [vprint, h, hk]; rw [← numT_nat h0]; rfl
    have e2 : vtok v = (3, natT v.n.natAbs, v.n) := by simp [vtok, hk]
    rw [e, e2, tokS_nat hr, if_pos (by omega)]
    have e3 : ((v.n.natAbs : Nat) : Int) = v.n := by omega
    rw [e3]
  · have e : vprint v = 39 :: (quo v.s ++ [39]) := by simp [vprint, h, hk]
    have e2 : vtok v = (4, v.s, 0) := by simp [vtok, hk]
    rw [e, e2, tokS_text (vright_text h hk).1 hr39]
    simp
  · have e : vprint v = 120 :: 39 :: (hexs v.s ++ [39]) := by simp [vprint, h, hk]
    have e2 : vtok v = (5, v.s, 0) := by simp [vtok, hk]
    rw [e, e2, tokS_bytes (vright_bytes h hk).1]
    simp
end Go.Proofs.YtjpcghlpkinahaaDoor

/- Plain law: two values that may be, and are not the same, have two texts. -/
namespace Go.Proofs.YtjpcghlpkinahaaDoor
open Go.Ax
theorem quo_inj : ∀ s t : Str, quo s = quo t → s = t
  | [], [], _ => rfl
  | [], b :: m, h => by
    simp only [quo] at h
    split at h <;> cases h
  | a :: l, [], h => by
    simp only [quo] at h
    split at h <;> cases h
  | a :: l, b :: m, h => by
    simp only [quo] at h
    by_cases ha : a = 39 <;> by_cases hb : b = 39
    · rw [if_pos ha, if_pos hb] at h
      simp only [List.cons.injEq, true_and] at h
      rw [ha, hb, quo_inj l m h]
    · rw [if_pos ha, if_neg hb] at h
      simp only [List.cons.injEq] at h
      exact absurd h.1.symm hb
    · rw [if_neg ha, if_pos hb] at h
      simp only [List.cons.injEq] at h
      exact absurd h.1 ha
    · rw [if_neg ha, if_neg hb] at h
      simp only [List.cons.injEq] at h
      rw [h.1, quo_inj l m h.2]
def hexAt (n : Nat) : Bool := (List.range 256).all fun m => !decide (hex2 n = hex2 m) || decide (n = m)
theorem hex_all : ((List.range 256).all hexAt) = true := by kernel_rfl
theorem hex2_inj {a b : UInt8} (h : hex2 a.toNat = hex2 b.toNat) : a = b := by
  have h1 := List.all_eq_true.1 hex_all a.toNat (List.mem_range.2 a.toNat_lt)
  have h2 := List.all_eq_true.1 h1 b.toNat (List.mem_range.2 b.toNat_lt)
  simp only [Bool.or_eq_true, Bool.not_eq_true', decide_eq_false_iff_not, decide_eq_true_eq] at h2
  rcases h2 with h2 | h2
  · exact absurd h h2
  · exact UInt8.toNat_inj.1 h2
theorem hexs_cons (b : UInt8) (l : Str) : hexs (b :: l) = hex2 b.toNat ++ hexs l := by simp [hexs]
theorem hexs_inj : ∀ s t : Str, hexs s = hexs t → s = t
  | [], [], _ => rfl
  | [], b :: m, h => by have := congrArg List.length h; rw [hexs_len, hexs_len] at this; simp at this
  | a :: l, [], h => by have := congrArg List.length h; rw [hexs_len, hexs_len] at this; simp at this
  | a :: l, b :: m, h => by
    rw [hexs_cons, hexs_cons] at h
    obtain ⟨h1, h2⟩ := List.append_inj h rfl
    rw [hex2_inj h1, hexs_inj l m h2]
theorem dch_inj {c d : Int} (hc : 0 ≤ c ∧ c ≤ 9) (hd : 0 ≤ d ∧ d ≤ 9) (h : dch c = dch d) : c = d := by
  have h1 := congrArg UInt8.toNat h
  simp only [dch, UInt8.toNat_ofNat'] at h1
  omega
theorem map_inj : ∀ l m : List Int, dg l = true → dg m = true → l.map dch = m.map dch → l = m
  | [], [], _, _, _ => rfl
  | [], _ :: _, _, _, h => by cases h
  | _ :: _, [], _, _, h => by cases h
  | x :: l, y :: m, hl, hm, h => by
    have hl := dg_cons.1 hl
    have hm := dg_cons.1 hm
    simp only [List.map_cons, List.cons.injEq] at h
    rw [dch_inj hl.1 hm.1 h.1, map_inj l m hl.2 hm.2 h.2]
theorem txt_inj {l m : List Int} (hl : dg l = true) (hm : dg m = true) (h : txt l = txt m) : l = m := by
  have := congrArg List.reverse h
  simp only [txt, List.reverse_reverse] at this
  exact map_inj l m hl hm this
/-- the digits of a number, at least one -/
def dgs (n : Nat) : List Int := if n = 0 then [0] else digs n
theorem dgs_dg (n : Nat) : dg (dgs n) = true := by
  simp only [dgs]
  split
  · rfl
  · exact digs_dg n
theorem dgs_val (n : Nat) : val (dgs n) = (n : Int) := by
  simp only [dgs]
  split
  · rename_i h; rw [h]; rfl
  · exact digs_val n
theorem numT_un (n : Int) : numT n = if n < 0 then 45 :: txt (dgs n.natAbs) else txt (dgs n.natAbs) := by
  simp only [numT, dgs]
  by_cases h : n = 0
  · subst h; rfl
  · rw [if_neg h, if_neg (show ¬ n.natAbs = 0 by omega)]
theorem txt_first {n : Nat} : ∃ d l, txt (dgs n) = dch d :: l ∧ 0 ≤ d ∧ d ≤ 9 := by
  have hd := dgs_dg n
  have hne : ¬ dgs n = [] := by
    simp only [dgs]
    split
    · simp
    · rename_i h; exact digs_ne h
  rcases List.eq_nil_or_concat (dgs n) with h | ⟨l, x, h⟩
  · exact absurd h hne
  · rw [List.concat_eq_append] at h
    rw [h] at hd ⊢
    have := (dg_cons.1 (dg_app.1 hd).2).1
    exact ⟨x, (l.map dch).reverse, by simp [txt], this⟩
theorem dch_ne {d : Int} (h : 0 ≤ d ∧ d ≤ 9) : 48 ≤ (dch d).toNat ∧ (dch d).toNat ≤ 57 := by
  simp only [dch, UInt8.toNat_ofNat']
  omega
theorem numT_inj {n m : Int} (h : numT n = numT m) : n = m := by
  have key : ∀ a b : Nat, txt (dgs a) = txt (dgs b) → a = b := fun a b h => by
    have e := txt_inj (dgs_dg a) (dgs_dg b) h
    have := congrArg val e
    rw [dgs_val, dgs_val] at this
    omega
  have no : ∀ a b : Nat, 45 :: txt (dgs a) = txt (dgs b) → False := fun a b h => by
    obtain ⟨d, l, e, hd⟩ := txt_first (n := b)
    rw [e] at h
    simp only [List.cons.injEq] at h
    have h1 := dch_ne hd
    rw [← h.1] at h1
    have : (45 : UInt8).toNat = 45 := rfl
    omega
  rw [numT_un, numT_un] at h
  by_cases h1 : n < 0 <;> by_cases h2 : m < 0
  · rw [if_pos h1, if_pos h2] at h
    simp only [List.cons.injEq, true_and] at h
    have := key _ _ h
    omega
  · rw [if_pos h1, if_neg h2] at h
    exact (no _ _ h).elim
  · rw [if_neg h1, if_pos h2] at h
    exact (no _ _ h.symm).elim
  · rw [if_neg h1, if_neg h2] at h
    have := key _ _ h
    omega
/-- the first sign tells the kind -/
def fst1 : Str → Nat
  | [] => 0
  | b :: _ => b.toNat
def cl (n : Nat) : Int := if n = 78 then 1 else if n = 70 ∨ n = 84 then 2 else if n = 45 ∨ (48 ≤ n ∧ n ≤ 57) then 3 else if n = 39 then 4 else if n = 120 then 5 else 0
theorem num_first (n : Int) : cl (fst1 (numT n)) = 3 := by
  rw [numT_un]
  split
  · rfl
  · obtain ⟨d, l, e, hd⟩ := txt_first (n := n.natAbs)
    rw [e]
    have key : ∀ k : Nat, 48 ≤ k ∧ k ≤ 57 → cl k = 3 := fun k h1 => by
      simp only [cl]
      rw [if_neg (by omega), if_neg (by omega), if_pos (.inr h1)]
    exact key _ (dch_ne hd)
theorem right_five {v : Val} (h : vright v = true) : v.kind = 1 ∨ v.kind = 2 ∨ v.kind = 3 ∨ v.kind = 4 ∨ v.kind = 5 := by
  by_cases h1 : v.kind = 1
  · exact .inl h1
  by_cases h2 : v.kind = 2
  · exact .inr (.inl h2)
  by_cases h3 : v.kind = 3
  · exact .inr (.inr (.inl h3))
  by_cases h4 : v.kind = 4
  · exact .inr (.inr (.inr (.inl h4)))
  by_cases h5 : v.kind = 5
  · exact .inr (.inr (.inr (.inr h5)))
  · simp [vright, h1, h2, h3, h4, h5] at h
theorem print_kind {v : Val} (h : vright v = true) : cl (fst1 (vprint v)) = v.kind := by
  simp only [vprint, h, cond_t]
  rcases right_five h with k | k | k | k | k
  · rw [if_neg (by omega), if_neg (by omega), if_neg (by omega), if_neg (by omega), k]; rfl
  · rw [if_pos k, k]
    split <;> rfl
  · rw [if_neg (by omega), if_pos k, k, num_first]
  · rw [if_neg (by omega), if_neg (by omega), if_pos k, k]; rfl
  · rw [if_neg (by omega), if_neg (by omega), if_neg (by omega), if_pos k, k]; rfl
theorem print_ne {v : Val} (h : vright v = true) : ¬ vprint v = [] := fun e => by
  have h1 := print_kind h
  rw [e] at h1
  have h2 : cl (fst1 []) = 0 := rfl
  rcases right_five h with k | k | k | k | k <;> omega
theorem print_inj {a b : Val} (ha : vright a = true) (hb : vright b = true) (h : vprint a = vprint b) : a = b := by
  have hk : a.kind = b.kind := by rw [← print_kind ha, ← print_kind hb, h]
  obtain ⟨k, n, s⟩ := a
  obtain ⟨k', n', s'⟩ := b
  simp only at hk
  subst hk
  simp only [vprint, ha, hb, cond_t] at h
  rcases right_five ha with e | e | e | e | e <;> simp only at e <;> subst e
  · simp [vright] at ha hb
    simp [ha, hb]
  · have b1 := right_bool ha rfl
    have b2 := right_bool hb rfl
    simp only at b1 b2
    rcases b1 with rfl | rfl <;> rcases b2 with rfl | rfl
    · simp [vright] at ha hb; simp [ha, hb]
    · simp at h
    · simp at h
    · simp [vright] at ha hb; simp [ha, hb]
  · rw [if_neg (by decide), if_pos rfl, if_neg (by decide), if_pos rfl] at h
    simp [vright] at ha hb
    simp [ha, hb, numT_inj h]
  · rw [if_neg (by decide), if_neg (by decide), if_pos rfl, if_neg (by decide), if_neg (by decide), if_pos rfl] at h
    simp only [List.cons.injEq, true_and] at h
    have h2 := quo_inj s s' (List.append_cancel_right h)
    simp [vright] at ha hb
    simp [ha, hb, h2]
  · rw [if_neg (by decide), if_neg (by decide), if_neg (by decide), if_pos rfl, if_neg (by decide), if_neg (by decide), if_neg (by decide), if_pos rfl] at h
    simp only [List.cons.injEq, true_and] at h
    have h2 := hexs_inj s s' (List.append_cancel_right h)
    simp [vright] at ha hb
    simp [ha, hb, h2]
end Go.Proofs.YtjpcghlpkinahaaDoor

/- Plain law: two expressions that are not the same have two texts, whatever stands behind. -/
namespace Go.Proofs.YtjpcghlpkinahaaDoor
open Go.Ax
open Lp (tokS)
/-! ## what stands behind an expression -/
def Dl (r : Str) : Prop := ∀ c t, r = c :: t → c = 32 ∨ c = 41 ∨ c = 44
theorem dl_nil : Dl [] := fun _ _ h => by cases h
theorem dl32 (t : Str) : Dl (32 :: t) := fun _ _ e => by cases e; exact .inl rfl
theorem dl41 (t : Str) : Dl (41 :: t) := fun _ _ e => by cases e; exact .inr (.inl rfl)
theorem dl44 (t : Str) : Dl (44 :: t) := fun _ _ e => by cases e; exact .inr (.inr rfl)
theorem dl_dlm {r : Str} (h : Dl r) : dlm r := fun c t e => by
  rcases h c t e with rfl | rfl | rfl <;> exact ⟨by decide +kernel, by decide⟩
theorem app_len_eq {a b r q : Str} (h : a ++ r = b ++ q) (hl : a.length = b.length) : a = b ∧ r = q := by
  exact List.append_inj h hl
theorem tok_split {a b r q : Str} {k l : Int} {s t : Str} {n m : Int} (ha : tokS (a ++ r) = some (k, s, n, a.length)) (hb : tokS (b ++ q) = some (l, t, m, b.length)) (h : a ++ r = b ++ q) : (k = l ∧ s = t) ∧ a = b ∧ r = q := by
  rw [h, hb] at ha
  simp only [Option.some.injEq, Prod.mk.injEq] at ha
  obtain ⟨h1, h2, _, h4⟩ := ha
  exact ⟨⟨h1.symm, h2.symm⟩, app_len_eq h (by omega)⟩
theorem lname_tok {w r : Str} (h : lname w = true) (hr : Dl r) : tokS (w ++ r) = some (2, w, 0, w.length) := by
  have h : Lp.nameF w = true := h
  rw [Lp.name_eq] at h
  exact tokS_name h (dl_dlm hr)
theorem name_split2 {a b r q : Str} (ha : lname a = true) (hb : lname b = true) (hr : Dl r) (hq : Dl q) (h : a ++ r = b ++ q) : a = b ∧ r = q :=
  (tok_split (lname_tok ha hr) (lname_tok hb hq) h).2
/-! ## an expression that is one token -/
theorem vtok_kind {v : Val} : (vtok v).1 = 1 ∨ (vtok v).1 = 3 ∨ (vtok v).1 = 4 ∨ (vtok v).1 = 5 := by
  simp only [vtok]
  split
  · exact .inr (.inl rfl)
  · split
    · exact .inr (.inr (.inl rfl))
    · split
      · exact .inr (.inr (.inr rfl))
      · exact .inl rfl
theorem eok_val {e : Xpr} (h : eok e.kind e.v e.name = true) (hk : e.kind = 1) : vright e.v = true ∧ (e.v.kind = 3 → 0 ≤ e.v.n) ∧ e.name = [] := by
  simp only [eok] at h
  rw [decide_eq_true hk, decide_eq_false (show ¬ e.kind = 2 by omega), cond_t, cond_f] at h
  simp only [Bool.and_eq_true, decide_eq_true_eq, Bool.not_eq_true', Bool.and_eq_false_iff, decide_eq_false_iff_not] at h
  obtain ⟨⟨h1, h2⟩, h3⟩ := h
  refine ⟨?_, fun h => ?_, h3⟩
  · simp only [vcheck] at h1
    cases hv : vright e.v with
    | true => rfl
    | false => rw [hv] at h1; simp at h1
  · rcases h2 with h2 | h2
    · exact absurd h h2
    · omega
theorem eok_name {e : Xpr} (h : eok e.kind e.v e.name = true) (hk : e.kind = 2) : lname e.name = true ∧ e.v = ⟨0, 0, []⟩ := by
  simp only [eok] at h
  rw [decide_eq_true hk, decide_eq_false (show ¬ e.kind = 1 by omega), cond_t, cond_f] at h
  simp only [Bool.and_eq_true, decide_eq_true_eq] at h
  exact ⟨h.2, h.1⟩
theorem eok_no {e : Xpr} (h : eok e.kind e.v e.name = true) (h1 : ¬ e.kind = 1) (h2 : ¬ e.kind = 2) : e.v = ⟨0, 0, []⟩ ∧ e.name = [] := by
  simp only [eok] at h
  rw [decide_eq_false h1, decide_eq_false h2, cond_f, cond_f] at h
  simp only [Bool.and_eq_true, decide_eq_true_eq] at h
  exact h
/-- the token that a value or a name is -/
theorem atom_tok {e : Xpr} {m : Int} {r : Str} (h : eright e m = true) (hb : BdExpr e) (hk : e.kind = 1 ∨ e.kind = 2) (hr : Dl r) : ∃ k s n, tokS (etx e ++ r) = some (k, s, n, (etx e).length) ∧ ((e.kind = 1 ∧ (k = 1 ∧ s = vprint e.v ∨ k = 3 ∨ k = 4 ∨ k = 5)) ∨ (e.kind = 2 ∧ k = 2 ∧ s = e.name)) := by
  obtain ⟨_, ho, _⟩ := eright_parts h
  rw [etx_un]
  rcases hk with k1 | k2
  · rw [if_pos k1]
    obtain ⟨h1, h2, _⟩ := eok_val ho k1
    have hn := (bd_v hb).1.2.1
    simp only [inI] at hn
    refine ⟨_, _, _, tokS_val h1 (fun hk => ⟨h2 hk, hn.2⟩) (dl_dlm hr), .inl ⟨k1, ?_⟩⟩
    rcases vtok_kind (v := e.v) with h3 | h3 | h3 | h3
    · refine .inl ⟨h3, ?_⟩
      simp only [vtok] at h3 ⊢
      split at h3
      · simp at h3
      · rename_i n3
        rw [if_neg n3]
        split at h3
        · simp at h3
        · rename_i n4
          rw [if_neg n4]
          split at h3
          · simp at h3
          · rename_i n5
            rw [if_neg n5]
    · exact .inr (.inl h3)
    · exact .inr (.inr (.inl h3))
    · exact .inr (.inr (.inr h3))
  · rw [if_neg (by omega), if_pos k2]
    exact ⟨2, e.name, 0, lname_tok (eok_name ho k2).1 hr, .inr ⟨k2, rfl, rfl⟩⟩
theorem xpr_ext {a b : Xpr} (h1 : a.kind = b.kind) (h2 : a.v = b.v) (h3 : a.name = b.name) (h4 : a.l = b.l) : a = b := by
  cases a; cases b
  simp only [Xpr.kind, Xpr.v, Xpr.name, Xpr.l] at h1 h2 h3 h4
  rw [h1, h2, h3, h4]
theorem right_nil {e : Xpr} {m : Int} (h : eright e m = true) (hk : e.kind = 1 ∨ e.kind = 2) : e.l = [] := by
  obtain ⟨hp, _, _⟩ := eright_parts h
  have : parts e.kind = 0 := by rcases hk with k | k <;> rw [k] <;> decide
  exact List.eq_nil_of_length_eq_zero (by omega)
theorem tok40 (t : Str) : tokS (40 :: t) = some (6, [40], 0, 1) := by
  have hp : Lp.pre (40 :: t) [120, 39] = false := by simp [Lp.pre]
  have hc : Lp.clsF (Sx.byt (40 :: t) 0) = 7 := by
    have e : Sx.byt (40 :: t) 0 = 40 := rfl
    rw [e]; decide +kernel
  have h2 : Lp.twoS (40 :: t) = false := by simp [Lp.twoS, Lp.pre]
  unfold tokS
  rw [hp, if_neg (by simp), if_neg (by rw [hc]; decide), if_neg (by rw [hc]; decide), if_neg (by rw [hc]; decide), if_neg (by rw [hc]; decide), if_pos hc, h2]
  rfl
theorem tok45 (t : Str) : tokS (45 :: t) = some (6, [45], 0, 1) := by
  have hp : Lp.pre (45 :: t) [120, 39] = false := by simp [Lp.pre]
  have hc : Lp.clsF (Sx.byt (45 :: t) 0) = 7 := by
    have e : Sx.byt (45 :: t) 0 = 45 := rfl
    rw [e]; decide +kernel
  have h2 : Lp.twoS (45 :: t) = false := by simp [Lp.twoS, Lp.pre]
  unfold tokS
  rw [hp, if_neg (by simp), if_neg (by rw [hc]; decide), if_neg (by rw [hc]; decide), if_neg (by rw [hc]; decide), if_neg (by rw [hc]; decide), if_pos hc, h2]
  rfl
/-! ## what an expression of parts looks like -/
def isOp (k : Int) : Prop := 4 ≤ k ∧ k ≤ 14
inductive Shape : Xpr → Prop where
  | atom (e : Xpr) (h : e.kind = 1 ∨ e.kind = 2) : Shape e
  | not (x : Xpr) : Shape (.mk 3 ⟨0, 0, []⟩ [] [x])
  | neg (x : Xpr) : Shape (.mk 15 ⟨0, 0, []⟩ [] [x])
  | isn (x : Xpr) : Shape (.mk 16 ⟨0, 0, []⟩ [] [x])
  | op (k : Int) (x y : Xpr) (h : isOp k) : Shape (.mk k ⟨0, 0, []⟩ [] [x, y])
theorem shape_of {e : Xpr} {m : Int} (h : eright e m = true) : Shape e := by
  obtain ⟨hp, ho, _⟩ := eright_parts h
  by_cases hk : e.kind = 1 ∨ e.kind = 2
  · exact .atom e hk
  · obtain ⟨h1, h2⟩ := eok_no ho (fun h => hk (.inl h)) (fun h => hk (.inr h))
    have ee : e = .mk e.kind ⟨0, 0, []⟩ [] e.l := xpr_ext rfl h1 h2 rfl
    rcases parts_spec e.kind with ⟨p, q⟩ | ⟨p, q⟩ | ⟨p, q⟩ | p
    · exact absurd q hk
    · obtain ⟨x, hx⟩ : ∃ x, e.l = [x] := List.length_eq_one_iff.1 (by omega)
      rw [hx] at ee
      rcases q with q | q | q <;> rw [q] at ee <;> rw [ee]
      · exact .not x
      · exact .neg x
      · exact .isn x
    · obtain ⟨x, y, hx⟩ : ∃ x y, e.l = [x, y] := by
        match hq : e.l, (show e.l.length = 2 by omega) with
        | [x, y], _ => exact ⟨x, y, rfl⟩
      rw [hx] at ee
      rw [ee]
      exact .op _ x y q
    · omega
theorem etx_not (x : Xpr) : etx (.mk 3 ⟨0, 0, []⟩ [] [x]) = 40 :: ([78, 79, 84] ++ 32 :: (etx x ++ [41])) := by
  simp [etx, etxs]
theorem etx_neg (x : Xpr) : etx (.mk 15 ⟨0, 0, []⟩ [] [x]) = 40 :: 45 :: (etx x ++ [41]) := by
  simp [etx, etxs]
theorem etx_isn (x : Xpr) : etx (.mk 16 ⟨0, 0, []⟩ [] [x]) = 40 :: (etx x ++ 32 :: 73 :: 83 :: 32 :: 78 :: 85 :: 76 :: 76 :: [41]) := by
  simp [etx, etxs]
theorem etx_op {k : Int} (h : isOp k) (x y : Xpr) : etx (.mk k ⟨0, 0, []⟩ [] [x, y]) = 40 :: (etx x ++ 32 :: (sgn k ++ 32 :: (etx y ++ [41]))) := by
  simp only [isOp] at h
  simp only [etx, etxs, etx1]
  rw [if_neg (by omega), if_neg (by omega), if_neg (by omega), if_neg (by omega), if_neg (by omega)]
  simp
def sgOk (k : Int) : Bool := (sgn k).all (fun c => !decide (c = 32)) && !decide (sgn k = []) && !decide ((sgn k).head? = some 73)
theorem sg_ok {k : Int} (h : isOp k) : sgOk k = true := by
  simp only [isOp] at h
  have : k = 4 ∨ k = 5 ∨ k = 6 ∨ k = 7 ∨ k = 8 ∨ k = 9 ∨ k = 10 ∨ k = 11 ∨ k = 12 ∨ k = 13 ∨ k = 14 := by omega
  rcases this with rfl | rfl | rfl | rfl | rfl | rfl | rfl | rfl | rfl | rfl | rfl <;> decide
theorem sg_inj : ∀ k l : Fin 11, sgn ((k.val : Int) + 4) = sgn ((l.val : Int) + 4) → k = l := by decide
theorem sgn_inj {k l : Int} (hk : isOp k) (hl : isOp l) (h : sgn k = sgn l) : k = l := by
  simp only [isOp] at hk hl
  have e1 : ((k - 4).toNat : Int) + 4 = k := by omega
  have e2 : ((l - 4).toNat : Int) + 4 = l := by omega
  have := sg_inj ⟨(k - 4).toNat, by omega⟩ ⟨(l - 4).toNat, by omega⟩ (by simp only [e1, e2, h])
  simp only [Fin.mk.injEq] at this
  omega
/-- words without a blank, a blank behind each -/
theorem blank_split : ∀ {w v r q : Str}, (w.all fun c => !decide (c = 32)) = true → (v.all fun c => !decide (c = 32)) = true → w ++ 32 :: r = v ++ 32 :: q → w = v ∧ r = q
  | [], [], r, q, _, _, h => by
    simp only [List.nil_append, List.cons.injEq, true_and] at h
    exact ⟨rfl, h⟩
  | [], c :: v, r, q, _, hv, h => by
    simp only [List.nil_append, List.cons_append, List.cons.injEq] at h
    rw [← h.1] at hv
    simp at hv
  | c :: w, [], r, q, hw, _, h => by
    simp only [List.nil_append, List.cons_append, List.cons.injEq] at h
    rw [h.1] at hw
    simp at hw
  | c :: w, d :: v, r, q, hw, hv, h => by
    simp only [List.cons_append, List.cons.injEq] at h
    simp only [List.all_cons, Bool.and_eq_true] at hw hv
    obtain ⟨rfl, h⟩ := h
    obtain ⟨rfl, h2⟩ := blank_split hw.2 hv.2 h
    exact ⟨rfl, h2⟩
theorem etx_head {e : Xpr} {m : Int} (h : eright e m = true) (hn : ¬ (e.kind = 1 ∨ e.kind = 2)) : ∃ t, etx e = 40 :: t := by
  cases shape_of h with
  | atom e h => exact absurd h hn
  | not x => exact ⟨_, etx_not x⟩
  | neg x => exact ⟨_, etx_neg x⟩
  | isn x => exact ⟨_, etx_isn x⟩
  | op k x y hk => exact ⟨_, etx_op hk x y⟩
theorem word_not : Lp.wordF [78, 79, 84] = true := by decide +kernel
theorem not_x {e : Xpr} {m : Int} {r q : Str} (h : eright e m = true) (hb : BdExpr e) (hr : Dl r) (he : etx e ++ r = [78, 79, 84] ++ 32 :: q) : False := by
  have ht := tokS_word (r := 32 :: q) word_not (dl_dlm (dl32 q))
  by_cases hk : e.kind = 1 ∨ e.kind = 2
  · obtain ⟨k, s, n, h1, h2⟩ := atom_tok h hb hk hr
    obtain ⟨⟨h3, h4⟩, h5, _⟩ := tok_split h1 ht he
    obtain ⟨_, ho, _⟩ := eright_parts h
    rcases h2 with ⟨k1, h2⟩ | ⟨k2, h2, _⟩
    · have hv := print_kind (eok_val ho k1).1
      rcases h2 with ⟨_, h2⟩ | h2 | h2 | h2
      · rw [← h2, h4] at hv
        have e1 : cl (fst1 [78, 79, 84]) = 1 := rfl
        rw [e1] at hv
        rw [h4] at h2
        have hr1 := (eok_val ho k1).1
        have : vprint e.v = [78, 85, 76, 76] := by simp [vprint, hr1, ← hv]
        rw [this] at h2
        exact absurd h2 (by decide)
      all_goals omega
    · omega
  · obtain ⟨t, e1⟩ := etx_head h hk
    rw [e1] at he
    simp at he
theorem neg_x {e : Xpr} {m : Int} {r q : Str} (h : eright e m = true) (hb : BdExpr e) (hr : Dl r) (he : etx e ++ r = 45 :: q) : False := by
  by_cases hk : e.kind = 1 ∨ e.kind = 2
  · obtain ⟨k, s, n, h1, h2⟩ := atom_tok h hb hk hr
    rw [he, tok45] at h1
    simp only [Option.some.injEq, Prod.mk.injEq] at h1
    rcases h2 with ⟨_, h2⟩ | ⟨_, h2, _⟩ <;> omega
  · obtain ⟨t, e1⟩ := etx_head h hk
    rw [e1] at he
    simp at he
theorem atom_40 {e : Xpr} {m : Int} {r q : Str} (h : eright e m = true) (hb : BdExpr e) (hk : e.kind = 1 ∨ e.kind = 2) (hr : Dl r) (he : etx e ++ r = 40 :: q) : False := by
  obtain ⟨k, s, n, h1, h2⟩ := atom_tok h hb hk hr
  rw [he, tok40] at h1
  simp only [Option.some.injEq, Prod.mk.injEq] at h1
  rcases h2 with ⟨_, h2⟩ | ⟨_, h2, _⟩ <;> omega
theorem atom_atom {a b : Xpr} {m m' : Int} {r q : Str} (ha : eright a m = true) (hb : eright b m' = true) (ba : BdExpr a) (bb : BdExpr b) (ka : a.kind = 1 ∨ a.kind = 2) (kb : b.kind = 1 ∨ b.kind = 2) (hr : Dl r) (hq : Dl q) (h : etx a ++ r = etx b ++ q) : a = b ∧ r = q := by
  obtain ⟨k, s, n, h1, h2⟩ := atom_tok ha ba ka hr
  obtain ⟨l, t, p, h3, h4⟩ := atom_tok hb bb kb hq
  obtain ⟨⟨h5, h6⟩, h7, h8⟩ := tok_split h1 h3 h
  refine ⟨?_, h8⟩
  obtain ⟨_, oa, _⟩ := eright_parts ha
  obtain ⟨_, ob, _⟩ := eright_parts hb
  have la := right_nil ha ka
  have lb := right_nil hb kb
  rw [etx_un a, etx_un b] at h7
  rcases h2 with ⟨k1, h2⟩ | ⟨k1, h2, _⟩
  · rcases h4 with ⟨k2, _⟩ | ⟨_, h4, _⟩
    · rw [if_pos k1, if_pos k2] at h7
      obtain ⟨v1, _, n1⟩ := eok_val oa k1
      obtain ⟨v2, _, n2⟩ := eok_val ob k2
      exact xpr_ext (k1.trans k2.symm) (print_inj v1 v2 h7) (n1.trans n2.symm) (la.trans lb.symm)
    · omega
  · rcases h4 with ⟨_, h4⟩ | ⟨k2, _, _⟩
    · omega
    · rw [if_neg (by omega), if_pos k1, if_neg (by omega), if_pos k2] at h7
      exact xpr_ext (k1.trans k2.symm) ((eok_name oa k1).2.trans (eok_name ob k2).2.symm) h7 (la.trans lb.symm)
theorem right_sub {e x : Xpr} {m : Int} (h : eright e m = true) (hx : x ∈ e.l) : ∃ m', eright x m' = true := by
  obtain ⟨_, _, hs⟩ := eright_parts h
  rw [erights_all] at hs
  exact ⟨_, List.all_eq_true.1 hs x hx⟩
/-- THE LAW: an expression's text, and what stands behind, tell the expression -/
theorem etx_split : ∀ (n : Nat) (a b : Xpr) (m m' : Int) (r q : Str), esize a ≤ n → eright a m = true → eright b m' = true → BdExpr a → BdExpr b → Dl r → Dl q → etx a ++ r = etx b ++ q → a = b ∧ r = q
  | 0, a, _, _, _, _, _, h, _, _, _, _, _, _, _ => by have := esize_pos a; omega
  | n + 1, a, b, m, m', r, q, hn, ha, hb, ba, bb, hr, hq, h => by
    have sa := shape_of ha
    have sb := shape_of hb
    have iha : ∀ x, x ∈ a.l → ∀ y, y ∈ b.l → ∀ r q, Dl r → Dl q → etx x ++ r = etx y ++ q → x = y ∧ r = q := fun x hx y hy r q hr hq he => by
      obtain ⟨m1, h1⟩ := right_sub ha hx
      obtain ⟨m2, h2⟩ := right_sub hb hy
      refine etx_split n x y m1 m2 r q ?_ h1 h2 ((bd_ls ba).2 x hx) ((bd_ls bb).2 y hy) hr hq he
      have := esize_mem hx
      rw [esize_eq] at hn
      omega
    cases sa with
    | atom _ ka =>
      by_cases kb : b.kind = 1 ∨ b.kind = 2
      · exact atom_atom ha hb ba bb ka kb hr hq h
      · obtain ⟨t, e1⟩ := etx_head hb kb
        rw [e1] at h
        exact (atom_40 ha ba ka hr h).elim
    | not x =>
      have hx : x ∈ [x] := List.mem_cons_self
      obtain ⟨m1, h1⟩ := right_sub ha hx
      have b1 := (bd_ls ba).2 x hx
      rw [etx_not] at h
      cases sb with
      | atom _ kb => exact (atom_40 hb bb kb hq h.symm).elim
      | not y =>
        rw [etx_not] at h
        simp only [List.cons_append, List.nil_append, List.cons.injEq, true_and, List.append_assoc] at h
        obtain ⟨hxy, h5⟩ := iha x hx y List.mem_cons_self _ _ (dl41 _) (dl41 _) h
        clear h
        subst hxy
        have h := h5
        simp only [List.cons.injEq, true_and] at h
        exact ⟨rfl, h⟩
      | neg y =>
        rw [etx_neg] at h
        simp at h
      | isn y =>
        have hy : y ∈ [y] := List.mem_cons_self
        obtain ⟨m2, h2⟩ := right_sub hb hy
        rw [etx_isn] at h
        simp only [List.cons_append, List.cons.injEq, true_and, List.append_assoc] at h
        exact (not_x h2 ((bd_ls bb).2 y hy) (dl32 _) h.symm).elim
      | op k y z hk =>
        have hy : y ∈ [y, z] := List.mem_cons_self
        obtain ⟨m2, h2⟩ := right_sub hb hy
        rw [etx_op hk] at h
        simp only [List.cons_append, List.cons.injEq, true_and, List.append_assoc] at h
        exact (not_x h2 ((bd_ls bb).2 y hy) (dl32 _) h.symm).elim
    | neg x =>
      have hx : x ∈ [x] := List.mem_cons_self
      rw [etx_neg] at h
      cases sb with
      | atom _ kb => exact (atom_40 hb bb kb hq h.symm).elim
      | not y =>
        rw [etx_not] at h
        simp at h
      | neg y =>
        rw [etx_neg] at h
        simp only [List.cons_append, List.nil_append, List.cons.injEq, true_and, List.append_assoc] at h
        obtain ⟨hxy, h5⟩ := iha x hx y List.mem_cons_self _ _ (dl41 _) (dl41 _) h
        clear h
        subst hxy
        have h := h5
        simp only [List.cons.injEq, true_and] at h
        exact ⟨rfl, h⟩
      | isn y =>
        have hy : y ∈ [y] := List.mem_cons_self
        obtain ⟨m2, h2⟩ := right_sub hb hy
        rw [etx_isn] at h
        simp only [List.cons_append, List.cons.injEq, true_and, List.append_assoc] at h
        exact (neg_x h2 ((bd_ls bb).2 y hy) (dl32 _) h.symm).elim
      | op k y z hk =>
        have hy : y ∈ [y, z] := List.mem_cons_self
        obtain ⟨m2, h2⟩ := right_sub hb hy
        rw [etx_op hk] at h
        simp only [List.cons_append, List.cons.injEq, true_and, List.append_assoc] at h
        exact (neg_x h2 ((bd_ls bb).2 y hy) (dl32 _) h.symm).elim
    | isn x =>
      have hx : x ∈ [x] := List.mem_cons_self
      obtain ⟨m1, h1⟩ := right_sub ha hx
      have b1 := (bd_ls ba).2 x hx
      rw [etx_isn] at h
      cases sb with
      | atom _ kb => exact (atom_40 hb bb kb hq h.symm).elim
      | not y =>
        rw [etx_not] at h
        simp only [List.cons_append, List.cons.injEq, true_and, List.append_assoc] at h
        exact (not_x h1 b1 (dl32 _) h).elim
      | neg y =>
        rw [etx_neg] at h
        simp only [List.cons_append, List.cons.injEq, true_and, List.append_assoc] at h
        exact (neg_x h1 b1 (dl32 _) h).elim
      | isn y =>
        rw [etx_isn] at h
        simp only [List.cons_append, List.nil_append, List.cons.injEq, true_and, List.append_assoc] at h
        obtain ⟨hxy, h5⟩ := iha x hx y List.mem_cons_self _ _ (dl32 _) (dl32 _) h
        clear h
        subst hxy
        have h := h5
        simp only [List.cons.injEq, true_and] at h
        exact ⟨rfl, h⟩
      | op k y z hk =>
        rw [etx_op hk] at h
        simp only [List.cons_append, List.nil_append, List.cons.injEq, true_and, List.append_assoc] at h
        obtain ⟨hxy, h5⟩ := iha x hx y List.mem_cons_self _ _ (dl32 _) (dl32 _) h
        clear h
        subst hxy
        have h := h5
        have hs := sg_ok hk
        simp only [sgOk, Bool.and_eq_true, Bool.not_eq_true', decide_eq_false_iff_not] at hs
        cases hw : sgn k with
        | nil => exact absurd hw hs.1.2
        | cons c t =>
          rw [hw] at h hs
          simp only [List.cons_append, List.cons.injEq, true_and] at h
          exact absurd (by rw [← h.1]; rfl) hs.2
    | op k x z hk =>
      have hx : x ∈ [x, z] := List.mem_cons_self
      obtain ⟨m1, h1⟩ := right_sub ha hx
      have b1 := (bd_ls ba).2 x hx
      rw [etx_op hk] at h
      cases sb with
      | atom _ kb => exact (atom_40 hb bb kb hq h.symm).elim
      | not y =>
        rw [etx_not] at h
        simp only [List.cons_append, List.cons.injEq, true_and, List.append_assoc] at h
        exact (not_x h1 b1 (dl32 _) h).elim
      | neg y =>
        rw [etx_neg] at h
        simp only [List.cons_append, List.cons.injEq, true_and, List.append_assoc] at h
        exact (neg_x h1 b1 (dl32 _) h).elim
      | isn y =>
        rw [etx_isn] at h
        simp only [List.cons_append, List.nil_append, List.cons.injEq, true_and, List.append_assoc] at h
        obtain ⟨hxy, h5⟩ := iha x hx y List.mem_cons_self _ _ (dl32 _) (dl32 _) h
        clear h
        subst hxy
        have h := h5
        have hs := sg_ok hk
        simp only [sgOk, Bool.and_eq_true, Bool.not_eq_true', decide_eq_false_iff_not] at hs
        cases hw : sgn k with
        | nil => exact absurd hw hs.1.2
        | cons c t =>
          rw [hw] at h hs
          simp only [List.cons_append, List.cons.injEq, true_and] at h
          exact absurd (by rw [h.1]; rfl) hs.2
      | op l y w hl =>
        rw [etx_op hl] at h
        simp only [List.cons_append, List.nil_append, List.cons.injEq, true_and, List.append_assoc] at h
        obtain ⟨hxy, h5⟩ := iha x hx y List.mem_cons_self _ _ (dl32 _) (dl32 _) h
        clear h
        subst hxy
        have h := h5
        simp only [List.cons.injEq, true_and] at h
        have s1 := sg_ok hk
        have s2 := sg_ok hl
        simp only [sgOk, Bool.and_eq_true] at s1 s2
        obtain ⟨h2, h6⟩ := blank_split s1.1.1 s2.1.1 h
        have hkl := sgn_inj hk hl h2
        clear h h5 h2
        subst hkl
        have h := h6
        obtain ⟨hxy, h5⟩ := iha z (by simp [Xpr.l]) w (by simp [Xpr.l]) _ _ (dl41 _) (dl41 _) h
        clear h
        subst hxy
        have h := h5
        simp only [List.cons.injEq, true_and] at h
        exact ⟨rfl, h⟩
theorem etx_inj {a b : Xpr} {m m' : Int} (ha : eright a m = true) (hb : eright b m' = true) (ba : BdExpr a) (bb : BdExpr b) (h : etx a = etx b) : a = b :=
  (etx_split (esize a) a b m m' [] [] (Nat.le_refl _) ha hb ba bb dl_nil dl_nil (by rw [h])).1
end Go.Proofs.YtjpcghlpkinahaaDoor

/- Plain law: two statements that are not the same have two texts. -/
namespace Go.Proofs.YtjpcghlpkinahaaDoor
open Go.Ax
open Lp (tokS)
/-! ## lists with a comma between -/
section
variable {α : Type} (f : α → Str) (P : α → Prop) (D : Str → Prop)
theorem tail_split (hs : ∀ x y r q, P x → P y → D r → D q → f x ++ r = f y ++ q → x = y ∧ r = q) (hD : ∀ t, D (44 :: 32 :: t)) : ∀ (l m : List α) (r q : Str), (∀ x, x ∈ l → P x) → (∀ x, x ∈ m → P x) → D r → D q → (∀ x t, P x → r ≠ 44 :: 32 :: (f x ++ t)) → (∀ x t, P x → q ≠ 44 :: 32 :: (f x ++ t)) → tailT f l ++ r = tailT f m ++ q → l = m ∧ r = q
  | [], [], r, q, _, _, _, _, _, _, h => ⟨rfl, h⟩
  | [], y :: m, r, q, _, hm, _, _, hr, _, h => absurd (by simpa [tailT] using h) (hr y (tailT f m ++ q) (hm y List.mem_cons_self))
  | x :: l, [], r, q, hl, _, _, _, _, hq, h => absurd (by simpa [tailT] using h.symm) (hq x (tailT f l ++ r) (hl x List.mem_cons_self))
  | x :: l, y :: m, r, q, hl, hm, dr, dq, hr, hq, h => by
    simp only [tailT, List.cons_append, List.nil_append, List.cons.injEq, true_and, List.append_assoc] at h
    have key : ∀ (l : List α) (r : Str), D r → D (tailT f l ++ r) := fun l r hr => by
      cases l with
      | nil => exact hr
      | cons x l => exact hD _
    obtain ⟨h1, h2⟩ := hs x y _ _ (hl x List.mem_cons_self) (hm y List.mem_cons_self) (key l r dr) (key m q dq) h
    obtain ⟨h3, h4⟩ := tail_split hs hD l m r q (fun z hz => hl z (List.mem_cons_of_mem _ hz)) (fun z hz => hm z (List.mem_cons_of_mem _ hz)) dr dq hr hq h2
    exact ⟨by rw [h1, h3], h4⟩
theorem list_split (hs : ∀ x y r q, P x → P y → D r → D q → f x ++ r = f y ++ q → x = y ∧ r = q) (hD : ∀ t, D (44 :: 32 :: t)) {l m : List α} {r q : Str} (nl : l ≠ []) (nm : m ≠ []) (hl : ∀ x, x ∈ l → P x) (hm : ∀ x, x ∈ m → P x) (dr : D r) (dq : D q) (hr : ∀ x t, P x → r ≠ 44 :: 32 :: (f x ++ t)) (hq : ∀ x t, P x → q ≠ 44 :: 32 :: (f x ++ t)) (h : listT f l ++ r = listT f m ++ q) : l = m ∧ r = q := by
  cases l with
  | nil => exact absurd rfl nl
  | cons x l =>
    cases m with
    | nil => exact absurd rfl nm
    | cons y m =>
      refine tail_split f P D hs hD (x :: l) (y :: m) r q hl hm dr dq hr hq ?_
      simp only [listT, List.append_assoc] at h
      simp only [tailT, List.append_assoc, h]
end
theorem join_list : ∀ l : List Str, Lib.join l [44, 32] = listT (fun x => x) l
  | [] => rfl
  | [x] => by simp [Lib.join, listT, tailT]
  | x :: y :: l => by
    have ih := join_list (y :: l)
    have e : Lib.join (x :: y :: l) [44, 32] = x ++ ([44, 32] ++ Lib.join (y :: l) [44, 32]) := by simp [Lib.join, List.intercalate, List.intersperse]
    simp only [listT, tailT] at ih ⊢
    rw [e, ih]
    simp only [List.append_assoc]
/-- expressions that may be, in bounds -/
def RX (e : Xpr) : Prop := eright e 30 = true ∧ BdExpr e
theorem rx_split {a b : Xpr} {r q : Str} (ha : RX a) (hb : RX b) (hr : Dl r) (hq : Dl q) (h : etx a ++ r = etx b ++ q) : a = b ∧ r = q := etx_split (esize a) a b 30 30 r q (Nat.le_refl _) ha.1 hb.1 ha.2 hb.2 hr hq h
theorem names_split {l m : List Str} {r q : Str} (nl : l ≠ []) (nm : m ≠ []) (hl : ∀ x, x ∈ l → lname x = true) (hm : ∀ x, x ∈ m → lname x = true) (h : nmT l ++ r = nmT m ++ q) : l = m ∧ r = q := by
  simp only [nmT, join_list, List.cons_append, List.nil_append, List.cons.injEq, true_and, List.append_assoc] at h
  obtain ⟨h1, h2⟩ := list_split (fun x => x) (fun x => lname x = true) Dl (fun x y r q hx hy hr hq h => name_split2 hx hy hr hq h) (fun t => dl44 _) nl nm hl hm (dl41 _) (dl41 _) (fun x t _ e => by simp at e) (fun x t _ e => by simp at e) h
  simp only [List.cons.injEq, true_and] at h2
  exact ⟨h1, h2⟩
/-! ## columns -/
theorem flag_split {b b' : Bool} {w R R' : Str} (h : cond b w [] ++ R = cond b' w [] ++ R') (hR : ∀ t, R ≠ w ++ t) (hR' : ∀ t, R' ≠ w ++ t) : b = b' ∧ R = R' := by
  cases b <;> cases b'
  · exact ⟨rfl, h⟩
  · exact absurd h (hR _)
  · exact absurd h.symm (hR' _)
  · exact ⟨rfl, List.append_cancel_left h⟩
theorem kind_split {k l : Int} {r q : Str} (hk : 2 ≤ k ∧ k ≤ 5) (hl : 2 ≤ l ∧ l ≤ 5) (h : at' .str kindsL k ++ r = at' .str kindsL l ++ q) : k = l ∧ r = q := by
  have a2 : at' .str kindsL 2 = [66, 79, 79, 76] := rfl
  have a3 : at' .str kindsL 3 = [73, 78, 84] := rfl
  have a4 : at' .str kindsL 4 = [84, 69, 88, 84] := rfl
  have a5 : at' .str kindsL 5 = [66, 89, 84, 69, 83] := rfl
  have e1 : k = 2 ∨ k = 3 ∨ k = 4 ∨ k = 5 := by omega
  have e2 : l = 2 ∨ l = 3 ∨ l = 4 ∨ l = 5 := by omega
  rcases e1 with rfl | rfl | rfl | rfl <;> rcases e2 with rfl | rfl | rfl | rfl <;> simp [a2, a3, a4, a5] at h <;> exact ⟨rfl, h⟩
def refT (c : Col) : Str := cond (decide (c.ref = [])) [] ([32, 82, 69, 70, 69, 82, 69, 78, 67, 69, 83, 32] ++ c.ref)
theorem ref_split {c d : Col} {r q : Str} (hc : c.ref = [] ∨ lname c.ref = true) (hd : d.ref = [] ∨ lname d.ref = true) (h : refT c ++ 44 :: r = refT d ++ 44 :: q) : c.ref = d.ref ∧ r = q := by
  simp only [refT] at h
  by_cases h1 : c.ref = [] <;> by_cases h2 : d.ref = []
  · rw [decide_eq_true h1, decide_eq_true h2] at h
    simp at h
    exact ⟨h1.trans h2.symm, h⟩
  · rw [decide_eq_true h1, decide_eq_false h2] at h
    simp at h
  · rw [decide_eq_false h1, decide_eq_true h2] at h
    simp at h
  · rw [decide_eq_false h1, decide_eq_false h2, cond_f, cond_f] at h
    simp only [List.cons_append, List.nil_append, List.cons.injEq, true_and] at h
    obtain ⟨h3, h4⟩ := name_split2 (hc.resolve_left h1) (hd.resolve_left h2) (dl44 _) (dl44 _) h
    simp only [List.cons.injEq, true_and] at h4
    exact ⟨h3, h4⟩
def CX (c : Col) : Prop := colOk c = true ∧ lname c.name = true
theorem col_split {c d : Col} {r q : Str} (hc : CX c) (hd : CX d) (h : colT c ++ 44 :: r = colT d ++ 44 :: q) : c = d ∧ r = q := by
  obtain ⟨c1, c2⟩ := hc
  obtain ⟨d1, d2⟩ := hd
  simp only [colOk, Bool.and_eq_true, Bool.or_eq_true, decide_eq_true_eq] at c1 d1
  have hh : c.name ++ 32 :: (at' .str kindsL c.kind ++ (cond c.notNull [32, 78, 79, 84, 32, 78, 85, 76, 76] [] ++ (cond c.unique [32, 85, 78, 73, 81, 85, 69] [] ++ (refT c ++ 44 :: r)))) = d.name ++ 32 :: (at' .str kindsL d.kind ++ (cond d.notNull [32, 78, 79, 84, 32, 78, 85, 76, 76] [] ++ (cond d.unique [32, 85, 78, 73, 81, 85, 69] [] ++ (refT d ++ 44 :: q)))) := by
    simpa only [colT, refT, List.append_assoc, List.cons_append, List.nil_append] using h
  obtain ⟨n1, hh⟩ := name_split2 c2 d2 (dl32 _) (dl32 _) hh
  simp only [List.cons.injEq, true_and] at hh
  obtain ⟨k1, hh⟩ := kind_split c1.1 d1.1 hh
  have nref : ∀ (c : Col) (r t : Str), refT c ++ 44 :: r ≠ [32, 85, 78, 73, 81, 85, 69] ++ t := fun c r t e => by
    simp only [refT] at e
    cases hz : decide (c.ref = []) <;> rw [hz] at e <;> simp at e
  have nun : ∀ (c : Col) (r t : Str), cond c.unique [32, 85, 78, 73, 81, 85, 69] [] ++ (refT c ++ 44 :: r) ≠ [32, 78, 79, 84, 32, 78, 85, 76, 76] ++ t := fun c r t e => by
    simp only [refT] at e
    cases hy : c.unique <;> cases hz : decide (c.ref = []) <;> rw [hy, hz] at e <;> simp at e
  obtain ⟨f1, hh⟩ := flag_split hh (nun c r) (nun d q)
  obtain ⟨f2, hh⟩ := flag_split hh (nref c r) (nref d q)
  obtain ⟨f3, hh⟩ := ref_split c1.2 d1.2 hh
  refine ⟨?_, hh⟩
  cases c; cases d
  simp only at n1 k1 f1 f2 f3
  rw [n1, k1, f1, f2, f3]
/-! ## checks -/
def ckT (e : Xpr) : Str := cond (decide (parts e.kind = 0)) ([40] ++ (etx e ++ [41])) (etx e)
theorem parts0 {k : Int} : parts k = 0 ↔ (k = 1 ∨ k = 2) := by
  rcases parts_spec k with ⟨p, h⟩ | ⟨p, h⟩ | ⟨p, h⟩ | p
  · exact ⟨fun _ => h, fun _ => p⟩
  · exact ⟨fun q => by omega, fun q => by omega⟩
  · exact ⟨fun q => by omega, fun q => by omega⟩
  · refine ⟨fun q => by omega, fun q => ?_⟩
    rcases q with rfl | rfl <;> decide
theorem ck_mixed {a b : Xpr} {r q : Str} (ha : RX a) (hb : RX b) (h : 40 :: (etx a ++ 41 :: r) = etx b ++ q) (kb : ¬ (b.kind = 1 ∨ b.kind = 2)) : False := by
  have sub : ∀ y, y ∈ b.l → ∀ t, etx a ++ 41 :: r = etx y ++ 32 :: t → False := fun y hy t e => by
    obtain ⟨m, hm⟩ := right_sub hb.1 hy
    have := (etx_split (esize a) a y 30 m _ _ (Nat.le_refl _) ha.1 hm ha.2 ((bd_ls hb.2).2 y hy) (dl41 _) (dl32 _) e).2
    simp at this
  have sb := shape_of hb.1
  cases sb with
  | atom _ k => exact kb k
  | not y =>
    rw [etx_not] at h
    simp only [List.cons_append, List.cons.injEq, true_and, List.append_assoc] at h
    exact not_x ha.1 ha.2 (dl41 _) h
  | neg y =>
    rw [etx_neg] at h
    simp only [List.cons_append, List.cons.injEq, true_and, List.append_assoc] at h
    exact neg_x ha.1 ha.2 (dl41 _) h
  | isn y =>
    rw [etx_isn] at h
    simp only [List.cons_append, List.cons.injEq, true_and, List.append_assoc] at h
    exact sub y List.mem_cons_self _ h
  | op k y z hk =>
    rw [etx_op hk] at h
    simp only [List.cons_append, List.cons.injEq, true_and, List.append_assoc] at h
    exact sub y List.mem_cons_self _ h
theorem ck_split {a b : Xpr} {r q : Str} (ha : RX a) (hb : RX b) (hr : Dl r) (hq : Dl q) (h : ckT a ++ r = ckT b ++ q) : a = b ∧ r = q := by
  simp only [ckT] at h
  by_cases ka : a.kind = 1 ∨ a.kind = 2 <;> by_cases kb : b.kind = 1 ∨ b.kind = 2
  · rw [decide_eq_true (parts0.2 ka), decide_eq_true (parts0.2 kb)] at h
    simp only [cond_t, List.cons_append, List.nil_append, List.cons.injEq, true_and, List.append_assoc] at h
    obtain ⟨h1, h2⟩ := rx_split ha hb (dl41 _) (dl41 _) h
    simp only [List.cons.injEq, true_and] at h2
    exact ⟨h1, h2⟩
  · rw [decide_eq_true (parts0.2 ka), decide_eq_false (fun e => kb (parts0.1 e))] at h
    simp only [cond_t, cond_f, List.cons_append, List.nil_append, List.append_assoc] at h
    exact (ck_mixed ha hb h kb).elim
  · rw [decide_eq_false (fun e => ka (parts0.1 e)), decide_eq_true (parts0.2 kb)] at h
    simp only [cond_t, cond_f, List.cons_append, List.nil_append, List.append_assoc] at h
    exact (ck_mixed hb ha h.symm ka).elim
  · rw [decide_eq_false (fun e => ka (parts0.1 e)), decide_eq_false (fun e => kb (parts0.1 e))] at h
    exact rx_split ha hb hr hq h
theorem cks_split : ∀ (l m : List Xpr), (∀ x, x ∈ l → RX x) → (∀ x, x ∈ m → RX x) → (l.map chkT).flatten ++ [41] = (m.map chkT).flatten ++ [41] → l = m
  | [], [], _, _, _ => rfl
  | [], y :: m, _, _, h => by simp [chkT] at h
  | x :: l, [], _, _, h => by simp [chkT] at h
  | x :: l, y :: m, hl, hm, h => by
    have e : ∀ z : Xpr, chkT z = [44, 32, 67, 72, 69, 67, 75, 32] ++ ckT z := fun _ => rfl
    simp only [List.map_cons, List.flatten_cons, e, List.append_assoc] at h
    have h := List.append_cancel_left h
    have key : ∀ l : List Xpr, Dl ((l.map chkT).flatten ++ [41]) := fun l => by
      cases l with
      | nil => exact dl41 _
      | cons x l => exact dl44 _
    obtain ⟨h1, h2⟩ := ck_split (hl x List.mem_cons_self) (hm y List.mem_cons_self) (key l) (key m) h
    rw [h1, cks_split l m (fun z hz => hl z (List.mem_cons_of_mem _ hz)) (fun z hz => hm z (List.mem_cons_of_mem _ hz)) h2]
/-! ## what a statement that may be is made of -/
theorem rx_all {l : List Xpr} (h : aexprs l = true) (hb : BdAll BdExpr l) : ∀ x, x ∈ l → RX x := fun x hx => by
  simp only [aexprs, Bool.and_eq_true] at h
  exact ⟨List.all_eq_true.1 h.2 x hx, hb.2 x hx⟩
theorem once_all {l : List Str} (h : aonce l = true) : ∀ x, x ∈ l → lname x = true := by
  simp only [aonce, Bool.and_eq_true] at h
  exact ((onceF_iff l []).1 h.1).1
theorem some_ne {α : Type} {l : List α} (h : asome (l.length : Int) = true) : l ≠ [] := fun e => by
  rw [asome_is, e] at h
  simp at h
/-- where -/
def WX (s : Stm) : Prop := awhere s = true ∧ BdExpr s.whr
theorem wx_rx {s : Stm} (h : WX s) (hs : s.has = true) : RX s.whr := by
  have h1 := h.1
  rw [awhere_is, hs] at h1
  exact ⟨h1, h.2⟩
theorem wx_no {s : Stm} (h : WX s) (hs : s.has = false) : s.whr = noX := by
  have h1 := h.1
  rw [awhere_is, hs] at h1
  exact of_decide_eq_true h1
/-- what stands behind a condition -/
def Dw (r : Str) : Prop := Dl r ∧ ∀ t, r ≠ 32 :: 87 :: t
theorem dw_nil : Dw [] := ⟨dl_nil, fun _ e => by cases e⟩
theorem wh_split {s t : Stm} {r q : Str} (hs : WX s) (ht : WX t) (hr : Dw r) (hq : Dw q) (h : whT s ++ r = whT t ++ q) : s.has = t.has ∧ s.whr = t.whr ∧ r = q := by
  simp only [whT] at h
  cases h1 : s.has <;> cases h2 : t.has <;> rw [h1, h2] at h
  · exact ⟨rfl, (wx_no hs h1).trans (wx_no ht h2).symm, h⟩
  · exact absurd h (by simpa using hr.2 _)
  · exact absurd h.symm (by simpa using hq.2 _)
  · simp only [cond_t, List.append_assoc] at h
    obtain ⟨h3, h4⟩ := rx_split (wx_rx hs h1) (wx_rx ht h2) hr.1 hq.1 (List.append_cancel_left h)
    exact ⟨rfl, h3, h4⟩
theorem wh_dl (s : Stm) {r : Str} (h : Dl r) : Dl (whT s ++ r) := by
  simp only [whT]
  cases s.has with
  | false => exact h
  | true => exact dl32 _
theorem form1 {s : Stm} (h : arest s = noS) (hk : s.kind = 1) : s = { noS with kind := 1, name := s.name, cols := s.cols, names := s.names, l := s.l } := by
  obtain ⟨k, nm, on, cols, names, l, rows, sets, has, whr, order, desc, most⟩ := s
  simp only at hk
  subst hk
  simp [arest, noS] at h
  simp [noS, h]
theorem form24 {s : Stm} (h : arest s = noS) (hk : s.kind = 2 ∨ s.kind = 4) : s = { noS with kind := s.kind, name := s.name } := by
  obtain ⟨k, nm, on, cols, names, l, rows, sets, has, whr, order, desc, most⟩ := s
  simp only at hk
  rcases hk with rfl | rfl <;> simp [arest, noS] at h <;> simp [noS, h]
theorem form3 {s : Stm} (h : arest s = noS) (hk : s.kind = 3) : s = { noS with kind := 3, name := s.name, on := s.on, names := s.names } := by
  obtain ⟨k, nm, on, cols, names, l, rows, sets, has, whr, order, desc, most⟩ := s
  simp only at hk
  subst hk
  simp [arest, noS] at h
  simp [noS, h]
theorem form5 {s : Stm} (h : arest s = noS) (hk : s.kind = 5) : s = { noS with kind := 5, name := s.name, rows := s.rows } := by
  obtain ⟨k, nm, on, cols, names, l, rows, sets, has, whr, order, desc, most⟩ := s
  simp only at hk
  subst hk
  simp [arest, noS] at h
  simp [noS, h]
theorem form6 {s : Stm} (h : arest s = noS) (hk : s.kind = 6) : s = { noS with kind := 6, name := s.name, sets := s.sets, has := s.has, whr := s.whr } := by
  obtain ⟨k, nm, on, cols, names, l, rows, sets, has, whr, order, desc, most⟩ := s
  simp only at hk
  subst hk
  simp [arest, noS] at h
  simp [noS, h]
theorem form7 {s : Stm} (h : arest s = noS) (hk : s.kind = 7) : s = { noS with kind := 7, name := s.name, has := s.has, whr := s.whr } := by
  obtain ⟨k, nm, on, cols, names, l, rows, sets, has, whr, order, desc, most⟩ := s
  simp only at hk
  subst hk
  simp [arest, noS] at h
  simp [noS, h]
theorem form8 {s : Stm} (h : arest s = noS) (hk : s.kind = 8) : s = { noS with kind := 8, name := s.name, l := s.l, has := s.has, whr := s.whr, order := s.order, desc := s.desc, most := s.most } := by
  obtain ⟨k, nm, on, cols, names, l, rows, sets, has, whr, order, desc, most⟩ := s
  simp only at hk
  subst hk
  simp [arest, noS] at h
  simp [noS, h]
theorem check_kind {s : Stm} (h : checkB s = true) : (lname s.name = true ∧ arest s = noS) ∧ ((s.kind = 1 ∧ (∀ c, c ∈ s.cols → CX c) ∧ s.cols ≠ [] ∧ s.names ≠ [] ∧ (∀ x, x ∈ s.names → lname x = true) ∧ aexprs s.l = true)
    ∨ (s.kind = 2 ∨ s.kind = 4) ∨ (s.kind = 3 ∧ lname s.on = true ∧ s.names ≠ [] ∧ ∀ x, x ∈ s.names → lname x = true) ∨ (s.kind = 5 ∧ s.rows ≠ [] ∧ ∀ r, r ∈ s.rows → r ≠ [] ∧ aexprs r = true)
    ∨ (s.kind = 6 ∧ s.sets ≠ [] ∧ (∀ x, x ∈ s.sets → eright x.e 30 = true ∧ lname x.name = true) ∧ awhere s = true) ∨ (s.kind = 7 ∧ awhere s = true)
    ∨ (s.kind = 8 ∧ aexprs s.l = true ∧ awhere s = true ∧ (∀ x, x ∈ s.order → lname x = true) ∧ s.desc.length = s.order.length ∧ -1 ≤ s.most)) := by
  simp only [checkB, Bool.and_eq_true, decide_eq_true_eq] at h
  refine ⟨h.1, ?_⟩
  have h := h.2
  by_cases h1 : s.kind = 1
  · rw [if_pos h1] at h
    simp only [Bool.and_eq_true] at h
    obtain ⟨⟨⟨⟨⟨a1, a2⟩, a3⟩, a4⟩, a5⟩, a6⟩ := h
    refine .inl ⟨h1, fun c hc => ⟨List.all_eq_true.1 a1 c hc, once_all a3 _ (List.mem_map.2 ⟨c, hc, rfl⟩)⟩, some_ne a2, some_ne a4, once_all a5, a6⟩
  rw [if_neg h1] at h
  by_cases h3 : s.kind = 3
  · rw [if_pos h3] at h
    simp only [Bool.and_eq_true] at h
    exact .inr (.inr (.inl ⟨h3, h.1.1, some_ne h.1.2, once_all h.2⟩))
  rw [if_neg h3] at h
  by_cases h24 : s.kind = 2 ∨ s.kind = 4
  · exact .inr (.inl h24)
  rw [if_neg h24] at h
  by_cases h5 : s.kind = 5
  · rw [if_pos h5] at h
    simp only [arows, Bool.and_eq_true] at h
    refine .inr (.inr (.inr (.inl ⟨h5, some_ne h.1, fun r hr => ?_⟩)))
    have := List.all_eq_true.1 h.2 r hr
    simp only [rowOk, Bool.and_eq_true, Bool.not_eq_true', decide_eq_false_iff_not] at this
    exact ⟨fun e => this.1 (by rw [e]; rfl), this.2⟩
  rw [if_neg h5] at h
  by_cases h6 : s.kind = 6
  · rw [if_pos h6] at h
    simp only [Bool.and_eq_true] at h
    exact .inr (.inr (.inr (.inr (.inl ⟨h6, some_ne h.1.1.2, fun x hx => ⟨List.all_eq_true.1 h.1.1.1 x hx, once_all h.1.2 _ (List.mem_map.2 ⟨x, hx, rfl⟩)⟩, h.2⟩))))
  rw [if_neg h6] at h
  by_cases h7 : s.kind = 7
  · rw [if_pos h7] at h
    exact .inr (.inr (.inr (.inr (.inr (.inl ⟨h7, h⟩)))))
  rw [if_neg h7] at h
  by_cases h8 : s.kind = 8
  · rw [if_pos h8] at h
    simp only [Bool.and_eq_true, decide_eq_true_eq] at h
    obtain ⟨⟨⟨⟨a1, a2⟩, a3⟩, a4⟩, a5⟩ := h
    exact .inr (.inr (.inr (.inr (.inr (.inr ⟨h8, a1, a2, once_all a3, a4, a5⟩)))))
  rw [if_neg h8] at h
  cases h
/-! ## the law, kind by kind -/
theorem head6 {s : Stm} (h : 1 ≤ s.kind ∧ s.kind ≤ 8) : (printT s).take 6 = if s.kind = 1 ∨ s.kind = 3 then [67, 82, 69, 65, 84, 69] else if s.kind = 2 then [68, 82, 79, 80, 32, 84] else if s.kind = 4 then [68, 82, 79, 80, 32, 73] else if s.kind = 5 then [73, 78, 83, 69, 82, 84] else if s.kind = 6 then [85, 80, 68, 65, 84, 69] else if s.kind = 7 then [68, 69, 76, 69, 84, 69] else [83, 69, 76, 69, 67, 84] := by
  have : s.kind = 1 ∨ s.kind = 2 ∨ s.kind = 3 ∨ s.kind = 4 ∨ s.kind = 5 ∨ s.kind = 6 ∨ s.kind = 7 ∨ s.kind = 8 := by omega
  rcases this with h | h | h | h | h | h | h | h <;> simp [printT, tableT, selT, h]
theorem kind_eq {s t : Stm} (hs : 1 ≤ s.kind ∧ s.kind ≤ 8) (ht : 1 ≤ t.kind ∧ t.kind ≤ 8) (h : printT s = printT t) : s.kind = t.kind := by
  have h6 := congrArg (List.take 6) h
  rw [head6 hs, head6 ht] at h6
  have e1 : s.kind = 1 ∨ s.kind = 2 ∨ s.kind = 3 ∨ s.kind = 4 ∨ s.kind = 5 ∨ s.kind = 6 ∨ s.kind = 7 ∨ s.kind = 8 := by omega
  have e2 : t.kind = 1 ∨ t.kind = 2 ∨ t.kind = 3 ∨ t.kind = 4 ∨ t.kind = 5 ∨ t.kind = 6 ∨ t.kind = 7 ∨ t.kind = 8 := by omega
  rcases e1 with k | k | k | k | k | k | k | k <;> rcases e2 with l | l | l | l | l | l | l | l <;> first
    | exact k.trans l.symm
    | (simp [k, l] at h6; done)
    | (simp [printT, tableT, k, l] at h)
theorem star_x {e : Xpr} {r q : Str} (h : RX e) (hr : Dl r) (he : etx e ++ r = 42 :: q) : False := by
  have tok42 : tokS (42 :: q) = some (6, [42], 0, 1) := by
    have hp : Lp.pre (42 :: q) [120, 39] = false := by simp [Lp.pre]
    have hc : Lp.clsF (Sx.byt (42 :: q) 0) = 7 := by
      have e : Sx.byt (42 :: q) 0 = 42 := rfl
      rw [e]; decide +kernel
    have h2 : Lp.twoS (42 :: q) = false := by simp [Lp.twoS, Lp.pre]
    unfold tokS
    rw [hp, if_neg (by simp), if_neg (by rw [hc]; decide), if_neg (by rw [hc]; decide), if_neg (by rw [hc]; decide), if_neg (by rw [hc]; decide), if_pos hc, h2]
    rfl
  by_cases hk : e.kind = 1 ∨ e.kind = 2
  · obtain ⟨k, s, n, h1, h2⟩ := atom_tok h.1 h.2 hk hr
    rw [he, tok42] at h1
    simp only [Option.some.injEq, Prod.mk.injEq] at h1
    rcases h2 with ⟨_, h2⟩ | ⟨_, h2, _⟩ <;> omega
  · obtain ⟨t, e1⟩ := etx_head h.1 hk
    rw [e1] at he
    simp at he
/-- what stands behind a select's names -/
def Do (r : Str) : Prop := Dl r ∧ ∀ t, r ≠ 32 :: 68 :: t
theorem ord_split {x y : Str × Bool} {r q : Str} (hx : lname x.1 = true) (hy : lname y.1 = true) (hr : Do r) (hq : Do q) (h : ordT x ++ r = ordT y ++ q) : x = y ∧ r = q := by
  simp only [ordT, List.append_assoc] at h
  have key : ∀ (b : Bool) (r : Str), Do r → Dl (cond b [32, 68, 69, 83, 67] [] ++ r) := fun b r hr => by
    cases b with
    | false => exact hr.1
    | true => exact dl32 _
  obtain ⟨h1, h⟩ := name_split2 hx hy (key _ _ hr) (key _ _ hq) h
  obtain ⟨h2, h⟩ := flag_split h (fun t => by simpa using hr.2 _) (fun t => by simpa using hq.2 _)
  exact ⟨Prod.ext h1 h2, h⟩
theorem lim_do (s : Stm) : Do (limT s) := by
  simp only [limT]
  cases decide (0 ≤ s.most) with
  | false => exact ⟨dl_nil, fun _ e => by cases e⟩
  | true => exact ⟨dl32 _, fun t e => by simp at e⟩
theorem lim_eq {s t : Stm} (hs : -1 ≤ s.most) (ht : -1 ≤ t.most) (h : limT s = limT t) : s.most = t.most := by
  simp only [limT] at h
  by_cases h1 : 0 ≤ s.most <;> by_cases h2 : 0 ≤ t.most
  · rw [decide_eq_true h1, decide_eq_true h2] at h
    have h := List.append_cancel_left h
    have := print_inj (a := ⟨3, s.most, []⟩) (b := ⟨3, t.most, []⟩) rfl rfl h
    simpa using this
  · rw [decide_eq_true h1, decide_eq_false h2] at h
    simp at h
  · rw [decide_eq_false h1, decide_eq_true h2] at h
    simp at h
  · omega
/-- a select's order and limit -/
def endT (s : Stm) : Str := obT s ++ (listT ordT (s.order.zip s.desc) ++ limT s)
theorem ord_nil {s : Stm} (h : s.order = []) : endT s = limT s := by simp [endT, obT, h, listT]
theorem ord_cons {s : Stm} (h : s.order ≠ []) : endT s = 32 :: 79 :: 82 :: 68 :: 69 :: 82 :: 32 :: 66 :: 89 :: 32 :: (listT ordT (s.order.zip s.desc) ++ limT s) := by
  have : 0 < s.order.length := List.length_pos_iff.2 h
  simp [endT, obT, this]
theorem lim_79 {s : Stm} {t : Str} (h : limT s = 32 :: 79 :: t) : False := by
  simp only [limT] at h
  cases hz : decide (0 ≤ s.most) <;> rw [hz] at h <;> simp at h
theorem end_dw (s : Stm) : Dw (endT s) := by
  by_cases h : s.order = []
  · rw [ord_nil h]
    simp only [limT]
    cases decide (0 ≤ s.most) with
    | false => exact dw_nil
    | true => exact ⟨dl32 _, fun t e => by simp at e⟩
  · rw [ord_cons h]
    exact ⟨dl32 _, fun t e => by simp at e⟩
theorem zip_eq {l m : List Str} {d c : List Bool} (hd : d.length = l.length) (hc : c.length = m.length) (h : l.zip d = m.zip c) : l = m ∧ d = c := by
  have h1 := congrArg (List.map Prod.fst) h
  have h2 := congrArg (List.map Prod.snd) h
  rw [List.map_fst_zip (by omega), List.map_fst_zip (by omega)] at h1
  rw [List.map_snd_zip (by omega), List.map_snd_zip (by omega)] at h2
  exact ⟨h1, h2⟩
theorem end_split {s t : Stm} (hs : (∀ x, x ∈ s.order → lname x = true) ∧ s.desc.length = s.order.length ∧ -1 ≤ s.most) (ht : (∀ x, x ∈ t.order → lname x = true) ∧ t.desc.length = t.order.length ∧ -1 ≤ t.most) (h : endT s = endT t) : s.order = t.order ∧ s.desc = t.desc ∧ s.most = t.most := by
  by_cases h1 : s.order = [] <;> by_cases h2 : t.order = []
  · rw [ord_nil h1, ord_nil h2] at h
    have e1 : s.desc = [] := List.eq_nil_of_length_eq_zero (by rw [hs.2.1, h1]; rfl)
    have e2 : t.desc = [] := List.eq_nil_of_length_eq_zero (by rw [ht.2.1, h2]; rfl)
    exact ⟨h1.trans h2.symm, e1.trans e2.symm, lim_eq hs.2.2 ht.2.2 h⟩
  · rw [ord_nil h1, ord_cons h2] at h
    exact (lim_79 h).elim
  · rw [ord_cons h1, ord_nil h2] at h
    exact (lim_79 h.symm).elim
  · rw [ord_cons h1, ord_cons h2] at h
    simp only [List.cons.injEq, true_and] at h
    have zn : ∀ {s : Stm}, s.desc.length = s.order.length → s.order ≠ [] → s.order.zip s.desc ≠ [] := fun {s} hd hn e => by
      have := congrArg List.length e
      rw [List.length_zip, List.length_nil] at this
      exact hn (List.eq_nil_of_length_eq_zero (by omega))
    have zl : ∀ {s : Stm}, (∀ x, x ∈ s.order → lname x = true) → ∀ p : Str × Bool, p ∈ s.order.zip s.desc → lname p.1 = true := fun {s} hn p hp => hn p.1 (List.of_mem_zip hp).1
    obtain ⟨h3, h4⟩ := list_split ordT (fun p => lname p.1 = true) Do (fun x y r q hx hy hr hq h => ord_split hx hy hr hq h) (fun t => ⟨dl44 _, fun u e => by simp at e⟩) (zn hs.2.1 h1) (zn ht.2.1 h2) (zl hs.1) (zl ht.1) (lim_do s) (lim_do t) (fun x u _ e => by
      have := (lim_do s).1 44 _ e
      simp only [limT] at e
      cases hz : decide (0 ≤ s.most) <;> rw [hz] at e <;> simp at e) (fun x u _ e => by
      simp only [limT] at e
      cases hz : decide (0 ≤ t.most) <;> rw [hz] at e <;> simp at e) h
    obtain ⟨h5, h6⟩ := zip_eq hs.2.1 ht.2.1 h3
    exact ⟨h5, h6, lim_eq hs.2.2 ht.2.2 h4⟩
theorem what_split {l m : List Xpr} {r q : Str} (hl : ∀ x, x ∈ l → RX x) (hm : ∀ x, x ∈ m → RX x) (h : cond (decide ((l.length : Int) = 0)) [42] [] ++ (listT etx l ++ 32 :: r) = cond (decide ((m.length : Int) = 0)) [42] [] ++ (listT etx m ++ 32 :: q)) : l = m ∧ r = q := by
  have none : ∀ {m : List Xpr} {r q : Str}, (∀ x, x ∈ m → RX x) → m ≠ [] → 42 :: 32 :: r = listT etx m ++ 32 :: q → False := fun {m r q} hm nm h => by
    cases m with
    | nil => exact nm rfl
    | cons y m =>
      simp only [listT, List.append_assoc] at h
      refine star_x (hm y List.mem_cons_self) ?_ h.symm
      cases m with
      | nil => exact dl32 _
      | cons z m => exact dl44 _
  have dn : ∀ l : List Xpr, l ≠ [] → decide ((l.length : Int) = 0) = false := fun l h => decide_eq_false fun e => h (List.eq_nil_of_length_eq_zero (by omega))
  by_cases h1 : l = [] <;> by_cases h2 : m = []
  · subst h1; subst h2
    simp [listT] at h
    exact ⟨rfl, h⟩
  · subst h1
    rw [dn m h2] at h
    exact (none hm h2 (by simpa [listT] using h)).elim
  · subst h2
    rw [dn l h1] at h
    exact (none hl h1 (by simpa [listT] using h.symm)).elim
  · rw [dn l h1, dn m h2] at h
    simp only [cond_f, List.nil_append] at h
    obtain ⟨h3, h4⟩ := list_split etx RX Dl (fun x y r q hx hy hr hq h => rx_split hx hy hr hq h) (fun t => dl44 _) h1 h2 hl hm (dl32 _) (dl32 _) (fun x t _ e => by simp at e) (fun x t _ e => by simp at e) h
    simp only [List.cons.injEq, true_and] at h4
    exact ⟨h3, h4⟩
theorem row_split {a b : List Xpr} {r q : Str} (ha : a ≠ [] ∧ ∀ x, x ∈ a → RX x) (hb : b ≠ [] ∧ ∀ x, x ∈ b → RX x) (h : rowT a ++ r = rowT b ++ q) : a = b ∧ r = q := by
  simp only [rowT, List.cons_append, List.nil_append, List.cons.injEq, true_and, List.append_assoc] at h
  obtain ⟨h3, h4⟩ := list_split etx RX Dl (fun x y r q hx hy hr hq h => rx_split hx hy hr hq h) (fun t => dl44 _) ha.1 hb.1 ha.2 hb.2 (dl41 _) (dl41 _) (fun x t _ e => by simp at e) (fun x t _ e => by simp at e) h
  simp only [List.cons.injEq, true_and] at h4
  exact ⟨h3, h4⟩
def SX (x : SetE) : Prop := RX x.e ∧ lname x.name = true
theorem set_split {x y : SetE} {r q : Str} (hx : SX x) (hy : SX y) (hr : Dl r) (hq : Dl q) (h : setT x ++ r = setT y ++ q) : x = y ∧ r = q := by
  simp only [setT, List.cons_append, List.nil_append, List.append_assoc] at h
  obtain ⟨h1, h⟩ := name_split2 hx.2 hy.2 (dl32 _) (dl32 _) h
  simp only [List.cons.injEq, true_and] at h
  obtain ⟨h2, h⟩ := rx_split hx.1 hy.1 hr hq h
  refine ⟨?_, h⟩
  cases x; cases y
  simp only at h1 h2
  rw [h1, h2]
theorem print_inj_s {s t : Stm} (hs : checkB s = true) (ht : checkB t = true) (bs : BdStm s) (bt : BdStm t) (h : printT s = printT t) : s = t := by
  obtain ⟨⟨s1, s2⟩, s3⟩ := check_kind hs
  obtain ⟨⟨t1, t2⟩, t3⟩ := check_kind ht
  have hk := kind_eq (by omega) (by omega) h
  rcases s3 with ⟨k, a1, a2, a3, a4, a5⟩ | k | ⟨k, a1, a2, a3⟩ | ⟨k, a1, a2⟩ | ⟨k, a1, a2, a3⟩ | ⟨k, a1⟩ | ⟨k, a1, a2, a3⟩
  · rcases t3 with ⟨l, b1, b2, b3, b4, b5⟩ | l | ⟨l, _⟩ | ⟨l, _⟩ | ⟨l, _⟩ | ⟨l, _⟩ | ⟨l, _⟩
    case inl =>
      simp only [printT, if_pos k, if_pos l, tableT, List.append_assoc] at h
      have h := List.append_cancel_left h
      simp only [List.cons_append, List.nil_append] at h
      obtain ⟨n1, h⟩ := name_split2 s1 t1 (dl32 _) (dl32 _) h
      simp only [List.cons.injEq, true_and] at h
      have first : ∀ (x : Col) (r t : Str), CX x → 44 :: 32 :: 80 :: r ≠ 44 :: 32 :: (colT x ++ t) := fun x r t hx e => by
        simp only [List.cons.injEq, true_and, colT] at e
        cases hn : x.name with
        | nil =>
          have := hx.2
          rw [hn] at this
          cases this
        | cons c w =>
          have hl := hx.2
          rw [hn] at hl e
          simp only [List.cons_append, List.cons.injEq] at e
          have hl : Lp.nameF (c :: w) = true := hl
          rw [Lp.name_eq, ← e.1] at hl
          simp [Lp.rnameF, Lp.okGo_zero] at hl
          have h80 : Lp.isLo 80 = false := by decide +kernel
          rw [h80] at hl
          exact absurd hl.1.1 (by decide)
      obtain ⟨c1, h⟩ := list_split colT CX (fun r => ∃ t, r = 44 :: t) (fun x y r q hx hy hr hq h => by
        obtain ⟨r, rfl⟩ := hr
        obtain ⟨q, rfl⟩ := hq
        obtain ⟨e1, e2⟩ := col_split hx hy h
        exact ⟨e1, by rw [e2]⟩) (fun t => ⟨_, rfl⟩) a2 b2 a1 b1 ⟨_, rfl⟩ ⟨_, rfl⟩ (fun x t hx => first x _ t hx) (fun x t hx => first x _ t hx) h
      simp only [List.cons.injEq, true_and] at h
      obtain ⟨c2, h⟩ := names_split a3 b3 a4 b4 h
      have c3 := cks_split _ _ (rx_all a5 bs.l) (rx_all b5 bt.l) h
      rw [form1 s2 k, form1 t2 l, n1, c1, c2, c3]
    all_goals omega
  · have l : t.kind = 2 ∨ t.kind = 4 := by omega
    have n1 : s.name = t.name := by
      rcases k with k | k
      · have l : t.kind = 2 := by omega
        simp [printT, k, l] at h
        exact h
      · have l : t.kind = 4 := by omega
        simp [printT, k, l] at h
        exact h
    rw [form24 s2 k, form24 t2 l, n1, hk]
  · rcases t3 with ⟨l, _⟩ | l | ⟨l, b1, b2, b3⟩ | ⟨l, _⟩ | ⟨l, _⟩ | ⟨l, _⟩ | ⟨l, _⟩
    case inr.inr.inl =>
      have p : ∀ {s : Stm}, s.kind = 3 → printT s = [67, 82, 69, 65, 84, 69, 32, 73, 78, 68, 69, 88, 32] ++ (s.name ++ 32 :: 79 :: 78 :: 32 :: (s.on ++ 32 :: (nmT s.names ++ []))) := fun {s} k => by simp [printT, k]
      rw [p k, p l] at h
      obtain ⟨n1, h⟩ := name_split2 s1 t1 (dl32 _) (dl32 _) (List.append_cancel_left h)
      simp only [List.cons.injEq, true_and] at h
      obtain ⟨n2, h⟩ := name_split2 a1 b1 (dl32 _) (dl32 _) h
      simp only [List.cons.injEq, true_and] at h
      obtain ⟨n3, _⟩ := names_split a2 b2 a3 b3 h
      rw [form3 s2 k, form3 t2 l, n1, n2, n3]
    all_goals omega
  · rcases t3 with ⟨l, _⟩ | l | ⟨l, _⟩ | ⟨l, b1, b2⟩ | ⟨l, _⟩ | ⟨l, _⟩ | ⟨l, _⟩
    case inr.inr.inr.inl =>
      have p : ∀ {s : Stm}, s.kind = 5 → printT s = [73, 78, 83, 69, 82, 84, 32, 73, 78, 84, 79, 32] ++ (s.name ++ 32 :: 86 :: 65 :: 76 :: 85 :: 69 :: 83 :: 32 :: (listT rowT s.rows ++ [])) := fun {s} k => by simp [printT, k]
      rw [p k, p l] at h
      obtain ⟨n1, h⟩ := name_split2 s1 t1 (dl32 _) (dl32 _) (List.append_cancel_left h)
      simp only [List.cons.injEq, true_and] at h
      obtain ⟨n2, _⟩ := list_split rowT (fun r => r ≠ [] ∧ ∀ x, x ∈ r → RX x) (fun _ => True) (fun x y r q hx hy _ _ h => row_split hx hy h) (fun _ => trivial) a1 b1 (fun r hr => ⟨(a2 r hr).1, rx_all (a2 r hr).2 (bs.rows.2 r hr)⟩) (fun r hr => ⟨(b2 r hr).1, rx_all (b2 r hr).2 (bt.rows.2 r hr)⟩) trivial trivial (fun x t _ e => by cases e) (fun x t _ e => by cases e) h
      rw [form5 s2 k, form5 t2 l, n1, n2]
    all_goals omega
  · rcases t3 with ⟨l, _⟩ | l | ⟨l, _⟩ | ⟨l, _⟩ | ⟨l, b1, b2, b3⟩ | ⟨l, _⟩ | ⟨l, _⟩
    case inr.inr.inr.inr.inl =>
      have p : ∀ {s : Stm}, s.kind = 6 → printT s = [85, 80, 68, 65, 84, 69, 32] ++ (s.name ++ 32 :: 83 :: 69 :: 84 :: 32 :: (listT setT s.sets ++ (whT s ++ []))) := fun {s} k => by simp [printT, k]
      have w44 : ∀ (s : Stm) (x : SetE) (t : Str), SX x → whT s ++ [] ≠ 44 :: 32 :: (setT x ++ t) := fun s x t _ e => by
        simp only [whT] at e
        cases hz : s.has <;> rw [hz] at e <;> simp at e
      rw [p k, p l] at h
      obtain ⟨n1, h⟩ := name_split2 s1 t1 (dl32 _) (dl32 _) (List.append_cancel_left h)
      simp only [List.cons.injEq, true_and] at h
      obtain ⟨n2, h⟩ := list_split setT SX Dl (fun x y r q hx hy hr hq h => set_split hx hy hr hq h) (fun t => dl44 _) a1 b1 (fun x hx => ⟨⟨(a2 x hx).1, (bs.sets.2 x hx).2⟩, (a2 x hx).2⟩) (fun x hx => ⟨⟨(b2 x hx).1, (bt.sets.2 x hx).2⟩, (b2 x hx).2⟩) (wh_dl s dl_nil) (wh_dl t dl_nil) (w44 s) (w44 t) h
      obtain ⟨n3, n4, _⟩ := wh_split ⟨a3, bs.whr⟩ ⟨b3, bt.whr⟩ dw_nil dw_nil h
      rw [form6 s2 k, form6 t2 l, n1, n2, n3, n4]
    all_goals omega
  · rcases t3 with ⟨l, _⟩ | l | ⟨l, _⟩ | ⟨l, _⟩ | ⟨l, _⟩ | ⟨l, b1⟩ | ⟨l, _⟩
    case inr.inr.inr.inr.inr.inl =>
      have p : ∀ {s : Stm}, s.kind = 7 → printT s = [68, 69, 76, 69, 84, 69, 32, 70, 82, 79, 77, 32] ++ (s.name ++ (whT s ++ [])) := fun {s} k => by simp [printT, k]
      rw [p k, p l] at h
      obtain ⟨n1, h⟩ := name_split2 s1 t1 (wh_dl s dl_nil) (wh_dl t dl_nil) (List.append_cancel_left h)
      obtain ⟨n3, n4, _⟩ := wh_split ⟨a1, bs.whr⟩ ⟨b1, bt.whr⟩ dw_nil dw_nil h
      rw [form7 s2 k, form7 t2 l, n1, n3, n4]
    all_goals omega
  · rcases t3 with ⟨l, _⟩ | l | ⟨l, _⟩ | ⟨l, _⟩ | ⟨l, _⟩ | ⟨l, _⟩ | ⟨l, b1, b2, b3⟩
    case inr.inr.inr.inr.inr.inr =>
      have p : ∀ {s : Stm}, s.kind = 8 → printT s = [83, 69, 76, 69, 67, 84, 32] ++ (cond (decide ((s.l.length : Int) = 0)) [42] [] ++ (listT etx s.l ++ 32 :: 70 :: 82 :: 79 :: 77 :: 32 :: (s.name ++ (whT s ++ endT s)))) := fun {s} k => by simp [printT, k, selT, endT]
      rw [p k, p l] at h
      obtain ⟨n0, h⟩ := what_split (rx_all a1 bs.l) (rx_all b1 bt.l) (List.append_cancel_left h)
      simp only [List.cons.injEq, true_and] at h
      obtain ⟨n1, h⟩ := name_split2 s1 t1 (wh_dl s (end_dw s).1) (wh_dl t (end_dw t).1) h
      obtain ⟨n3, n4, h⟩ := wh_split ⟨a2, bs.whr⟩ ⟨b2, bt.whr⟩ (end_dw s) (end_dw t) h
      obtain ⟨n5, n6, n7⟩ := end_split a3 b3 h
      rw [form8 s2 k, form8 t2 l, n0, n1, n3, n4, n5, n6, n7]
    all_goals omega
end Go.Proofs.YtjpcghlpkinahaaDoor
