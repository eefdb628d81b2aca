/- Functions: texts. -/
import Derived.Test.YtlhebakbbfmiiaaDoorTt
import Derived.Test.YtlhebakbbfmiiaaDoorPf
namespace Go.Proofs.YtlhebakbbfmiiaaDoor
open Go.Ax
/-! ## exchequer/lex.lower -/
def lower_px (R : Type) : Px R := ⟨ttOf ttL, glT, callT [], callQT [], loopT []⟩
def lower_body (x : HV [.int .u8]) : Option (HV [.bool]) := match x with
 | c =>
  cond (decide (97 ≤ c)) (
   some (decide (c ≤ 122))) (
   some false)
theorem lower_eq : ∀ (x : HV [.int .u8]), runF (lower_px _) Tryd.f64 [.int .u8] [.bool] x some = lower_body x
  | c => by kernel_rfl
theorem lower_run : FnOk Tryd.prog elT glT 64 [.int .u8] [.bool] (lower_body) := by
  refine fnOk_run Tryd.func64 rfl (by kernel_rfl) follows (by kernel_rfl) (n := 0) (by kernel_rfl) (px := lower_px _) (fun cx hP hel hgl => ?_) (lower_eq)
  have hp0 : PxOk cx (lower_px (HV [.bool])) := ⟨fun t => by rw [hP, hel]; exact tt_ok ttL_ok t, by rw [hgl]; rfl⟩
  have hc0 : CallOk cx (lower_px (HV [.bool])) := callT_ok rfl cfs_nil
  have hq0 : CallQOk cx (lower_px (HV [.bool])) := callQT_ok rfl cqfs_nil
  exact ⟨hp0, hc0, hq0, all0⟩
def lower (c : Int) : Bool :=
  cond (decide (97 ≤ c)) (
   (decide (c ≤ 122))) (
   false)
theorem lower_tot (x : HV [.int .u8]) : lower_body x = some (lower x) := by
  first
    | exact rfl
    | simp only [lower_body, lower, cond_some]
def lower_F : FT [.int .u8] [.bool] := fun x => some (lower x)
theorem lower_ok : FnOk Tryd.prog elT glT 64 [.int .u8] [.bool] lower_F := .fin0 lower_run fun x _ _ hx => (lower_tot x).trans hx
/-! ## exchequer/lex.digit -/
def digit_px (R : Type) : Px R := ⟨ttOf ttL, glT, callT [], callQT [], loopT []⟩
def digit_body (x : HV [.int .u8]) : Option (HV [.bool]) := match x with
 | c =>
  cond (decide (48 ≤ c)) (
   some (decide (c ≤ 57))) (
   some false)
theorem digit_eq : ∀ (x : HV [.int .u8]), runF (digit_px _) Tryd.f76 [.int .u8] [.bool] x some = digit_body x
  | c => by kernel_rfl
theorem digit_run : FnOk Tryd.prog elT glT 76 [.int .u8] [.bool] (digit_body) := by
  refine fnOk_run Tryd.func76 rfl (by kernel_rfl) follows (by kernel_rfl) (n := 0) (by kernel_rfl) (px := digit_px _) (fun cx hP hel hgl => ?_) (digit_eq)
  have hp0 : PxOk cx (digit_px (HV [.bool])) := ⟨fun t => by rw [hP, hel]; exact tt_ok ttL_ok t, by rw [hgl]; rfl⟩
  have hc0 : CallOk cx (digit_px (HV [.bool])) := callT_ok rfl cfs_nil
  have hq0 : CallQOk cx (digit_px (HV [.bool])) := callQT_ok rfl cqfs_nil
  exact ⟨hp0, hc0, hq0, all0⟩
def digit (c : Int) : Bool :=
  cond (decide (48 ≤ c)) (
   (decide (c ≤ 57))) (
   false)
theorem digit_tot (x : HV [.int .u8]) : digit_body x = some (digit x) := by
  first
    | exact rfl
    | simp only [digit_body, digit, cond_some]
def digit_F : FT [.int .u8] [.bool] := fun x => some (digit x)
theorem digit_ok : FnOk Tryd.prog elT glT 76 [.int .u8] [.bool] digit_F := .fin0 digit_run fun x _ _ hx => (digit_tot x).trans hx
/-! ## exchequer/lex.inner -/
def inner_px (R : Type) : Px R := ⟨ttOf ttL, glT, callT [(64, callOr [.int .u8] [.bool] lower_F), (76, callOr [.int .u8] [.bool] digit_F)], callQT [], loopT []⟩
def inner_body (x : HV [.int .u8]) : Option (HV [.bool]) := match x with
 | c =>
  cond ((lower c)) (
   some true) (
   cond ((digit c)) (
    some true) (
    some (decide (c = 95))))
theorem inner_eq : ∀ (x : HV [.int .u8]), runF (inner_px _) Tryd.f66 [.int .u8] [.bool] x some = inner_body x
  | c => by kernel_rfl
theorem inner_run : FnOk Tryd.prog elT glT 66 [.int .u8] [.bool] (inner_body) := by
  refine fnOk_run Tryd.func66 rfl (by kernel_rfl) follows (by kernel_rfl) (n := 0) (by kernel_rfl) (px := inner_px _) (fun cx hP hel hgl => ?_) (inner_eq)
  have hp0 : PxOk cx (inner_px (HV [.bool])) := ⟨fun t => by rw [hP, hel]; exact tt_ok ttL_ok t, by rw [hgl]; rfl⟩
  have hc0 : CallOk cx (inner_px (HV [.bool])) := callT_ok rfl (cfs_cons (cf_or (by rw [hP, hel, hgl]; exact lower_ok) (by kernel_rfl)) (cfs_cons (cf_or (by rw [hP, hel, hgl]; exact digit_ok) (by kernel_rfl)) cfs_nil))
  have hq0 : CallQOk cx (inner_px (HV [.bool])) := callQT_ok rfl cqfs_nil
  exact ⟨hp0, hc0, hq0, all0⟩
def inner (c : Int) : Bool :=
  cond ((lower c)) (
   true) (
   cond ((digit c)) (
    true) (
    (decide (c = 95))))
theorem inner_tot (x : HV [.int .u8]) : inner_body x = some (inner x) := by
  first
    | exact rfl
    | simp only [inner_body, inner, cond_some]
def inner_F : FT [.int .u8] [.bool] := fun x => some (inner x)
theorem inner_ok : FnOk Tryd.prog elT glT 66 [.int .u8] [.bool] inner_F := .fin0 inner_run fun x _ _ hx => (inner_tot x).trans hx
/-! ## exchequer/value.visible -/
def visible_0_sg : Sig := ⟨20, [(0, .str), (2, .bool), (5, .int .i64), (6, .int .i64)], [], [], 0, 0, 0, []⟩
abbrev visible_0_V := Str × Bool × Int × Int
def visible_0 {R : Type} (rec : visible_0_V → Option R) (kx : Ex → visible_0_V → Option R) (v : visible_0_V) : Option R := match v with
 | (v, v1, v2, v3) =>
  cond (decide (v3 < v2)) (
   chk (inb v3 v.length) (
    cond (decide ((bat v v3) < 32)) (
     kx .ret (v, false, v2, v3)) (
     chk (inb v3 v.length) (
      cond (decide (126 < (bat v v3))) (
       kx .ret (v, false, v2, v3)) (
       rec (v, v1, v2, (wr .i64 (v3 + 1)))))))) (
   kx (.exit 0) (v, v1, v2, v3))
def visible_px (R : Type) (k : Nat) : Px R := ⟨ttOf ttL, glT, callT [], callQT [], loopT [(2, loopOr k visible_0_sg (visible_0))]⟩
theorem visible_0_eq (R : Type) (k : Nat) : ∀ (fr : List Fr) (rec : visible_0_V → Option R) (kx : Ex → visible_0_V → Option R) (v : visible_0_V), round (visible_px R k) visible_0_sg (lp Tryd.f63 0) fr rec kx v = visible_0 rec kx v
  | fr, rec, kx, (v, v1, v2, v3) => by kernel_rfl
def visible_body (k : Nat) (x : HV [.str]) : Option (HV [.bool]) := match x with
 | s =>
  iter (fun rec => visible_0 rec (fun e v => match v with | (_, v5, _, _) => match e with
   | .ret =>
    some v5
   | .exit 0 =>
    some true
   | _ => none)) k (s, false, (s.length : Int), 0)
theorem visible_eq (k : Nat) : ∀ (x : HV [.str]), runF (visible_px _ k) Tryd.f63 [.str] [.bool] x some = visible_body k x
  | s => by kernel_rfl
theorem visible_run (k : Nat) : FnOk Tryd.prog elT glT 63 [.str] [.bool] (visible_body k) := by
  refine fnOk_run Tryd.func63 rfl (by kernel_rfl) follows (by kernel_rfl) (n := 1) (by kernel_rfl) (px := visible_px _ k) (fun cx hP hel hgl => ?_) (visible_eq k)
  have hp0 : PxOk cx (visible_px (HV [.bool]) k) := ⟨fun t => by rw [hP, hel]; exact tt_ok ttL_ok t, by rw [hgl]; rfl⟩
  have hc0 : CallOk cx (visible_px (HV [.bool]) k) := callT_ok rfl cfs_nil
  have hq0 : CallQOk cx (visible_px (HV [.bool]) k) := callQT_ok rfl cqfs_nil
  have hlvisible_0 : LoopOk cx (visible_px (HV [.bool]) k) (lp Tryd.f63 0) := loop_ok hp0 hc0 hq0 (by rw [hP]; exact follows) (k := k) (s := visible_0_sg) (step := visible_0) (fun _ _ => by kernel_rfl) (by kernel_rfl) (visible_0_eq _ k) (loops_in (n := 0) (by kernel_rfl) all0)
  exact ⟨hp0, hc0, hq0, (allS all0 hlvisible_0)⟩
def vis (b : UInt8) : Bool := decide (32 ≤ b.toNat) && decide (b.toNat ≤ 126)
def visible (s : Str) : Bool := s.all vis
def visible_F : FT [.str] [.bool] := fun x => some (visible x)
theorem visible_loop {R : Type} {kx : Ex → visible_0_V → Option R} {s : Str} {a b : Option R} (hs : ln s.length) (h1 : ∀ r j, kx .ret (s, false, r, j) = a) (h2 : ∀ q r j, kx (.exit 0) (s, q, r, j) = b) : ∀ (k i : Nat) q, i ≤ s.length → s.length - i < k → iter (fun rec => visible_0 rec kx) k (s, q, (s.length : Int), (i : Int)) = cond ((s.drop i).all vis) b a
  | 0, i, q, _, h => by omega
  | k + 1, i, q, hi, h => by
    rw [iter_s]
    by_cases hl : i < s.length
    · have ih := visible_loop hs h1 h2 k (i + 1) q (by omega) (by omega)
      simp only [visible_0, wr_succ hl hs, ih, h1, drop_cons hl, bat_nat hl, inb_t hl, List.all_cons, chk, cond_t, Bool.cond_decide]
      rw [if_pos (by omega)]
      simp only [vis]
      split
      · rw [decide_eq_false (by omega)]; rfl
      · split
        · rw [decide_eq_true (by omega), decide_eq_false (by omega)]; rfl
        · rw [decide_eq_true (by omega), decide_eq_true (by omega)]; rfl
    · simp only [visible_0, h2, Bool.cond_decide]
      rw [if_neg (by omega), List.drop_eq_nil_of_le (by omega)]
      rfl
theorem visible_ok : FnOk Tryd.prog elT glT 63 [.str] [.bool] visible_F := .fin 0 visible_run fun x r hb hx => ⟨x.length + 1, by
  simp only [visible_F, Option.some.injEq] at hx
  have := visible_loop (a := some false) (b := some true) hb (kx := fun e v => match v with | (_, v5, _, _) => match e with | .ret => some v5 | .exit 0 => some true | _ => none) (fun _ _ => rfl) (fun _ _ _ => rfl) (x.length + 1) 0 false (Nat.zero_le _) (by omega)
  refine Eq.trans this ?_
  rw [← hx, List.drop_zero, visible]
  cases x.all vis <;> rfl⟩
/-! ## exchequer/value.right -/
def vright_px (R : Type) : Px R := ⟨ttOf ttL, glT, callT [(63, callOr [.str] [.bool] visible_F)], callQT [], loopT []⟩
def vright_body (x : HV [.sv .val]) : Option (HV [.bool]) := match x with
 | v =>
  cond (decide (v.kind = 1)) (
   cond (decide (v.n = 0)) (
    some (decide (v.s = []))) (
    some false)) (
   cond (decide (v.kind = 2)) (
    cond (decide (v.n = 0)) (
     some (decide (v.s = []))) (
     cond (decide (v.n = 1)) (
      some (decide (v.s = []))) (
      some false))) (
    cond (decide (v.kind = 3)) (
     some (decide (v.s = []))) (
     cond (decide (v.kind = 4)) (
      cond (decide (v.n = 0)) (
       cond (decide ((v.s.length : Int) ≤ 1000)) (
        some (visible v.s)) (
        some false)) (
       some false)) (
      cond (decide (v.kind = 5)) (
       cond (decide (v.n = 0)) (
        some (decide ((v.s.length : Int) ≤ 1000))) (
        some false)) (
       some false)))))
theorem vright_eq : ∀ (x : HV [.sv .val]), runF (vright_px _) Tryd.f46 [.sv .val] [.bool] x some = vright_body x
  | v => by kernel_rfl
theorem vright_run : FnOk Tryd.prog elT glT 46 [.sv .val] [.bool] (vright_body) := by
  refine fnOk_run Tryd.func46 rfl (by kernel_rfl) follows (by kernel_rfl) (n := 0) (by kernel_rfl) (px := vright_px _) (fun cx hP hel hgl => ?_) (vright_eq)
  have hp0 : PxOk cx (vright_px (HV [.bool])) := ⟨fun t => by rw [hP, hel]; exact tt_ok ttL_ok t, by rw [hgl]; rfl⟩
  have hc0 : CallOk cx (vright_px (HV [.bool])) := callT_ok rfl (cfs_cons (cf_or (by rw [hP, hel, hgl]; exact visible_ok) (by kernel_rfl)) cfs_nil)
  have hq0 : CallQOk cx (vright_px (HV [.bool])) := callQT_ok rfl cqfs_nil
  exact ⟨hp0, hc0, hq0, all0⟩
def vright (v : Val) : Bool :=
  cond (decide (v.kind = 1)) (
   cond (decide (v.n = 0)) (
    (decide (v.s = []))) (
    false)) (
   cond (decide (v.kind = 2)) (
    cond (decide (v.n = 0)) (
     (decide (v.s = []))) (
     cond (decide (v.n = 1)) (
      (decide (v.s = []))) (
      false))) (
    cond (decide (v.kind = 3)) (
     (decide (v.s = []))) (
     cond (decide (v.kind = 4)) (
      cond (decide (v.n = 0)) (
       cond (decide ((v.s.length : Int) ≤ 1000)) (
        (visible v.s)) (
        false)) (
       false)) (
      cond (decide (v.kind = 5)) (
       cond (decide (v.n = 0)) (
        (decide ((v.s.length : Int) ≤ 1000))) (
        false)) (
       false)))))
theorem vright_tot (x : HV [.sv .val]) : vright_body x = some (vright x) := by
  first
    | exact rfl
    | simp only [vright_body, vright, cond_some]
def vright_F : FT [.sv .val] [.bool] := fun x => some (vright x)
theorem vright_ok : FnOk Tryd.prog elT glT 46 [.sv .val] [.bool] vright_F := .fin0 vright_run fun x _ _ hx => (vright_tot x).trans hx
/-! ## exchequer/value.Check -/
def vcheck_px (R : Type) : Px R := ⟨ttOf ttL, glT, callT [(46, callOr [.sv .val] [.bool] vright_F)], callQT [], loopT []⟩
def vcheck_body (x : HV [.sv .val]) : Option (HV [.int .i64]) := match x with
 | v =>
  cond (!(vright v)) (
   some 2) (
   some 0)
theorem vcheck_eq : ∀ (x : HV [.sv .val]), runF (vcheck_px _) Tryd.f48 [.sv .val] [.int .i64] x some = vcheck_body x
  | v => by kernel_rfl
theorem vcheck_run : FnOk Tryd.prog elT glT 48 [.sv .val] [.int .i64] (vcheck_body) := by
  refine fnOk_run Tryd.func48 rfl (by kernel_rfl) follows (by kernel_rfl) (n := 0) (by kernel_rfl) (px := vcheck_px _) (fun cx hP hel hgl => ?_) (vcheck_eq)
  have hp0 : PxOk cx (vcheck_px (HV [.int .i64])) := ⟨fun t => by rw [hP, hel]; exact tt_ok ttL_ok t, by rw [hgl]; rfl⟩
  have hc0 : CallOk cx (vcheck_px (HV [.int .i64])) := callT_ok rfl (cfs_cons (cf_or (by rw [hP, hel, hgl]; exact vright_ok) (by kernel_rfl)) cfs_nil)
  have hq0 : CallQOk cx (vcheck_px (HV [.int .i64])) := callQT_ok rfl cqfs_nil
  exact ⟨hp0, hc0, hq0, all0⟩
def vcheck (v : Val) : Int :=
  cond (!(vright v)) (
   2) (
   0)
theorem vcheck_tot (x : HV [.sv .val]) : vcheck_body x = some (vcheck x) := by
  first
    | exact rfl
    | simp only [vcheck_body, vcheck, cond_some]
def vcheck_F : FT [.sv .val] [.int .i64] := fun x => some (vcheck x)
theorem vcheck_ok : FnOk Tryd.prog elT glT 48 [.sv .val] [.int .i64] vcheck_F := .fin0 vcheck_run fun x _ _ hx => (vcheck_tot x).trans hx
/-! ## exchequer/value.Fits -/
def vfits_px (R : Type) : Px R := ⟨ttOf ttL, glT, callT [(46, callOr [.sv .val] [.bool] vright_F)], callQT [], loopT []⟩
def vfits_body (x : HV [.sv .val, .int .i64]) : Option (HV [.bool]) := match x with
 | (v, kind) =>
  cond ((vright v)) (
   cond (decide (v.kind = 1)) (
    some true) (
    some (decide (v.kind = kind)))) (
   some false)
theorem vfits_eq : ∀ (x : HV [.sv .val, .int .i64]), runF (vfits_px _) Tryd.f33 [.sv .val, .int .i64] [.bool] x some = vfits_body x
  | (v, kind) => by kernel_rfl
theorem vfits_run : FnOk Tryd.prog elT glT 33 [.sv .val, .int .i64] [.bool] (vfits_body) := by
  refine fnOk_run Tryd.func33 rfl (by kernel_rfl) follows (by kernel_rfl) (n := 0) (by kernel_rfl) (px := vfits_px _) (fun cx hP hel hgl => ?_) (vfits_eq)
  have hp0 : PxOk cx (vfits_px (HV [.bool])) := ⟨fun t => by rw [hP, hel]; exact tt_ok ttL_ok t, by rw [hgl]; rfl⟩
  have hc0 : CallOk cx (vfits_px (HV [.bool])) := callT_ok rfl (cfs_cons (cf_or (by rw [hP, hel, hgl]; exact vright_ok) (by kernel_rfl)) cfs_nil)
  have hq0 : CallQOk cx (vfits_px (HV [.bool])) := callQT_ok rfl cqfs_nil
  exact ⟨hp0, hc0, hq0, all0⟩
def vfits (v : Val) (kind : Int) : Bool :=
  cond ((vright v)) (
   cond (decide (v.kind = 1)) (
    true) (
    (decide (v.kind = kind)))) (
   false)
theorem vfits_tot (x : HV [.sv .val, .int .i64]) : vfits_body x = some (vfits x.1 x.2) := by
  first
    | exact rfl
    | simp only [vfits_body, vfits, cond_some]
def vfits_F : FT [.sv .val, .int .i64] [.bool] := fun x => some (vfits x.1 x.2)
theorem vfits_ok : FnOk Tryd.prog elT glT 33 [.sv .val, .int .i64] [.bool] vfits_F := .fin0 vfits_run fun x _ _ hx => (vfits_tot x).trans hx
/-! ## exchequer/value.sign -/
def vsign_px (R : Type) : Px R := ⟨ttOf ttL, glT, callT [], callQT [], loopT []⟩
def vsign_body (x : HV [.int .i64, .int .i64]) : Option (HV [.int .i64]) := match x with
 | (a, b) =>
  cond (decide (a < b)) (
   some (-1)) (
   cond (decide (b < a)) (
    some 1) (
    some 0))
theorem vsign_eq : ∀ (x : HV [.int .i64, .int .i64]), runF (vsign_px _) Tryd.f57 [.int .i64, .int .i64] [.int .i64] x some = vsign_body x
  | (a, b) => by kernel_rfl
theorem vsign_run : FnOk Tryd.prog elT glT 57 [.int .i64, .int .i64] [.int .i64] (vsign_body) := by
  refine fnOk_run Tryd.func57 rfl (by kernel_rfl) follows (by kernel_rfl) (n := 0) (by kernel_rfl) (px := vsign_px _) (fun cx hP hel hgl => ?_) (vsign_eq)
  have hp0 : PxOk cx (vsign_px (HV [.int .i64])) := ⟨fun t => by rw [hP, hel]; exact tt_ok ttL_ok t, by rw [hgl]; rfl⟩
  have hc0 : CallOk cx (vsign_px (HV [.int .i64])) := callT_ok rfl cfs_nil
  have hq0 : CallQOk cx (vsign_px (HV [.int .i64])) := callQT_ok rfl cqfs_nil
  exact ⟨hp0, hc0, hq0, all0⟩
def vsign (a : Int) (b : Int) : Int :=
  cond (decide (a < b)) (
   (-1)) (
   cond (decide (b < a)) (
    1) (
    0))
theorem vsign_tot (x : HV [.int .i64, .int .i64]) : vsign_body x = some (vsign x.1 x.2) := by
  first
    | exact rfl
    | simp only [vsign_body, vsign, cond_some]
def vsign_F : FT [.int .i64, .int .i64] [.int .i64] := fun x => some (vsign x.1 x.2)
theorem vsign_ok : FnOk Tryd.prog elT glT 57 [.int .i64, .int .i64] [.int .i64] vsign_F := .fin0 vsign_run fun x _ _ hx => (vsign_tot x).trans hx
/-! ## exchequer/value.Add -/
def vadd_px (R : Type) : Px R := ⟨ttOf ttL, glT, callT [], callQT [], loopT []⟩
def vadd_body (x : HV [.int .i64, .int .i64]) : Option (HV [.int .i64, .int .i64]) := match x with
 | (a, b) =>
  cond (!decide ((decide (a < (wr .i64 (a + b)))) = (decide (0 < b)))) (
   some (0, 20)) (
   some ((wr .i64 (a + b)), 0))
theorem vadd_eq : ∀ (x : HV [.int .i64, .int .i64]), runF (vadd_px _) Tryd.f54 [.int .i64, .int .i64] [.int .i64, .int .i64] x some = vadd_body x
  | (a, b) => by kernel_rfl
theorem vadd_run : FnOk Tryd.prog elT glT 54 [.int .i64, .int .i64] [.int .i64, .int .i64] (vadd_body) := by
  refine fnOk_run Tryd.func54 rfl (by kernel_rfl) follows (by kernel_rfl) (n := 0) (by kernel_rfl) (px := vadd_px _) (fun cx hP hel hgl => ?_) (vadd_eq)
  have hp0 : PxOk cx (vadd_px (HV [.int .i64, .int .i64])) := ⟨fun t => by rw [hP, hel]; exact tt_ok ttL_ok t, by rw [hgl]; rfl⟩
  have hc0 : CallOk cx (vadd_px (HV [.int .i64, .int .i64])) := callT_ok rfl cfs_nil
  have hq0 : CallQOk cx (vadd_px (HV [.int .i64, .int .i64])) := callQT_ok rfl cqfs_nil
  exact ⟨hp0, hc0, hq0, all0⟩
def vadd (a : Int) (b : Int) : Int × Int :=
  cond (!decide ((decide (a < (wr .i64 (a + b)))) = (decide (0 < b)))) (
   (0, 20)) (
   ((wr .i64 (a + b)), 0))
theorem vadd_tot (x : HV [.int .i64, .int .i64]) : vadd_body x = some (vadd x.1 x.2) := by
  first
    | exact rfl
    | simp only [vadd_body, vadd, cond_some]
def vadd_F : FT [.int .i64, .int .i64] [.int .i64, .int .i64] := fun x => some (vadd x.1 x.2)
theorem vadd_ok : FnOk Tryd.prog elT glT 54 [.int .i64, .int .i64] [.int .i64, .int .i64] vadd_F := .fin0 vadd_run fun x _ _ hx => (vadd_tot x).trans hx
/-! ## exchequer/value.Sub -/
def vsub_px (R : Type) : Px R := ⟨ttOf ttL, glT, callT [], callQT [], loopT []⟩
def vsub_body (x : HV [.int .i64, .int .i64]) : Option (HV [.int .i64, .int .i64]) := match x with
 | (a, b) =>
  cond (!decide ((decide ((wr .i64 (a - b)) < a)) = (decide (0 < b)))) (
   some (0, 20)) (
   some ((wr .i64 (a - b)), 0))
theorem vsub_eq : ∀ (x : HV [.int .i64, .int .i64]), runF (vsub_px _) Tryd.f55 [.int .i64, .int .i64] [.int .i64, .int .i64] x some = vsub_body x
  | (a, b) => by kernel_rfl
theorem vsub_run : FnOk Tryd.prog elT glT 55 [.int .i64, .int .i64] [.int .i64, .int .i64] (vsub_body) := by
  refine fnOk_run Tryd.func55 rfl (by kernel_rfl) follows (by kernel_rfl) (n := 0) (by kernel_rfl) (px := vsub_px _) (fun cx hP hel hgl => ?_) (vsub_eq)
  have hp0 : PxOk cx (vsub_px (HV [.int .i64, .int .i64])) := ⟨fun t => by rw [hP, hel]; exact tt_ok ttL_ok t, by rw [hgl]; rfl⟩
  have hc0 : CallOk cx (vsub_px (HV [.int .i64, .int .i64])) := callT_ok rfl cfs_nil
  have hq0 : CallQOk cx (vsub_px (HV [.int .i64, .int .i64])) := callQT_ok rfl cqfs_nil
  exact ⟨hp0, hc0, hq0, all0⟩
def vsub (a : Int) (b : Int) : Int × Int :=
  cond (!decide ((decide ((wr .i64 (a - b)) < a)) = (decide (0 < b)))) (
   (0, 20)) (
   ((wr .i64 (a - b)), 0))
theorem vsub_tot (x : HV [.int .i64, .int .i64]) : vsub_body x = some (vsub x.1 x.2) := by
  first
    | exact rfl
    | simp only [vsub_body, vsub, cond_some]
def vsub_F : FT [.int .i64, .int .i64] [.int .i64, .int .i64] := fun x => some (vsub x.1 x.2)
theorem vsub_ok : FnOk Tryd.prog elT glT 55 [.int .i64, .int .i64] [.int .i64, .int .i64] vsub_F := .fin0 vsub_run fun x _ _ hx => (vsub_tot x).trans hx
/-! ## exchequer/value.size -/
def vsize_px (R : Type) : Px R := ⟨ttOf ttL, glT, callT [], callQT [], loopT []⟩
def vsize_body (x : HV [.int .i64]) : Option (HV [.int .u64]) := match x with
 | n =>
  cond (decide (n < 0)) (
   some (wr .u64 (0 - (wr .u64 n)))) (
   some (wr .u64 n))
theorem vsize_eq : ∀ (x : HV [.int .i64]), runF (vsize_px _) Tryd.f70 [.int .i64] [.int .u64] x some = vsize_body x
  | n => by kernel_rfl
theorem vsize_run : FnOk Tryd.prog elT glT 70 [.int .i64] [.int .u64] (vsize_body) := by
  refine fnOk_run Tryd.func70 rfl (by kernel_rfl) follows (by kernel_rfl) (n := 0) (by kernel_rfl) (px := vsize_px _) (fun cx hP hel hgl => ?_) (vsize_eq)
  have hp0 : PxOk cx (vsize_px (HV [.int .u64])) := ⟨fun t => by rw [hP, hel]; exact tt_ok ttL_ok t, by rw [hgl]; rfl⟩
  have hc0 : CallOk cx (vsize_px (HV [.int .u64])) := callT_ok rfl cfs_nil
  have hq0 : CallQOk cx (vsize_px (HV [.int .u64])) := callQT_ok rfl cqfs_nil
  exact ⟨hp0, hc0, hq0, all0⟩
def vsize (n : Int) : Int :=
  cond (decide (n < 0)) (
   (wr .u64 (0 - (wr .u64 n)))) (
   (wr .u64 n))
theorem vsize_tot (x : HV [.int .i64]) : vsize_body x = some (vsize x) := by
  first
    | exact rfl
    | simp only [vsize_body, vsize, cond_some]
def vsize_F : FT [.int .i64] [.int .u64] := fun x => some (vsize x)
theorem vsize_ok : FnOk Tryd.prog elT glT 70 [.int .i64] [.int .u64] vsize_F := .fin0 vsize_run fun x _ _ hx => (vsize_tot x).trans hx
/-! ## exchequer/ast.parts -/
def parts_px (R : Type) : Px R := ⟨ttOf ttL, glT, callT [], callQT [], loopT []⟩
def parts_body (x : HV [.int .i64]) : Option (HV [.int .i64]) := match x with
 | kind =>
  let j1 := fun (p1 : Bool) =>
   cond (p1) (
    some 0) (
    let j := fun (p5 : Bool) =>
     cond (p5) (
      some 1) (
      cond (!decide ((mget signsL kind) = [])) (
       some 2) (
       some (-1)))
    cond (decide (kind = 3)) (
     j true) (
     cond (decide (kind = 15)) (
      j true) (
      j (decide (kind = 16)))))
  cond (decide (kind = 1)) (
   j1 true) (
   j1 (decide (kind = 2)))
theorem parts_eq : ∀ (x : HV [.int .i64]), runF (parts_px _) Tryd.f47 [.int .i64] [.int .i64] x some = parts_body x
  | kind => by kernel_rfl
theorem parts_run : FnOk Tryd.prog elT glT 47 [.int .i64] [.int .i64] (parts_body) := by
  refine fnOk_run Tryd.func47 rfl (by kernel_rfl) follows (by kernel_rfl) (n := 0) (by kernel_rfl) (px := parts_px _) (fun cx hP hel hgl => ?_) (parts_eq)
  have hp0 : PxOk cx (parts_px (HV [.int .i64])) := ⟨fun t => by rw [hP, hel]; exact tt_ok ttL_ok t, by rw [hgl]; rfl⟩
  have hc0 : CallOk cx (parts_px (HV [.int .i64])) := callT_ok rfl cfs_nil
  have hq0 : CallQOk cx (parts_px (HV [.int .i64])) := callQT_ok rfl cqfs_nil
  exact ⟨hp0, hc0, hq0, all0⟩
def parts (kind : Int) : Int :=
  let j1 := fun (p1 : Bool) =>
   cond (p1) (
    0) (
    let j := fun (p5 : Bool) =>
     cond (p5) (
      1) (
      cond (!decide ((mget signsL kind) = [])) (
       2) (
       (-1)))
    cond (decide (kind = 3)) (
     j true) (
     cond (decide (kind = 15)) (
      j true) (
      j (decide (kind = 16)))))
  cond (decide (kind = 1)) (
   j1 true) (
   j1 (decide (kind = 2)))
theorem parts_tot (x : HV [.int .i64]) : parts_body x = some (parts x) := by
  first
    | exact rfl
    | simp only [parts_body, parts, cond_some]
def parts_F : FT [.int .i64] [.int .i64] := fun x => some (parts x)
theorem parts_ok : FnOk Tryd.prog elT glT 47 [.int .i64] [.int .i64] parts_F := .fin0 parts_run fun x _ _ hx => (parts_tot x).trans hx
/-! ## exchequer/reckon.fits -/
def rfits_px (R : Type) : Px R := ⟨ttOf ttL, glT, callT [], callQT [], loopT []⟩
def rfits_body (x : HV [.int .i64, .int .i64]) : Option (HV [.bool]) := match x with
 | (k, want) =>
  cond (decide (k = want)) (
   some true) (
   some (decide (k = 1)))
theorem rfits_eq : ∀ (x : HV [.int .i64, .int .i64]), runF (rfits_px _) Tryd.f31 [.int .i64, .int .i64] [.bool] x some = rfits_body x
  | (k, want) => by kernel_rfl
theorem rfits_run : FnOk Tryd.prog elT glT 31 [.int .i64, .int .i64] [.bool] (rfits_body) := by
  refine fnOk_run Tryd.func31 rfl (by kernel_rfl) follows (by kernel_rfl) (n := 0) (by kernel_rfl) (px := rfits_px _) (fun cx hP hel hgl => ?_) (rfits_eq)
  have hp0 : PxOk cx (rfits_px (HV [.bool])) := ⟨fun t => by rw [hP, hel]; exact tt_ok ttL_ok t, by rw [hgl]; rfl⟩
  have hc0 : CallOk cx (rfits_px (HV [.bool])) := callT_ok rfl cfs_nil
  have hq0 : CallQOk cx (rfits_px (HV [.bool])) := callQT_ok rfl cqfs_nil
  exact ⟨hp0, hc0, hq0, all0⟩
def rfits (k : Int) (want : Int) : Bool :=
  cond (decide (k = want)) (
   true) (
   (decide (k = 1)))
theorem rfits_tot (x : HV [.int .i64, .int .i64]) : rfits_body x = some (rfits x.1 x.2) := by
  first
    | exact rfl
    | simp only [rfits_body, rfits, cond_some]
def rfits_F : FT [.int .i64, .int .i64] [.bool] := fun x => some (rfits x.1 x.2)
theorem rfits_ok : FnOk Tryd.prog elT glT 31 [.int .i64, .int .i64] [.bool] rfits_F := .fin0 rfits_run fun x _ _ hx => (rfits_tot x).trans hx
/-! ## exchequer/reckon.truth -/
def truth_px (R : Type) : Px R := ⟨ttOf ttL, glT, callT [], callQT [], loopT []⟩
def truth_body (x : HV [.bool]) : Option (HV [.sv .val]) := match x with
 | b =>
  cond (b) (
   some (Val.mk 2 1 [])) (
   some (Val.mk 2 0 []))
theorem truth_eq : ∀ (x : HV [.bool]), runF (truth_px _) Tryd.f32 [.bool] [.sv .val] x some = truth_body x
  | b => by kernel_rfl
theorem truth_run : FnOk Tryd.prog elT glT 32 [.bool] [.sv .val] (truth_body) := by
  refine fnOk_run Tryd.func32 rfl (by kernel_rfl) follows (by kernel_rfl) (n := 0) (by kernel_rfl) (px := truth_px _) (fun cx hP hel hgl => ?_) (truth_eq)
  have hp0 : PxOk cx (truth_px (HV [.sv .val])) := ⟨fun t => by rw [hP, hel]; exact tt_ok ttL_ok t, by rw [hgl]; rfl⟩
  have hc0 : CallOk cx (truth_px (HV [.sv .val])) := callT_ok rfl cfs_nil
  have hq0 : CallQOk cx (truth_px (HV [.sv .val])) := callQT_ok rfl cqfs_nil
  exact ⟨hp0, hc0, hq0, all0⟩
def truth (b : Bool) : Val :=
  cond (b) (
   (Val.mk 2 1 [])) (
   (Val.mk 2 0 []))
theorem truth_tot (x : HV [.bool]) : truth_body x = some (truth x) := by
  first
    | exact rfl
    | simp only [truth_body, truth, cond_some]
def truth_F : FT [.bool] [.sv .val] := fun x => some (truth x)
theorem truth_ok : FnOk Tryd.prog elT glT 32 [.bool] [.sv .val] truth_F := .fin0 truth_run fun x _ _ hx => (truth_tot x).trans hx
/-! ## exchequer/reckon.stands -/
def stands_px (R : Type) : Px R := ⟨ttOf ttL, glT, callT [], callQT [], loopT []⟩
def stands_body (x : HV [.int .i64, .int .i64]) : Option (HV [.bool]) := match x with
 | (kind, n) =>
  cond (decide (kind = 6)) (
   some (decide (n = 0))) (
   cond (decide (kind = 7)) (
    some (!decide (n = 0))) (
    cond (decide (kind = 8)) (
     some (decide (n < 0))) (
     cond (decide (kind = 9)) (
      some (decide (n ≤ 0))) (
      cond (decide (kind = 10)) (
       some (decide (0 < n))) (
       some (decide (0 ≤ n)))))))
theorem stands_eq : ∀ (x : HV [.int .i64, .int .i64]), runF (stands_px _) Tryd.f40 [.int .i64, .int .i64] [.bool] x some = stands_body x
  | (kind, n) => by kernel_rfl
theorem stands_run : FnOk Tryd.prog elT glT 40 [.int .i64, .int .i64] [.bool] (stands_body) := by
  refine fnOk_run Tryd.func40 rfl (by kernel_rfl) follows (by kernel_rfl) (n := 0) (by kernel_rfl) (px := stands_px _) (fun cx hP hel hgl => ?_) (stands_eq)
  have hp0 : PxOk cx (stands_px (HV [.bool])) := ⟨fun t => by rw [hP, hel]; exact tt_ok ttL_ok t, by rw [hgl]; rfl⟩
  have hc0 : CallOk cx (stands_px (HV [.bool])) := callT_ok rfl cfs_nil
  have hq0 : CallQOk cx (stands_px (HV [.bool])) := callQT_ok rfl cqfs_nil
  exact ⟨hp0, hc0, hq0, all0⟩
def stands (kind : Int) (n : Int) : Bool :=
  cond (decide (kind = 6)) (
   (decide (n = 0))) (
   cond (decide (kind = 7)) (
    (!decide (n = 0))) (
    cond (decide (kind = 8)) (
     (decide (n < 0))) (
     cond (decide (kind = 9)) (
      (decide (n ≤ 0))) (
      cond (decide (kind = 10)) (
       (decide (0 < n))) (
       (decide (0 ≤ n)))))))
theorem stands_tot (x : HV [.int .i64, .int .i64]) : stands_body x = some (stands x.1 x.2) := by
  first
    | exact rfl
    | simp only [stands_body, stands, cond_some]
def stands_F : FT [.int .i64, .int .i64] [.bool] := fun x => some (stands x.1 x.2)
theorem stands_ok : FnOk Tryd.prog elT glT 40 [.int .i64, .int .i64] [.bool] stands_F := .fin0 stands_run fun x _ _ hx => (stands_tot x).trans hx
end Go.Proofs.YtlhebakbbfmiiaaDoor
