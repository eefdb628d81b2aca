/- Texts of the proof, one behind the other: Tt, Pf, Fa, Lc, Fb, Fc, Fd, Fe, Ff, Ra, Rb, Rc, Rd, Re, Ar, Dg, Ri, Rj. -/
import Derived.Test.YtlhebakbbfmiiaaDoorEv3
import Derived.Test.YtlhebakbbfmiiaaDoorProg
import Derived.KernelRfl
import Derived.Lib.Bytealg
/- What the machine is told: the seat's types, package-level variables. -/
namespace Go.Proofs.YtlhebakbbfmiiaaDoor
open Go.Ax
def signsL : List (Int × Str) := [(4, [65, 78, 68]), (5, [79, 82]), (6, [61]), (7, [60, 62]), (8, [60]), (9, [60, 61]), (10, [62]), (11, [62, 61]), (12, [43]), (13, [45]), (14, [42])]
/-- the types -/
def ttL : List (Nat × Ax.Ty) := [
  (3, .int .i64),
  (4, .bool),
  (5, .int .u8),
  (9, .str),
  (23, .st (some .val) [(0, 3), (1, 3), (2, 9)] [.int .i64 0, .int .i64 0, .str []]),
  (24, .sl .expr),
  (26, .st (some .expr) [(0, 3), (1, 23), (4, 9), (5, 24)] [.int .i64 0, .int .i64 0, .int .i64 0, .str [], .str [], .sl .expr [] .nil]),
  (27, .sl .col),
  (28, .sl .val),
  (31, .int .i64),
  (51, .sl .int),
  (54, .st (some .col) [(0, 9), (1, 3), (2, 4), (3, 4), (4, 9)] [.str [], .int .i64 0, .bool false, .bool false, .str []]),
  (63, .arr 2 .int),
  (76, .fn),
  (82, .map),
  (83, .fn),
  (87, .sl .str),
  (88, .int .u64),
  (94, .st (some .num) [(0, 4), (1, 51)] [.bool false, .sl .int [] .nil]),
  (97, .int .u64)]
def elT : Ck → TypeId
  | .byte => 5
  | .int => 3
  | .u64 => 88
  | .str => 9
  | .bool => 4
  | .val => 23
  | .col => 54
  | .expr => 26
  | .num => 94
  | .vals => 28
  | .exprs => 24
  | .strs => 87
  | _ => 0
theorem ttL_ok : (ttL.all fun p => tyOk Tryd.prog elT (ttOf ttL) p.1) = true := by kernel_rfl
def glT : Nat → Option Gv := tbl [(0, .map signsL)]
theorem follows : Tryd.prog.follows .mixedOrders = true := by kernel_rfl
end Go.Proofs.YtlhebakbbfmiiaaDoor

/- Words for proofs about printed runs: places in texts and rows as natural numbers. -/
namespace Go.Ax
theorem bat_nat {s : Str} {i : Nat} (h : i < s.length) : bat s (i : Int) = ((s[i]'h).toNat : Int) := by
  simp [bat, List.getD_eq_getElem?_getD, h]
theorem at_nat {c : Ck} {xs : List (El c)} {i : Nat} (h : i < xs.length) : at' c xs (i : Int) = xs[i]'h := by
  simp [at', List.getD_eq_getElem?_getD, h]
theorem wr_nat {n : Nat} (h : ln n) : wr .i64 (n : Int) = (n : Int) := wr_id (by simp only [ln, inI] at *; omega)
theorem wr_succ {i n : Nat} (h : i < n) (hn : ln n) : wr .i64 ((i : Int) + 1) = ((i + 1 : Nat) : Int) := by
  rw [wr_id (by simp only [ln, inI] at *; omega)]; rfl
theorem drop_cons {α : Type} {l : List α} {i : Nat} (h : i < l.length) : l.drop i = l[i]'h :: l.drop (i + 1) := List.drop_eq_getElem_cons h
theorem inb_t {i n : Nat} (h : i < n) : inb (i : Int) n = true := by simp [inb_nat, h]
theorem iter_s {V R : Type} {step : (V → Option R) → V → Option R} {k : Nat} {v : V} : iter step (k + 1) v = step (iter step k) v := rfl
theorem cond_t {α : Type} {a b : α} : cond true a b = a := rfl
theorem cond_f {α : Type} {a b : α} : cond false a b = b := rfl
theorem cond_some {α : Type} {c : Bool} {a b : α} : cond c (some a) (some b) = some (cond c a b) := by cases c <;> rfl
end Go.Ax

/- Functions: texts. -/
namespace Go.Proofs.YtlhebakbbfmiiaaDoor
open Go.Ax
/-! ## exchequer/lex.lower -/
def lower_px (R : Type) : Px R := ⟨ttOf ttL, glT, callT [], callQT [], loopT []⟩
def lower_body (x : HV [.int .u8]) : Option (HV [.bool]) := match x with
 | c =>
  cond (decide (97 ≤ c)) (
   some (decide (c ≤ 122))) (
   some false)
theorem lower_eq : ∀ (x : HV [.int .u8]), runF (lower_px _) Tryd.f64 [.int .u8] [.bool] x some = lower_body x
  | c => by kernel_rfl
theorem lower_run : FnOk Tryd.prog elT glT 64 [.int .u8] [.bool] (lower_body) := by
  refine fnOk_run Tryd.func64 rfl (by kernel_rfl) follows (by kernel_rfl) (n := 0) (by kernel_rfl) (px := lower_px _) (fun cx hP hel hgl => ?_) (lower_eq)
  have hp0 : PxOk cx (lower_px (HV [.bool])) := ⟨fun t => by rw [hP, hel]; exact tt_ok ttL_ok t, by rw [hgl]; rfl⟩
  have hc0 : CallOk cx (lower_px (HV [.bool])) := callT_ok rfl cfs_nil
  have hq0 : CallQOk cx (lower_px (HV [.bool])) := callQT_ok rfl cqfs_nil
  exact ⟨hp0, hc0, hq0, all0⟩
def lower (c : Int) : Bool :=
  cond (decide (97 ≤ c)) (
   (decide (c ≤ 122))) (
   false)
theorem lower_tot (x : HV [.int .u8]) : lower_body x = some (lower x) := by
  first
    | exact rfl
    | simp only [lower_body, lower, cond_some]
def lower_F : FT [.int .u8] [.bool] := fun x => some (lower x)
theorem lower_ok : FnOk Tryd.prog elT glT 64 [.int .u8] [.bool] lower_F := .fin0 lower_run fun x _ _ hx => (lower_tot x).trans hx
/-! ## exchequer/lex.digit -/
def digit_px (R : Type) : Px R := ⟨ttOf ttL, glT, callT [], callQT [], loopT []⟩
def digit_body (x : HV [.int .u8]) : Option (HV [.bool]) := match x with
 | c =>
  cond (decide (48 ≤ c)) (
   some (decide (c ≤ 57))) (
   some false)
theorem digit_eq : ∀ (x : HV [.int .u8]), runF (digit_px _) Tryd.f76 [.int .u8] [.bool] x some = digit_body x
  | c => by kernel_rfl
theorem digit_run : FnOk Tryd.prog elT glT 76 [.int .u8] [.bool] (digit_body) := by
  refine fnOk_run Tryd.func76 rfl (by kernel_rfl) follows (by kernel_rfl) (n := 0) (by kernel_rfl) (px := digit_px _) (fun cx hP hel hgl => ?_) (digit_eq)
  have hp0 : PxOk cx (digit_px (HV [.bool])) := ⟨fun t => by rw [hP, hel]; exact tt_ok ttL_ok t, by rw [hgl]; rfl⟩
  have hc0 : CallOk cx (digit_px (HV [.bool])) := callT_ok rfl cfs_nil
  have hq0 : CallQOk cx (digit_px (HV [.bool])) := callQT_ok rfl cqfs_nil
  exact ⟨hp0, hc0, hq0, all0⟩
def digit (c : Int) : Bool :=
  cond (decide (48 ≤ c)) (
   (decide (c ≤ 57))) (
   false)
theorem digit_tot (x : HV [.int .u8]) : digit_body x = some (digit x) := by
  first
    | exact rfl
    | simp only [digit_body, digit, cond_some]
def digit_F : FT [.int .u8] [.bool] := fun x => some (digit x)
theorem digit_ok : FnOk Tryd.prog elT glT 76 [.int .u8] [.bool] digit_F := .fin0 digit_run fun x _ _ hx => (digit_tot x).trans hx
/-! ## exchequer/lex.inner -/
def inner_px (R : Type) : Px R := ⟨ttOf ttL, glT, callT [(64, callOr [.int .u8] [.bool] lower_F), (76, callOr [.int .u8] [.bool] digit_F)], callQT [], loopT []⟩
def inner_body (x : HV [.int .u8]) : Option (HV [.bool]) := match x with
 | c =>
  cond ((lower c)) (
   some true) (
   cond ((digit c)) (
    some true) (
    some (decide (c = 95))))
theorem inner_eq : ∀ (x : HV [.int .u8]), runF (inner_px _) Tryd.f66 [.int .u8] [.bool] x some = inner_body x
  | c => by kernel_rfl
theorem inner_run : FnOk Tryd.prog elT glT 66 [.int .u8] [.bool] (inner_body) := by
  refine fnOk_run Tryd.func66 rfl (by kernel_rfl) follows (by kernel_rfl) (n := 0) (by kernel_rfl) (px := inner_px _) (fun cx hP hel hgl => ?_) (inner_eq)
  have hp0 : PxOk cx (inner_px (HV [.bool])) := ⟨fun t => by rw [hP, hel]; exact tt_ok ttL_ok t, by rw [hgl]; rfl⟩
  have hc0 : CallOk cx (inner_px (HV [.bool])) := callT_ok rfl (cfs_cons (cf_or (by rw [hP, hel, hgl]; exact lower_ok) (by kernel_rfl)) (cfs_cons (cf_or (by rw [hP, hel, hgl]; exact digit_ok) (by kernel_rfl)) cfs_nil))
  have hq0 : CallQOk cx (inner_px (HV [.bool])) := callQT_ok rfl cqfs_nil
  exact ⟨hp0, hc0, hq0, all0⟩
def inner (c : Int) : Bool :=
  cond ((lower c)) (
   true) (
   cond ((digit c)) (
    true) (
    (decide (c = 95))))
theorem inner_tot (x : HV [.int .u8]) : inner_body x = some (inner x) := by
  first
    | exact rfl
    | simp only [inner_body, inner, cond_some]
def inner_F : FT [.int .u8] [.bool] := fun x => some (inner x)
theorem inner_ok : FnOk Tryd.prog elT glT 66 [.int .u8] [.bool] inner_F := .fin0 inner_run fun x _ _ hx => (inner_tot x).trans hx
/-! ## exchequer/value.visible -/
def visible_0_sg : Sig := ⟨20, [(0, .str), (2, .bool), (5, .int .i64), (6, .int .i64)], [], [], 0, 0, 0, [], []⟩
abbrev visible_0_V := Str × Bool × Int × Int
def visible_0 {R : Type} (rec : visible_0_V → Option R) (kx : Ex → visible_0_V → Option R) (v : visible_0_V) : Option R := match v with
 | (v, v1, v2, v3) =>
  cond (decide (v3 < v2)) (
   chk (inb v3 v.length) (
    cond (decide ((bat v v3) < 32)) (
     kx .ret (v, false, v2, v3)) (
     chk (inb v3 v.length) (
      cond (decide (126 < (bat v v3))) (
       kx .ret (v, false, v2, v3)) (
       rec (v, v1, v2, (wr .i64 (v3 + 1)))))))) (
   kx (.exit 0) (v, v1, v2, v3))
def visible_px (R : Type) (k : Nat) : Px R := ⟨ttOf ttL, glT, callT [], callQT [], loopT [(2, loopOr k visible_0_sg (visible_0))]⟩
theorem visible_0_eq (R : Type) (k : Nat) : ∀ (fr : List Fr) (rec : visible_0_V → Option R) (kx : Ex → visible_0_V → Option R) (v : visible_0_V), round (visible_px R k) visible_0_sg (lp Tryd.f63 0) fr rec kx v = visible_0 rec kx v
  | fr, rec, kx, (v, v1, v2, v3) => by kernel_rfl
def visible_body (k : Nat) (x : HV [.str]) : Option (HV [.bool]) := match x with
 | s =>
  iter (fun rec => visible_0 rec (fun e v => match v with | (_, v5, _, _) => match e with
   | .ret =>
    some v5
   | .exit 0 =>
    some true
   | _ => none)) k (s, false, (s.length : Int), 0)
theorem visible_eq (k : Nat) : ∀ (x : HV [.str]), runF (visible_px _ k) Tryd.f63 [.str] [.bool] x some = visible_body k x
  | s => by kernel_rfl
theorem visible_run (k : Nat) : FnOk Tryd.prog elT glT 63 [.str] [.bool] (visible_body k) := by
  refine fnOk_run Tryd.func63 rfl (by kernel_rfl) follows (by kernel_rfl) (n := 1) (by kernel_rfl) (px := visible_px _ k) (fun cx hP hel hgl => ?_) (visible_eq k)
  have hp0 : PxOk cx (visible_px (HV [.bool]) k) := ⟨fun t => by rw [hP, hel]; exact tt_ok ttL_ok t, by rw [hgl]; rfl⟩
  have hc0 : CallOk cx (visible_px (HV [.bool]) k) := callT_ok rfl cfs_nil
  have hq0 : CallQOk cx (visible_px (HV [.bool]) k) := callQT_ok rfl cqfs_nil
  have hlvisible_0 : LoopOk cx (visible_px (HV [.bool]) k) (lp Tryd.f63 0) := loop_ok hp0 hc0 hq0 (by rw [hP]; exact follows) (k := k) (s := visible_0_sg) (step := visible_0) (fun _ _ => by kernel_rfl) (by kernel_rfl) (visible_0_eq _ k) (loops_in (n := 0) (by kernel_rfl) all0)
  exact ⟨hp0, hc0, hq0, (allS all0 hlvisible_0)⟩
def vis (b : UInt8) : Bool := decide (32 ≤ b.toNat) && decide (b.toNat ≤ 126)
def visible (s : Str) : Bool := s.all vis
def visible_F : FT [.str] [.bool] := fun x => some (visible x)
theorem visible_loop {R : Type} {kx : Ex → visible_0_V → Option R} {s : Str} {a b : Option R} (hs : ln s.length) (h1 : ∀ r j, kx .ret (s, false, r, j) = a) (h2 : ∀ q r j, kx (.exit 0) (s, q, r, j) = b) : ∀ (k i : Nat) q, i ≤ s.length → s.length - i < k → iter (fun rec => visible_0 rec kx) k (s, q, (s.length : Int), (i : Int)) = cond ((s.drop i).all vis) b a
  | 0, i, q, _, h => by omega
  | k + 1, i, q, hi, h => by
    rw [iter_s]
    by_cases hl : i < s.length
    · have ih := visible_loop hs h1 h2 k (i + 1) q (by omega) (by omega)
      simp only [visible_0, wr_succ hl hs, ih, h1, drop_cons hl, bat_nat hl, inb_t hl, List.all_cons, chk, cond_t, Bool.cond_decide]
      rw [if_pos (by omega)]
      simp only [vis]
      split
      · rw [decide_eq_false (by omega)]; rfl
      · split
        · rw [decide_eq_true (by omega), decide_eq_false (by omega)]; rfl
        · rw [decide_eq_true (by omega), decide_eq_true (by omega)]; rfl
    · simp only [visible_0, h2, Bool.cond_decide]
      rw [if_neg (by omega), List.drop_eq_nil_of_le (by omega)]
      rfl
theorem visible_ok : FnOk Tryd.prog elT glT 63 [.str] [.bool] visible_F := .fin 0 visible_run fun x r hb hx => ⟨x.length + 1, by
  simp only [visible_F, Option.some.injEq] at hx
  have := visible_loop (a := some false) (b := some true) hb (kx := fun e v => match v with | (_, v5, _, _) => match e with | .ret => some v5 | .exit 0 => some true | _ => none) (fun _ _ => rfl) (fun _ _ _ => rfl) (x.length + 1) 0 false (Nat.zero_le _) (by omega)
  refine Eq.trans this ?_
  rw [← hx, List.drop_zero, visible]
  cases x.all vis <;> rfl⟩
/-! ## exchequer/value.right -/
def vright_px (R : Type) : Px R := ⟨ttOf ttL, glT, callT [(63, callOr [.str] [.bool] visible_F)], callQT [], loopT []⟩
def vright_body (x : HV [.sv .val]) : Option (HV [.bool]) := match x with
 | v =>
  cond (decide (v.kind = 1)) (
   cond (decide (v.n = 0)) (
    some (decide (v.s = []))) (
    some false)) (
   cond (decide (v.kind = 2)) (
    cond (decide (v.n = 0)) (
     some (decide (v.s = []))) (
     cond (decide (v.n = 1)) (
      some (decide (v.s = []))) (
      some false))) (
    cond (decide (v.kind = 3)) (
     some (decide (v.s = []))) (
     cond (decide (v.kind = 4)) (
      cond (decide (v.n = 0)) (
       cond (decide ((v.s.length : Int) ≤ 1000)) (
        some (visible v.s)) (
        some false)) (
       some false)) (
      cond (decide (v.kind = 5)) (
       cond (decide (v.n = 0)) (
        some (decide ((v.s.length : Int) ≤ 1000))) (
        some false)) (
       some false)))))
theorem vright_eq : ∀ (x : HV [.sv .val]), runF (vright_px _) Tryd.f46 [.sv .val] [.bool] x some = vright_body x
  | v => by kernel_rfl
theorem vright_run : FnOk Tryd.prog elT glT 46 [.sv .val] [.bool] (vright_body) := by
  refine fnOk_run Tryd.func46 rfl (by kernel_rfl) follows (by kernel_rfl) (n := 0) (by kernel_rfl) (px := vright_px _) (fun cx hP hel hgl => ?_) (vright_eq)
  have hp0 : PxOk cx (vright_px (HV [.bool])) := ⟨fun t => by rw [hP, hel]; exact tt_ok ttL_ok t, by rw [hgl]; rfl⟩
  have hc0 : CallOk cx (vright_px (HV [.bool])) := callT_ok rfl (cfs_cons (cf_or (by rw [hP, hel, hgl]; exact visible_ok) (by kernel_rfl)) cfs_nil)
  have hq0 : CallQOk cx (vright_px (HV [.bool])) := callQT_ok rfl cqfs_nil
  exact ⟨hp0, hc0, hq0, all0⟩
def vright (v : Val) : Bool :=
  cond (decide (v.kind = 1)) (
   cond (decide (v.n = 0)) (
    (decide (v.s = []))) (
    false)) (
   cond (decide (v.kind = 2)) (
    cond (decide (v.n = 0)) (
     (decide (v.s = []))) (
     cond (decide (v.n = 1)) (
      (decide (v.s = []))) (
      false))) (
    cond (decide (v.kind = 3)) (
     (decide (v.s = []))) (
     cond (decide (v.kind = 4)) (
      cond (decide (v.n = 0)) (
       cond (decide ((v.s.length : Int) ≤ 1000)) (
        (visible v.s)) (
        false)) (
       false)) (
      cond (decide (v.kind = 5)) (
       cond (decide (v.n = 0)) (
        (decide ((v.s.length : Int) ≤ 1000))) (
        false)) (
       false)))))
theorem vright_tot (x : HV [.sv .val]) : vright_body x = some (vright x) := by
  first
    | exact rfl
    | simp only [vright_body, vright, cond_some]
def vright_F : FT [.sv .val] [.bool] := fun x => some (vright x)
theorem vright_ok : FnOk Tryd.prog elT glT 46 [.sv .val] [.bool] vright_F := .fin0 vright_run fun x _ _ hx => (vright_tot x).trans hx
/-! ## exchequer/value.Check -/
def vcheck_px (R : Type) : Px R := ⟨ttOf ttL, glT, callT [(46, callOr [.sv .val] [.bool] vright_F)], callQT [], loopT []⟩
def vcheck_body (x : HV [.sv .val]) : Option (HV [.int .i64]) := match x with
 | v =>
  cond (!(vright v)) (
   some 2) (
   some 0)
theorem vcheck_eq : ∀ (x : HV [.sv .val]), runF (vcheck_px _) Tryd.f48 [.sv .val] [.int .i64] x some = vcheck_body x
  | v => by kernel_rfl
theorem vcheck_run : FnOk Tryd.prog elT glT 48 [.sv .val] [.int .i64] (vcheck_body) := by
  refine fnOk_run Tryd.func48 rfl (by kernel_rfl) follows (by kernel_rfl) (n := 0) (by kernel_rfl) (px := vcheck_px _) (fun cx hP hel hgl => ?_) (vcheck_eq)
  have hp0 : PxOk cx (vcheck_px (HV [.int .i64])) := ⟨fun t => by rw [hP, hel]; exact tt_ok ttL_ok t, by rw [hgl]; rfl⟩
  have hc0 : CallOk cx (vcheck_px (HV [.int .i64])) := callT_ok rfl (cfs_cons (cf_or (by rw [hP, hel, hgl]; exact vright_ok) (by kernel_rfl)) cfs_nil)
  have hq0 : CallQOk cx (vcheck_px (HV [.int .i64])) := callQT_ok rfl cqfs_nil
  exact ⟨hp0, hc0, hq0, all0⟩
def vcheck (v : Val) : Int :=
  cond (!(vright v)) (
   2) (
   0)
theorem vcheck_tot (x : HV [.sv .val]) : vcheck_body x = some (vcheck x) := by
  first
    | exact rfl
    | simp only [vcheck_body, vcheck, cond_some]
def vcheck_F : FT [.sv .val] [.int .i64] := fun x => some (vcheck x)
theorem vcheck_ok : FnOk Tryd.prog elT glT 48 [.sv .val] [.int .i64] vcheck_F := .fin0 vcheck_run fun x _ _ hx => (vcheck_tot x).trans hx
/-! ## exchequer/value.Fits -/
def vfits_px (R : Type) : Px R := ⟨ttOf ttL, glT, callT [(46, callOr [.sv .val] [.bool] vright_F)], callQT [], loopT []⟩
def vfits_body (x : HV [.sv .val, .int .i64]) : Option (HV [.bool]) := match x with
 | (v, kind) =>
  cond ((vright v)) (
   cond (decide (v.kind = 1)) (
    some true) (
    some (decide (v.kind = kind)))) (
   some false)
theorem vfits_eq : ∀ (x : HV [.sv .val, .int .i64]), runF (vfits_px _) Tryd.f33 [.sv .val, .int .i64] [.bool] x some = vfits_body x
  | (v, kind) => by kernel_rfl
theorem vfits_run : FnOk Tryd.prog elT glT 33 [.sv .val, .int .i64] [.bool] (vfits_body) := by
  refine fnOk_run Tryd.func33 rfl (by kernel_rfl) follows (by kernel_rfl) (n := 0) (by kernel_rfl) (px := vfits_px _) (fun cx hP hel hgl => ?_) (vfits_eq)
  have hp0 : PxOk cx (vfits_px (HV [.bool])) := ⟨fun t => by rw [hP, hel]; exact tt_ok ttL_ok t, by rw [hgl]; rfl⟩
  have hc0 : CallOk cx (vfits_px (HV [.bool])) := callT_ok rfl (cfs_cons (cf_or (by rw [hP, hel, hgl]; exact vright_ok) (by kernel_rfl)) cfs_nil)
  have hq0 : CallQOk cx (vfits_px (HV [.bool])) := callQT_ok rfl cqfs_nil
  exact ⟨hp0, hc0, hq0, all0⟩
def vfits (v : Val) (kind : Int) : Bool :=
  cond ((vright v)) (
   cond (decide (v.kind = 1)) (
    true) (
    (decide (v.kind = kind)))) (
   false)
theorem vfits_tot (x : HV [.sv .val, .int .i64]) : vfits_body x = some (vfits x.1 x.2) := by
  first
    | exact rfl
    | simp only [vfits_body, vfits, cond_some]
def vfits_F : FT [.sv .val, .int .i64] [.bool] := fun x => some (vfits x.1 x.2)
theorem vfits_ok : FnOk Tryd.prog elT glT 33 [.sv .val, .int .i64] [.bool] vfits_F := .fin0 vfits_run fun x _ _ hx => (vfits_tot x).trans hx
/-! ## exchequer/value.sign -/
def vsign_px (R : Type) : Px R := ⟨ttOf ttL, glT, callT [], callQT [], loopT []⟩
def vsign_body (x : HV [.int .i64, .int .i64]) : Option (HV [.int .i64]) := match x with
 | (a, b) =>
  cond (decide (a < b)) (
   some (-1)) (
   cond (decide (b < a)) (
    some 1) (
    some 0))
theorem vsign_eq : ∀ (x : HV [.int .i64, .int .i64]), runF (vsign_px _) Tryd.f57 [.int .i64, .int .i64] [.int .i64] x some = vsign_body x
  | (a, b) => by kernel_rfl
theorem vsign_run : FnOk Tryd.prog elT glT 57 [.int .i64, .int .i64] [.int .i64] (vsign_body) := by
  refine fnOk_run Tryd.func57 rfl (by kernel_rfl) follows (by kernel_rfl) (n := 0) (by kernel_rfl) (px := vsign_px _) (fun cx hP hel hgl => ?_) (vsign_eq)
  have hp0 : PxOk cx (vsign_px (HV [.int .i64])) := ⟨fun t => by rw [hP, hel]; exact tt_ok ttL_ok t, by rw [hgl]; rfl⟩
  have hc0 : CallOk cx (vsign_px (HV [.int .i64])) := callT_ok rfl cfs_nil
  have hq0 : CallQOk cx (vsign_px (HV [.int .i64])) := callQT_ok rfl cqfs_nil
  exact ⟨hp0, hc0, hq0, all0⟩
def vsign (a : Int) (b : Int) : Int :=
  cond (decide (a < b)) (
   (-1)) (
   cond (decide (b < a)) (
    1) (
    0))
theorem vsign_tot (x : HV [.int .i64, .int .i64]) : vsign_body x = some (vsign x.1 x.2) := by
  first
    | exact rfl
    | simp only [vsign_body, vsign, cond_some]
def vsign_F : FT [.int .i64, .int .i64] [.int .i64] := fun x => some (vsign x.1 x.2)
theorem vsign_ok : FnOk Tryd.prog elT glT 57 [.int .i64, .int .i64] [.int .i64] vsign_F := .fin0 vsign_run fun x _ _ hx => (vsign_tot x).trans hx
/-! ## exchequer/value.Add -/
def vadd_px (R : Type) : Px R := ⟨ttOf ttL, glT, callT [], callQT [], loopT []⟩
def vadd_body (x : HV [.int .i64, .int .i64]) : Option (HV [.int .i64, .int .i64]) := match x with
 | (a, b) =>
  cond (!decide ((decide (a < (wr .i64 (a + b)))) = (decide (0 < b)))) (
   some (0, 20)) (
   some ((wr .i64 (a + b)), 0))
theorem vadd_eq : ∀ (x : HV [.int .i64, .int .i64]), runF (vadd_px _) Tryd.f54 [.int .i64, .int .i64] [.int .i64, .int .i64] x some = vadd_body x
  | (a, b) => by kernel_rfl
theorem vadd_run : FnOk Tryd.prog elT glT 54 [.int .i64, .int .i64] [.int .i64, .int .i64] (vadd_body) := by
  refine fnOk_run Tryd.func54 rfl (by kernel_rfl) follows (by kernel_rfl) (n := 0) (by kernel_rfl) (px := vadd_px _) (fun cx hP hel hgl => ?_) (vadd_eq)
  have hp0 : PxOk cx (vadd_px (HV [.int .i64, .int .i64])) := ⟨fun t => by rw [hP, hel]; exact tt_ok ttL_ok t, by rw [hgl]; rfl⟩
  have hc0 : CallOk cx (vadd_px (HV [.int .i64, .int .i64])) := callT_ok rfl cfs_nil
  have hq0 : CallQOk cx (vadd_px (HV [.int .i64, .int .i64])) := callQT_ok rfl cqfs_nil
  exact ⟨hp0, hc0, hq0, all0⟩
def vadd (a : Int) (b : Int) : Int × Int :=
  cond (!decide ((decide (a < (wr .i64 (a + b)))) = (decide (0 < b)))) (
   (0, 20)) (
   ((wr .i64 (a + b)), 0))
theorem vadd_tot (x : HV [.int .i64, .int .i64]) : vadd_body x = some (vadd x.1 x.2) := by
  first
    | exact rfl
    | simp only [vadd_body, vadd, cond_some]
def vadd_F : FT [.int .i64, .int .i64] [.int .i64, .int .i64] := fun x => some (vadd x.1 x.2)
theorem vadd_ok : FnOk Tryd.prog elT glT 54 [.int .i64, .int .i64] [.int .i64, .int .i64] vadd_F := .fin0 vadd_run fun x _ _ hx => (vadd_tot x).trans hx
/-! ## exchequer/value.Sub -/
def vsub_px (R : Type) : Px R := ⟨ttOf ttL, glT, callT [], callQT [], loopT []⟩
def vsub_body (x : HV [.int .i64, .int .i64]) : Option (HV [.int .i64, .int .i64]) := match x with
 | (a, b) =>
  cond (!decide ((decide ((wr .i64 (a - b)) < a)) = (decide (0 < b)))) (
   some (0, 20)) (
   some ((wr .i64 (a - b)), 0))
theorem vsub_eq : ∀ (x : HV [.int .i64, .int .i64]), runF (vsub_px _) Tryd.f55 [.int .i64, .int .i64] [.int .i64, .int .i64] x some = vsub_body x
  | (a, b) => by kernel_rfl
theorem vsub_run : FnOk Tryd.prog elT glT 55 [.int .i64, .int .i64] [.int .i64, .int .i64] (vsub_body) := by
  refine fnOk_run Tryd.func55 rfl (by kernel_rfl) follows (by kernel_rfl) (n := 0) (by kernel_rfl) (px := vsub_px _) (fun cx hP hel hgl => ?_) (vsub_eq)
  have hp0 : PxOk cx (vsub_px (HV [.int .i64, .int .i64])) := ⟨fun t => by rw [hP, hel]; exact tt_ok ttL_ok t, by rw [hgl]; rfl⟩
  have hc0 : CallOk cx (vsub_px (HV [.int .i64, .int .i64])) := callT_ok rfl cfs_nil
  have hq0 : CallQOk cx (vsub_px (HV [.int .i64, .int .i64])) := callQT_ok rfl cqfs_nil
  exact ⟨hp0, hc0, hq0, all0⟩
def vsub (a : Int) (b : Int) : Int × Int :=
  cond (!decide ((decide ((wr .i64 (a - b)) < a)) = (decide (0 < b)))) (
   (0, 20)) (
   ((wr .i64 (a - b)), 0))
theorem vsub_tot (x : HV [.int .i64, .int .i64]) : vsub_body x = some (vsub x.1 x.2) := by
  first
    | exact rfl
    | simp only [vsub_body, vsub, cond_some]
def vsub_F : FT [.int .i64, .int .i64] [.int .i64, .int .i64] := fun x => some (vsub x.1 x.2)
theorem vsub_ok : FnOk Tryd.prog elT glT 55 [.int .i64, .int .i64] [.int .i64, .int .i64] vsub_F := .fin0 vsub_run fun x _ _ hx => (vsub_tot x).trans hx
/-! ## exchequer/value.size -/
def vsize_px (R : Type) : Px R := ⟨ttOf ttL, glT, callT [], callQT [], loopT []⟩
def vsize_body (x : HV [.int .i64]) : Option (HV [.int .u64]) := match x with
 | n =>
  cond (decide (n < 0)) (
   some (wr .u64 (0 - (wr .u64 n)))) (
   some (wr .u64 n))
theorem vsize_eq : ∀ (x : HV [.int .i64]), runF (vsize_px _) Tryd.f70 [.int .i64] [.int .u64] x some = vsize_body x
  | n => by kernel_rfl
theorem vsize_run : FnOk Tryd.prog elT glT 70 [.int .i64] [.int .u64] (vsize_body) := by
  refine fnOk_run Tryd.func70 rfl (by kernel_rfl) follows (by kernel_rfl) (n := 0) (by kernel_rfl) (px := vsize_px _) (fun cx hP hel hgl => ?_) (vsize_eq)
  have hp0 : PxOk cx (vsize_px (HV [.int .u64])) := ⟨fun t => by rw [hP, hel]; exact tt_ok ttL_ok t, by rw [hgl]; rfl⟩
  have hc0 : CallOk cx (vsize_px (HV [.int .u64])) := callT_ok rfl cfs_nil
  have hq0 : CallQOk cx (vsize_px (HV [.int .u64])) := callQT_ok rfl cqfs_nil
  exact ⟨hp0, hc0, hq0, all0⟩
def vsize (n : Int) : Int :=
  cond (decide (n < 0)) (
   (wr .u64 (0 - (wr .u64 n)))) (
   (wr .u64 n))
theorem vsize_tot (x : HV [.int .i64]) : vsize_body x = some (vsize x) := by
  first
    | exact rfl
    | simp only [vsize_body, vsize, cond_some]
def vsize_F : FT [.int .i64] [.int .u64] := fun x => some (vsize x)
theorem vsize_ok : FnOk Tryd.prog elT glT 70 [.int .i64] [.int .u64] vsize_F := .fin0 vsize_run fun x _ _ hx => (vsize_tot x).trans hx
/-! ## exchequer/ast.parts -/
def parts_px (R : Type) : Px R := ⟨ttOf ttL, glT, callT [], callQT [], loopT []⟩
def parts_body (x : HV [.int .i64]) : Option (HV [.int .i64]) := match x with
 | kind =>
  let j1 := fun (p1 : Bool) =>
   cond (p1) (
    some 0) (
    let j := fun (p5 : Bool) =>
     cond (p5) (
      some 1) (
      cond (!decide ((mget signsL kind) = [])) (
       some 2) (
       some (-1)))
    cond (decide (kind = 3)) (
     j true) (
     cond (decide (kind = 15)) (
      j true) (
      j (decide (kind = 16)))))
  cond (decide (kind = 1)) (
   j1 true) (
   j1 (decide (kind = 2)))
theorem parts_eq : ∀ (x : HV [.int .i64]), runF (parts_px _) Tryd.f47 [.int .i64] [.int .i64] x some = parts_body x
  | kind => by kernel_rfl
theorem parts_run : FnOk Tryd.prog elT glT 47 [.int .i64] [.int .i64] (parts_body) := by
  refine fnOk_run Tryd.func47 rfl (by kernel_rfl) follows (by kernel_rfl) (n := 0) (by kernel_rfl) (px := parts_px _) (fun cx hP hel hgl => ?_) (parts_eq)
  have hp0 : PxOk cx (parts_px (HV [.int .i64])) := ⟨fun t => by rw [hP, hel]; exact tt_ok ttL_ok t, by rw [hgl]; rfl⟩
  have hc0 : CallOk cx (parts_px (HV [.int .i64])) := callT_ok rfl cfs_nil
  have hq0 : CallQOk cx (parts_px (HV [.int .i64])) := callQT_ok rfl cqfs_nil
  exact ⟨hp0, hc0, hq0, all0⟩
def parts (kind : Int) : Int :=
  let j1 := fun (p1 : Bool) =>
   cond (p1) (
    0) (
    let j := fun (p5 : Bool) =>
     cond (p5) (
      1) (
      cond (!decide ((mget signsL kind) = [])) (
       2) (
       (-1)))
    cond (decide (kind = 3)) (
     j true) (
     cond (decide (kind = 15)) (
      j true) (
      j (decide (kind = 16)))))
  cond (decide (kind = 1)) (
   j1 true) (
   j1 (decide (kind = 2)))
theorem parts_tot (x : HV [.int .i64]) : parts_body x = some (parts x) := by
  first
    | exact rfl
    | simp only [parts_body, parts, cond_some]
def parts_F : FT [.int .i64] [.int .i64] := fun x => some (parts x)
theorem parts_ok : FnOk Tryd.prog elT glT 47 [.int .i64] [.int .i64] parts_F := .fin0 parts_run fun x _ _ hx => (parts_tot x).trans hx
/-! ## exchequer/reckon.fits -/
def rfits_px (R : Type) : Px R := ⟨ttOf ttL, glT, callT [], callQT [], loopT []⟩
def rfits_body (x : HV [.int .i64, .int .i64]) : Option (HV [.bool]) := match x with
 | (k, want) =>
  cond (decide (k = want)) (
   some true) (
   some (decide (k = 1)))
theorem rfits_eq : ∀ (x : HV [.int .i64, .int .i64]), runF (rfits_px _) Tryd.f31 [.int .i64, .int .i64] [.bool] x some = rfits_body x
  | (k, want) => by kernel_rfl
theorem rfits_run : FnOk Tryd.prog elT glT 31 [.int .i64, .int .i64] [.bool] (rfits_body) := by
  refine fnOk_run Tryd.func31 rfl (by kernel_rfl) follows (by kernel_rfl) (n := 0) (by kernel_rfl) (px := rfits_px _) (fun cx hP hel hgl => ?_) (rfits_eq)
  have hp0 : PxOk cx (rfits_px (HV [.bool])) := ⟨fun t => by rw [hP, hel]; exact tt_ok ttL_ok t, by rw [hgl]; rfl⟩
  have hc0 : CallOk cx (rfits_px (HV [.bool])) := callT_ok rfl cfs_nil
  have hq0 : CallQOk cx (rfits_px (HV [.bool])) := callQT_ok rfl cqfs_nil
  exact ⟨hp0, hc0, hq0, all0⟩
def rfits (k : Int) (want : Int) : Bool :=
  cond (decide (k = want)) (
   true) (
   (decide (k = 1)))
theorem rfits_tot (x : HV [.int .i64, .int .i64]) : rfits_body x = some (rfits x.1 x.2) := by
  first
    | exact rfl
    | simp only [rfits_body, rfits, cond_some]
def rfits_F : FT [.int .i64, .int .i64] [.bool] := fun x => some (rfits x.1 x.2)
theorem rfits_ok : FnOk Tryd.prog elT glT 31 [.int .i64, .int .i64] [.bool] rfits_F := .fin0 rfits_run fun x _ _ hx => (rfits_tot x).trans hx
/-! ## exchequer/reckon.truth -/
def truth_px (R : Type) : Px R := ⟨ttOf ttL, glT, callT [], callQT [], loopT []⟩
def truth_body (x : HV [.bool]) : Option (HV [.sv .val]) := match x with
 | b =>
  cond (b) (
   some (Val.mk 2 1 [])) (
   some (Val.mk 2 0 []))
theorem truth_eq : ∀ (x : HV [.bool]), runF (truth_px _) Tryd.f32 [.bool] [.sv .val] x some = truth_body x
  | b => by kernel_rfl
theorem truth_run : FnOk Tryd.prog elT glT 32 [.bool] [.sv .val] (truth_body) := by
  refine fnOk_run Tryd.func32 rfl (by kernel_rfl) follows (by kernel_rfl) (n := 0) (by kernel_rfl) (px := truth_px _) (fun cx hP hel hgl => ?_) (truth_eq)
  have hp0 : PxOk cx (truth_px (HV [.sv .val])) := ⟨fun t => by rw [hP, hel]; exact tt_ok ttL_ok t, by rw [hgl]; rfl⟩
  have hc0 : CallOk cx (truth_px (HV [.sv .val])) := callT_ok rfl cfs_nil
  have hq0 : CallQOk cx (truth_px (HV [.sv .val])) := callQT_ok rfl cqfs_nil
  exact ⟨hp0, hc0, hq0, all0⟩
def truth (b : Bool) : Val :=
  cond (b) (
   (Val.mk 2 1 [])) (
   (Val.mk 2 0 []))
theorem truth_tot (x : HV [.bool]) : truth_body x = some (truth x) := by
  first
    | exact rfl
    | simp only [truth_body, truth, cond_some]
def truth_F : FT [.bool] [.sv .val] := fun x => some (truth x)
theorem truth_ok : FnOk Tryd.prog elT glT 32 [.bool] [.sv .val] truth_F := .fin0 truth_run fun x _ _ hx => (truth_tot x).trans hx
/-! ## exchequer/reckon.stands -/
def stands_px (R : Type) : Px R := ⟨ttOf ttL, glT, callT [], callQT [], loopT []⟩
def stands_body (x : HV [.int .i64, .int .i64]) : Option (HV [.bool]) := match x with
 | (kind, n) =>
  cond (decide (kind = 6)) (
   some (decide (n = 0))) (
   cond (decide (kind = 7)) (
    some (!decide (n = 0))) (
    cond (decide (kind = 8)) (
     some (decide (n < 0))) (
     cond (decide (kind = 9)) (
      some (decide (n ≤ 0))) (
      cond (decide (kind = 10)) (
       some (decide (0 < n))) (
       some (decide (0 ≤ n)))))))
theorem stands_eq : ∀ (x : HV [.int .i64, .int .i64]), runF (stands_px _) Tryd.f40 [.int .i64, .int .i64] [.bool] x some = stands_body x
  | (kind, n) => by kernel_rfl
theorem stands_run : FnOk Tryd.prog elT glT 40 [.int .i64, .int .i64] [.bool] (stands_body) := by
  refine fnOk_run Tryd.func40 rfl (by kernel_rfl) follows (by kernel_rfl) (n := 0) (by kernel_rfl) (px := stands_px _) (fun cx hP hel hgl => ?_) (stands_eq)
  have hp0 : PxOk cx (stands_px (HV [.bool])) := ⟨fun t => by rw [hP, hel]; exact tt_ok ttL_ok t, by rw [hgl]; rfl⟩
  have hc0 : CallOk cx (stands_px (HV [.bool])) := callT_ok rfl cfs_nil
  have hq0 : CallQOk cx (stands_px (HV [.bool])) := callQT_ok rfl cqfs_nil
  exact ⟨hp0, hc0, hq0, all0⟩
def stands (kind : Int) (n : Int) : Bool :=
  cond (decide (kind = 6)) (
   (decide (n = 0))) (
   cond (decide (kind = 7)) (
    (!decide (n = 0))) (
    cond (decide (kind = 8)) (
     (decide (n < 0))) (
     cond (decide (kind = 9)) (
      (decide (n ≤ 0))) (
      cond (decide (kind = 10)) (
       (decide (0 < n))) (
       (decide (0 ≤ n)))))))
theorem stands_tot (x : HV [.int .i64, .int .i64]) : stands_body x = some (stands x.1 x.2) := by
  first
    | exact rfl
    | simp only [stands_body, stands, cond_some]
def stands_F : FT [.int .i64, .int .i64] [.bool] := fun x => some (stands x.1 x.2)
theorem stands_ok : FnOk Tryd.prog elT glT 40 [.int .i64, .int .i64] [.bool] stands_F := .fin0 stands_run fun x _ _ hx => (stands_tot x).trans hx
end Go.Proofs.YtlhebakbbfmiiaaDoor

/- Contracts of the library's functions, from walks. -/
namespace Go.Ax
/-- from a walk: results of which nothing lies in memory -/
theorem FnOk.ofIs {P : Program} {el : Ck → TypeId} {gl : Nat → Option Gv} {f : FuncId} {sa sr : List Sg} {F : FT sa sr} (he : Sx.Enters P f) (ho : owns 0 sr = []) (h : ∀ x r, F x = some r → ∃ (us : List Value) (v : Value), (∀ X vs, Reps X (encL 0 sa x) vs → vs = us) ∧ Sx.Con P f us [] (fun _ => True) (Sx.Is v) ∧ ∀ X, BdL sa x → Rep X (pack (encL 0 sr r)) v) : FnOk P el gl f sa sr F := by
  refine ⟨he, fun x r hx w M vs hM hgl hr => ?_⟩
  obtain ⟨us, v, h1, h2, h3⟩ := h x r hx
  obtain rfl := h1 _ _ hr
  refine (h2.calls w (fun _ _ => trivial)).mono ?_
  rintro en w' ⟨u, L', F', rfl, ⟨rfl, _, _⟩, _, hb⟩
  refine ⟨u, ⟨fun _ => 0, fun _ => Option.none⟩, rfl, Chg.of_below hb, fun p g o hp => ?_, fun p q g o o' hp => ?_, h3 _ (reps_bd hr)⟩
  · rw [ho] at hp; cases hp
  · rw [ho] at hp; cases hp
end Go.Ax
namespace Go.Proofs.YtlhebakbbfmiiaaDoor
open Go.Ax
open Go.Sx (Con S Is con_intro rt_is)
theorem run_compare (a b : Str) (w : World) : (callFunc 77 #[S a, S b]).run Tryd.prog w = .ok (.value (.int .i64 (Lib.compareBytes a b))) w := by
  rw [run_callFunc_extern Tryd.func77 (by kernel_rfl) rfl (by kernel_rfl) (e := Extern.BytealgCompare.compare) (by kernel_rfl)]
  simp [Lib.run_compareString, go_sem, S]
open Go.Sx in
theorem compare_con (a b : Str) : Con Tryd.prog 71 [S a, S b] [] (fun _ => True) (Is (.int .i64 (Lib.compareBytes a b))) := by
  refine con_intro Tryd.func71 Tryd.ntmps71 rfl (by kernel_rfl) rfl fun w M => ?_
  repeat' (first | refine g_seq ?_ | refine g_region ?_ | refine o_nil ?_ | refine n_seq ?_ | refine n_blk ?_ | refine g_block ?_ | refine g_skip ?_ | refine g_exit ?_ | refine x_here ?_ | refine x_seq ?_ | refine x_loop ?_ | refine x_blk rfl ?_ | refine g_scope ?_ | refine n_scope ?_ | refine x_scope ?_ | refine g_label ?_ | (apply o_pure rfl rfl; (first | exact p_move rfl | exact p_assign rfl | exact p_lens (by dsimp only; decide +kernel) rfl | exact p_lensl (by dsimp only; decide +kernel) rfl | exact p_extract rfl rfl | exact p_pick_t rfl rfl | exact p_pick_f rfl rfl | exact p_eql rfl rfl | exact p_neq rfl rfl | exact p_lss rfl rfl | exact p_leq rfl rfl | exact p_gtr rfl rfl | exact p_geq rfl rfl | exact p_not rfl | exact p_eqls rfl rfl | exact p_neqs rfl rfl | exact p_add64 rfl rfl (by omega) | exact p_sub64 rfl rfl (by omega) | exact p_index (by dsimp only; decide +kernel) rfl rfl (by omega) | exact p_cut (by dsimp only; decide +kernel) rfl rfl rfl (by omega) | exact p_cutlo (by dsimp only; decide +kernel) rfl rfl (by omega) | exact p_cuthi (by dsimp only; decide +kernel) rfl rfl (by omega) | exact p_fa (fo := 0) (by dsimp only; decide +kernel) rfl | exact p_fa (fo := 1) (by dsimp only; decide +kernel) rfl | exact p_fa (fo := 2) (by dsimp only; decide +kernel) rfl | exact p_fa (fo := 3) (by dsimp only; decide +kernel) rfl | exact p_nil rfl)) | refine o_off rfl rfl ?_ | refine o_off_none rfl ?_ | (apply o_pure rfl rfl (p_callx rfl rfl (run_compare _ _))) | (refine o_gsd rfl rfl ?_ ?_ <;> intro hc) | (refine o_gse rfl rfl ?_ ?_ <;> intro hc) | (refine o_gsn rfl rfl ?_ ?_ <;> intro hc) | (refine o_gsxd rfl rfl ?_ ?_ <;> intro hc) | (refine o_gsx rfl rfl ?_ ?_ <;> intro hc) | (refine o_gs rfl rfl ?_ ?_ <;> intro hc) | refine g_cond_t rfl rfl ?_ | refine g_cond_f rfl rfl ?_ | refine g_cond_t rfl (decide_eq_true (by omega)) ?_ | refine g_cond_f rfl (decide_eq_false (by omega)) ?_ | (refine g_condd rfl ?_ ?_ <;> intro hc) | (refine g_conde rfl ?_ ?_ <;> intro hc) | (refine g_condn rfl ?_ ?_ <;> intro hc) | (refine g_condxd rfl ?_ ?_ <;> intro hc) | (refine g_condx rfl ?_ ?_ <;> intro hc) | (refine g_cond rfl ?_ ?_ <;> intro hc) | refine g_ret1 rfl rfl ?_ | refine g_ret2 rfl rfl rfl ?_ | refine g_ret3 rfl rfl rfl rfl ?_)
  exact rt_is rfl
def scmp (a b : Str) : Int := Lib.compareBytes a b
def scmp_F : FT [.str, .str] [.int .i64] := fun x => some (scmp x.1 x.2)
theorem scmp_range : ∀ (a b : Str), scmp a b = -1 ∨ scmp a b = 0 ∨ scmp a b = 1
  | [], [] => by simp [scmp, Lib.compareBytes]
  | [], _ :: _ => by simp [scmp, Lib.compareBytes]
  | _ :: _, [] => by simp [scmp, Lib.compareBytes]
  | a :: l, b :: m => by
    have ih := scmp_range l m
    simp only [scmp, Lib.compareBytes] at ih ⊢
    split
    · simp
    · split
      · simp
      · exact ih
theorem scmp_ok : FnOk Tryd.prog elT glT 71 [.str, .str] [.int .i64] scmp_F := by
  refine FnOk.ofIs (compare_con [] []).enters rfl fun x r hx => ?_
  obtain ⟨a, b⟩ := x
  simp only [scmp_F, Option.some.injEq] at hx
  subst hx
  refine ⟨[S a, S b], _, fun X vs h => ?_, compare_con a b, fun X hb => ?_⟩
  · simp only [encL, enc1, Reps, Rep] at h
    obtain ⟨u, us, rfl, ⟨rfl, _⟩, u2, us2, rfl, ⟨rfl, _⟩, rfl⟩ := h
    rfl
  · simp only [pack, encL, enc1]
    have h := scmp_range a b
    refine rep_int (u8_of ?_)
    simp only [IntKind.min, IntKind.max, IntKind.signed, IntKind.bits]
    simp only [if_true]
    omega
end Go.Proofs.YtlhebakbbfmiiaaDoor

/- Functions: places of columns, rows that fit, truths, names, comparisons, products. -/
namespace Go.Proofs.YtlhebakbbfmiiaaDoor
open Go.Ax
/-! ## strings.Compare -/
def scompare_px (R : Type) : Px R := ⟨ttOf ttL, glT, callT [(71, callOr [.str, .str] [.int .i64] scmp_F)], callQT [], loopT []⟩
def scompare_body (x : HV [.str, .str]) : Option (HV [.int .i64]) := match x with
 | (a, b) =>
  some (scmp a b)
theorem scompare_eq : ∀ (x : HV [.str, .str]), runF (scompare_px _) Tryd.f58 [.str, .str] [.int .i64] x some = scompare_body x
  | (a, b) => by kernel_rfl
theorem scompare_run : FnOk Tryd.prog elT glT 58 [.str, .str] [.int .i64] (scompare_body) := by
  refine fnOk_run Tryd.func58 rfl (by kernel_rfl) follows (by kernel_rfl) (n := 0) (by kernel_rfl) (px := scompare_px _) (fun cx hP hel hgl => ?_) (scompare_eq)
  have hp0 : PxOk cx (scompare_px (HV [.int .i64])) := ⟨fun t => by rw [hP, hel]; exact tt_ok ttL_ok t, by rw [hgl]; rfl⟩
  have hc0 : CallOk cx (scompare_px (HV [.int .i64])) := callT_ok rfl (cfs_cons (cf_or (by rw [hP, hel, hgl]; exact scmp_ok) (by kernel_rfl)) cfs_nil)
  have hq0 : CallQOk cx (scompare_px (HV [.int .i64])) := callQT_ok rfl cqfs_nil
  exact ⟨hp0, hc0, hq0, all0⟩
def scompare (a : Str) (b : Str) : Int :=
  (scmp a b)
theorem scompare_tot (x : HV [.str, .str]) : scompare_body x = some (scompare x.1 x.2) := by
  first
    | exact rfl
    | simp only [scompare_body, scompare, cond_some]
def scompare_F : FT [.str, .str] [.int .i64] := fun x => some (scompare x.1 x.2)
theorem scompare_ok : FnOk Tryd.prog elT glT 58 [.str, .str] [.int .i64] scompare_F := .fin0 scompare_run fun x _ _ hx => (scompare_tot x).trans hx
/-! ## exchequer/value.Cmp -/
def vcmp_px (R : Type) : Px R := ⟨ttOf ttL, glT, callT [(57, callOr [.int .i64, .int .i64] [.int .i64] vsign_F), (58, callOr [.str, .str] [.int .i64] scompare_F)], callQT [], loopT []⟩
def vcmp_body (x : HV [.sv .val, .sv .val]) : Option (HV [.int .i64]) := match x with
 | (a, b) =>
  cond (!decide ((vsign a.kind b.kind) = 0)) (
   some (vsign a.kind b.kind)) (
   cond (!decide ((vsign a.n b.n) = 0)) (
    some (vsign a.n b.n)) (
    some (scompare a.s b.s)))
theorem vcmp_eq : ∀ (x : HV [.sv .val, .sv .val]), runF (vcmp_px _) Tryd.f41 [.sv .val, .sv .val] [.int .i64] x some = vcmp_body x
  | (a, b) => by kernel_rfl
theorem vcmp_run : FnOk Tryd.prog elT glT 41 [.sv .val, .sv .val] [.int .i64] (vcmp_body) := by
  refine fnOk_run Tryd.func41 rfl (by kernel_rfl) follows (by kernel_rfl) (n := 0) (by kernel_rfl) (px := vcmp_px _) (fun cx hP hel hgl => ?_) (vcmp_eq)
  have hp0 : PxOk cx (vcmp_px (HV [.int .i64])) := ⟨fun t => by rw [hP, hel]; exact tt_ok ttL_ok t, by rw [hgl]; rfl⟩
  have hc0 : CallOk cx (vcmp_px (HV [.int .i64])) := callT_ok rfl (cfs_cons (cf_or (by rw [hP, hel, hgl]; exact vsign_ok) (by kernel_rfl)) (cfs_cons (cf_or (by rw [hP, hel, hgl]; exact scompare_ok) (by kernel_rfl)) cfs_nil))
  have hq0 : CallQOk cx (vcmp_px (HV [.int .i64])) := callQT_ok rfl cqfs_nil
  exact ⟨hp0, hc0, hq0, all0⟩
def vcmp (a : Val) (b : Val) : Int :=
  cond (!decide ((vsign a.kind b.kind) = 0)) (
   (vsign a.kind b.kind)) (
   cond (!decide ((vsign a.n b.n) = 0)) (
    (vsign a.n b.n)) (
    (scompare a.s b.s)))
theorem vcmp_tot (x : HV [.sv .val, .sv .val]) : vcmp_body x = some (vcmp x.1 x.2) := by
  first
    | exact rfl
    | simp only [vcmp_body, vcmp, cond_some]
def vcmp_F : FT [.sv .val, .sv .val] [.int .i64] := fun x => some (vcmp x.1 x.2)
theorem vcmp_ok : FnOk Tryd.prog elT glT 41 [.sv .val, .sv .val] [.int .i64] vcmp_F := .fin0 vcmp_run fun x _ _ hx => (vcmp_tot x).trans hx
/-! ## math/bits.Mul64 -/
def mul64_px (R : Type) : Px R := ⟨ttOf ttL, glT, callT [], callQT [], loopT []⟩
def mul64_body (x : HV [.int .u64, .int .u64]) : Option (HV [.int .u64, .int .u64]) := match x with
 | (a, b) =>
  some ((wr .u64 ((wr .u64 ((wr .u64 ((ishr .u64 a 32) * (ishr .u64 b 32))) + (ishr .u64 (wr .u64 ((wr .u64 ((ishr .u64 a 32) * (iand .u64 b 4294967295))) + (ishr .u64 (wr .u64 ((iand .u64 a 4294967295) * (iand .u64 b 4294967295))) 32))) 32))) + (ishr .u64 (wr .u64 ((iand .u64 (wr .u64 ((wr .u64 ((ishr .u64 a 32) * (iand .u64 b 4294967295))) + (ishr .u64 (wr .u64 ((iand .u64 a 4294967295) * (iand .u64 b 4294967295))) 32))) 4294967295) + (wr .u64 ((iand .u64 a 4294967295) * (ishr .u64 b 32))))) 32))), (wr .u64 (a * b)))
theorem mul64_eq : ∀ (x : HV [.int .u64, .int .u64]), runF (mul64_px _) Tryd.f69 [.int .u64, .int .u64] [.int .u64, .int .u64] x some = mul64_body x
  | (a, b) => by kernel_rfl
theorem mul64_run : FnOk Tryd.prog elT glT 69 [.int .u64, .int .u64] [.int .u64, .int .u64] (mul64_body) := by
  refine fnOk_run Tryd.func69 rfl (by kernel_rfl) follows (by kernel_rfl) (n := 0) (by kernel_rfl) (px := mul64_px _) (fun cx hP hel hgl => ?_) (mul64_eq)
  have hp0 : PxOk cx (mul64_px (HV [.int .u64, .int .u64])) := ⟨fun t => by rw [hP, hel]; exact tt_ok ttL_ok t, by rw [hgl]; rfl⟩
  have hc0 : CallOk cx (mul64_px (HV [.int .u64, .int .u64])) := callT_ok rfl cfs_nil
  have hq0 : CallQOk cx (mul64_px (HV [.int .u64, .int .u64])) := callQT_ok rfl cqfs_nil
  exact ⟨hp0, hc0, hq0, all0⟩
def mul64 (a : Int) (b : Int) : Int × Int :=
  ((wr .u64 ((wr .u64 ((wr .u64 ((ishr .u64 a 32) * (ishr .u64 b 32))) + (ishr .u64 (wr .u64 ((wr .u64 ((ishr .u64 a 32) * (iand .u64 b 4294967295))) + (ishr .u64 (wr .u64 ((iand .u64 a 4294967295) * (iand .u64 b 4294967295))) 32))) 32))) + (ishr .u64 (wr .u64 ((iand .u64 (wr .u64 ((wr .u64 ((ishr .u64 a 32) * (iand .u64 b 4294967295))) + (ishr .u64 (wr .u64 ((iand .u64 a 4294967295) * (iand .u64 b 4294967295))) 32))) 4294967295) + (wr .u64 ((iand .u64 a 4294967295) * (ishr .u64 b 32))))) 32))), (wr .u64 (a * b)))
theorem mul64_tot (x : HV [.int .u64, .int .u64]) : mul64_body x = some (mul64 x.1 x.2) := by
  first
    | exact rfl
    | simp only [mul64_body, mul64, cond_some]
def mul64_F : FT [.int .u64, .int .u64] [.int .u64, .int .u64] := fun x => some (mul64 x.1 x.2)
theorem mul64_ok : FnOk Tryd.prog elT glT 69 [.int .u64, .int .u64] [.int .u64, .int .u64] mul64_F := .fin0 mul64_run fun x _ _ hx => (mul64_tot x).trans hx
/-! ## exchequer/value.Mul -/
def vmul_px (R : Type) : Px R := ⟨ttOf ttL, glT, callT [(70, callOr [.int .i64] [.int .u64] vsize_F), (69, callOr [.int .u64, .int .u64] [.int .u64, .int .u64] mul64_F)], callQT [], loopT []⟩
def vmul_body (x : HV [.int .i64, .int .i64]) : Option (HV [.int .i64, .int .i64]) := match x with
 | (a, b) =>
  let j1 := fun (p3 : Bool) =>
   cond (p3) (
    some (0, 20)) (
    cond (!decide ((decide (a < 0)) = (decide (b < 0)))) (
     some ((wr .i64 (wr .u64 (0 - (mul64 (vsize a) (vsize b)).2))), 0)) (
     some ((wr .i64 ((mul64 (vsize a) (vsize b)).2)), 0)))
  let j := fun (p : Bool) =>
   cond (p) (
    j1 true) (
    cond (decide ((mul64 (vsize a) (vsize b)).2 = 9223372036854775808)) (
     j1 (!(!decide ((decide (a < 0)) = (decide (b < 0)))))) (
     j1 false))
  cond (decide (0 < (mul64 (vsize a) (vsize b)).1)) (
   j true) (
   j (decide (9223372036854775808 < (mul64 (vsize a) (vsize b)).2)))
theorem vmul_eq : ∀ (x : HV [.int .i64, .int .i64]), runF (vmul_px _) Tryd.f56 [.int .i64, .int .i64] [.int .i64, .int .i64] x some = vmul_body x
  | (a, b) => by kernel_rfl
theorem vmul_run : FnOk Tryd.prog elT glT 56 [.int .i64, .int .i64] [.int .i64, .int .i64] (vmul_body) := by
  refine fnOk_run Tryd.func56 rfl (by kernel_rfl) follows (by kernel_rfl) (n := 0) (by kernel_rfl) (px := vmul_px _) (fun cx hP hel hgl => ?_) (vmul_eq)
  have hp0 : PxOk cx (vmul_px (HV [.int .i64, .int .i64])) := ⟨fun t => by rw [hP, hel]; exact tt_ok ttL_ok t, by rw [hgl]; rfl⟩
  have hc0 : CallOk cx (vmul_px (HV [.int .i64, .int .i64])) := callT_ok rfl (cfs_cons (cf_or (by rw [hP, hel, hgl]; exact vsize_ok) (by kernel_rfl)) (cfs_cons (cf_or (by rw [hP, hel, hgl]; exact mul64_ok) (by kernel_rfl)) cfs_nil))
  have hq0 : CallQOk cx (vmul_px (HV [.int .i64, .int .i64])) := callQT_ok rfl cqfs_nil
  exact ⟨hp0, hc0, hq0, all0⟩
def vmul (a : Int) (b : Int) : Int × Int :=
  let j1 := fun (p3 : Bool) =>
   cond (p3) (
    (0, 20)) (
    cond (!decide ((decide (a < 0)) = (decide (b < 0)))) (
     ((wr .i64 (wr .u64 (0 - (mul64 (vsize a) (vsize b)).2))), 0)) (
     ((wr .i64 ((mul64 (vsize a) (vsize b)).2)), 0)))
  let j := fun (p : Bool) =>
   cond (p) (
    j1 true) (
    cond (decide ((mul64 (vsize a) (vsize b)).2 = 9223372036854775808)) (
     j1 (!(!decide ((decide (a < 0)) = (decide (b < 0)))))) (
     j1 false))
  cond (decide (0 < (mul64 (vsize a) (vsize b)).1)) (
   j true) (
   j (decide (9223372036854775808 < (mul64 (vsize a) (vsize b)).2)))
theorem vmul_tot (x : HV [.int .i64, .int .i64]) : vmul_body x = some (vmul x.1 x.2) := by
  first
    | exact rfl
    | simp only [vmul_body, vmul, cond_some]
def vmul_F : FT [.int .i64, .int .i64] [.int .i64, .int .i64] := fun x => some (vmul x.1 x.2)
theorem vmul_ok : FnOk Tryd.prog elT glT 56 [.int .i64, .int .i64] [.int .i64, .int .i64] vmul_F := .fin0 vmul_run fun x _ _ hx => (vmul_tot x).trans hx
/-! ## exchequer/reckon.sum -/
def rsum_px (R : Type) : Px R := ⟨ttOf ttL, glT, callT [(54, callOr [.int .i64, .int .i64] [.int .i64, .int .i64] vadd_F), (55, callOr [.int .i64, .int .i64] [.int .i64, .int .i64] vsub_F), (56, callOr [.int .i64, .int .i64] [.int .i64, .int .i64] vmul_F)], callQT [], loopT []⟩
def rsum_body (x : HV [.int .i64, .int .i64, .int .i64]) : Option (HV [.sv .val, .int .i64]) := match x with
 | (kind, a, b) =>
  cond (decide (kind = 12)) (
   cond (!decide ((vadd a b).2 = 0)) (
    some ((Val.mk 0 0 []), (vadd a b).2)) (
    some ((Val.mk 3 ((vadd a b).1) []), 0))) (
   cond (decide (kind = 13)) (
    cond (!decide ((vsub a b).2 = 0)) (
     some ((Val.mk 0 0 []), (vsub a b).2)) (
     some ((Val.mk 3 ((vsub a b).1) []), 0))) (
    cond (decide (kind = 14)) (
     cond (!decide ((vmul a b).2 = 0)) (
      some ((Val.mk 0 0 []), (vmul a b).2)) (
      some ((Val.mk 3 ((vmul a b).1) []), 0))) (
     cond (!decide ((vsub 0 a).2 = 0)) (
      some ((Val.mk 0 0 []), (vsub 0 a).2)) (
      some ((Val.mk 3 ((vsub 0 a).1) []), 0)))))
theorem rsum_eq : ∀ (x : HV [.int .i64, .int .i64, .int .i64]), runF (rsum_px _) Tryd.f39 [.int .i64, .int .i64, .int .i64] [.sv .val, .int .i64] x some = rsum_body x
  | (kind, a, b) => by kernel_rfl
theorem rsum_run : FnOk Tryd.prog elT glT 39 [.int .i64, .int .i64, .int .i64] [.sv .val, .int .i64] (rsum_body) := by
  refine fnOk_run Tryd.func39 rfl (by kernel_rfl) follows (by kernel_rfl) (n := 0) (by kernel_rfl) (px := rsum_px _) (fun cx hP hel hgl => ?_) (rsum_eq)
  have hp0 : PxOk cx (rsum_px (HV [.sv .val, .int .i64])) := ⟨fun t => by rw [hP, hel]; exact tt_ok ttL_ok t, by rw [hgl]; rfl⟩
  have hc0 : CallOk cx (rsum_px (HV [.sv .val, .int .i64])) := callT_ok rfl (cfs_cons (cf_or (by rw [hP, hel, hgl]; exact vadd_ok) (by kernel_rfl)) (cfs_cons (cf_or (by rw [hP, hel, hgl]; exact vsub_ok) (by kernel_rfl)) (cfs_cons (cf_or (by rw [hP, hel, hgl]; exact vmul_ok) (by kernel_rfl)) cfs_nil)))
  have hq0 : CallQOk cx (rsum_px (HV [.sv .val, .int .i64])) := callQT_ok rfl cqfs_nil
  exact ⟨hp0, hc0, hq0, all0⟩
def rsum (kind : Int) (a : Int) (b : Int) : Val × Int :=
  cond (decide (kind = 12)) (
   cond (!decide ((vadd a b).2 = 0)) (
    ((Val.mk 0 0 []), (vadd a b).2)) (
    ((Val.mk 3 ((vadd a b).1) []), 0))) (
   cond (decide (kind = 13)) (
    cond (!decide ((vsub a b).2 = 0)) (
     ((Val.mk 0 0 []), (vsub a b).2)) (
     ((Val.mk 3 ((vsub a b).1) []), 0))) (
    cond (decide (kind = 14)) (
     cond (!decide ((vmul a b).2 = 0)) (
      ((Val.mk 0 0 []), (vmul a b).2)) (
      ((Val.mk 3 ((vmul a b).1) []), 0))) (
     cond (!decide ((vsub 0 a).2 = 0)) (
      ((Val.mk 0 0 []), (vsub 0 a).2)) (
      ((Val.mk 3 ((vsub 0 a).1) []), 0)))))
theorem rsum_tot (x : HV [.int .i64, .int .i64, .int .i64]) : rsum_body x = some (rsum x.1 x.2.1 x.2.2) := by
  first
    | exact rfl
    | simp only [rsum_body, rsum, cond_some]
def rsum_F : FT [.int .i64, .int .i64, .int .i64] [.sv .val, .int .i64] := fun x => some (rsum x.1 x.2.1 x.2.2)
theorem rsum_ok : FnOk Tryd.prog elT glT 39 [.int .i64, .int .i64, .int .i64] [.sv .val, .int .i64] rsum_F := .fin0 rsum_run fun x _ _ hx => (rsum_tot x).trans hx
/-! ## exchequer/reckon.find -/
def find_0_sg : Sig := ⟨20, [(1, .str), (4, .int .i64), (7, .sl .col false), (8, .int .i64), (9, .int .i64)], [], [], 0, 0, 0, [], []⟩
abbrev find_0_V := Str × Int × List Col × Int × Int
def find_0 {R : Type} (rec : find_0_V → Option R) (kx : Ex → find_0_V → Option R) (v : find_0_V) : Option R := match v with
 | (v, v1, v2, v3, v4) =>
  cond (decide (v4 < v3)) (
   chk (inb v4 v2.length) (
    cond (decide (((at' .col v2 v4).name) = v)) (
     kx .ret (v, v4, v2, v3, v4)) (
     rec (v, v1, v2, v3, (wr .i64 (v4 + 1)))))) (
   kx (.exit 0) (v, v1, v2, v3, v4))
def find_px (R : Type) (k : Nat) : Px R := ⟨ttOf ttL, glT, callT [], callQT [], loopT [(2, loopOr k find_0_sg (find_0))]⟩
theorem find_0_eq (R : Type) (k : Nat) : ∀ (fr : List Fr) (rec : find_0_V → Option R) (kx : Ex → find_0_V → Option R) (v : find_0_V), round (find_px R k) find_0_sg (lp Tryd.f35 0) fr rec kx v = find_0 rec kx v
  | fr, rec, kx, (v, v1, v2, v3, v4) => by kernel_rfl
def find_body (k : Nat) (x : HV [.sl .col false, .str]) : Option (HV [.int .i64]) := match x with
 | (cols, name) =>
  iter (fun rec => find_0 rec (fun e v => match v with | (_, v6, _, _, _) => match e with
   | .ret =>
    some v6
   | .exit 0 =>
    some (-1)
   | _ => none)) k (name, 0, cols, (cols.length : Int), 0)
theorem find_eq (k : Nat) : ∀ (x : HV [.sl .col false, .str]), runF (find_px _ k) Tryd.f35 [.sl .col false, .str] [.int .i64] x some = find_body k x
  | (cols, name) => by kernel_rfl
theorem find_run (k : Nat) : FnOk Tryd.prog elT glT 35 [.sl .col false, .str] [.int .i64] (find_body k) := by
  refine fnOk_run Tryd.func35 rfl (by kernel_rfl) follows (by kernel_rfl) (n := 1) (by kernel_rfl) (px := find_px _ k) (fun cx hP hel hgl => ?_) (find_eq k)
  have hp0 : PxOk cx (find_px (HV [.int .i64]) k) := ⟨fun t => by rw [hP, hel]; exact tt_ok ttL_ok t, by rw [hgl]; rfl⟩
  have hc0 : CallOk cx (find_px (HV [.int .i64]) k) := callT_ok rfl cfs_nil
  have hq0 : CallQOk cx (find_px (HV [.int .i64]) k) := callQT_ok rfl cqfs_nil
  have hlfind_0 : LoopOk cx (find_px (HV [.int .i64]) k) (lp Tryd.f35 0) := loop_ok hp0 hc0 hq0 (by rw [hP]; exact follows) (k := k) (s := find_0_sg) (step := find_0) (fun _ _ => by kernel_rfl) (by kernel_rfl) (find_0_eq _ k) (loops_in (n := 0) (by kernel_rfl) all0)
  exact ⟨hp0, hc0, hq0, (allS all0 hlfind_0)⟩
def findFrom : List Col → Str → Nat → Int
  | [], _, _ => -1
  | c :: l, s, i => if c.name = s then (i : Int) else findFrom l s (i + 1)
def find (cols : List Col) (name : Str) : Int := findFrom cols name 0
def find_F : FT [.sl .col false, .str] [.int .i64] := fun x => some (find x.1 x.2)
theorem find_loop {R : Type} {kx : Ex → find_0_V → Option R} {s : Str} {cols : List Col} {g : Int → Option R} (hn : ln cols.length) (h1 : ∀ j, kx .ret (s, j, cols, (cols.length : Int), j) = g j) (h2 : ∀ q j, kx (.exit 0) (s, q, cols, (cols.length : Int), j) = g (-1)) : ∀ (k i : Nat) q, i ≤ cols.length → cols.length - i < k → iter (fun rec => find_0 rec kx) k (s, q, cols, (cols.length : Int), (i : Int)) = g (findFrom (cols.drop i) s i)
  | 0, i, q, _, h => by omega
  | k + 1, i, q, hi, h => by
    rw [iter_s]
    by_cases hl : i < cols.length
    · have ih := find_loop hn h1 h2 k (i + 1) q (by omega) (by omega)
      simp only [find_0, wr_succ hl hn, ih, h1, drop_cons hl, at_nat (c := .col) hl, inb_t hl, chk, cond_t, Bool.cond_decide, findFrom]
      rw [if_pos (by omega)]
      split <;> rfl
    · simp only [find_0, h2, Bool.cond_decide]
      rw [if_neg (by omega), List.drop_eq_nil_of_le (by omega)]
      rfl
theorem find_ok : FnOk Tryd.prog elT glT 35 [.sl .col false, .str] [.int .i64] find_F := .fin 0 find_run fun (cols, s) r hb hx => ⟨cols.length + 1, by
  simp only [find_body]
  refine (find_loop (g := some) hb.1.1 ?_ ?_ (cols.length + 1) 0 0 (Nat.zero_le _) (by omega)).trans hx
  · exact fun _ => rfl
  · exact fun _ _ => rfl⟩
/-! ## exchequer/reckon.Fits -/
def rowfits_0_sg : Sig := ⟨28, [(1, .sl .val false), (4, .bool), (12, .sl .col false), (13, .int .i64), (14, .int .i64)], [], [], 0, 0, 0, [], []⟩
abbrev rowfits_0_V := List Val × Bool × List Col × Int × Int
def rowfits_0 {R : Type} (rec : rowfits_0_V → Option R) (kx : Ex → rowfits_0_V → Option R) (v : rowfits_0_V) : Option R := match v with
 | (v, v1, v2, v3, v4) =>
  cond (decide (v4 < v3)) (
   chk (inb v4 v2.length) (
    chk (inb v4 v.length) (
     cond (!(vfits (at' .val v v4) ((at' .col v2 v4).kind))) (
      kx .ret (v, false, v2, v3, v4)) (
      rec (v, v1, v2, v3, (wr .i64 (v4 + 1))))))) (
   kx (.exit 0) (v, v1, v2, v3, v4))
def rowfits_px (R : Type) (k : Nat) : Px R := ⟨ttOf ttL, glT, callT [], callQT [(33, callOrQ [.sv .val, .int .i64] [.bool] vfits_F)], loopT [(4, loopOr k rowfits_0_sg (rowfits_0))]⟩
theorem rowfits_0_eq (R : Type) (k : Nat) : ∀ (fr : List Fr) (rec : rowfits_0_V → Option R) (kx : Ex → rowfits_0_V → Option R) (v : rowfits_0_V), round (rowfits_px R k) rowfits_0_sg (lp Tryd.f17 0) fr rec kx v = rowfits_0 rec kx v
  | fr, rec, kx, (v, v1, v2, v3, v4) => by kernel_rfl
def rowfits_body (k : Nat) (x : HV [.sl .col false, .sl .val false]) : Option (HV [.bool]) := match x with
 | (cols, row) =>
  cond (!decide ((cols.length : Int) = (row.length : Int))) (
   some false) (
   iter (fun rec => rowfits_0 rec (fun e v => match v with | (_, v6, _, _, _) => match e with
    | .ret =>
     some v6
    | .exit 0 =>
     some true
    | _ => none)) k (row, false, cols, (cols.length : Int), 0))
theorem rowfits_eq (k : Nat) : ∀ (x : HV [.sl .col false, .sl .val false]), runF (rowfits_px _ k) Tryd.f17 [.sl .col false, .sl .val false] [.bool] x some = rowfits_body k x
  | (cols, row) => by kernel_rfl
theorem rowfits_run (k : Nat) : FnOk Tryd.prog elT glT 17 [.sl .col false, .sl .val false] [.bool] (rowfits_body k) := by
  refine fnOk_run Tryd.func17 rfl (by kernel_rfl) follows (by kernel_rfl) (n := 1) (by kernel_rfl) (px := rowfits_px _ k) (fun cx hP hel hgl => ?_) (rowfits_eq k)
  have hp0 : PxOk cx (rowfits_px (HV [.bool]) k) := ⟨fun t => by rw [hP, hel]; exact tt_ok ttL_ok t, by rw [hgl]; rfl⟩
  have hc0 : CallOk cx (rowfits_px (HV [.bool]) k) := callT_ok rfl cfs_nil
  have hq0 : CallQOk cx (rowfits_px (HV [.bool]) k) := callQT_ok rfl (cqfs_cons (cqf_or (by rw [hP, hel, hgl]; exact vfits_ok) (by kernel_rfl)) cqfs_nil)
  have hlrowfits_0 : LoopOk cx (rowfits_px (HV [.bool]) k) (lp Tryd.f17 0) := loop_ok hp0 hc0 hq0 (by rw [hP]; exact follows) (k := k) (s := rowfits_0_sg) (step := rowfits_0) (fun _ _ => by kernel_rfl) (by kernel_rfl) (rowfits_0_eq _ k) (loops_in (n := 0) (by kernel_rfl) all0)
  exact ⟨hp0, hc0, hq0, (allS all0 hlrowfits_0)⟩
def allFit : List Col → List Val → Bool
  | [], [] => true
  | c :: cs, v :: vs => vfits v c.kind && allFit cs vs
  | _, _ => false
def rowfits (cols : List Col) (row : List Val) : Bool := allFit cols row
def rowfits_F : FT [.sl .col false, .sl .val false] [.bool] := fun x => some (rowfits x.1 x.2)
theorem allFit_len : ∀ {cols : List Col} {row : List Val}, allFit cols row = true → cols.length = row.length
  | [], [], _ => rfl
  | _ :: cs, _ :: vs, h => by
    simp only [allFit, Bool.and_eq_true] at h
    simp [allFit_len h.2]
  | [], _ :: _, h => by simp [allFit] at h
  | _ :: _, [], h => by simp [allFit] at h
theorem rowfits_loop {R : Type} {kx : Ex → rowfits_0_V → Option R} {row : List Val} {cols : List Col} {a b : Option R} (hn : ln cols.length) (he : cols.length = row.length) (h1 : ∀ j, kx .ret (row, false, cols, (cols.length : Int), j) = a) (h2 : ∀ q j, kx (.exit 0) (row, q, cols, (cols.length : Int), j) = b) : ∀ (k i : Nat) q, i ≤ cols.length → cols.length - i < k → iter (fun rec => rowfits_0 rec kx) k (row, q, cols, (cols.length : Int), (i : Int)) = cond (allFit (cols.drop i) (row.drop i)) b a
  | 0, i, q, _, h => by omega
  | k + 1, i, q, hi, h => by
    rw [iter_s]
    by_cases hl : i < cols.length
    · have ih := rowfits_loop hn he h1 h2 k (i + 1) q (by omega) (by omega)
      have hl2 : i < row.length := by omega
      simp only [rowfits_0, wr_succ hl hn, ih, h1, drop_cons hl, drop_cons hl2, at_nat (c := .col) hl, at_nat (c := .val) hl2, inb_t hl, inb_t hl2, chk, cond_t, Bool.cond_decide, allFit]
      rw [if_pos (by omega)]
      cases vfits row[i] cols[i].kind <;> rfl
    · simp only [rowfits_0, h2, Bool.cond_decide]
      rw [if_neg (by omega), List.drop_eq_nil_of_le (by omega), List.drop_eq_nil_of_le (by omega)]
      rfl
theorem rowfits_ok : FnOk Tryd.prog elT glT 17 [.sl .col false, .sl .val false] [.bool] rowfits_F := .fin 0 rowfits_run fun (cols, row) r hb hx => ⟨cols.length + 1, by
  simp only [rowfits_F, Option.some.injEq, rowfits] at hx
  simp only [rowfits_body]
  by_cases he : cols.length = row.length
  · rw [decide_eq_true (by omega)]
    simp only [Bool.not_true, cond_f]
    refine (rowfits_loop (a := some false) (b := some true) hb.1.1 he ?_ ?_ (cols.length + 1) 0 false (Nat.zero_le _) (by omega)).trans ?_
    · exact fun _ => rfl
    · exact fun _ _ => rfl
    · rw [← hx]
      simp only [List.drop_zero]
      cases allFit cols row <;> rfl
  · rw [decide_eq_false (by omega)]
    have : allFit cols row = false := by
      cases hf : allFit cols row with
      | false => rfl
      | true => exact absurd (allFit_len hf) he
    rw [← hx, this]
    rfl⟩
/-! ## exchequer/reckon.logic -/
def logic_0_sg : Sig := ⟨34, [(0, .int .i64), (6, .bool), (12, .sl .val false), (13, .int .i64), (14, .int .i64)], [(4, .ptr 0 0), (5, .ptr 1 0)], [(0, .one (.sv .val)), (1, .one (.sv .val))], 2, 0, 0, [], []⟩
abbrev logic_0_V := Int × Bool × List Val × Int × Int × Val × Val
def logic_0 {R : Type} (rec : logic_0_V → Option R) (kx : Ex → logic_0_V → Option R) (v : logic_0_V) : Option R := match v with
 | (v, v1, v2, v3, v4, w, w1) =>
  cond (decide (v4 < v3)) (
   chk (inb v4 v2.length) (
    cond (decide ((at' .val v2 v4) = w1)) (
     kx .ret (v, v1, v2, v3, v4, w1, w1)) (
     cond (v1) (
      rec (v, true, v2, v3, (wr .i64 (v4 + 1)), w, w1)) (
      rec (v, decide ((at' .val v2 v4).kind = 1), v2, v3, (wr .i64 (v4 + 1)), w, w1))))) (
   kx (.exit 0) (v, v1, v2, v3, v4, w, w1))
def logic_px (R : Type) (k : Nat) : Px R := ⟨ttOf ttL, glT, callT [(32, callOr [.bool] [.sv .val] truth_F)], callQT [], loopT [(4, loopOr k logic_0_sg (logic_0))]⟩
theorem logic_0_eq (R : Type) (k : Nat) : ∀ (fr : List Fr) (rec : logic_0_V → Option R) (kx : Ex → logic_0_V → Option R) (v : logic_0_V), round (logic_px R k) logic_0_sg (lp Tryd.f38 0) fr rec kx v = logic_0 rec kx v
  | fr, rec, kx, (v, v1, v2, v3, v4, w, w1) => by kernel_rfl
def logic_body (k : Nat) (x : HV [.int .i64, .sl .val false]) : Option (HV [.sv .val]) := match x with
 | (kind, l) =>
  iter (fun rec => logic_0 rec (fun e v => match v with | (v5, v6, _, _, _, v10, _) => match e with
   | .ret =>
    some v10
   | .exit 0 =>
    cond (v6) (
     some (Val.mk 1 0 [])) (
     some (truth (!decide (v5 = 5))))
   | _ => none)) k (kind, false, l, (l.length : Int), 0, (Val.mk 0 0 []), (truth (decide (kind = 5))))
theorem logic_eq (k : Nat) : ∀ (x : HV [.int .i64, .sl .val false]), runF (logic_px _ k) Tryd.f38 [.int .i64, .sl .val false] [.sv .val] x some = logic_body k x
  | (kind, l) => by kernel_rfl
theorem logic_run (k : Nat) : FnOk Tryd.prog elT glT 38 [.int .i64, .sl .val false] [.sv .val] (logic_body k) := by
  refine fnOk_run Tryd.func38 rfl (by kernel_rfl) follows (by kernel_rfl) (n := 1) (by kernel_rfl) (px := logic_px _ k) (fun cx hP hel hgl => ?_) (logic_eq k)
  have hp0 : PxOk cx (logic_px (HV [.sv .val]) k) := ⟨fun t => by rw [hP, hel]; exact tt_ok ttL_ok t, by rw [hgl]; rfl⟩
  have hc0 : CallOk cx (logic_px (HV [.sv .val]) k) := callT_ok rfl (cfs_cons (cf_or (by rw [hP, hel, hgl]; exact truth_ok) (by kernel_rfl)) cfs_nil)
  have hq0 : CallQOk cx (logic_px (HV [.sv .val]) k) := callQT_ok rfl cqfs_nil
  have hllogic_0 : LoopOk cx (logic_px (HV [.sv .val]) k) (lp Tryd.f38 0) := loop_ok hp0 hc0 hq0 (by rw [hP]; exact follows) (k := k) (s := logic_0_sg) (step := logic_0) (fun _ _ => by kernel_rfl) (by kernel_rfl) (logic_0_eq _ k) (loops_in (n := 0) (by kernel_rfl) all0)
  exact ⟨hp0, hc0, hq0, (allS all0 hllogic_0)⟩
def isNull (v : Val) : Bool := decide (v.kind = 1)
def logic (kind : Int) (l : List Val) : Val := cond (l.any fun v => decide (v = truth (decide (kind = 5)))) (truth (decide (kind = 5))) (cond (l.any isNull) ⟨1, 0, []⟩ (truth (!decide (kind = 5))))
def logic_F : FT [.int .i64, .sl .val false] [.sv .val] := fun x => some (logic x.1 x.2)
theorem logic_loop {R : Type} {kx : Ex → logic_0_V → Option R} {kd : Int} {l : List Val} {e : Val} {a : Option R} {b : Bool → Option R} (hn : ln l.length) (h1 : ∀ q j, kx .ret (kd, q, l, (l.length : Int), j, e, e) = a) (h2 : ∀ q j z, kx (.exit 0) (kd, q, l, (l.length : Int), j, z, e) = b q) : ∀ (k i : Nat) (u : Bool) z, i ≤ l.length → l.length - i < k → iter (fun rec => logic_0 rec kx) k (kd, u, l, (l.length : Int), (i : Int), z, e) = cond ((l.drop i).any fun v => decide (v = e)) a (b (u || (l.drop i).any isNull))
  | 0, i, u, z, _, h => by omega
  | k + 1, i, u, z, hi, h => by
    rw [iter_s]
    by_cases hl : i < l.length
    · have ih := fun u => logic_loop hn h1 h2 k (i + 1) u z (by omega) (by omega)
      simp only [logic_0, wr_succ hl hn, ih, h1, drop_cons hl, at_nat (c := .val) hl, inb_t hl, chk, cond_t, Bool.cond_decide, List.any_cons]
      rw [if_pos (by omega)]
      by_cases he : l[i] = e
      · rw [if_pos he, decide_eq_true he]; rfl
      · rw [if_neg he, decide_eq_false he]
        cases u <;> simp [isNull]
    · simp only [logic_0, h2, Bool.cond_decide]
      rw [if_neg (by omega), List.drop_eq_nil_of_le (by omega)]
      simp
theorem logic_ok : FnOk Tryd.prog elT glT 38 [.int .i64, .sl .val false] [.sv .val] logic_F := .fin 0 logic_run fun (kd, l) r hb hx => ⟨l.length + 1, by
  simp only [logic_F, Option.some.injEq, logic] at hx
  simp only [logic_body]
  refine (logic_loop (a := some (truth (decide (kd = 5)))) (b := fun q => cond q (some ⟨1, 0, []⟩) (some (truth (!decide (kd = 5))))) hb.2.1 ?_ ?_ (l.length + 1) 0 false _ (Nat.zero_le _) (by omega)).trans ?_
  · exact fun _ _ => rfl
  · exact fun _ _ _ => rfl
  rw [← hx]
  simp only [List.drop_zero, Bool.false_or]
  cases (l.any fun v => decide (v = truth (decide (kd = 5)))) <;> cases l.any isNull <;> rfl⟩
/-! ## exchequer/lex.Name -/
def lname_0_sg : Sig := ⟨21, [(0, .str), (1, .int .i64)], [(2, .fn 66 [])], [], 40, 40, 200, [], []⟩
abbrev lname_0_V := Str × Int
def lname_0 {R : Type} (rec : lname_0_V → Option R) (kx : Ex → lname_0_V → Option R) (v : lname_0_V) : Option R := match v with
 | (v, v1) =>
  cond (decide (v1 < (v.length : Int))) (
   chk (inb v1 v.length) (
    cond ((inner (bat v v1))) (
     rec (v, (wr .i64 (v1 + 1)))) (
     kx (.exit 0) (v, v1)))) (
   kx (.exit 0) (v, v1))
def lname_pxi0 (R : Type) (k : Nat) : Px R := ⟨ttOf ttL, glT, callT [(66, callOr [.int .u8] [.bool] inner_F)], callQT [], loopT [(1, loopOr k lname_0_sg (lname_0))]⟩
noncomputable def lname_px (R : Type) (k : Nat) : Px R := ⟨ttOf ttL, glT, callT [(64, callOr [.int .u8] [.bool] lower_F), (65, callRun 40 200 (lname_pxi0 R k) Tryd.f65)], callQT [], loopT []⟩
theorem lname_0_eq (R : Type) (k : Nat) : ∀ (fr : List Fr) (rec : lname_0_V → Option R) (kx : Ex → lname_0_V → Option R) (v : lname_0_V), round (lname_pxi0 R k) lname_0_sg (lp Tryd.f65 0) fr rec kx v = lname_0 rec kx v
  | fr, rec, kx, (v, v1) => by kernel_rfl
def lname_body (k : Nat) (x : HV [.str]) : Option (HV [.bool]) := match x with
 | s =>
  let j1 := fun (p : Bool) =>
   let j := fun (p1 : Bool) =>
    cond (p1) (
     iter (fun rec => lname_0 rec (fun e v => match v with | (_, v3) => match e with
      | .exit 0 =>
       some (decide (v3 = (s.length : Int)))
      | _ => none)) k (s, 0)) (
     some false)
   cond (p) (
    chk (inb 0 s.length) (
     j (lower (bat s 0)))) (
    j false)
  cond (!decide (s = [])) (
   j1 (decide ((s.length : Int) ≤ 30))) (
   j1 false)
theorem lname_eq (k : Nat) : ∀ (x : HV [.str]), runF (lname_px _ k) Tryd.f49 [.str] [.bool] x some = lname_body k x
  | s => by kernel_rfl
theorem lname_run (k : Nat) : FnOk Tryd.prog elT glT 49 [.str] [.bool] (lname_body k) := by
  refine fnOk_run Tryd.func49 rfl (by kernel_rfl) follows (by kernel_rfl) (n := 0) (by kernel_rfl) (px := lname_px _ k) (fun cx hP hel hgl => ?_) (lname_eq k)
  have hp1 : PxOk cx (lname_pxi0 (HV [.bool]) k) := ⟨fun t => by rw [hP, hel]; exact tt_ok ttL_ok t, by rw [hgl]; rfl⟩
  have hc1 : CallOk cx (lname_pxi0 (HV [.bool]) k) := callT_ok rfl (cfs_cons (cf_or (by rw [hP, hel, hgl]; exact inner_ok) (by kernel_rfl)) cfs_nil)
  have hq1 : CallQOk cx (lname_pxi0 (HV [.bool]) k) := callQT_ok rfl cqfs_nil
  have hllname_0 : LoopOk cx (lname_pxi0 (HV [.bool]) k) (lp Tryd.f65 0) := loop_ok hp1 hc1 hq1 (by rw [hP]; exact follows) (k := k) (s := lname_0_sg) (step := lname_0) (fun _ _ => by kernel_rfl) (by kernel_rfl) (lname_0_eq _ k) (loops_in (n := 0) (by kernel_rfl) all0)
  have hp0 : PxOk cx (lname_px (HV [.bool]) k) := ⟨fun t => by rw [hP, hel]; exact tt_ok ttL_ok t, by rw [hgl]; rfl⟩
  have hc0 : CallOk cx (lname_px (HV [.bool]) k) := callT_ok rfl (cfs_cons (cf_or (by rw [hP, hel, hgl]; exact lower_ok) (by kernel_rfl)) (cfs_cons (cf_run hp1 hc1 hq1 (by rw [hP]; exact follows) (by rw [hP]; exact Tryd.func65) rfl (by kernel_rfl) (by kernel_rfl) (n := 1) (by kernel_rfl) ((allS all0 hllname_0))) cfs_nil))
  have hq0 : CallQOk cx (lname_px (HV [.bool]) k) := callQT_ok rfl cqfs_nil
  exact ⟨hp0, hc0, hq0, all0⟩
def innerB (b : UInt8) : Bool := inner (b.toNat : Int)
def lname (s : Str) : Bool := match s with
  | [] => false
  | b :: l => decide ((b :: l).length ≤ 30) && lower (b.toNat : Int) && (b :: l).all innerB
def lname_F : FT [.str] [.bool] := fun x => some (lname x)
theorem lname_loop {R : Type} {kx : Ex → lname_0_V → Option R} {s : Str} {a b : Option R} (hn : ln s.length) (h1 : ∀ j : Nat, j < s.length → kx (.exit 0) (s, (j : Int)) = a) (h2 : kx (.exit 0) (s, (s.length : Int)) = b) : ∀ (k i : Nat), i ≤ s.length → s.length - i < k → iter (fun rec => lname_0 rec kx) k (s, (i : Int)) = cond ((s.drop i).all innerB) b a
  | 0, i, _, h => by omega
  | k + 1, i, hi, h => by
    rw [iter_s]
    by_cases hl : i < s.length
    · have ih := lname_loop hn h1 h2 k (i + 1) (by omega) (by omega)
      simp only [lname_0, wr_succ hl hn, ih, h1 i hl, drop_cons hl, bat_nat hl, inb_t hl, chk, cond_t, Bool.cond_decide, List.all_cons, innerB]
      rw [if_pos (by omega)]
      cases inner (s[i].toNat : Int) <;> rfl
    · obtain rfl : i = s.length := by omega
      simp only [lname_0, h2, Bool.cond_decide]
      rw [if_neg (by omega), List.drop_eq_nil_of_le (by omega)]
      rfl
theorem lname_ok : FnOk Tryd.prog elT glT 49 [.str] [.bool] lname_F := .fin 0 lname_run fun s r hb hx => ⟨s.length + 1, by
  simp only [lname_F, Option.some.injEq] at hx
  simp only [lname_body]
  cases s with
  | nil => rw [← hx]; rfl
  | cons b l =>
    rw [decide_eq_false (by simp)]
    simp only [Bool.not_false, cond_t]
    have hl : ((b :: l).length : Int) ≤ 30 ↔ (b :: l).length ≤ 30 := by omega
    simp only [lname, hl] at hx ⊢
    by_cases h30 : (b :: l).length ≤ 30
    · rw [decide_eq_true h30] at hx ⊢
      simp only [cond_t, chk, Bool.true_and] at hx ⊢
      have e0 : bat (b :: l) 0 = (b.toNat : Int) := rfl
      have e1 : inb 0 (b :: l).length = true := inb_t (i := 0) (by simp)
      rw [e0, e1]
      cases hlo : lower (b.toNat : Int) with
      | false => rw [hlo] at hx; rw [← hx]; rfl
      | true =>
        rw [hlo] at hx
        refine (lname_loop (s := b :: l) (a := some false) (b := some true) hb (fun j hj => ?_) ?_ ((b :: l).length + 1) 0 (Nat.zero_le _) (by omega)).trans ?_
        · show some (decide _) = _
          rw [decide_eq_false (by omega)]
        · show some (decide _) = _
          rw [decide_eq_true rfl]
        · rw [← hx]
          simp only [List.drop_zero, Bool.true_and]
          cases (b :: l).all innerB <;> rfl
    · rw [decide_eq_false h30] at hx ⊢
      rw [← hx]
      rfl⟩
end Go.Proofs.YtlhebakbbfmiiaaDoor

/- Functions that call themselves: whether an expression may be, its kind, its value, how much there is in it. -/
namespace Go.Proofs.YtlhebakbbfmiiaaDoor
open Go.Ax
mutual
def esize : Xpr → Nat
  | .mk _ _ _ l => 1 + esizes l
def esizes : List Xpr → Nat
  | [] => 0
  | x :: l => 1 + esize x + esizes l
end
theorem esize_mem : ∀ {l : List Xpr} {x : Xpr}, x ∈ l → esize x < esizes l
  | y :: l, x, h => by
    simp only [List.mem_cons] at h
    simp only [esizes]
    rcases h with rfl | h
    · omega
    · have := esize_mem h; omega
theorem esizes_len : ∀ (l : List Xpr), l.length ≤ esizes l
  | [] => by simp
  | x :: l => by have := esizes_len l; simp only [esizes, List.length_cons]; omega
theorem esize_pos (e : Xpr) : 0 < esize e := by cases e; simp only [esize]; omega
theorem expr_eta (e : Xpr) : Xpr.mk e.kind ⟨e.v.kind, e.v.n, e.v.s⟩ e.name e.l = e := by cases e; rfl
theorem esize_eq (e : Xpr) : esize e = 1 + esizes e.l := by cases e; simp only [esize, Xpr.l]
theorem bd_ls {e : Xpr} (h : BdExpr e) : ln e.l.length ∧ ∀ x, x ∈ e.l → BdExpr x := by
  obtain ⟨_, _, _, _, _, _, _, h4, h5⟩ := h
  exact ⟨h4, h5⟩
theorem bd_v {e : Xpr} (h : BdExpr e) : BdVal e.v ∧ inI e.kind ∧ ln e.name.length := by
  obtain ⟨_, _, _, _, h1, h2, h3, _, _⟩ := h
  exact ⟨h2, h1, h3⟩
/-! ## may it be? -/
/-! ## exchequer/ast.right -/
def eright_0_sg : Sig := ⟨19, [(0, .sl .expr false), (4, .int .i64), (7, .int .i64), (8, .int .i64)], [(1, .fn 51 [.ptr 1 0])], [(1, .cells [.int .i64])], 80, 80, 400, [], []⟩
abbrev eright_0_V := List Xpr × Int × Int × Int × Int
def eright_0 {R : Type} (rf : FT [.sv .expr, .int .i64] [.bool]) (rec : eright_0_V → Option R) (kx : Ex → eright_0_V → Option R) (v : eright_0_V) : Option R := match v with
 | (v, v1, v2, v3, w) =>
  cond (decide (v3 < v2)) (
   chk (inb v3 v.length) (
    (rf ((at' .expr v v3), (wr .i64 (w - 1)))).bind fun x =>
     cond (!x) (
      kx .ret (v, v3, v2, v3, w)) (
      rec (v, v1, v2, (wr .i64 (v3 + 1)), w)))) (
   kx (.exit 0) (v, v1, v2, v3, w))
def eright_pxi0i0i0 (R : Type) (_k : Nat) (rf : FT [.sv .expr, .int .i64] [.bool]) : Px R := ⟨ttOf ttL, glT, callT [(34, callOr [.sv .expr, .int .i64] [.bool] rf)], callQT [], loopT []⟩
noncomputable def eright_pxi0i0 (R : Type) (k : Nat) (rf : FT [.sv .expr, .int .i64] [.bool]) : Px R := ⟨ttOf ttL, glT, callT [(51, callRun 120 600 (eright_pxi0i0i0 R k rf) Tryd.f51)], callQT [], loopT [(2, loopOr k eright_0_sg (eright_0 rf))]⟩
noncomputable def eright_pxi0 (R : Type) (k : Nat) (rf : FT [.sv .expr, .int .i64] [.bool]) : Px R := ⟨ttOf ttL, glT, callT [(67, callRun 80 400 (eright_pxi0i0 R k rf) Tryd.f67)], callQT [], loopT []⟩
noncomputable def eright_px (R : Type) (k : Nat) (rf : FT [.sv .expr, .int .i64] [.bool]) : Px R := ⟨ttOf ttL, glT, callT [(48, callOr [.sv .val] [.int .i64] vcheck_F), (49, callOr [.str] [.bool] lname_F), (50, callRun 40 200 (eright_pxi0 R k rf) Tryd.f50)], callQT [(47, callOrQ [.int .i64] [.int .i64] parts_F)], loopT []⟩
theorem eright_0_eq (R : Type) (k : Nat) (rf : FT [.sv .expr, .int .i64] [.bool]) : ∀ (fr : List Fr) (rec : eright_0_V → Option R) (kx : Ex → eright_0_V → Option R) (v : eright_0_V), round (eright_pxi0i0 R k rf) eright_0_sg (lp Tryd.f67 0) fr rec kx v = eright_0 rf rec kx v
  | fr, rec, kx, (v, v1, v2, v3, w) => by kernel_rfl
def eright_body (k : Nat) (rf : FT [.sv .expr, .int .i64] [.bool]) (x : HV [.sv .expr, .int .i64]) : Option (HV [.bool]) := match x with
 | (e, most) =>
  cond (decide (most = 0)) (
   some false) (
   cond (!decide ((e.l.length : Int) = (parts e.kind))) (
    some false) (
    let j2 := fun (_ : Unit) =>
     let j1 := fun (_ : Unit) =>
      iter (fun rec => eright_0 rf rec (fun e v => match v with | (_, v5, _, _, _) => match e with
       | .ret =>
        some (!(decide (0 ≤ v5)))
       | .exit 0 =>
        some true
       | _ => none)) k (e.l, 0, (e.l.length : Int), 0, most)
     let j := fun (p5 : Bool) =>
      cond (p5) (
       some false) (
       cond (!decide (e.kind = 2)) (
        cond (!decide (e.name = [])) (
         some false) (
         j1 ())) (
        j1 ()))
     cond (decide (e.kind = 2)) (
      j (!(lname e.name))) (
      j false)
    cond (decide (e.kind = 1)) (
     cond (!decide ((vcheck e.v) = 0)) (
      some false) (
      cond (decide (e.v.kind = 3)) (
       cond (decide (e.v.n < 0)) (
        some false) (
        j2 ())) (
       j2 ()))) (
     cond (!decide (e.v = (Val.mk 0 0 []))) (
      some false) (
      j2 ()))))
theorem eright_eq (k : Nat) (rf : FT [.sv .expr, .int .i64] [.bool]) : ∀ (x : HV [.sv .expr, .int .i64]), runF (eright_px _ k rf) Tryd.f34 [.sv .expr, .int .i64] [.bool] x some = eright_body k rf x
  | (e, most) => by kernel_rfl
theorem eright_run (k : Nat) (rf : FT [.sv .expr, .int .i64] [.bool]) (hrf : FnOk Tryd.prog elT glT 34 [.sv .expr, .int .i64] [.bool] rf) : FnOk Tryd.prog elT glT 34 [.sv .expr, .int .i64] [.bool] (eright_body k rf) := by
  refine fnOk_run Tryd.func34 rfl (by kernel_rfl) follows (by kernel_rfl) (n := 0) (by kernel_rfl) (px := eright_px _ k rf) (fun cx hP hel hgl => ?_) (eright_eq k rf)
  have hp3 : PxOk cx (eright_pxi0i0i0 (HV [.bool]) k rf) := ⟨fun t => by rw [hP, hel]; exact tt_ok ttL_ok t, by rw [hgl]; rfl⟩
  have hc3 : CallOk cx (eright_pxi0i0i0 (HV [.bool]) k rf) := callT_ok rfl (cfs_cons (cf_or (by rw [hP, hel, hgl]; exact hrf) (by kernel_rfl)) cfs_nil)
  have hq3 : CallQOk cx (eright_pxi0i0i0 (HV [.bool]) k rf) := callQT_ok rfl cqfs_nil
  have hp2 : PxOk cx (eright_pxi0i0 (HV [.bool]) k rf) := ⟨fun t => by rw [hP, hel]; exact tt_ok ttL_ok t, by rw [hgl]; rfl⟩
  have hc2 : CallOk cx (eright_pxi0i0 (HV [.bool]) k rf) := callT_ok rfl (cfs_cons (cf_run hp3 hc3 hq3 (by rw [hP]; exact follows) (by rw [hP]; exact Tryd.func51) rfl (by kernel_rfl) (by kernel_rfl) (n := 0) (by kernel_rfl) (all0)) cfs_nil)
  have hq2 : CallQOk cx (eright_pxi0i0 (HV [.bool]) k rf) := callQT_ok rfl cqfs_nil
  have hleright_0 : LoopOk cx (eright_pxi0i0 (HV [.bool]) k rf) (lp Tryd.f67 0) := loop_ok hp2 hc2 hq2 (by rw [hP]; exact follows) (k := k) (s := eright_0_sg) (step := eright_0 rf) (fun _ _ => by kernel_rfl) (by kernel_rfl) (eright_0_eq _ k rf) (loops_in (n := 0) (by kernel_rfl) all0)
  have hp1 : PxOk cx (eright_pxi0 (HV [.bool]) k rf) := ⟨fun t => by rw [hP, hel]; exact tt_ok ttL_ok t, by rw [hgl]; rfl⟩
  have hc1 : CallOk cx (eright_pxi0 (HV [.bool]) k rf) := callT_ok rfl (cfs_cons (cf_run hp2 hc2 hq2 (by rw [hP]; exact follows) (by rw [hP]; exact Tryd.func67) rfl (by kernel_rfl) (by kernel_rfl) (n := 1) (by kernel_rfl) ((allS all0 hleright_0))) cfs_nil)
  have hq1 : CallQOk cx (eright_pxi0 (HV [.bool]) k rf) := callQT_ok rfl cqfs_nil
  have hp0 : PxOk cx (eright_px (HV [.bool]) k rf) := ⟨fun t => by rw [hP, hel]; exact tt_ok ttL_ok t, by rw [hgl]; rfl⟩
  have hc0 : CallOk cx (eright_px (HV [.bool]) k rf) := callT_ok rfl (cfs_cons (cf_or (by rw [hP, hel, hgl]; exact vcheck_ok) (by kernel_rfl)) (cfs_cons (cf_or (by rw [hP, hel, hgl]; exact lname_ok) (by kernel_rfl)) (cfs_cons (cf_run hp1 hc1 hq1 (by rw [hP]; exact follows) (by rw [hP]; exact Tryd.func50) rfl (by kernel_rfl) (by kernel_rfl) (n := 0) (by kernel_rfl) (all0)) cfs_nil)))
  have hq0 : CallQOk cx (eright_px (HV [.bool]) k rf) := callQT_ok rfl (cqfs_cons (cqf_or (by rw [hP, hel, hgl]; exact parts_ok) (by kernel_rfl)) cqfs_nil)
  exact ⟨hp0, hc0, hq0, all0⟩
def eok (k : Int) (v : Val) (nm : Str) : Bool := cond (decide (k = 1)) (decide (vcheck v = 0) && !(decide (v.kind = 3) && decide (v.n < 0))) (decide (v = ⟨0, 0, []⟩)) && cond (decide (k = 2)) (lname nm) (decide (nm = []))
mutual
def eright : Xpr → Int → Bool
  | .mk k v nm l, m => !decide (m = 0) && decide ((l.length : Int) = parts k) && eok k v nm && erights l (wr .i64 (m - 1))
def erights : List Xpr → Int → Bool
  | [], _ => true
  | x :: l, m => eright x m && erights l m
end
def eright_F : FT [.sv .expr, .int .i64] [.bool] := fun x => some (eright x.1 x.2)
theorem eright_loop {R : Type} {rf : FT [.sv .expr, .int .i64] [.bool]} {kx : Ex → eright_0_V → Option R} {l : List Xpr} {m : Int} {a b : Option R} (hn : ln l.length) (hrf : ∀ x, x ∈ l → rf (x, wr .i64 (m - 1)) = some (eright x (wr .i64 (m - 1)))) (h1 : ∀ (j : Nat), kx .ret (l, (j : Int), (l.length : Int), (j : Int), m) = a) (h2 : ∀ q j, kx (.exit 0) (l, q, (l.length : Int), j, m) = b) : ∀ (k i : Nat) q, i ≤ l.length → l.length - i < k → iter (fun rec => eright_0 rf rec kx) k (l, q, (l.length : Int), (i : Int), m) = cond (erights (l.drop i) (wr .i64 (m - 1))) b a
  | 0, i, q, _, h => by omega
  | k + 1, i, q, hi, h => by
    rw [iter_s]
    by_cases hl : i < l.length
    · have ih := eright_loop hn hrf h1 h2 k (i + 1) q (by omega) (by omega)
      simp only [eright_0, wr_succ hl hn, ih, h1, drop_cons hl, at_nat (c := .expr) hl, inb_t hl, chk, cond_t, Bool.cond_decide, erights, hrf _ (List.getElem_mem hl), Option.bind_some]
      rw [if_pos (by omega)]
      cases eright l[i] (wr .i64 (m - 1)) <;> rfl
    · simp only [eright_0, h2, Bool.cond_decide]
      rw [if_neg (by omega), List.drop_eq_nil_of_le (by omega)]
      rfl
theorem eright_un (e : Xpr) (m : Int) : eright e m = (!decide (m = 0) && decide ((e.l.length : Int) = parts e.kind) && eok e.kind e.v e.name && erights e.l (wr .i64 (m - 1))) := by
  cases e
  simp only [eright]
  rfl
theorem eright_all (k : Nat) : ∀ (n : Nat) (e : Xpr) (m : Int), BdExpr e → esize e ≤ n → esize e ≤ k → iter (eright_body k) n (e, m) = some (eright e m)
  | 0, e, m, _, h, _ => by have := esize_pos e; omega
  | n + 1, e, m, hb, h, hk => by
    obtain ⟨hb4, hb5⟩ := bd_ls hb
    rw [esize_eq] at h hk
    have hl := esizes_len e.l
    have hrf : ∀ x, x ∈ e.l → ∀ m, iter (eright_body k) n (x, m) = some (eright x m) := fun x hx m => eright_all k n x m (hb5 x hx) (by have := esize_mem hx; omega) (by have := esize_mem hx; omega)
    have hloop := eright_loop (R := Bool) (rf := iter (eright_body k) n) (l := e.l) (m := m) (a := some false) (b := some true) (kx := fun e v => match v with
      | (_, v5, _, _, _) => match e with
        | .ret => some (!(decide (0 ≤ v5)))
        | .exit 0 => some true
        | _ => none) hb4 (fun x hx => hrf x hx _) (fun j => by simp) (fun _ _ => rfl) k 0 0 (Nat.zero_le _) (by omega)
    have e0 : ((0 : Nat) : Int) = 0 := rfl
    rw [e0] at hloop
    rw [iter_s, eright_un]
    simp only [eright_body] at hloop ⊢
    rw [hloop]
    simp only [List.drop_zero, eok]
    by_cases hm : m = 0
    · simp [hm]
    · rw [decide_eq_false hm]
      simp only [cond_f, Bool.not_false, Bool.true_and]
      by_cases hp : (e.l.length : Int) = parts e.kind
      · rw [decide_eq_true hp]
        by_cases h1 : e.kind = 1
        · have h2 : ¬ e.kind = 2 := by omega
          rw [decide_eq_true h1, decide_eq_false h2]
          simp only [cond_t, cond_f, Bool.not_false, Bool.not_true, Bool.true_and]
          cases decide (vcheck e.v = 0) <;> cases decide (e.v.kind = 3) <;> cases decide (e.v.n < 0) <;> cases decide (e.name = []) <;> cases erights e.l (wr .i64 (m - 1)) <;> rfl
        · rw [decide_eq_false h1]
          simp only [cond_f, Bool.not_true, Bool.true_and]
          cases decide (e.v = Val.mk 0 0 []) <;> cases decide (e.kind = 2) <;> cases decide (e.name = []) <;> cases lname e.name <;> cases erights e.l (wr .i64 (m - 1)) <;> rfl
      · rw [decide_eq_false hp]; rfl
theorem eright_ok : FnOk Tryd.prog elT glT 34 [.sv .expr, .int .i64] [.bool] eright_F := by
  refine .fin (ι := Nat) 0 (F := fun n => iter (eright_body n) n) (fun n => FnOk.rec' (Sx.enters_of Tryd.func34 rfl rfl) (fun rf hrf => eright_run n rf hrf) n) fun (e, m) r hb hx => ⟨esize e, ?_⟩
  exact (eright_all (esize e) (esize e) e m hb.1 (Nat.le_refl _) (Nat.le_refl _)).trans hx
/-! ## exchequer/ast.Expr -/
def aexpr_px (R : Type) : Px R := ⟨ttOf ttL, glT, callT [(34, callOr [.sv .expr, .int .i64] [.bool] eright_F)], callQT [], loopT []⟩
def aexpr_body (x : HV [.sv .expr]) : Option (HV [.int .i64]) := match x with
 | e =>
  cond (!(eright e 30)) (
   some 2) (
   some 0)
theorem aexpr_eq : ∀ (x : HV [.sv .expr]), runF (aexpr_px _) Tryd.f25 [.sv .expr] [.int .i64] x some = aexpr_body x
  | e => by kernel_rfl
theorem aexpr_run : FnOk Tryd.prog elT glT 25 [.sv .expr] [.int .i64] (aexpr_body) := by
  refine fnOk_run Tryd.func25 rfl (by kernel_rfl) follows (by kernel_rfl) (n := 0) (by kernel_rfl) (px := aexpr_px _) (fun cx hP hel hgl => ?_) (aexpr_eq)
  have hp0 : PxOk cx (aexpr_px (HV [.int .i64])) := ⟨fun t => by rw [hP, hel]; exact tt_ok ttL_ok t, by rw [hgl]; rfl⟩
  have hc0 : CallOk cx (aexpr_px (HV [.int .i64])) := callT_ok rfl (cfs_cons (cf_or (by rw [hP, hel, hgl]; exact eright_ok) (by kernel_rfl)) cfs_nil)
  have hq0 : CallQOk cx (aexpr_px (HV [.int .i64])) := callQT_ok rfl cqfs_nil
  exact ⟨hp0, hc0, hq0, all0⟩
def aexpr (e : Xpr) : Int :=
  cond (!(eright e 30)) (
   2) (
   0)
theorem aexpr_tot (x : HV [.sv .expr]) : aexpr_body x = some (aexpr x) := by
  first
    | exact rfl
    | simp only [aexpr_body, aexpr, cond_some]
def aexpr_F : FT [.sv .expr] [.int .i64] := fun x => some (aexpr x)
theorem aexpr_ok : FnOk Tryd.prog elT glT 25 [.sv .expr] [.int .i64] aexpr_F := .fin0 aexpr_run fun x _ _ hx => (aexpr_tot x).trans hx
/-! ## how much is in it -/
/-! ## exchequer/exchequerref13.Much -/
def much1_0_sg : Sig := ⟨41, [(1, .int .i64), (5, .int .i64), (6, .int .i64)], [(2, .ptr 0 0)], [(0, .one (.sv .expr))], 1, 0, 0, [], []⟩
abbrev much1_0_V := Int × Int × Int × Xpr
def much1_0 {R : Type} (rf : FT [.sv .expr, .int .i64] [.int .i64]) (rec : much1_0_V → Option R) (kx : Ex → much1_0_V → Option R) (v : much1_0_V) : Option R := match v with
 | (v, v1, v2, w) =>
  cond (decide (v2 < (w.l.length : Int))) (
   cond (decide (v1 < v)) (
    chk (inb v2 w.l.length) (
     (rf ((at' .expr w.l v2), (wr .i64 (v - v1)))).bind fun x =>
      rec (v, (wr .i64 (v1 + x)), (wr .i64 (v2 + 1)), w))) (
    kx (.exit 0) (v, v1, v2, w))) (
   kx (.exit 0) (v, v1, v2, w))
def much1_px (R : Type) (k : Nat) (rf : FT [.sv .expr, .int .i64] [.int .i64]) : Px R := ⟨ttOf ttL, glT, callT [(24, callOr [.sv .expr, .int .i64] [.int .i64] rf)], callQT [], loopT [(3, loopOr k much1_0_sg (much1_0 rf))]⟩
theorem much1_0_eq (R : Type) (k : Nat) (rf : FT [.sv .expr, .int .i64] [.int .i64]) : ∀ (fr : List Fr) (rec : much1_0_V → Option R) (kx : Ex → much1_0_V → Option R) (v : much1_0_V), round (much1_px R k rf) much1_0_sg (lp Tryd.f24 0) fr rec kx v = much1_0 rf rec kx v
  | fr, rec, kx, (v, v1, v2, w) => by kernel_rfl
def much1_body (k : Nat) (rf : FT [.sv .expr, .int .i64] [.int .i64]) (x : HV [.sv .expr, .int .i64]) : Option (HV [.int .i64]) := match x with
 | (e, most) =>
  iter (fun rec => much1_0 rf rec (fun e v => match v with | (_, v4, _, _) => match e with
   | .exit 0 =>
    some v4
   | _ => none)) k (most, (wr .i64 (1 + (wr .i64 (Int.tdiv (wr .i64 ((e.v.s.length : Int) + (e.name.length : Int))) 30)))), 0, e)
theorem much1_eq (k : Nat) (rf : FT [.sv .expr, .int .i64] [.int .i64]) : ∀ (x : HV [.sv .expr, .int .i64]), runF (much1_px _ k rf) Tryd.f24 [.sv .expr, .int .i64] [.int .i64] x some = much1_body k rf x
  | (e, most) => by kernel_rfl
theorem much1_run (k : Nat) (rf : FT [.sv .expr, .int .i64] [.int .i64]) (hrf : FnOk Tryd.prog elT glT 24 [.sv .expr, .int .i64] [.int .i64] rf) : FnOk Tryd.prog elT glT 24 [.sv .expr, .int .i64] [.int .i64] (much1_body k rf) := by
  refine fnOk_run Tryd.func24 rfl (by kernel_rfl) follows (by kernel_rfl) (n := 1) (by kernel_rfl) (px := much1_px _ k rf) (fun cx hP hel hgl => ?_) (much1_eq k rf)
  have hp0 : PxOk cx (much1_px (HV [.int .i64]) k rf) := ⟨fun t => by rw [hP, hel]; exact tt_ok ttL_ok t, by rw [hgl]; rfl⟩
  have hc0 : CallOk cx (much1_px (HV [.int .i64]) k rf) := callT_ok rfl (cfs_cons (cf_or (by rw [hP, hel, hgl]; exact hrf) (by kernel_rfl)) cfs_nil)
  have hq0 : CallQOk cx (much1_px (HV [.int .i64]) k rf) := callQT_ok rfl cqfs_nil
  have hlmuch1_0 : LoopOk cx (much1_px (HV [.int .i64]) k rf) (lp Tryd.f24 0) := loop_ok hp0 hc0 hq0 (by rw [hP]; exact follows) (k := k) (s := much1_0_sg) (step := much1_0 rf) (fun _ _ => by kernel_rfl) (by kernel_rfl) (much1_0_eq _ k rf) (loops_in (n := 0) (by kernel_rfl) all0)
  exact ⟨hp0, hc0, hq0, (allS all0 hlmuch1_0)⟩
mutual
def much1 : Xpr → Int → Int
  | .mk _ v nm l, most => muchL l most (wr .i64 (1 + wr .i64 (Int.tdiv (wr .i64 ((v.s.length : Int) + (nm.length : Int))) 30)))
def muchL : List Xpr → Int → Int → Int
  | [], _, n => n
  | x :: l, most, n => cond (decide (n < most)) (muchL l most (wr .i64 (n + much1 x (wr .i64 (most - n))))) n
end
def much1_F : FT [.sv .expr, .int .i64] [.int .i64] := fun x => some (much1 x.1 x.2)
theorem much1_loop {R : Type} {rf : FT [.sv .expr, .int .i64] [.int .i64]} {kx : Ex → much1_0_V → Option R} {e : Xpr} {most : Int} {g : Int → Option R} (hn : ln e.l.length) (hrf : ∀ x, x ∈ e.l → ∀ m, rf (x, m) = some (much1 x m)) (h2 : ∀ n j, kx (.exit 0) (most, n, j, e) = g n) : ∀ (k i : Nat) n, i ≤ e.l.length → e.l.length - i < k → iter (fun rec => much1_0 rf rec kx) k (most, n, (i : Int), e) = g (muchL (e.l.drop i) most n)
  | 0, i, n, _, h => by omega
  | k + 1, i, n, hi, h => by
    rw [iter_s]
    by_cases hl : i < e.l.length
    · have ih := fun n => much1_loop hn hrf h2 k (i + 1) n (by omega) (by omega)
      simp only [much1_0, wr_succ hl hn, ih, h2, drop_cons hl, at_nat (c := .expr) hl, inb_t hl, chk, cond_t, Bool.cond_decide, muchL, hrf _ (List.getElem_mem hl), Option.bind_some]
      rw [if_pos (by omega)]
      split <;> rfl
    · simp only [much1_0, h2, Bool.cond_decide]
      rw [if_neg (by omega), List.drop_eq_nil_of_le (by omega)]
      rfl
theorem much1_all (k : Nat) : ∀ (n : Nat) (e : Xpr) (m : Int), BdExpr e → esize e ≤ n → esize e ≤ k → iter (much1_body k) n (e, m) = some (much1 e m)
  | 0, e, m, _, h, _ => by have := esize_pos e; omega
  | n + 1, .mk kd v nm l, m, hb, h, hk => by
    obtain ⟨_, _, _, _, hb1, hb2, hb3, hb4, hb5⟩ := hb
    simp only [esize] at h hk
    have hl := esizes_len l
    have hrf : ∀ x, x ∈ l → ∀ m, iter (much1_body k) n (x, m) = some (much1 x m) := fun x hx m => much1_all k n x m (hb5 x hx) (by have := esize_mem hx; omega) (by have := esize_mem hx; omega)
    rw [iter_s]
    simp only [much1_body]
    refine (much1_loop (e := .mk kd v nm l) (g := some) hb4 hrf ?_ k 0 _ (Nat.zero_le _) (by simp only [Xpr.l]; omega)).trans ?_
    · exact fun _ _ => rfl
    · simp only [much1, Xpr.l, List.drop_zero, Xpr.v, Xpr.name]
theorem much1_ok : FnOk Tryd.prog elT glT 24 [.sv .expr, .int .i64] [.int .i64] much1_F := by
  refine .fin (ι := Nat) 0 (F := fun n => iter (much1_body n) n) (fun n => FnOk.rec' (Sx.enters_of Tryd.func24 rfl rfl) (fun rf hrf => much1_run n rf hrf) n) fun (e, m) r hb hx => ⟨esize e, ?_⟩
  exact (much1_all (esize e) (esize e) e m hb.1 (Nat.le_refl _) (Nat.le_refl _)).trans hx
end Go.Proofs.YtlhebakbbfmiiaaDoor

/- Functions: the kind and the value of an expression. -/
namespace Go.Proofs.YtlhebakbbfmiiaaDoor
open Go.Ax
theorem findFrom_range : ∀ (l : List Col) (s : Str) (i : Nat), findFrom l s i = -1 ∨ ((i : Int) ≤ findFrom l s i ∧ findFrom l s i < (i + l.length : Nat))
  | [], _, _ => .inl rfl
  | c :: l, s, i => by
    simp only [findFrom, List.length_cons]
    split
    · right; omega
    · have := findFrom_range l s (i + 1); omega
theorem find_range (l : List Col) (s : Str) : find l s = -1 ∨ (0 ≤ find l s ∧ find l s < (l.length : Int)) := by
  have := findFrom_range l s 0
  simpa [find] using this
theorem find_inb {l : List Col} {s : Str} (h : ¬ find l s < 0) : inb (find l s) l.length = true := by
  have := find_range l s
  simp only [inb, Bool.and_eq_true, decide_eq_true_eq]
  omega
/-! ## exchequer/reckon.kind -/
def kindE_0_sg : Sig := ⟨102, [(1, .sl .col false), (4, .int .i64), (5, .int .i64), (12, .sl .expr false), (13, .int .i64), (14, .int .i64)], [(2, .ptr 0 0), (6, .ptr 1 0)], [(0, .one (.sv .expr)), (1, .one (.rw .int 2))], 2, 0, 0, [], []⟩
abbrev kindE_0_V := List Col × Int × Int × List Xpr × Int × Int × Xpr × List Int
def kindE_0 {R : Type} (rf : FT [.sv .expr, .sl .col false] [.int .i64, .int .i64]) (rec : kindE_0_V → Option R) (kx : Ex → kindE_0_V → Option R) (v : kindE_0_V) : Option R := match v with
 | (v, v1, v2, v3, v4, v5, w, w1) =>
  cond (decide (v5 < v4)) (
   chk (inb v5 v3.length) (
    (rf ((Xpr.mk ((at' .expr v3 v5).kind) ⟨((at' .expr v3 v5).v.kind), ((at' .expr v3 v5).v.n), ((at' .expr v3 v5).v.s)⟩ ((at' .expr v3 v5).name) ((at' .expr v3 v5).l)), v)).bind fun (x, x1) =>
     chk (inb v5 2) (
      cond (!decide (x1 = 0)) (
       kx .ret (v, 0, x1, v3, v4, v5, w, (w1.set (v5 : Int).toNat x))) (
       cond (decide (v5 = 1)) (
        kx (.exit 0) (v, v1, v2, v3, v4, v5, w, (w1.set (v5 : Int).toNat x))) (
        rec (v, v1, v2, v3, v4, (wr .i64 (v5 + 1)), w, (w1.set (v5 : Int).toNat x))))))) (
   kx (.exit 0) (v, v1, v2, v3, v4, v5, w, w1))
def kindE_px (R : Type) (k : Nat) (rf : FT [.sv .expr, .sl .col false] [.int .i64, .int .i64]) : Px R := ⟨ttOf ttL, glT, callT [(26, callOr [.sv .expr, .sl .col false] [.int .i64, .int .i64] rf), (35, callOr [.sl .col false, .str] [.int .i64] find_F), (31, callOr [.int .i64, .int .i64] [.bool] rfits_F)], callQT [], loopT [(3, loopOr k kindE_0_sg (kindE_0 rf))]⟩
theorem kindE_0_eq (R : Type) (k : Nat) (rf : FT [.sv .expr, .sl .col false] [.int .i64, .int .i64]) : ∀ (fr : List Fr) (rec : kindE_0_V → Option R) (kx : Ex → kindE_0_V → Option R) (v : kindE_0_V), round (kindE_px R k rf) kindE_0_sg (lp Tryd.f26 0) fr rec kx v = kindE_0 rf rec kx v
  | fr, rec, kx, (v, v1, v2, v3, v4, v5, w, w1) => by kernel_rfl
def kindE_body (k : Nat) (rf : FT [.sv .expr, .sl .col false] [.int .i64, .int .i64]) (x : HV [.sv .expr, .sl .col false]) : Option (HV [.int .i64, .int .i64]) := match x with
 | (e, cols) =>
  iter (fun rec => kindE_0 rf rec (fun e v => match v with | (v6, v7, v8, _, _, _, v12, v13) => match e with
   | .ret =>
    some (v7, v8)
   | .exit 0 =>
    let j2 := fun (q : List Int) =>
     cond (decide (v12.kind = 1)) (
      some (v12.v.kind, 0)) (
      cond (decide (v12.kind = 2)) (
       cond (decide ((find v6 v12.name) < 0)) (
        some (0, 150)) (
        chk (inb (find v6 v12.name) v6.length) (
         some ((at' .col v6 (find v6 v12.name)).kind, 0)))) (
       cond (decide (v12.kind = 16)) (
        some (2, 0)) (
        let j1 := fun (p : Bool) =>
         cond (p) (
          cond ((rfits (at' .int q 0) 2)) (
           cond ((rfits (at' .int q 1) 2)) (
            some (2, 0)) (
            some (0, 151))) (
           some (0, 151))) (
          let j := fun (p3 : Bool) =>
           cond (p3) (
            cond ((rfits (at' .int q 0) 3)) (
             cond ((rfits (at' .int q 1) 3)) (
              some (3, 0)) (
              some (0, 151))) (
             some (0, 151))) (
            cond (decide ((at' .int q 0) = (at' .int q 1))) (
             some (2, 0)) (
             cond (decide ((at' .int q 0) = 1)) (
              some (2, 0)) (
              cond (decide ((at' .int q 1) = 1)) (
               some (2, 0)) (
               some (0, 151)))))
          cond (decide (v12.kind = 12)) (
           j (decide (v12.kind = 12))) (
           cond (decide (v12.kind = 13)) (
            j (decide (v12.kind = 13))) (
            cond (decide (v12.kind = 14)) (
             j (decide (v12.kind = 14))) (
             j (decide (v12.kind = 15))))))
        cond (decide (v12.kind = 3)) (
         j1 (decide (v12.kind = 3))) (
         cond (decide (v12.kind = 4)) (
          j1 (decide (v12.kind = 4))) (
          j1 (decide (v12.kind = 5)))))))
    cond (decide ((v12.l.length : Int) = 1)) (
     j2 (v13.set (1 : Int).toNat (at' .int v13 0))) (
     j2 v13)
   | _ => none)) k (cols, 0, 0, e.l, (e.l.length : Int), 0, e, [0, 0])
theorem kindE_eq (k : Nat) (rf : FT [.sv .expr, .sl .col false] [.int .i64, .int .i64]) : ∀ (x : HV [.sv .expr, .sl .col false]), runF (kindE_px _ k rf) Tryd.f26 [.sv .expr, .sl .col false] [.int .i64, .int .i64] x some = kindE_body k rf x
  | (e, cols) => by kernel_rfl
theorem kindE_run (k : Nat) (rf : FT [.sv .expr, .sl .col false] [.int .i64, .int .i64]) (hrf : FnOk Tryd.prog elT glT 26 [.sv .expr, .sl .col false] [.int .i64, .int .i64] rf) : FnOk Tryd.prog elT glT 26 [.sv .expr, .sl .col false] [.int .i64, .int .i64] (kindE_body k rf) := by
  refine fnOk_run Tryd.func26 rfl (by kernel_rfl) follows (by kernel_rfl) (n := 1) (by kernel_rfl) (px := kindE_px _ k rf) (fun cx hP hel hgl => ?_) (kindE_eq k rf)
  have hp0 : PxOk cx (kindE_px (HV [.int .i64, .int .i64]) k rf) := ⟨fun t => by rw [hP, hel]; exact tt_ok ttL_ok t, by rw [hgl]; rfl⟩
  have hc0 : CallOk cx (kindE_px (HV [.int .i64, .int .i64]) k rf) := callT_ok rfl (cfs_cons (cf_or (by rw [hP, hel, hgl]; exact hrf) (by kernel_rfl)) (cfs_cons (cf_or (by rw [hP, hel, hgl]; exact find_ok) (by kernel_rfl)) (cfs_cons (cf_or (by rw [hP, hel, hgl]; exact rfits_ok) (by kernel_rfl)) cfs_nil)))
  have hq0 : CallQOk cx (kindE_px (HV [.int .i64, .int .i64]) k rf) := callQT_ok rfl cqfs_nil
  have hlkindE_0 : LoopOk cx (kindE_px (HV [.int .i64, .int .i64]) k rf) (lp Tryd.f26 0) := loop_ok hp0 hc0 hq0 (by rw [hP]; exact follows) (k := k) (s := kindE_0_sg) (step := kindE_0 rf) (fun _ _ => by kernel_rfl) (by kernel_rfl) (kindE_0_eq _ k rf) (loops_in (n := 0) (by kernel_rfl) all0)
  exact ⟨hp0, hc0, hq0, (allS all0 hlkindE_0)⟩
def kfin (e : Xpr) (cols : List Col) (a b : Int) : Int × Int :=
  if e.kind = 1 then (e.v.kind, 0)
  else if e.kind = 2 then (if find cols e.name < 0 then (0, 150) else ((at' .col cols (find cols e.name)).kind, 0))
  else if e.kind = 16 then (2, 0)
  else if e.kind = 3 ∨ e.kind = 4 ∨ e.kind = 5 then (if rfits a 2 && rfits b 2 then (2, 0) else (0, 151))
  else if e.kind = 12 ∨ e.kind = 13 ∨ e.kind = 14 ∨ e.kind = 15 then (if rfits a 3 && rfits b 3 then (3, 0) else (0, 151))
  else if a = b ∨ a = 1 ∨ b = 1 then (2, 0) else (0, 151)
def kres (e : Xpr) (cols : List Col) : List (Int × Int) → Int × Int
  | [] => kfin e cols 0 0
  | [(a, f)] => if f = 0 then kfin e cols a a else (0, f)
  | (a, f) :: (b, g) :: _ => if f = 0 then (if g = 0 then kfin e cols a b else (0, g)) else (0, f)
mutual
def kindE : Xpr → List Col → Int × Int
  | .mk k v nm l, cols => kres (.mk k v nm l) cols (kindL l cols)
def kindL : List Xpr → List Col → List (Int × Int)
  | [], _ => []
  | x :: l, cols => kindE x cols :: kindL l cols
end
theorem kindE_un (e : Xpr) (cols : List Col) : kindE e cols = kres e cols (kindL e.l cols) := by
  cases e
  simp only [kindE, Xpr.l]
def kindE_F : FT [.sv .expr, .sl .col false] [.int .i64, .int .i64] := fun x => some (kindE x.1 x.2)
def kindT (v12 : Xpr) (v6 : List Col) (q : List Int) : Option (Int × Int) :=
     cond (decide (v12.kind = 1)) (
      some (v12.v.kind, 0)) (
      cond (decide (v12.kind = 2)) (
       cond (decide ((find v6 v12.name) < 0)) (
        some (0, 150)) (
        chk (inb (find v6 v12.name) v6.length) (
         some ((at' .col v6 (find v6 v12.name)).kind, 0)))) (
       cond (decide (v12.kind = 16)) (
        some (2, 0)) (
        let j1 := fun (p : Bool) =>
         cond (p) (
          cond ((rfits (at' .int q 0) 2)) (
           cond ((rfits (at' .int q 1) 2)) (
            some (2, 0)) (
            some (0, 151))) (
           some (0, 151))) (
          let j := fun (p3 : Bool) =>
           cond (p3) (
            cond ((rfits (at' .int q 0) 3)) (
             cond ((rfits (at' .int q 1) 3)) (
              some (3, 0)) (
              some (0, 151))) (
             some (0, 151))) (
            cond (decide ((at' .int q 0) = (at' .int q 1))) (
             some (2, 0)) (
             cond (decide ((at' .int q 0) = 1)) (
              some (2, 0)) (
              cond (decide ((at' .int q 1) = 1)) (
               some (2, 0)) (
               some (0, 151)))))
          cond (decide (v12.kind = 12)) (
           j (decide (v12.kind = 12))) (
           cond (decide (v12.kind = 13)) (
            j (decide (v12.kind = 13))) (
            cond (decide (v12.kind = 14)) (
             j (decide (v12.kind = 14))) (
             j (decide (v12.kind = 15))))))
        cond (decide (v12.kind = 3)) (
         j1 (decide (v12.kind = 3))) (
         cond (decide (v12.kind = 4)) (
          j1 (decide (v12.kind = 4))) (
          j1 (decide (v12.kind = 5)))))))
theorem kindT_fin (e : Xpr) (cols : List Col) (a b : Int) : kindT e cols [a, b] = some (kfin e cols a b) := by
  have ha : at' .int [a, b] 0 = a := rfl
  have hb : at' .int [a, b] 1 = b := rfl
  simp only [kindT, kfin, ha, hb]
  generalize e.kind = k
  by_cases h1 : k = 1
  · simp [h1]
  by_cases h2 : k = 2
  · simp only [h2]
    by_cases hf : find cols e.name < 0
    · simp [hf]
    · rw [find_inb hf]
      simp [hf, chk]
  by_cases h16 : k = 16
  · simp [h16]
  rw [decide_eq_false h1, decide_eq_false h2, decide_eq_false h16, if_neg h1, if_neg h2, if_neg h16]
  simp only [cond_f]
  by_cases h3 : k = 3
  · subst h3; cases rfits a 2 <;> cases rfits b 2 <;> rfl
  by_cases h4 : k = 4
  · subst h4; cases rfits a 2 <;> cases rfits b 2 <;> rfl
  by_cases h5 : k = 5
  · subst h5; cases rfits a 2 <;> cases rfits b 2 <;> rfl
  rw [decide_eq_false h3, decide_eq_false h4, decide_eq_false h5, if_neg (by omega)]
  simp only [cond_f]
  by_cases h12 : k = 12
  · subst h12; cases rfits a 3 <;> cases rfits b 3 <;> rfl
  by_cases h13 : k = 13
  · subst h13; cases rfits a 3 <;> cases rfits b 3 <;> rfl
  by_cases h14 : k = 14
  · subst h14; cases rfits a 3 <;> cases rfits b 3 <;> rfl
  by_cases h15 : k = 15
  · subst h15; cases rfits a 3 <;> cases rfits b 3 <;> rfl
  rw [decide_eq_false h12, decide_eq_false h13, decide_eq_false h14, decide_eq_false h15, if_neg (by omega)]
  simp only [cond_f]
  by_cases c1 : a = b
  · simp [c1]
  by_cases c2 : a = 1
  · simp [c2]
  by_cases c3 : b = 1
  · simp [c3]
  simp [c1, c2, c3]
def kloop {R : Type} (ga : Int → Option R) (gb : Int → Int → Option R) : List (Int × Int) → Option R
  | [] => gb 0 0
  | [(a, f)] => if f = 0 then gb a 0 else ga f
  | (a, f) :: (b, g) :: _ => if f = 0 then (if g = 0 then gb a b else ga g) else ga f
theorem kind_loop {R : Type} {rf : FT [.sv .expr, .sl .col false] [.int .i64, .int .i64]} {kx : Ex → kindE_0_V → Option R} {cols : List Col} {e : Xpr} {ga : Int → Option R} {gb : Int → Int → Option R} (hn : ln e.l.length) (hrf : ∀ x, x ∈ e.l → rf (x, cols) = some (kindE x cols)) (h1 : ∀ f i ks, kx .ret (cols, 0, f, e.l, (e.l.length : Int), i, e, ks) = ga f) (h2 : ∀ i a b, kx (.exit 0) (cols, 0, 0, e.l, (e.l.length : Int), i, e, [a, b]) = gb a b) (k : Nat) : iter (fun rec => kindE_0 rf rec kx) (k + 3) (cols, 0, 0, e.l, (e.l.length : Int), 0, e, [0, 0]) = kloop ga gb (kindL e.l cols) := by
  rw [iter_s]
  generalize e.l = l at *
  match l with
  | [] =>
    simp only [kindE_0, kindL, kloop]
    exact h2 0 0 0
  | [x] =>
    simp only [kindE_0, List.length_cons, List.length_nil]
    have e1 : at' .expr [x] 0 = x := rfl
    rw [e1, expr_eta, hrf x (by simp)]
    simp only [Option.bind_some, kindL, kloop]
    show cond (!decide ((kindE x cols).2 = 0)) (kx .ret (cols, 0, (kindE x cols).2, [x], 1, 0, e, [(kindE x cols).1, 0])) (iter (fun rec => kindE_0 rf rec kx) (k + 2) (cols, 0, 0, [x], 1, 1, e, [(kindE x cols).1, 0])) = _
    have h1' := fun f i ks => h1 f i ks
    have h2' := fun i a b => h2 i a b
    have hl : (([x] : List Xpr).length : Int) = 1 := rfl
    rw [hl] at h1' h2'
    rw [h1', iter_s]
    have : kindE_0 rf (iter (fun rec => kindE_0 rf rec kx) (k + 1)) kx (cols, 0, 0, [x], 1, 1, e, [(kindE x cols).1, 0]) = kx (.exit 0) (cols, 0, 0, [x], 1, 1, e, [(kindE x cols).1, 0]) := rfl
    rw [this, h2']
    by_cases hf : (kindE x cols).2 = 0
    · simp [hf]
    · simp [hf]
  | x :: y :: t =>
    simp only [kindE_0]
    have hlen : (0 : Int) < ((x :: y :: t).length : Int) := by simp; omega
    have hlen1 : (1 : Int) < ((x :: y :: t).length : Int) := by simp; omega
    have e1 : at' .expr (x :: y :: t) 0 = x := rfl
    have e2 : at' .expr (x :: y :: t) 1 = y := rfl
    rw [decide_eq_true hlen, e1, expr_eta, hrf x (by simp)]
    have i1 : inb 0 (x :: y :: t).length = true := inb_t (i := 0) (by simp)
    have i2 : inb 1 (x :: y :: t).length = true := inb_t (i := 1) (by simp)
    rw [i1]
    simp only [cond_t, chk, Option.bind_some, kindL, kloop]
    show cond (!decide ((kindE x cols).2 = 0)) (kx .ret (cols, 0, (kindE x cols).2, x :: y :: t, _, 0, e, [(kindE x cols).1, 0])) (iter (fun rec => kindE_0 rf rec kx) (k + 2) (cols, 0, 0, x :: y :: t, ((x :: y :: t).length : Int), 1, e, [(kindE x cols).1, 0])) = _
    rw [h1, iter_s]
    simp only [kindE_0]
    rw [decide_eq_true hlen1, e2, expr_eta, hrf y (by simp), i2]
    simp only [cond_t, chk, Option.bind_some]
    show cond (!decide ((kindE x cols).2 = 0)) (ga (kindE x cols).2) (cond (!decide ((kindE y cols).2 = 0)) (kx .ret (cols, 0, (kindE y cols).2, x :: y :: t, _, 1, e, _)) (kx (.exit 0) (cols, 0, 0, x :: y :: t, _, 1, e, [(kindE x cols).1, (kindE y cols).1]))) = _
    rw [h1, h2]
    by_cases hf : (kindE x cols).2 = 0
    · by_cases hg : (kindE y cols).2 = 0
      · simp [hf, hg]
      · simp [hf, hg]
    · simp [hf]
theorem kindE_all (k : Nat) : ∀ (n : Nat) (e : Xpr) (cols : List Col), BdExpr e → esize e ≤ n → iter (kindE_body (k + 3)) n (e, cols) = some (kindE e cols)
  | 0, e, cols, _, h => by have := esize_pos e; omega
  | n + 1, e, cols, hb, h => by
    obtain ⟨hb4, hb5⟩ := bd_ls hb
    rw [esize_eq] at h
    have hrf : ∀ x, x ∈ e.l → iter (kindE_body (k + 3)) n (x, cols) = some (kindE x cols) := fun x hx => kindE_all k n x cols (hb5 x hx) (by have := esize_mem hx; omega)
    rw [iter_s, kindE_un]
    simp only [kindE_body]
    refine (kind_loop (ga := fun f => some (0, f)) (gb := fun a b => cond (decide ((e.l.length : Int) = 1)) (kindT e cols [a, a]) (kindT e cols [a, b])) hb4 hrf ?_ ?_ k).trans ?_
    · exact fun _ _ _ => rfl
    · exact fun _ _ _ => rfl
    · generalize e.l = l
      match l with
      | [] => simp [kindL, kloop, kres, kindT_fin]
      | [x] =>
        simp only [kindL, kloop, kres, kindT_fin]
        split <;> simp
      | x :: y :: t =>
        simp only [kindL, kloop, kres, kindT_fin]
        have : ¬ (((x :: y :: t).length : Int) = 1) := by simp; omega
        rw [decide_eq_false this]
        split
        · split <;> rfl
        · rfl
theorem kindE_ok : FnOk Tryd.prog elT glT 26 [.sv .expr, .sl .col false] [.int .i64, .int .i64] kindE_F := by
  refine .fin (ι := Nat) 0 (F := fun n => iter (kindE_body 3) n) (fun n => FnOk.rec' (Sx.enters_of Tryd.func26 rfl rfl) (fun rf hrf => kindE_run 3 rf hrf) n) fun (e, cols) r hb hx => ⟨esize e, ?_⟩
  exact (kindE_all 0 (esize e) e cols hb.1 (Nat.le_refl _)).trans hx
/-! ## exchequer/reckon.Kind -/
def kindX_px (R : Type) : Px R := ⟨ttOf ttL, glT, callT [(25, callOr [.sv .expr] [.int .i64] aexpr_F), (26, callOr [.sv .expr, .sl .col false] [.int .i64, .int .i64] kindE_F)], callQT [], loopT []⟩
def kindX_body (x : HV [.sv .expr, .sl .col false]) : Option (HV [.int .i64, .int .i64]) := match x with
 | (e, cols) =>
  cond (!decide ((aexpr e) = 0)) (
   some (0, (aexpr e))) (
   some ((kindE e cols).1, (kindE e cols).2))
theorem kindX_eq : ∀ (x : HV [.sv .expr, .sl .col false]), runF (kindX_px _) Tryd.f11 [.sv .expr, .sl .col false] [.int .i64, .int .i64] x some = kindX_body x
  | (e, cols) => by kernel_rfl
theorem kindX_run : FnOk Tryd.prog elT glT 11 [.sv .expr, .sl .col false] [.int .i64, .int .i64] (kindX_body) := by
  refine fnOk_run Tryd.func11 rfl (by kernel_rfl) follows (by kernel_rfl) (n := 0) (by kernel_rfl) (px := kindX_px _) (fun cx hP hel hgl => ?_) (kindX_eq)
  have hp0 : PxOk cx (kindX_px (HV [.int .i64, .int .i64])) := ⟨fun t => by rw [hP, hel]; exact tt_ok ttL_ok t, by rw [hgl]; rfl⟩
  have hc0 : CallOk cx (kindX_px (HV [.int .i64, .int .i64])) := callT_ok rfl (cfs_cons (cf_or (by rw [hP, hel, hgl]; exact aexpr_ok) (by kernel_rfl)) (cfs_cons (cf_or (by rw [hP, hel, hgl]; exact kindE_ok) (by kernel_rfl)) cfs_nil))
  have hq0 : CallQOk cx (kindX_px (HV [.int .i64, .int .i64])) := callQT_ok rfl cqfs_nil
  exact ⟨hp0, hc0, hq0, all0⟩
def kindX (e : Xpr) (cols : List Col) : Int × Int :=
  cond (!decide ((aexpr e) = 0)) (
   (0, (aexpr e))) (
   ((kindE e cols).1, (kindE e cols).2))
theorem kindX_tot (x : HV [.sv .expr, .sl .col false]) : kindX_body x = some (kindX x.1 x.2) := by
  first
    | exact rfl
    | simp only [kindX_body, kindX, cond_some]
def kindX_F : FT [.sv .expr, .sl .col false] [.int .i64, .int .i64] := fun x => some (kindX x.1 x.2)
theorem kindX_ok : FnOk Tryd.prog elT glT 11 [.sv .expr, .sl .col false] [.int .i64, .int .i64] kindX_F := .fin0 kindX_run fun x _ _ hx => (kindX_tot x).trans hx
/-! ## the value -/
/-! ## exchequer/reckon.eval -/
def evalE_0_sg : Sig := ⟨133, [(1, .sl .col false), (2, .sl .val false), (7, .int .i64), (8, .sl .val true), (9, .bool), (15, .sl .expr false), (16, .int .i64), (17, .int .i64)], [(3, .ptr 0 0), (6, .ptr 1 0)], [(0, .one (.sv .expr)), (1, .one (.sv .val))], 2, 0, 0, [], []⟩
abbrev evalE_0_V := List Col × List Val × Int × List Val × Bool × List Xpr × Int × Int × Xpr × Val
def evalE_0 {R : Type} (rf : FT [.sv .expr, .sl .col false, .sl .val false] [.sv .val, .int .i64]) (rec : evalE_0_V → Option R) (kx : Ex → evalE_0_V → Option R) (v : evalE_0_V) : Option R := match v with
 | (v, v1, v2, v3, v4, v5, v6, v7, w, w1) =>
  cond (decide (v7 < v6)) (
   chk (inb v7 v5.length) (
    (rf ((Xpr.mk ((at' .expr v5 v7).kind) ⟨((at' .expr v5 v7).v.kind), ((at' .expr v5 v7).v.n), ((at' .expr v5 v7).v.s)⟩ ((at' .expr v5 v7).name) ((at' .expr v5 v7).l)), v, v1)).bind fun (x, x1) =>
     cond (!decide (x1 = 0)) (
      kx .ret (v, v1, x1, v3, v4, v5, v6, v7, w, (Val.mk 0 0 []))) (
      chk (decide (v3.length + 1 ≤ maxApp)) (
       cond (v4) (
        rec (v, v1, v2, (v3 ++ [x]), true, v5, v6, (wr .i64 (v7 + 1)), w, w1)) (
        rec (v, v1, v2, (v3 ++ [x]), decide (x.kind = 1), v5, v6, (wr .i64 (v7 + 1)), w, w1)))))) (
   kx (.exit 0) (v, v1, v2, v3, v4, v5, v6, v7, w, w1))
def evalE_px (R : Type) (k : Nat) (rf : FT [.sv .expr, .sl .col false, .sl .val false] [.sv .val, .int .i64]) : Px R := ⟨ttOf ttL, glT, callT [(29, callOr [.sv .expr, .sl .col false, .sl .val false] [.sv .val, .int .i64] rf), (35, callOr [.sl .col false, .str] [.int .i64] find_F), (32, callOr [.bool] [.sv .val] truth_F), (38, callOr [.int .i64, .sl .val false] [.sv .val] logic_F)], callQT [(39, callOrQ [.int .i64, .int .i64, .int .i64] [.sv .val, .int .i64] rsum_F), (41, callOrQ [.sv .val, .sv .val] [.int .i64] vcmp_F), (40, callOrQ [.int .i64, .int .i64] [.bool] stands_F), (32, callOrQ [.bool] [.sv .val] truth_F)], loopT [(4, loopOr k evalE_0_sg (evalE_0 rf))]⟩
theorem evalE_0_eq (R : Type) (k : Nat) (rf : FT [.sv .expr, .sl .col false, .sl .val false] [.sv .val, .int .i64]) : ∀ (fr : List Fr) (rec : evalE_0_V → Option R) (kx : Ex → evalE_0_V → Option R) (v : evalE_0_V), round (evalE_px R k rf) evalE_0_sg (lp Tryd.f29 0) fr rec kx v = evalE_0 rf rec kx v
  | fr, rec, kx, (v, v1, v2, v3, v4, v5, v6, v7, w, w1) => by kernel_rfl
def evalE_body (k : Nat) (rf : FT [.sv .expr, .sl .col false, .sl .val false] [.sv .val, .int .i64]) (x : HV [.sv .expr, .sl .col false, .sl .val false]) : Option (HV [.sv .val, .int .i64]) := match x with
 | (e, cols, row) =>
  iter (fun rec => evalE_0 rf rec (fun e v => match v with | (v8, v9, v10, v11, v12, _, _, _, v16, v17) => match e with
   | .ret =>
    some (v17, v10)
   | .exit 0 =>
    cond (decide (v16.kind = 1)) (
     some (v16.v, 0)) (
     cond (decide (v16.kind = 2)) (
      chk (inb (find v8 v16.name) v9.length) (
       some ((at' .val v9 (find v8 v16.name)), 0))) (
      cond (decide (v16.kind = 16)) (
       some ((truth v12), 0)) (
       let j := fun (p3 : Bool) =>
        cond (p3) (
         some ((logic v16.kind v11), 0)) (
         cond (v12) (
          some ((Val.mk 1 0 []), 0)) (
          cond (decide (v16.kind = 3)) (
           chk (inb 0 v11.length) (
            some ((truth (decide ((at' .val v11 0).n = 0))), 0))) (
           cond (decide (v16.kind = 15)) (
            chk (inb 0 v11.length) (
             some (((rsum v16.kind ((at' .val v11 0).n) 0).1), (rsum v16.kind ((at' .val v11 0).n) 0).2))) (
            cond (decide (12 ≤ v16.kind)) (
             chk (inb 0 v11.length) (
              chk (inb 1 v11.length) (
               some (((rsum v16.kind ((at' .val v11 0).n) ((at' .val v11 1).n)).1), (rsum v16.kind ((at' .val v11 0).n) ((at' .val v11 1).n)).2)))) (
             chk (inb 0 v11.length) (
              chk (inb 1 v11.length) (
               some ((truth (stands v16.kind (vcmp (at' .val v11 0) (at' .val v11 1)))), 0))))))))
       cond (decide (v16.kind = 4)) (
        j true) (
        j (decide (v16.kind = 5))))))
   | _ => none)) k (cols, row, 0, [], false, e.l, (e.l.length : Int), 0, e, (Val.mk 0 0 []))
theorem evalE_eq (k : Nat) (rf : FT [.sv .expr, .sl .col false, .sl .val false] [.sv .val, .int .i64]) : ∀ (x : HV [.sv .expr, .sl .col false, .sl .val false]), runF (evalE_px _ k rf) Tryd.f29 [.sv .expr, .sl .col false, .sl .val false] [.sv .val, .int .i64] x some = evalE_body k rf x
  | (e, cols, row) => by kernel_rfl
theorem evalE_run (k : Nat) (rf : FT [.sv .expr, .sl .col false, .sl .val false] [.sv .val, .int .i64]) (hrf : FnOk Tryd.prog elT glT 29 [.sv .expr, .sl .col false, .sl .val false] [.sv .val, .int .i64] rf) : FnOk Tryd.prog elT glT 29 [.sv .expr, .sl .col false, .sl .val false] [.sv .val, .int .i64] (evalE_body k rf) := by
  refine fnOk_run Tryd.func29 rfl (by kernel_rfl) follows (by kernel_rfl) (n := 1) (by kernel_rfl) (px := evalE_px _ k rf) (fun cx hP hel hgl => ?_) (evalE_eq k rf)
  have hp0 : PxOk cx (evalE_px (HV [.sv .val, .int .i64]) k rf) := ⟨fun t => by rw [hP, hel]; exact tt_ok ttL_ok t, by rw [hgl]; rfl⟩
  have hc0 : CallOk cx (evalE_px (HV [.sv .val, .int .i64]) k rf) := callT_ok rfl (cfs_cons (cf_or (by rw [hP, hel, hgl]; exact hrf) (by kernel_rfl)) (cfs_cons (cf_or (by rw [hP, hel, hgl]; exact find_ok) (by kernel_rfl)) (cfs_cons (cf_or (by rw [hP, hel, hgl]; exact truth_ok) (by kernel_rfl)) (cfs_cons (cf_or (by rw [hP, hel, hgl]; exact logic_ok) (by kernel_rfl)) cfs_nil))))
  have hq0 : CallQOk cx (evalE_px (HV [.sv .val, .int .i64]) k rf) := callQT_ok rfl (cqfs_cons (cqf_or (by rw [hP, hel, hgl]; exact rsum_ok) (by kernel_rfl)) (cqfs_cons (cqf_or (by rw [hP, hel, hgl]; exact vcmp_ok) (by kernel_rfl)) (cqfs_cons (cqf_or (by rw [hP, hel, hgl]; exact stands_ok) (by kernel_rfl)) (cqfs_cons (cqf_or (by rw [hP, hel, hgl]; exact truth_ok) (by kernel_rfl)) cqfs_nil))))
  have hlevalE_0 : LoopOk cx (evalE_px (HV [.sv .val, .int .i64]) k rf) (lp Tryd.f29 0) := loop_ok hp0 hc0 hq0 (by rw [hP]; exact follows) (k := k) (s := evalE_0_sg) (step := evalE_0 rf) (fun _ _ => by kernel_rfl) (by kernel_rfl) (evalE_0_eq _ k rf) (loops_in (n := 0) (by kernel_rfl) all0)
  exact ⟨hp0, hc0, hq0, (allS all0 hlevalE_0)⟩
def efin (v16 : Xpr) (v8 : List Col) (v9 : List Val) (v11 : List Val) (v12 : Bool) : Option (Val × Int) :=
    cond (decide (v16.kind = 1)) (
     some (v16.v, 0)) (
     cond (decide (v16.kind = 2)) (
      chk (inb (find v8 v16.name) v9.length) (
       some ((at' .val v9 (find v8 v16.name)), 0))) (
      cond (decide (v16.kind = 16)) (
       some ((truth v12), 0)) (
       let j := fun (p3 : Bool) =>
        cond (p3) (
         some ((logic v16.kind v11), 0)) (
         cond (v12) (
          some ((Val.mk 1 0 []), 0)) (
          cond (decide (v16.kind = 3)) (
           chk (inb 0 v11.length) (
            some ((truth (decide ((at' .val v11 0).n = 0))), 0))) (
           cond (decide (v16.kind = 15)) (
            chk (inb 0 v11.length) (
             some (((rsum v16.kind ((at' .val v11 0).n) 0).1), (rsum v16.kind ((at' .val v11 0).n) 0).2))) (
            cond (decide (12 ≤ v16.kind)) (
             chk (inb 0 v11.length) (
              chk (inb 1 v11.length) (
               some (((rsum v16.kind ((at' .val v11 0).n) ((at' .val v11 1).n)).1), (rsum v16.kind ((at' .val v11 0).n) ((at' .val v11 1).n)).2)))) (
             chk (inb 0 v11.length) (
              chk (inb 1 v11.length) (
               some ((truth (stands v16.kind (vcmp (at' .val v11 0) (at' .val v11 1)))), 0))))))))
       cond (decide (v16.kind = 4)) (
        j true) (
        j (decide (v16.kind = 5))))))
mutual
def evalE : Xpr → List Col → List Val → Option (Val × Int)
  | .mk k v nm l, cols, row => match evalL l cols row with
    | some (f, vs) => chk (decide (l.length ≤ maxApp)) (if f = 0 then efin (.mk k v nm l) cols row vs (vs.any isNull) else some (⟨0, 0, []⟩, f))
    | none => none
def evalL : List Xpr → List Col → List Val → Option (Int × List Val)
  | [], _, _ => some (0, [])
  | x :: l, cols, row => match evalE x cols row with
    | some (v, f) => if f = 0 then (match evalL l cols row with
      | some (g, vs) => some (g, v :: vs)
      | none => none) else some (f, [])
    | none => none
end
theorem evalE_un (e : Xpr) (cols : List Col) (row : List Val) : evalE e cols row = match evalL e.l cols row with
    | some (f, vs) => chk (decide (e.l.length ≤ maxApp)) (if f = 0 then efin e cols row vs (vs.any isNull) else some (⟨0, 0, []⟩, f))
    | none => none := by
  cases e
  simp only [evalE, Xpr.l]
  rfl
def evalE_F : FT [.sv .expr, .sl .col false, .sl .val false] [.sv .val, .int .i64] := fun x => evalE x.1 x.2.1 x.2.2
theorem eval_loop {R : Type} {rf : FT [.sv .expr, .sl .col false, .sl .val false] [.sv .val, .int .i64]} {kx : Ex → evalE_0_V → Option R} {cols : List Col} {row : List Val} {e : Xpr} {ga : Int → Option R} {gb : List Val → Bool → Option R} (hn : ln e.l.length) (hm : e.l.length ≤ maxApp) (hrf : ∀ x, x ∈ e.l → ∀ r, evalE x cols row = some r → rf (x, cols, row) = some r) (h1 : ∀ f vs u j, kx .ret (cols, row, f, vs, u, e.l, (e.l.length : Int), j, e, ⟨0, 0, []⟩) = ga f) (h2 : ∀ vs u j z, kx (.exit 0) (cols, row, 0, vs, u, e.l, (e.l.length : Int), j, e, z) = gb vs u) : ∀ (k i : Nat) (acc : List Val) (u : Bool) z f vs, acc.length = i → i ≤ e.l.length → e.l.length - i < k → evalL (e.l.drop i) cols row = some (f, vs) → iter (fun rec => evalE_0 rf rec kx) k (cols, row, 0, acc, u, e.l, (e.l.length : Int), (i : Int), e, z) = if f = 0 then gb (acc ++ vs) (u || vs.any isNull) else ga f
  | 0, i, _, _, _, _, _, _, _, h, _ => by omega
  | k + 1, i, acc, u, z, f, vs, ha, hi, h, hev => by
    rw [iter_s]
    by_cases hl : i < e.l.length
    · rw [drop_cons hl] at hev
      simp only [evalL] at hev
      split at hev
      · rename_i v f' hx
        have hr := hrf _ (List.getElem_mem hl) _ hx
        simp only [evalE_0, at_nat (c := .expr) hl, inb_t hl, expr_eta, hr, Option.bind_some, chk, cond_t, Bool.cond_decide]
        rw [if_pos (by omega)]
        split at hev
        · rename_i hf
          subst hf
          split at hev
          · rename_i g vs' hrest
            simp only [Option.some.injEq, Prod.mk.injEq] at hev
            obtain ⟨rfl, rfl⟩ := hev
            have ih := fun u => eval_loop hn hm hrf h1 h2 k (i + 1) (acc ++ [v]) u z g vs' (by simp [ha]) (by omega) (by omega) hrest
            rw [if_pos (by simp only [maxApp] at *; omega)]
            simp only [decide_true, Bool.not_true, cond_f, wr_succ hl hn, ih, List.append_assoc, List.singleton_append, List.any_cons]
            cases u <;> simp [isNull]
          · cases hev
        · rename_i hf
          simp only [Option.some.injEq, Prod.mk.injEq] at hev
          obtain ⟨rfl, rfl⟩ := hev
          rw [decide_eq_false hf, if_neg hf]
          simp only [Bool.not_false, cond_t, h1]
      · cases hev
    · rw [List.drop_eq_nil_of_le (by omega)] at hev
      simp only [evalL, Option.some.injEq, Prod.mk.injEq] at hev
      obtain ⟨rfl, rfl⟩ := hev
      simp only [evalE_0, h2, Bool.cond_decide]
      rw [if_neg (by omega)]
      simp
theorem evalE_all (k : Nat) : ∀ (n : Nat) (e : Xpr) (cols : List Col) (row : List Val) r, BdExpr e → esize e ≤ n → esize e ≤ k → evalE e cols row = some r → iter (evalE_body k) n (e, cols, row) = some r
  | 0, e, _, _, _, _, h, _, _ => by have := esize_pos e; omega
  | n + 1, e, cols, row, r, hb, h, hk, he => by
    obtain ⟨hb4, hb5⟩ := bd_ls hb
    rw [esize_eq] at h hk
    have hl := esizes_len e.l
    have hrf : ∀ x, x ∈ e.l → ∀ r, evalE x cols row = some r → iter (evalE_body k) n (x, cols, row) = some r := fun x hx r hr => evalE_all k n x cols row r (hb5 x hx) (by have := esize_mem hx; omega) (by have := esize_mem hx; omega) hr
    rw [iter_s]
    simp only [evalE_body]
    rw [evalE_un] at he
    split at he
    · rename_i f vs hev
      obtain ⟨hc, he⟩ := chk_some he
      simp only [decide_eq_true_eq] at hc
      refine (eval_loop (ga := fun f => some (⟨0, 0, []⟩, f)) (gb := fun vs u => efin e cols row vs u) hb4 hc hrf ?_ ?_ k 0 [] false _ f vs rfl (Nat.zero_le _) (by omega) (by simpa using hev)).trans ?_
      · exact fun _ _ _ _ => rfl
      · exact fun _ _ _ _ => rfl
      · simpa using he
    · cases he
theorem evalE_ok : FnOk Tryd.prog elT glT 29 [.sv .expr, .sl .col false, .sl .val false] [.sv .val, .int .i64] evalE_F := by
  refine .fin (ι := Nat) 0 (F := fun n => iter (evalE_body n) n) (fun n => FnOk.rec' (Sx.enters_of Tryd.func29 rfl rfl) (fun rf hrf => evalE_run n rf hrf) n) fun (e, cols, row) r hb hx => ⟨esize e, ?_⟩
  exact evalE_all (esize e) (esize e) e cols row r hb.1 (Nat.le_refl _) (Nat.le_refl _) hx
end Go.Proofs.YtlhebakbbfmiiaaDoor

/- What the value of an expression is, if it may be, has a kind, and the row fits; the whole of reckon; the reference's check of a value. -/
namespace Go.Proofs.YtlhebakbbfmiiaaDoor
open Go.Ax
theorem parts_spec (k : Int) : (parts k = 0 ∧ (k = 1 ∨ k = 2)) ∨ (parts k = 1 ∧ (k = 3 ∨ k = 15 ∨ k = 16)) ∨ (parts k = 2 ∧ 4 ≤ k ∧ k ≤ 14) ∨ parts k = -1 := by
  by_cases h1 : k = 1
  · subst h1; left; decide
  by_cases h2 : k = 2
  · subst h2; left; decide
  by_cases h3 : k = 3
  · subst h3; right; left; decide
  by_cases h15 : k = 15
  · subst h15; right; left; decide
  by_cases h16 : k = 16
  · subst h16; right; left; decide
  right; right
  by_cases h : 4 ≤ k ∧ k ≤ 14
  · left
    refine ⟨?_, h⟩
    have : k = 4 ∨ k = 5 ∨ k = 6 ∨ k = 7 ∨ k = 8 ∨ k = 9 ∨ k = 10 ∨ k = 11 ∨ k = 12 ∨ k = 13 ∨ k = 14 := by omega
    rcases this with rfl | rfl | rfl | rfl | rfl | rfl | rfl | rfl | rfl | rfl | rfl <;> decide
  · right
    have hm : mget signsL k = [] := by
      simp only [signsL, mget]
      rw [decide_eq_false (by omega), decide_eq_false (by omega), decide_eq_false (by omega), decide_eq_false (by omega), decide_eq_false (by omega), decide_eq_false (by omega), decide_eq_false (by omega), decide_eq_false (by omega), decide_eq_false (by omega), decide_eq_false (by omega), decide_eq_false (by omega)]
    simp [parts, hm, h1, h2, h3, h15, h16]
theorem allFit_get : ∀ {cols : List Col} {row : List Val}, allFit cols row = true → ∀ (i : Nat) (h1 : i < cols.length) (h2 : i < row.length), vfits row[i] cols[i].kind = true
  | [], _, _, i, h1, _ => by simp at h1
  | _ :: _, [], _, i, _, h2 => by simp at h2
  | c :: cs, v :: vs, h, i, h1, h2 => by
    simp only [allFit, Bool.and_eq_true] at h
    cases i with
    | zero => exact h.1
    | succ i => exact allFit_get h.2 i (by simpa using h1) (by simpa using h2)
theorem vfits_iff {v : Val} {k : Int} : vfits v k = true ↔ vright v = true ∧ (v.kind = 1 ∨ v.kind = k) := by
  simp only [vfits]
  cases vright v <;> simp
theorem vcheck_iff {v : Val} : vcheck v = 0 ↔ vright v = true := by
  simp only [vcheck]
  cases vright v <;> simp
theorem truth_right (b : Bool) : vright (truth b) = true ∧ (truth b).kind = 2 := by cases b <;> decide
theorem null_right : vright ⟨1, 0, []⟩ = true := by decide
theorem int_right (n : Int) : vright ⟨3, n, []⟩ = true := by simp [vright]
theorem vadd_e (a b : Int) : (vadd a b).2 = 0 ∨ (vadd a b).2 = 20 := by
  simp only [vadd]
  cases decide (decide (a < wr .i64 (a + b)) = decide (0 < b)) <;> simp
theorem vsub_e (a b : Int) : (vsub a b).2 = 0 ∨ (vsub a b).2 = 20 := by
  simp only [vsub]
  cases decide (decide (wr .i64 (a - b) < a) = decide (0 < b)) <;> simp
theorem vmul_e (a b : Int) : (vmul a b).2 = 0 ∨ (vmul a b).2 = 20 := by
  simp only [vmul]
  generalize decide (0 < (mul64 (vsize a) (vsize b)).1) = p
  generalize decide ((mul64 (vsize a) (vsize b)).2 = 9223372036854775808) = q
  generalize decide (9223372036854775808 < (mul64 (vsize a) (vsize b)).2) = r
  generalize (!decide ((decide (a < 0)) = (decide (b < 0)))) = t
  cases p <;> cases q <;> cases r <;> cases t <;> simp
theorem rsum_or (k a b : Int) : (∃ n, rsum k a b = (⟨3, n, []⟩, 0)) ∨ rsum k a b = (⟨0, 0, []⟩, 20) := by
  have h1 := vadd_e a b
  have h2 := vsub_e a b
  have h3 := vmul_e a b
  have h4 := vsub_e 0 a
  simp only [rsum, Bool.cond_decide]
  split
  · rcases h1 with h | h <;> simp [h]
  · split
    · rcases h2 with h | h <;> simp [h]
    · split
      · rcases h3 with h | h <;> simp [h]
      · rcases h4 with h | h <;> simp [h]
theorem logic_or (k : Int) (l : List Val) : (∃ b, logic k l = truth b) ∨ logic k l = ⟨1, 0, []⟩ := by
  simp only [logic]
  cases l.any fun v => decide (v = truth (decide (k = 5)))
  · cases l.any isNull
    · exact .inl ⟨_, rfl⟩
    · exact .inr rfl
  · exact .inl ⟨_, rfl⟩
/-- a value of a kind, or no room -/
def Good (v : Val) (f k : Int) : Prop := (f = 0 ∧ vright v = true ∧ (v.kind = 1 ∨ v.kind = k)) ∨ (f = 20 ∧ v = ⟨0, 0, []⟩)
theorem good_truth (b : Bool) : Good (truth b) 0 2 := .inl ⟨rfl, (truth_right b).1, .inr (truth_right b).2⟩
theorem good_null (k : Int) : Good ⟨1, 0, []⟩ 0 k := .inl ⟨rfl, null_right, .inl rfl⟩
theorem good_sum (k a b : Int) : Good (rsum k a b).1 (rsum k a b).2 3 := by
  rcases rsum_or k a b with ⟨n, h⟩ | h
  · rw [h]; exact .inl ⟨rfl, int_right n, .inr rfl⟩
  · rw [h]; exact .inr ⟨rfl, rfl⟩
theorem good_logic (k : Int) (l : List Val) : Good (logic k l) 0 2 := by
  rcases logic_or k l with ⟨b, h⟩ | h
  · rw [h]; exact good_truth b
  · rw [h]; exact good_null 2
theorem eright_parts {e : Xpr} {m : Int} (h : eright e m = true) : (e.l.length : Int) = parts e.kind ∧ eok e.kind e.v e.name = true ∧ erights e.l (wr .i64 (m - 1)) = true := by
  rw [eright_un] at h
  simp only [Bool.and_eq_true, decide_eq_true_eq] at h
  exact ⟨h.1.1.2, h.1.2, h.2⟩
theorem kfin2 {e : Xpr} {cols : List Col} {a b : Int} (h : (kfin e cols a b).2 = 0) (h3 : e.kind = 3 ∨ e.kind = 4 ∨ e.kind = 5) : kfin e cols a b = (2, 0) := by
  simp only [kfin] at h ⊢
  rw [if_neg (by omega), if_neg (by omega), if_neg (by omega), if_pos h3] at h ⊢
  split at h
  · rename_i hc; rw [if_pos hc]
  · simp at h
theorem kfin3 {e : Xpr} {cols : List Col} {a b : Int} (h : (kfin e cols a b).2 = 0) (h3 : e.kind = 12 ∨ e.kind = 13 ∨ e.kind = 14 ∨ e.kind = 15) : kfin e cols a b = (3, 0) := by
  simp only [kfin] at h ⊢
  rw [if_neg (by omega), if_neg (by omega), if_neg (by omega), if_neg (by omega), if_pos h3] at h ⊢
  split at h
  · rename_i hc; rw [if_pos hc]
  · simp at h
theorem kfin6 {e : Xpr} {cols : List Col} {a b : Int} (h : (kfin e cols a b).2 = 0) (h3 : 6 ≤ e.kind ∧ e.kind ≤ 11) : kfin e cols a b = (2, 0) := by
  simp only [kfin] at h ⊢
  rw [if_neg (by omega), if_neg (by omega), if_neg (by omega), if_neg (by omega), if_neg (by omega)] at h ⊢
  split at h
  · rename_i hc; rw [if_pos hc]
  · simp at h
theorem kfin16 {e : Xpr} {cols : List Col} {a b : Int} (h3 : e.kind = 16) : kfin e cols a b = (2, 0) := by
  simp only [kfin]
  rw [if_neg (by omega), if_neg (by omega), if_pos h3]
theorem evalE_good {cols : List Col} {row : List Val} (hf : allFit cols row = true) : ∀ (n : Nat) (e : Xpr) (m : Int), esize e ≤ n → eright e m = true → (kindE e cols).2 = 0 → ∃ v f, evalE e cols row = some (v, f) ∧ Good v f (kindE e cols).1
  | 0, e, _, h, _, _ => by have := esize_pos e; omega
  | n + 1, e, m, h, hr, hk => by
    obtain ⟨hp, hok, hs⟩ := eright_parts hr
    rw [esize_eq] at h
    rw [kindE_un] at hk ⊢
    rw [evalE_un]
    have i1 : ∀ v : Val, inb 0 [v].length = true := fun v => rfl
    have i2 : ∀ v u : Val, inb 0 [v, u].length = true := fun v u => rfl
    have i3 : ∀ v u : Val, inb 1 [v, u].length = true := fun v u => rfl
    rcases parts_spec e.kind with ⟨h0, hk0⟩ | ⟨h0, hk1⟩ | ⟨h0, hk2⟩ | h0
    · -- no parts
      have hl : e.l = [] := List.eq_nil_of_length_eq_zero (by omega)
      rw [hl] at hk ⊢
      simp only [kindL, kres, evalL] at hk ⊢
      have hc : chk (decide (([] : List Xpr).length ≤ maxApp)) = fun x : Option (Val × Int) => x := rfl
      rw [hc]
      simp only [if_true]
      rcases hk0 with h1 | h2
      · refine ⟨e.v, 0, by simp [efin, h1], .inl ⟨rfl, ?_, .inr ?_⟩⟩
        · simp only [eok, h1] at hok
          simp only [decide_true, cond_t, Bool.and_eq_true, decide_eq_true_eq] at hok
          exact vcheck_iff.1 hok.1.1
        · simp [kfin, h1]
      · simp only [kfin, h2] at hk ⊢
        simp only [show ¬ ((2 : Int) = 1) by decide, if_false, if_true] at hk ⊢
        by_cases hfd : find cols e.name < 0
        · simp [hfd] at hk
        · rw [if_neg hfd]
          have hlen := allFit_len hf
          have hrg := find_range cols e.name
          obtain ⟨i, hi⟩ : ∃ i : Nat, find cols e.name = (i : Int) := ⟨(find cols e.name).toNat, by omega⟩
          have h1 : i < cols.length := by omega
          have h2' : i < row.length := by omega
          have hfit := allFit_get hf i h1 h2'
          rw [vfits_iff] at hfit
          refine ⟨row[i], 0, ?_, .inl ⟨rfl, hfit.1, ?_⟩⟩
          · simp only [efin, h2]
            rw [hi, inb_t h2', at_nat (c := .val) h2']
            rfl
          · rw [hi, at_nat (c := .col) h1]
            exact hfit.2
    · -- one part
      obtain ⟨x, hl⟩ : ∃ x, e.l = [x] := List.length_eq_one_iff.1 (by omega)
      rw [hl] at hk hs ⊢
      simp only [kindL, kres, erights, Bool.and_true] at hk hs ⊢
      have hx0 : (kindE x cols).2 = 0 := by
        by_cases hx : (kindE x cols).2 = 0
        · exact hx
        · rw [if_neg hx] at hk; exact absurd hk hx
      rw [if_pos hx0] at hk ⊢
      obtain ⟨v, f, hv, hg⟩ := evalE_good hf n x _ (by rw [hl] at h; simp only [esizes] at h; omega) hs hx0
      simp only [evalL, hv]
      rcases hg with ⟨rfl, hg⟩ | ⟨rfl, rfl⟩
      · simp only [if_true]
        have hc : chk (decide (([x] : List Xpr).length ≤ maxApp)) = fun y : Option (Val × Int) => y := rfl
        rw [hc]
        simp only [efin]
        have at0 : at' .val [v] 0 = v := rfl
        rcases hk1 with h3 | h15 | h16
        · rw [kfin2 hk (.inl h3)]
          simp only [h3, show decide ((3 : Int) = 1) = false from rfl, show decide ((3 : Int) = 2) = false from rfl, show decide ((3 : Int) = 16) = false from rfl, show decide ((3 : Int) = 4) = false from rfl, show decide ((3 : Int) = 5) = false from rfl, cond_f, decide_true, cond_t, i1, chk, at0]
          cases [v].any isNull
          · exact ⟨_, _, rfl, good_truth _⟩
          · exact ⟨_, _, rfl, good_null _⟩
        · rw [kfin3 hk (.inr (.inr (.inr h15)))]
          simp only [h15, show decide ((15 : Int) = 1) = false from rfl, show decide ((15 : Int) = 2) = false from rfl, show decide ((15 : Int) = 16) = false from rfl, show decide ((15 : Int) = 3) = false from rfl, show decide ((15 : Int) = 4) = false from rfl, show decide ((15 : Int) = 5) = false from rfl, cond_f, decide_true, cond_t, i1, chk, at0]
          cases [v].any isNull
          · exact ⟨_, _, rfl, good_sum _ _ _⟩
          · exact ⟨_, _, rfl, good_null _⟩
        · rw [kfin16 h16]
          simp only [h16, show decide ((16 : Int) = 1) = false from rfl, show decide ((16 : Int) = 2) = false from rfl, decide_true, cond_f, cond_t]
          exact ⟨_, _, rfl, good_truth _⟩
      · exact ⟨_, _, rfl, .inr ⟨rfl, rfl⟩⟩
    · -- two parts
      obtain ⟨x, y, hl⟩ : ∃ x y, e.l = [x, y] := by
        match hq : e.l, (show e.l.length = 2 by omega) with
        | [x, y], _ => exact ⟨x, y, rfl⟩
      rw [hl] at hk hs ⊢
      simp only [kindL, kres, erights, Bool.and_true, Bool.and_eq_true] at hk hs ⊢
      have hx0 : (kindE x cols).2 = 0 := by
        by_cases hx : (kindE x cols).2 = 0
        · exact hx
        · rw [if_neg hx] at hk; exact absurd hk hx
      rw [if_pos hx0] at hk ⊢
      have hy0 : (kindE y cols).2 = 0 := by
        by_cases hy : (kindE y cols).2 = 0
        · exact hy
        · rw [if_neg hy] at hk; exact absurd hk hy
      rw [if_pos hy0] at hk ⊢
      have hsz : esize x ≤ n ∧ esize y ≤ n := by rw [hl] at h; simp only [esizes] at h; omega
      obtain ⟨v, f, hv, hg⟩ := evalE_good hf n x _ hsz.1 hs.1 hx0
      obtain ⟨u, g, hu, hg'⟩ := evalE_good hf n y _ hsz.2 hs.2 hy0
      simp only [evalL, hv, hu]
      rcases hg with ⟨rfl, hg⟩ | ⟨rfl, rfl⟩
      · simp only [if_true]
        rcases hg' with ⟨rfl, hg'⟩ | ⟨rfl, rfl⟩
        · simp only [if_true]
          have hc : chk (decide (([x, y] : List Xpr).length ≤ maxApp)) = fun z : Option (Val × Int) => z := rfl
          rw [hc]
          simp only [efin]
          have at0 : at' .val [v, u] 0 = v := rfl
          have at1 : at' .val [v, u] 1 = u := rfl
          rw [decide_eq_false (show ¬ e.kind = 1 by omega), decide_eq_false (show ¬ e.kind = 2 by omega), decide_eq_false (show ¬ e.kind = 16 by omega), decide_eq_false (show ¬ e.kind = 3 by omega), decide_eq_false (show ¬ e.kind = 15 by omega)]
          simp only [cond_f, i2, i3, chk, cond_t, at0, at1]
          by_cases h45 : e.kind = 4 ∨ e.kind = 5
          · rw [kfin2 hk (.inr h45)]
            rcases h45 with h4 | h5
            · simp only [h4, decide_true, cond_t]
              exact ⟨_, _, rfl, good_logic _ _⟩
            · simp only [h5, show decide ((5 : Int) = 4) = false from rfl, decide_true, cond_t, cond_f]
              exact ⟨_, _, rfl, good_logic _ _⟩
          · rw [decide_eq_false (show ¬ e.kind = 4 by omega), decide_eq_false (show ¬ e.kind = 5 by omega)]
            simp only [cond_f]
            cases hn : [v, u].any isNull
            · simp only [cond_f]
              by_cases h12 : 12 ≤ e.kind
              · rw [kfin3 hk (by omega), decide_eq_true h12]
                exact ⟨_, _, rfl, good_sum _ _ _⟩
              · rw [kfin6 hk (by omega), decide_eq_false h12]
                exact ⟨_, _, rfl, good_truth _⟩
            · exact ⟨_, _, rfl, good_null _⟩
        · exact ⟨_, _, rfl, .inr ⟨rfl, rfl⟩⟩
      · exact ⟨_, _, rfl, .inr ⟨rfl, rfl⟩⟩
    · omega
end Go.Proofs.YtlhebakbbfmiiaaDoor

/- The whole of reckon; the reference's check of a value; what the laws of chapter 15 have in their heads. -/
namespace Go.Proofs.YtlhebakbbfmiiaaDoor
open Go.Ax
theorem kfin_err {e : Xpr} {cols : List Col} {a b : Int} (h : (kfin e cols a b).2 ≠ 0) : (kfin e cols a b).1 = 0 := by
  have key : (kfin e cols a b).2 = 0 ∨ (kfin e cols a b).1 = 0 := by
    simp only [kfin]
    repeat' split
    all_goals simp
  exact key.resolve_left h
theorem kindE_err {e : Xpr} {cols : List Col} (h : (kindE e cols).2 ≠ 0) : (kindE e cols).1 = 0 := by
  rw [kindE_un] at h ⊢
  match hl : kindL e.l cols with
  | [] => rw [hl] at h; exact kfin_err h
  | [(a, f)] =>
    rw [hl] at h
    simp only [kres] at h ⊢
    split
    · rename_i hf; rw [if_pos hf] at h; exact kfin_err h
    · rfl
  | (a, f) :: (b, g) :: t =>
    rw [hl] at h
    simp only [kres] at h ⊢
    split
    · rename_i hf
      rw [if_pos hf] at h
      split
      · rename_i hg; rw [if_pos hg] at h; exact kfin_err h
      · rfl
    · rfl
/-! ## exchequer/reckon.Eval -/
def evalX_px (R : Type) : Px R := ⟨ttOf ttL, glT, callT [(25, callOr [.sv .expr] [.int .i64] aexpr_F), (17, callOr [.sl .col false, .sl .val false] [.bool] rowfits_F), (26, callOr [.sv .expr, .sl .col false] [.int .i64, .int .i64] kindE_F), (29, callOr [.sv .expr, .sl .col false, .sl .val false] [.sv .val, .int .i64] evalE_F)], callQT [], loopT []⟩
def evalX_body (x : HV [.sv .expr, .sl .col false, .sl .val false]) : Option (HV [.sv .val, .int .i64]) := match x with
 | (e, cols, row) =>
  cond (!decide ((aexpr e) = 0)) (
   some ((Val.mk 0 0 []), 2)) (
   cond (!(rowfits cols row)) (
    some ((Val.mk 0 0 []), 2)) (
    cond (!decide ((kindE e cols).2 = 0)) (
     some ((Val.mk 0 0 []), (kindE e cols).2)) (
     (evalE e cols row).bind fun (x, x1) =>
      some (x, x1))))
theorem evalX_eq : ∀ (x : HV [.sv .expr, .sl .col false, .sl .val false]), runF (evalX_px _) Tryd.f13 [.sv .expr, .sl .col false, .sl .val false] [.sv .val, .int .i64] x some = evalX_body x
  | (e, cols, row) => by kernel_rfl
theorem evalX_run : FnOk Tryd.prog elT glT 13 [.sv .expr, .sl .col false, .sl .val false] [.sv .val, .int .i64] (evalX_body) := by
  refine fnOk_run Tryd.func13 rfl (by kernel_rfl) follows (by kernel_rfl) (n := 0) (by kernel_rfl) (px := evalX_px _) (fun cx hP hel hgl => ?_) (evalX_eq)
  have hp0 : PxOk cx (evalX_px (HV [.sv .val, .int .i64])) := ⟨fun t => by rw [hP, hel]; exact tt_ok ttL_ok t, by rw [hgl]; rfl⟩
  have hc0 : CallOk cx (evalX_px (HV [.sv .val, .int .i64])) := callT_ok rfl (cfs_cons (cf_or (by rw [hP, hel, hgl]; exact aexpr_ok) (by kernel_rfl)) (cfs_cons (cf_or (by rw [hP, hel, hgl]; exact rowfits_ok) (by kernel_rfl)) (cfs_cons (cf_or (by rw [hP, hel, hgl]; exact kindE_ok) (by kernel_rfl)) (cfs_cons (cf_or (by rw [hP, hel, hgl]; exact evalE_ok) (by kernel_rfl)) cfs_nil))))
  have hq0 : CallQOk cx (evalX_px (HV [.sv .val, .int .i64])) := callQT_ok rfl cqfs_nil
  exact ⟨hp0, hc0, hq0, all0⟩
def evalX (e : Xpr) (cols : List Col) (row : List Val) : Val × Int := cond (!decide (aexpr e = 0)) (⟨0, 0, []⟩, 2) (cond (!rowfits cols row) (⟨0, 0, []⟩, 2) (cond (!decide ((kindE e cols).2 = 0)) (⟨0, 0, []⟩, (kindE e cols).2) ((evalE e cols row).getD (⟨0, 0, []⟩, 0))))
def evalX_F : FT [.sv .expr, .sl .col false, .sl .val false] [.sv .val, .int .i64] := fun x => some (evalX x.1 x.2.1 x.2.2)
theorem aexpr_iff {e : Xpr} : aexpr e = 0 ↔ eright e 30 = true := by
  simp only [aexpr]
  cases eright e 30 <;> simp
/-- what Eval answers -/
theorem evalX_spec (e : Xpr) (cols : List Col) (row : List Val) : (aexpr e ≠ 0 ∨ rowfits cols row = false) ∧ evalX e cols row = (⟨0, 0, []⟩, 2) ∨ (aexpr e = 0 ∧ rowfits cols row = true ∧ (kindE e cols).2 ≠ 0 ∧ evalX e cols row = (⟨0, 0, []⟩, (kindE e cols).2)) ∨ (aexpr e = 0 ∧ rowfits cols row = true ∧ (kindE e cols).2 = 0 ∧ evalE e cols row = some (evalX e cols row) ∧ Good (evalX e cols row).1 (evalX e cols row).2 (kindE e cols).1) := by
  simp only [evalX]
  by_cases h1 : aexpr e = 0
  · rw [decide_eq_true h1]
    cases h2 : rowfits cols row with
    | false => left; simp
    | true =>
      by_cases h3 : (kindE e cols).2 = 0
      · right; right
        obtain ⟨v, f, h4, h5⟩ := evalE_good h2 (esize e) e 30 (Nat.le_refl _) (aexpr_iff.1 h1) h3
        rw [h4]
        refine ⟨h1, rfl, h3, ?_, ?_⟩
        · simp [h3]
        · simpa [h3] using h5
      · right; left
        refine ⟨h1, rfl, h3, ?_⟩
        simp [h3]
  · left
    refine ⟨.inl h1, ?_⟩
    simp [h1]
theorem evalX_ok : FnOk Tryd.prog elT glT 13 [.sv .expr, .sl .col false, .sl .val false] [.sv .val, .int .i64] evalX_F := .fin0 evalX_run fun (e, cols, row) r _ hx => by
  simp only [evalX_F, Option.some.injEq] at hx
  subst hx
  simp only [evalX_body]
  rcases evalX_spec e cols row with ⟨h, h2⟩ | ⟨h1, h2, h3, h4⟩ | ⟨h1, h2, h3, h4, _⟩
  · rw [h2]
    by_cases h1 : aexpr e = 0
    · rw [h.resolve_left (by simpa using h1)]; simp [h1]
    · simp [h1]
  · rw [h4, h2]; simp [h1, h3]
  · rw [h2, h4]; simp [h1, h3]
/-! ## exchequer/reckon.Holds -/
def holds_px (R : Type) : Px R := ⟨ttOf ttL, glT, callT [(13, callOr [.sv .expr, .sl .col false, .sl .val false] [.sv .val, .int .i64] evalX_F), (26, callOr [.sv .expr, .sl .col false] [.int .i64, .int .i64] kindE_F), (31, callOr [.int .i64, .int .i64] [.bool] rfits_F)], callQT [(32, callOrQ [.bool] [.sv .val] truth_F)], loopT []⟩
def holds_body (x : HV [.sv .expr, .sl .col false, .sl .val false]) : Option (HV [.bool, .int .i64]) := match x with
 | (e, cols, row) =>
  cond (!decide ((evalX e cols row).2 = 0)) (
   some (false, (evalX e cols row).2)) (
   cond (!(rfits ((kindE e cols).1) 2)) (
    some (false, 151)) (
    some (decide (((evalX e cols row).1) = (truth true)), 0)))
theorem holds_eq : ∀ (x : HV [.sv .expr, .sl .col false, .sl .val false]), runF (holds_px _) Tryd.f15 [.sv .expr, .sl .col false, .sl .val false] [.bool, .int .i64] x some = holds_body x
  | (e, cols, row) => by kernel_rfl
theorem holds_run : FnOk Tryd.prog elT glT 15 [.sv .expr, .sl .col false, .sl .val false] [.bool, .int .i64] (holds_body) := by
  refine fnOk_run Tryd.func15 rfl (by kernel_rfl) follows (by kernel_rfl) (n := 0) (by kernel_rfl) (px := holds_px _) (fun cx hP hel hgl => ?_) (holds_eq)
  have hp0 : PxOk cx (holds_px (HV [.bool, .int .i64])) := ⟨fun t => by rw [hP, hel]; exact tt_ok ttL_ok t, by rw [hgl]; rfl⟩
  have hc0 : CallOk cx (holds_px (HV [.bool, .int .i64])) := callT_ok rfl (cfs_cons (cf_or (by rw [hP, hel, hgl]; exact evalX_ok) (by kernel_rfl)) (cfs_cons (cf_or (by rw [hP, hel, hgl]; exact kindE_ok) (by kernel_rfl)) (cfs_cons (cf_or (by rw [hP, hel, hgl]; exact rfits_ok) (by kernel_rfl)) cfs_nil)))
  have hq0 : CallQOk cx (holds_px (HV [.bool, .int .i64])) := callQT_ok rfl (cqfs_cons (cqf_or (by rw [hP, hel, hgl]; exact truth_ok) (by kernel_rfl)) cqfs_nil)
  exact ⟨hp0, hc0, hq0, all0⟩
def holds (e : Xpr) (cols : List Col) (row : List Val) : Bool × Int :=
  cond (!decide ((evalX e cols row).2 = 0)) (
   (false, (evalX e cols row).2)) (
   cond (!(rfits ((kindE e cols).1) 2)) (
    (false, 151)) (
    (decide (((evalX e cols row).1) = (truth true)), 0)))
theorem holds_tot (x : HV [.sv .expr, .sl .col false, .sl .val false]) : holds_body x = some (holds x.1 x.2.1 x.2.2) := by
  first
    | exact rfl
    | simp only [holds_body, holds, cond_some]
def holds_F : FT [.sv .expr, .sl .col false, .sl .val false] [.bool, .int .i64] := fun x => some (holds x.1 x.2.1 x.2.2)
theorem holds_ok : FnOk Tryd.prog elT glT 15 [.sv .expr, .sl .col false, .sl .val false] [.bool, .int .i64] holds_F := .fin0 holds_run fun x _ _ hx => (holds_tot x).trans hx
/-! ## exchequer/exchequerref02.Check -/
def rcheck_0_sg : Sig := ⟨88, [(2, .int .i64), (5, .int .i64)], [(1, .ptr 0 0)], [(0, .one (.sv .val))], 1, 0, 0, [], []⟩
abbrev rcheck_0_V := Int × Int × Val
def rcheck_0 {R : Type} (rec : rcheck_0_V → Option R) (kx : Ex → rcheck_0_V → Option R) (v : rcheck_0_V) : Option R := match v with
 | (v1, v2, w) =>
  cond (decide (v2 < (w.s.length : Int))) (
   cond (decide (w.kind = 4)) (
    chk (inb v2 w.s.length) (
     cond (decide ((bat w.s v2) < 32)) (
      kx .ret (2, v2, w)) (
      chk (inb v2 w.s.length) (
       cond (decide (127 ≤ (bat w.s v2))) (
        kx .ret (2, v2, w)) (
        rec (v1, (wr .i64 (v2 + 1)), w)))))) (
    kx (.exit 0) (v1, v2, w))) (
   kx (.exit 0) (v1, v2, w))
def rcheck_px (R : Type) (k : Nat) : Px R := ⟨ttOf ttL, glT, callT [], callQT [], loopT [(6, loopOr k rcheck_0_sg (rcheck_0))]⟩
theorem rcheck_0_eq (R : Type) (k : Nat) : ∀ (fr : List Fr) (rec : rcheck_0_V → Option R) (kx : Ex → rcheck_0_V → Option R) (v : rcheck_0_V), round (rcheck_px R k) rcheck_0_sg (lp Tryd.f23 0) fr rec kx v = rcheck_0 rec kx v
  | fr, rec, kx, (v1, v2, w) => by kernel_rfl
def rcheck_body (k : Nat) (x : HV [.sv .val]) : Option (HV [.int .i64]) := match x with
 | v =>
  let j4 := fun (p4 : Bool) =>
   let j3 := fun (p6 : Bool) =>
    let j2 := fun (_ : Unit) =>
     iter (fun rec => rcheck_0 rec (fun e v => match v with | (v3, _, _) => match e with
      | .ret =>
       some v3
      | .exit 0 =>
       some 0
      | _ => none)) k (0, 0, v)
    let j1 := fun (p7 : Bool) =>
     let j := fun (p9 : Bool) =>
      cond (p9) (
       some 2) (
       cond (!p6) (
        cond (!decide (v.s = [])) (
         some 2) (
         cond (decide (1000 < (v.s.length : Int))) (
          some 2) (
          j2 ()))) (
        cond (decide (1000 < (v.s.length : Int))) (
         some 2) (
         j2 ())))
     cond (p7) (
      j true) (
      cond (!p4) (
       j (!decide (v.n = 0))) (
       j false))
    cond (decide (v.kind < 1)) (
     j1 true) (
     j1 (decide (5 < v.kind)))
   cond (decide (v.kind = 4)) (
    j3 true) (
    j3 (decide (v.kind = 5)))
  cond (decide (v.kind = 2)) (
   cond (decide (v.n = 0)) (
    j4 true) (
    cond (decide (v.n = 1)) (
     j4 true) (
     j4 (decide (v.kind = 3))))) (
   j4 (decide (v.kind = 3)))
theorem rcheck_eq (k : Nat) : ∀ (x : HV [.sv .val]), runF (rcheck_px _ k) Tryd.f23 [.sv .val] [.int .i64] x some = rcheck_body k x
  | v => by kernel_rfl
theorem rcheck_run (k : Nat) : FnOk Tryd.prog elT glT 23 [.sv .val] [.int .i64] (rcheck_body k) := by
  refine fnOk_run Tryd.func23 rfl (by kernel_rfl) follows (by kernel_rfl) (n := 1) (by kernel_rfl) (px := rcheck_px _ k) (fun cx hP hel hgl => ?_) (rcheck_eq k)
  have hp0 : PxOk cx (rcheck_px (HV [.int .i64]) k) := ⟨fun t => by rw [hP, hel]; exact tt_ok ttL_ok t, by rw [hgl]; rfl⟩
  have hc0 : CallOk cx (rcheck_px (HV [.int .i64]) k) := callT_ok rfl cfs_nil
  have hq0 : CallQOk cx (rcheck_px (HV [.int .i64]) k) := callQT_ok rfl cqfs_nil
  have hlrcheck_0 : LoopOk cx (rcheck_px (HV [.int .i64]) k) (lp Tryd.f23 0) := loop_ok hp0 hc0 hq0 (by rw [hP]; exact follows) (k := k) (s := rcheck_0_sg) (step := rcheck_0) (fun _ _ => by kernel_rfl) (by kernel_rfl) (rcheck_0_eq _ k) (loops_in (n := 0) (by kernel_rfl) all0)
  exact ⟨hp0, hc0, hq0, (allS all0 hlrcheck_0)⟩
abbrev rcheck (v : Val) : Int := vcheck v
def rcheck_F : FT [.sv .val] [.int .i64] := fun x => some (rcheck x)
theorem rcheck_loop {R : Type} {kx : Ex → rcheck_0_V → Option R} {v : Val} {a b : Option R} (hn : ln v.s.length) (h4 : v.kind = 4) (h1 : ∀ j, kx .ret (2, j, v) = a) (h2 : ∀ q j, kx (.exit 0) (q, j, v) = b) : ∀ (k i : Nat) q, i ≤ v.s.length → v.s.length - i < k → iter (fun rec => rcheck_0 rec kx) k (q, (i : Int), v) = cond ((v.s.drop i).all vis) b a
  | 0, i, q, _, h => by omega
  | k + 1, i, q, hi, h => by
    rw [iter_s]
    by_cases hl : i < v.s.length
    · have ih := rcheck_loop hn h4 h1 h2 k (i + 1) q (by omega) (by omega)
      simp only [rcheck_0, wr_succ hl hn, ih, h1, drop_cons hl, bat_nat hl, inb_t hl, List.all_cons, chk, cond_t, Bool.cond_decide]
      rw [if_pos (by omega), if_pos h4]
      simp only [vis]
      split
      · rw [decide_eq_false (by omega)]; rfl
      · split
        · rw [decide_eq_true (by omega), decide_eq_false (by omega)]; rfl
        · rw [decide_eq_true (by omega), decide_eq_true (by omega)]; rfl
    · simp only [rcheck_0, h2, Bool.cond_decide]
      rw [if_neg (by omega), List.drop_eq_nil_of_le (by omega)]
      rfl
theorem rcheck_no {R : Type} {kx : Ex → rcheck_0_V → Option R} {v : Val} {b : Option R} (h4 : ¬ v.kind = 4) (h2 : kx (.exit 0) (0, 0, v) = b) (k : Nat) : iter (fun rec => rcheck_0 rec kx) (k + 1) (0, 0, v) = b := by
  rw [iter_s]
  simp only [rcheck_0, h2, Bool.cond_decide, if_neg h4]
  split <;> rfl
theorem rcheck_ok : FnOk Tryd.prog elT glT 23 [.sv .val] [.int .i64] rcheck_F := .fin 0 rcheck_run fun v r hb hx => ⟨v.s.length + 1, by
  simp only [rcheck_F, Option.some.injEq] at hx
  subst hx
  have e0 : ((0 : Nat) : Int) = 0 := rfl
  have hloop : iter (fun rec => rcheck_0 rec (fun e v => match v with | (v2, _, _) => match e with
      | .ret => some v2
      | .exit 0 => some 0
      | _ => none)) (v.s.length + 1) (0, 0, v) = cond (decide (v.kind = 4) && !visible v.s) (some (2 : Int)) (some 0) := by
    by_cases h4 : v.kind = 4
    · have := rcheck_loop (a := some (2 : Int)) (b := some 0) hb.2.2 h4 (kx := fun e v => match v with | (v2, _, _) => match e with
        | .ret => some v2
        | .exit 0 => some 0
        | _ => none) (fun _ => rfl) (fun _ _ => rfl) (v.s.length + 1) 0 0 (Nat.zero_le _) (by omega)
      rw [e0] at this
      rw [this, decide_eq_true h4, List.drop_zero, visible]
      cases v.s.all vis <;> rfl
    · rw [rcheck_no (b := some 0) h4 rfl, decide_eq_false h4]
      rfl
  simp only [rcheck_body] at hloop ⊢
  rw [hloop]
  have hlen : v.s = [] → ¬ (1000 < (v.s.length : Int)) := fun h => by rw [h]; simp
  have hle : decide ((v.s.length : Int) ≤ 1000) = !decide (1000 < (v.s.length : Int)) := by
    by_cases h : 1000 < (v.s.length : Int)
    · rw [decide_eq_true h, decide_eq_false (by omega)]; rfl
    · rw [decide_eq_false h, decide_eq_true (by omega)]; rfl
  have hs : decide (v.s = []) = true → decide (1000 < (v.s.length : Int)) = false := fun h => decide_eq_false (hlen (of_decide_eq_true h))
  simp only [vcheck, vright, hle]
  generalize decide (1000 < (v.s.length : Int)) = q at *
  generalize decide (v.s = []) = s at *
  generalize visible v.s = w at *
  by_cases hk : v.kind = 1
  · simp only [hk]; cases decide (v.n = 0) <;> cases s <;> simp_all
  by_cases hk2 : v.kind = 2
  · simp only [hk2]; cases decide (v.n = 0) <;> cases decide (v.n = 1) <;> cases s <;> simp_all
  by_cases hk3 : v.kind = 3
  · simp only [hk3]; cases decide (v.n = 0) <;> cases decide (v.n = 1) <;> cases s <;> simp_all
  by_cases hk4 : v.kind = 4
  · simp only [hk4]; cases decide (v.n = 0) <;> cases w <;> cases q <;> simp_all
  by_cases hk5 : v.kind = 5
  · simp only [hk5]; cases decide (v.n = 0) <;> cases q <;> simp_all
  rw [decide_eq_false hk, decide_eq_false hk2, decide_eq_false hk3, decide_eq_false hk4, decide_eq_false hk5]
  by_cases hl : v.kind < 1
  · rw [decide_eq_true hl]; rfl
  · rw [decide_eq_false hl, decide_eq_true (show 5 < v.kind by omega)]; rfl⟩
/-! ## exchequer/exchequerref02.Fits -/
def rfits2_px (R : Type) : Px R := ⟨ttOf ttL, glT, callT [(23, callOr [.sv .val] [.int .i64] rcheck_F)], callQT [], loopT []⟩
def rfits2_body (x : HV [.sv .val, .int .i64]) : Option (HV [.bool]) := match x with
 | (v, kind) =>
  cond (decide ((rcheck v) = 0)) (
   cond (decide (v.kind = 1)) (
    some true) (
    some (decide (v.kind = kind)))) (
   some false)
theorem rfits2_eq : ∀ (x : HV [.sv .val, .int .i64]), runF (rfits2_px _) Tryd.f19 [.sv .val, .int .i64] [.bool] x some = rfits2_body x
  | (v, kind) => by kernel_rfl
theorem rfits2_run : FnOk Tryd.prog elT glT 19 [.sv .val, .int .i64] [.bool] (rfits2_body) := by
  refine fnOk_run Tryd.func19 rfl (by kernel_rfl) follows (by kernel_rfl) (n := 0) (by kernel_rfl) (px := rfits2_px _) (fun cx hP hel hgl => ?_) (rfits2_eq)
  have hp0 : PxOk cx (rfits2_px (HV [.bool])) := ⟨fun t => by rw [hP, hel]; exact tt_ok ttL_ok t, by rw [hgl]; rfl⟩
  have hc0 : CallOk cx (rfits2_px (HV [.bool])) := callT_ok rfl (cfs_cons (cf_or (by rw [hP, hel, hgl]; exact rcheck_ok) (by kernel_rfl)) cfs_nil)
  have hq0 : CallQOk cx (rfits2_px (HV [.bool])) := callQT_ok rfl cqfs_nil
  exact ⟨hp0, hc0, hq0, all0⟩
def rfits2 (v : Val) (kind : Int) : Bool :=
  cond (decide ((rcheck v) = 0)) (
   cond (decide (v.kind = 1)) (
    true) (
    (decide (v.kind = kind)))) (
   false)
theorem rfits2_tot (x : HV [.sv .val, .int .i64]) : rfits2_body x = some (rfits2 x.1 x.2) := by
  first
    | exact rfl
    | simp only [rfits2_body, rfits2, cond_some]
def rfits2_F : FT [.sv .val, .int .i64] [.bool] := fun x => some (rfits2 x.1 x.2)
theorem rfits2_ok : FnOk Tryd.prog elT glT 19 [.sv .val, .int .i64] [.bool] rfits2_F := .fin0 rfits2_run fun x _ _ hx => (rfits2_tot x).trans hx
theorem rfits2_v (v : Val) (k : Int) : rfits2 v k = vfits v k := by
  simp only [rfits2, vfits]
  have : decide (vcheck v = 0) = vright v := by
    cases h : vright v
    · simp [vcheck, h]
    · simp [vcheck, h]
  rw [this]
/-! ## exchequer/exchequerlaw15.value -/
def lvalue_px (R : Type) : Px R := ⟨ttOf ttL, glT, callT [], callQT [], loopT []⟩
def lvalue_body (x : HV [.sv .val]) : Option (HV [.sv .expr]) := match x with
 | v =>
  some (Xpr.mk 1 ⟨v.kind, v.n, v.s⟩ [] [])
theorem lvalue_eq : ∀ (x : HV [.sv .val]), runF (lvalue_px _) Tryd.f20 [.sv .val] [.sv .expr] x some = lvalue_body x
  | v => by kernel_rfl
theorem lvalue_run : FnOk Tryd.prog elT glT 20 [.sv .val] [.sv .expr] (lvalue_body) := by
  refine fnOk_run Tryd.func20 rfl (by kernel_rfl) follows (by kernel_rfl) (n := 0) (by kernel_rfl) (px := lvalue_px _) (fun cx hP hel hgl => ?_) (lvalue_eq)
  have hp0 : PxOk cx (lvalue_px (HV [.sv .expr])) := ⟨fun t => by rw [hP, hel]; exact tt_ok ttL_ok t, by rw [hgl]; rfl⟩
  have hc0 : CallOk cx (lvalue_px (HV [.sv .expr])) := callT_ok rfl cfs_nil
  have hq0 : CallQOk cx (lvalue_px (HV [.sv .expr])) := callQT_ok rfl cqfs_nil
  exact ⟨hp0, hc0, hq0, all0⟩
def lvalue (v : Val) : Xpr :=
  (Xpr.mk 1 ⟨v.kind, v.n, v.s⟩ [] [])
theorem lvalue_tot (x : HV [.sv .val]) : lvalue_body x = some (lvalue x) := by
  first
    | exact rfl
    | simp only [lvalue_body, lvalue, cond_some]
def lvalue_F : FT [.sv .val] [.sv .expr] := fun x => some (lvalue x)
theorem lvalue_ok : FnOk Tryd.prog elT glT 20 [.sv .val] [.sv .expr] lvalue_F := .fin0 lvalue_run fun x _ _ hx => (lvalue_tot x).trans hx
/-! ## exchequer/exchequerlaw15.one -/
def lone_px (R : Type) : Px R := ⟨ttOf ttL, glT, callT [], callQT [], loopT []⟩
def lone_body (x : HV [.int .i64, .sv .expr]) : Option (HV [.sv .expr]) := match x with
 | (kind, a) =>
  some (Xpr.mk kind ⟨0, 0, []⟩ [] [a])
theorem lone_eq : ∀ (x : HV [.int .i64, .sv .expr]), runF (lone_px _) Tryd.f21 [.int .i64, .sv .expr] [.sv .expr] x some = lone_body x
  | (kind, a) => by kernel_rfl
theorem lone_run : FnOk Tryd.prog elT glT 21 [.int .i64, .sv .expr] [.sv .expr] (lone_body) := by
  refine fnOk_run Tryd.func21 rfl (by kernel_rfl) follows (by kernel_rfl) (n := 0) (by kernel_rfl) (px := lone_px _) (fun cx hP hel hgl => ?_) (lone_eq)
  have hp0 : PxOk cx (lone_px (HV [.sv .expr])) := ⟨fun t => by rw [hP, hel]; exact tt_ok ttL_ok t, by rw [hgl]; rfl⟩
  have hc0 : CallOk cx (lone_px (HV [.sv .expr])) := callT_ok rfl cfs_nil
  have hq0 : CallQOk cx (lone_px (HV [.sv .expr])) := callQT_ok rfl cqfs_nil
  exact ⟨hp0, hc0, hq0, all0⟩
def lone (kind : Int) (a : Xpr) : Xpr :=
  (Xpr.mk kind ⟨0, 0, []⟩ [] [a])
theorem lone_tot (x : HV [.int .i64, .sv .expr]) : lone_body x = some (lone x.1 x.2) := by
  first
    | exact rfl
    | simp only [lone_body, lone, cond_some]
def lone_F : FT [.int .i64, .sv .expr] [.sv .expr] := fun x => some (lone x.1 x.2)
theorem lone_ok : FnOk Tryd.prog elT glT 21 [.int .i64, .sv .expr] [.sv .expr] lone_F := .fin0 lone_run fun x _ _ hx => (lone_tot x).trans hx
/-! ## exchequer/exchequerlaw15.two -/
def ltwo_px (R : Type) : Px R := ⟨ttOf ttL, glT, callT [], callQT [], loopT []⟩
def ltwo_body (x : HV [.int .i64, .sv .expr, .sv .expr]) : Option (HV [.sv .expr]) := match x with
 | (kind, a, b) =>
  some (Xpr.mk kind ⟨0, 0, []⟩ [] [a, b])
theorem ltwo_eq : ∀ (x : HV [.int .i64, .sv .expr, .sv .expr]), runF (ltwo_px _) Tryd.f22 [.int .i64, .sv .expr, .sv .expr] [.sv .expr] x some = ltwo_body x
  | (kind, a, b) => by kernel_rfl
theorem ltwo_run : FnOk Tryd.prog elT glT 22 [.int .i64, .sv .expr, .sv .expr] [.sv .expr] (ltwo_body) := by
  refine fnOk_run Tryd.func22 rfl (by kernel_rfl) follows (by kernel_rfl) (n := 0) (by kernel_rfl) (px := ltwo_px _) (fun cx hP hel hgl => ?_) (ltwo_eq)
  have hp0 : PxOk cx (ltwo_px (HV [.sv .expr])) := ⟨fun t => by rw [hP, hel]; exact tt_ok ttL_ok t, by rw [hgl]; rfl⟩
  have hc0 : CallOk cx (ltwo_px (HV [.sv .expr])) := callT_ok rfl cfs_nil
  have hq0 : CallQOk cx (ltwo_px (HV [.sv .expr])) := callQT_ok rfl cqfs_nil
  exact ⟨hp0, hc0, hq0, all0⟩
def ltwo (kind : Int) (a : Xpr) (b : Xpr) : Xpr :=
  (Xpr.mk kind ⟨0, 0, []⟩ [] [a, b])
theorem ltwo_tot (x : HV [.int .i64, .sv .expr, .sv .expr]) : ltwo_body x = some (ltwo x.1 x.2.1 x.2.2) := by
  first
    | exact rfl
    | simp only [ltwo_body, ltwo, cond_some]
def ltwo_F : FT [.int .i64, .sv .expr, .sv .expr] [.sv .expr] := fun x => some (ltwo x.1 x.2.1 x.2.2)
theorem ltwo_ok : FnOk Tryd.prog elT glT 22 [.int .i64, .sv .expr, .sv .expr] [.sv .expr] ltwo_F := .fin0 ltwo_run fun x _ _ hx => (ltwo_tot x).trans hx
/-! ## exchequer/exchequerlaw15.much -/
def much_px (R : Type) : Px R := ⟨ttOf ttL, glT, callT [(24, callOr [.sv .expr, .int .i64] [.int .i64] much1_F)], callQT [], loopT []⟩
def much_body (x : HV [.sv .expr, .sl .col false, .sl .val false]) : Option (HV [.bool]) := match x with
 | (e, cols, row) =>
  cond (decide (400 ≤ (much1 e 400))) (
   some true) (
   cond (decide (60 < (cols.length : Int))) (
    some true) (
    some (decide (60 < (row.length : Int)))))
theorem much_eq : ∀ (x : HV [.sv .expr, .sl .col false, .sl .val false]), runF (much_px _) Tryd.f9 [.sv .expr, .sl .col false, .sl .val false] [.bool] x some = much_body x
  | (e, cols, row) => by kernel_rfl
theorem much_run : FnOk Tryd.prog elT glT 9 [.sv .expr, .sl .col false, .sl .val false] [.bool] (much_body) := by
  refine fnOk_run Tryd.func9 rfl (by kernel_rfl) follows (by kernel_rfl) (n := 0) (by kernel_rfl) (px := much_px _) (fun cx hP hel hgl => ?_) (much_eq)
  have hp0 : PxOk cx (much_px (HV [.bool])) := ⟨fun t => by rw [hP, hel]; exact tt_ok ttL_ok t, by rw [hgl]; rfl⟩
  have hc0 : CallOk cx (much_px (HV [.bool])) := callT_ok rfl (cfs_cons (cf_or (by rw [hP, hel, hgl]; exact much1_ok) (by kernel_rfl)) cfs_nil)
  have hq0 : CallQOk cx (much_px (HV [.bool])) := callQT_ok rfl cqfs_nil
  exact ⟨hp0, hc0, hq0, all0⟩
def much (e : Xpr) (cols : List Col) (row : List Val) : Bool :=
  cond (decide (400 ≤ (much1 e 400))) (
   true) (
   cond (decide (60 < (cols.length : Int))) (
    true) (
    (decide (60 < (row.length : Int)))))
theorem much_tot (x : HV [.sv .expr, .sl .col false, .sl .val false]) : much_body x = some (much x.1 x.2.1 x.2.2) := by
  first
    | exact rfl
    | simp only [much_body, much, cond_some]
def much_F : FT [.sv .expr, .sl .col false, .sl .val false] [.bool] := fun x => some (much x.1 x.2.1 x.2.2)
theorem much_ok : FnOk Tryd.prog elT glT 9 [.sv .expr, .sl .col false, .sl .val false] [.bool] much_F := .fin0 much_run fun x _ _ hx => (much_tot x).trans hx
/-! ## exchequer/exchequerlaw15.known -/
def known_px (R : Type) : Px R := ⟨ttOf ttL, glT, callT [(20, callOr [.sv .val] [.sv .expr] lvalue_F), (22, callOr [.int .i64, .sv .expr, .sv .expr] [.sv .expr] ltwo_F), (13, callOr [.sv .expr, .sl .col false, .sl .val false] [.sv .val, .int .i64] evalX_F), (21, callOr [.int .i64, .sv .expr] [.sv .expr] lone_F), (15, callOr [.sv .expr, .sl .col false, .sl .val false] [.bool, .int .i64] holds_F), (17, callOr [.sl .col false, .sl .val false] [.bool] rowfits_F)], callQT [(22, callOrQ [.int .i64, .sv .expr, .sv .expr] [.sv .expr] ltwo_F), (13, callOrQ [.sv .expr, .sl .col false, .sl .val false] [.sv .val, .int .i64] evalX_F), (20, callOrQ [.sv .val] [.sv .expr] lvalue_F), (11, callOrQ [.sv .expr, .sl .col false] [.int .i64, .int .i64] kindX_F)], loopT []⟩
def known_body (x : HV []) : Option (HV [.bool]) := match x with
 | () =>
  let j5 := fun (p : Bool) =>
   let j4 := fun (p1 : Bool) =>
    let j3 := fun (p2 : Bool) =>
     let j2 := fun (p3 : Bool) =>
      let j1 := fun (p4 : Bool) =>
       let j := fun (p5 : Bool) =>
        cond (p5) (
         cond (decide ((kindX (ltwo 12 (Xpr.mk ((lvalue (Val.mk 3 1 [])).kind) ⟨((lvalue (Val.mk 3 1 [])).v.kind), ((lvalue (Val.mk 3 1 [])).v.n), ((lvalue (Val.mk 3 1 [])).v.s)⟩ ((lvalue (Val.mk 3 1 [])).name) ((lvalue (Val.mk 3 1 [])).l)) (lvalue (Val.mk 4 0 [120]))) []).2 = 151)) (
          some (rowfits [(Col.mk [97] 3 false false [])] [(Val.mk 1 0 [])])) (
          some false)) (
         some false)
       cond (p4) (
        j (decide ((holds (lone 16 (Xpr.mk 2 ⟨0, 0, []⟩ [97] [])) [(Col.mk [97] 3 false false [])] [(Val.mk 1 0 [])]).2 = 0))) (
        j false)
      cond (p3) (
       j1 ((holds (lone 16 (Xpr.mk 2 ⟨0, 0, []⟩ [97] [])) [(Col.mk [97] 3 false false [])] [(Val.mk 1 0 [])]).1)) (
       j1 false)
     cond (p2) (
      j2 (decide ((evalX (ltwo 5 (ltwo 6 (Xpr.mk 2 ⟨0, 0, []⟩ [97] []) (Xpr.mk ((lvalue (Val.mk 3 1 [])).kind) ⟨((lvalue (Val.mk 3 1 [])).v.kind), ((lvalue (Val.mk 3 1 [])).v.n), ((lvalue (Val.mk 3 1 [])).v.s)⟩ ((lvalue (Val.mk 3 1 [])).name) ((lvalue (Val.mk 3 1 [])).l))) (Xpr.mk ((lvalue (Val.mk 2 1 [])).kind) ⟨((lvalue (Val.mk 2 1 [])).v.kind), ((lvalue (Val.mk 2 1 [])).v.n), ((lvalue (Val.mk 2 1 [])).v.s)⟩ ((lvalue (Val.mk 2 1 [])).name) ((lvalue (Val.mk 2 1 [])).l))) [(Col.mk [97] 3 false false [])] [(Val.mk 1 0 [])]).2 = 0))) (
      j2 false)
    cond (p1) (
     j3 (decide (((evalX (ltwo 5 (ltwo 6 (Xpr.mk 2 ⟨0, 0, []⟩ [97] []) (Xpr.mk ((lvalue (Val.mk 3 1 [])).kind) ⟨((lvalue (Val.mk 3 1 [])).v.kind), ((lvalue (Val.mk 3 1 [])).v.n), ((lvalue (Val.mk 3 1 [])).v.s)⟩ ((lvalue (Val.mk 3 1 [])).name) ((lvalue (Val.mk 3 1 [])).l))) (Xpr.mk ((lvalue (Val.mk 2 1 [])).kind) ⟨((lvalue (Val.mk 2 1 [])).v.kind), ((lvalue (Val.mk 2 1 [])).v.n), ((lvalue (Val.mk 2 1 [])).v.s)⟩ ((lvalue (Val.mk 2 1 [])).name) ((lvalue (Val.mk 2 1 [])).l))) [(Col.mk [97] 3 false false [])] [(Val.mk 1 0 [])]).1).n = 1))) (
     j3 false)
   cond (p) (
    j4 (decide (((evalX (ltwo 5 (ltwo 6 (Xpr.mk 2 ⟨0, 0, []⟩ [97] []) (Xpr.mk ((lvalue (Val.mk 3 1 [])).kind) ⟨((lvalue (Val.mk 3 1 [])).v.kind), ((lvalue (Val.mk 3 1 [])).v.n), ((lvalue (Val.mk 3 1 [])).v.s)⟩ ((lvalue (Val.mk 3 1 [])).name) ((lvalue (Val.mk 3 1 [])).l))) (Xpr.mk ((lvalue (Val.mk 2 1 [])).kind) ⟨((lvalue (Val.mk 2 1 [])).v.kind), ((lvalue (Val.mk 2 1 [])).v.n), ((lvalue (Val.mk 2 1 [])).v.s)⟩ ((lvalue (Val.mk 2 1 [])).name) ((lvalue (Val.mk 2 1 [])).l))) [(Col.mk [97] 3 false false [])] [(Val.mk 1 0 [])]).1).kind = 2))) (
    j4 false)
  cond (decide (((evalX (ltwo 6 (Xpr.mk 2 ⟨0, 0, []⟩ [97] []) (Xpr.mk ((lvalue (Val.mk 3 1 [])).kind) ⟨((lvalue (Val.mk 3 1 [])).v.kind), ((lvalue (Val.mk 3 1 [])).v.n), ((lvalue (Val.mk 3 1 [])).v.s)⟩ ((lvalue (Val.mk 3 1 [])).name) ((lvalue (Val.mk 3 1 [])).l))) [(Col.mk [97] 3 false false [])] [(Val.mk 1 0 [])]).1).kind = 1)) (
   j5 (decide ((evalX (ltwo 6 (Xpr.mk 2 ⟨0, 0, []⟩ [97] []) (Xpr.mk ((lvalue (Val.mk 3 1 [])).kind) ⟨((lvalue (Val.mk 3 1 [])).v.kind), ((lvalue (Val.mk 3 1 [])).v.n), ((lvalue (Val.mk 3 1 [])).v.s)⟩ ((lvalue (Val.mk 3 1 [])).name) ((lvalue (Val.mk 3 1 [])).l))) [(Col.mk [97] 3 false false [])] [(Val.mk 1 0 [])]).2 = 0))) (
   j5 false)
theorem known_eq : ∀ (x : HV []), runF (known_px _) Tryd.f10 [] [.bool] x some = known_body x
  | () => by kernel_rfl
theorem known_run : FnOk Tryd.prog elT glT 10 [] [.bool] (known_body) := by
  refine fnOk_run Tryd.func10 rfl (by kernel_rfl) follows (by kernel_rfl) (n := 0) (by kernel_rfl) (px := known_px _) (fun cx hP hel hgl => ?_) (known_eq)
  have hp0 : PxOk cx (known_px (HV [.bool])) := ⟨fun t => by rw [hP, hel]; exact tt_ok ttL_ok t, by rw [hgl]; rfl⟩
  have hc0 : CallOk cx (known_px (HV [.bool])) := callT_ok rfl (cfs_cons (cf_or (by rw [hP, hel, hgl]; exact lvalue_ok) (by kernel_rfl)) (cfs_cons (cf_or (by rw [hP, hel, hgl]; exact ltwo_ok) (by kernel_rfl)) (cfs_cons (cf_or (by rw [hP, hel, hgl]; exact evalX_ok) (by kernel_rfl)) (cfs_cons (cf_or (by rw [hP, hel, hgl]; exact lone_ok) (by kernel_rfl)) (cfs_cons (cf_or (by rw [hP, hel, hgl]; exact holds_ok) (by kernel_rfl)) (cfs_cons (cf_or (by rw [hP, hel, hgl]; exact rowfits_ok) (by kernel_rfl)) cfs_nil))))))
  have hq0 : CallQOk cx (known_px (HV [.bool])) := callQT_ok rfl (cqfs_cons (cqf_or (by rw [hP, hel, hgl]; exact ltwo_ok) (by kernel_rfl)) (cqfs_cons (cqf_or (by rw [hP, hel, hgl]; exact evalX_ok) (by kernel_rfl)) (cqfs_cons (cqf_or (by rw [hP, hel, hgl]; exact lvalue_ok) (by kernel_rfl)) (cqfs_cons (cqf_or (by rw [hP, hel, hgl]; exact kindX_ok) (by kernel_rfl)) cqfs_nil))))
  exact ⟨hp0, hc0, hq0, all0⟩
def known : Bool :=
  let j5 := fun (p : Bool) =>
   let j4 := fun (p1 : Bool) =>
    let j3 := fun (p2 : Bool) =>
     let j2 := fun (p3 : Bool) =>
      let j1 := fun (p4 : Bool) =>
       let j := fun (p5 : Bool) =>
        cond (p5) (
         cond (decide ((kindX (ltwo 12 (Xpr.mk ((lvalue (Val.mk 3 1 [])).kind) ⟨((lvalue (Val.mk 3 1 [])).v.kind), ((lvalue (Val.mk 3 1 [])).v.n), ((lvalue (Val.mk 3 1 [])).v.s)⟩ ((lvalue (Val.mk 3 1 [])).name) ((lvalue (Val.mk 3 1 [])).l)) (lvalue (Val.mk 4 0 [120]))) []).2 = 151)) (
          (rowfits [(Col.mk [97] 3 false false [])] [(Val.mk 1 0 [])])) (
          false)) (
         false)
       cond (p4) (
        j (decide ((holds (lone 16 (Xpr.mk 2 ⟨0, 0, []⟩ [97] [])) [(Col.mk [97] 3 false false [])] [(Val.mk 1 0 [])]).2 = 0))) (
        j false)
      cond (p3) (
       j1 ((holds (lone 16 (Xpr.mk 2 ⟨0, 0, []⟩ [97] [])) [(Col.mk [97] 3 false false [])] [(Val.mk 1 0 [])]).1)) (
       j1 false)
     cond (p2) (
      j2 (decide ((evalX (ltwo 5 (ltwo 6 (Xpr.mk 2 ⟨0, 0, []⟩ [97] []) (Xpr.mk ((lvalue (Val.mk 3 1 [])).kind) ⟨((lvalue (Val.mk 3 1 [])).v.kind), ((lvalue (Val.mk 3 1 [])).v.n), ((lvalue (Val.mk 3 1 [])).v.s)⟩ ((lvalue (Val.mk 3 1 [])).name) ((lvalue (Val.mk 3 1 [])).l))) (Xpr.mk ((lvalue (Val.mk 2 1 [])).kind) ⟨((lvalue (Val.mk 2 1 [])).v.kind), ((lvalue (Val.mk 2 1 [])).v.n), ((lvalue (Val.mk 2 1 [])).v.s)⟩ ((lvalue (Val.mk 2 1 [])).name) ((lvalue (Val.mk 2 1 [])).l))) [(Col.mk [97] 3 false false [])] [(Val.mk 1 0 [])]).2 = 0))) (
      j2 false)
    cond (p1) (
     j3 (decide (((evalX (ltwo 5 (ltwo 6 (Xpr.mk 2 ⟨0, 0, []⟩ [97] []) (Xpr.mk ((lvalue (Val.mk 3 1 [])).kind) ⟨((lvalue (Val.mk 3 1 [])).v.kind), ((lvalue (Val.mk 3 1 [])).v.n), ((lvalue (Val.mk 3 1 [])).v.s)⟩ ((lvalue (Val.mk 3 1 [])).name) ((lvalue (Val.mk 3 1 [])).l))) (Xpr.mk ((lvalue (Val.mk 2 1 [])).kind) ⟨((lvalue (Val.mk 2 1 [])).v.kind), ((lvalue (Val.mk 2 1 [])).v.n), ((lvalue (Val.mk 2 1 [])).v.s)⟩ ((lvalue (Val.mk 2 1 [])).name) ((lvalue (Val.mk 2 1 [])).l))) [(Col.mk [97] 3 false false [])] [(Val.mk 1 0 [])]).1).n = 1))) (
     j3 false)
   cond (p) (
    j4 (decide (((evalX (ltwo 5 (ltwo 6 (Xpr.mk 2 ⟨0, 0, []⟩ [97] []) (Xpr.mk ((lvalue (Val.mk 3 1 [])).kind) ⟨((lvalue (Val.mk 3 1 [])).v.kind), ((lvalue (Val.mk 3 1 [])).v.n), ((lvalue (Val.mk 3 1 [])).v.s)⟩ ((lvalue (Val.mk 3 1 [])).name) ((lvalue (Val.mk 3 1 [])).l))) (Xpr.mk ((lvalue (Val.mk 2 1 [])).kind) ⟨((lvalue (Val.mk 2 1 [])).v.kind), ((lvalue (Val.mk 2 1 [])).v.n), ((lvalue (Val.mk 2 1 [])).v.s)⟩ ((lvalue (Val.mk 2 1 [])).name) ((lvalue (Val.mk 2 1 [])).l))) [(Col.mk [97] 3 false false [])] [(Val.mk 1 0 [])]).1).kind = 2))) (
    j4 false)
  cond (decide (((evalX (ltwo 6 (Xpr.mk 2 ⟨0, 0, []⟩ [97] []) (Xpr.mk ((lvalue (Val.mk 3 1 [])).kind) ⟨((lvalue (Val.mk 3 1 [])).v.kind), ((lvalue (Val.mk 3 1 [])).v.n), ((lvalue (Val.mk 3 1 [])).v.s)⟩ ((lvalue (Val.mk 3 1 [])).name) ((lvalue (Val.mk 3 1 [])).l))) [(Col.mk [97] 3 false false [])] [(Val.mk 1 0 [])]).1).kind = 1)) (
   j5 (decide ((evalX (ltwo 6 (Xpr.mk 2 ⟨0, 0, []⟩ [97] []) (Xpr.mk ((lvalue (Val.mk 3 1 [])).kind) ⟨((lvalue (Val.mk 3 1 [])).v.kind), ((lvalue (Val.mk 3 1 [])).v.n), ((lvalue (Val.mk 3 1 [])).v.s)⟩ ((lvalue (Val.mk 3 1 [])).name) ((lvalue (Val.mk 3 1 [])).l))) [(Col.mk [97] 3 false false [])] [(Val.mk 1 0 [])]).2 = 0))) (
   j5 false)
theorem known_tot (x : HV []) : known_body x = some (known) := by
  first
    | exact rfl
    | simp only [known_body, known, cond_some]
def known_F : FT [] [.bool] := fun _ => some (known)
theorem known_ok : FnOk Tryd.prog elT glT 10 [] [.bool] known_F := .fin0 known_run fun x _ _ hx => (known_tot x).trans hx
theorem known_true : known = true := by kernel_rfl
end Go.Proofs.YtlhebakbbfmiiaaDoor

/- The document's answer: what a byte is, names, signs, how deep an expression is. -/
namespace Go.Proofs.YtlhebakbbfmiiaaDoor
open Go.Ax
/-! ## exchequer/exchequerref12.class -/
def rclass_0_sg : Sig := ⟨58, [(0, .int .u8), (2, .int .i64), (3, .str), (4, .int .i64)], [], [], 0, 0, 0, [], []⟩
abbrev rclass_0_V := Int × Int × Str × Int
def rclass_0 {R : Type} (rec : rclass_0_V → Option R) (kx : Ex → rclass_0_V → Option R) (v : rclass_0_V) : Option R := match v with
 | (v, v1, v2, v3) =>
  cond (decide (v3 < (v2.length : Int))) (
   chk (inb v3 v2.length) (
    cond (decide ((bat v2 v3) = v)) (
     kx .ret (v, 7, v2, v3)) (
     rec (v, v1, v2, (wr .i64 (v3 + 1)))))) (
   kx (.exit 1) (v, v1, v2, v3))
def rclass_px (R : Type) (k : Nat) : Px R := ⟨ttOf ttL, glT, callT [], callQT [], loopT [(15, loopOr k rclass_0_sg (rclass_0))]⟩
theorem rclass_0_eq (R : Type) (k : Nat) : ∀ (fr : List Fr) (rec : rclass_0_V → Option R) (kx : Ex → rclass_0_V → Option R) (v : rclass_0_V), round (rclass_px R k) rclass_0_sg (lp Tryd.f68 0) fr rec kx v = rclass_0 rec kx v
  | fr, rec, kx, (v, v1, v2, v3) => by kernel_rfl
def rclass_body (k : Nat) (x : HV [.int .u8]) : Option (HV [.int .i64]) := match x with
 | c =>
  let j3 : Bool → Option (HV [.int .i64]) := fun (p1 : Bool) =>
   cond (p1) (
    some 1) (
    let j2 : Bool → Option (HV [.int .i64]) := fun (p3 : Bool) =>
     cond (p3) (
      some 2) (
      let j1 : Bool → Option (HV [.int .i64]) := fun (p5 : Bool) =>
       cond (p5) (
        some 3) (
        cond (decide (c = 95)) (
         some 4) (
         cond (decide (c = 39)) (
          some 5) (
          let j : Bool → Option (HV [.int .i64]) := fun (p6 : Bool) =>
           cond (p6) (
            some 6) (
            cond (decide (c = 10)) (
             some 6) (
             cond (decide (c = 13)) (
              some 6) (
              iter (fun rec => rclass_0 rec (fun e v => match v with | (_, v5, _, _) => match e with
               | .ret =>
                some v5
               | .exit 1 =>
                some 0
               | _ => none)) k (c, 0, [40, 41, 44, 42, 61, 60, 62, 43, 45, 59], 0))))
          cond (decide (c = 32)) (
           j true) (
           j (decide (c = 9))))))
      cond (decide (48 ≤ c)) (
       j1 (decide (c ≤ 57))) (
       j1 false))
    cond (decide (97 ≤ c)) (
     j2 (decide (c ≤ 122))) (
     j2 false))
  cond (decide (65 ≤ c)) (
   j3 (decide (c ≤ 90))) (
   j3 false)
theorem rclass_eq (k : Nat) : ∀ (x : HV [.int .u8]), runF (rclass_px _ k) Tryd.f68 [.int .u8] [.int .i64] x some = rclass_body k x
  | c => by kernel_rfl
theorem rclass_run (k : Nat) : FnOk Tryd.prog elT glT 68 [.int .u8] [.int .i64] (rclass_body k) := by
  refine fnOk_run Tryd.func68 rfl (by kernel_rfl) follows (by kernel_rfl) (n := 1) (by kernel_rfl) (px := rclass_px _ k) (fun cx hP hel hgl => ?_) (rclass_eq k)
  have hp0 : PxOk cx (rclass_px (HV [.int .i64]) k) := ⟨fun t => by rw [hP, hel]; exact tt_ok ttL_ok t, by rw [hgl]; rfl⟩
  have hc0 : CallOk cx (rclass_px (HV [.int .i64]) k) := callT_ok rfl cfs_nil
  have hq0 : CallQOk cx (rclass_px (HV [.int .i64]) k) := callQT_ok rfl cqfs_nil
  have hlrclass_0 : LoopOk cx (rclass_px (HV [.int .i64]) k) (lp Tryd.f68 0) := loop_ok hp0 hc0 hq0 (by rw [hP]; exact follows) (k := k) (s := rclass_0_sg) (step := rclass_0) (fun _ _ => by kernel_rfl) (by kernel_rfl) (rclass_0_eq _ k) (loops_in (n := 0) (by kernel_rfl) all0)
  exact ⟨hp0, hc0, hq0, (allS all0 hlrclass_0)⟩
def rclass (c : Int) : Int := (rclass_body 11 c).getD 0
def rclass_F : FT [.int .u8] [.int .i64] := fun x => some (rclass x)
theorem rclass_some : ((List.range 256).all fun n => (rclass_body 11 (n : Int)).isSome) = true := by kernel_rfl
theorem rclass_ok : FnOk Tryd.prog elT glT 68 [.int .u8] [.int .i64] rclass_F := .fin 0 rclass_run fun (c : Int) r hb hx => ⟨11, by
  simp only [rclass_F, Option.some.injEq] at hx
  have h : 0 ≤ c ∧ c ≤ 255 := by
    have h0 : inK .u8 c := hb
    simp only [inK, IntKind.min, IntKind.max] at h0
    exact ⟨h0.1, h0.2⟩
  obtain ⟨n, rfl⟩ : ∃ n : Nat, c = (n : Int) := ⟨c.toNat, by omega⟩
  have h2 := List.all_eq_true.1 rclass_some n (List.mem_range.2 (by omega))
  obtain ⟨y, hy⟩ := Option.isSome_iff_exists.1 h2
  rw [← hx, rclass, hy]
  rfl⟩
theorem cls_all : ((List.range 256).all fun n => (decide (rclass (n : Int) = 2) == lower (n : Int)) && (inner (n : Int) == (decide (rclass (n : Int) = 2) || decide (rclass (n : Int) = 3) || decide (rclass (n : Int) = 4)))) = true := by kernel_rfl
theorem cls (b : UInt8) : decide (rclass (b.toNat : Int) = 2) = lower (b.toNat : Int) ∧ inner (b.toNat : Int) = (decide (rclass (b.toNat : Int) = 2) || decide (rclass (b.toNat : Int) = 3) || decide (rclass (b.toNat : Int) = 4)) := by
  have h := List.all_eq_true.1 cls_all b.toNat (List.mem_range.2 b.toNat_lt)
  rw [Bool.and_eq_true] at h
  exact ⟨by simpa using h.1, by simpa using h.2⟩
/-! ## exchequer/exchequerref12.Name -/
def rname_0_sg : Sig := ⟨37, [(0, .str), (2, .bool), (3, .int .i64)], [], [], 0, 0, 0, [], []⟩
abbrev rname_0_V := Str × Bool × Int
def rname_0 {R : Type} (rec : rname_0_V → Option R) (kx : Ex → rname_0_V → Option R) (v : rname_0_V) : Option R := match v with
 | (v, v1, v2) =>
  cond (decide (v2 < (v.length : Int))) (
   chk (inb v2 v.length) (
    cond (!decide ((rclass (bat v v2)) = 2)) (
     cond (decide (v2 = 0)) (
      kx .ret (v, false, v2)) (
      cond (!decide ((rclass (bat v v2)) = 3)) (
       cond (!decide ((rclass (bat v v2)) = 4)) (
        kx .ret (v, false, v2)) (
        rec (v, v1, (wr .i64 (v2 + 1))))) (
       rec (v, v1, (wr .i64 (v2 + 1)))))) (
     rec (v, v1, (wr .i64 (v2 + 1)))))) (
   kx (.exit 0) (v, v1, v2))
def rname_px (R : Type) (k : Nat) : Px R := ⟨ttOf ttL, glT, callT [(68, callOr [.int .u8] [.int .i64] rclass_F)], callQT [], loopT [(2, loopOr k rname_0_sg (rname_0))]⟩
theorem rname_0_eq (R : Type) (k : Nat) : ∀ (fr : List Fr) (rec : rname_0_V → Option R) (kx : Ex → rname_0_V → Option R) (v : rname_0_V), round (rname_px R k) rname_0_sg (lp Tryd.f52 0) fr rec kx v = rname_0 rec kx v
  | fr, rec, kx, (v, v1, v2) => by kernel_rfl
def rname_body (k : Nat) (x : HV [.str]) : Option (HV [.bool]) := match x with
 | s =>
  iter (fun rec => rname_0 rec (fun e v => match v with | (v3, v4, _) => match e with
   | .ret =>
    some v4
   | .exit 0 =>
    cond (decide (1 ≤ (v3.length : Int))) (
     some (decide ((v3.length : Int) ≤ 30))) (
     some false)
   | _ => none)) k (s, false, 0)
theorem rname_eq (k : Nat) : ∀ (x : HV [.str]), runF (rname_px _ k) Tryd.f52 [.str] [.bool] x some = rname_body k x
  | s => by kernel_rfl
theorem rname_run (k : Nat) : FnOk Tryd.prog elT glT 52 [.str] [.bool] (rname_body k) := by
  refine fnOk_run Tryd.func52 rfl (by kernel_rfl) follows (by kernel_rfl) (n := 1) (by kernel_rfl) (px := rname_px _ k) (fun cx hP hel hgl => ?_) (rname_eq k)
  have hp0 : PxOk cx (rname_px (HV [.bool]) k) := ⟨fun t => by rw [hP, hel]; exact tt_ok ttL_ok t, by rw [hgl]; rfl⟩
  have hc0 : CallOk cx (rname_px (HV [.bool]) k) := callT_ok rfl (cfs_cons (cf_or (by rw [hP, hel, hgl]; exact rclass_ok) (by kernel_rfl)) cfs_nil)
  have hq0 : CallQOk cx (rname_px (HV [.bool]) k) := callQT_ok rfl cqfs_nil
  have hlrname_0 : LoopOk cx (rname_px (HV [.bool]) k) (lp Tryd.f52 0) := loop_ok hp0 hc0 hq0 (by rw [hP]; exact follows) (k := k) (s := rname_0_sg) (step := rname_0) (fun _ _ => by kernel_rfl) (by kernel_rfl) (rname_0_eq _ k) (loops_in (n := 0) (by kernel_rfl) all0)
  exact ⟨hp0, hc0, hq0, (allS all0 hlrname_0)⟩
abbrev rname (s : Str) : Bool := lname s
def rname_F : FT [.str] [.bool] := fun x => some (rname x)
theorem rname_loop {R : Type} {kx : Ex → rname_0_V → Option R} {s : Str} {a b : Option R} (hn : ln s.length) (h1 : ∀ j, kx .ret (s, false, j) = a) (h2 : ∀ q j, kx (.exit 0) (s, q, j) = b) : ∀ (k i : Nat) q, 0 < i → i ≤ s.length → s.length - i < k → iter (fun rec => rname_0 rec kx) k (s, q, (i : Int)) = cond ((s.drop i).all innerB) b a
  | 0, i, q, _, _, h => by omega
  | k + 1, i, q, h0, hi, h => by
    rw [iter_s]
    by_cases hl : i < s.length
    · have ih := rname_loop hn h1 h2 k (i + 1) q (by omega) (by omega) (by omega)
      simp only [rname_0, wr_succ hl hn, ih, h1, drop_cons hl, bat_nat hl, inb_t hl, chk, cond_t, List.all_cons, innerB, (cls s[i]).2]
      rw [decide_eq_true (show (i : Int) < (s.length : Int) by omega), decide_eq_false (show ¬ (i : Int) = 0 by omega)]
      cases decide (rclass (s[i].toNat : Int) = 2) <;> cases decide (rclass (s[i].toNat : Int) = 3) <;> cases decide (rclass (s[i].toNat : Int) = 4) <;> rfl
    · simp only [rname_0, h2]
      rw [decide_eq_false (by omega), List.drop_eq_nil_of_le (by omega)]
      rfl
theorem rname_ok : FnOk Tryd.prog elT glT 52 [.str] [.bool] rname_F := .fin 0 rname_run fun s r hb hx => ⟨s.length + 1, by
  simp only [rname_F, Option.some.injEq] at hx
  subst hx
  simp only [rname_body]
  cases s with
  | nil => rfl
  | cons b l =>
    have e0 : bat (b :: l) 0 = (b.toNat : Int) := rfl
    have e1 : inb 0 (b :: l).length = true := inb_t (i := 0) (by simp)
    have ew : wr .i64 (0 + 1) = ((1 : Nat) : Int) := rfl
    have hc := cls b
    rw [iter_s]
    simp only [rname_0, e0, e1, ew, chk, cond_t]
    rw [decide_eq_true (show (0 : Int) < ((b :: l).length : Int) by simp only [List.length_cons]; omega)]
    cases h2 : decide (rclass (b.toNat : Int) = 2) with
    | false =>
      rw [h2] at hc
      simp only [rname, lname, ← hc.1, Bool.and_false, Bool.false_and]
      rfl
    | true =>
      rw [h2] at hc
      have hi : innerB b = true := by simp only [innerB, hc.2, Bool.true_or]
      simp only [Bool.not_true, cond_t, cond_f]
      refine (rname_loop (s := b :: l) (a := some false) (b := some (decide (((b :: l).length : Int) ≤ 30))) hb (fun _ => rfl) (fun _ _ => ?_) (b :: l).length 1 false (by omega) (by simp) (by simp)).trans ?_
      · show cond (decide (1 ≤ ((b :: l).length : Int))) _ _ = _
        rw [decide_eq_true (by simp only [List.length_cons]; omega)]
        rfl
      · have hd : decide (((b :: l).length : Int) ≤ 30) = decide ((b :: l).length ≤ 30) := decide_eq_decide.2 (by omega)
        simp only [rname, lname, ← hc.1, List.drop_succ_cons, List.drop_zero, List.all_cons, hi, hd, Bool.and_true, Bool.true_and]
        cases l.all innerB <;> cases decide ((b :: l).length ≤ 30) <;> rfl⟩
/-! ## exchequer/exchequerref13.Sign -/
def rsign_px (R : Type) : Px R := ⟨ttOf ttL, glT, callT [], callQT [], loopT []⟩
def rsign_body (x : HV [.int .i64]) : Option (HV [.str]) := match x with
 | kind =>
  cond (decide (kind < 0)) (
   some []) (
   cond (decide (15 ≤ kind)) (
    some []) (
    chk (inb kind 15) (
     some (at' .str [[], [], [], [], [65, 78, 68], [79, 82], [61], [60, 62], [60], [60, 61], [62], [62, 61], [43], [45], [42]] kind))))
theorem rsign_eq : ∀ (x : HV [.int .i64]), runF (rsign_px _) Tryd.f53 [.int .i64] [.str] x some = rsign_body x
  | kind => by kernel_rfl
theorem rsign_run : FnOk Tryd.prog elT glT 53 [.int .i64] [.str] (rsign_body) := by
  refine fnOk_run Tryd.func53 rfl (by kernel_rfl) follows (by kernel_rfl) (n := 0) (by kernel_rfl) (px := rsign_px _) (fun cx hP hel hgl => ?_) (rsign_eq)
  have hp0 : PxOk cx (rsign_px (HV [.str])) := ⟨fun t => by rw [hP, hel]; exact tt_ok ttL_ok t, by rw [hgl]; rfl⟩
  have hc0 : CallOk cx (rsign_px (HV [.str])) := callT_ok rfl cfs_nil
  have hq0 : CallQOk cx (rsign_px (HV [.str])) := callQT_ok rfl cqfs_nil
  exact ⟨hp0, hc0, hq0, all0⟩
def rsigns : List Str := [[], [], [], [], [65, 78, 68], [79, 82], [61], [60, 62], [60], [60, 61], [62], [62, 61], [43], [45], [42]]
def rsign (k : Int) : Str := if k < 0 ∨ 15 ≤ k then [] else at' .str rsigns k
def rsign_F : FT [.int .i64] [.str] := fun x => some (rsign x)
theorem rsign_ok : FnOk Tryd.prog elT glT 53 [.int .i64] [.str] rsign_F := .fin0 rsign_run fun (k : Int) r _ hx => by
  simp only [rsign_F, Option.some.injEq] at hx
  subst hx
  simp only [rsign_body, rsign]
  by_cases h1 : k < 0
  · rw [decide_eq_true h1, if_pos (.inl h1)]; rfl
  · by_cases h2 : 15 ≤ k
    · rw [decide_eq_false h1, decide_eq_true h2, if_pos (.inr h2)]; rfl
    · rw [decide_eq_false h1, decide_eq_false h2, if_neg (by omega)]
      obtain ⟨j, rfl⟩ : ∃ j : Nat, k = (j : Int) := ⟨k.toNat, by omega⟩
      rw [inb_t (i := j) (n := 15) (by omega)]
      rfl
end Go.Proofs.YtlhebakbbfmiiaaDoor

/- The document's answer: how deep an expression is. -/
namespace Go.Proofs.YtlhebakbbfmiiaaDoor
open Go.Ax
/-! ## exchequer/exchequerref13.deep -/
def rdeep_px (R : Type) (rf : FT [.sv .expr] [.int .i64]) : Px R := ⟨ttOf ttL, glT, callT [(23, callOr [.sv .val] [.int .i64] rcheck_F), (52, callOr [.str] [.bool] rname_F), (53, callOr [.int .i64] [.str] rsign_F), (36, callOr [.sv .expr] [.int .i64] rf)], callQT [], loopT []⟩
def rdeep_body (rf : FT [.sv .expr] [.int .i64]) (x : HV [.sv .expr]) : Option (HV [.int .i64]) := match x with
 | e =>
  let j2 := fun (p11 : Int) =>
   cond (!decide ((e.l.length : Int) = p11)) (
    some 31) (
    cond (!decide (e.v = (Val.mk 0 0 []))) (
     some 31) (
     cond (!decide (e.name = [])) (
      some 31) (
      chk (inb 0 e.l.length) (
       (rf (at' .expr e.l 0)).bind fun x =>
        cond (decide (p11 = 2)) (
         chk (inb 1 e.l.length) (
          (rf (at' .expr e.l 1)).bind fun x1 =>
           some (wr .i64 (1 + (max2 x x1))))) (
         some (wr .i64 (1 + x)))))))
  cond (decide (e.kind = 1)) (
   let j := fun (p1 : Bool) =>
    cond (p1) (
     some 31) (
     cond (!decide (e.name = [])) (
      some 31) (
      cond (decide (0 < (e.l.length : Int))) (
       some 31) (
       some 1)))
   cond (!decide ((rcheck e.v) = 0)) (
    j true) (
    cond (decide (e.v.kind = 3)) (
     j (decide (e.v.n < 0))) (
     j false))) (
   cond (decide (e.kind = 2)) (
    cond (!(rname e.name)) (
     some 31) (
     cond (!decide (e.v = (Val.mk 0 0 []))) (
      some 31) (
      cond (decide (0 < (e.l.length : Int))) (
       some 31) (
       some 1)))) (
    let j1 := fun (p10 : Bool) =>
     cond (p10) (
      j2 1) (
      cond (decide ((rsign e.kind) = [])) (
       some 31) (
       j2 2))
    cond (decide (e.kind = 3)) (
     j1 (decide (e.kind = 3))) (
     cond (decide (e.kind = 15)) (
      j1 (decide (e.kind = 15))) (
      j1 (decide (e.kind = 16))))))
theorem rdeep_eq (rf : FT [.sv .expr] [.int .i64]) : ∀ (x : HV [.sv .expr]), runF (rdeep_px _ rf) Tryd.f36 [.sv .expr] [.int .i64] x some = rdeep_body rf x
  | e => by kernel_rfl
theorem rdeep_run (rf : FT [.sv .expr] [.int .i64]) (hrf : FnOk Tryd.prog elT glT 36 [.sv .expr] [.int .i64] rf) : FnOk Tryd.prog elT glT 36 [.sv .expr] [.int .i64] (rdeep_body rf) := by
  refine fnOk_run Tryd.func36 rfl (by kernel_rfl) follows (by kernel_rfl) (n := 0) (by kernel_rfl) (px := rdeep_px _ rf) (fun cx hP hel hgl => ?_) (rdeep_eq rf)
  have hp0 : PxOk cx (rdeep_px (HV [.int .i64]) rf) := ⟨fun t => by rw [hP, hel]; exact tt_ok ttL_ok t, by rw [hgl]; rfl⟩
  have hc0 : CallOk cx (rdeep_px (HV [.int .i64]) rf) := callT_ok rfl (cfs_cons (cf_or (by rw [hP, hel, hgl]; exact rcheck_ok) (by kernel_rfl)) (cfs_cons (cf_or (by rw [hP, hel, hgl]; exact rname_ok) (by kernel_rfl)) (cfs_cons (cf_or (by rw [hP, hel, hgl]; exact rsign_ok) (by kernel_rfl)) (cfs_cons (cf_or (by rw [hP, hel, hgl]; exact hrf) (by kernel_rfl)) cfs_nil))))
  have hq0 : CallQOk cx (rdeep_px (HV [.int .i64]) rf) := callQT_ok rfl cqfs_nil
  exact ⟨hp0, hc0, hq0, all0⟩
def hd (q : List Int) (i : Nat) : Int := q.getD i 0
def dfin (e : Xpr) (q : List Int) : Int :=
  if e.kind = 1 then (if vcheck e.v = 0 ∧ ¬ (e.v.kind = 3 ∧ e.v.n < 0) ∧ e.name = [] ∧ ¬ 0 < (e.l.length : Int) then 1 else 31)
  else if e.kind = 2 then (if lname e.name = true ∧ e.v = ⟨0, 0, []⟩ ∧ ¬ 0 < (e.l.length : Int) then 1 else 31)
  else if e.kind = 3 ∨ e.kind = 15 ∨ e.kind = 16 then (if (e.l.length : Int) = 1 ∧ e.v = ⟨0, 0, []⟩ ∧ e.name = [] then wr .i64 (1 + hd q 0) else 31)
  else if rsign e.kind = [] then 31
  else if (e.l.length : Int) = 2 ∧ e.v = ⟨0, 0, []⟩ ∧ e.name = [] then wr .i64 (1 + max2 (hd q 0) (hd q 1)) else 31
mutual
def rdeep : Xpr → Int
  | .mk k v nm l => dfin (.mk k v nm l) (rdeepL l)
def rdeepL : List Xpr → List Int
  | [] => []
  | x :: l => rdeep x :: rdeepL l
end
theorem rdeep_un (e : Xpr) : rdeep e = dfin e (rdeepL e.l) := by
  cases e
  simp only [rdeep, Xpr.l]
def rdeep_F : FT [.sv .expr] [.int .i64] := fun x => some (rdeep x)
theorem rdeep_j1 {e : Xpr} {rf : FT [.sv .expr] [.int .i64]} (hrf : ∀ x, x ∈ e.l → rf x = some (rdeep x)) (p : Int → Option Int) : (cond (!decide ((e.l.length : Int) = 1)) (some 31) (cond (!decide (e.v = Val.mk 0 0 [])) (some 31) (cond (!decide (e.name = [])) (some 31) (chk (inb 0 e.l.length) ((rf (at' .expr e.l 0)).bind fun x => cond (decide ((1 : Int) = 2)) (p x) (some (wr .i64 (1 + x)))))))) = some (if (e.l.length : Int) = 1 ∧ e.v = ⟨0, 0, []⟩ ∧ e.name = [] then wr .i64 (1 + hd (rdeepL e.l) 0) else 31) := by
  by_cases b1 : (e.l.length : Int) = 1
  · obtain ⟨x, hl⟩ : ∃ x, e.l = [x] := List.length_eq_one_iff.1 (by omega)
    have hrx := hrf x (by rw [hl]; simp)
    rw [hl]
    have a0 : at' .expr [x] 0 = x := rfl
    have i0 : inb 0 [x].length = true := rfl
    by_cases b2 : e.v = ⟨0, 0, []⟩
    · by_cases b3 : e.name = []
      · rw [decide_eq_true b2, decide_eq_true b3, if_pos ⟨rfl, b2, b3⟩, a0, i0, hrx]
        rfl
      · rw [decide_eq_true b2, decide_eq_false b3, if_neg (fun h => b3 h.2.2)]
        rfl
    · rw [decide_eq_false b2, if_neg (fun h => b2 h.2.1)]
      rfl
  · rw [decide_eq_false b1, if_neg (fun h => b1 h.1)]
    rfl
theorem len_two {l : List Xpr} (h : l.length = 2) : ∃ x y, l = [x, y] := by
  match l, h with
  | [x, y], _ => exact ⟨x, y, rfl⟩
theorem rdeep_j2 {e : Xpr} {rf : FT [.sv .expr] [.int .i64]} (hrf : ∀ x, x ∈ e.l → rf x = some (rdeep x)) (p : Int → Option Int) : (cond (!decide ((e.l.length : Int) = 2)) (some 31) (cond (!decide (e.v = Val.mk 0 0 [])) (some 31) (cond (!decide (e.name = [])) (some 31) (chk (inb 0 e.l.length) ((rf (at' .expr e.l 0)).bind fun x => cond (decide ((2 : Int) = 2)) (chk (inb 1 e.l.length) ((rf (at' .expr e.l 1)).bind fun x1 => some (wr .i64 (1 + (max2 x x1))))) (p x)))))) = some (if (e.l.length : Int) = 2 ∧ e.v = ⟨0, 0, []⟩ ∧ e.name = [] then wr .i64 (1 + max2 (hd (rdeepL e.l) 0) (hd (rdeepL e.l) 1)) else 31) := by
  by_cases b1 : (e.l.length : Int) = 2
  · obtain ⟨x, y, hl⟩ : ∃ x y, e.l = [x, y] := len_two (by omega)
    have hrx := hrf x (by rw [hl]; simp)
    have hry := hrf y (by rw [hl]; simp)
    rw [hl]
    have a0 : at' .expr [x, y] 0 = x := rfl
    have a1 : at' .expr [x, y] 1 = y := rfl
    have i0 : inb 0 [x, y].length = true := rfl
    have i1 : inb 1 [x, y].length = true := rfl
    by_cases b2 : e.v = ⟨0, 0, []⟩
    · by_cases b3 : e.name = []
      · rw [decide_eq_true b2, decide_eq_true b3, if_pos ⟨rfl, b2, b3⟩, a0, i0, a1, i1, hrx, hry]
        rfl
      · rw [decide_eq_true b2, decide_eq_false b3, if_neg (fun h => b3 h.2.2)]
        rfl
    · rw [decide_eq_false b2, if_neg (fun h => b2 h.2.1)]
      rfl
  · rw [decide_eq_false b1, if_neg (fun h => b1 h.1)]
    rfl
theorem rdeep_step {e : Xpr} {rf : FT [.sv .expr] [.int .i64]} (hrf : ∀ x, x ∈ e.l → rf x = some (rdeep x)) : rdeep_body rf e = some (rdeep e) := by
  have ro : ∀ v : Val, rcheck v = vcheck v := fun _ => rfl
  have rn : ∀ s : Str, rname s = lname s := fun _ => rfl
  have a6 : 0 < e.l.length ↔ ¬ e.l = [] := List.length_pos_iff
  rw [rdeep_un]
  simp only [rdeep_body, dfin, ro, rn]
  by_cases k1 : e.kind = 1
  · simp only [decide_eq_true k1, if_pos k1, cond_t]
    by_cases a1 : vcheck e.v = 0 <;> by_cases a2 : e.v.kind = 3 <;> by_cases a3 : e.v.n < 0 <;> by_cases a4 : e.name = [] <;> by_cases a5 : e.l = [] <;> simp [a1, a2, a3, a4, a5, a6]
  · by_cases k2 : e.kind = 2
    · simp only [decide_eq_false k1, if_neg k1, decide_eq_true k2, if_pos k2, cond_t, cond_f]
      cases lname e.name <;> by_cases a2 : e.v = ⟨0, 0, []⟩ <;> by_cases a5 : e.l = [] <;> simp [a2, a5, a6]
    · rw [if_neg k1, if_neg k2, decide_eq_false k1, decide_eq_false k2]
      by_cases k3 : e.kind = 3
      · rw [if_pos (.inl k3), decide_eq_true k3]
        exact rdeep_j1 hrf _
      · by_cases k15 : e.kind = 15
        · rw [if_pos (.inr (.inl k15)), decide_eq_false k3, decide_eq_true k15]
          exact rdeep_j1 hrf _
        · by_cases k16 : e.kind = 16
          · rw [if_pos (.inr (.inr k16)), decide_eq_false k3, decide_eq_false k15, decide_eq_true k16]
            exact rdeep_j1 hrf _
          · rw [if_neg (by omega), decide_eq_false k3, decide_eq_false k15, decide_eq_false k16]
            by_cases ks : rsign e.kind = []
            · rw [if_pos ks, decide_eq_true ks]
              rfl
            · rw [if_neg ks, decide_eq_false ks]
              exact rdeep_j2 hrf _
theorem rdeep_all : ∀ (n : Nat) (e : Xpr), esize e ≤ n → iter rdeep_body n e = some (rdeep e)
  | 0, e, h => by have := esize_pos e; omega
  | n + 1, e, h => by
    rw [iter_s]
    refine rdeep_step fun x hx => rdeep_all n x ?_
    have := esize_mem hx
    rw [esize_eq] at h
    omega
theorem rdeep_ok : FnOk Tryd.prog elT glT 36 [.sv .expr] [.int .i64] rdeep_F := by
  refine .fin (ι := Nat) 0 (F := fun n => iter rdeep_body n) (fun n => FnOk.rec' (Sx.enters_of Tryd.func36 rfl rfl) (fun rf hrf => rdeep_run rf hrf) n) fun e r hb hx => ⟨esize e, ?_⟩
  exact (rdeep_all (esize e) e (Nat.le_refl _)).trans hx
/-! ## exchequer/exchequerref13.Expr -/
def rexpr_px (R : Type) : Px R := ⟨ttOf ttL, glT, callT [(36, callOr [.sv .expr] [.int .i64] rdeep_F)], callQT [], loopT []⟩
def rexpr_body (x : HV [.sv .expr]) : Option (HV [.int .i64]) := match x with
 | e =>
  cond (decide (30 < (rdeep e))) (
   some 2) (
   some 0)
theorem rexpr_eq : ∀ (x : HV [.sv .expr]), runF (rexpr_px _) Tryd.f27 [.sv .expr] [.int .i64] x some = rexpr_body x
  | e => by kernel_rfl
theorem rexpr_run : FnOk Tryd.prog elT glT 27 [.sv .expr] [.int .i64] (rexpr_body) := by
  refine fnOk_run Tryd.func27 rfl (by kernel_rfl) follows (by kernel_rfl) (n := 0) (by kernel_rfl) (px := rexpr_px _) (fun cx hP hel hgl => ?_) (rexpr_eq)
  have hp0 : PxOk cx (rexpr_px (HV [.int .i64])) := ⟨fun t => by rw [hP, hel]; exact tt_ok ttL_ok t, by rw [hgl]; rfl⟩
  have hc0 : CallOk cx (rexpr_px (HV [.int .i64])) := callT_ok rfl (cfs_cons (cf_or (by rw [hP, hel, hgl]; exact rdeep_ok) (by kernel_rfl)) cfs_nil)
  have hq0 : CallQOk cx (rexpr_px (HV [.int .i64])) := callQT_ok rfl cqfs_nil
  exact ⟨hp0, hc0, hq0, all0⟩
def rexpr (e : Xpr) : Int :=
  cond (decide (30 < (rdeep e))) (
   2) (
   0)
theorem rexpr_tot (x : HV [.sv .expr]) : rexpr_body x = some (rexpr x) := by
  first
    | exact rfl
    | simp only [rexpr_body, rexpr, cond_some]
def rexpr_F : FT [.sv .expr] [.int .i64] := fun x => some (rexpr x)
theorem rexpr_ok : FnOk Tryd.prog elT glT 27 [.sv .expr] [.int .i64] rexpr_F := .fin0 rexpr_run fun x _ _ hx => (rexpr_tot x).trans hx
/-! ## exchequer/exchequerref15.wants -/
def wants_px (R : Type) : Px R := ⟨ttOf ttL, glT, callT [], callQT [], loopT []⟩
def wants_body (x : HV [.int .i64]) : Option (HV [.int .i64, .int .i64]) := match x with
 | kind =>
  let j1 := fun (p1 : Bool) =>
   cond (p1) (
    some (2, 2)) (
    let j := fun (p3 : Bool) =>
     cond (p3) (
      some (0, 2)) (
      cond (decide (12 ≤ kind)) (
       cond (decide (kind ≤ 15)) (
        some (3, 3)) (
        some (0, 2))) (
       some (0, 2)))
    cond (decide (6 ≤ kind)) (
     j (decide (kind ≤ 11))) (
     j false))
  cond (decide (3 ≤ kind)) (
   j1 (decide (kind ≤ 5))) (
   j1 false)
theorem wants_eq : ∀ (x : HV [.int .i64]), runF (wants_px _) Tryd.f37 [.int .i64] [.int .i64, .int .i64] x some = wants_body x
  | kind => by kernel_rfl
theorem wants_run : FnOk Tryd.prog elT glT 37 [.int .i64] [.int .i64, .int .i64] (wants_body) := by
  refine fnOk_run Tryd.func37 rfl (by kernel_rfl) follows (by kernel_rfl) (n := 0) (by kernel_rfl) (px := wants_px _) (fun cx hP hel hgl => ?_) (wants_eq)
  have hp0 : PxOk cx (wants_px (HV [.int .i64, .int .i64])) := ⟨fun t => by rw [hP, hel]; exact tt_ok ttL_ok t, by rw [hgl]; rfl⟩
  have hc0 : CallOk cx (wants_px (HV [.int .i64, .int .i64])) := callT_ok rfl cfs_nil
  have hq0 : CallQOk cx (wants_px (HV [.int .i64, .int .i64])) := callQT_ok rfl cqfs_nil
  exact ⟨hp0, hc0, hq0, all0⟩
def wants (kind : Int) : Int × Int :=
  let j1 := fun (p1 : Bool) =>
   cond (p1) (
    (2, 2)) (
    let j := fun (p3 : Bool) =>
     cond (p3) (
      (0, 2)) (
      cond (decide (12 ≤ kind)) (
       cond (decide (kind ≤ 15)) (
        (3, 3)) (
        (0, 2))) (
       (0, 2)))
    cond (decide (6 ≤ kind)) (
     j (decide (kind ≤ 11))) (
     j false))
  cond (decide (3 ≤ kind)) (
   j1 (decide (kind ≤ 5))) (
   j1 false)
theorem wants_tot (x : HV [.int .i64]) : wants_body x = some (wants x) := by
  first
    | exact rfl
    | simp only [wants_body, wants, cond_some]
def wants_F : FT [.int .i64] [.int .i64, .int .i64] := fun x => some (wants x)
theorem wants_ok : FnOk Tryd.prog elT glT 37 [.int .i64] [.int .i64, .int .i64] wants_F := .fin0 wants_run fun x _ _ hx => (wants_tot x).trans hx
end Go.Proofs.YtlhebakbbfmiiaaDoor

/- The document's answer: an expression's kind. -/
namespace Go.Proofs.YtlhebakbbfmiiaaDoor
open Go.Ax
/-! ## exchequer/exchequerref15.kind -/
def rkind_0_sg : Sig := ⟨117, [(1, .sl .col false), (4, .int .i64), (5, .int .i64), (6, .int .i64)], [(2, .ptr 0 0)], [(0, .one (.sv .expr))], 1, 0, 0, [], []⟩
abbrev rkind_0_V := List Col × Int × Int × Int × Xpr
def rkind_0 {R : Type} (rec : rkind_0_V → Option R) (kx : Ex → rkind_0_V → Option R) (v : rkind_0_V) : Option R := match v with
 | (v, v1, v2, v3, w) =>
  cond (decide (v3 < (v.length : Int))) (
   cond (decide (w.kind = 2)) (
    chk (inb v3 v.length) (
     cond (decide (((at' .col v v3).name) = w.name)) (
      chk (inb v3 v.length) (
       kx .ret (v, (at' .col v v3).kind, 0, v3, w))) (
      rec (v, v1, v2, (wr .i64 (v3 + 1)), w)))) (
    kx (.exit 0) (v, v1, v2, v3, w))) (
   kx (.exit 0) (v, v1, v2, v3, w))
def rkind_px (R : Type) (k : Nat) (rf : FT [.sv .expr, .sl .col false] [.int .i64, .int .i64]) : Px R := ⟨ttOf ttL, glT, callT [(28, callOr [.sv .expr, .sl .col false] [.int .i64, .int .i64] rf), (37, callOr [.int .i64] [.int .i64, .int .i64] wants_F)], callQT [], loopT [(4, loopOr k rkind_0_sg (rkind_0))]⟩
theorem rkind_0_eq (R : Type) (k : Nat) (rf : FT [.sv .expr, .sl .col false] [.int .i64, .int .i64]) : ∀ (fr : List Fr) (rec : rkind_0_V → Option R) (kx : Ex → rkind_0_V → Option R) (v : rkind_0_V), round (rkind_px R k rf) rkind_0_sg (lp Tryd.f28 0) fr rec kx v = rkind_0 rec kx v
  | fr, rec, kx, (v, v1, v2, v3, w) => by kernel_rfl
def rkind_body (k : Nat) (rf : FT [.sv .expr, .sl .col false] [.int .i64, .int .i64]) (x : HV [.sv .expr, .sl .col false]) : Option (HV [.int .i64, .int .i64]) := match x with
 | (e, cols) =>
  cond (decide (e.kind = 1)) (
   some (e.v.kind, 0)) (
   iter (fun rec => rkind_0 rec (fun e v => match v with | (v4, v5, v6, _, v8) => match e with
    | .ret =>
     some (v5, v6)
    | .exit 0 =>
     cond (decide (v8.kind = 2)) (
      some (0, 150)) (
      chk (inb 0 v8.l.length) (
       (rf ((at' .expr v8.l 0), v4)).bind fun (x, x1) =>
        cond (!decide (x1 = 0)) (
         some (0, x1)) (
         let j2 : Int → Option (HV [.int .i64, .int .i64]) := fun (p2 : Int) =>
          let j1 : Unit → Option (HV [.int .i64, .int .i64]) := fun (_ : Unit) =>
           let j : Bool → Option (HV [.int .i64, .int .i64]) := fun (p9 : Bool) =>
            cond (p9) (
             cond (decide (p2 = (wants v8.kind).1)) (
              some ((wants v8.kind).2, 0)) (
              cond (decide (p2 = 1)) (
               some ((wants v8.kind).2, 0)) (
               some (0, 151)))) (
             some (0, 151))
           cond (decide (0 < (wants v8.kind).1)) (
            cond (decide (x = (wants v8.kind).1)) (
             j true) (
             j (decide (x = 1)))) (
            j false)
          cond (decide ((wants v8.kind).1 = 0)) (
           cond (decide (x = p2)) (
            some ((wants v8.kind).2, 0)) (
            cond (decide (x = 1)) (
             some ((wants v8.kind).2, 0)) (
             cond (decide (p2 = 1)) (
              some ((wants v8.kind).2, 0)) (
              j1 ())))) (
           j1 ())
         cond (decide ((v8.l.length : Int) = 2)) (
          chk (inb 1 v8.l.length) (
           (rf ((at' .expr v8.l 1), v4)).bind fun (x2, x3) =>
            cond (!decide (x3 = 0)) (
             some (0, x3)) (
             j2 x2))) (
          j2 x))))
    | _ => none)) k (cols, 0, 0, 0, e))
theorem rkind_eq (k : Nat) (rf : FT [.sv .expr, .sl .col false] [.int .i64, .int .i64]) : ∀ (x : HV [.sv .expr, .sl .col false]), runF (rkind_px _ k rf) Tryd.f28 [.sv .expr, .sl .col false] [.int .i64, .int .i64] x some = rkind_body k rf x
  | (e, cols) => by kernel_rfl
theorem rkind_run (k : Nat) (rf : FT [.sv .expr, .sl .col false] [.int .i64, .int .i64]) (hrf : FnOk Tryd.prog elT glT 28 [.sv .expr, .sl .col false] [.int .i64, .int .i64] rf) : FnOk Tryd.prog elT glT 28 [.sv .expr, .sl .col false] [.int .i64, .int .i64] (rkind_body k rf) := by
  refine fnOk_run Tryd.func28 rfl (by kernel_rfl) follows (by kernel_rfl) (n := 1) (by kernel_rfl) (px := rkind_px _ k rf) (fun cx hP hel hgl => ?_) (rkind_eq k rf)
  have hp0 : PxOk cx (rkind_px (HV [.int .i64, .int .i64]) k rf) := ⟨fun t => by rw [hP, hel]; exact tt_ok ttL_ok t, by rw [hgl]; rfl⟩
  have hc0 : CallOk cx (rkind_px (HV [.int .i64, .int .i64]) k rf) := callT_ok rfl (cfs_cons (cf_or (by rw [hP, hel, hgl]; exact hrf) (by kernel_rfl)) (cfs_cons (cf_or (by rw [hP, hel, hgl]; exact wants_ok) (by kernel_rfl)) cfs_nil))
  have hq0 : CallQOk cx (rkind_px (HV [.int .i64, .int .i64]) k rf) := callQT_ok rfl cqfs_nil
  have hlrkind_0 : LoopOk cx (rkind_px (HV [.int .i64, .int .i64]) k rf) (lp Tryd.f28 0) := loop_ok hp0 hc0 hq0 (by rw [hP]; exact follows) (k := k) (s := rkind_0_sg) (step := rkind_0) (fun _ _ => by kernel_rfl) (by kernel_rfl) (rkind_0_eq _ k rf) (loops_in (n := 0) (by kernel_rfl) all0)
  exact ⟨hp0, hc0, hq0, (allS all0 hlrkind_0)⟩
mutual
def wfx : Xpr → Bool
  | .mk k _ _ l => decide ((l.length : Int) = parts k) && wfl l
def wfl : List Xpr → Bool
  | [] => true
  | x :: l => wfx x && wfl l
end
theorem wfx_un (e : Xpr) : wfx e = (decide ((e.l.length : Int) = parts e.kind) && wfl e.l) := by
  cases e
  simp only [wfx, Xpr.l, Xpr.kind]
  rfl
theorem wfl_mem : ∀ {l : List Xpr} {x : Xpr}, wfl l = true → x ∈ l → wfx x = true
  | y :: l, x, h, hx => by
    simp only [wfl, Bool.and_eq_true] at h
    rcases List.mem_cons.1 hx with rfl | hx
    · exact h.1
    · exact wfl_mem h.2 hx
def rkind (e : Xpr) (cols : List Col) : Option (Int × Int) := cond (wfx e) (some (kindE e cols)) none
def rkind_F : FT [.sv .expr, .sl .col false] [.int .i64, .int .i64] := fun x => rkind x.1 x.2
theorem wants_a {k : Int} (h : 3 ≤ k ∧ k ≤ 5) : wants k = (2, 2) := by
  rcases (by omega : k = 3 ∨ k = 4 ∨ k = 5) with rfl | rfl | rfl <;> rfl
theorem wants_b {k : Int} (h : 6 ≤ k ∧ k ≤ 11) : wants k = (0, 2) := by
  rcases (by omega : k = 6 ∨ k = 7 ∨ k = 8 ∨ k = 9 ∨ k = 10 ∨ k = 11) with rfl | rfl | rfl | rfl | rfl | rfl <;> rfl
theorem wants_c {k : Int} (h : 12 ≤ k ∧ k ≤ 15) : wants k = (3, 3) := by
  rcases (by omega : k = 12 ∨ k = 13 ∨ k = 14 ∨ k = 15) with rfl | rfl | rfl | rfl <;> rfl
theorem j2_kfin {e : Xpr} {cols : List Col} {a b : Int} (h : 3 ≤ e.kind ∧ e.kind ≤ 16) (h16 : e.kind = 16 → a = b) : (cond (decide ((wants e.kind).1 = 0)) (cond (decide (a = b)) (some ((wants e.kind).2, 0)) (cond (decide (a = 1)) (some ((wants e.kind).2, 0)) (cond (decide (b = 1)) (some ((wants e.kind).2, 0)) (cond (decide (0 < (wants e.kind).1)) (cond (decide (a = (wants e.kind).1)) (cond true (cond (decide (b = (wants e.kind).1)) (some ((wants e.kind).2, 0)) (cond (decide (b = 1)) (some ((wants e.kind).2, 0)) (some (0, 151)))) (some (0, 151))) (cond (decide (a = 1)) (cond (decide (b = (wants e.kind).1)) (some ((wants e.kind).2, 0)) (cond (decide (b = 1)) (some ((wants e.kind).2, 0)) (some (0, 151)))) (some (0, 151)))) (cond false (cond (decide (b = (wants e.kind).1)) (some ((wants e.kind).2, 0)) (cond (decide (b = 1)) (some ((wants e.kind).2, 0)) (some (0, 151)))) (some (0, 151))))))) (cond (decide (0 < (wants e.kind).1)) (cond (decide (a = (wants e.kind).1)) (cond true (cond (decide (b = (wants e.kind).1)) (some ((wants e.kind).2, 0)) (cond (decide (b = 1)) (some ((wants e.kind).2, 0)) (some (0, 151)))) (some (0, 151))) (cond (decide (a = 1)) (cond (decide (b = (wants e.kind).1)) (some ((wants e.kind).2, 0)) (cond (decide (b = 1)) (some ((wants e.kind).2, 0)) (some (0, 151)))) (some (0, 151)))) (cond false (cond (decide (b = (wants e.kind).1)) (some ((wants e.kind).2, 0)) (cond (decide (b = 1)) (some ((wants e.kind).2, 0)) (some (0, 151)))) (some (0, 151)))) : Option (Int × Int)) = some (kfin e cols a b) := by
  have n1 : ¬ e.kind = 1 := by omega
  have n2 : ¬ e.kind = 2 := by omega
  simp only [kfin, if_neg n1, if_neg n2]
  by_cases c1 : e.kind ≤ 5
  · rw [wants_a ⟨h.1, c1⟩, if_neg (by omega), if_pos (by omega)]
    by_cases a2 : a = 2 <;> by_cases a1 : a = 1 <;> by_cases b2 : b = 2 <;> by_cases b1 : b = 1 <;> simp [rfits, a1, a2, b1, b2]
  · by_cases c2 : e.kind ≤ 11
    · rw [wants_b ⟨by omega, c2⟩, if_neg (by omega), if_neg (by omega), if_neg (by omega)]
      by_cases a2 : a = b <;> by_cases a1 : a = 1 <;> by_cases b1 : b = 1 <;> simp [a1, a2, b1]
    · by_cases c3 : e.kind ≤ 15
      · rw [wants_c ⟨by omega, c3⟩, if_neg (by omega), if_neg (by omega), if_pos (by omega)]
        by_cases a2 : a = 3 <;> by_cases a1 : a = 1 <;> by_cases b2 : b = 3 <;> by_cases b1 : b = 1 <;> simp [rfits, a1, a2, b1, b2]
      · have k16 : e.kind = 16 := by omega
        rw [if_pos k16, k16, h16 k16]
        have e1 : wants 16 = (0, 2) := rfl
        rw [e1, decide_eq_true (rfl : b = b)]
        rfl
theorem rkind_loop {R : Type} {kx : Ex → rkind_0_V → Option R} {cols : List Col} {e : Xpr} {a : Int → Option R} {b : Option R} (hn : ln cols.length) (he : e.kind = 2) (h1 : ∀ q j, kx .ret (cols, q, 0, j, e) = a q) (h2 : ∀ q r j, kx (.exit 0) (cols, q, r, j, e) = b) : ∀ (k i : Nat) q r, i ≤ cols.length → cols.length - i < k → iter (fun rec => rkind_0 rec kx) k (cols, q, r, (i : Int), e) = if findFrom (cols.drop i) e.name i < 0 then b else a (at' .col cols (findFrom (cols.drop i) e.name i)).kind
  | 0, i, q, r, _, h => by omega
  | k + 1, i, q, r, hi, h => by
    rw [iter_s]
    by_cases hl : i < cols.length
    · have ih := rkind_loop hn he h1 h2 k (i + 1) q r (by omega) (by omega)
      simp only [rkind_0, inb_t hl, chk, cond_t, at_nat (c := .col) hl, wr_succ hl hn, h1, ih, drop_cons hl]
      rw [decide_eq_true (show (i : Int) < (cols.length : Int) by omega), decide_eq_true he]
      by_cases hc : cols[i].name = e.name
      · have e1 : ∀ l, findFrom (cols[i] :: l) e.name i = (i : Int) := fun l => by simp only [findFrom]; rw [if_pos hc]
        rw [e1, decide_eq_true hc, if_neg (show ¬ (i : Int) < 0 by omega), at_nat (c := .col) hl]
        rfl
      · have e1 : ∀ l, findFrom (cols[i] :: l) e.name i = findFrom l e.name (i + 1) := fun l => by simp only [findFrom]; rw [if_neg hc]
        rw [e1, decide_eq_false hc]
        rfl
    · have e1 : findFrom [] e.name i = -1 := rfl
      simp only [rkind_0, h2]
      rw [decide_eq_false (by omega), List.drop_eq_nil_of_le (by omega), e1, if_pos (by omega)]
      rfl
theorem rkind_no {R : Type} {kx : Ex → rkind_0_V → Option R} {cols : List Col} {e : Xpr} {b : Option R} (h : ¬ e.kind = 2) (h2 : kx (.exit 0) (cols, 0, 0, 0, e) = b) (k : Nat) : iter (fun rec => rkind_0 rec kx) (k + 1) (cols, 0, 0, 0, e) = b := by
  rw [iter_s]
  simp only [rkind_0, h2, decide_eq_false h, cond_f]
  cases decide ((0 : Int) < (cols.length : Int)) <;> rfl
theorem rkind_step (k : Nat) {e : Xpr} {cols : List Col} {rf : FT [.sv .expr, .sl .col false] [.int .i64, .int .i64]} (hn : ln cols.length) (hk : cols.length < k) (hw : wfx e = true) (hrf : ∀ x, x ∈ e.l → rf (x, cols) = some (kindE x cols)) : rkind_body k rf (e, cols) = some (kindE e cols) := by
  rw [wfx_un, Bool.and_eq_true, decide_eq_true_eq] at hw
  have hp := hw.1
  obtain ⟨k, rfl⟩ : ∃ j, k = j + 1 := ⟨k - 1, by omega⟩
  simp only [rkind_body]
  by_cases k1 : e.kind = 1
  · have hl : e.l = [] := List.eq_nil_of_length_eq_zero (by rw [k1] at hp; have : parts 1 = 0 := rfl; omega)
    rw [decide_eq_true k1, kindE_un, hl]
    simp only [kindL, kres, kfin, if_pos k1]
    rfl
  · rw [decide_eq_false k1, cond_f]
    by_cases k2 : e.kind = 2
    · have hl : e.l = [] := List.eq_nil_of_length_eq_zero (by rw [k2] at hp; have : parts 2 = 0 := rfl; omega)
      refine (rkind_loop (a := fun q => some (q, 0)) (b := some (0, 150)) hn k2 (fun _ _ => rfl) (fun q r j => ?_) (k + 1) 0 0 0 (Nat.zero_le _) (by omega)).trans ?_
      · show cond (decide (e.kind = 2)) _ _ = _
        rw [decide_eq_true k2]
        rfl
      · rw [kindE_un, hl]
        simp only [kindL, kres, kfin, if_neg k1, if_pos k2]
        show (if find cols e.name < 0 then some (0, 150) else some ((at' .col cols (find cols e.name)).kind, 0)) = _
        by_cases hf : find cols e.name < 0
        · rw [if_pos hf, if_pos hf]
        · rw [if_neg hf, if_neg hf]
    · refine rkind_no k2 ?_ k
      show cond (decide (e.kind = 2)) _ _ = _
      rw [decide_eq_false k2]
      rcases parts_spec e.kind with ⟨h0, h⟩ | ⟨h0, h⟩ | ⟨h0, h⟩ | h0
      · omega
      · obtain ⟨x, hl⟩ : ∃ x, e.l = [x] := List.length_eq_one_iff.1 (by omega)
        have hrx := hrf x (by rw [hl]; simp)
        have a0 : at' .expr [x] 0 = x := rfl
        have i0 : inb 0 [x].length = true := rfl
        rw [kindE_un, hl, a0, i0, hrx]
        simp only [kindL, kres]
        cases kindE x cols with
        | mk a f =>
          show cond (!decide (f = 0)) _ _ = _
          by_cases hf : f = 0
          · rw [decide_eq_true hf, if_pos hf]
            show cond (decide ((([x] : List Xpr).length : Int) = 2)) _ _ = _
            rw [show decide ((([x] : List Xpr).length : Int) = 2) = false from rfl]
            have hj := j2_kfin (e := e) (cols := cols) (a := a) (b := a) (by omega) (fun _ => rfl)
            rw [decide_eq_true (rfl : a = a)] at hj
            rw [@decide_eq_true True _ trivial]
            exact hj
          · rw [decide_eq_false hf, if_neg hf]
            rfl
      · obtain ⟨x, y, hl⟩ : ∃ x y, e.l = [x, y] := len_two (by omega)
        have hrx := hrf x (by rw [hl]; simp)
        have hry := hrf y (by rw [hl]; simp)
        have a0 : at' .expr [x, y] 0 = x := rfl
        have i0 : inb 0 [x, y].length = true := rfl
        have a1 : at' .expr [x, y] 1 = y := rfl
        have i1 : inb 1 [x, y].length = true := rfl
        rw [kindE_un, hl, a0, i0, hrx, a1, i1, hry]
        simp only [kindL, kres]
        cases kindE x cols with
        | mk a f =>
          show cond (!decide (f = 0)) _ _ = _
          by_cases hf : f = 0
          · rw [decide_eq_true hf, if_pos hf]
            cases kindE y cols with
            | mk b g =>
              show cond (!decide (g = 0)) _ _ = _
              by_cases hg : g = 0
              · rw [decide_eq_true hg, if_pos hg]
                exact j2_kfin (e := e) (by omega) (fun _ => by omega)
              · rw [decide_eq_false hg, if_neg hg]
                rfl
          · rw [decide_eq_false hf, if_neg hf]
            rfl
      · omega
theorem rkind_all (k : Nat) : ∀ (n : Nat) (e : Xpr) (cols : List Col), ln cols.length → cols.length < k → wfx e = true → esize e ≤ n → iter (rkind_body k) n (e, cols) = some (kindE e cols)
  | 0, e, _, _, _, _, h => by have := esize_pos e; omega
  | n + 1, e, cols, hn, hk, hw, h => by
    rw [iter_s]
    refine rkind_step k hn hk hw fun x hx => rkind_all k n x cols hn hk ?_ ?_
    · rw [wfx_un, Bool.and_eq_true] at hw
      exact wfl_mem hw.2 hx
    · have := esize_mem hx
      rw [esize_eq] at h
      omega
theorem rkind_ok : FnOk Tryd.prog elT glT 28 [.sv .expr, .sl .col false] [.int .i64, .int .i64] rkind_F := by
  refine .fin (ι := Nat × Nat) (0, 0) (F := fun n => iter (rkind_body n.1) n.2) (fun n => FnOk.rec' (Sx.enters_of Tryd.func28 rfl rfl) (fun rf hrf => rkind_run n.1 rf hrf) n.2) fun (e, cols) r hb hx => ⟨(cols.length + 1, esize e), ?_⟩
  simp only [rkind_F, rkind] at hx
  cases hw : wfx e with
  | false => rw [hw] at hx; cases hx
  | true =>
    rw [hw] at hx
    exact (rkind_all (cols.length + 1) (esize e) e cols hb.2.1 (by omega) hw (Nat.le_refl _)).trans hx
end Go.Proofs.YtlhebakbbfmiiaaDoor

/- The document's answer: whether a row fits; truths in three. -/
namespace Go.Proofs.YtlhebakbbfmiiaaDoor
open Go.Ax
/-! ## exchequer/exchequerref15.back -/
def rback_px (R : Type) : Px R := ⟨ttOf ttL, glT, callT [], callQT [], loopT []⟩
def rback_body (x : HV [.int .i64]) : Option (HV [.sv .val]) := match x with
 | n =>
  cond (decide (n = 1)) (
   some (Val.mk 1 0 [])) (
   some (Val.mk 2 (wr .i64 (Int.tdiv n 2)) []))
theorem rback_eq : ∀ (x : HV [.int .i64]), runF (rback_px _) Tryd.f42 [.int .i64] [.sv .val] x some = rback_body x
  | n => by kernel_rfl
theorem rback_run : FnOk Tryd.prog elT glT 42 [.int .i64] [.sv .val] (rback_body) := by
  refine fnOk_run Tryd.func42 rfl (by kernel_rfl) follows (by kernel_rfl) (n := 0) (by kernel_rfl) (px := rback_px _) (fun cx hP hel hgl => ?_) (rback_eq)
  have hp0 : PxOk cx (rback_px (HV [.sv .val])) := ⟨fun t => by rw [hP, hel]; exact tt_ok ttL_ok t, by rw [hgl]; rfl⟩
  have hc0 : CallOk cx (rback_px (HV [.sv .val])) := callT_ok rfl cfs_nil
  have hq0 : CallQOk cx (rback_px (HV [.sv .val])) := callQT_ok rfl cqfs_nil
  exact ⟨hp0, hc0, hq0, all0⟩
def rback (n : Int) : Val :=
  cond (decide (n = 1)) (
   (Val.mk 1 0 [])) (
   (Val.mk 2 (wr .i64 (Int.tdiv n 2)) []))
theorem rback_tot (x : HV [.int .i64]) : rback_body x = some (rback x) := by
  first
    | exact rfl
    | simp only [rback_body, rback, cond_some]
def rback_F : FT [.int .i64] [.sv .val] := fun x => some (rback x)
theorem rback_ok : FnOk Tryd.prog elT glT 42 [.int .i64] [.sv .val] rback_F := .fin0 rback_run fun x _ _ hx => (rback_tot x).trans hx
/-! ## exchequer/exchequerref15.three -/
def rthree_px (R : Type) : Px R := ⟨ttOf ttL, glT, callT [], callQT [], loopT []⟩
def rthree_body (x : HV [.sv .val]) : Option (HV [.int .i64]) := match x with
 | v =>
  cond (decide (v.kind = 1)) (
   some 1) (
   some (wr .i64 (2 * v.n)))
theorem rthree_eq : ∀ (x : HV [.sv .val]), runF (rthree_px _) Tryd.f43 [.sv .val] [.int .i64] x some = rthree_body x
  | v => by kernel_rfl
theorem rthree_run : FnOk Tryd.prog elT glT 43 [.sv .val] [.int .i64] (rthree_body) := by
  refine fnOk_run Tryd.func43 rfl (by kernel_rfl) follows (by kernel_rfl) (n := 0) (by kernel_rfl) (px := rthree_px _) (fun cx hP hel hgl => ?_) (rthree_eq)
  have hp0 : PxOk cx (rthree_px (HV [.int .i64])) := ⟨fun t => by rw [hP, hel]; exact tt_ok ttL_ok t, by rw [hgl]; rfl⟩
  have hc0 : CallOk cx (rthree_px (HV [.int .i64])) := callT_ok rfl cfs_nil
  have hq0 : CallQOk cx (rthree_px (HV [.int .i64])) := callQT_ok rfl cqfs_nil
  exact ⟨hp0, hc0, hq0, all0⟩
def rthree (v : Val) : Int :=
  cond (decide (v.kind = 1)) (
   1) (
   (wr .i64 (2 * v.n)))
theorem rthree_tot (x : HV [.sv .val]) : rthree_body x = some (rthree x) := by
  first
    | exact rfl
    | simp only [rthree_body, rthree, cond_some]
def rthree_F : FT [.sv .val] [.int .i64] := fun x => some (rthree x)
theorem rthree_ok : FnOk Tryd.prog elT glT 43 [.sv .val] [.int .i64] rthree_F := .fin0 rthree_run fun x _ _ hx => (rthree_tot x).trans hx
/-! ## exchequer/exchequerref15.is -/
def ris_px (R : Type) : Px R := ⟨ttOf ttL, glT, callT [(42, callOr [.int .i64] [.sv .val] rback_F)], callQT [], loopT []⟩
def ris_body (x : HV [.bool]) : Option (HV [.sv .val]) := match x with
 | b =>
  cond (b) (
   some (rback 2)) (
   some (rback 0))
theorem ris_eq : ∀ (x : HV [.bool]), runF (ris_px _) Tryd.f45 [.bool] [.sv .val] x some = ris_body x
  | b => by kernel_rfl
theorem ris_run : FnOk Tryd.prog elT glT 45 [.bool] [.sv .val] (ris_body) := by
  refine fnOk_run Tryd.func45 rfl (by kernel_rfl) follows (by kernel_rfl) (n := 0) (by kernel_rfl) (px := ris_px _) (fun cx hP hel hgl => ?_) (ris_eq)
  have hp0 : PxOk cx (ris_px (HV [.sv .val])) := ⟨fun t => by rw [hP, hel]; exact tt_ok ttL_ok t, by rw [hgl]; rfl⟩
  have hc0 : CallOk cx (ris_px (HV [.sv .val])) := callT_ok rfl (cfs_cons (cf_or (by rw [hP, hel, hgl]; exact rback_ok) (by kernel_rfl)) cfs_nil)
  have hq0 : CallQOk cx (ris_px (HV [.sv .val])) := callQT_ok rfl cqfs_nil
  exact ⟨hp0, hc0, hq0, all0⟩
def ris (b : Bool) : Val :=
  cond (b) (
   (rback 2)) (
   (rback 0))
theorem ris_tot (x : HV [.bool]) : ris_body x = some (ris x) := by
  first
    | exact rfl
    | simp only [ris_body, ris, cond_some]
def ris_F : FT [.bool] [.sv .val] := fun x => some (ris x)
theorem ris_ok : FnOk Tryd.prog elT glT 45 [.bool] [.sv .val] ris_F := .fin0 ris_run fun x _ _ hx => (ris_tot x).trans hx
/-! ## exchequer/exchequerref15.Fits -/
def rFits_0_sg : Sig := ⟨34, [(0, .sl .col false), (1, .sl .val false), (4, .bool), (5, .int .i64)], [], [], 0, 0, 0, [], []⟩
abbrev rFits_0_V := List Col × List Val × Bool × Int
def rFits_0 {R : Type} (rec : rFits_0_V → Option R) (kx : Ex → rFits_0_V → Option R) (v : rFits_0_V) : Option R := match v with
 | (v, v1, v2, v3) =>
  cond (decide (v3 < (v.length : Int))) (
   cond (decide (v3 < (v1.length : Int))) (
    chk (inb v3 v1.length) (
     chk (inb v3 v.length) (
      cond (!(rfits2 (at' .val v1 v3) ((at' .col v v3).kind))) (
       kx .ret (v, v1, false, v3)) (
       rec (v, v1, v2, (wr .i64 (v3 + 1))))))) (
    kx (.exit 0) (v, v1, v2, v3))) (
   kx (.exit 0) (v, v1, v2, v3))
def rFits_px (R : Type) (k : Nat) : Px R := ⟨ttOf ttL, glT, callT [], callQT [(19, callOrQ [.sv .val, .int .i64] [.bool] rfits2_F)], loopT [(2, loopOr k rFits_0_sg (rFits_0))]⟩
theorem rFits_0_eq (R : Type) (k : Nat) : ∀ (fr : List Fr) (rec : rFits_0_V → Option R) (kx : Ex → rFits_0_V → Option R) (v : rFits_0_V), round (rFits_px R k) rFits_0_sg (lp Tryd.f18 0) fr rec kx v = rFits_0 rec kx v
  | fr, rec, kx, (v, v1, v2, v3) => by kernel_rfl
def rFits_body (k : Nat) (x : HV [.sl .col false, .sl .val false]) : Option (HV [.bool]) := match x with
 | (cols, row) =>
  iter (fun rec => rFits_0 rec (fun e v => match v with | (v4, v5, v6, _) => match e with
   | .ret =>
    some v6
   | .exit 0 =>
    some (decide ((v4.length : Int) = (v5.length : Int)))
   | _ => none)) k (cols, row, false, 0)
theorem rFits_eq (k : Nat) : ∀ (x : HV [.sl .col false, .sl .val false]), runF (rFits_px _ k) Tryd.f18 [.sl .col false, .sl .val false] [.bool] x some = rFits_body k x
  | (cols, row) => by kernel_rfl
theorem rFits_run (k : Nat) : FnOk Tryd.prog elT glT 18 [.sl .col false, .sl .val false] [.bool] (rFits_body k) := by
  refine fnOk_run Tryd.func18 rfl (by kernel_rfl) follows (by kernel_rfl) (n := 1) (by kernel_rfl) (px := rFits_px _ k) (fun cx hP hel hgl => ?_) (rFits_eq k)
  have hp0 : PxOk cx (rFits_px (HV [.bool]) k) := ⟨fun t => by rw [hP, hel]; exact tt_ok ttL_ok t, by rw [hgl]; rfl⟩
  have hc0 : CallOk cx (rFits_px (HV [.bool]) k) := callT_ok rfl cfs_nil
  have hq0 : CallQOk cx (rFits_px (HV [.bool]) k) := callQT_ok rfl (cqfs_cons (cqf_or (by rw [hP, hel, hgl]; exact rfits2_ok) (by kernel_rfl)) cqfs_nil)
  have hlrFits_0 : LoopOk cx (rFits_px (HV [.bool]) k) (lp Tryd.f18 0) := loop_ok hp0 hc0 hq0 (by rw [hP]; exact follows) (k := k) (s := rFits_0_sg) (step := rFits_0) (fun _ _ => by kernel_rfl) (by kernel_rfl) (rFits_0_eq _ k) (loops_in (n := 0) (by kernel_rfl) all0)
  exact ⟨hp0, hc0, hq0, (allS all0 hlrFits_0)⟩
abbrev rFits (cols : List Col) (row : List Val) : Bool := rowfits cols row
def rFits_F : FT [.sl .col false, .sl .val false] [.bool] := fun x => some (rFits x.1 x.2)
def fitCR : List Col → List Val → Bool
  | c :: cs, v :: vs => vfits v c.kind && fitCR cs vs
  | _, _ => true
theorem fitCR_all : ∀ (cols : List Col) (row : List Val), allFit cols row = (fitCR cols row && decide (cols.length = row.length))
  | [], [] => rfl
  | c :: cs, v :: vs => by
    simp only [allFit, fitCR, fitCR_all cs vs, List.length_cons, Nat.add_right_cancel_iff, Bool.and_assoc]
  | [], _ :: _ => by simp [allFit, fitCR]
  | _ :: _, [] => by simp [allFit, fitCR]
theorem fitCR_no1 (row : List Val) : fitCR [] row = true := by cases row <;> rfl
theorem fitCR_no2 (cols : List Col) : fitCR cols [] = true := by cases cols <;> rfl
theorem rFits_loop {R : Type} {kx : Ex → rFits_0_V → Option R} {row : List Val} {cols : List Col} {a b : Option R} (hn : ln cols.length) (h1 : ∀ j, kx .ret (cols, row, false, j) = a) (h2 : ∀ q j, kx (.exit 0) (cols, row, q, j) = b) : ∀ (k i : Nat) q, i ≤ cols.length → cols.length - i < k → iter (fun rec => rFits_0 rec kx) k (cols, row, q, (i : Int)) = cond (fitCR (cols.drop i) (row.drop i)) b a
  | 0, i, q, _, h => by omega
  | k + 1, i, q, hi, h => by
    rw [iter_s]
    by_cases hl : i < cols.length
    · by_cases hl2 : i < row.length
      · have ih := rFits_loop hn h1 h2 k (i + 1) q (by omega) (by omega)
        simp only [rFits_0, wr_succ hl hn, ih, h1, drop_cons hl, drop_cons hl2, at_nat (c := .col) hl, at_nat (c := .val) hl2, inb_t hl, inb_t hl2, chk, cond_t, fitCR, rfits2_v]
        rw [decide_eq_true (show (i : Int) < (cols.length : Int) by omega), decide_eq_true (show (i : Int) < (row.length : Int) by omega)]
        cases vfits row[i] cols[i].kind <;> rfl
      · simp only [rFits_0, h2]
        rw [decide_eq_true (show (i : Int) < (cols.length : Int) by omega), decide_eq_false (show ¬ (i : Int) < (row.length : Int) by omega), List.drop_eq_nil_of_le (show row.length ≤ i by omega), fitCR_no2]
        rfl
    · simp only [rFits_0, h2]
      rw [decide_eq_false (show ¬ (i : Int) < (cols.length : Int) by omega), List.drop_eq_nil_of_le (show cols.length ≤ i by omega), fitCR_no1]
      rfl
theorem rFits_ok : FnOk Tryd.prog elT glT 18 [.sl .col false, .sl .val false] [.bool] rFits_F := .fin 0 rFits_run fun (cols, row) r hb hx => ⟨cols.length + 1, by
  simp only [rFits_F, Option.some.injEq] at hx
  subst hx
  simp only [rFits_body]
  refine (rFits_loop (a := some false) (b := some (decide ((cols.length : Int) = (row.length : Int)))) hb.1.1 (fun _ => rfl) (fun _ _ => rfl) (cols.length + 1) 0 false (Nat.zero_le _) (by omega)).trans ?_
  rw [List.drop_zero, List.drop_zero, rFits, rowfits, fitCR_all, decide_eq_decide.2 (show ((cols.length : Int) = (row.length : Int)) ↔ cols.length = row.length by omega)]
  cases fitCR cols row <;> rfl⟩
end Go.Proofs.YtlhebakbbfmiiaaDoor

/- The document's answer: how two values stand; a digit of a row. -/
namespace Go.Proofs.YtlhebakbbfmiiaaDoor
open Go.Ax
/-! ## exchequer/exchequerref02.Cmp -/
def rcmp_px (R : Type) : Px R := ⟨ttOf ttL, glT, callT [], callQT [], loopT []⟩
def rcmp_body (x : HV [.sv .val, .sv .val]) : Option (HV [.int .i64]) := match x with
 | (a, b) =>
  let j := fun (p1 : Bool) =>
   cond (p1) (
    some (-1)) (
    cond (decide (a.kind = b.kind)) (
     cond (decide (a.n = b.n)) (
      cond (Op.bytesLess a.s b.s) (
       some (-1)) (
       cond (decide (a = b)) (
        some 0) (
        some 1))) (
      cond (decide (a = b)) (
       some 0) (
       some 1))) (
     cond (decide (a = b)) (
      some 0) (
      some 1)))
  cond (decide (a.kind < b.kind)) (
   j true) (
   cond (decide (a.kind = b.kind)) (
    j (decide (a.n < b.n))) (
    j false))
theorem rcmp_eq : ∀ (x : HV [.sv .val, .sv .val]), runF (rcmp_px _) Tryd.f59 [.sv .val, .sv .val] [.int .i64] x some = rcmp_body x
  | (a, b) => by kernel_rfl
theorem rcmp_run : FnOk Tryd.prog elT glT 59 [.sv .val, .sv .val] [.int .i64] (rcmp_body) := by
  refine fnOk_run Tryd.func59 rfl (by kernel_rfl) follows (by kernel_rfl) (n := 0) (by kernel_rfl) (px := rcmp_px _) (fun cx hP hel hgl => ?_) (rcmp_eq)
  have hp0 : PxOk cx (rcmp_px (HV [.int .i64])) := ⟨fun t => by rw [hP, hel]; exact tt_ok ttL_ok t, by rw [hgl]; rfl⟩
  have hc0 : CallOk cx (rcmp_px (HV [.int .i64])) := callT_ok rfl cfs_nil
  have hq0 : CallQOk cx (rcmp_px (HV [.int .i64])) := callQT_ok rfl cqfs_nil
  exact ⟨hp0, hc0, hq0, all0⟩
def rcmp (a : Val) (b : Val) : Int :=
  let j := fun (p1 : Bool) =>
   cond (p1) (
    (-1)) (
    cond (decide (a.kind = b.kind)) (
     cond (decide (a.n = b.n)) (
      cond (Op.bytesLess a.s b.s) (
       (-1)) (
       cond (decide (a = b)) (
        0) (
        1))) (
      cond (decide (a = b)) (
       0) (
       1))) (
     cond (decide (a = b)) (
      0) (
      1)))
  cond (decide (a.kind < b.kind)) (
   j true) (
   cond (decide (a.kind = b.kind)) (
    j (decide (a.n < b.n))) (
    j false))
theorem rcmp_tot (x : HV [.sv .val, .sv .val]) : rcmp_body x = some (rcmp x.1 x.2) := by
  first
    | exact rfl
    | simp only [rcmp_body, rcmp, cond_some]
def rcmp_F : FT [.sv .val, .sv .val] [.int .i64] := fun x => some (rcmp x.1 x.2)
theorem rcmp_ok : FnOk Tryd.prog elT glT 59 [.sv .val, .sv .val] [.int .i64] rcmp_F := .fin0 rcmp_run fun x _ _ hx => (rcmp_tot x).trans hx
theorem scmp_less : ∀ a b : Str, Op.bytesLess a b = decide (scmp a b = -1)
  | [], [] => rfl
  | [], _ :: _ => rfl
  | _ :: _, [] => rfl
  | a :: x, b :: y => by
    have ih := scmp_less x y
    simp only [Op.bytesLess, scmp, Lib.compareBytes] at ih ⊢
    by_cases h1 : a < b
    · simp [h1]
    · by_cases h2 : b < a
      · have h3 : ¬ a = b := fun h => by subst h; exact h1 h2
        simp [h1, h2, h3]
      · have h3 : a = b := UInt8.le_antisymm (UInt8.not_lt.1 h2) (UInt8.not_lt.1 h1)
        simp [h3, ih]
        exact decide_eq_decide.2 Iff.rfl
theorem scmp_zero : ∀ a b : Str, scmp a b = 0 ↔ a = b
  | [], [] => by simp [scmp, Lib.compareBytes]
  | [], _ :: _ => by simp [scmp, Lib.compareBytes]
  | _ :: _, [] => by simp [scmp, Lib.compareBytes]
  | a :: x, b :: y => by
    have ih := scmp_zero x y
    simp only [scmp, Lib.compareBytes] at ih ⊢
    by_cases h1 : a < b
    · have h3 : ¬ a = b := fun h => by subst h; exact UInt8.lt_irrefl _ h1
      simp [h1, h3]
    · by_cases h2 : b < a
      · have h3 : ¬ a = b := fun h => by subst h; exact h1 h2
        simp [h1, h2, h3]
      · have h3 : a = b := UInt8.le_antisymm (UInt8.not_lt.1 h2) (UInt8.not_lt.1 h1)
        simp [h3, ih]
theorem rcmp_vcmp : ∀ a b : Val, rcmp a b = vcmp a b
  | ⟨k, n, s⟩, ⟨k', n', s'⟩ => by
    simp only [rcmp, vcmp, vsign, scompare, scmp_less]
    by_cases h1 : k < k'
    · simp [h1]
    · by_cases h2 : k' < k
      · have h3 : ¬ k = k' := by omega
        simp [h1, h2, h3]
      · obtain rfl : k = k' := by omega
        by_cases h4 : n < n'
        · simp [h4]
        · by_cases h5 : n' < n
          · have h6 : ¬ n = n' := by omega
            simp [h4, h5, h6]
          · obtain rfl : n = n' := by omega
            have h7 := scmp_zero s s'
            rcases scmp_range s s' with h | h | h
            · simp [h]
            · have h8 : s = s' := h7.1 h
              subst h8
              simp [h]
            · have h8 : ¬ s = s' := fun e => by rw [h7.2 e] at h; cases h
              simp [h, h8]
/-! ## exchequer/exchequerref02.digit -/
def rdigit_px (R : Type) : Px R := ⟨ttOf ttL, glT, callT [], callQT [], loopT []⟩
def rdigit_body (x : HV [.sl .int false, .int .i64]) : Option (HV [.int .i64]) := match x with
 | (l, i) =>
  cond (decide (i < (l.length : Int))) (
   chk (inb i l.length) (
    some (at' .int l i))) (
   some 0)
theorem rdigit_eq : ∀ (x : HV [.sl .int false, .int .i64]), runF (rdigit_px _) Tryd.f79 [.sl .int false, .int .i64] [.int .i64] x some = rdigit_body x
  | (l, i) => by kernel_rfl
theorem rdigit_run : FnOk Tryd.prog elT glT 79 [.sl .int false, .int .i64] [.int .i64] (rdigit_body) := by
  refine fnOk_run Tryd.func79 rfl (by kernel_rfl) follows (by kernel_rfl) (n := 0) (by kernel_rfl) (px := rdigit_px _) (fun cx hP hel hgl => ?_) (rdigit_eq)
  have hp0 : PxOk cx (rdigit_px (HV [.int .i64])) := ⟨fun t => by rw [hP, hel]; exact tt_ok ttL_ok t, by rw [hgl]; rfl⟩
  have hc0 : CallOk cx (rdigit_px (HV [.int .i64])) := callT_ok rfl cfs_nil
  have hq0 : CallQOk cx (rdigit_px (HV [.int .i64])) := callQT_ok rfl cqfs_nil
  exact ⟨hp0, hc0, hq0, all0⟩
def rdigit (l : List Int) (i : Int) : Option Int := cond (decide (0 ≤ i)) (some (l.getD i.toNat 0)) none
def rdigit_F : FT [.sl .int false, .int .i64] [.int .i64] := fun x => rdigit x.1 x.2
theorem rdigit_ok : FnOk Tryd.prog elT glT 79 [.sl .int false, .int .i64] [.int .i64] rdigit_F := .fin0 rdigit_run fun (l, i) r _ hx => by
  simp only [rdigit_F, rdigit] at hx
  by_cases h0 : 0 ≤ i
  · rw [decide_eq_true h0] at hx
    obtain ⟨j, hj⟩ : ∃ j : Nat, i = (j : Int) := ⟨Int.toNat i, (Int.toNat_of_nonneg h0).symm⟩
    subst hj
    rw [← hx]
    simp only [rdigit_body]
    by_cases hl : j < l.length
    · rw [decide_eq_true (show (j : Int) < (l.length : Int) from Int.ofNat_lt.2 hl), inb_t hl, at_nat (c := .int) hl]
      simp [chk, List.getD_eq_getElem?_getD, hl]
    · rw [decide_eq_false (show ¬ (j : Int) < (l.length : Int) from fun h => hl (Int.ofNat_lt.1 h))]
      simp [List.getD_eq_getElem?_getD, List.getElem?_eq_none (Nat.le_of_not_lt hl)]
  · rw [decide_eq_false h0] at hx
    cases hx
end Go.Proofs.YtlhebakbbfmiiaaDoor

/- What sums, differences and products of numbers come to. -/
namespace Go.Proofs.YtlhebakbbfmiiaaDoor
open Go.Ax
theorem wru (n : Int) : wr .u64 n = n % 18446744073709551616 := by simp [wr, IntKind.wrap, IntKind.bits, IntKind.signed]
theorem wri (n : Int) : wr .i64 n = if 9223372036854775808 ≤ n % 18446744073709551616 then n % 18446744073709551616 - 18446744073709551616 else n % 18446744073709551616 := by
  simp [wr, IntKind.wrap, IntKind.bits, IntKind.signed]
theorem wru_id {n : Int} (h : 0 ≤ n ∧ n ≤ 18446744073709551615) : wr .u64 n = n := by rw [wru]; omega
theorem iand_lo {a : Int} (h : 0 ≤ a ∧ a ≤ 18446744073709551615) : iand .u64 a 4294967295 = a % 4294967296 := by
  obtain ⟨n, rfl⟩ := Int.eq_ofNat_of_zero_le h.1
  have hn : n < 18446744073709551616 := by omega
  have e2 : (BitVec.ofInt IntKind.u64.bits (n : Int) &&& BitVec.ofInt IntKind.u64.bits 4294967295).toNat = n % 4294967296 := by
    show (BitVec.ofInt 64 (n : Int) &&& BitVec.ofInt 64 ((4294967295 : Nat) : Int)).toNat = n % 4294967296
    rw [BitVec.toNat_and, BitVec.ofInt_natCast, BitVec.ofInt_natCast, BitVec.toNat_ofNat, BitVec.toNat_ofNat]
    rw [Nat.mod_eq_of_lt hn, Nat.mod_eq_of_lt (by decide)]
    exact Nat.and_two_pow_sub_one_eq_mod n 32
  show wr .u64 _ = _
  simp only [e2]
  rw [wru_id (by omega)]
  omega
theorem ishr_hi {a : Int} : ishr .u64 a 32 = a / 4294967296 := by
  show a.fdiv (2 ^ min (32 : Int).toNat IntKind.u64.bits) = _
  rw [show (2 : Int) ^ min (32 : Int).toNat IntKind.u64.bits = 4294967296 from by decide]
  exact Int.fdiv_eq_ediv_of_nonneg _ (by omega)
theorem mul_bd (a b c d : Int) (h : 0 ≤ a ∧ a ≤ c) (h' : 0 ≤ b ∧ b ≤ d) : 0 ≤ a * b ∧ a * b ≤ c * d :=
  ⟨Int.mul_nonneg h.1 h'.1, Int.mul_le_mul h.2 h'.2 h'.1 (by omega)⟩
theorem mul64_split (x y : Int) : x * y = (x / 4294967296) * (y / 4294967296) * 18446744073709551616 + ((x / 4294967296) * (y % 4294967296) + (x % 4294967296) * (y / 4294967296)) * 4294967296 + (x % 4294967296) * (y % 4294967296) := by
  have hx := Int.mul_ediv_add_emod x 4294967296
  have hy := Int.mul_ediv_add_emod y 4294967296
  generalize x / 4294967296 = p at *
  generalize x % 4294967296 = q at *
  generalize y / 4294967296 = r at *
  generalize y % 4294967296 = s at *
  rw [← hx, ← hy]
  simp only [Int.add_mul, Int.mul_add]
  have e1 : 4294967296 * p * (4294967296 * r) = p * r * 18446744073709551616 := by
    rw [Int.mul_assoc, Int.mul_left_comm p, ← Int.mul_assoc]
    omega
  have e2 : 4294967296 * p * s = p * s * 4294967296 := by rw [Int.mul_assoc]; omega
  have e3 : q * (4294967296 * r) = q * r * 4294967296 := by rw [Int.mul_left_comm]; omega
  omega
theorem mul64_z (x y : Int) (hx : 0 ≤ x ∧ x ≤ 18446744073709551615) (hy : 0 ≤ y ∧ y ≤ 18446744073709551615) : mul64 x y = (x * y / 18446744073709551616, x * y % 18446744073709551616) := by
  have b00 := mul_bd (x % 4294967296) (y % 4294967296) 4294967295 4294967295 (by omega) (by omega)
  have b10 := mul_bd (x / 4294967296) (y % 4294967296) 4294967295 4294967295 (by omega) (by omega)
  have b01 := mul_bd (x % 4294967296) (y / 4294967296) 4294967295 4294967295 (by omega) (by omega)
  have b11 := mul_bd (x / 4294967296) (y / 4294967296) 4294967295 4294967295 (by omega) (by omega)
  have sp := mul64_split x y
  simp only [mul64, ishr_hi, iand_lo hx, iand_lo hy]
  generalize (x % 4294967296) * (y % 4294967296) = p00 at *
  generalize (x / 4294967296) * (y % 4294967296) = p10 at *
  generalize (x % 4294967296) * (y / 4294967296) = p01 at *
  generalize (x / 4294967296) * (y / 4294967296) = p11 at *
  rw [wru_id (n := p00) (by omega), wru_id (n := p10) (by omega), wru_id (n := p11) (by omega), wru_id (n := p01) (by omega)]
  rw [wru_id (n := p10 + p00 / 4294967296) (by omega)]
  rw [iand_lo (by omega)]
  rw [wru_id (n := (p10 + p00 / 4294967296) % 4294967296 + p01) (by omega)]
  rw [wru_id (n := p11 + (p10 + p00 / 4294967296) / 4294967296) (by omega)]
  rw [wru_id (n := p11 + (p10 + p00 / 4294967296) / 4294967296 + ((p10 + p00 / 4294967296) % 4294967296 + p01) / 4294967296) (by omega), wru]
  rw [Prod.mk.injEq]
  constructor <;> omega
/-- what has room, or is told to have none -/
def fitZ (n : Int) : Int × Int := if -9223372036854775808 ≤ n ∧ n ≤ 9223372036854775807 then (n, 0) else (0, 20)
def absI (n : Int) : Int := if n < 0 then -n else n
theorem vsize_z {n : Int} (h : inI n) : vsize n = absI n := by
  simp only [inI] at h
  simp only [vsize, absI, Bool.cond_decide, wru]
  split <;> omega
theorem fit_ok {q r : Int} (h : inI q) (hr : r = q) : (r, (0 : Int)) = fitZ q := by
  simp only [inI] at h
  rw [hr, fitZ, if_pos h]
theorem fit_no {q : Int} (h : ¬ inI q) : ((0 : Int), (20 : Int)) = fitZ q := by
  simp only [inI] at h
  rw [fitZ, if_neg h]
theorem vadd_z {a b : Int} (ha : inI a) (hb : inI b) : vadd a b = fitZ (a + b) := by
  simp only [inI] at ha hb
  simp only [vadd, wri]
  by_cases h1 : 0 < b
  · rw [decide_eq_true h1]
    by_cases h2 : a + b ≤ 9223372036854775807
    · have e : (a + b) % 18446744073709551616 < 9223372036854775808 ∨ 9223372036854775808 ≤ (a + b) % 18446744073709551616 := by omega
      rw [← fit_ok (q := a + b) (r := if 9223372036854775808 ≤ (a + b) % 18446744073709551616 then (a + b) % 18446744073709551616 - 18446744073709551616 else (a + b) % 18446744073709551616) (by simp only [inI]; omega) (by split <;> omega)]
      rw [decide_eq_true (p := a < _) (by split <;> omega)]
      rfl
    · rw [← fit_no (q := a + b) (by simp only [inI]; omega)]
      rw [decide_eq_false (p := a < _) (by split <;> omega)]
      rfl
  · rw [decide_eq_false h1]
    by_cases h2 : -9223372036854775808 ≤ a + b
    · rw [← fit_ok (q := a + b) (r := if 9223372036854775808 ≤ (a + b) % 18446744073709551616 then (a + b) % 18446744073709551616 - 18446744073709551616 else (a + b) % 18446744073709551616) (by simp only [inI]; omega) (by split <;> omega)]
      rw [decide_eq_false (p := a < _) (by split <;> omega)]
      rfl
    · rw [← fit_no (q := a + b) (by simp only [inI]; omega)]
      rw [decide_eq_true (p := a < _) (by split <;> omega)]
      rfl
theorem vsub_z {a b : Int} (ha : inI a) (hb : inI b) : vsub a b = fitZ (a - b) := by
  simp only [inI] at ha hb
  simp only [vsub, wri]
  by_cases h1 : 0 < b
  · rw [decide_eq_true h1]
    by_cases h2 : -9223372036854775808 ≤ a - b
    · rw [← fit_ok (q := a - b) (r := if 9223372036854775808 ≤ (a - b) % 18446744073709551616 then (a - b) % 18446744073709551616 - 18446744073709551616 else (a - b) % 18446744073709551616) (by simp only [inI]; omega) (by split <;> omega)]
      rw [decide_eq_true (p := _ < a) (by split <;> omega)]
      rfl
    · rw [← fit_no (q := a - b) (by simp only [inI]; omega)]
      rw [decide_eq_false (p := _ < a) (by split <;> omega)]
      rfl
  · rw [decide_eq_false h1]
    by_cases h2 : a - b ≤ 9223372036854775807
    · rw [← fit_ok (q := a - b) (r := if 9223372036854775808 ≤ (a - b) % 18446744073709551616 then (a - b) % 18446744073709551616 - 18446744073709551616 else (a - b) % 18446744073709551616) (by simp only [inI]; omega) (by split <;> omega)]
      rw [decide_eq_false (p := _ < a) (by split <;> omega)]
      rfl
    · rw [← fit_no (q := a - b) (by simp only [inI]; omega)]
      rw [decide_eq_true (p := _ < a) (by split <;> omega)]
      rfl
theorem vmul_z {a b : Int} (ha : inI a) (hb : inI b) : vmul a b = fitZ (a * b) := by
  have ha' := ha; have hb' := hb
  simp only [inI] at ha' hb'
  have hA : 0 ≤ absI a ∧ absI a ≤ 9223372036854775808 := by unfold absI; split <;> omega
  have hB : 0 ≤ absI b ∧ absI b ≤ 9223372036854775808 := by unfold absI; split <;> omega
  have hbd := mul_bd _ _ _ _ hA hB
  have hsg : a * b = if decide (a < 0) = decide (b < 0) then absI a * absI b else -(absI a * absI b) := by
    unfold absI
    by_cases h1 : a < 0 <;> by_cases h2 : b < 0 <;> simp [h1, h2, Int.neg_mul, Int.mul_neg]
  simp only [vmul, vsize_z ha, vsize_z hb, mul64_z _ _ (show 0 ≤ absI a ∧ absI a ≤ 18446744073709551615 by omega) (show 0 ≤ absI b ∧ absI b ≤ 18446744073709551615 by omega)]
  clear ha hb ha' hb' hA hB
  generalize absI a * absI b = p at *
  generalize a * b = q at *
  by_cases hs : decide (a < 0) = decide (b < 0)
  · rw [if_pos hs] at hsg
    rw [decide_eq_true hs]
    by_cases h1 : p < 9223372036854775808
    · rw [decide_eq_false (show ¬ 0 < p / 18446744073709551616 by omega), decide_eq_false (show ¬ 9223372036854775808 < p % 18446744073709551616 by omega), decide_eq_false (show ¬ p % 18446744073709551616 = 9223372036854775808 by omega)]
      refine (show _ = (wr .i64 (p % 18446744073709551616), (0 : Int)) from rfl).trans (fit_ok (by simp only [inI]; omega) ?_)
      rw [wri]; split <;> omega
    · rw [← fit_no (q := q) (by simp only [inI]; omega)]
      by_cases h2 : 0 < p / 18446744073709551616
      · rw [decide_eq_true h2]; rfl
      · rw [decide_eq_false h2]
        by_cases h3 : 9223372036854775808 < p % 18446744073709551616
        · rw [decide_eq_true h3]; rfl
        · rw [decide_eq_false h3, decide_eq_true (show p % 18446744073709551616 = 9223372036854775808 by omega)]; rfl
  · rw [if_neg hs] at hsg
    rw [decide_eq_false hs]
    by_cases h1 : p ≤ 9223372036854775808
    · rw [decide_eq_false (show ¬ 0 < p / 18446744073709551616 by omega), decide_eq_false (show ¬ 9223372036854775808 < p % 18446744073709551616 by omega)]
      have : fitZ q = (wr .i64 (wr .u64 (0 - p % 18446744073709551616)), (0 : Int)) := by
        refine (fit_ok (by simp only [inI]; omega) ?_).symm
        rw [wri, wru]; split <;> omega
      rw [this]
      cases decide (p % 18446744073709551616 = 9223372036854775808) <;> rfl
    · rw [← fit_no (q := q) (by simp only [inI]; omega)]
      by_cases h2 : 0 < p / 18446744073709551616
      · rw [decide_eq_true h2]; rfl
      · rw [decide_eq_false h2, decide_eq_true (show 9223372036854775808 < p % 18446744073709551616 by omega)]; rfl
end Go.Proofs.YtlhebakbbfmiiaaDoor

/- Plain law: decimal digits, the lowest first. -/
namespace Go.Proofs.YtlhebakbbfmiiaaDoor
open Go.Ax
def pw : Nat → Int
  | 0 => 1
  | n + 1 => 10 * pw n
theorem pw_pos : ∀ n, 0 < pw n
  | 0 => by decide
  | n + 1 => by have := pw_pos n; simp only [pw]; omega
theorem pw_add : ∀ a b, pw (a + b) = pw a * pw b
  | 0, b => by simp [pw]
  | a + 1, b => by rw [Nat.add_right_comm]; simp only [pw]; rw [pw_add a b, Int.mul_assoc]
theorem pw_mono {a b : Nat} (h : a ≤ b) : pw a ≤ pw b := by
  induction b with
  | zero => have : a = 0 := by omega
            subst this; exact Int.le_refl _
  | succ b ih =>
    rcases Nat.le_succ_iff.1 h with h | h
    · have := ih h; have := pw_pos b; simp only [pw]; omega
    · subst h; exact Int.le_refl _
def val : List Int → Int
  | [] => 0
  | x :: l => x + 10 * val l
def dg (l : List Int) : Bool := l.all fun x => decide (0 ≤ x) && decide (x ≤ 9)
theorem dg_cons {x : Int} {l : List Int} : dg (x :: l) = true ↔ (0 ≤ x ∧ x ≤ 9) ∧ dg l = true := by
  simp [dg]
theorem dg_nil : dg [] = true := rfl
theorem dg_app {l m : List Int} : dg (l ++ m) = true ↔ dg l = true ∧ dg m = true := by
  simp [dg, List.all_append]
theorem val_nn : ∀ {l : List Int}, dg l = true → 0 ≤ val l
  | [], _ => by simp [val]
  | x :: l, h => by have h := dg_cons.1 h; have := val_nn h.2; simp only [val]; omega
theorem val_lt : ∀ {l : List Int}, dg l = true → val l < pw l.length
  | [], _ => by simp [val, pw]
  | x :: l, h => by have h := dg_cons.1 h; have := val_lt h.2; simp only [val, List.length_cons, pw]; omega
theorem val_app : ∀ (l m : List Int), val (l ++ m) = val l + pw l.length * val m
  | [], m => by simp [val, pw]
  | x :: l, m => by
    simp only [List.cons_append, val, val_app l m, List.length_cons, pw]
    rw [Int.mul_add, Int.add_assoc, Int.mul_assoc]
theorem dg_drop : ∀ {l : List Int} (i : Nat), dg l = true → dg (l.drop i) = true
  | [], i, _ => by simp [dg]
  | x :: l, 0, h => h
  | x :: l, i + 1, h => dg_drop (l := l) i (dg_cons.1 h).2
theorem dg_take : ∀ {l : List Int} (i : Nat), dg l = true → dg (l.take i) = true
  | [], i, _ => by simp [dg]
  | x :: l, 0, h => rfl
  | x :: l, i + 1, h => by
    rw [List.take_succ_cons]
    exact dg_cons.2 ⟨(dg_cons.1 h).1, dg_take i (dg_cons.1 h).2⟩
/-- a digit; 0 beyond -/
def dgt (l : List Int) (i : Nat) : Int := l.getD i 0
theorem dgt_bd {l : List Int} (h : dg l = true) (i : Nat) : 0 ≤ dgt l i ∧ dgt l i ≤ 9 := by
  induction l generalizing i with
  | nil => simp [dgt]
  | cons x l ih =>
    have h := dg_cons.1 h
    cases i with
    | zero => simpa [dgt] using h.1
    | succ i => simpa [dgt] using ih h.2 i
theorem val_drop (l : List Int) (i : Nat) : val (l.drop i) = dgt l i + 10 * val (l.drop (i + 1)) := by
  induction l generalizing i with
  | nil => simp [dgt, val]
  | cons x l ih =>
    cases i with
    | zero => simp [dgt, val]
    | succ i => simpa [dgt] using ih i
theorem val_split {l : List Int} (h : dg l = true) (j : Nat) : ∃ lo, 0 ≤ lo ∧ lo < pw j ∧ val l = lo + pw j * val (l.drop j) := by
  induction l generalizing j with
  | nil => exact ⟨0, Int.le_refl _, pw_pos j, by simp [val]⟩
  | cons x l ih =>
    have h := dg_cons.1 h
    cases j with
    | zero => exact ⟨0, Int.le_refl _, pw_pos 0, by simp [pw]⟩
    | succ j =>
      obtain ⟨lo, h1, h2, h3⟩ := ih h.2 j
      refine ⟨x + 10 * lo, by omega, by simp only [pw]; omega, ?_⟩
      simp only [val, List.drop_succ_cons, pw, h3]
      rw [Int.mul_add, Int.add_assoc, Int.mul_assoc]
theorem val_drop_le {l : List Int} (h : dg l = true) (j : Nat) : val (l.drop j) ≤ val l := by
  obtain ⟨lo, h1, h2, h3⟩ := val_split h j
  have h4 := val_nn (dg_drop j h)
  have h5 : 1 * val (l.drop j) ≤ pw j * val (l.drop j) := Int.mul_le_mul_of_nonneg_right (by have := pw_pos j; omega) h4
  omega
theorem val_take (l : List Int) : ∀ (i : Nat), i < l.length → val (l.take (i + 1)) = val (l.take i) + pw i * dgt l i := by
  induction l with
  | nil => intro i h; simp at h
  | cons x l ih =>
    intro i h
    cases i with
    | zero => simp [val, dgt, pw]
    | succ i =>
      have := ih i (by simpa using h)
      simp only [List.take_succ_cons, val, this, pw]
      have e : dgt (x :: l) (i + 1) = dgt l i := by simp [dgt]
      rw [e, Int.mul_add, Int.add_assoc, Int.mul_assoc]
theorem val_set (l : List Int) (y : Int) : ∀ (i : Nat), i < l.length → val (l.set i y) = val l + pw i * (y - dgt l i) := by
  induction l with
  | nil => intro i h; simp at h
  | cons x l ih =>
    intro i h
    cases i with
    | zero => simp [val, dgt, pw]; omega
    | succ i =>
      have := ih i (by simpa using h)
      simp only [List.set_cons_succ, val, this, pw]
      have e : dgt (x :: l) (i + 1) = dgt l i := by simp [dgt]
      rw [e, Int.mul_add, Int.add_assoc, Int.mul_assoc]
theorem dg_set {l : List Int} {y : Int} (hy : 0 ≤ y ∧ y ≤ 9) : ∀ (i : Nat), dg l = true → dg (l.set i y) = true := by
  induction l with
  | nil => intro i _; rfl
  | cons x l ih =>
    intro i h
    have h := dg_cons.1 h
    cases i with
    | zero => exact dg_cons.2 ⟨hy, h.2⟩
    | succ i => exact dg_cons.2 ⟨h.1, ih i h.2⟩
theorem val_rep (n : Nat) : val (List.replicate n 0) = 0 := by
  induction n with
  | zero => rfl
  | succ n ih => simp [List.replicate_succ, val, ih]
theorem dg_rep (n : Nat) : dg (List.replicate n 0) = true := by
  induction n with
  | zero => rfl
  | succ n ih => rw [List.replicate_succ]; exact dg_cons.2 ⟨by omega, ih⟩
/-! ## the digits of a number -/
def digs (n : Nat) : List Int := if h : n = 0 then [] else ((n % 10 : Nat) : Int) :: digs (n / 10)
termination_by n
decreasing_by omega
theorem digs_zero : digs 0 = [] := by rw [digs]; simp
theorem digs_pos {n : Nat} (h : ¬ n = 0) : digs n = ((n % 10 : Nat) : Int) :: digs (n / 10) := by rw [digs]; simp [h]
theorem digs_val (n : Nat) : val (digs n) = (n : Int) := by
  induction n using Nat.strongRecOn with
  | ind n ih =>
    by_cases h : n = 0
    · subst h; rw [digs_zero]; rfl
    · rw [digs_pos h, val, ih (n / 10) (by omega)]; omega
theorem digs_dg (n : Nat) : dg (digs n) = true := by
  induction n using Nat.strongRecOn with
  | ind n ih =>
    by_cases h : n = 0
    · subst h; rw [digs_zero]; rfl
    · rw [digs_pos h]; exact dg_cons.2 ⟨by omega, ih (n / 10) (by omega)⟩
theorem digs_len : ∀ (k n : Nat), (n : Int) < pw k → (digs n).length ≤ k
  | 0, n, h => by
    have : n = 0 := by simp only [pw] at h; omega
    subst this; rw [digs_zero]; exact Nat.le_refl _
  | k + 1, n, h => by
    by_cases h0 : n = 0
    · subst h0; rw [digs_zero]; simp
    · have := digs_len k (n / 10) (by simp only [pw] at h; omega)
      rw [digs_pos h0]
      simp only [List.length_cons]
      omega
theorem digs_ne {n : Nat} (h : ¬ n = 0) : ¬ digs n = [] := by rw [digs_pos h]; simp
/-- without noughts behind -/
def trimL : List Int → List Int
  | [] => []
  | x :: l => match trimL l with
    | [] => if x = 0 then [] else [x]
    | y :: t => x :: y :: t
theorem trimL_digs : ∀ {l : List Int}, dg l = true → trimL l = digs (val l).toNat
  | [], _ => by simp only [trimL, val]; exact digs_zero.symm
  | x :: l, h => by
    have h := dg_cons.1 h
    have ih := trimL_digs h.2
    have hv := val_nn h.2
    simp only [trimL, ih, val]
    by_cases h0 : val l = 0
    · rw [h0]
      have e : digs (0 : Int).toNat = [] := digs_zero
      rw [e]
      by_cases hx : x = 0
      · subst hx; rw [if_pos rfl]; exact digs_zero.symm
      · rw [if_neg hx, digs_pos (by omega), show (x + 10 * 0).toNat / 10 = 0 by omega, digs_zero, show (((x + 10 * 0).toNat % 10 : Nat) : Int) = x by omega]
    · have hne := digs_ne (n := (val l).toNat) (by omega)
      rw [digs_pos (n := (x + 10 * val l).toNat) (by omega), show (x + 10 * val l).toNat / 10 = (val l).toNat by omega, show (((x + 10 * val l).toNat % 10 : Nat) : Int) = x by omega]
      cases hd : digs (val l).toNat with
      | nil => exact absurd hd hne
      | cons y t => rfl
theorem trimL_zero : ∀ (l : List Int), trimL (l ++ [0]) = trimL l
  | [] => by simp [trimL]
  | x :: l => by simp only [List.cons_append, trimL, trimL_zero l]
theorem trimL_last {y : Int} (hy : ¬ y = 0) : ∀ (l : List Int), trimL (l ++ [y]) = l ++ [y]
  | [] => by simp [trimL, hy]
  | x :: l => by
    simp only [List.cons_append, trimL, trimL_last hy l]
    cases l <;> simp
/-! ## numbers -/
def numS (m : Bool) (v : Int) : Num := ⟨m && decide (0 < v), digs v.toNat⟩
def numZ (z : Int) : Num := numS (decide (z < 0)) (z.natAbs : Int)
def nv (n : Num) : Int := if n.minus = true then -val n.d else val n.d
def okN (n : Num) : Bool := dg n.d && decide (n.d.length ≤ 1000)
theorem okN_spec {n : Num} (h : okN n = true) : dg n.d = true ∧ n.d.length ≤ 1000 := by simpa [okN] using h
theorem nv_Z (z : Int) : nv (numZ z) = z := by
  simp only [nv, numZ, numS, digs_val, Int.toNat_natCast]
  by_cases h : z < 0
  · rw [decide_eq_true h, decide_eq_true (show (0 : Int) < (z.natAbs : Int) by omega)]
    simp only [Bool.and_true, if_pos]
    omega
  · rw [decide_eq_false h]
    simp only [Bool.false_and, Bool.false_eq_true, if_false]
    omega
theorem okZ {z : Int} (h : -(pw 1000) < z ∧ z < pw 1000) : okN (numZ z) = true := by
  have h1 := digs_len 1000 z.natAbs (by omega)
  simp only [okN, numZ, numS, Int.toNat_natCast, digs_dg, Bool.true_and]
  exact decide_eq_true h1
theorem numZ_S (m : Bool) {v : Int} (h : 0 ≤ v) : numS m v = numZ (if m = true then -v else v) := by
  cases m
  · simp only [Bool.false_eq_true, if_false, numZ]
    rw [decide_eq_false (by omega)]
    simp only [numS, Bool.false_and]
    congr 2
    omega
  · simp only [if_true, numZ]
    by_cases h0 : v = 0
    · subst h0; rfl
    · rw [decide_eq_true (by omega), show ((-v).natAbs : Int) = v by omega]
theorem val_td (l : List Int) (j : Nat) : val l = val (l.take j) + pw j * val (l.drop j) := by
  induction l generalizing j with
  | nil => simp [val]
  | cons x l ih =>
    cases j with
    | zero => simp [pw, val]
    | succ j =>
      simp only [List.take_succ_cons, List.drop_succ_cons, val, pw]
      have := ih j
      rw [Int.mul_assoc]
      omega
theorem val_dt (l : List Int) (i n : Nat) : val ((l.drop i).take (n + 1)) = dgt l i + 10 * val ((l.drop (i + 1)).take n) := by
  induction l generalizing i with
  | nil => simp [dgt, val]
  | cons x l ih =>
    cases i with
    | zero => simp [dgt, val]
    | succ i => simpa [dgt] using ih i
theorem ten {x : Int} (h : 0 ≤ x) : Int.tmod x 10 = x % 10 ∧ Int.tdiv x 10 = x / 10 := ⟨Int.tmod_eq_emod_of_nonneg h, Int.tdiv_eq_ediv_of_nonneg h⟩
end Go.Proofs.YtlhebakbbfmiiaaDoor

/- The document's answer: a number's digits. -/
namespace Go.Proofs.YtlhebakbbfmiiaaDoor
open Go.Ax
theorem rdigit_nat (l : List Int) (i : Nat) : rdigit l (i : Int) = some (dgt l i) := by
  simp only [rdigit, dgt]
  rw [decide_eq_true (Int.natCast_nonneg i)]
  rfl
theorem at_dgt {l : List Int} {i : Nat} (h : i < l.length) : at' .int l (i : Int) = dgt l i := by
  rw [at_nat (c := .int) h]
  simp [dgt, h]
/-! ## exchequer/exchequerref02.trim -/
def rtrim_0_sg : Sig := ⟨29, [(0, .bool), (1, .sl .int false), (5, .int .i64)], [(4, .ptr 0 0)], [(0, .one (.sv .num))], 1, 0, 0, [], []⟩
abbrev rtrim_0_V := Bool × List Int × Int × Num
def rtrim_0 {R : Type} (rec : rtrim_0_V → Option R) (kx : Ex → rtrim_0_V → Option R) (v : rtrim_0_V) : Option R := match v with
 | (v, v1, v2, w) =>
  cond (decide (0 < v2)) (
   chk (inb (wr .i64 (v2 - 1)) v1.length) (
    cond (decide ((at' .int v1 (wr .i64 (v2 - 1))) = 0)) (
     rec (v, v1, (wr .i64 (v2 - 1)), w)) (
     kx (.exit 0) (v, v1, v2, w)))) (
   kx (.exit 0) (v, v1, v2, w))
def rtrim_px (R : Type) (k : Nat) : Px R := ⟨ttOf ttL, glT, callT [], callQT [], loopT [(2, loopOr k rtrim_0_sg (rtrim_0))]⟩
theorem rtrim_0_eq (R : Type) (k : Nat) : ∀ (fr : List Fr) (rec : rtrim_0_V → Option R) (kx : Ex → rtrim_0_V → Option R) (v : rtrim_0_V), round (rtrim_px R k) rtrim_0_sg (lp Tryd.f78 0) fr rec kx v = rtrim_0 rec kx v
  | fr, rec, kx, (v, v1, v2, w) => by kernel_rfl
def rtrim_body (k : Nat) (x : HV [.bool, .sl .int false]) : Option (HV [.sv .num]) := match x with
 | (m, d) =>
  iter (fun rec => rtrim_0 rec (fun e v => match v with | (v3, v4, v5, _) => match e with
   | .exit 0 =>
    cond (v3) (
     chk (upto 0 v5 v4.length) (
      some (Num.mk (decide (0 < v5)) (v4.take (v5 : Int).toNat)))) (
     chk (upto 0 v5 v4.length) (
      some (Num.mk false (v4.take (v5 : Int).toNat))))
   | _ => none)) k (m, d, (d.length : Int), (Num.mk false []))
theorem rtrim_eq (k : Nat) : ∀ (x : HV [.bool, .sl .int false]), runF (rtrim_px _ k) Tryd.f78 [.bool, .sl .int false] [.sv .num] x some = rtrim_body k x
  | (m, d) => by kernel_rfl
theorem rtrim_run (k : Nat) : FnOk Tryd.prog elT glT 78 [.bool, .sl .int false] [.sv .num] (rtrim_body k) := by
  refine fnOk_run Tryd.func78 rfl (by kernel_rfl) follows (by kernel_rfl) (n := 1) (by kernel_rfl) (px := rtrim_px _ k) (fun cx hP hel hgl => ?_) (rtrim_eq k)
  have hp0 : PxOk cx (rtrim_px (HV [.sv .num]) k) := ⟨fun t => by rw [hP, hel]; exact tt_ok ttL_ok t, by rw [hgl]; rfl⟩
  have hc0 : CallOk cx (rtrim_px (HV [.sv .num]) k) := callT_ok rfl cfs_nil
  have hq0 : CallQOk cx (rtrim_px (HV [.sv .num]) k) := callQT_ok rfl cqfs_nil
  have hlrtrim_0 : LoopOk cx (rtrim_px (HV [.sv .num]) k) (lp Tryd.f78 0) := loop_ok hp0 hc0 hq0 (by rw [hP]; exact follows) (k := k) (s := rtrim_0_sg) (step := rtrim_0) (fun _ _ => by kernel_rfl) (by kernel_rfl) (rtrim_0_eq _ k) (loops_in (n := 0) (by kernel_rfl) all0)
  exact ⟨hp0, hc0, hq0, (allS all0 hlrtrim_0)⟩
def rtrim (m : Bool) (d : List Int) : Num := ⟨m && decide (0 < ((trimL d).length : Int)), trimL d⟩
def rtrim_F : FT [.bool, .sl .int false] [.sv .num] := fun x => some (rtrim x.1 x.2)
theorem rtrim_loop {R : Type} {kx : Ex → rtrim_0_V → Option R} {m : Bool} {d : List Int} {w : Num} {b : Option R} (hn : ln d.length) (h2 : ∀ i : Nat, i ≤ d.length → d.take i = trimL d → kx (.exit 0) (m, d, (i : Int), w) = b) : ∀ (i k : Nat), i ≤ d.length → i < k → trimL (d.take i) = trimL d → iter (fun rec => rtrim_0 rec kx) k (m, d, (i : Int), w) = b
  | i, 0, _, h, _ => by omega
  | 0, k + 1, hi, _, ht => by
    rw [iter_s]
    simp only [rtrim_0]
    rw [decide_eq_false (by omega)]
    exact h2 0 hi ht
  | i + 1, k + 1, hi, h, ht => by
    rw [iter_s]
    have hl : i < d.length := by omega
    have e1 : wr .i64 (((i + 1 : Nat) : Int) - 1) = (i : Int) := by rw [wr_id (by simp only [inI, ln] at *; omega)]; omega
    simp only [rtrim_0]
    rw [decide_eq_true (show (0 : Int) < ((i + 1 : Nat) : Int) by omega), e1, inb_t hl, at_nat (c := .int) hl]
    show cond (decide (d[i] = 0)) _ _ = b
    have ht' := ht
    rw [List.take_add_one, List.getElem?_eq_getElem hl] at ht'
    by_cases h0 : d[i] = 0
    · rw [decide_eq_true h0]
      refine rtrim_loop hn h2 i k (by omega) (by omega) ?_
      rw [← ht', h0]
      exact (trimL_zero _).symm
    · rw [decide_eq_false h0]
      refine h2 (i + 1) hi ?_
      rw [← ht', List.take_add_one, List.getElem?_eq_getElem hl]
      exact (trimL_last h0 _).symm
theorem rtrim_ok : FnOk Tryd.prog elT glT 78 [.bool, .sl .int false] [.sv .num] rtrim_F := .fin 0 rtrim_run fun (m, d) r hb hx => ⟨d.length + 1, by
  simp only [rtrim_F, Option.some.injEq] at hx
  subst hx
  simp only [rtrim_body]
  refine rtrim_loop hb.2.1 (fun i hi ht => ?_) d.length (d.length + 1) (Nat.le_refl _) (by omega) (by rw [List.take_length])
  have hlen : (trimL d).length = i := by rw [← ht]; simp; omega
  have hu : upto 0 (i : Int) d.length = true := by
    rw [show (0 : Int) = ((0 : Nat) : Int) from rfl, upto_nat]
    simp [hi]
  rw [hu]
  simp only [chk_t, Int.toNat_natCast, ht, rtrim, hlen]
  cases m <;> rfl⟩
theorem rtrim_S {m : Bool} {d : List Int} (h : dg d = true) : rtrim m d = numS m (val d) := by
  have e := trimL_digs h
  have hv := val_nn h
  simp only [rtrim, numS, e]
  by_cases h0 : val d = 0
  · rw [h0, show digs (Int.toNat 0) = [] from digs_zero]; rfl
  · rw [digs_pos (n := (val d).toNat) (by omega), decide_eq_true (show (0 : Int) < val d by omega)]
    rw [decide_eq_true (by simp only [List.length_cons]; omega)]
/-! ## exchequer/exchequerref02.Of -/
def rOf_0_sg : Sig := ⟨24, [(0, .int .i64), (3, .sl .int true), (4, .int .i64)], [(2, .ptr 0 0)], [(0, .one (.sv .num))], 1, 0, 0, [], []⟩
abbrev rOf_0_V := Int × List Int × Int × Num
def rOf_0 {R : Type} (rec : rOf_0_V → Option R) (kx : Ex → rOf_0_V → Option R) (v : rOf_0_V) : Option R := match v with
 | (v, v1, v2, w) =>
  cond (!decide (v2 = 0)) (
   chk (decide (v1.length + 1 ≤ maxApp)) (
    rec (v, (v1 ++ [(max2 (Int.tmod v2 10) (wr .i64 (0 - (Int.tmod v2 10))))]), (wr .i64 (Int.tdiv v2 10)), w))) (
   kx (.exit 0) (v, v1, v2, w))
def rOf_px (R : Type) (k : Nat) : Px R := ⟨ttOf ttL, glT, callT [(78, callOr [.bool, .sl .int false] [.sv .num] rtrim_F)], callQT [], loopT [(3, loopOr k rOf_0_sg (rOf_0))]⟩
theorem rOf_0_eq (R : Type) (k : Nat) : ∀ (fr : List Fr) (rec : rOf_0_V → Option R) (kx : Ex → rOf_0_V → Option R) (v : rOf_0_V), round (rOf_px R k) rOf_0_sg (lp Tryd.f73 0) fr rec kx v = rOf_0 rec kx v
  | fr, rec, kx, (v, v1, v2, w) => by kernel_rfl
def rOf_body (k : Nat) (x : HV [.int .i64]) : Option (HV [.sv .num]) := match x with
 | n =>
  iter (fun rec => rOf_0 rec (fun e v => match v with | (v3, v4, _, _) => match e with
   | .exit 0 =>
    some (rtrim (decide (v3 < 0)) v4)
   | _ => none)) k (n, [], n, (Num.mk false []))
theorem rOf_eq (k : Nat) : ∀ (x : HV [.int .i64]), runF (rOf_px _ k) Tryd.f73 [.int .i64] [.sv .num] x some = rOf_body k x
  | n => by kernel_rfl
theorem rOf_run (k : Nat) : FnOk Tryd.prog elT glT 73 [.int .i64] [.sv .num] (rOf_body k) := by
  refine fnOk_run Tryd.func73 rfl (by kernel_rfl) follows (by kernel_rfl) (n := 1) (by kernel_rfl) (px := rOf_px _ k) (fun cx hP hel hgl => ?_) (rOf_eq k)
  have hp0 : PxOk cx (rOf_px (HV [.sv .num]) k) := ⟨fun t => by rw [hP, hel]; exact tt_ok ttL_ok t, by rw [hgl]; rfl⟩
  have hc0 : CallOk cx (rOf_px (HV [.sv .num]) k) := callT_ok rfl (cfs_cons (cf_or (by rw [hP, hel, hgl]; exact rtrim_ok) (by kernel_rfl)) cfs_nil)
  have hq0 : CallQOk cx (rOf_px (HV [.sv .num]) k) := callQT_ok rfl cqfs_nil
  have hlrOf_0 : LoopOk cx (rOf_px (HV [.sv .num]) k) (lp Tryd.f73 0) := loop_ok hp0 hc0 hq0 (by rw [hP]; exact follows) (k := k) (s := rOf_0_sg) (step := rOf_0) (fun _ _ => by kernel_rfl) (by kernel_rfl) (rOf_0_eq _ k) (loops_in (n := 0) (by kernel_rfl) all0)
  exact ⟨hp0, hc0, hq0, (allS all0 hlrOf_0)⟩
abbrev rOf (n : Int) : Num := numZ n
def rOf_F : FT [.int .i64] [.sv .num] := fun x => some (rOf x)
theorem ten_parts {x : Int} (hx : inI x) (h0 : ¬ x = 0) : max2 (Int.tmod x 10) (wr .i64 (0 - Int.tmod x 10)) = ((x.natAbs % 10 : Nat) : Int) ∧ inI (wr .i64 (Int.tdiv x 10)) ∧ (wr .i64 (Int.tdiv x 10)).natAbs = x.natAbs / 10 := by
  simp only [inI] at *
  rcases Int.natAbs_eq x with h | h
  · generalize x.natAbs = a at h
    subst h
    have e1 : Int.tmod (a : Int) 10 = ((a % 10 : Nat) : Int) := rfl
    have e2 : Int.tdiv (a : Int) 10 = ((a / 10 : Nat) : Int) := rfl
    rw [e1, e2, wr_id (by simp only [inI]; omega), wr_id (by simp only [inI]; omega)]
    refine ⟨?_, by omega, by omega⟩
    simp only [max2]
    split <;> omega
  · generalize x.natAbs = a at h
    subst h
    have e1 : Int.tmod (-(a : Int)) 10 = -((a % 10 : Nat) : Int) := by rw [Int.neg_tmod]; rfl
    have e2 : Int.tdiv (-(a : Int)) 10 = -((a / 10 : Nat) : Int) := by rw [Int.neg_tdiv]; rfl
    rw [e1, e2, wr_id (by simp only [inI]; omega), wr_id (by simp only [inI]; omega)]
    refine ⟨?_, by omega, by omega⟩
    simp only [max2]
    split <;> omega
theorem rOf_loop {R : Type} {kx : Ex → rOf_0_V → Option R} {n : Int} {w : Num} {b : List Int → Option R} (h2 : ∀ out x, kx (.exit 0) (n, out, x, w) = b out) : ∀ (k : Nat) (x : Int) (out : List Int), inI x → (digs x.natAbs).length < k → out.length + (digs x.natAbs).length ≤ 1000 → iter (fun rec => rOf_0 rec kx) k (n, out, x, w) = b (out ++ digs x.natAbs)
  | 0, x, out, _, h, _ => by omega
  | k + 1, x, out, hx, h, ho => by
    rw [iter_s]
    simp only [rOf_0, h2]
    by_cases h0 : x = 0
    · subst h0
      rw [decide_eq_true rfl]
      show b out = _
      rw [show (0 : Int).natAbs = 0 from rfl, digs_zero, List.append_nil]
    · have hd := digs_pos (n := x.natAbs) (by omega)
      obtain ⟨e1, e2, e3⟩ := ten_parts hx h0
      rw [hd, List.length_cons] at h ho
      have ih := rOf_loop h2 k (wr .i64 (Int.tdiv x 10)) (out ++ [((x.natAbs % 10 : Nat) : Int)]) e2 (by rw [e3]; omega) (by rw [e3]; simp only [List.length_append, List.length_cons, List.length_nil]; omega)
      rw [decide_eq_false h0, e1, ih, e3, decide_eq_true (show out.length + 1 ≤ maxApp by simp only [maxApp]; omega), hd]
      simp [chk]
theorem inI_digs {x : Int} (h : inI x) : (digs x.natAbs).length ≤ 20 := digs_len 20 _ (by
  simp only [inI] at h
  have : pw 20 = 100000000000000000000 := by kernel_rfl
  omega)
theorem rOf_ok : FnOk Tryd.prog elT glT 73 [.int .i64] [.sv .num] rOf_F := .fin 0 rOf_run fun n r hb hx => ⟨21, by
  have hb := inK_i64 hb
  have hl := inI_digs hb
  simp only [rOf_F, Option.some.injEq] at hx
  subst hx
  simp only [rOf_body]
  refine (rOf_loop (b := fun out => some (rtrim (decide (n < 0)) out)) (fun _ _ => rfl) 21 n [] hb (by omega) (by simp only [List.length_nil]; omega)).trans ?_
  rw [List.nil_append, rtrim_S (digs_dg _), digs_val]
  rfl⟩
end Go.Proofs.YtlhebakbbfmiiaaDoor

/- The document's answer: a number out of its digits; is one less? -/
namespace Go.Proofs.YtlhebakbbfmiiaaDoor
open Go.Ax
/-! ## exchequer/exchequerref02.told -/
def rtold_0_sg : Sig := ⟨43, [(2, .int .i64), (3, .int .i64), (4, .int .i64), (5, .int .i64)], [(1, .ptr 0 0)], [(0, .one (.sv .num))], 1, 0, 0, [], []⟩
abbrev rtold_0_V := Int × Int × Int × Int × Num
def rtold_0 {R : Type} (rec : rtold_0_V → Option R) (kx : Ex → rtold_0_V → Option R) (v : rtold_0_V) : Option R := match v with
 | (v, v1, v2, v3, w) =>
  cond (decide (0 ≤ v3)) (
   cond (decide (v2 < (-922337203685477580))) (
    kx .ret (0, 20, v2, v3, w)) (
    cond (decide (v2 = (-922337203685477580))) (
     chk (inb v3 w.d.length) (
      cond (decide (8 < (at' .int w.d v3))) (
       kx .ret (0, 20, v2, v3, w)) (
       chk (inb v3 w.d.length) (
        rec (v, v1, (wr .i64 ((wr .i64 (10 * v2)) - (at' .int w.d v3))), (wr .i64 (v3 - 1)), w))))) (
     chk (inb v3 w.d.length) (
      rec (v, v1, (wr .i64 ((wr .i64 (10 * v2)) - (at' .int w.d v3))), (wr .i64 (v3 - 1)), w))))) (
   kx (.exit 0) (v, v1, v2, v3, w))
def rtold_px (R : Type) (k : Nat) : Px R := ⟨ttOf ttL, glT, callT [], callQT [], loopT [(3, loopOr k rtold_0_sg (rtold_0))]⟩
theorem rtold_0_eq (R : Type) (k : Nat) : ∀ (fr : List Fr) (rec : rtold_0_V → Option R) (kx : Ex → rtold_0_V → Option R) (v : rtold_0_V), round (rtold_px R k) rtold_0_sg (lp Tryd.f72 0) fr rec kx v = rtold_0 rec kx v
  | fr, rec, kx, (v, v1, v2, v3, w) => by kernel_rfl
def rtold_body (k : Nat) (x : HV [.sv .num]) : Option (HV [.int .i64, .int .i64]) := match x with
 | n =>
  iter (fun rec => rtold_0 rec (fun e v => match v with | (v4, v5, v6, _, v8) => match e with
   | .ret =>
    some (v4, v5)
   | .exit 0 =>
    cond (v8.minus) (
     some (v6, 0)) (
     cond (decide (v6 = (-9223372036854775808))) (
      some (0, 20)) (
      some ((wr .i64 (0 - v6)), 0)))
   | _ => none)) k (0, 0, 0, (wr .i64 ((n.d.length : Int) - 1)), n)
theorem rtold_eq (k : Nat) : ∀ (x : HV [.sv .num]), runF (rtold_px _ k) Tryd.f72 [.sv .num] [.int .i64, .int .i64] x some = rtold_body k x
  | n => by kernel_rfl
theorem rtold_run (k : Nat) : FnOk Tryd.prog elT glT 72 [.sv .num] [.int .i64, .int .i64] (rtold_body k) := by
  refine fnOk_run Tryd.func72 rfl (by kernel_rfl) follows (by kernel_rfl) (n := 1) (by kernel_rfl) (px := rtold_px _ k) (fun cx hP hel hgl => ?_) (rtold_eq k)
  have hp0 : PxOk cx (rtold_px (HV [.int .i64, .int .i64]) k) := ⟨fun t => by rw [hP, hel]; exact tt_ok ttL_ok t, by rw [hgl]; rfl⟩
  have hc0 : CallOk cx (rtold_px (HV [.int .i64, .int .i64]) k) := callT_ok rfl cfs_nil
  have hq0 : CallQOk cx (rtold_px (HV [.int .i64, .int .i64]) k) := callQT_ok rfl cqfs_nil
  have hlrtold_0 : LoopOk cx (rtold_px (HV [.int .i64, .int .i64]) k) (lp Tryd.f72 0) := loop_ok hp0 hc0 hq0 (by rw [hP]; exact follows) (k := k) (s := rtold_0_sg) (step := rtold_0) (fun _ _ => by kernel_rfl) (by kernel_rfl) (rtold_0_eq _ k) (loops_in (n := 0) (by kernel_rfl) all0)
  exact ⟨hp0, hc0, hq0, (allS all0 hlrtold_0)⟩
def rtold (n : Num) : Option (Int × Int) := cond (dg n.d) (some (fitZ (nv n))) none
def rtold_F : FT [.sv .num] [.int .i64, .int .i64] := fun x => rtold x
theorem rtold_loop {R : Type} {kx : Ex → rtold_0_V → Option R} {n : Num} {a : Option R} {b : Int → Option R} (hd : dg n.d = true) (hn : ln n.d.length) (h1 : ∀ x i, kx .ret (0, 20, x, i, n) = a) (h2 : ∀ p q x i, kx (.exit 0) (p, q, x, i, n) = b x) : ∀ (k j : Nat) p q, j ≤ n.d.length → j < k → val (n.d.drop j) ≤ 9223372036854775808 → iter (fun rec => rtold_0 rec kx) k (p, q, -(val (n.d.drop j)), (j : Int) - 1, n) = if val n.d ≤ 9223372036854775808 then b (-(val n.d)) else a
  | 0, j, p, q, _, h, _ => by omega
  | k + 1, 0, p, q, _, _, hv => by
    rw [iter_s]
    simp only [rtold_0, h2, List.drop_zero] at hv ⊢
    rw [decide_eq_false (by omega), if_pos hv]
    rfl
  | k + 1, j + 1, p, q, hj, h, hv => by
    rw [iter_s]
    have hl : j < n.d.length := by omega
    have e0 : (((j + 1 : Nat) : Int) - 1) = (j : Int) := by omega
    have hs := val_drop n.d j
    have hb := dgt_bd hd j
    have hnn := val_nn (dg_drop (j + 1) hd)
    have hle := val_drop_le hd j
    have e1 : wr .i64 ((j : Int) - 1) = (j : Int) - 1 := wr_id (by simp only [inI, ln] at *; omega)
    rw [e0]
    simp only [rtold_0, h1, inb_t hl, chk, cond_t, at_dgt hl, e1]
    rw [decide_eq_true (Int.natCast_nonneg j)]
    have over : val (n.d.drop j) > 9223372036854775808 → (if val n.d ≤ 9223372036854775808 then b (-(val n.d)) else a) = a := fun h => if_neg (by omega)
    have next : val (n.d.drop j) ≤ 9223372036854775808 → iter (fun rec => rtold_0 rec kx) k (p, q, wr .i64 (wr .i64 (10 * -(val (n.d.drop (j + 1)))) - dgt n.d j), (j : Int) - 1, n) = (if val n.d ≤ 9223372036854775808 then b (-(val n.d)) else a) := fun h => by
      have e2 : wr .i64 (10 * -(val (n.d.drop (j + 1)))) = 10 * -(val (n.d.drop (j + 1))) := wr_id (by simp only [inI]; omega)
      have e3 : wr .i64 (10 * -(val (n.d.drop (j + 1))) - dgt n.d j) = -(val (n.d.drop j)) := by rw [wr_id (by simp only [inI]; omega)]; omega
      rw [e2, e3]
      exact rtold_loop hd hn h1 h2 k j p q (by omega) (by omega) h
    by_cases c1 : -(val (n.d.drop (j + 1))) < -922337203685477580
    · rw [decide_eq_true c1, over (by omega)]
      rfl
    · rw [decide_eq_false c1]
      by_cases c2 : -(val (n.d.drop (j + 1))) = -922337203685477580
      · rw [decide_eq_true c2]
        by_cases c3 : 8 < dgt n.d j
        · rw [decide_eq_true c3, over (by omega)]
          rfl
        · rw [decide_eq_false c3]
          exact next (by omega)
      · rw [decide_eq_false c2]
        exact next (by omega)
theorem rtold_ok : FnOk Tryd.prog elT glT 72 [.sv .num] [.int .i64, .int .i64] rtold_F := .fin 0 rtold_run fun n r hb hx => ⟨n.d.length + 1, by
  have hln : ln n.d.length := hb.1
  simp only [rtold_F, rtold] at hx
  cases hd : dg n.d with
  | false => rw [hd] at hx; cases hx
  | true =>
    rw [hd] at hx
    have hx : some (fitZ (nv n)) = some r := hx
    rw [← hx]
    have hnn := val_nn hd
    have e0 : wr .i64 ((n.d.length : Int) - 1) = (n.d.length : Int) - 1 := wr_id (by simp only [inI, ln] at *; omega)
    simp only [rtold_body, e0]
    have e1 : (0 : Int) = -(val (n.d.drop n.d.length)) := by rw [List.drop_length]; rfl
    have e2 : ((0, 0, 0, (n.d.length : Int) - 1, n) : rtold_0_V) = (0, 0, -(val (n.d.drop n.d.length)), (n.d.length : Int) - 1, n) := by rw [← e1]
    rw [e2]
    refine (rtold_loop (a := some (0, 20)) (b := fun x => cond n.minus (some (x, 0)) (cond (decide (x = -9223372036854775808)) (some (0, 20)) (some (wr .i64 (0 - x), 0)))) hd hln (fun _ _ => rfl) (fun _ _ _ _ => rfl) (n.d.length + 1) n.d.length 0 0 (Nat.le_refl _) (by omega) (by rw [List.drop_length]; decide)).trans ?_
    · by_cases hm : n.minus = true
      · have hv : nv n = -(val n.d) := by simp only [nv, if_pos hm]
        rw [hv, hm]
        simp only [cond_t, fitZ]
        by_cases h : val n.d ≤ 9223372036854775808
        · rw [if_pos h, if_pos (by omega)]
        · rw [if_neg h, if_neg (by omega)]
      · have hv : nv n = val n.d := by simp only [nv, if_neg hm]
        rw [hv, Bool.eq_false_iff.2 hm]
        simp only [cond_f, fitZ]
        by_cases h : val n.d ≤ 9223372036854775808
        · rw [if_pos h]
          by_cases h9 : val n.d = 9223372036854775808
          · rw [h9]; rfl
          · rw [decide_eq_false (by omega), if_pos (by omega), wr_id (by simp only [inI]; omega)]
            simp
        · rw [if_neg h, if_neg (by omega)]⟩
/-! ## exchequer/exchequerref02.less -/
def rless_0_sg : Sig := ⟨30, [(0, .sl .int false), (1, .sl .int false), (4, .bool), (5, .int .i64)], [], [], 0, 0, 0, [], []⟩
abbrev rless_0_V := List Int × List Int × Bool × Int
def rless_0 {R : Type} (rec : rless_0_V → Option R) (kx : Ex → rless_0_V → Option R) (v : rless_0_V) : Option R := match v with
 | (v, v1, v2, v3) =>
  cond (decide (0 ≤ v3)) (
   (rdigit v v3).bind fun x =>
    (rdigit v1 v3).bind fun x1 =>
     cond (!decide (x = x1)) (
      (rdigit v v3).bind fun x2 =>
       (rdigit v1 v3).bind fun x3 =>
        kx .ret (v, v1, decide (x2 < x3), v3)) (
      rec (v, v1, v2, (wr .i64 (v3 - 1))))) (
   kx (.exit 0) (v, v1, v2, v3))
def rless_px (R : Type) (k : Nat) : Px R := ⟨ttOf ttL, glT, callT [(79, callOr [.sl .int false, .int .i64] [.int .i64] rdigit_F)], callQT [], loopT [(2, loopOr k rless_0_sg (rless_0))]⟩
theorem rless_0_eq (R : Type) (k : Nat) : ∀ (fr : List Fr) (rec : rless_0_V → Option R) (kx : Ex → rless_0_V → Option R) (v : rless_0_V), round (rless_px R k) rless_0_sg (lp Tryd.f80 0) fr rec kx v = rless_0 rec kx v
  | fr, rec, kx, (v, v1, v2, v3) => by kernel_rfl
def rless_body (k : Nat) (x : HV [.sl .int false, .sl .int false]) : Option (HV [.bool]) := match x with
 | (a, b) =>
  iter (fun rec => rless_0 rec (fun e v => match v with | (_, _, v6, _) => match e with
   | .ret =>
    some v6
   | .exit 0 =>
    some false
   | _ => none)) k (a, b, false, (wr .i64 ((max2 (a.length : Int) (b.length : Int)) - 1)))
theorem rless_eq (k : Nat) : ∀ (x : HV [.sl .int false, .sl .int false]), runF (rless_px _ k) Tryd.f80 [.sl .int false, .sl .int false] [.bool] x some = rless_body k x
  | (a, b) => by kernel_rfl
theorem rless_run (k : Nat) : FnOk Tryd.prog elT glT 80 [.sl .int false, .sl .int false] [.bool] (rless_body k) := by
  refine fnOk_run Tryd.func80 rfl (by kernel_rfl) follows (by kernel_rfl) (n := 1) (by kernel_rfl) (px := rless_px _ k) (fun cx hP hel hgl => ?_) (rless_eq k)
  have hp0 : PxOk cx (rless_px (HV [.bool]) k) := ⟨fun t => by rw [hP, hel]; exact tt_ok ttL_ok t, by rw [hgl]; rfl⟩
  have hc0 : CallOk cx (rless_px (HV [.bool]) k) := callT_ok rfl (cfs_cons (cf_or (by rw [hP, hel, hgl]; exact rdigit_ok) (by kernel_rfl)) cfs_nil)
  have hq0 : CallQOk cx (rless_px (HV [.bool]) k) := callQT_ok rfl cqfs_nil
  have hlrless_0 : LoopOk cx (rless_px (HV [.bool]) k) (lp Tryd.f80 0) := loop_ok hp0 hc0 hq0 (by rw [hP]; exact follows) (k := k) (s := rless_0_sg) (step := rless_0) (fun _ _ => by kernel_rfl) (by kernel_rfl) (rless_0_eq _ k) (loops_in (n := 0) (by kernel_rfl) all0)
  exact ⟨hp0, hc0, hq0, (allS all0 hlrless_0)⟩
def rless (a b : List Int) : Option Bool := cond (dg a && dg b) (some (decide (val a < val b))) none
def rless_F : FT [.sl .int false, .sl .int false] [.bool] := fun x => rless x.1 x.2
theorem rless_loop {R : Type} {kx : Ex → rless_0_V → Option R} {a b : List Int} {c : Bool → Option R} (ha : dg a = true) (hb : dg b = true) (h1 : ∀ p i, kx .ret (a, b, p, i) = c p) (h2 : ∀ p i, kx (.exit 0) (a, b, p, i) = c false) : ∀ (k j : Nat) (p : Bool), ln j → j < k → val (a.drop j) = val (b.drop j) → iter (fun rec => rless_0 rec kx) k (a, b, p, (j : Int) - 1) = c (decide (val a < val b))
  | 0, j, p, _, h, _ => absurd h (Nat.not_lt_zero _)
  | k + 1, 0, p, _, _, hv => by
    rw [iter_s]
    simp only [List.drop_zero] at hv
    simp only [rless_0, h2]
    rw [decide_eq_false (by omega), decide_eq_false (by omega)]
    rfl
  | k + 1, j + 1, p, hj, h, hv => by
    rw [iter_s]
    have e0 : (((j + 1 : Nat) : Int) - 1) = (j : Int) := by omega
    have e1 : wr .i64 ((j : Int) - 1) = (j : Int) - 1 := wr_id (by simp only [inI, ln] at *; omega)
    have sa := val_drop a j
    have sb := val_drop b j
    rw [e0]
    simp only [rless_0, h1, rdigit_nat, Option.bind_some, e1]
    rw [decide_eq_true (Int.natCast_nonneg j), cond_t]
    by_cases h0 : dgt a j = dgt b j
    · rw [decide_eq_true h0]
      exact rless_loop ha hb h1 h2 k j p (by simp only [ln] at *; omega) (by omega) (by omega)
    · rw [decide_eq_false h0]
      show c _ = _
      obtain ⟨la, a1, a2, a3⟩ := val_split ha j
      obtain ⟨lb, b1, b2, b3⟩ := val_split hb j
      have hp := pw_pos j
      congr 1
      refine decide_eq_decide.2 ?_
      have lt : ∀ {x y lx ly : Int}, x < y → lx < pw j → 0 ≤ ly → lx + pw j * x < ly + pw j * y := fun {x y lx ly} hxy h3 h4 => by
        have : pw j * (x + 1) ≤ pw j * y := Int.mul_le_mul_of_nonneg_left hxy (by omega)
        rw [Int.mul_add, Int.mul_one] at this
        omega
      constructor
      · intro hlt
        rw [a3, b3]
        exact lt (by omega) a2 b1
      · intro hlt
        by_cases hgt : dgt b j < dgt a j
        · have := lt (x := val (b.drop j)) (y := val (a.drop j)) (by omega) b2 a1
          omega
        · omega
theorem rless_ok : FnOk Tryd.prog elT glT 80 [.sl .int false, .sl .int false] [.bool] rless_F := .fin 0 rless_run fun (a, b) r hb hx => ⟨max a.length b.length + 1, by
  have l1 : ln a.length := hb.1.1
  have l2 : ln b.length := hb.2.1
  simp only [rless_F, rless] at hx
  cases hd : dg a && dg b with
  | false => rw [hd] at hx; cases hx
  | true =>
    rw [hd] at hx
    simp only [Bool.and_eq_true] at hd
    have hx : some (decide (val a < val b)) = some r := hx
    rw [← hx]
    have e0 : wr .i64 (max2 (a.length : Int) (b.length : Int) - 1) = ((max a.length b.length : Nat) : Int) - 1 := by
      simp only [ln] at l1 l2
      rw [wr_id (by simp only [inI, max2]; split <;> omega)]
      simp only [max2]
      split <;> omega
    simp only [rless_body, e0]
    refine rless_loop (c := fun p => some p) hd.1 hd.2 (fun _ _ => rfl) (fun _ _ => rfl) (max a.length b.length + 1) (max a.length b.length) false (Nat.max_le.2 ⟨l1, l2⟩) (by omega) ?_
    rw [List.drop_eq_nil_of_le (by omega), List.drop_eq_nil_of_le (by omega)]⟩
end Go.Proofs.YtlhebakbbfmiiaaDoor
