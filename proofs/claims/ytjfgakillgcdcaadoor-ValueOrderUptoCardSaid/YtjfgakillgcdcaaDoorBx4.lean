/- Texts of the proof, one behind the other: Tv, Pf, Lc, Na, Ar, Nb, Shp, Sr, Dg, Nc, No, Nd. -/
import Derived.Test.YtjfgakillgcdcaaDoorBx3
import Derived.Test.YtjfgakillgcdcaaDoorProg
import Derived.KernelRfl
import Derived.Lib.Bytealg
import Derived.Shelf.Strings.Replace
/- What the machine is told: the seat's types, package-level variables. -/
namespace Go.Proofs.YtjfgakillgcdcaaDoor
open Go.Ax
/-- the types -/
def ttL : List (Nat × Ax.Ty) := [
  (3, .int .i64),
  (4, .bool),
  (5, .int .u8),
  (9, .str),
  (21, .int .i32),
  (23, .sl .str),
  (28, .st (some .val) [(0, 3), (1, 3), (2, 9)] [.int .i64 0, .int .i64 0, .str []]),
  (29, .int .i64),
  (40, .sl .val),
  (45, .sl .tok),
  (49, .st (some .tok) [(0, 3), (1, 3), (2, 9), (3, 3)] [.int .i64 0, .int .i64 0, .str [], .int .i64 0]),
  (52, .arr 36 .str),
  (54, .fn),
  (57, .arr 2 .str),
  (61, .sl .int),
  (63, .st (some .num) [(0, 4), (1, 61)] [.bool false, .sl .int [] .nil]),
  (68, .int .u64),
  (78, .sl .byte),
  (80, .int .u64),
  (93, .ptr),
  (95, .st none [(0, 93), (1, 78)] [.nilp, .sl .byte [] .nil]),
  (105, .ptr),
  (110, .arr 256 .byte),
  (112, .st none [(0, 5), (1, 5)] [.int .u8 0, .int .u8 0]),
  (114, .int .u32)]
def elT : Ck → TypeId
  | .byte => 5
  | .int => 3
  | .u64 => 68
  | .str => 9
  | .bool => 4
  | .val => 28
  | .tok => 49
  | .num => 63
  | .vals => 40
  | .strs => 23
  | .bytes => 78
  | _ => 0
theorem ttL_ok : (ttL.all fun p => tyOk Tryd.prog elT (ttOf ttL) p.1) = true := by kernel_rfl
def glT : Nat → Option Gv := tbl [(1, .num .i64)]
theorem follows : Tryd.prog.follows .mixedOrders = true := by kernel_rfl
end Go.Proofs.YtjfgakillgcdcaaDoor

/- Words for proofs about printed runs: places in texts and rows as natural numbers. -/
namespace Go.Ax
theorem bat_nat {s : Str} {i : Nat} (h : i < s.length) : bat s (i : Int) = ((s[i]'h).toNat : Int) := by
  simp [bat, List.getD_eq_getElem?_getD, h]
theorem at_nat {c : Ck} {xs : List (El c)} {i : Nat} (h : i < xs.length) : at' c xs (i : Int) = xs[i]'h := by
  simp [at', List.getD_eq_getElem?_getD, h]
theorem wr_nat {n : Nat} (h : ln n) : wr .i64 (n : Int) = (n : Int) := wr_id (by simp only [ln, inI] at *; omega)
theorem wr_succ {i n : Nat} (h : i < n) (hn : ln n) : wr .i64 ((i : Int) + 1) = ((i + 1 : Nat) : Int) := by
  rw [wr_id (by simp only [ln, inI] at *; omega)]; rfl
theorem drop_cons {α : Type} {l : List α} {i : Nat} (h : i < l.length) : l.drop i = l[i]'h :: l.drop (i + 1) := List.drop_eq_getElem_cons h
theorem inb_t {i n : Nat} (h : i < n) : inb (i : Int) n = true := by simp [inb_nat, h]
theorem iter_s {V R : Type} {step : (V → Option R) → V → Option R} {k : Nat} {v : V} : iter step (k + 1) v = step (iter step k) v := rfl
theorem cond_t {α : Type} {a b : α} : cond true a b = a := rfl
theorem cond_f {α : Type} {a b : α} : cond false a b = b := rfl
theorem cond_some {α : Type} {c : Bool} {a b : α} : cond c (some a) (some b) = some (cond c a b) := by cases c <;> rfl
end Go.Ax

/- Contracts of the library's functions, from walks. -/
namespace Go.Ax
/-- from a walk: results of which nothing lies in memory -/
theorem FnOk.ofIs {P : Program} {el : Ck → TypeId} {gl : Nat → Option Gv} {f : FuncId} {sa sr : List Sg} {F : FT sa sr} (he : Sx.Enters P f) (ho : owns 0 sr = []) (h : ∀ x r, F x = some r → ∃ (us : List Value) (v : Value), (∀ X vs, Reps X (encL 0 sa x) vs → vs = us) ∧ Sx.Con P f us [] (fun _ => True) (Sx.Is v) ∧ ∀ X, BdL sa x → Rep X (pack (encL 0 sr r)) v) : FnOk P el gl f sa sr F := by
  refine ⟨he, fun x r hx w M vs hM hgl hr => ?_⟩
  obtain ⟨us, v, h1, h2, h3⟩ := h x r hx
  obtain rfl := h1 _ _ hr
  refine (h2.calls w (fun _ _ => trivial)).mono ?_
  rintro en w' ⟨u, L', F', rfl, ⟨rfl, _, _⟩, _, hb⟩
  refine ⟨u, ⟨fun _ => 0, fun _ => Option.none⟩, rfl, Chg.of_below hb, fun p g o hp => ?_, fun p q g o o' hp => ?_, h3 _ (reps_bd hr)⟩
  · rw [ho] at hp; cases hp
  · rw [ho] at hp; cases hp
end Go.Ax
namespace Go.Proofs.YtjfgakillgcdcaaDoor
open Go.Ax
open Go.Sx (Con S Is con_intro rt_is)
theorem run_compare (a b : Str) (w : World) : (callFunc 80 #[S a, S b]).run Tryd.prog w = .ok (.value (.int .i64 (Lib.compareBytes a b))) w := by
  rw [run_callFunc_extern Tryd.func80 (by kernel_rfl) rfl (by kernel_rfl) (e := Extern.BytealgCompare.compare) (by kernel_rfl)]
  simp [Lib.run_compareString, go_sem, S]
set_option maxRecDepth 20000 in
open Go.Sx in
theorem compare_con (a b : Str) : Con Tryd.prog 65 [S a, S b] [] (fun _ => True) (Is (.int .i64 (Lib.compareBytes a b))) := by
  refine con_intro Tryd.func65 Tryd.ntmps65 rfl (by kernel_rfl) rfl fun w M => ?_
  repeat' (first | refine g_seq ?_ | refine g_region ?_ | refine o_nil ?_ | refine n_seq ?_ | refine n_blk ?_ | refine g_block ?_ | refine g_skip ?_ | refine g_exit ?_ | refine x_here ?_ | refine x_seq ?_ | refine x_loop ?_ | refine x_blk rfl ?_ | refine g_scope ?_ | refine n_scope ?_ | refine x_scope ?_ | refine g_label ?_ | (apply o_pure rfl rfl; (first | exact p_move rfl | exact p_assign rfl | exact p_lens (by dsimp only; decide +kernel) rfl | exact p_lensl (by dsimp only; decide +kernel) rfl | exact p_extract rfl rfl | exact p_pick_t rfl rfl | exact p_pick_f rfl rfl | exact p_eql rfl rfl | exact p_neq rfl rfl | exact p_lss rfl rfl | exact p_leq rfl rfl | exact p_gtr rfl rfl | exact p_geq rfl rfl | exact p_not rfl | exact p_eqls rfl rfl | exact p_neqs rfl rfl | exact p_add64 rfl rfl (by omega) | exact p_sub64 rfl rfl (by omega) | exact p_index (by dsimp only; decide +kernel) rfl rfl (by omega) | exact p_cut (by dsimp only; decide +kernel) rfl rfl rfl (by omega) | exact p_cutlo (by dsimp only; decide +kernel) rfl rfl (by omega) | exact p_cuthi (by dsimp only; decide +kernel) rfl rfl (by omega) | exact p_fa (fo := 0) (by dsimp only; decide +kernel) rfl | exact p_fa (fo := 1) (by dsimp only; decide +kernel) rfl | exact p_fa (fo := 2) (by dsimp only; decide +kernel) rfl | exact p_fa (fo := 3) (by dsimp only; decide +kernel) rfl | exact p_nil rfl)) | refine o_off rfl rfl ?_ | refine o_off_none rfl ?_ | (apply o_pure rfl rfl (p_callx rfl rfl (run_compare _ _))) | (refine o_gsd rfl rfl ?_ ?_ <;> intro hc) | (refine o_gse rfl rfl ?_ ?_ <;> intro hc) | (refine o_gsn rfl rfl ?_ ?_ <;> intro hc) | (refine o_gsxd rfl rfl ?_ ?_ <;> intro hc) | (refine o_gsx rfl rfl ?_ ?_ <;> intro hc) | (refine o_gs rfl rfl ?_ ?_ <;> intro hc) | refine g_cond_t rfl rfl ?_ | refine g_cond_f rfl rfl ?_ | refine g_cond_t rfl (decide_eq_true (by omega)) ?_ | refine g_cond_f rfl (decide_eq_false (by omega)) ?_ | (refine g_condd rfl ?_ ?_ <;> intro hc) | (refine g_conde rfl ?_ ?_ <;> intro hc) | (refine g_condn rfl ?_ ?_ <;> intro hc) | (refine g_condxd rfl ?_ ?_ <;> intro hc) | (refine g_condx rfl ?_ ?_ <;> intro hc) | (refine g_cond rfl ?_ ?_ <;> intro hc) | refine g_ret1 rfl rfl ?_ | refine g_ret2 rfl rfl rfl ?_ | refine g_ret3 rfl rfl rfl rfl ?_)
  exact rt_is rfl
def scmp (a b : Str) : Int := Lib.compareBytes a b
def scmp_F : FT [.str, .str] [.int .i64] := fun x => some (scmp x.1 x.2)
theorem scmp_range : ∀ (a b : Str), scmp a b = -1 ∨ scmp a b = 0 ∨ scmp a b = 1
  | [], [] => by simp [scmp, Lib.compareBytes]
  | [], _ :: _ => by simp [scmp, Lib.compareBytes]
  | _ :: _, [] => by simp [scmp, Lib.compareBytes]
  | a :: l, b :: m => by
    have ih := scmp_range l m
    simp only [scmp, Lib.compareBytes] at ih ⊢
    split
    · simp
    · split
      · simp
      · exact ih
theorem scmp_ok : FnOk Tryd.prog elT glT 65 [.str, .str] [.int .i64] scmp_F := by
  refine FnOk.ofIs (compare_con [] []).enters rfl fun x r hx => ?_
  obtain ⟨a, b⟩ := x
  simp only [scmp_F, Option.some.injEq] at hx
  subst hx
  refine ⟨[S a, S b], _, fun X vs h => ?_, compare_con a b, fun X hb => ?_⟩
  · simp only [encL, enc1, Reps, Rep] at h
    obtain ⟨u, us, rfl, ⟨rfl, _⟩, u2, us2, rfl, ⟨rfl, _⟩, rfl⟩ := h
    rfl
  · simp only [pack, encL, enc1]
    have h := scmp_range a b
    refine rep_int (u8_of ?_)
    simp only [IntKind.min, IntKind.max, IntKind.signed, IntKind.bits]
    simp only [if_true]
    omega
end Go.Proofs.YtjfgakillgcdcaaDoor

/- The values' own functions: may it be, does it fit, how do two stand, sums, differences, products. -/
namespace Go.Proofs.YtjfgakillgcdcaaDoor
open Go.Ax
/-! ## exchequer/value.visible -/
def visible_0_sg : Sig := ⟨20, [(0, .str), (2, .bool), (5, .int .i64), (6, .int .i64)], [], [], 0, 0, 0, [], []⟩
abbrev visible_0_V := Str × Bool × Int × Int
def visible_0 {R : Type} (rec : visible_0_V → Option R) (kx : Ex → visible_0_V → Option R) (v : visible_0_V) : Option R := match v with
 | (v, v1, v2, v3) =>
  cond (decide (v3 < v2)) (
   chk (inb v3 v.length) (
    cond (decide ((bat v v3) < 32)) (
     kx .ret (v, false, v2, v3)) (
     chk (inb v3 v.length) (
      cond (decide (126 < (bat v v3))) (
       kx .ret (v, false, v2, v3)) (
       rec (v, v1, v2, (wr .i64 (v3 + 1)))))))) (
   kx (.exit 0) (v, v1, v2, v3))
def visible_px (R : Type) (k : Nat) : Px R := ⟨ttOf ttL, glT, callT [], callQT [], loopT [(2, loopOr k visible_0_sg (visible_0))]⟩
theorem visible_0_eq (R : Type) (k : Nat) : ∀ (fr : List Fr) (rec : visible_0_V → Option R) (kx : Ex → visible_0_V → Option R) (v : visible_0_V), round (visible_px R k) visible_0_sg (lp Tryd.f60 0) fr rec kx v = visible_0 rec kx v
  | fr, rec, kx, (v, v1, v2, v3) => by kernel_rfl
def visible_body (k : Nat) (x : HV [.str]) : Option (HV [.bool]) := match x with
 | s =>
  iter (fun rec => visible_0 rec (fun e v => match v with | (_, v5, _, _) => match e with
   | .ret =>
    some v5
   | .exit 0 =>
    some true
   | _ => none)) k (s, false, (s.length : Int), 0)
theorem visible_eq (k : Nat) : ∀ (x : HV [.str]), runF (visible_px _ k) Tryd.f60 [.str] [.bool] x some = visible_body k x
  | s => by kernel_rfl
theorem visible_run (k : Nat) : FnOk Tryd.prog elT glT 60 [.str] [.bool] (visible_body k) := by
  refine fnOk_run Tryd.func60 rfl (by kernel_rfl) follows (by kernel_rfl) (n := 1) (by kernel_rfl) (px := visible_px _ k) (fun cx hP hel hgl => ?_) (visible_eq k)
  have hp0 : PxOk cx (visible_px (HV [.bool]) k) := ⟨fun t => by rw [hP, hel]; exact tt_ok ttL_ok t, by rw [hgl]; rfl⟩
  have hc0 : CallOk cx (visible_px (HV [.bool]) k) := callT_ok rfl cfs_nil
  have hq0 : CallQOk cx (visible_px (HV [.bool]) k) := callQT_ok rfl cqfs_nil
  have hlvisible_0 : LoopOk cx (visible_px (HV [.bool]) k) (lp Tryd.f60 0) := loop_ok hp0 hc0 hq0 (by rw [hP]; exact follows) (k := k) (s := visible_0_sg) (step := visible_0) (fun _ _ => by kernel_rfl) (by kernel_rfl) (visible_0_eq _ k) (loops_in (n := 0) (by kernel_rfl) all0)
  exact ⟨hp0, hc0, hq0, (allS all0 hlvisible_0)⟩
def vis (b : UInt8) : Bool := decide (32 ≤ b.toNat) && decide (b.toNat ≤ 126)
def visible (s : Str) : Bool := s.all vis
def visible_F : FT [.str] [.bool] := fun x => some (visible x)
theorem visible_loop {R : Type} {kx : Ex → visible_0_V → Option R} {s : Str} {a b : Option R} (hs : ln s.length) (h1 : ∀ r j, kx .ret (s, false, r, j) = a) (h2 : ∀ q r j, kx (.exit 0) (s, q, r, j) = b) : ∀ (k i : Nat) q, i ≤ s.length → s.length - i < k → iter (fun rec => visible_0 rec kx) k (s, q, (s.length : Int), (i : Int)) = cond ((s.drop i).all vis) b a
  | 0, i, q, _, h => by omega
  | k + 1, i, q, hi, h => by
    rw [iter_s]
    by_cases hl : i < s.length
    · have ih := visible_loop hs h1 h2 k (i + 1) q (by omega) (by omega)
      simp only [visible_0, wr_succ hl hs, ih, h1, drop_cons hl, bat_nat hl, inb_t hl, List.all_cons, chk, cond_t, Bool.cond_decide]
      rw [if_pos (by omega)]
      simp only [vis]
      split
      · rw [decide_eq_false (by omega)]; rfl
      · split
        · rw [decide_eq_true (by omega), decide_eq_false (by omega)]; rfl
        · rw [decide_eq_true (by omega), decide_eq_true (by omega)]; rfl
    · simp only [visible_0, h2, Bool.cond_decide]
      rw [if_neg (by omega), List.drop_eq_nil_of_le (by omega)]
      rfl
theorem visible_ok : FnOk Tryd.prog elT glT 60 [.str] [.bool] visible_F := .fin 0 visible_run fun x r hb hx => ⟨x.length + 1, by
  simp only [visible_F, Option.some.injEq] at hx
  have := visible_loop (a := some false) (b := some true) hb (kx := fun e v => match v with | (_, v5, _, _) => match e with | .ret => some v5 | .exit 0 => some true | _ => none) (fun _ _ => rfl) (fun _ _ _ => rfl) (x.length + 1) 0 false (Nat.zero_le _) (by omega)
  refine Eq.trans this ?_
  rw [← hx, List.drop_zero, visible]
  cases x.all vis <;> rfl⟩
/-! ## exchequer/value.right -/
def vright_px (R : Type) : Px R := ⟨ttOf ttL, glT, callT [(60, callOr [.str] [.bool] visible_F)], callQT [], loopT []⟩
def vright_body (x : HV [.sv .val]) : Option (HV [.bool]) := match x with
 | v =>
  cond (decide (v.kind = 1)) (
   cond (decide (v.n = 0)) (
    some (decide (v.s = []))) (
    some false)) (
   cond (decide (v.kind = 2)) (
    cond (decide (v.n = 0)) (
     some (decide (v.s = []))) (
     cond (decide (v.n = 1)) (
      some (decide (v.s = []))) (
      some false))) (
    cond (decide (v.kind = 3)) (
     some (decide (v.s = []))) (
     cond (decide (v.kind = 4)) (
      cond (decide (v.n = 0)) (
       cond (decide ((v.s.length : Int) ≤ 1000)) (
        some (visible v.s)) (
        some false)) (
       some false)) (
      cond (decide (v.kind = 5)) (
       cond (decide (v.n = 0)) (
        some (decide ((v.s.length : Int) ≤ 1000))) (
        some false)) (
       some false)))))
theorem vright_eq : ∀ (x : HV [.sv .val]), runF (vright_px _) Tryd.f43 [.sv .val] [.bool] x some = vright_body x
  | v => by kernel_rfl
theorem vright_run : FnOk Tryd.prog elT glT 43 [.sv .val] [.bool] (vright_body) := by
  refine fnOk_run Tryd.func43 rfl (by kernel_rfl) follows (by kernel_rfl) (n := 0) (by kernel_rfl) (px := vright_px _) (fun cx hP hel hgl => ?_) (vright_eq)
  have hp0 : PxOk cx (vright_px (HV [.bool])) := ⟨fun t => by rw [hP, hel]; exact tt_ok ttL_ok t, by rw [hgl]; rfl⟩
  have hc0 : CallOk cx (vright_px (HV [.bool])) := callT_ok rfl (cfs_cons (cf_or (by rw [hP, hel, hgl]; exact visible_ok) (by kernel_rfl)) cfs_nil)
  have hq0 : CallQOk cx (vright_px (HV [.bool])) := callQT_ok rfl cqfs_nil
  exact ⟨hp0, hc0, hq0, all0⟩
def vright (v : Val) : Bool :=
  cond (decide (v.kind = 1)) (
   cond (decide (v.n = 0)) (
    (decide (v.s = []))) (
    false)) (
   cond (decide (v.kind = 2)) (
    cond (decide (v.n = 0)) (
     (decide (v.s = []))) (
     cond (decide (v.n = 1)) (
      (decide (v.s = []))) (
      false))) (
    cond (decide (v.kind = 3)) (
     (decide (v.s = []))) (
     cond (decide (v.kind = 4)) (
      cond (decide (v.n = 0)) (
       cond (decide ((v.s.length : Int) ≤ 1000)) (
        (visible v.s)) (
        false)) (
       false)) (
      cond (decide (v.kind = 5)) (
       cond (decide (v.n = 0)) (
        (decide ((v.s.length : Int) ≤ 1000))) (
        false)) (
       false)))))
theorem vright_tot (x : HV [.sv .val]) : vright_body x = some (vright x) := by
  first
    | exact rfl
    | simp only [vright_body, vright, cond_some]
def vright_F : FT [.sv .val] [.bool] := fun x => some (vright x)
theorem vright_ok : FnOk Tryd.prog elT glT 43 [.sv .val] [.bool] vright_F := .fin0 vright_run fun x _ _ hx => (vright_tot x).trans hx
/-! ## exchequer/value.Check -/
def vcheck_px (R : Type) : Px R := ⟨ttOf ttL, glT, callT [(43, callOr [.sv .val] [.bool] vright_F)], callQT [], loopT []⟩
def vcheck_body (x : HV [.sv .val]) : Option (HV [.int .i64]) := match x with
 | v =>
  cond (!(vright v)) (
   some 2) (
   some 0)
theorem vcheck_eq : ∀ (x : HV [.sv .val]), runF (vcheck_px _) Tryd.f20 [.sv .val] [.int .i64] x some = vcheck_body x
  | v => by kernel_rfl
theorem vcheck_run : FnOk Tryd.prog elT glT 20 [.sv .val] [.int .i64] (vcheck_body) := by
  refine fnOk_run Tryd.func20 rfl (by kernel_rfl) follows (by kernel_rfl) (n := 0) (by kernel_rfl) (px := vcheck_px _) (fun cx hP hel hgl => ?_) (vcheck_eq)
  have hp0 : PxOk cx (vcheck_px (HV [.int .i64])) := ⟨fun t => by rw [hP, hel]; exact tt_ok ttL_ok t, by rw [hgl]; rfl⟩
  have hc0 : CallOk cx (vcheck_px (HV [.int .i64])) := callT_ok rfl (cfs_cons (cf_or (by rw [hP, hel, hgl]; exact vright_ok) (by kernel_rfl)) cfs_nil)
  have hq0 : CallQOk cx (vcheck_px (HV [.int .i64])) := callQT_ok rfl cqfs_nil
  exact ⟨hp0, hc0, hq0, all0⟩
def vcheck (v : Val) : Int :=
  cond (!(vright v)) (
   2) (
   0)
theorem vcheck_tot (x : HV [.sv .val]) : vcheck_body x = some (vcheck x) := by
  first
    | exact rfl
    | simp only [vcheck_body, vcheck, cond_some]
def vcheck_F : FT [.sv .val] [.int .i64] := fun x => some (vcheck x)
theorem vcheck_ok : FnOk Tryd.prog elT glT 20 [.sv .val] [.int .i64] vcheck_F := .fin0 vcheck_run fun x _ _ hx => (vcheck_tot x).trans hx
/-! ## exchequer/value.Fits -/
def vfits_px (R : Type) : Px R := ⟨ttOf ttL, glT, callT [(43, callOr [.sv .val] [.bool] vright_F)], callQT [], loopT []⟩
def vfits_body (x : HV [.sv .val, .int .i64]) : Option (HV [.bool]) := match x with
 | (v, kind) =>
  cond ((vright v)) (
   cond (decide (v.kind = 1)) (
    some true) (
    some (decide (v.kind = kind)))) (
   some false)
theorem vfits_eq : ∀ (x : HV [.sv .val, .int .i64]), runF (vfits_px _) Tryd.f22 [.sv .val, .int .i64] [.bool] x some = vfits_body x
  | (v, kind) => by kernel_rfl
theorem vfits_run : FnOk Tryd.prog elT glT 22 [.sv .val, .int .i64] [.bool] (vfits_body) := by
  refine fnOk_run Tryd.func22 rfl (by kernel_rfl) follows (by kernel_rfl) (n := 0) (by kernel_rfl) (px := vfits_px _) (fun cx hP hel hgl => ?_) (vfits_eq)
  have hp0 : PxOk cx (vfits_px (HV [.bool])) := ⟨fun t => by rw [hP, hel]; exact tt_ok ttL_ok t, by rw [hgl]; rfl⟩
  have hc0 : CallOk cx (vfits_px (HV [.bool])) := callT_ok rfl (cfs_cons (cf_or (by rw [hP, hel, hgl]; exact vright_ok) (by kernel_rfl)) cfs_nil)
  have hq0 : CallQOk cx (vfits_px (HV [.bool])) := callQT_ok rfl cqfs_nil
  exact ⟨hp0, hc0, hq0, all0⟩
def vfits (v : Val) (kind : Int) : Bool :=
  cond ((vright v)) (
   cond (decide (v.kind = 1)) (
    true) (
    (decide (v.kind = kind)))) (
   false)
theorem vfits_tot (x : HV [.sv .val, .int .i64]) : vfits_body x = some (vfits x.1 x.2) := by
  first
    | exact rfl
    | simp only [vfits_body, vfits, cond_some]
def vfits_F : FT [.sv .val, .int .i64] [.bool] := fun x => some (vfits x.1 x.2)
theorem vfits_ok : FnOk Tryd.prog elT glT 22 [.sv .val, .int .i64] [.bool] vfits_F := .fin0 vfits_run fun x _ _ hx => (vfits_tot x).trans hx
/-! ## exchequer/value.sign -/
def vsign_px (R : Type) : Px R := ⟨ttOf ttL, glT, callT [], callQT [], loopT []⟩
def vsign_body (x : HV [.int .i64, .int .i64]) : Option (HV [.int .i64]) := match x with
 | (a, b) =>
  cond (decide (a < b)) (
   some (-1)) (
   cond (decide (b < a)) (
    some 1) (
    some 0))
theorem vsign_eq : ∀ (x : HV [.int .i64, .int .i64]), runF (vsign_px _) Tryd.f54 [.int .i64, .int .i64] [.int .i64] x some = vsign_body x
  | (a, b) => by kernel_rfl
theorem vsign_run : FnOk Tryd.prog elT glT 54 [.int .i64, .int .i64] [.int .i64] (vsign_body) := by
  refine fnOk_run Tryd.func54 rfl (by kernel_rfl) follows (by kernel_rfl) (n := 0) (by kernel_rfl) (px := vsign_px _) (fun cx hP hel hgl => ?_) (vsign_eq)
  have hp0 : PxOk cx (vsign_px (HV [.int .i64])) := ⟨fun t => by rw [hP, hel]; exact tt_ok ttL_ok t, by rw [hgl]; rfl⟩
  have hc0 : CallOk cx (vsign_px (HV [.int .i64])) := callT_ok rfl cfs_nil
  have hq0 : CallQOk cx (vsign_px (HV [.int .i64])) := callQT_ok rfl cqfs_nil
  exact ⟨hp0, hc0, hq0, all0⟩
def vsign (a : Int) (b : Int) : Int :=
  cond (decide (a < b)) (
   (-1)) (
   cond (decide (b < a)) (
    1) (
    0))
theorem vsign_tot (x : HV [.int .i64, .int .i64]) : vsign_body x = some (vsign x.1 x.2) := by
  first
    | exact rfl
    | simp only [vsign_body, vsign, cond_some]
def vsign_F : FT [.int .i64, .int .i64] [.int .i64] := fun x => some (vsign x.1 x.2)
theorem vsign_ok : FnOk Tryd.prog elT glT 54 [.int .i64, .int .i64] [.int .i64] vsign_F := .fin0 vsign_run fun x _ _ hx => (vsign_tot x).trans hx
/-! ## exchequer/value.Add -/
def vadd_px (R : Type) : Px R := ⟨ttOf ttL, glT, callT [], callQT [], loopT []⟩
def vadd_body (x : HV [.int .i64, .int .i64]) : Option (HV [.int .i64, .int .i64]) := match x with
 | (a, b) =>
  cond (!decide ((decide (a < (wr .i64 (a + b)))) = (decide (0 < b)))) (
   some (0, 20)) (
   some ((wr .i64 (a + b)), 0))
theorem vadd_eq : ∀ (x : HV [.int .i64, .int .i64]), runF (vadd_px _) Tryd.f26 [.int .i64, .int .i64] [.int .i64, .int .i64] x some = vadd_body x
  | (a, b) => by kernel_rfl
theorem vadd_run : FnOk Tryd.prog elT glT 26 [.int .i64, .int .i64] [.int .i64, .int .i64] (vadd_body) := by
  refine fnOk_run Tryd.func26 rfl (by kernel_rfl) follows (by kernel_rfl) (n := 0) (by kernel_rfl) (px := vadd_px _) (fun cx hP hel hgl => ?_) (vadd_eq)
  have hp0 : PxOk cx (vadd_px (HV [.int .i64, .int .i64])) := ⟨fun t => by rw [hP, hel]; exact tt_ok ttL_ok t, by rw [hgl]; rfl⟩
  have hc0 : CallOk cx (vadd_px (HV [.int .i64, .int .i64])) := callT_ok rfl cfs_nil
  have hq0 : CallQOk cx (vadd_px (HV [.int .i64, .int .i64])) := callQT_ok rfl cqfs_nil
  exact ⟨hp0, hc0, hq0, all0⟩
def vadd (a : Int) (b : Int) : Int × Int :=
  cond (!decide ((decide (a < (wr .i64 (a + b)))) = (decide (0 < b)))) (
   (0, 20)) (
   ((wr .i64 (a + b)), 0))
theorem vadd_tot (x : HV [.int .i64, .int .i64]) : vadd_body x = some (vadd x.1 x.2) := by
  first
    | exact rfl
    | simp only [vadd_body, vadd, cond_some]
def vadd_F : FT [.int .i64, .int .i64] [.int .i64, .int .i64] := fun x => some (vadd x.1 x.2)
theorem vadd_ok : FnOk Tryd.prog elT glT 26 [.int .i64, .int .i64] [.int .i64, .int .i64] vadd_F := .fin0 vadd_run fun x _ _ hx => (vadd_tot x).trans hx
/-! ## exchequer/value.Sub -/
def vsub_px (R : Type) : Px R := ⟨ttOf ttL, glT, callT [], callQT [], loopT []⟩
def vsub_body (x : HV [.int .i64, .int .i64]) : Option (HV [.int .i64, .int .i64]) := match x with
 | (a, b) =>
  cond (!decide ((decide ((wr .i64 (a - b)) < a)) = (decide (0 < b)))) (
   some (0, 20)) (
   some ((wr .i64 (a - b)), 0))
theorem vsub_eq : ∀ (x : HV [.int .i64, .int .i64]), runF (vsub_px _) Tryd.f28 [.int .i64, .int .i64] [.int .i64, .int .i64] x some = vsub_body x
  | (a, b) => by kernel_rfl
theorem vsub_run : FnOk Tryd.prog elT glT 28 [.int .i64, .int .i64] [.int .i64, .int .i64] (vsub_body) := by
  refine fnOk_run Tryd.func28 rfl (by kernel_rfl) follows (by kernel_rfl) (n := 0) (by kernel_rfl) (px := vsub_px _) (fun cx hP hel hgl => ?_) (vsub_eq)
  have hp0 : PxOk cx (vsub_px (HV [.int .i64, .int .i64])) := ⟨fun t => by rw [hP, hel]; exact tt_ok ttL_ok t, by rw [hgl]; rfl⟩
  have hc0 : CallOk cx (vsub_px (HV [.int .i64, .int .i64])) := callT_ok rfl cfs_nil
  have hq0 : CallQOk cx (vsub_px (HV [.int .i64, .int .i64])) := callQT_ok rfl cqfs_nil
  exact ⟨hp0, hc0, hq0, all0⟩
def vsub (a : Int) (b : Int) : Int × Int :=
  cond (!decide ((decide ((wr .i64 (a - b)) < a)) = (decide (0 < b)))) (
   (0, 20)) (
   ((wr .i64 (a - b)), 0))
theorem vsub_tot (x : HV [.int .i64, .int .i64]) : vsub_body x = some (vsub x.1 x.2) := by
  first
    | exact rfl
    | simp only [vsub_body, vsub, cond_some]
def vsub_F : FT [.int .i64, .int .i64] [.int .i64, .int .i64] := fun x => some (vsub x.1 x.2)
theorem vsub_ok : FnOk Tryd.prog elT glT 28 [.int .i64, .int .i64] [.int .i64, .int .i64] vsub_F := .fin0 vsub_run fun x _ _ hx => (vsub_tot x).trans hx
/-! ## exchequer/value.size -/
def vsize_px (R : Type) : Px R := ⟨ttOf ttL, glT, callT [], callQT [], loopT []⟩
def vsize_body (x : HV [.int .i64]) : Option (HV [.int .u64]) := match x with
 | n =>
  cond (decide (n < 0)) (
   some (wr .u64 (0 - (wr .u64 n)))) (
   some (wr .u64 n))
theorem vsize_eq : ∀ (x : HV [.int .i64]), runF (vsize_px _) Tryd.f52 [.int .i64] [.int .u64] x some = vsize_body x
  | n => by kernel_rfl
theorem vsize_run : FnOk Tryd.prog elT glT 52 [.int .i64] [.int .u64] (vsize_body) := by
  refine fnOk_run Tryd.func52 rfl (by kernel_rfl) follows (by kernel_rfl) (n := 0) (by kernel_rfl) (px := vsize_px _) (fun cx hP hel hgl => ?_) (vsize_eq)
  have hp0 : PxOk cx (vsize_px (HV [.int .u64])) := ⟨fun t => by rw [hP, hel]; exact tt_ok ttL_ok t, by rw [hgl]; rfl⟩
  have hc0 : CallOk cx (vsize_px (HV [.int .u64])) := callT_ok rfl cfs_nil
  have hq0 : CallQOk cx (vsize_px (HV [.int .u64])) := callQT_ok rfl cqfs_nil
  exact ⟨hp0, hc0, hq0, all0⟩
def vsize (n : Int) : Int :=
  cond (decide (n < 0)) (
   (wr .u64 (0 - (wr .u64 n)))) (
   (wr .u64 n))
theorem vsize_tot (x : HV [.int .i64]) : vsize_body x = some (vsize x) := by
  first
    | exact rfl
    | simp only [vsize_body, vsize, cond_some]
def vsize_F : FT [.int .i64] [.int .u64] := fun x => some (vsize x)
theorem vsize_ok : FnOk Tryd.prog elT glT 52 [.int .i64] [.int .u64] vsize_F := .fin0 vsize_run fun x _ _ hx => (vsize_tot x).trans hx
/-! ## strings.Compare -/
def scompare_px (R : Type) : Px R := ⟨ttOf ttL, glT, callT [(65, callOr [.str, .str] [.int .i64] scmp_F)], callQT [], loopT []⟩
def scompare_body (x : HV [.str, .str]) : Option (HV [.int .i64]) := match x with
 | (a, b) =>
  some (scmp a b)
theorem scompare_eq : ∀ (x : HV [.str, .str]), runF (scompare_px _) Tryd.f55 [.str, .str] [.int .i64] x some = scompare_body x
  | (a, b) => by kernel_rfl
theorem scompare_run : FnOk Tryd.prog elT glT 55 [.str, .str] [.int .i64] (scompare_body) := by
  refine fnOk_run Tryd.func55 rfl (by kernel_rfl) follows (by kernel_rfl) (n := 0) (by kernel_rfl) (px := scompare_px _) (fun cx hP hel hgl => ?_) (scompare_eq)
  have hp0 : PxOk cx (scompare_px (HV [.int .i64])) := ⟨fun t => by rw [hP, hel]; exact tt_ok ttL_ok t, by rw [hgl]; rfl⟩
  have hc0 : CallOk cx (scompare_px (HV [.int .i64])) := callT_ok rfl (cfs_cons (cf_or (by rw [hP, hel, hgl]; exact scmp_ok) (by kernel_rfl)) cfs_nil)
  have hq0 : CallQOk cx (scompare_px (HV [.int .i64])) := callQT_ok rfl cqfs_nil
  exact ⟨hp0, hc0, hq0, all0⟩
def scompare (a : Str) (b : Str) : Int :=
  (scmp a b)
theorem scompare_tot (x : HV [.str, .str]) : scompare_body x = some (scompare x.1 x.2) := by
  first
    | exact rfl
    | simp only [scompare_body, scompare, cond_some]
def scompare_F : FT [.str, .str] [.int .i64] := fun x => some (scompare x.1 x.2)
theorem scompare_ok : FnOk Tryd.prog elT glT 55 [.str, .str] [.int .i64] scompare_F := .fin0 scompare_run fun x _ _ hx => (scompare_tot x).trans hx
/-! ## exchequer/value.Cmp -/
def vcmp_px (R : Type) : Px R := ⟨ttOf ttL, glT, callT [(54, callOr [.int .i64, .int .i64] [.int .i64] vsign_F), (55, callOr [.str, .str] [.int .i64] scompare_F)], callQT [], loopT []⟩
def vcmp_body (x : HV [.sv .val, .sv .val]) : Option (HV [.int .i64]) := match x with
 | (a, b) =>
  cond (!decide ((vsign a.kind b.kind) = 0)) (
   some (vsign a.kind b.kind)) (
   cond (!decide ((vsign a.n b.n) = 0)) (
    some (vsign a.n b.n)) (
    some (scompare a.s b.s)))
theorem vcmp_eq : ∀ (x : HV [.sv .val, .sv .val]), runF (vcmp_px _) Tryd.f32 [.sv .val, .sv .val] [.int .i64] x some = vcmp_body x
  | (a, b) => by kernel_rfl
theorem vcmp_run : FnOk Tryd.prog elT glT 32 [.sv .val, .sv .val] [.int .i64] (vcmp_body) := by
  refine fnOk_run Tryd.func32 rfl (by kernel_rfl) follows (by kernel_rfl) (n := 0) (by kernel_rfl) (px := vcmp_px _) (fun cx hP hel hgl => ?_) (vcmp_eq)
  have hp0 : PxOk cx (vcmp_px (HV [.int .i64])) := ⟨fun t => by rw [hP, hel]; exact tt_ok ttL_ok t, by rw [hgl]; rfl⟩
  have hc0 : CallOk cx (vcmp_px (HV [.int .i64])) := callT_ok rfl (cfs_cons (cf_or (by rw [hP, hel, hgl]; exact vsign_ok) (by kernel_rfl)) (cfs_cons (cf_or (by rw [hP, hel, hgl]; exact scompare_ok) (by kernel_rfl)) cfs_nil))
  have hq0 : CallQOk cx (vcmp_px (HV [.int .i64])) := callQT_ok rfl cqfs_nil
  exact ⟨hp0, hc0, hq0, all0⟩
def vcmp (a : Val) (b : Val) : Int :=
  cond (!decide ((vsign a.kind b.kind) = 0)) (
   (vsign a.kind b.kind)) (
   cond (!decide ((vsign a.n b.n) = 0)) (
    (vsign a.n b.n)) (
    (scompare a.s b.s)))
theorem vcmp_tot (x : HV [.sv .val, .sv .val]) : vcmp_body x = some (vcmp x.1 x.2) := by
  first
    | exact rfl
    | simp only [vcmp_body, vcmp, cond_some]
def vcmp_F : FT [.sv .val, .sv .val] [.int .i64] := fun x => some (vcmp x.1 x.2)
theorem vcmp_ok : FnOk Tryd.prog elT glT 32 [.sv .val, .sv .val] [.int .i64] vcmp_F := .fin0 vcmp_run fun x _ _ hx => (vcmp_tot x).trans hx
/-! ## math/bits.Mul64 -/
def mul64_px (R : Type) : Px R := ⟨ttOf ttL, glT, callT [], callQT [], loopT []⟩
def mul64_body (x : HV [.int .u64, .int .u64]) : Option (HV [.int .u64, .int .u64]) := match x with
 | (a, b) =>
  some ((wr .u64 ((wr .u64 ((wr .u64 ((ishr .u64 a 32) * (ishr .u64 b 32))) + (ishr .u64 (wr .u64 ((wr .u64 ((ishr .u64 a 32) * (iand .u64 b 4294967295))) + (ishr .u64 (wr .u64 ((iand .u64 a 4294967295) * (iand .u64 b 4294967295))) 32))) 32))) + (ishr .u64 (wr .u64 ((iand .u64 (wr .u64 ((wr .u64 ((ishr .u64 a 32) * (iand .u64 b 4294967295))) + (ishr .u64 (wr .u64 ((iand .u64 a 4294967295) * (iand .u64 b 4294967295))) 32))) 4294967295) + (wr .u64 ((iand .u64 a 4294967295) * (ishr .u64 b 32))))) 32))), (wr .u64 (a * b)))
theorem mul64_eq : ∀ (x : HV [.int .u64, .int .u64]), runF (mul64_px _) Tryd.f51 [.int .u64, .int .u64] [.int .u64, .int .u64] x some = mul64_body x
  | (a, b) => by kernel_rfl
theorem mul64_run : FnOk Tryd.prog elT glT 51 [.int .u64, .int .u64] [.int .u64, .int .u64] (mul64_body) := by
  refine fnOk_run Tryd.func51 rfl (by kernel_rfl) follows (by kernel_rfl) (n := 0) (by kernel_rfl) (px := mul64_px _) (fun cx hP hel hgl => ?_) (mul64_eq)
  have hp0 : PxOk cx (mul64_px (HV [.int .u64, .int .u64])) := ⟨fun t => by rw [hP, hel]; exact tt_ok ttL_ok t, by rw [hgl]; rfl⟩
  have hc0 : CallOk cx (mul64_px (HV [.int .u64, .int .u64])) := callT_ok rfl cfs_nil
  have hq0 : CallQOk cx (mul64_px (HV [.int .u64, .int .u64])) := callQT_ok rfl cqfs_nil
  exact ⟨hp0, hc0, hq0, all0⟩
def mul64 (a : Int) (b : Int) : Int × Int :=
  ((wr .u64 ((wr .u64 ((wr .u64 ((ishr .u64 a 32) * (ishr .u64 b 32))) + (ishr .u64 (wr .u64 ((wr .u64 ((ishr .u64 a 32) * (iand .u64 b 4294967295))) + (ishr .u64 (wr .u64 ((iand .u64 a 4294967295) * (iand .u64 b 4294967295))) 32))) 32))) + (ishr .u64 (wr .u64 ((iand .u64 (wr .u64 ((wr .u64 ((ishr .u64 a 32) * (iand .u64 b 4294967295))) + (ishr .u64 (wr .u64 ((iand .u64 a 4294967295) * (iand .u64 b 4294967295))) 32))) 4294967295) + (wr .u64 ((iand .u64 a 4294967295) * (ishr .u64 b 32))))) 32))), (wr .u64 (a * b)))
theorem mul64_tot (x : HV [.int .u64, .int .u64]) : mul64_body x = some (mul64 x.1 x.2) := by
  first
    | exact rfl
    | simp only [mul64_body, mul64, cond_some]
def mul64_F : FT [.int .u64, .int .u64] [.int .u64, .int .u64] := fun x => some (mul64 x.1 x.2)
theorem mul64_ok : FnOk Tryd.prog elT glT 51 [.int .u64, .int .u64] [.int .u64, .int .u64] mul64_F := .fin0 mul64_run fun x _ _ hx => (mul64_tot x).trans hx
/-! ## exchequer/value.Mul -/
def vmul_px (R : Type) : Px R := ⟨ttOf ttL, glT, callT [(52, callOr [.int .i64] [.int .u64] vsize_F), (51, callOr [.int .u64, .int .u64] [.int .u64, .int .u64] mul64_F)], callQT [], loopT []⟩
def vmul_body (x : HV [.int .i64, .int .i64]) : Option (HV [.int .i64, .int .i64]) := match x with
 | (a, b) =>
  let j1 := fun (p3 : Bool) =>
   cond (p3) (
    some (0, 20)) (
    cond (!decide ((decide (a < 0)) = (decide (b < 0)))) (
     some ((wr .i64 (wr .u64 (0 - (mul64 (vsize a) (vsize b)).2))), 0)) (
     some ((wr .i64 ((mul64 (vsize a) (vsize b)).2)), 0)))
  let j := fun (p : Bool) =>
   cond (p) (
    j1 true) (
    cond (decide ((mul64 (vsize a) (vsize b)).2 = 9223372036854775808)) (
     j1 (!(!decide ((decide (a < 0)) = (decide (b < 0)))))) (
     j1 false))
  cond (decide (0 < (mul64 (vsize a) (vsize b)).1)) (
   j true) (
   j (decide (9223372036854775808 < (mul64 (vsize a) (vsize b)).2)))
theorem vmul_eq : ∀ (x : HV [.int .i64, .int .i64]), runF (vmul_px _) Tryd.f30 [.int .i64, .int .i64] [.int .i64, .int .i64] x some = vmul_body x
  | (a, b) => by kernel_rfl
theorem vmul_run : FnOk Tryd.prog elT glT 30 [.int .i64, .int .i64] [.int .i64, .int .i64] (vmul_body) := by
  refine fnOk_run Tryd.func30 rfl (by kernel_rfl) follows (by kernel_rfl) (n := 0) (by kernel_rfl) (px := vmul_px _) (fun cx hP hel hgl => ?_) (vmul_eq)
  have hp0 : PxOk cx (vmul_px (HV [.int .i64, .int .i64])) := ⟨fun t => by rw [hP, hel]; exact tt_ok ttL_ok t, by rw [hgl]; rfl⟩
  have hc0 : CallOk cx (vmul_px (HV [.int .i64, .int .i64])) := callT_ok rfl (cfs_cons (cf_or (by rw [hP, hel, hgl]; exact vsize_ok) (by kernel_rfl)) (cfs_cons (cf_or (by rw [hP, hel, hgl]; exact mul64_ok) (by kernel_rfl)) cfs_nil))
  have hq0 : CallQOk cx (vmul_px (HV [.int .i64, .int .i64])) := callQT_ok rfl cqfs_nil
  exact ⟨hp0, hc0, hq0, all0⟩
def vmul (a : Int) (b : Int) : Int × Int :=
  let j1 := fun (p3 : Bool) =>
   cond (p3) (
    (0, 20)) (
    cond (!decide ((decide (a < 0)) = (decide (b < 0)))) (
     ((wr .i64 (wr .u64 (0 - (mul64 (vsize a) (vsize b)).2))), 0)) (
     ((wr .i64 ((mul64 (vsize a) (vsize b)).2)), 0)))
  let j := fun (p : Bool) =>
   cond (p) (
    j1 true) (
    cond (decide ((mul64 (vsize a) (vsize b)).2 = 9223372036854775808)) (
     j1 (!(!decide ((decide (a < 0)) = (decide (b < 0)))))) (
     j1 false))
  cond (decide (0 < (mul64 (vsize a) (vsize b)).1)) (
   j true) (
   j (decide (9223372036854775808 < (mul64 (vsize a) (vsize b)).2)))
theorem vmul_tot (x : HV [.int .i64, .int .i64]) : vmul_body x = some (vmul x.1 x.2) := by
  first
    | exact rfl
    | simp only [vmul_body, vmul, cond_some]
def vmul_F : FT [.int .i64, .int .i64] [.int .i64, .int .i64] := fun x => some (vmul x.1 x.2)
theorem vmul_ok : FnOk Tryd.prog elT glT 30 [.int .i64, .int .i64] [.int .i64, .int .i64] vmul_F := .fin0 vmul_run fun x _ _ hx => (vmul_tot x).trans hx
end Go.Proofs.YtjfgakillgcdcaaDoor

/- What sums, differences and products of numbers come to. -/
namespace Go.Proofs.YtjfgakillgcdcaaDoor
open Go.Ax
theorem wru (n : Int) : wr .u64 n = n % 18446744073709551616 := by simp [wr, IntKind.wrap, IntKind.bits, IntKind.signed]
theorem wri (n : Int) : wr .i64 n = if 9223372036854775808 ≤ n % 18446744073709551616 then n % 18446744073709551616 - 18446744073709551616 else n % 18446744073709551616 := by
  simp [wr, IntKind.wrap, IntKind.bits, IntKind.signed]
theorem wru_id {n : Int} (h : 0 ≤ n ∧ n ≤ 18446744073709551615) : wr .u64 n = n := by rw [wru]; omega
theorem iand_lo {a : Int} (h : 0 ≤ a ∧ a ≤ 18446744073709551615) : iand .u64 a 4294967295 = a % 4294967296 := by
  obtain ⟨n, rfl⟩ := Int.eq_ofNat_of_zero_le h.1
  have hn : n < 18446744073709551616 := by omega
  have e2 : (BitVec.ofInt IntKind.u64.bits (n : Int) &&& BitVec.ofInt IntKind.u64.bits 4294967295).toNat = n % 4294967296 := by
    show (BitVec.ofInt 64 (n : Int) &&& BitVec.ofInt 64 ((4294967295 : Nat) : Int)).toNat = n % 4294967296
    rw [BitVec.toNat_and, BitVec.ofInt_natCast, BitVec.ofInt_natCast, BitVec.toNat_ofNat, BitVec.toNat_ofNat]
    rw [Nat.mod_eq_of_lt hn, Nat.mod_eq_of_lt (by decide)]
    exact Nat.and_two_pow_sub_one_eq_mod n 32
  show wr .u64 _ = _
  simp only [e2]
  rw [wru_id (by omega)]
  omega
theorem ishr_hi {a : Int} : ishr .u64 a 32 = a / 4294967296 := by
  show a.fdiv (2 ^ min (32 : Int).toNat IntKind.u64.bits) = _
  rw [show (2 : Int) ^ min (32 : Int).toNat IntKind.u64.bits = 4294967296 from by decide]
  exact Int.fdiv_eq_ediv_of_nonneg _ (by omega)
theorem mul_bd (a b c d : Int) (h : 0 ≤ a ∧ a ≤ c) (h' : 0 ≤ b ∧ b ≤ d) : 0 ≤ a * b ∧ a * b ≤ c * d :=
  ⟨Int.mul_nonneg h.1 h'.1, Int.mul_le_mul h.2 h'.2 h'.1 (by omega)⟩
theorem mul64_split (x y : Int) : x * y = (x / 4294967296) * (y / 4294967296) * 18446744073709551616 + ((x / 4294967296) * (y % 4294967296) + (x % 4294967296) * (y / 4294967296)) * 4294967296 + (x % 4294967296) * (y % 4294967296) := by
  have hx := Int.mul_ediv_add_emod x 4294967296
  have hy := Int.mul_ediv_add_emod y 4294967296
  generalize x / 4294967296 = p at *
  generalize x % 4294967296 = q at *
  generalize y / 4294967296 = r at *
  generalize y % 4294967296 = s at *
  rw [← hx, ← hy]
  simp only [Int.add_mul, Int.mul_add]
  have e1 : 4294967296 * p * (4294967296 * r) = p * r * 18446744073709551616 := by
    rw [Int.mul_assoc, Int.mul_left_comm p, ← Int.mul_assoc]
    omega
  have e2 : 4294967296 * p * s = p * s * 4294967296 := by rw [Int.mul_assoc]; omega
  have e3 : q * (4294967296 * r) = q * r * 4294967296 := by rw [Int.mul_left_comm]; omega
  omega
theorem mul64_z (x y : Int) (hx : 0 ≤ x ∧ x ≤ 18446744073709551615) (hy : 0 ≤ y ∧ y ≤ 18446744073709551615) : mul64 x y = (x * y / 18446744073709551616, x * y % 18446744073709551616) := by
  have b00 := mul_bd (x % 4294967296) (y % 4294967296) 4294967295 4294967295 (by omega) (by omega)
  have b10 := mul_bd (x / 4294967296) (y % 4294967296) 4294967295 4294967295 (by omega) (by omega)
  have b01 := mul_bd (x % 4294967296) (y / 4294967296) 4294967295 4294967295 (by omega) (by omega)
  have b11 := mul_bd (x / 4294967296) (y / 4294967296) 4294967295 4294967295 (by omega) (by omega)
  have sp := mul64_split x y
  simp only [mul64, ishr_hi, iand_lo hx, iand_lo hy]
  generalize (x % 4294967296) * (y % 4294967296) = p00 at *
  generalize (x / 4294967296) * (y % 4294967296) = p10 at *
  generalize (x % 4294967296) * (y / 4294967296) = p01 at *
  generalize (x / 4294967296) * (y / 4294967296) = p11 at *
  rw [wru_id (n := p00) (by omega), wru_id (n := p10) (by omega), wru_id (n := p11) (by omega), wru_id (n := p01) (by omega)]
  rw [wru_id (n := p10 + p00 / 4294967296) (by omega)]
  rw [iand_lo (by omega)]
  rw [wru_id (n := (p10 + p00 / 4294967296) % 4294967296 + p01) (by omega)]
  rw [wru_id (n := p11 + (p10 + p00 / 4294967296) / 4294967296) (by omega)]
  rw [wru_id (n := p11 + (p10 + p00 / 4294967296) / 4294967296 + ((p10 + p00 / 4294967296) % 4294967296 + p01) / 4294967296) (by omega), wru]
  rw [Prod.mk.injEq]
  constructor <;> omega
/-- what has room, or is told to have none -/
def fitZ (n : Int) : Int × Int := if -9223372036854775808 ≤ n ∧ n ≤ 9223372036854775807 then (n, 0) else (0, 20)
def absI (n : Int) : Int := if n < 0 then -n else n
theorem vsize_z {n : Int} (h : inI n) : vsize n = absI n := by
  simp only [inI] at h
  simp only [vsize, absI, Bool.cond_decide, wru]
  split <;> omega
theorem fit_ok {q r : Int} (h : inI q) (hr : r = q) : (r, (0 : Int)) = fitZ q := by
  simp only [inI] at h
  rw [hr, fitZ, if_pos h]
theorem fit_no {q : Int} (h : ¬ inI q) : ((0 : Int), (20 : Int)) = fitZ q := by
  simp only [inI] at h
  rw [fitZ, if_neg h]
theorem vadd_z {a b : Int} (ha : inI a) (hb : inI b) : vadd a b = fitZ (a + b) := by
  simp only [inI] at ha hb
  simp only [vadd, wri]
  by_cases h1 : 0 < b
  · rw [decide_eq_true h1]
    by_cases h2 : a + b ≤ 9223372036854775807
    · have e : (a + b) % 18446744073709551616 < 9223372036854775808 ∨ 9223372036854775808 ≤ (a + b) % 18446744073709551616 := by omega
      rw [← fit_ok (q := a + b) (r := if 9223372036854775808 ≤ (a + b) % 18446744073709551616 then (a + b) % 18446744073709551616 - 18446744073709551616 else (a + b) % 18446744073709551616) (by simp only [inI]; omega) (by split <;> omega)]
      rw [decide_eq_true (p := a < _) (by split <;> omega)]
      rfl
    · rw [← fit_no (q := a + b) (by simp only [inI]; omega)]
      rw [decide_eq_false (p := a < _) (by split <;> omega)]
      rfl
  · rw [decide_eq_false h1]
    by_cases h2 : -9223372036854775808 ≤ a + b
    · rw [← fit_ok (q := a + b) (r := if 9223372036854775808 ≤ (a + b) % 18446744073709551616 then (a + b) % 18446744073709551616 - 18446744073709551616 else (a + b) % 18446744073709551616) (by simp only [inI]; omega) (by split <;> omega)]
      rw [decide_eq_false (p := a < _) (by split <;> omega)]
      rfl
    · rw [← fit_no (q := a + b) (by simp only [inI]; omega)]
      rw [decide_eq_true (p := a < _) (by split <;> omega)]
      rfl
theorem vsub_z {a b : Int} (ha : inI a) (hb : inI b) : vsub a b = fitZ (a - b) := by
  simp only [inI] at ha hb
  simp only [vsub, wri]
  by_cases h1 : 0 < b
  · rw [decide_eq_true h1]
    by_cases h2 : -9223372036854775808 ≤ a - b
    · rw [← fit_ok (q := a - b) (r := if 9223372036854775808 ≤ (a - b) % 18446744073709551616 then (a - b) % 18446744073709551616 - 18446744073709551616 else (a - b) % 18446744073709551616) (by simp only [inI]; omega) (by split <;> omega)]
      rw [decide_eq_true (p := _ < a) (by split <;> omega)]
      rfl
    · rw [← fit_no (q := a - b) (by simp only [inI]; omega)]
      rw [decide_eq_false (p := _ < a) (by split <;> omega)]
      rfl
  · rw [decide_eq_false h1]
    by_cases h2 : a - b ≤ 9223372036854775807
    · rw [← fit_ok (q := a - b) (r := if 9223372036854775808 ≤ (a - b) % 18446744073709551616 then (a - b) % 18446744073709551616 - 18446744073709551616 else (a - b) % 18446744073709551616) (by simp only [inI]; omega) (by split <;> omega)]
      rw [decide_eq_false (p := _ < a) (by split <;> omega)]
      rfl
    · rw [← fit_no (q := a - b) (by simp only [inI]; omega)]
      rw [decide_eq_true (p := _ < a) (by split <;> omega)]
      rfl
theorem vmul_z {a b : Int} (ha : inI a) (hb : inI b) : vmul a b = fitZ (a * b) := by
  have ha' := ha; have hb' := hb
  simp only [inI] at ha' hb'
  have hA : 0 ≤ absI a ∧ absI a ≤ 9223372036854775808 := by unfold absI; split <;> omega
  have hB : 0 ≤ absI b ∧ absI b ≤ 9223372036854775808 := by unfold absI; split <;> omega
  have hbd := mul_bd _ _ _ _ hA hB
  have hsg : a * b = if decide (a < 0) = decide (b < 0) then absI a * absI b else -(absI a * absI b) := by
    unfold absI
    by_cases h1 : a < 0 <;> by_cases h2 : b < 0 <;> simp [h1, h2, Int.neg_mul, Int.mul_neg]
  simp only [vmul, vsize_z ha, vsize_z hb, mul64_z _ _ (show 0 ≤ absI a ∧ absI a ≤ 18446744073709551615 by omega) (show 0 ≤ absI b ∧ absI b ≤ 18446744073709551615 by omega)]
  clear ha hb ha' hb' hA hB
  generalize absI a * absI b = p at *
  generalize a * b = q at *
  by_cases hs : decide (a < 0) = decide (b < 0)
  · rw [if_pos hs] at hsg
    rw [decide_eq_true hs]
    by_cases h1 : p < 9223372036854775808
    · rw [decide_eq_false (show ¬ 0 < p / 18446744073709551616 by omega), decide_eq_false (show ¬ 9223372036854775808 < p % 18446744073709551616 by omega), decide_eq_false (show ¬ p % 18446744073709551616 = 9223372036854775808 by omega)]
      refine (show _ = (wr .i64 (p % 18446744073709551616), (0 : Int)) from rfl).trans (fit_ok (by simp only [inI]; omega) ?_)
      rw [wri]; split <;> omega
    · rw [← fit_no (q := q) (by simp only [inI]; omega)]
      by_cases h2 : 0 < p / 18446744073709551616
      · rw [decide_eq_true h2]; rfl
      · rw [decide_eq_false h2]
        by_cases h3 : 9223372036854775808 < p % 18446744073709551616
        · rw [decide_eq_true h3]; rfl
        · rw [decide_eq_false h3, decide_eq_true (show p % 18446744073709551616 = 9223372036854775808 by omega)]; rfl
  · rw [if_neg hs] at hsg
    rw [decide_eq_false hs]
    by_cases h1 : p ≤ 9223372036854775808
    · rw [decide_eq_false (show ¬ 0 < p / 18446744073709551616 by omega), decide_eq_false (show ¬ 9223372036854775808 < p % 18446744073709551616 by omega)]
      have : fitZ q = (wr .i64 (wr .u64 (0 - p % 18446744073709551616)), (0 : Int)) := by
        refine (fit_ok (by simp only [inI]; omega) ?_).symm
        rw [wri, wru]; split <;> omega
      rw [this]
      cases decide (p % 18446744073709551616 = 9223372036854775808) <;> rfl
    · rw [← fit_no (q := q) (by simp only [inI]; omega)]
      by_cases h2 : 0 < p / 18446744073709551616
      · rw [decide_eq_true h2]; rfl
      · rw [decide_eq_false h2, decide_eq_true (show 9223372036854775808 < p % 18446744073709551616 by omega)]; rfl
end Go.Proofs.YtjfgakillgcdcaaDoor

/- The document's answer: may a value be, does it fit; how two values stand; a digit of a row. -/
namespace Go.Proofs.YtjfgakillgcdcaaDoor
open Go.Ax
theorem vcheck_iff {v : Val} : vcheck v = 0 ↔ vright v = true := by
  simp only [vcheck]
  cases vright v <;> simp
/-! ## exchequer/exchequerref02.Cmp -/
def rcmp_px (R : Type) : Px R := ⟨ttOf ttL, glT, callT [], callQT [], loopT []⟩
def rcmp_body (x : HV [.sv .val, .sv .val]) : Option (HV [.int .i64]) := match x with
 | (a, b) =>
  let j := fun (p1 : Bool) =>
   cond (p1) (
    some (-1)) (
    cond (decide (a.kind = b.kind)) (
     cond (decide (a.n = b.n)) (
      cond (Op.bytesLess a.s b.s) (
       some (-1)) (
       cond (decide (a = b)) (
        some 0) (
        some 1))) (
      cond (decide (a = b)) (
       some 0) (
       some 1))) (
     cond (decide (a = b)) (
      some 0) (
      some 1)))
  cond (decide (a.kind < b.kind)) (
   j true) (
   cond (decide (a.kind = b.kind)) (
    j (decide (a.n < b.n))) (
    j false))
theorem rcmp_eq : ∀ (x : HV [.sv .val, .sv .val]), runF (rcmp_px _) Tryd.f34 [.sv .val, .sv .val] [.int .i64] x some = rcmp_body x
  | (a, b) => by kernel_rfl
theorem rcmp_run : FnOk Tryd.prog elT glT 34 [.sv .val, .sv .val] [.int .i64] (rcmp_body) := by
  refine fnOk_run Tryd.func34 rfl (by kernel_rfl) follows (by kernel_rfl) (n := 0) (by kernel_rfl) (px := rcmp_px _) (fun cx hP hel hgl => ?_) (rcmp_eq)
  have hp0 : PxOk cx (rcmp_px (HV [.int .i64])) := ⟨fun t => by rw [hP, hel]; exact tt_ok ttL_ok t, by rw [hgl]; rfl⟩
  have hc0 : CallOk cx (rcmp_px (HV [.int .i64])) := callT_ok rfl cfs_nil
  have hq0 : CallQOk cx (rcmp_px (HV [.int .i64])) := callQT_ok rfl cqfs_nil
  exact ⟨hp0, hc0, hq0, all0⟩
def rcmp (a : Val) (b : Val) : Int :=
  let j := fun (p1 : Bool) =>
   cond (p1) (
    (-1)) (
    cond (decide (a.kind = b.kind)) (
     cond (decide (a.n = b.n)) (
      cond (Op.bytesLess a.s b.s) (
       (-1)) (
       cond (decide (a = b)) (
        0) (
        1))) (
      cond (decide (a = b)) (
       0) (
       1))) (
     cond (decide (a = b)) (
      0) (
      1)))
  cond (decide (a.kind < b.kind)) (
   j true) (
   cond (decide (a.kind = b.kind)) (
    j (decide (a.n < b.n))) (
    j false))
theorem rcmp_tot (x : HV [.sv .val, .sv .val]) : rcmp_body x = some (rcmp x.1 x.2) := by
  first
    | exact rfl
    | simp only [rcmp_body, rcmp, cond_some]
def rcmp_F : FT [.sv .val, .sv .val] [.int .i64] := fun x => some (rcmp x.1 x.2)
theorem rcmp_ok : FnOk Tryd.prog elT glT 34 [.sv .val, .sv .val] [.int .i64] rcmp_F := .fin0 rcmp_run fun x _ _ hx => (rcmp_tot x).trans hx
theorem scmp_less : ∀ a b : Str, Op.bytesLess a b = decide (scmp a b = -1)
  | [], [] => rfl
  | [], _ :: _ => rfl
  | _ :: _, [] => rfl
  | a :: x, b :: y => by
    have ih := scmp_less x y
    simp only [Op.bytesLess, scmp, Lib.compareBytes] at ih ⊢
    by_cases h1 : a < b
    · simp [h1]
    · by_cases h2 : b < a
      · have h3 : ¬ a = b := fun h => by subst h; exact h1 h2
        simp [h1, h2, h3]
      · have h3 : a = b := UInt8.le_antisymm (UInt8.not_lt.1 h2) (UInt8.not_lt.1 h1)
        simp [h3, ih]
        exact decide_eq_decide.2 Iff.rfl
theorem scmp_zero : ∀ a b : Str, scmp a b = 0 ↔ a = b
  | [], [] => by simp [scmp, Lib.compareBytes]
  | [], _ :: _ => by simp [scmp, Lib.compareBytes]
  | _ :: _, [] => by simp [scmp, Lib.compareBytes]
  | a :: x, b :: y => by
    have ih := scmp_zero x y
    simp only [scmp, Lib.compareBytes] at ih ⊢
    by_cases h1 : a < b
    · have h3 : ¬ a = b := fun h => by subst h; exact UInt8.lt_irrefl _ h1
      simp [h1, h3]
    · by_cases h2 : b < a
      · have h3 : ¬ a = b := fun h => by subst h; exact h1 h2
        simp [h1, h2, h3]
      · have h3 : a = b := UInt8.le_antisymm (UInt8.not_lt.1 h2) (UInt8.not_lt.1 h1)
        simp [h3, ih]
theorem rcmp_vcmp : ∀ a b : Val, rcmp a b = vcmp a b
  | ⟨k, n, s⟩, ⟨k', n', s'⟩ => by
    simp only [rcmp, vcmp, vsign, scompare, scmp_less]
    by_cases h1 : k < k'
    · simp [h1]
    · by_cases h2 : k' < k
      · have h3 : ¬ k = k' := by omega
        simp [h1, h2, h3]
      · obtain rfl : k = k' := by omega
        by_cases h4 : n < n'
        · simp [h4]
        · by_cases h5 : n' < n
          · have h6 : ¬ n = n' := by omega
            simp [h4, h5, h6]
          · obtain rfl : n = n' := by omega
            have h7 := scmp_zero s s'
            rcases scmp_range s s' with h | h | h
            · simp [h]
            · have h8 : s = s' := h7.1 h
              subst h8
              simp [h]
            · have h8 : ¬ s = s' := fun e => by rw [h7.2 e] at h; cases h
              simp [h, h8]
/-! ## exchequer/exchequerref02.digit -/
def rdigit_px (R : Type) : Px R := ⟨ttOf ttL, glT, callT [], callQT [], loopT []⟩
def rdigit_body (x : HV [.sl .int false, .int .i64]) : Option (HV [.int .i64]) := match x with
 | (l, i) =>
  cond (decide (i < (l.length : Int))) (
   chk (inb i l.length) (
    some (at' .int l i))) (
   some 0)
theorem rdigit_eq : ∀ (x : HV [.sl .int false, .int .i64]), runF (rdigit_px _) Tryd.f63 [.sl .int false, .int .i64] [.int .i64] x some = rdigit_body x
  | (l, i) => by kernel_rfl
theorem rdigit_run : FnOk Tryd.prog elT glT 63 [.sl .int false, .int .i64] [.int .i64] (rdigit_body) := by
  refine fnOk_run Tryd.func63 rfl (by kernel_rfl) follows (by kernel_rfl) (n := 0) (by kernel_rfl) (px := rdigit_px _) (fun cx hP hel hgl => ?_) (rdigit_eq)
  have hp0 : PxOk cx (rdigit_px (HV [.int .i64])) := ⟨fun t => by rw [hP, hel]; exact tt_ok ttL_ok t, by rw [hgl]; rfl⟩
  have hc0 : CallOk cx (rdigit_px (HV [.int .i64])) := callT_ok rfl cfs_nil
  have hq0 : CallQOk cx (rdigit_px (HV [.int .i64])) := callQT_ok rfl cqfs_nil
  exact ⟨hp0, hc0, hq0, all0⟩
def rdigit (l : List Int) (i : Int) : Option Int := cond (decide (0 ≤ i)) (some (l.getD i.toNat 0)) none
def rdigit_F : FT [.sl .int false, .int .i64] [.int .i64] := fun x => rdigit x.1 x.2
theorem rdigit_ok : FnOk Tryd.prog elT glT 63 [.sl .int false, .int .i64] [.int .i64] rdigit_F := .fin0 rdigit_run fun (l, i) r _ hx => by
  simp only [rdigit_F, rdigit] at hx
  by_cases h0 : 0 ≤ i
  · rw [decide_eq_true h0] at hx
    obtain ⟨j, hj⟩ : ∃ j : Nat, i = (j : Int) := ⟨Int.toNat i, (Int.toNat_of_nonneg h0).symm⟩
    subst hj
    rw [← hx]
    simp only [rdigit_body]
    by_cases hl : j < l.length
    · rw [decide_eq_true (show (j : Int) < (l.length : Int) from Int.ofNat_lt.2 hl), inb_t hl, at_nat (c := .int) hl]
      simp [chk, List.getD_eq_getElem?_getD, hl]
    · rw [decide_eq_false (show ¬ (j : Int) < (l.length : Int) from fun h => hl (Int.ofNat_lt.1 h))]
      simp [List.getD_eq_getElem?_getD, List.getElem?_eq_none (Nat.le_of_not_lt hl)]
  · rw [decide_eq_false h0] at hx
    cases hx
/-! ## exchequer/exchequerref02.Check -/
def rcheck_0_sg : Sig := ⟨88, [(2, .int .i64), (5, .int .i64)], [(1, .ptr 0 0)], [(0, .one (.sv .val))], 1, 0, 0, [], []⟩
abbrev rcheck_0_V := Int × Int × Val
def rcheck_0 {R : Type} (rec : rcheck_0_V → Option R) (kx : Ex → rcheck_0_V → Option R) (v : rcheck_0_V) : Option R := match v with
 | (v1, v2, w) =>
  cond (decide (v2 < (w.s.length : Int))) (
   cond (decide (w.kind = 4)) (
    chk (inb v2 w.s.length) (
     cond (decide ((bat w.s v2) < 32)) (
      kx .ret (2, v2, w)) (
      chk (inb v2 w.s.length) (
       cond (decide (127 ≤ (bat w.s v2))) (
        kx .ret (2, v2, w)) (
        rec (v1, (wr .i64 (v2 + 1)), w)))))) (
    kx (.exit 0) (v1, v2, w))) (
   kx (.exit 0) (v1, v2, w))
def rcheck_px (R : Type) (k : Nat) : Px R := ⟨ttOf ttL, glT, callT [], callQT [], loopT [(6, loopOr k rcheck_0_sg (rcheck_0))]⟩
theorem rcheck_0_eq (R : Type) (k : Nat) : ∀ (fr : List Fr) (rec : rcheck_0_V → Option R) (kx : Ex → rcheck_0_V → Option R) (v : rcheck_0_V), round (rcheck_px R k) rcheck_0_sg (lp Tryd.f21 0) fr rec kx v = rcheck_0 rec kx v
  | fr, rec, kx, (v1, v2, w) => by kernel_rfl
def rcheck_body (k : Nat) (x : HV [.sv .val]) : Option (HV [.int .i64]) := match x with
 | v =>
  let j4 := fun (p4 : Bool) =>
   let j3 := fun (p6 : Bool) =>
    let j2 := fun (_ : Unit) =>
     iter (fun rec => rcheck_0 rec (fun e v => match v with | (v3, _, _) => match e with
      | .ret =>
       some v3
      | .exit 0 =>
       some 0
      | _ => none)) k (0, 0, v)
    let j1 := fun (p7 : Bool) =>
     let j := fun (p9 : Bool) =>
      cond (p9) (
       some 2) (
       cond (!p6) (
        cond (!decide (v.s = [])) (
         some 2) (
         cond (decide (1000 < (v.s.length : Int))) (
          some 2) (
          j2 ()))) (
        cond (decide (1000 < (v.s.length : Int))) (
         some 2) (
         j2 ())))
     cond (p7) (
      j true) (
      cond (!p4) (
       j (!decide (v.n = 0))) (
       j false))
    cond (decide (v.kind < 1)) (
     j1 true) (
     j1 (decide (5 < v.kind)))
   cond (decide (v.kind = 4)) (
    j3 true) (
    j3 (decide (v.kind = 5)))
  cond (decide (v.kind = 2)) (
   cond (decide (v.n = 0)) (
    j4 true) (
    cond (decide (v.n = 1)) (
     j4 true) (
     j4 (decide (v.kind = 3))))) (
   j4 (decide (v.kind = 3)))
theorem rcheck_eq (k : Nat) : ∀ (x : HV [.sv .val]), runF (rcheck_px _ k) Tryd.f21 [.sv .val] [.int .i64] x some = rcheck_body k x
  | v => by kernel_rfl
theorem rcheck_run (k : Nat) : FnOk Tryd.prog elT glT 21 [.sv .val] [.int .i64] (rcheck_body k) := by
  refine fnOk_run Tryd.func21 rfl (by kernel_rfl) follows (by kernel_rfl) (n := 1) (by kernel_rfl) (px := rcheck_px _ k) (fun cx hP hel hgl => ?_) (rcheck_eq k)
  have hp0 : PxOk cx (rcheck_px (HV [.int .i64]) k) := ⟨fun t => by rw [hP, hel]; exact tt_ok ttL_ok t, by rw [hgl]; rfl⟩
  have hc0 : CallOk cx (rcheck_px (HV [.int .i64]) k) := callT_ok rfl cfs_nil
  have hq0 : CallQOk cx (rcheck_px (HV [.int .i64]) k) := callQT_ok rfl cqfs_nil
  have hlrcheck_0 : LoopOk cx (rcheck_px (HV [.int .i64]) k) (lp Tryd.f21 0) := loop_ok hp0 hc0 hq0 (by rw [hP]; exact follows) (k := k) (s := rcheck_0_sg) (step := rcheck_0) (fun _ _ => by kernel_rfl) (by kernel_rfl) (rcheck_0_eq _ k) (loops_in (n := 0) (by kernel_rfl) all0)
  exact ⟨hp0, hc0, hq0, (allS all0 hlrcheck_0)⟩
abbrev rcheck (v : Val) : Int := vcheck v
def rcheck_F : FT [.sv .val] [.int .i64] := fun x => some (rcheck x)
theorem rcheck_loop {R : Type} {kx : Ex → rcheck_0_V → Option R} {v : Val} {a b : Option R} (hn : ln v.s.length) (h4 : v.kind = 4) (h1 : ∀ j, kx .ret (2, j, v) = a) (h2 : ∀ q j, kx (.exit 0) (q, j, v) = b) : ∀ (k i : Nat) q, i ≤ v.s.length → v.s.length - i < k → iter (fun rec => rcheck_0 rec kx) k (q, (i : Int), v) = cond ((v.s.drop i).all vis) b a
  | 0, i, q, _, h => by omega
  | k + 1, i, q, hi, h => by
    rw [iter_s]
    by_cases hl : i < v.s.length
    · have ih := rcheck_loop hn h4 h1 h2 k (i + 1) q (by omega) (by omega)
      simp only [rcheck_0, wr_succ hl hn, ih, h1, drop_cons hl, bat_nat hl, inb_t hl, List.all_cons, chk, cond_t, Bool.cond_decide]
      rw [if_pos (by omega), if_pos h4]
      simp only [vis]
      split
      · rw [decide_eq_false (by omega)]; rfl
      · split
        · rw [decide_eq_true (by omega), decide_eq_false (by omega)]; rfl
        · rw [decide_eq_true (by omega), decide_eq_true (by omega)]; rfl
    · simp only [rcheck_0, h2, Bool.cond_decide]
      rw [if_neg (by omega), List.drop_eq_nil_of_le (by omega)]
      rfl
theorem rcheck_no {R : Type} {kx : Ex → rcheck_0_V → Option R} {v : Val} {b : Option R} (h4 : ¬ v.kind = 4) (h2 : kx (.exit 0) (0, 0, v) = b) (k : Nat) : iter (fun rec => rcheck_0 rec kx) (k + 1) (0, 0, v) = b := by
  rw [iter_s]
  simp only [rcheck_0, h2, Bool.cond_decide, if_neg h4]
  split <;> rfl
theorem rcheck_ok : FnOk Tryd.prog elT glT 21 [.sv .val] [.int .i64] rcheck_F := .fin 0 rcheck_run fun v r hb hx => ⟨v.s.length + 1, by
  simp only [rcheck_F, Option.some.injEq] at hx
  subst hx
  have e0 : ((0 : Nat) : Int) = 0 := rfl
  have hloop : iter (fun rec => rcheck_0 rec (fun e v => match v with | (v2, _, _) => match e with
      | .ret => some v2
      | .exit 0 => some 0
      | _ => none)) (v.s.length + 1) (0, 0, v) = cond (decide (v.kind = 4) && !visible v.s) (some (2 : Int)) (some 0) := by
    by_cases h4 : v.kind = 4
    · have := rcheck_loop (a := some (2 : Int)) (b := some 0) hb.2.2 h4 (kx := fun e v => match v with | (v2, _, _) => match e with
        | .ret => some v2
        | .exit 0 => some 0
        | _ => none) (fun _ => rfl) (fun _ _ => rfl) (v.s.length + 1) 0 0 (Nat.zero_le _) (by omega)
      rw [e0] at this
      rw [this, decide_eq_true h4, List.drop_zero, visible]
      cases v.s.all vis <;> rfl
    · rw [rcheck_no (b := some 0) h4 rfl, decide_eq_false h4]
      rfl
  simp only [rcheck_body] at hloop ⊢
  rw [hloop]
  have hlen : v.s = [] → ¬ (1000 < (v.s.length : Int)) := fun h => by rw [h]; simp
  have hle : decide ((v.s.length : Int) ≤ 1000) = !decide (1000 < (v.s.length : Int)) := by
    by_cases h : 1000 < (v.s.length : Int)
    · rw [decide_eq_true h, decide_eq_false (by omega)]; rfl
    · rw [decide_eq_false h, decide_eq_true (by omega)]; rfl
  have hs : decide (v.s = []) = true → decide (1000 < (v.s.length : Int)) = false := fun h => decide_eq_false (hlen (of_decide_eq_true h))
  simp only [vcheck, vright, hle]
  generalize decide (1000 < (v.s.length : Int)) = q at *
  generalize decide (v.s = []) = s at *
  generalize visible v.s = w at *
  by_cases hk : v.kind = 1
  · simp only [hk]; cases decide (v.n = 0) <;> cases s <;> simp_all
  by_cases hk2 : v.kind = 2
  · simp only [hk2]; cases decide (v.n = 0) <;> cases decide (v.n = 1) <;> cases s <;> simp_all
  by_cases hk3 : v.kind = 3
  · simp only [hk3]; cases decide (v.n = 0) <;> cases decide (v.n = 1) <;> cases s <;> simp_all
  by_cases hk4 : v.kind = 4
  · simp only [hk4]; cases decide (v.n = 0) <;> cases w <;> cases q <;> simp_all
  by_cases hk5 : v.kind = 5
  · simp only [hk5]; cases decide (v.n = 0) <;> cases q <;> simp_all
  rw [decide_eq_false hk, decide_eq_false hk2, decide_eq_false hk3, decide_eq_false hk4, decide_eq_false hk5]
  by_cases hl : v.kind < 1
  · rw [decide_eq_true hl]; rfl
  · rw [decide_eq_false hl, decide_eq_true (show 5 < v.kind by omega)]; rfl⟩
/-! ## exchequer/exchequerref02.Fits -/
def rfits2_px (R : Type) : Px R := ⟨ttOf ttL, glT, callT [(21, callOr [.sv .val] [.int .i64] rcheck_F)], callQT [], loopT []⟩
def rfits2_body (x : HV [.sv .val, .int .i64]) : Option (HV [.bool]) := match x with
 | (v, kind) =>
  cond (decide ((rcheck v) = 0)) (
   cond (decide (v.kind = 1)) (
    some true) (
    some (decide (v.kind = kind)))) (
   some false)
theorem rfits2_eq : ∀ (x : HV [.sv .val, .int .i64]), runF (rfits2_px _) Tryd.f23 [.sv .val, .int .i64] [.bool] x some = rfits2_body x
  | (v, kind) => by kernel_rfl
theorem rfits2_run : FnOk Tryd.prog elT glT 23 [.sv .val, .int .i64] [.bool] (rfits2_body) := by
  refine fnOk_run Tryd.func23 rfl (by kernel_rfl) follows (by kernel_rfl) (n := 0) (by kernel_rfl) (px := rfits2_px _) (fun cx hP hel hgl => ?_) (rfits2_eq)
  have hp0 : PxOk cx (rfits2_px (HV [.bool])) := ⟨fun t => by rw [hP, hel]; exact tt_ok ttL_ok t, by rw [hgl]; rfl⟩
  have hc0 : CallOk cx (rfits2_px (HV [.bool])) := callT_ok rfl (cfs_cons (cf_or (by rw [hP, hel, hgl]; exact rcheck_ok) (by kernel_rfl)) cfs_nil)
  have hq0 : CallQOk cx (rfits2_px (HV [.bool])) := callQT_ok rfl cqfs_nil
  exact ⟨hp0, hc0, hq0, all0⟩
def rfits2 (v : Val) (kind : Int) : Bool :=
  cond (decide ((rcheck v) = 0)) (
   cond (decide (v.kind = 1)) (
    true) (
    (decide (v.kind = kind)))) (
   false)
theorem rfits2_tot (x : HV [.sv .val, .int .i64]) : rfits2_body x = some (rfits2 x.1 x.2) := by
  first
    | exact rfl
    | simp only [rfits2_body, rfits2, cond_some]
def rfits2_F : FT [.sv .val, .int .i64] [.bool] := fun x => some (rfits2 x.1 x.2)
theorem rfits2_ok : FnOk Tryd.prog elT glT 23 [.sv .val, .int .i64] [.bool] rfits2_F := .fin0 rfits2_run fun x _ _ hx => (rfits2_tot x).trans hx
theorem rfits2_v (v : Val) (k : Int) : rfits2 v k = vfits v k := by
  simp only [rfits2, vfits]
  have : decide (vcheck v = 0) = vright v := by
    cases h : vright v
    · simp [vcheck, h]
    · simp [vcheck, h]
  rw [this]
end Go.Proofs.YtjfgakillgcdcaaDoor

/- The library's contract of strings.ReplaceAll at this seat's program (the facts as the kit's tool lays them). -/
namespace Go.Proofs
open Go.Shelf
def Tryd.laysRA_ren : Go.Shelf.Ren := ⟨fun | 155 => 45 | 154 => 61 | 138 => 74 | 165 => 75 | 143 => 76 | 166 => 77 | 197 => 78 | 169 => 79 | 195 => 84 | 218 => 85 | 240 => 86 | 241 => 87 | 219 => 88 | 260 => 89 | 276 => 90 | 277 => 91 | 217 => 66 | 225 => 92 | 224 => 93 | 267 => 94 | 266 => 81 | 314 => 95 | n => n, fun | 9 => 9 | 3 => 3 | 4 => 4 | 72 => 95 | 0 => 0 | 76 => 99 | 105 => 101 | 21 => 21 | 5 => 5 | 70 => 93 | 20 => 20 | 37 => 78 | 75 => 98 | 127 => 105 | 164 => 106 | 46 => 80 | 119 => 110 | 139 => 113 | 138 => 112 | 146 => 115 | 51 => 114 | 80 => 65 | n => n, fun | 1 => 1 | 3 => 2 | 4 => 3 | n => n⟩
theorem Tryd.laysRA : Go.Proofs.Lays.n155 Tryd.prog Tryd.laysRA_ren := {
  mixed := by kernel_rfl
  f138 := Tryd.func74.trans (congrArg some (by kernel_rfl))
  f143 := Tryd.func76.trans (congrArg some (by kernel_rfl))
  f154 := Tryd.func61.trans (congrArg some (by kernel_rfl))
  f155 := Tryd.func45.trans (congrArg some (by kernel_rfl))
  f165 := Tryd.func75.trans (congrArg some (by kernel_rfl))
  f166 := Tryd.func77.trans (congrArg some (by kernel_rfl))
  f169 := Tryd.func79.trans (congrArg some (by kernel_rfl))
  f195 := Tryd.func84.trans (congrArg some (by kernel_rfl))
  f197 := Tryd.func78.trans (congrArg some (by kernel_rfl))
  f217 := Tryd.func66.trans (congrArg some (by kernel_rfl))
  f218 := Tryd.func85.trans (congrArg some (by kernel_rfl))
  f219 := Tryd.func88.trans (congrArg some (by kernel_rfl))
  f224 := Tryd.func93.trans (congrArg some (by kernel_rfl))
  f225 := Tryd.func92.trans (congrArg some (by kernel_rfl))
  f240 := Tryd.func86.trans (congrArg some (by kernel_rfl))
  f241 := Tryd.func87.trans (congrArg some (by kernel_rfl))
  f260 := Tryd.func89.trans (congrArg some (by kernel_rfl))
  f266 := Tryd.func81.trans (congrArg some (by kernel_rfl))
  f267 := Tryd.func94.trans (congrArg some (by kernel_rfl))
  f276 := Tryd.func90.trans (congrArg some (by kernel_rfl))
  f277 := Tryd.func91.trans (congrArg some (by kernel_rfl))
  f314 := Tryd.func95.trans (congrArg some (by kernel_rfl))
  t0 := Tryd.underlying0
  a0 := Tryd.isAgg0
  z0 := Tryd.sizeOf0
  v0 := Tryd.zeroValue0
  t3 := Tryd.underlying3
  a3 := Tryd.isAgg3
  z3 := Tryd.sizeOf3
  v3 := Tryd.zeroValue3
  t4 := Tryd.underlying4
  a4 := Tryd.isAgg4
  z4 := Tryd.sizeOf4
  v4 := Tryd.zeroValue4
  t5 := Tryd.underlying5
  a5 := Tryd.isAgg5
  z5 := Tryd.sizeOf5
  v5 := Tryd.zeroValue5
  t9 := Tryd.underlying9
  a9 := Tryd.isAgg9
  z9 := Tryd.sizeOf9
  v9 := Tryd.zeroValue9
  t20 := Tryd.underlying20
  a20 := Tryd.isAgg20
  z20 := Tryd.sizeOf20
  v20 := Tryd.zeroValue20
  t21 := Tryd.underlying21
  a21 := Tryd.isAgg21
  z21 := Tryd.sizeOf21
  v21 := Tryd.zeroValue21
  t37 := Tryd.underlying78
  a37 := Tryd.isAgg78
  z37 := Tryd.sizeOf78
  v37 := Tryd.zeroValue78
  t46 := Tryd.underlying80
  a46 := Tryd.isAgg80
  z46 := Tryd.sizeOf80
  v46 := Tryd.zeroValue80
  t51 := Tryd.underlying114
  a51 := Tryd.isAgg114
  z51 := Tryd.sizeOf114
  v51 := Tryd.zeroValue114
  t70 := Tryd.underlying93
  a70 := Tryd.isAgg93
  z70 := Tryd.sizeOf93
  v70 := Tryd.zeroValue93
  t72 := Tryd.underlying95
  a72 := Tryd.isAgg95
  z72 := Tryd.sizeOf95
  v72 := Tryd.zeroValue95
  t75 := Tryd.underlying98
  a75 := Tryd.isAgg98
  z75 := Tryd.sizeOf98
  v75 := Tryd.zeroValue98
  t76 := Tryd.underlying99
  a76 := Tryd.isAgg99
  z76 := Tryd.sizeOf99
  v76 := Tryd.zeroValue99
  t105 := Tryd.underlying101
  a105 := Tryd.isAgg101
  z105 := Tryd.sizeOf101
  v105 := Tryd.zeroValue101
  t119 := Tryd.underlying110
  a119 := Tryd.isAgg110
  z119 := Tryd.sizeOf110
  t127 := Tryd.underlying105
  a127 := Tryd.isAgg105
  z127 := Tryd.sizeOf105
  v127 := Tryd.zeroValue105
  t138 := Tryd.underlying112
  a138 := Tryd.isAgg112
  z138 := Tryd.sizeOf112
  v138 := Tryd.zeroValue112
  t139 := Tryd.underlying113
  a139 := Tryd.isAgg113
  z139 := Tryd.sizeOf113
  v139 := Tryd.zeroValue113
  t146 := Tryd.underlying115
  a146 := Tryd.isAgg115
  z146 := Tryd.sizeOf115
  v146 := Tryd.zeroValue115
  t164 := Tryd.underlying106
  a164 := Tryd.isAgg106
  z164 := Tryd.sizeOf106
  v164 := Tryd.zeroValue106
  g1 := by kernel_rfl
  g3 := by kernel_rfl
  g4 := by kernel_rfl }
theorem Tryd.extraRA : Builder.Extra Tryd.prog Tryd.laysRA_ren := {
  sizeBuilder := by kernel_rfl
  liesBuilder := by kernel_rfl
  t5 := Tryd.laysRA.t5
  a5 := Tryd.laysRA.a5
  z5 := Tryd.laysRA.z5
  v5 := Tryd.laysRA.v5
  infoByte := by kernel_rfl
  cellsByte := by kernel_rfl
  sizeByte := by kernel_rfl
  neB5 := by decide }
end Go.Proofs

/- strings.ReplaceAll, by the library's contract. -/
namespace Go.Proofs.YtjfgakillgcdcaaDoor
open Go.Ax
def repAll (s old new : Str) : Option Str := cond (decide (s.length < 4294967281) && decide (1 ≤ old.length) && decide (s.length + Lib.count s old * new.length ≤ 140737488355328) && decide ((Lib.replaceAll s old new).length ≤ maxLen)) (some (Lib.replaceAll s old new)) none
def repAll_F : FT [.str, .str, .str] [.str] := fun x => repAll x.1 x.2.1 x.2.2
theorem repAll_ok : FnOk Tryd.prog elT glT 45 [.str, .str, .str] [.str] repAll_F := by
  refine ⟨Sx.enters_of Tryd.func45 rfl (by kernel_rfl), fun x r hx w M vs hM hgl hr => ?_⟩
  obtain ⟨s, old, new⟩ := x
  simp only [repAll_F, repAll] at hx
  cases hc : decide (s.length < 4294967281) && decide (1 ≤ old.length) && decide (s.length + Lib.count s old * new.length ≤ 140737488355328) && decide ((Lib.replaceAll s old new).length ≤ maxLen) with
  | false => rw [hc] at hx; cases hx
  | true =>
    rw [hc] at hx
    have hx : some (Lib.replaceAll s old new) = some r := hx
    simp only [Option.some.injEq] at hx
    subst hx
    simp only [Bool.and_eq_true, decide_eq_true_eq] at hc
    obtain ⟨⟨⟨h1, h2⟩, h3⟩, h4⟩ := hc
    simp only [encL, enc1, Reps, Rep] at hr
    obtain ⟨u, us, rfl, ⟨rfl, _⟩, u2, us2, rfl, ⟨rfl, _⟩, u3, us3, rfl, ⟨rfl, _⟩, rfl⟩ := hr
    obtain ⟨m, hm⟩ := hgl.2.2 1 .i64 rfl
    have c := Any.strings_ReplaceAll Tryd.laysRA Tryd.extraRA ⟨s.toArray⟩ ⟨old.toArray⟩ ⟨new.toArray⟩ m w (by simpa [ByteArray.size] using h1) (hm w (Chg.refl _ _)) (by simpa [ByteArray.size] using h2) (by simpa [ByteArray.size, Lib.countB] using h3)
    refine Calls.mono (show Calls Tryd.prog 45 _ w _ from c) ?_
    rintro en w' ⟨rfl, hb⟩
    refine ⟨_, ⟨fun _ => 0, fun _ => Option.none⟩, rfl, Chg.of_below hb, fun p g o hp => (by simp [owns] at hp), fun p q g o o2 hp => (by simp [owns] at hp), ?_⟩
    simp only [pack, encL, enc1, Rep]
    exact ⟨by simp, h4⟩
end Go.Proofs.YtjfgakillgcdcaaDoor

/- Plain law: decimal digits, the lowest first. -/
namespace Go.Proofs.YtjfgakillgcdcaaDoor
open Go.Ax
def pw : Nat → Int
  | 0 => 1
  | n + 1 => 10 * pw n
theorem pw_pos : ∀ n, 0 < pw n
  | 0 => by decide
  | n + 1 => by have := pw_pos n; simp only [pw]; omega
theorem pw_add : ∀ a b, pw (a + b) = pw a * pw b
  | 0, b => by simp [pw]
  | a + 1, b => by rw [Nat.add_right_comm]; simp only [pw]; rw [pw_add a b, Int.mul_assoc]
theorem pw_mono {a b : Nat} (h : a ≤ b) : pw a ≤ pw b := by
  induction b with
  | zero => have : a = 0 := by omega
            subst this; exact Int.le_refl _
  | succ b ih =>
    rcases Nat.le_succ_iff.1 h with h | h
    · have := ih h; have := pw_pos b; simp only [pw]; omega
    · subst h; exact Int.le_refl _
def val : List Int → Int
  | [] => 0
  | x :: l => x + 10 * val l
def dg (l : List Int) : Bool := l.all fun x => decide (0 ≤ x) && decide (x ≤ 9)
theorem dg_cons {x : Int} {l : List Int} : dg (x :: l) = true ↔ (0 ≤ x ∧ x ≤ 9) ∧ dg l = true := by
  simp [dg]
theorem dg_nil : dg [] = true := rfl
theorem dg_app {l m : List Int} : dg (l ++ m) = true ↔ dg l = true ∧ dg m = true := by
  simp [dg, List.all_append]
theorem val_nn : ∀ {l : List Int}, dg l = true → 0 ≤ val l
  | [], _ => by simp [val]
  | x :: l, h => by have h := dg_cons.1 h; have := val_nn h.2; simp only [val]; omega
theorem val_lt : ∀ {l : List Int}, dg l = true → val l < pw l.length
  | [], _ => by simp [val, pw]
  | x :: l, h => by have h := dg_cons.1 h; have := val_lt h.2; simp only [val, List.length_cons, pw]; omega
theorem val_app : ∀ (l m : List Int), val (l ++ m) = val l + pw l.length * val m
  | [], m => by simp [val, pw]
  | x :: l, m => by
    simp only [List.cons_append, val, val_app l m, List.length_cons, pw]
    rw [Int.mul_add, Int.add_assoc, Int.mul_assoc]
theorem dg_drop : ∀ {l : List Int} (i : Nat), dg l = true → dg (l.drop i) = true
  | [], i, _ => by simp [dg]
  | x :: l, 0, h => h
  | x :: l, i + 1, h => dg_drop (l := l) i (dg_cons.1 h).2
theorem dg_take : ∀ {l : List Int} (i : Nat), dg l = true → dg (l.take i) = true
  | [], i, _ => by simp [dg]
  | x :: l, 0, h => rfl
  | x :: l, i + 1, h => by
    rw [List.take_succ_cons]
    exact dg_cons.2 ⟨(dg_cons.1 h).1, dg_take i (dg_cons.1 h).2⟩
/-- a digit; 0 beyond -/
def dgt (l : List Int) (i : Nat) : Int := l.getD i 0
theorem dgt_bd {l : List Int} (h : dg l = true) (i : Nat) : 0 ≤ dgt l i ∧ dgt l i ≤ 9 := by
  induction l generalizing i with
  | nil => simp [dgt]
  | cons x l ih =>
    have h := dg_cons.1 h
    cases i with
    | zero => simpa [dgt] using h.1
    | succ i => simpa [dgt] using ih h.2 i
theorem val_drop (l : List Int) (i : Nat) : val (l.drop i) = dgt l i + 10 * val (l.drop (i + 1)) := by
  induction l generalizing i with
  | nil => simp [dgt, val]
  | cons x l ih =>
    cases i with
    | zero => simp [dgt, val]
    | succ i => simpa [dgt] using ih i
theorem val_split {l : List Int} (h : dg l = true) (j : Nat) : ∃ lo, 0 ≤ lo ∧ lo < pw j ∧ val l = lo + pw j * val (l.drop j) := by
  induction l generalizing j with
  | nil => exact ⟨0, Int.le_refl _, pw_pos j, by simp [val]⟩
  | cons x l ih =>
    have h := dg_cons.1 h
    cases j with
    | zero => exact ⟨0, Int.le_refl _, pw_pos 0, by simp [pw]⟩
    | succ j =>
      obtain ⟨lo, h1, h2, h3⟩ := ih h.2 j
      refine ⟨x + 10 * lo, by omega, by simp only [pw]; omega, ?_⟩
      simp only [val, List.drop_succ_cons, pw, h3]
      rw [Int.mul_add, Int.add_assoc, Int.mul_assoc]
theorem val_drop_le {l : List Int} (h : dg l = true) (j : Nat) : val (l.drop j) ≤ val l := by
  obtain ⟨lo, h1, h2, h3⟩ := val_split h j
  have h4 := val_nn (dg_drop j h)
  have h5 : 1 * val (l.drop j) ≤ pw j * val (l.drop j) := Int.mul_le_mul_of_nonneg_right (by have := pw_pos j; omega) h4
  omega
theorem val_take (l : List Int) : ∀ (i : Nat), i < l.length → val (l.take (i + 1)) = val (l.take i) + pw i * dgt l i := by
  induction l with
  | nil => intro i h; simp at h
  | cons x l ih =>
    intro i h
    cases i with
    | zero => simp [val, dgt, pw]
    | succ i =>
      have := ih i (by simpa using h)
      simp only [List.take_succ_cons, val, this, pw]
      have e : dgt (x :: l) (i + 1) = dgt l i := by simp [dgt]
      rw [e, Int.mul_add, Int.add_assoc, Int.mul_assoc]
theorem val_set (l : List Int) (y : Int) : ∀ (i : Nat), i < l.length → val (l.set i y) = val l + pw i * (y - dgt l i) := by
  induction l with
  | nil => intro i h; simp at h
  | cons x l ih =>
    intro i h
    cases i with
    | zero => simp [val, dgt, pw]; omega
    | succ i =>
      have := ih i (by simpa using h)
      simp only [List.set_cons_succ, val, this, pw]
      have e : dgt (x :: l) (i + 1) = dgt l i := by simp [dgt]
      rw [e, Int.mul_add, Int.add_assoc, Int.mul_assoc]
theorem dg_set {l : List Int} {y : Int} (hy : 0 ≤ y ∧ y ≤ 9) : ∀ (i : Nat), dg l = true → dg (l.set i y) = true := by
  induction l with
  | nil => intro i _; rfl
  | cons x l ih =>
    intro i h
    have h := dg_cons.1 h
    cases i with
    | zero => exact dg_cons.2 ⟨hy, h.2⟩
    | succ i => exact dg_cons.2 ⟨h.1, ih i h.2⟩
theorem val_rep (n : Nat) : val (List.replicate n 0) = 0 := by
  induction n with
  | zero => rfl
  | succ n ih => simp [List.replicate_succ, val, ih]
theorem dg_rep (n : Nat) : dg (List.replicate n 0) = true := by
  induction n with
  | zero => rfl
  | succ n ih => rw [List.replicate_succ]; exact dg_cons.2 ⟨by omega, ih⟩
/-! ## the digits of a number -/
def digs (n : Nat) : List Int := if h : n = 0 then [] else ((n % 10 : Nat) : Int) :: digs (n / 10)
termination_by n
decreasing_by omega
theorem digs_zero : digs 0 = [] := by rw [digs]; simp
theorem digs_pos {n : Nat} (h : ¬ n = 0) : digs n = ((n % 10 : Nat) : Int) :: digs (n / 10) := by rw [digs]; simp [h]
theorem digs_val (n : Nat) : val (digs n) = (n : Int) := by
  induction n using Nat.strongRecOn with
  | ind n ih =>
    by_cases h : n = 0
    · subst h; rw [digs_zero]; rfl
    · rw [digs_pos h, val, ih (n / 10) (by omega)]; omega
theorem digs_dg (n : Nat) : dg (digs n) = true := by
  induction n using Nat.strongRecOn with
  | ind n ih =>
    by_cases h : n = 0
    · subst h; rw [digs_zero]; rfl
    · rw [digs_pos h]; exact dg_cons.2 ⟨by omega, ih (n / 10) (by omega)⟩
theorem digs_len : ∀ (k n : Nat), (n : Int) < pw k → (digs n).length ≤ k
  | 0, n, h => by
    have : n = 0 := by simp only [pw] at h; omega
    subst this; rw [digs_zero]; exact Nat.le_refl _
  | k + 1, n, h => by
    by_cases h0 : n = 0
    · subst h0; rw [digs_zero]; simp
    · have := digs_len k (n / 10) (by simp only [pw] at h; omega)
      rw [digs_pos h0]
      simp only [List.length_cons]
      omega
theorem digs_ne {n : Nat} (h : ¬ n = 0) : ¬ digs n = [] := by rw [digs_pos h]; simp
/-- without noughts behind -/
def trimL : List Int → List Int
  | [] => []
  | x :: l => match trimL l with
    | [] => if x = 0 then [] else [x]
    | y :: t => x :: y :: t
theorem trimL_digs : ∀ {l : List Int}, dg l = true → trimL l = digs (val l).toNat
  | [], _ => by simp only [trimL, val]; exact digs_zero.symm
  | x :: l, h => by
    have h := dg_cons.1 h
    have ih := trimL_digs h.2
    have hv := val_nn h.2
    simp only [trimL, ih, val]
    by_cases h0 : val l = 0
    · rw [h0]
      have e : digs (0 : Int).toNat = [] := digs_zero
      rw [e]
      by_cases hx : x = 0
      · subst hx; rw [if_pos rfl]; exact digs_zero.symm
      · rw [if_neg hx, digs_pos (by omega), show (x + 10 * 0).toNat / 10 = 0 by omega, digs_zero, show (((x + 10 * 0).toNat % 10 : Nat) : Int) = x by omega]
    · have hne := digs_ne (n := (val l).toNat) (by omega)
      rw [digs_pos (n := (x + 10 * val l).toNat) (by omega), show (x + 10 * val l).toNat / 10 = (val l).toNat by omega, show (((x + 10 * val l).toNat % 10 : Nat) : Int) = x by omega]
      cases hd : digs (val l).toNat with
      | nil => exact absurd hd hne
      | cons y t => rfl
theorem trimL_zero : ∀ (l : List Int), trimL (l ++ [0]) = trimL l
  | [] => by simp [trimL]
  | x :: l => by simp only [List.cons_append, trimL, trimL_zero l]
theorem trimL_last {y : Int} (hy : ¬ y = 0) : ∀ (l : List Int), trimL (l ++ [y]) = l ++ [y]
  | [] => by simp [trimL, hy]
  | x :: l => by
    simp only [List.cons_append, trimL, trimL_last hy l]
    cases l <;> simp
/-! ## numbers -/
def numS (m : Bool) (v : Int) : Num := ⟨m && decide (0 < v), digs v.toNat⟩
def numZ (z : Int) : Num := numS (decide (z < 0)) (z.natAbs : Int)
def nv (n : Num) : Int := if n.minus = true then -val n.d else val n.d
def okN (n : Num) : Bool := dg n.d && decide (n.d.length ≤ 1000)
theorem okN_spec {n : Num} (h : okN n = true) : dg n.d = true ∧ n.d.length ≤ 1000 := by simpa [okN] using h
theorem nv_Z (z : Int) : nv (numZ z) = z := by
  simp only [nv, numZ, numS, digs_val, Int.toNat_natCast]
  by_cases h : z < 0
  · rw [decide_eq_true h, decide_eq_true (show (0 : Int) < (z.natAbs : Int) by omega)]
    simp only [Bool.and_true, if_pos]
    omega
  · rw [decide_eq_false h]
    simp only [Bool.false_and, Bool.false_eq_true, if_false]
    omega
theorem okZ {z : Int} (h : -(pw 1000) < z ∧ z < pw 1000) : okN (numZ z) = true := by
  have h1 := digs_len 1000 z.natAbs (by omega)
  simp only [okN, numZ, numS, Int.toNat_natCast, digs_dg, Bool.true_and]
  exact decide_eq_true h1
theorem numZ_S (m : Bool) {v : Int} (h : 0 ≤ v) : numS m v = numZ (if m = true then -v else v) := by
  cases m
  · simp only [Bool.false_eq_true, if_false, numZ]
    rw [decide_eq_false (by omega)]
    simp only [numS, Bool.false_and]
    congr 2
    omega
  · simp only [if_true, numZ]
    by_cases h0 : v = 0
    · subst h0; rfl
    · rw [decide_eq_true (by omega), show ((-v).natAbs : Int) = v by omega]
theorem val_td (l : List Int) (j : Nat) : val l = val (l.take j) + pw j * val (l.drop j) := by
  induction l generalizing j with
  | nil => simp [val]
  | cons x l ih =>
    cases j with
    | zero => simp [pw, val]
    | succ j =>
      simp only [List.take_succ_cons, List.drop_succ_cons, val, pw]
      have := ih j
      rw [Int.mul_assoc]
      omega
theorem val_dt (l : List Int) (i n : Nat) : val ((l.drop i).take (n + 1)) = dgt l i + 10 * val ((l.drop (i + 1)).take n) := by
  induction l generalizing i with
  | nil => simp [dgt, val]
  | cons x l ih =>
    cases i with
    | zero => simp [dgt, val]
    | succ i => simpa [dgt] using ih i
theorem ten {x : Int} (h : 0 ≤ x) : Int.tmod x 10 = x % 10 ∧ Int.tdiv x 10 = x / 10 := ⟨Int.tmod_eq_emod_of_nonneg h, Int.tdiv_eq_ediv_of_nonneg h⟩
end Go.Proofs.YtjfgakillgcdcaaDoor

/- The text of a value: the program's. -/
namespace Go.Proofs.YtjfgakillgcdcaaDoor
open Go.Ax
/-! ## two digits to a byte -/
abbrev hexL : Str := [48, 49, 50, 51, 52, 53, 54, 55, 56, 57, 97, 98, 99, 100, 101, 102]
def hex2 (n : Nat) : Str := [hexL.getD (n / 16) 0, hexL.getD (n % 16) 0]
def hexs (s : Str) : Str := s.flatMap fun b => hex2 b.toNat
def hxOk (n : Nat) : Bool := inb (ishr .u8 (n : Int) 4) 16 && inb (iand .u8 (n : Int) 15) 16 && decide ([(UInt8.ofNat ((bat hexL (ishr .u8 (n : Int) 4)) : Int).toNat), (UInt8.ofNat ((bat hexL (iand .u8 (n : Int) 15)) : Int).toNat)] = hex2 n)
theorem hx_all : ((List.range 256).all hxOk) = true := by kernel_rfl
theorem hx (b : UInt8) : inb (ishr .u8 (b.toNat : Int) 4) 16 = true ∧ inb (iand .u8 (b.toNat : Int) 15) 16 = true ∧ [(UInt8.ofNat ((bat hexL (ishr .u8 (b.toNat : Int) 4)) : Int).toNat), (UInt8.ofNat ((bat hexL (iand .u8 (b.toNat : Int) 15)) : Int).toNat)] = hex2 b.toNat := by
  have h := List.all_eq_true.1 hx_all b.toNat (List.mem_range.2 b.toNat_lt)
  simp only [hxOk, Bool.and_eq_true, decide_eq_true_eq] at h
  exact ⟨h.1.1, h.1.2, h.2⟩
theorem hexs_len (s : Str) : (hexs s).length = 2 * s.length := by
  induction s with
  | nil => rfl
  | cons b l ih => simp only [hexs, List.flatMap_cons, hex2, List.length_append, List.length_cons, List.length_nil] at ih ⊢; omega
/-! ## exchequer/value.hex -/
def vhex_0_sg : Sig := ⟨26, [(0, .str), (3, .sl .byte true), (6, .int .i64), (7, .int .i64)], [], [], 0, 0, 0, [], []⟩
abbrev vhex_0_V := Str × List UInt8 × Int × Int
def vhex_0 {R : Type} (rec : vhex_0_V → Option R) (kx : Ex → vhex_0_V → Option R) (v : vhex_0_V) : Option R := match v with
 | (v, v1, v2, v3) =>
  cond (decide (v3 < v2)) (
   chk (inb v3 v.length) (
    chk (inb (ishr .u8 (bat v v3) 4) 16) (
     chk (inb v3 v.length) (
      chk (inb (iand .u8 (bat v v3) 15) 16) (
       chk (decide (v1.length + 2 ≤ maxApp)) (
        rec (v, (v1 ++ [(UInt8.ofNat ((bat [48, 49, 50, 51, 52, 53, 54, 55, 56, 57, 97, 98, 99, 100, 101, 102] (ishr .u8 (bat v v3) 4)) : Int).toNat), (UInt8.ofNat ((bat [48, 49, 50, 51, 52, 53, 54, 55, 56, 57, 97, 98, 99, 100, 101, 102] (iand .u8 (bat v v3) 15)) : Int).toNat)]), v2, (wr .i64 (v3 + 1))))))))) (
   kx (.exit 0) (v, v1, v2, v3))
def vhex_px (R : Type) (k : Nat) : Px R := ⟨ttOf ttL, glT, callT [], callQT [], loopT [(3, loopOr k vhex_0_sg (vhex_0))]⟩
theorem vhex_0_eq (R : Type) (k : Nat) : ∀ (fr : List Fr) (rec : vhex_0_V → Option R) (kx : Ex → vhex_0_V → Option R) (v : vhex_0_V), round (vhex_px R k) vhex_0_sg (lp Tryd.f46 0) fr rec kx v = vhex_0 rec kx v
  | fr, rec, kx, (v, v1, v2, v3) => by kernel_rfl
def vhex_body (k : Nat) (x : HV [.str]) : Option (HV [.str]) := match x with
 | s =>
  iter (fun rec => vhex_0 rec (fun e v => match v with | (_, v5, _, _) => match e with
   | .exit 0 =>
    some v5
   | _ => none)) k (s, [], (s.length : Int), 0)
theorem vhex_eq (k : Nat) : ∀ (x : HV [.str]), runF (vhex_px _ k) Tryd.f46 [.str] [.str] x some = vhex_body k x
  | s => by kernel_rfl
theorem vhex_run (k : Nat) : FnOk Tryd.prog elT glT 46 [.str] [.str] (vhex_body k) := by
  refine fnOk_run Tryd.func46 rfl (by kernel_rfl) follows (by kernel_rfl) (n := 1) (by kernel_rfl) (px := vhex_px _ k) (fun cx hP hel hgl => ?_) (vhex_eq k)
  have hp0 : PxOk cx (vhex_px (HV [.str]) k) := ⟨fun t => by rw [hP, hel]; exact tt_ok ttL_ok t, by rw [hgl]; rfl⟩
  have hc0 : CallOk cx (vhex_px (HV [.str]) k) := callT_ok rfl cfs_nil
  have hq0 : CallQOk cx (vhex_px (HV [.str]) k) := callQT_ok rfl cqfs_nil
  have hlvhex_0 : LoopOk cx (vhex_px (HV [.str]) k) (lp Tryd.f46 0) := loop_ok hp0 hc0 hq0 (by rw [hP]; exact follows) (k := k) (s := vhex_0_sg) (step := vhex_0) (fun _ _ => by kernel_rfl) (by kernel_rfl) (vhex_0_eq _ k) (loops_in (n := 0) (by kernel_rfl) all0)
  exact ⟨hp0, hc0, hq0, (allS all0 hlvhex_0)⟩
def vhex (s : Str) : Option Str := cond (decide (s.length ≤ 3000)) (some (hexs s)) none
def vhex_F : FT [.str] [.str] := fun x => vhex x
theorem vhex_loop {R : Type} {kx : Ex → vhex_0_V → Option R} {s : Str} {b : Str → Option R} (hs : s.length ≤ 3000) (h2 : ∀ out j, kx (.exit 0) (s, out, (s.length : Int), j) = b out) : ∀ (k i : Nat) (out : Str), i ≤ s.length → s.length - i < k → out.length ≤ 2 * i → iter (fun rec => vhex_0 rec kx) k (s, out, (s.length : Int), (i : Int)) = b (out ++ hexs (s.drop i))
  | 0, i, _, _, h, _ => absurd h (Nat.not_lt_zero _)
  | k + 1, i, out, hi, h, ho => by
    rw [iter_s]
    by_cases hl : i < s.length
    · obtain ⟨h3, h4, h5⟩ := hx (s[i]'hl)
      have hn : ln s.length := by simp only [ln]; omega
      have ih := vhex_loop hs h2 k (i + 1) (out ++ hex2 (s[i]'hl).toNat) (by omega) (by omega) (by simp only [List.length_append, hex2, List.length_cons, List.length_nil]; omega)
      simp only [vhex_0, wr_succ hl hn, bat_nat hl, inb_t hl, h3, h4, h5, ih, h2]
      rw [decide_eq_true (show (i : Int) < (s.length : Int) by omega), decide_eq_true (show out.length + 2 ≤ maxApp by simp only [maxApp]; omega), drop_cons hl]
      simp only [chk, cond_t, hexs, List.flatMap_cons, List.append_assoc]
    · simp only [vhex_0, h2]
      rw [decide_eq_false (show ¬ (i : Int) < (s.length : Int) by omega), List.drop_eq_nil_of_le (by omega)]
      simp [hexs]
theorem vhex_ok : FnOk Tryd.prog elT glT 46 [.str] [.str] vhex_F := .fin 0 vhex_run fun s r hb hx => ⟨3001, by
  simp only [vhex_F, vhex] at hx
  by_cases hs : s.length ≤ 3000
  · rw [decide_eq_true hs] at hx
    simp only [vhex_body]
    exact (vhex_loop (b := some) hs (fun _ _ => rfl) 3001 0 [] (Nat.zero_le _) (by omega) (by simp)).trans hx
  · rw [decide_eq_false hs] at hx
    cases hx⟩
/-! ## decimal -/
def dch (d : Int) : UInt8 := UInt8.ofNat (48 + d).toNat
def txt (l : List Int) : Str := (l.map dch).reverse
def numT (n : Int) : Str := let t := if n = 0 then [48] else txt (digs n.natAbs)
  if n < 0 then 45 :: t else t
theorem txt_cons (d : Int) (l : List Int) : txt (d :: l) = txt l ++ [dch d] := by simp [txt]
theorem dch_u {d : Int} (h : 0 ≤ d ∧ d ≤ 9) : UInt8.ofNat ((wr .u8 (wr .u64 (48 + d))) : Int).toNat = dch d := by
  have e : wr .u8 (wr .u64 (48 + d)) = 48 + d := by
    rw [wru_id (by omega)]
    simp only [wr, IntKind.wrap, IntKind.bits, IntKind.signed]
    simp
    omega
  rw [e]; rfl
theorem txt_len (l : List Int) : (txt l).length = l.length := by simp [txt]
theorem txt_step (n : Int) : txt (digs (n.natAbs / 10)) ++ [dch ((n.natAbs % 10 : Nat) : Int)] = if n = 0 then [48] else txt (digs n.natAbs) := by
  by_cases h0 : n = 0
  · subst h0
    rw [if_pos rfl, show (0 : Int).natAbs / 10 = 0 from rfl, digs_zero]
    rfl
  · rw [if_neg h0, digs_pos (n := n.natAbs) (by omega), txt_cons]
/-! ## exchequer/value.digits -/
def vdigits_0_sg : Sig := ⟨32, [(0, .int .i64), (3, .sl .byte true), (4, .int .u64)], [], [], 0, 0, 0, [], []⟩
abbrev vdigits_0_V := Int × List UInt8 × Int
def vdigits_0 {R : Type} (rec : vdigits_0_V → Option R) (kx : Ex → vdigits_0_V → Option R) (v : vdigits_0_V) : Option R := match v with
 | (v, v1, v2) =>
  cond (decide (0 < v2)) (
   chk (decide (1 + v1.length ≤ maxApp)) (
    rec (v, ([(UInt8.ofNat ((wr .u8 (wr .u64 (48 + (Int.tmod v2 10)))) : Int).toNat)] ++ v1), (wr .u64 (Int.tdiv v2 10))))) (
   kx (.exit 0) (v, v1, v2))
def vdigits_px (R : Type) (k : Nat) : Px R := ⟨ttOf ttL, glT, callT [(52, callOr [.int .i64] [.int .u64] vsize_F)], callQT [], loopT [(3, loopOr k vdigits_0_sg (vdigits_0))]⟩
theorem vdigits_0_eq (R : Type) (k : Nat) : ∀ (fr : List Fr) (rec : vdigits_0_V → Option R) (kx : Ex → vdigits_0_V → Option R) (v : vdigits_0_V), round (vdigits_px R k) vdigits_0_sg (lp Tryd.f44 0) fr rec kx v = vdigits_0 rec kx v
  | fr, rec, kx, (v, v1, v2) => by kernel_rfl
def vdigits_body (k : Nat) (x : HV [.int .i64]) : Option (HV [.str]) := match x with
 | n =>
  iter (fun rec => vdigits_0 rec (fun e v => match v with | (v3, v4, _) => match e with
   | .exit 0 =>
    cond (decide (v3 < 0)) (
     chk (decide ([45].length + v4.length ≤ maxStr)) (
      some ([45] ++ v4))) (
     some v4)
   | _ => none)) k (n, [(UInt8.ofNat ((wr .u8 (wr .u64 (48 + (Int.tmod (vsize n) 10)))) : Int).toNat)], (wr .u64 (Int.tdiv (vsize n) 10)))
theorem vdigits_eq (k : Nat) : ∀ (x : HV [.int .i64]), runF (vdigits_px _ k) Tryd.f44 [.int .i64] [.str] x some = vdigits_body k x
  | n => by kernel_rfl
theorem vdigits_run (k : Nat) : FnOk Tryd.prog elT glT 44 [.int .i64] [.str] (vdigits_body k) := by
  refine fnOk_run Tryd.func44 rfl (by kernel_rfl) follows (by kernel_rfl) (n := 1) (by kernel_rfl) (px := vdigits_px _ k) (fun cx hP hel hgl => ?_) (vdigits_eq k)
  have hp0 : PxOk cx (vdigits_px (HV [.str]) k) := ⟨fun t => by rw [hP, hel]; exact tt_ok ttL_ok t, by rw [hgl]; rfl⟩
  have hc0 : CallOk cx (vdigits_px (HV [.str]) k) := callT_ok rfl (cfs_cons (cf_or (by rw [hP, hel, hgl]; exact vsize_ok) (by kernel_rfl)) cfs_nil)
  have hq0 : CallQOk cx (vdigits_px (HV [.str]) k) := callQT_ok rfl cqfs_nil
  have hlvdigits_0 : LoopOk cx (vdigits_px (HV [.str]) k) (lp Tryd.f44 0) := loop_ok hp0 hc0 hq0 (by rw [hP]; exact follows) (k := k) (s := vdigits_0_sg) (step := vdigits_0) (fun _ _ => by kernel_rfl) (by kernel_rfl) (vdigits_0_eq _ k) (loops_in (n := 0) (by kernel_rfl) all0)
  exact ⟨hp0, hc0, hq0, (allS all0 hlvdigits_0)⟩
abbrev vdigits (n : Int) : Str := numT n
def vdigits_F : FT [.int .i64] [.str] := fun x => some (vdigits x)
theorem absZ {n : Int} (h : inI n) : vsize n = (n.natAbs : Int) := by
  rw [vsize_z h]
  simp only [absI]
  split <;> omega
theorem vdigits_loop {R : Type} {kx : Ex → vdigits_0_V → Option R} {n : Int} {b : Str → Option R} (h2 : ∀ out x, kx (.exit 0) (n, out, x) = b out) : ∀ (k a : Nat) (out : Str), (a : Int) ≤ 18446744073709551615 → (digs a).length < k → out.length + (digs a).length ≤ 1000 → iter (fun rec => vdigits_0 rec kx) k (n, out, (a : Int)) = b (txt (digs a) ++ out)
  | 0, a, out, _, h, _ => absurd h (Nat.not_lt_zero _)
  | k + 1, a, out, ha, h, ho => by
    rw [iter_s]
    by_cases h0 : a = 0
    · subst h0
      simp only [vdigits_0, h2]
      rw [decide_eq_false (by omega), digs_zero]
      rfl
    · have hd := digs_pos h0
      rw [hd, List.length_cons] at h ho
      have e1 : Int.tmod (a : Int) 10 = ((a % 10 : Nat) : Int) := rfl
      have e2 : wr .u64 (Int.tdiv (a : Int) 10) = ((a / 10 : Nat) : Int) := by
        have : Int.tdiv (a : Int) 10 = ((a / 10 : Nat) : Int) := rfl
        rw [this, wru_id (by omega)]
      have ih := vdigits_loop h2 k (a / 10) ([dch ((a % 10 : Nat) : Int)] ++ out) (by omega) (by omega) (by simp only [List.length_append, List.length_cons, List.length_nil]; omega)
      simp only [vdigits_0, e1, e2, dch_u (show 0 ≤ ((a % 10 : Nat) : Int) ∧ ((a % 10 : Nat) : Int) ≤ 9 by omega), ih]
      rw [decide_eq_true (show (0 : Int) < (a : Int) by omega), decide_eq_true (show 1 + out.length ≤ maxApp by simp only [maxApp]; omega), hd, txt_cons]
      simp [chk]
theorem vdigits_ok : FnOk Tryd.prog elT glT 44 [.int .i64] [.str] vdigits_F := .fin 0 vdigits_run fun n r hb hx => ⟨30, by
  have hb := inK_i64 hb
  simp only [vdigits_F, Option.some.injEq] at hx
  subst hx
  have hl : (digs (n.natAbs / 10)).length ≤ 20 := digs_len 20 _ (by
    simp only [inI] at hb
    have : pw 20 = 100000000000000000000 := by kernel_rfl
    omega)
  have e1 : Int.tmod (n.natAbs : Int) 10 = ((n.natAbs % 10 : Nat) : Int) := rfl
  have e2 : wr .u64 (Int.tdiv (n.natAbs : Int) 10) = ((n.natAbs / 10 : Nat) : Int) := by
    have : Int.tdiv (n.natAbs : Int) 10 = ((n.natAbs / 10 : Nat) : Int) := rfl
    simp only [inI] at hb
    rw [this, wru_id (by omega)]
  simp only [vdigits_body, absZ hb, e1, e2, dch_u (show 0 ≤ ((n.natAbs % 10 : Nat) : Int) ∧ ((n.natAbs % 10 : Nat) : Int) ≤ 9 by omega)]
  refine (vdigits_loop (b := fun out => cond (decide (n < 0)) (chk (decide ([45].length + out.length ≤ maxStr)) (some ([45] ++ out))) (some out)) (fun _ _ => rfl) 30 (n.natAbs / 10) [dch ((n.natAbs % 10 : Nat) : Int)] (by simp only [inI] at hb; omega) (by omega) (by simp only [List.length_cons, List.length_nil]; omega)).trans ?_
  have et := txt_step n
  have hlen : (txt (digs (n.natAbs / 10)) ++ [dch ((n.natAbs % 10 : Nat) : Int)]).length ≤ 21 := by
    rw [List.length_append, txt_len]; simp only [List.length_cons, List.length_nil]; omega
  have hc : decide ([45].length + (txt (digs (n.natAbs / 10)) ++ [dch ((n.natAbs % 10 : Nat) : Int)]).length ≤ maxStr) = true := decide_eq_true (by simp only [List.length_cons, List.length_nil, maxStr]; omega)
  simp only [hc, chk, cond_t]
  rw [et]
  simp only [vdigits, numT]
  by_cases h : n < 0
  · rw [decide_eq_true h, if_pos h]; rfl
  · rw [decide_eq_false h, if_neg h]; rfl⟩
/-! ## a text between signs -/
def quo : Str → Str
  | [] => []
  | b :: l => if b = 39 then 39 :: 39 :: quo l else b :: quo l
theorem quo_len (s : Str) : (quo s).length ≤ 2 * s.length := by
  induction s with
  | nil => simp [quo]
  | cons b l ih =>
    simp only [quo]
    split <;> simp only [List.length_cons] <;> omega
theorem quo_index : ∀ s : Str, (Lib.index s [39] = -1 ∧ quo s = s) ∨ ∃ i : Nat, Lib.index s [39] = (i : Int) ∧ i < s.length ∧ quo s = s.take i ++ [39, 39] ++ quo (s.drop (i + 1))
  | [] => .inl ⟨rfl, rfl⟩
  | b :: l => by
    by_cases h : b = 39
    · subst h
      refine .inr ⟨0, rfl, by simp, by simp [quo]⟩
    · have hp : List.isPrefixOf [39] (b :: l) = false := by
        simp only [List.isPrefixOf, Bool.and_true]
        exact beq_eq_false_iff_ne.2 (Ne.symm h)
      rcases quo_index l with ⟨h1, h2⟩ | ⟨i, h1, h2, h3⟩
      · left
        refine ⟨?_, by simp only [quo, if_neg h, h2]⟩
        unfold Lib.index
        rw [hp, h1]
        rfl
      · right
        refine ⟨i + 1, ?_, by simpa using h2, ?_⟩
        · unfold Lib.index
          rw [hp, h1]
          have : ((i : Int) == -1) = false := beq_eq_false_iff_ne.2 (by omega)
          simp [this]
        · simp only [quo, if_neg h, h3, List.take_succ_cons, List.drop_succ_cons, List.cons_append]
theorem quo_count : ∀ (f : Nat) (s : Str), s.length < f → Lib.replaceK [39] [39, 39] (Lib.countFrom [39] f s) s = quo s
  | 0, s, h => absurd h (Nat.not_lt_zero _)
  | f + 1, s, h => by
    rcases quo_index s with ⟨h1, h2⟩ | ⟨i, h1, h2, h3⟩
    · simp only [Lib.countFrom, h1]
      exact h2.symm
    · have hn : ((i : Int) == -1) = false := beq_eq_false_iff_ne.2 (by omega)
      have ih := quo_count f (s.drop (i + 1)) (by rw [List.length_drop]; omega)
      have e : Lib.countFrom [39] (f + 1) s = Lib.countFrom [39] f (s.drop (i + 1)) + 1 := by
        simp only [Lib.countFrom, h1, hn, Int.toNat_natCast, List.length_cons, List.length_nil]
        simp [Nat.add_comm]
      rw [e, Lib.replaceK_hit _ _ _ _ i h1]
      simp only [List.length_cons, List.length_nil, Nat.zero_add]
      rw [ih, h3]
theorem quo_all (s : Str) : Lib.replaceAll s [39] [39, 39] = quo s := by
  have e : Lib.replaceNum s [39] (-1) = Lib.countFrom [39] (s.length + 1) s := by
    unfold Lib.replaceNum
    rw [if_pos (.inl (by decide))]
    rfl
  have hc := quo_count (s.length + 1) s (by omega)
  rw [← e] at hc
  exact hc
theorem repAll_quo {s : Str} (h : s.length ≤ 3000) : repAll s [39] [39, 39] = some (quo s) := by
  have h1 := Lib.countB_mul_le ⟨#[39]⟩ (by decide) s.length ⟨s.toArray⟩ (Nat.le_refl _)
  have h2 : Lib.count s [39] * 1 ≤ s.length := h1
  have h3 := quo_len s
  simp only [repAll, quo_all]
  rw [decide_eq_true (show s.length < 4294967281 by omega), decide_eq_true (show 1 ≤ ([39] : Str).length by decide), decide_eq_true (show s.length + Lib.count s [39] * ([39, 39] : Str).length ≤ 140737488355328 by simp only [List.length_cons, List.length_nil]; omega), decide_eq_true (show (quo s).length ≤ maxLen by simp only [maxLen]; omega)]
  rfl
/-! ## exchequer/value.Print -/
def vprint_px (R : Type) : Px R := ⟨ttOf ttL, glT, callT [(43, callOr [.sv .val] [.bool] vright_F), (44, callOr [.int .i64] [.str] vdigits_F), (45, callOr [.str, .str, .str] [.str] repAll_F), (46, callOr [.str] [.str] vhex_F)], callQT [], loopT []⟩
def vprint_body (x : HV [.sv .val]) : Option (HV [.str]) := match x with
 | v =>
  cond (!(vright v)) (
   some []) (
   cond (decide (v.kind = 2)) (
    chk (inb v.n 2) (
     some (at' .str [[70, 65, 76, 83, 69], [84, 82, 85, 69]] v.n))) (
    cond (decide (v.kind = 3)) (
     some (vdigits v.n)) (
     cond (decide (v.kind = 4)) (
      (repAll v.s [39] [39, 39]).bind fun x =>
       chk (decide ([39].length + x.length ≤ maxStr)) (
        chk (decide (([39] ++ x).length + [39].length ≤ maxStr)) (
         some (([39] ++ x) ++ [39])))) (
      cond (decide (v.kind = 5)) (
       (vhex v.s).bind fun x1 =>
        chk (decide ([120, 39].length + x1.length ≤ maxStr)) (
         chk (decide (([120, 39] ++ x1).length + [39].length ≤ maxStr)) (
          some (([120, 39] ++ x1) ++ [39])))) (
       some [78, 85, 76, 76])))))
theorem vprint_eq : ∀ (x : HV [.sv .val]), runF (vprint_px _) Tryd.f24 [.sv .val] [.str] x some = vprint_body x
  | v => by kernel_rfl
theorem vprint_run : FnOk Tryd.prog elT glT 24 [.sv .val] [.str] (vprint_body) := by
  refine fnOk_run Tryd.func24 rfl (by kernel_rfl) follows (by kernel_rfl) (n := 0) (by kernel_rfl) (px := vprint_px _) (fun cx hP hel hgl => ?_) (vprint_eq)
  have hp0 : PxOk cx (vprint_px (HV [.str])) := ⟨fun t => by rw [hP, hel]; exact tt_ok ttL_ok t, by rw [hgl]; rfl⟩
  have hc0 : CallOk cx (vprint_px (HV [.str])) := callT_ok rfl (cfs_cons (cf_or (by rw [hP, hel, hgl]; exact vright_ok) (by kernel_rfl)) (cfs_cons (cf_or (by rw [hP, hel, hgl]; exact vdigits_ok) (by kernel_rfl)) (cfs_cons (cf_or (by rw [hP, hel, hgl]; exact repAll_ok) (by kernel_rfl)) (cfs_cons (cf_or (by rw [hP, hel, hgl]; exact vhex_ok) (by kernel_rfl)) cfs_nil))))
  have hq0 : CallQOk cx (vprint_px (HV [.str])) := callQT_ok rfl cqfs_nil
  exact ⟨hp0, hc0, hq0, all0⟩
def vprint (v : Val) : Str := cond (vright v) (if v.kind = 2 then (if v.n = 0 then [70, 65, 76, 83, 69] else [84, 82, 85, 69]) else if v.kind = 3 then numT v.n else if v.kind = 4 then 39 :: (quo v.s ++ [39]) else if v.kind = 5 then 120 :: 39 :: (hexs v.s ++ [39]) else [78, 85, 76, 76]) []
def vprint_F : FT [.sv .val] [.str] := fun x => some (vprint x)
theorem right_len {v : Val} (h : vright v = true) (hk : v.kind = 4 ∨ v.kind = 5) : v.s.length ≤ 1000 := by
  rcases hk with h4 | h5
  · simp [vright, h4] at h
    omega
  · simp [vright, h5] at h
    omega
theorem right_bool {v : Val} (h : vright v = true) (hk : v.kind = 2) : v.n = 0 ∨ v.n = 1 := by
  by_cases h0 : v.n = 0
  · exact .inl h0
  · by_cases h1 : v.n = 1
    · exact .inr h1
    · simp [vright, hk, h0, h1] at h
theorem vprint_ok : FnOk Tryd.prog elT glT 24 [.sv .val] [.str] vprint_F := .fin0 vprint_run fun v r _ hx => by
  simp only [vprint_F, Option.some.injEq] at hx
  subst hx
  simp only [vprint_body, vprint]
  cases hr : vright v with
  | false => rfl
  | true =>
    simp only [Bool.not_true, cond_f, cond_t]
    by_cases k2 : v.kind = 2
    · rw [decide_eq_true k2, if_pos k2]
      rcases right_bool hr k2 with h | h <;> rw [h] <;> rfl
    · rw [decide_eq_false k2, if_neg k2]
      by_cases k3 : v.kind = 3
      · rw [decide_eq_true k3, if_pos k3]; rfl
      · rw [decide_eq_false k3, if_neg k3]
        by_cases k4 : v.kind = 4
        · have hl := right_len hr (.inl k4)
          have hq := quo_len v.s
          rw [decide_eq_true k4, if_pos k4]
          simp only [cond_t, cond_f, repAll_quo (show v.s.length ≤ 3000 by omega), Option.bind_some]
          refine (chk_t (decide_eq_true ?_)).trans ((chk_t (decide_eq_true ?_)).trans rfl)
          · simp only [List.length_cons, List.length_nil, maxStr]; omega
          · simp only [List.length_append, List.length_cons, List.length_nil, maxStr]; omega
        · rw [decide_eq_false k4, if_neg k4]
          by_cases k5 : v.kind = 5
          · have hl := right_len hr (.inr k5)
            have hh := hexs_len v.s
            have hv : vhex v.s = some (hexs v.s) := by simp only [vhex]; rw [decide_eq_true (by omega)]; rfl
            rw [decide_eq_true k5, if_pos k5]
            simp only [cond_t, cond_f, hv, Option.bind_some]
            refine (chk_t (decide_eq_true ?_)).trans ((chk_t (decide_eq_true ?_)).trans rfl)
            · simp only [List.length_cons, List.length_nil, maxStr]; omega
            · simp only [List.length_append, List.length_cons, List.length_nil, maxStr]; omega
          · rw [decide_eq_false k5, if_neg k5]; rfl
/-! ## exchequer/exchequerlaw02.known -/
def known_px (R : Type) : Px R := ⟨ttOf ttL, glT, callT [(26, callOr [.int .i64, .int .i64] [.int .i64, .int .i64] vadd_F), (28, callOr [.int .i64, .int .i64] [.int .i64, .int .i64] vsub_F), (30, callOr [.int .i64, .int .i64] [.int .i64, .int .i64] vmul_F), (24, callOr [.sv .val] [.str] vprint_F), (20, callOr [.sv .val] [.int .i64] vcheck_F), (22, callOr [.sv .val, .int .i64] [.bool] vfits_F)], callQT [], loopT []⟩
def known_body (x : HV []) : Option (HV [.bool]) := match x with
 | () =>
  let j6 := fun (p : Bool) =>
   let j5 := fun (p1 : Bool) =>
    let j4 := fun (p2 : Bool) =>
     let j3 := fun (p3 : Bool) =>
      let j2 := fun (p4 : Bool) =>
       let j1 := fun (p5 : Bool) =>
        let j := fun (p6 : Bool) =>
         cond (p6) (
          cond (decide ((vcheck (Val.mk 1 0 [])) = 0)) (
           some (vfits (Val.mk 1 0 []) 3)) (
           some false)) (
          some false)
        cond (p5) (
         j (decide ((vcheck (Val.mk 0 0 [])) = 2))) (
         j false)
       cond (p4) (
        j1 (decide ((vmul (-3) 4).2 = 0))) (
        j1 false)
      cond (p3) (
       j2 (decide ((vmul (-3) 4).1 = (-12)))) (
       j2 false)
     cond (p2) (
      j3 (decide ((vsub 3 5).2 = 0))) (
      j3 false)
    cond (p1) (
     j4 (decide ((vsub 3 5).1 = (-2)))) (
     j4 false)
   cond (p) (
    j5 (decide ((vadd 9223372036854775807 1).2 = 20))) (
    j5 false)
  cond (decide ((vprint (Val.mk 4 0 [105, 116, 39, 115])) = [39, 105, 116, 39, 39, 115, 39])) (
   j6 (decide ((vprint (Val.mk 5 0 [0, 255])) = [120, 39, 48, 48, 102, 102, 39]))) (
   j6 false)
theorem known_eq : ∀ (x : HV []), runF (known_px _) Tryd.f19 [] [.bool] x some = known_body x
  | () => by kernel_rfl
theorem known_run : FnOk Tryd.prog elT glT 19 [] [.bool] (known_body) := by
  refine fnOk_run Tryd.func19 rfl (by kernel_rfl) follows (by kernel_rfl) (n := 0) (by kernel_rfl) (px := known_px _) (fun cx hP hel hgl => ?_) (known_eq)
  have hp0 : PxOk cx (known_px (HV [.bool])) := ⟨fun t => by rw [hP, hel]; exact tt_ok ttL_ok t, by rw [hgl]; rfl⟩
  have hc0 : CallOk cx (known_px (HV [.bool])) := callT_ok rfl (cfs_cons (cf_or (by rw [hP, hel, hgl]; exact vadd_ok) (by kernel_rfl)) (cfs_cons (cf_or (by rw [hP, hel, hgl]; exact vsub_ok) (by kernel_rfl)) (cfs_cons (cf_or (by rw [hP, hel, hgl]; exact vmul_ok) (by kernel_rfl)) (cfs_cons (cf_or (by rw [hP, hel, hgl]; exact vprint_ok) (by kernel_rfl)) (cfs_cons (cf_or (by rw [hP, hel, hgl]; exact vcheck_ok) (by kernel_rfl)) (cfs_cons (cf_or (by rw [hP, hel, hgl]; exact vfits_ok) (by kernel_rfl)) cfs_nil))))))
  have hq0 : CallQOk cx (known_px (HV [.bool])) := callQT_ok rfl cqfs_nil
  exact ⟨hp0, hc0, hq0, all0⟩
def known : Bool :=
  let j6 := fun (p : Bool) =>
   let j5 := fun (p1 : Bool) =>
    let j4 := fun (p2 : Bool) =>
     let j3 := fun (p3 : Bool) =>
      let j2 := fun (p4 : Bool) =>
       let j1 := fun (p5 : Bool) =>
        let j := fun (p6 : Bool) =>
         cond (p6) (
          cond (decide ((vcheck (Val.mk 1 0 [])) = 0)) (
           (vfits (Val.mk 1 0 []) 3)) (
           false)) (
          false)
        cond (p5) (
         j (decide ((vcheck (Val.mk 0 0 [])) = 2))) (
         j false)
       cond (p4) (
        j1 (decide ((vmul (-3) 4).2 = 0))) (
        j1 false)
      cond (p3) (
       j2 (decide ((vmul (-3) 4).1 = (-12)))) (
       j2 false)
     cond (p2) (
      j3 (decide ((vsub 3 5).2 = 0))) (
      j3 false)
    cond (p1) (
     j4 (decide ((vsub 3 5).1 = (-2)))) (
     j4 false)
   cond (p) (
    j5 (decide ((vadd 9223372036854775807 1).2 = 20))) (
    j5 false)
  cond (decide ((vprint (Val.mk 4 0 [105, 116, 39, 115])) = [39, 105, 116, 39, 39, 115, 39])) (
   j6 (decide ((vprint (Val.mk 5 0 [0, 255])) = [120, 39, 48, 48, 102, 102, 39]))) (
   j6 false)
theorem known_tot (x : HV []) : known_body x = some (known) := by
  first
    | exact rfl
    | simp only [known_body, known, cond_some]
def known_F : FT [] [.bool] := fun _ => some (known)
theorem known_ok : FnOk Tryd.prog elT glT 19 [] [.bool] known_F := .fin0 known_run fun x _ _ hx => (known_tot x).trans hx
theorem known_true : known = true := by kernel_rfl
end Go.Proofs.YtjfgakillgcdcaaDoor

/- Plain law: what stands one way round: numbers, texts, values, rows. -/
namespace Go.Proofs.YtjfgakillgcdcaaDoor
open Go.Ax
structure LinC {α : Type} (c : α → α → Int) : Prop where
  rng : ∀ x y, c x y = -1 ∨ c x y = 0 ∨ c x y = 1
  eq : ∀ x y, c x y = 0 ↔ x = y
  anti : ∀ x y, c y x = -(c x y)
  tr : ∀ x y z, c x y ≤ 0 → c y z ≤ 0 → c x z ≤ 0
def then2 (p q : Int) : Int := if p = 0 then q else p
theorem then2_le {p q : Int} (h : then2 p q ≤ 0) : p ≤ 0 ∧ (p = 0 → q ≤ 0) := by
  simp only [then2] at h
  split at h <;> omega
/-- two ways of standing, the first one first -/
theorem then2_tr {α β : Type} {c : α → α → Int} {d : β → β → Int} (hc : LinC c) {x y z : α} {u v w : β} (hd : d u v ≤ 0 → d v w ≤ 0 → d u w ≤ 0) (h1 : then2 (c x y) (d u v) ≤ 0) (h2 : then2 (c y z) (d v w) ≤ 0) : then2 (c x z) (d u w) ≤ 0 := by
  obtain ⟨a1, a2⟩ := then2_le h1
  obtain ⟨b1, b2⟩ := then2_le h2
  have t := hc.tr x y z a1 b1
  simp only [then2]
  split
  · rename_i h0
    have e := (hc.eq x z).1 h0
    subst e
    have an := hc.anti x y
    have p0 : c x y = 0 := by omega
    have q0 : c y x = 0 := by omega
    exact hd (a2 p0) (b2 q0)
  · exact t
def lexL {α : Type} (c : α → α → Int) : List α → List α → Int
  | [], [] => 0
  | [], _ :: _ => -1
  | _ :: _, [] => 1
  | x :: a, y :: b => then2 (c x y) (lexL c a b)
theorem lexL_lin {α : Type} {c : α → α → Int} (hc : LinC c) : LinC (lexL c) := by
  refine ⟨?_, ?_, ?_, ?_⟩
  · intro x
    induction x with
    | nil => intro y; cases y <;> simp [lexL]
    | cons x a ih =>
      intro y
      cases y with
      | nil => simp [lexL]
      | cons y b =>
        simp only [lexL, then2]
        split
        · exact ih b
        · exact hc.rng x y
  · intro x
    induction x with
    | nil => intro y; cases y <;> simp [lexL]
    | cons x a ih =>
      intro y
      cases y with
      | nil => simp [lexL]
      | cons y b =>
        simp only [lexL, then2, List.cons.injEq]
        split
        · rename_i h
          rw [ih b]
          exact ⟨fun e => ⟨(hc.eq x y).1 h, e⟩, fun e => e.2⟩
        · rename_i h
          exact ⟨fun e => absurd e h, fun e => absurd ((hc.eq x y).2 e.1) h⟩
  · intro x
    induction x with
    | nil => intro y; cases y <;> simp [lexL]
    | cons x a ih =>
      intro y
      cases y with
      | nil => simp [lexL]
      | cons y b =>
        have h := hc.anti x y
        have hb := ih b
        simp only [lexL, then2]
        split <;> split <;> omega
  · intro x
    induction x with
    | nil => intro y z _ _; cases z <;> simp [lexL]
    | cons x a ih =>
      intro y z h1 h2
      cases y with
      | nil => simp [lexL] at h1
      | cons y b =>
        cases z with
        | nil => simp [lexL] at h2
        | cons z e =>
          simp only [lexL] at h1 h2 ⊢
          exact then2_tr hc (fun p q => ih b e p q) h1 h2
theorem sg_lin : LinC vsign := by
  have e : ∀ x y, vsign x y = if x < y then -1 else if y < x then 1 else 0 := fun x y => by
    simp only [vsign, Bool.cond_decide]
  refine ⟨fun x y => ?_, fun x y => ?_, fun x y => ?_, fun x y z h1 h2 => ?_⟩
  · rw [e]; split
    · simp
    · split <;> simp
  · rw [e]; split
    · simp; omega
    · split
      · simp; omega
      · simp; omega
  · rw [e, e]
    split <;> split <;> (try split) <;> omega
  · rw [e] at h1 h2 ⊢
    split at h1
    · split at h2
      · rw [if_pos (by omega)]; omega
      · split at h2
        · omega
        · rw [if_pos (by omega)]; omega
    · split at h1
      · omega
      · split at h2
        · rw [if_pos (by omega)]; omega
        · split at h2
          · omega
          · rw [if_neg (by omega), if_neg (by omega)]; omega
def bcmp (a b : UInt8) : Int := vsign (a.toNat : Int) (b.toNat : Int)
theorem bcmp_lin : LinC bcmp := by
  refine ⟨fun x y => sg_lin.rng _ _, fun x y => ?_, fun x y => sg_lin.anti _ _, fun x y z => sg_lin.tr _ _ _⟩
  simp only [bcmp]
  rw [sg_lin.eq]
  constructor
  · intro h
    exact UInt8.toNat_inj.1 (by omega)
  · intro h; rw [h]
theorem scmp_lex : ∀ a b : Str, scmp a b = lexL bcmp a b
  | [], [] => rfl
  | [], _ :: _ => rfl
  | _ :: _, [] => rfl
  | a :: l, b :: m => by
    have ih := scmp_lex l m
    simp only [scmp, Lib.compareBytes] at ih ⊢
    simp only [lexL, then2, bcmp, vsign, Bool.cond_decide, ← ih]
    by_cases h1 : a < b
    · have : (a.toNat : Int) < (b.toNat : Int) := by have := UInt8.lt_iff_toNat_lt.1 h1; omega
      simp [h1, this]
    · by_cases h2 : b < a
      · have h3 : ¬ (a.toNat : Int) < (b.toNat : Int) := by have := UInt8.lt_iff_toNat_lt.1 h2; omega
        have h4 : (b.toNat : Int) < (a.toNat : Int) := by have := UInt8.lt_iff_toNat_lt.1 h2; omega
        simp [h1, h2, h3, h4]
      · have h3 : a = b := UInt8.le_antisymm (UInt8.not_lt.1 h2) (UInt8.not_lt.1 h1)
        subst h3
        simp [h1]
theorem scmp_lin : LinC scmp := by
  have e : (scmp : Str → Str → Int) = lexL bcmp := by
    funext a b
    exact scmp_lex a b
  rw [e]
  exact lexL_lin bcmp_lin
theorem vcmp_then (a b : Val) : vcmp a b = then2 (vsign a.kind b.kind) (then2 (vsign a.n b.n) (scmp a.s b.s)) := by
  simp only [vcmp, scompare, then2]
  by_cases h1 : vsign a.kind b.kind = 0
  · rw [decide_eq_true h1, if_pos h1]
    by_cases h2 : vsign a.n b.n = 0
    · rw [decide_eq_true h2, if_pos h2]; rfl
    · rw [decide_eq_false h2, if_neg h2]; rfl
  · rw [decide_eq_false h1, if_neg h1]; rfl
theorem vcmp_lin : LinC vcmp := by
  refine ⟨fun x y => ?_, fun x y => ?_, fun x y => ?_, fun x y z h1 h2 => ?_⟩
  · rw [vcmp_then]
    simp only [then2]
    split
    · split
      · exact scmp_lin.rng _ _
      · exact sg_lin.rng _ _
    · exact sg_lin.rng _ _
  · rw [vcmp_then]
    have e1 := sg_lin.eq x.kind y.kind
    have e2 := sg_lin.eq x.n y.n
    have e3 := scmp_lin.eq x.s y.s
    obtain ⟨k, n, s⟩ := x
    obtain ⟨k', n', s'⟩ := y
    simp only [then2, Val.mk.injEq] at *
    split
    · split
      · rename_i h1 h2
        rw [e3, e1.1 h1, e2.1 h2]
        simp
      · rename_i h1 h2
        exact ⟨fun h => absurd h h2, fun h => absurd (e2.2 h.2.1) h2⟩
    · rename_i h1
      exact ⟨fun h => absurd h h1, fun h => absurd (e1.2 h.1) h1⟩
  · rw [vcmp_then, vcmp_then]
    have e1 := sg_lin.anti x.kind y.kind
    have e2 := sg_lin.anti x.n y.n
    have e3 := scmp_lin.anti x.s y.s
    simp only [then2]
    split <;> split <;> (try split) <;> (try split) <;> omega
  · rw [vcmp_then] at h1 h2 ⊢
    refine then2_tr (d := fun (p q : Int × Str) => then2 (vsign p.1 q.1) (scmp p.2 q.2)) (u := (x.n, x.s)) (v := (y.n, y.s)) (w := (z.n, z.s)) sg_lin ?_ h1 h2
    intro h3 h4
    exact then2_tr (d := scmp) sg_lin (fun p q => scmp_lin.tr _ _ _ p q) h3 h4
theorem vrows_lin : LinC (lexL vcmp) := lexL_lin vcmp_lin
end Go.Proofs.YtjfgakillgcdcaaDoor

/- Rows of values, one against another: the program's and the document's. -/
namespace Go.Proofs.YtjfgakillgcdcaaDoor
open Go.Ax
/-! ## exchequer/value.Rows -/
def vrows_0_sg : Sig := ⟨33, [(0, .sl .val false), (1, .sl .val false), (4, .int .i64), (11, .int .i64), (12, .int .i64)], [], [], 0, 0, 0, [], []⟩
abbrev vrows_0_V := List Val × List Val × Int × Int × Int
def vrows_0 {R : Type} (rec : vrows_0_V → Option R) (kx : Ex → vrows_0_V → Option R) (v : vrows_0_V) : Option R := match v with
 | (v, v1, v2, v3, v4) =>
  cond (decide (v4 < v3)) (
   chk (inb v4 v.length) (
    chk (inb v4 v1.length) (
     cond (!decide ((vcmp (at' .val v v4) (at' .val v1 v4)) = 0)) (
      kx .ret (v, v1, (vcmp (at' .val v v4) (at' .val v1 v4)), v3, v4)) (
      rec (v, v1, v2, v3, (wr .i64 (v4 + 1))))))) (
   kx (.exit 0) (v, v1, v2, v3, v4))
def vrows_px (R : Type) (k : Nat) : Px R := ⟨ttOf ttL, glT, callT [(54, callOr [.int .i64, .int .i64] [.int .i64] vsign_F)], callQT [(32, callOrQ [.sv .val, .sv .val] [.int .i64] vcmp_F)], loopT [(2, loopOr k vrows_0_sg (vrows_0))]⟩
theorem vrows_0_eq (R : Type) (k : Nat) : ∀ (fr : List Fr) (rec : vrows_0_V → Option R) (kx : Ex → vrows_0_V → Option R) (v : vrows_0_V), round (vrows_px R k) vrows_0_sg (lp Tryd.f33 0) fr rec kx v = vrows_0 rec kx v
  | fr, rec, kx, (v, v1, v2, v3, v4) => by kernel_rfl
def vrows_body (k : Nat) (x : HV [.sl .val false, .sl .val false]) : Option (HV [.int .i64]) := match x with
 | (a, b) =>
  iter (fun rec => vrows_0 rec (fun e v => match v with | (v5, v6, v7, _, _) => match e with
   | .ret =>
    some v7
   | .exit 0 =>
    some (vsign (v5.length : Int) (v6.length : Int))
   | _ => none)) k (a, b, 0, (min2 (a.length : Int) (b.length : Int)), 0)
theorem vrows_eq (k : Nat) : ∀ (x : HV [.sl .val false, .sl .val false]), runF (vrows_px _ k) Tryd.f33 [.sl .val false, .sl .val false] [.int .i64] x some = vrows_body k x
  | (a, b) => by kernel_rfl
theorem vrows_run (k : Nat) : FnOk Tryd.prog elT glT 33 [.sl .val false, .sl .val false] [.int .i64] (vrows_body k) := by
  refine fnOk_run Tryd.func33 rfl (by kernel_rfl) follows (by kernel_rfl) (n := 1) (by kernel_rfl) (px := vrows_px _ k) (fun cx hP hel hgl => ?_) (vrows_eq k)
  have hp0 : PxOk cx (vrows_px (HV [.int .i64]) k) := ⟨fun t => by rw [hP, hel]; exact tt_ok ttL_ok t, by rw [hgl]; rfl⟩
  have hc0 : CallOk cx (vrows_px (HV [.int .i64]) k) := callT_ok rfl (cfs_cons (cf_or (by rw [hP, hel, hgl]; exact vsign_ok) (by kernel_rfl)) cfs_nil)
  have hq0 : CallQOk cx (vrows_px (HV [.int .i64]) k) := callQT_ok rfl (cqfs_cons (cqf_or (by rw [hP, hel, hgl]; exact vcmp_ok) (by kernel_rfl)) cqfs_nil)
  have hlvrows_0 : LoopOk cx (vrows_px (HV [.int .i64]) k) (lp Tryd.f33 0) := loop_ok hp0 hc0 hq0 (by rw [hP]; exact follows) (k := k) (s := vrows_0_sg) (step := vrows_0) (fun _ _ => by kernel_rfl) (by kernel_rfl) (vrows_0_eq _ k) (loops_in (n := 0) (by kernel_rfl) all0)
  exact ⟨hp0, hc0, hq0, (allS all0 hlvrows_0)⟩
abbrev vrows (a b : List Val) : Int := lexL vcmp a b
def vrows_F : FT [.sl .val false, .sl .val false] [.int .i64] := fun x => some (vrows x.1 x.2)
theorem vrows_loop {R : Type} {kx : Ex → vrows_0_V → Option R} {a b : List Val} {c : Int → Option R} {n : Nat} (hn : n = min a.length b.length) (hln : ln n) (h1 : ∀ q j, kx .ret (a, b, q, (n : Int), j) = c q) (h2 : ∀ q j, kx (.exit 0) (a, b, q, (n : Int), j) = c (vsign (a.length : Int) (b.length : Int))) : ∀ (k i : Nat) q, i ≤ n → n - i < k → iter (fun rec => vrows_0 rec kx) k (a, b, q, (n : Int), (i : Int)) = c (lexL vcmp (a.drop i) (b.drop i))
  | 0, i, _, _, h => absurd h (Nat.not_lt_zero _)
  | k + 1, i, q, hi, h => by
    rw [iter_s]
    by_cases hl : i < n
    · have la : i < a.length := by omega
      have lb : i < b.length := by omega
      have ih := vrows_loop hn hln h1 h2 k (i + 1) q (by omega) (by omega)
      simp only [vrows_0, wr_succ hl hln, at_nat (c := .val) la, at_nat (c := .val) lb, inb_t la, inb_t lb, chk, cond_t, ih, h1, h2, drop_cons la, drop_cons lb, lexL, then2]
      rw [decide_eq_true (show (i : Int) < (n : Int) by omega)]
      by_cases h0 : vcmp a[i] b[i] = 0
      · rw [decide_eq_true h0, if_pos h0]; rfl
      · rw [decide_eq_false h0, if_neg h0]; rfl
    · simp only [vrows_0, h2]
      rw [decide_eq_false (show ¬ (i : Int) < (n : Int) by omega)]
      have e : vsign (a.length : Int) (b.length : Int) = lexL vcmp (a.drop i) (b.drop i) := by
        simp only [vsign, Bool.cond_decide]
        by_cases h3 : a.length < b.length
        · rw [if_pos (by omega), List.drop_eq_nil_of_le (show a.length ≤ i by omega), drop_cons (show i < b.length by omega)]
          rfl
        · by_cases h4 : b.length < a.length
          · rw [if_neg (by omega), if_pos (by omega), List.drop_eq_nil_of_le (show b.length ≤ i by omega), drop_cons (show i < a.length by omega)]
            rfl
          · rw [if_neg (by omega), if_neg (by omega), List.drop_eq_nil_of_le (show a.length ≤ i by omega), List.drop_eq_nil_of_le (show b.length ≤ i by omega)]
            rfl
      rw [e]
      rfl
theorem min2_nat (p q : Nat) : min2 (p : Int) (q : Int) = ((min p q : Nat) : Int) := by
  simp only [min2]
  split <;> omega
theorem vrows_ok : FnOk Tryd.prog elT glT 33 [.sl .val false, .sl .val false] [.int .i64] vrows_F := .fin 0 vrows_run fun (a, b) r hb hx => ⟨min a.length b.length + 1, by
  have l1 : ln a.length := hb.1.1
  simp only [vrows_F, Option.some.injEq] at hx
  subst hx
  simp only [vrows_body, min2_nat]
  exact vrows_loop (c := fun q => some q) rfl (Nat.le_trans (Nat.min_le_left _ _) l1) (fun _ _ => rfl) (fun _ _ => rfl) (min a.length b.length + 1) 0 0 (Nat.zero_le _) (by omega)⟩
/-! ## exchequer/exchequerref02.Rows -/
def rrows_0_sg : Sig := ⟨59, [(0, .sl .val false), (1, .sl .val false), (5, .int .i64)], [], [], 0, 0, 0, [], []⟩
abbrev rrows_0_V := List Val × List Val × Int
def rrows_0 {R : Type} (rec : rrows_0_V → Option R) (kx : Ex → rrows_0_V → Option R) (v : rrows_0_V) : Option R := match v with
 | (v, v1, v2) =>
  let j := fun (p : Bool) =>
   cond (p) (
    chk (inb v2 v.length) (
     chk (inb v2 v1.length) (
      cond (decide ((at' .val v v2) = (at' .val v1 v2))) (
       rec (v, v1, (wr .i64 (v2 + 1)))) (
       kx (.exit 0) (v, v1, v2))))) (
    kx (.exit 0) (v, v1, v2))
  cond (decide (v2 < (v.length : Int))) (
   j (decide (v2 < (v1.length : Int)))) (
   j false)
def rrows_px (R : Type) (k : Nat) : Px R := ⟨ttOf ttL, glT, callT [], callQT [(34, callOrQ [.sv .val, .sv .val] [.int .i64] rcmp_F)], loopT [(2, loopOr k rrows_0_sg (rrows_0))]⟩
theorem rrows_0_eq (R : Type) (k : Nat) : ∀ (fr : List Fr) (rec : rrows_0_V → Option R) (kx : Ex → rrows_0_V → Option R) (v : rrows_0_V), round (rrows_px R k) rrows_0_sg (lp Tryd.f35 0) fr rec kx v = rrows_0 rec kx v
  | fr, rec, kx, (v, v1, v2) => by kernel_rfl
def rrows_body (k : Nat) (x : HV [.sl .val false, .sl .val false]) : Option (HV [.int .i64]) := match x with
 | (a, b) =>
  iter (fun rec => rrows_0 rec (fun e v => match v with | (v3, v4, v5) => match e with
   | .exit 0 =>
    let j1 := fun (p4 : Bool) =>
     cond (p4) (
      chk (inb v5 v3.length) (
       chk (inb v5 v4.length) (
        some (rcmp (at' .val v3 v5) (at' .val v4 v5))))) (
      cond (decide (v5 < (v4.length : Int))) (
       some (-1)) (
       cond (decide (v5 < (v3.length : Int))) (
        some 1) (
        some 0)))
    cond (decide (v5 < (v3.length : Int))) (
     j1 (decide (v5 < (v4.length : Int)))) (
     j1 false)
   | _ => none)) k (a, b, 0)
theorem rrows_eq (k : Nat) : ∀ (x : HV [.sl .val false, .sl .val false]), runF (rrows_px _ k) Tryd.f35 [.sl .val false, .sl .val false] [.int .i64] x some = rrows_body k x
  | (a, b) => by kernel_rfl
theorem rrows_run (k : Nat) : FnOk Tryd.prog elT glT 35 [.sl .val false, .sl .val false] [.int .i64] (rrows_body k) := by
  refine fnOk_run Tryd.func35 rfl (by kernel_rfl) follows (by kernel_rfl) (n := 1) (by kernel_rfl) (px := rrows_px _ k) (fun cx hP hel hgl => ?_) (rrows_eq k)
  have hp0 : PxOk cx (rrows_px (HV [.int .i64]) k) := ⟨fun t => by rw [hP, hel]; exact tt_ok ttL_ok t, by rw [hgl]; rfl⟩
  have hc0 : CallOk cx (rrows_px (HV [.int .i64]) k) := callT_ok rfl cfs_nil
  have hq0 : CallQOk cx (rrows_px (HV [.int .i64]) k) := callQT_ok rfl (cqfs_cons (cqf_or (by rw [hP, hel, hgl]; exact rcmp_ok) (by kernel_rfl)) cqfs_nil)
  have hlrrows_0 : LoopOk cx (rrows_px (HV [.int .i64]) k) (lp Tryd.f35 0) := loop_ok hp0 hc0 hq0 (by rw [hP]; exact follows) (k := k) (s := rrows_0_sg) (step := rrows_0) (fun _ _ => by kernel_rfl) (by kernel_rfl) (rrows_0_eq _ k) (loops_in (n := 0) (by kernel_rfl) all0)
  exact ⟨hp0, hc0, hq0, (allS all0 hlrrows_0)⟩
abbrev rrows (a b : List Val) : Int := lexL vcmp a b
def rrows_F : FT [.sl .val false, .sl .val false] [.int .i64] := fun x => some (rrows x.1 x.2)
theorem rrows_loop {R : Type} {kx : Ex → rrows_0_V → Option R} {a b : List Val} {c : Int → Option R} (hln : ln a.length) (h2 : ∀ i : Nat, (∀ (h1 : i < a.length) (h2 : i < b.length), ¬ a[i] = b[i]) → kx (.exit 0) (a, b, (i : Int)) = c (lexL vcmp (a.drop i) (b.drop i))) : ∀ (k i : Nat), i ≤ a.length → a.length - i < k → iter (fun rec => rrows_0 rec kx) k (a, b, (i : Int)) = c (lexL vcmp (a.drop i) (b.drop i))
  | 0, i, _, h => absurd h (Nat.not_lt_zero _)
  | k + 1, i, hi, h => by
    rw [iter_s]
    simp only [rrows_0]
    by_cases la : i < a.length
    · rw [decide_eq_true (show (i : Int) < (a.length : Int) by omega)]
      by_cases lb : i < b.length
      · rw [decide_eq_true (show (i : Int) < (b.length : Int) by omega)]
        have ih := rrows_loop hln h2 k (i + 1) (by omega) (by omega)
        simp only [cond_t, inb_t la, inb_t lb, chk, at_nat (c := .val) la, at_nat (c := .val) lb, wr_succ la hln, ih]
        by_cases he : a[i] = b[i]
        · rw [decide_eq_true he, drop_cons la, drop_cons lb]
          simp only [lexL, then2]
          rw [if_pos ((vcmp_lin.eq _ _).2 he)]
          rfl
        · rw [decide_eq_false he]
          exact h2 i fun _ _ => he
      · rw [decide_eq_false (show ¬ (i : Int) < (b.length : Int) by omega)]
        exact h2 i fun _ q => absurd q lb
    · rw [decide_eq_false (show ¬ (i : Int) < (a.length : Int) by omega)]
      exact h2 i fun q _ => absurd q la
theorem rrows_ok : FnOk Tryd.prog elT glT 35 [.sl .val false, .sl .val false] [.int .i64] rrows_F := .fin 0 rrows_run fun (a, b) r hb hx => ⟨a.length + 1, by
  have l1 : ln a.length := hb.1.1
  simp only [rrows_F, Option.some.injEq] at hx
  subst hx
  simp only [rrows_body]
  refine rrows_loop (c := fun q => some q) l1 (fun i hne => ?_) (a.length + 1) 0 (Nat.zero_le _) (by omega)
  by_cases la : i < a.length
  · by_cases lb : i < b.length
    · have he : ¬ vcmp a[i] b[i] = 0 := fun e => hne la lb ((vcmp_lin.eq _ _).1 e)
      simp only [inb_t la, inb_t lb, chk, cond_t, at_nat (c := .val) la, at_nat (c := .val) lb, rcmp_vcmp]
      rw [decide_eq_true (show (i : Int) < (a.length : Int) by omega), decide_eq_true (show (i : Int) < (b.length : Int) by omega), drop_cons la, drop_cons lb]
      simp only [lexL, then2]
      rw [if_neg he]
      rfl
    · rw [decide_eq_true (show (i : Int) < (a.length : Int) by omega), decide_eq_false (show ¬ (i : Int) < (b.length : Int) by omega), drop_cons la, List.drop_eq_nil_of_le (show b.length ≤ i by omega)]
      rfl
  · rw [decide_eq_false (show ¬ (i : Int) < (a.length : Int) by omega), List.drop_eq_nil_of_le (show a.length ≤ i by omega)]
    by_cases lb : i < b.length
    · rw [decide_eq_true (show (i : Int) < (b.length : Int) by omega), drop_cons lb]
      rfl
    · rw [decide_eq_false (show ¬ (i : Int) < (b.length : Int) by omega), List.drop_eq_nil_of_le (show b.length ≤ i by omega)]
      rfl⟩
theorem wr_opp {z : Int} (h : z = -1 ∨ z = 0 ∨ z = 1) : wr .i64 (0 - z) = -z := by
  rw [wr_id (by simp only [inI]; omega)]
  omega
end Go.Proofs.YtjfgakillgcdcaaDoor
