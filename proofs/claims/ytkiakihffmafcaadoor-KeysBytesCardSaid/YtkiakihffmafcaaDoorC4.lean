/- Texts of the proof, one behind the other: Tv, Ka, No, Kb, Kc, Kd, Ke, Kf, Kg, Kh, Ki, Kj. -/
import Derived.Test.YtkiakihffmafcaaDoorC3
import Derived.Test.YtkiakihffmafcaaDoorProg
import Derived.KernelRfl
import Derived.Lib.Bytealg
import Derived.Lib.Walk
import Derived.Lib.BytesEntry
import Derived.Laws.Externs
import Derived.Shelf.Bytes.SlClone
/- What the machine is told: the seat's types, package-level variables. -/
namespace Go.Proofs.YtkiakihffmafcaaDoor
open Go.Ax
/-- the types -/
def ttL : List (Nat × Ax.Ty) := [
  (3, .int .i64),
  (4, .bool),
  (5, .int .u8),
  (9, .str),
  (21, .int .i32),
  (22, .sl .val),
  (23, .sl .byte),
  (26, .int .i64),
  (38, .int .u64),
  (46, .st (some .val) [(0, 3), (1, 3), (2, 9)] [.int .i64 0, .int .i64 0, .str []]),
  (48, .int .u64),
  (69, .int .u32),
  (72, .arr 256 .byte),
  (74, .st none [(0, 5), (1, 5)] [.int .u8 0, .int .u8 0])]
def elT : Ck → TypeId
  | .byte => 5
  | .int => 3
  | .u64 => 48
  | .str => 9
  | .bool => 4
  | .val => 46
  | .vals => 22
  | .bytes => 23
  | _ => 0
theorem ttL_ok : (ttL.all fun p => tyOk Tryd.prog elT (ttOf ttL) p.1) = true := by kernel_rfl
def glT : Nat → Option Gv := tbl [(0, .num .i64)]
theorem follows : Tryd.prog.follows .mixedOrders = true := by kernel_rfl
end Go.Proofs.YtkiakihffmafcaaDoor

/- Values: may one be, how do two stand: the program's and the document's. -/
namespace Go.Proofs.YtkiakihffmafcaaDoor
open Go.Ax
def scmp (a b : Str) : Int := Lib.compareBytes a b
theorem scmp_range : ∀ (a b : Str), scmp a b = -1 ∨ scmp a b = 0 ∨ scmp a b = 1
  | [], [] => by simp [scmp, Lib.compareBytes]
  | [], _ :: _ => by simp [scmp, Lib.compareBytes]
  | _ :: _, [] => by simp [scmp, Lib.compareBytes]
  | a :: l, b :: m => by
    have ih := scmp_range l m
    simp only [scmp, Lib.compareBytes] at ih ⊢
    split
    · simp
    · split
      · simp
      · exact ih
def vsign (a b : Int) : Int := cond (decide (a < b)) (-1) (cond (decide (b < a)) 1 0)
abbrev scompare (a b : Str) : Int := scmp a b
def vcmp (a : Val) (b : Val) : Int :=
  cond (!decide ((vsign a.kind b.kind) = 0)) (
   (vsign a.kind b.kind)) (
   cond (!decide ((vsign a.n b.n) = 0)) (
    (vsign a.n b.n)) (
    (scompare a.s b.s)))
/-! ## exchequer/value.visible -/
def visible_0_sg : Sig := ⟨20, [(0, .str), (2, .bool), (5, .int .i64), (6, .int .i64)], [], [], 0, 0, 0, [], []⟩
abbrev visible_0_V := Str × Bool × Int × Int
def visible_0 {R : Type} (rec : visible_0_V → Option R) (kx : Ex → visible_0_V → Option R) (v : visible_0_V) : Option R := match v with
 | (v, v1, v2, v3) =>
  cond (decide (v3 < v2)) (
   chk (inb v3 v.length) (
    cond (decide ((bat v v3) < 32)) (
     kx .ret (v, false, v2, v3)) (
     chk (inb v3 v.length) (
      cond (decide (126 < (bat v v3))) (
       kx .ret (v, false, v2, v3)) (
       rec (v, v1, v2, (wr .i64 (v3 + 1)))))))) (
   kx (.exit 0) (v, v1, v2, v3))
def visible_px (R : Type) (k : Nat) : Px R := ⟨ttOf ttL, glT, callT [], callQT [], loopT [(2, loopOr k visible_0_sg (visible_0))]⟩
theorem visible_0_eq (R : Type) (k : Nat) : ∀ (fr : List Fr) (rec : visible_0_V → Option R) (kx : Ex → visible_0_V → Option R) (v : visible_0_V), round (visible_px R k) visible_0_sg (lp Tryd.f42 0) fr rec kx v = visible_0 rec kx v
  | fr, rec, kx, (v, v1, v2, v3) => by kernel_rfl
def visible_body (k : Nat) (x : HV [.str]) : Option (HV [.bool]) := match x with
 | s =>
  iter (fun rec => visible_0 rec (fun e v => match v with | (_, v5, _, _) => match e with
   | .ret =>
    some v5
   | .exit 0 =>
    some true
   | _ => none)) k (s, false, (s.length : Int), 0)
theorem visible_eq (k : Nat) : ∀ (x : HV [.str]), runF (visible_px _ k) Tryd.f42 [.str] [.bool] x some = visible_body k x
  | s => by kernel_rfl
theorem visible_run (k : Nat) : FnOk Tryd.prog elT glT 42 [.str] [.bool] (visible_body k) := by
  refine fnOk_run Tryd.func42 rfl (by kernel_rfl) follows (by kernel_rfl) (n := 1) (by kernel_rfl) (px := visible_px _ k) (fun cx hP hel hgl => ?_) (visible_eq k)
  have hp0 : PxOk cx (visible_px (HV [.bool]) k) := ⟨fun t => by rw [hP, hel]; exact tt_ok ttL_ok t, by rw [hgl]; rfl⟩
  have hc0 : CallOk cx (visible_px (HV [.bool]) k) := callT_ok rfl cfs_nil
  have hq0 : CallQOk cx (visible_px (HV [.bool]) k) := callQT_ok rfl cqfs_nil
  have hlvisible_0 : LoopOk cx (visible_px (HV [.bool]) k) (lp Tryd.f42 0) := loop_ok hp0 hc0 hq0 (by rw [hP]; exact follows) (k := k) (s := visible_0_sg) (step := visible_0) (fun _ _ => by kernel_rfl) (by kernel_rfl) (visible_0_eq _ k) (loops_in (n := 0) (by kernel_rfl) all0)
  exact ⟨hp0, hc0, hq0, (allS all0 hlvisible_0)⟩
def vis (b : UInt8) : Bool := decide (32 ≤ b.toNat) && decide (b.toNat ≤ 126)
def visible (s : Str) : Bool := s.all vis
def visible_F : FT [.str] [.bool] := fun x => some (visible x)
theorem visible_loop {R : Type} {kx : Ex → visible_0_V → Option R} {s : Str} {a b : Option R} (hs : ln s.length) (h1 : ∀ r j, kx .ret (s, false, r, j) = a) (h2 : ∀ q r j, kx (.exit 0) (s, q, r, j) = b) : ∀ (k i : Nat) q, i ≤ s.length → s.length - i < k → iter (fun rec => visible_0 rec kx) k (s, q, (s.length : Int), (i : Int)) = cond ((s.drop i).all vis) b a
  | 0, i, q, _, h => by omega
  | k + 1, i, q, hi, h => by
    rw [iter_s]
    by_cases hl : i < s.length
    · have ih := visible_loop hs h1 h2 k (i + 1) q (by omega) (by omega)
      simp only [visible_0, wr_succ hl hs, ih, h1, drop_cons hl, bat_nat hl, inb_t hl, List.all_cons, chk, cond_t, Bool.cond_decide]
      rw [if_pos (by omega)]
      simp only [vis]
      split
      · rw [decide_eq_false (by omega)]; rfl
      · split
        · rw [decide_eq_true (by omega), decide_eq_false (by omega)]; rfl
        · rw [decide_eq_true (by omega), decide_eq_true (by omega)]; rfl
    · simp only [visible_0, h2, Bool.cond_decide]
      rw [if_neg (by omega), List.drop_eq_nil_of_le (by omega)]
      rfl
theorem visible_ok : FnOk Tryd.prog elT glT 42 [.str] [.bool] visible_F := .fin 0 visible_run fun x r hb hx => ⟨x.length + 1, by
  simp only [visible_F, Option.some.injEq] at hx
  have := visible_loop (a := some false) (b := some true) hb (kx := fun e v => match v with | (_, v5, _, _) => match e with | .ret => some v5 | .exit 0 => some true | _ => none) (fun _ _ => rfl) (fun _ _ _ => rfl) (x.length + 1) 0 false (Nat.zero_le _) (by omega)
  refine Eq.trans this ?_
  rw [← hx, List.drop_zero, visible]
  cases x.all vis <;> rfl⟩
/-! ## exchequer/value.right -/
def vright_px (R : Type) : Px R := ⟨ttOf ttL, glT, callT [(42, callOr [.str] [.bool] visible_F)], callQT [], loopT []⟩
def vright_body (x : HV [.sv .val]) : Option (HV [.bool]) := match x with
 | v =>
  cond (decide (v.kind = 1)) (
   cond (decide (v.n = 0)) (
    some (decide (v.s = []))) (
    some false)) (
   cond (decide (v.kind = 2)) (
    cond (decide (v.n = 0)) (
     some (decide (v.s = []))) (
     cond (decide (v.n = 1)) (
      some (decide (v.s = []))) (
      some false))) (
    cond (decide (v.kind = 3)) (
     some (decide (v.s = []))) (
     cond (decide (v.kind = 4)) (
      cond (decide (v.n = 0)) (
       cond (decide ((v.s.length : Int) ≤ 1000)) (
        some (visible v.s)) (
        some false)) (
       some false)) (
      cond (decide (v.kind = 5)) (
       cond (decide (v.n = 0)) (
        some (decide ((v.s.length : Int) ≤ 1000))) (
        some false)) (
       some false)))))
theorem vright_eq : ∀ (x : HV [.sv .val]), runF (vright_px _) Tryd.f36 [.sv .val] [.bool] x some = vright_body x
  | v => by kernel_rfl
theorem vright_run : FnOk Tryd.prog elT glT 36 [.sv .val] [.bool] (vright_body) := by
  refine fnOk_run Tryd.func36 rfl (by kernel_rfl) follows (by kernel_rfl) (n := 0) (by kernel_rfl) (px := vright_px _) (fun cx hP hel hgl => ?_) (vright_eq)
  have hp0 : PxOk cx (vright_px (HV [.bool])) := ⟨fun t => by rw [hP, hel]; exact tt_ok ttL_ok t, by rw [hgl]; rfl⟩
  have hc0 : CallOk cx (vright_px (HV [.bool])) := callT_ok rfl (cfs_cons (cf_or (by rw [hP, hel, hgl]; exact visible_ok) (by kernel_rfl)) cfs_nil)
  have hq0 : CallQOk cx (vright_px (HV [.bool])) := callQT_ok rfl cqfs_nil
  exact ⟨hp0, hc0, hq0, all0⟩
def vright (v : Val) : Bool :=
  cond (decide (v.kind = 1)) (
   cond (decide (v.n = 0)) (
    (decide (v.s = []))) (
    false)) (
   cond (decide (v.kind = 2)) (
    cond (decide (v.n = 0)) (
     (decide (v.s = []))) (
     cond (decide (v.n = 1)) (
      (decide (v.s = []))) (
      false))) (
    cond (decide (v.kind = 3)) (
     (decide (v.s = []))) (
     cond (decide (v.kind = 4)) (
      cond (decide (v.n = 0)) (
       cond (decide ((v.s.length : Int) ≤ 1000)) (
        (visible v.s)) (
        false)) (
       false)) (
      cond (decide (v.kind = 5)) (
       cond (decide (v.n = 0)) (
        (decide ((v.s.length : Int) ≤ 1000))) (
        false)) (
       false)))))
theorem vright_tot (x : HV [.sv .val]) : vright_body x = some (vright x) := by
  first
    | exact rfl
    | simp only [vright_body, vright, cond_some]
def vright_F : FT [.sv .val] [.bool] := fun x => some (vright x)
theorem vright_ok : FnOk Tryd.prog elT glT 36 [.sv .val] [.bool] vright_F := .fin0 vright_run fun x _ _ hx => (vright_tot x).trans hx
/-! ## exchequer/value.Check -/
def vcheck_px (R : Type) : Px R := ⟨ttOf ttL, glT, callT [(36, callOr [.sv .val] [.bool] vright_F)], callQT [], loopT []⟩
def vcheck_body (x : HV [.sv .val]) : Option (HV [.int .i64]) := match x with
 | v =>
  cond (!(vright v)) (
   some 2) (
   some 0)
theorem vcheck_eq : ∀ (x : HV [.sv .val]), runF (vcheck_px _) Tryd.f25 [.sv .val] [.int .i64] x some = vcheck_body x
  | v => by kernel_rfl
theorem vcheck_run : FnOk Tryd.prog elT glT 25 [.sv .val] [.int .i64] (vcheck_body) := by
  refine fnOk_run Tryd.func25 rfl (by kernel_rfl) follows (by kernel_rfl) (n := 0) (by kernel_rfl) (px := vcheck_px _) (fun cx hP hel hgl => ?_) (vcheck_eq)
  have hp0 : PxOk cx (vcheck_px (HV [.int .i64])) := ⟨fun t => by rw [hP, hel]; exact tt_ok ttL_ok t, by rw [hgl]; rfl⟩
  have hc0 : CallOk cx (vcheck_px (HV [.int .i64])) := callT_ok rfl (cfs_cons (cf_or (by rw [hP, hel, hgl]; exact vright_ok) (by kernel_rfl)) cfs_nil)
  have hq0 : CallQOk cx (vcheck_px (HV [.int .i64])) := callQT_ok rfl cqfs_nil
  exact ⟨hp0, hc0, hq0, all0⟩
def vcheck (v : Val) : Int :=
  cond (!(vright v)) (
   2) (
   0)
theorem vcheck_tot (x : HV [.sv .val]) : vcheck_body x = some (vcheck x) := by
  first
    | exact rfl
    | simp only [vcheck_body, vcheck, cond_some]
def vcheck_F : FT [.sv .val] [.int .i64] := fun x => some (vcheck x)
theorem vcheck_ok : FnOk Tryd.prog elT glT 25 [.sv .val] [.int .i64] vcheck_F := .fin0 vcheck_run fun x _ _ hx => (vcheck_tot x).trans hx
theorem vcheck_iff {v : Val} : vcheck v = 0 ↔ vright v = true := by
  simp only [vcheck]
  cases vright v <;> simp
/-! ## exchequer/exchequerref02.Cmp -/
def rcmp_px (R : Type) : Px R := ⟨ttOf ttL, glT, callT [], callQT [], loopT []⟩
def rcmp_body (x : HV [.sv .val, .sv .val]) : Option (HV [.int .i64]) := match x with
 | (a, b) =>
  let j := fun (p1 : Bool) =>
   cond (p1) (
    some (-1)) (
    cond (decide (a.kind = b.kind)) (
     cond (decide (a.n = b.n)) (
      cond (Op.bytesLess a.s b.s) (
       some (-1)) (
       cond (decide (a = b)) (
        some 0) (
        some 1))) (
      cond (decide (a = b)) (
       some 0) (
       some 1))) (
     cond (decide (a = b)) (
      some 0) (
      some 1)))
  cond (decide (a.kind < b.kind)) (
   j true) (
   cond (decide (a.kind = b.kind)) (
    j (decide (a.n < b.n))) (
    j false))
theorem rcmp_eq : ∀ (x : HV [.sv .val, .sv .val]), runF (rcmp_px _) Tryd.f32 [.sv .val, .sv .val] [.int .i64] x some = rcmp_body x
  | (a, b) => by kernel_rfl
theorem rcmp_run : FnOk Tryd.prog elT glT 32 [.sv .val, .sv .val] [.int .i64] (rcmp_body) := by
  refine fnOk_run Tryd.func32 rfl (by kernel_rfl) follows (by kernel_rfl) (n := 0) (by kernel_rfl) (px := rcmp_px _) (fun cx hP hel hgl => ?_) (rcmp_eq)
  have hp0 : PxOk cx (rcmp_px (HV [.int .i64])) := ⟨fun t => by rw [hP, hel]; exact tt_ok ttL_ok t, by rw [hgl]; rfl⟩
  have hc0 : CallOk cx (rcmp_px (HV [.int .i64])) := callT_ok rfl cfs_nil
  have hq0 : CallQOk cx (rcmp_px (HV [.int .i64])) := callQT_ok rfl cqfs_nil
  exact ⟨hp0, hc0, hq0, all0⟩
def rcmp (a : Val) (b : Val) : Int :=
  let j := fun (p1 : Bool) =>
   cond (p1) (
    (-1)) (
    cond (decide (a.kind = b.kind)) (
     cond (decide (a.n = b.n)) (
      cond (Op.bytesLess a.s b.s) (
       (-1)) (
       cond (decide (a = b)) (
        0) (
        1))) (
      cond (decide (a = b)) (
       0) (
       1))) (
     cond (decide (a = b)) (
      0) (
      1)))
  cond (decide (a.kind < b.kind)) (
   j true) (
   cond (decide (a.kind = b.kind)) (
    j (decide (a.n < b.n))) (
    j false))
theorem rcmp_tot (x : HV [.sv .val, .sv .val]) : rcmp_body x = some (rcmp x.1 x.2) := by
  first
    | exact rfl
    | simp only [rcmp_body, rcmp, cond_some]
def rcmp_F : FT [.sv .val, .sv .val] [.int .i64] := fun x => some (rcmp x.1 x.2)
theorem rcmp_ok : FnOk Tryd.prog elT glT 32 [.sv .val, .sv .val] [.int .i64] rcmp_F := .fin0 rcmp_run fun x _ _ hx => (rcmp_tot x).trans hx
theorem scmp_less : ∀ a b : Str, Op.bytesLess a b = decide (scmp a b = -1)
  | [], [] => rfl
  | [], _ :: _ => rfl
  | _ :: _, [] => rfl
  | a :: x, b :: y => by
    have ih := scmp_less x y
    simp only [Op.bytesLess, scmp, Lib.compareBytes] at ih ⊢
    by_cases h1 : a < b
    · simp [h1]
    · by_cases h2 : b < a
      · have h3 : ¬ a = b := fun h => by subst h; exact h1 h2
        simp [h1, h2, h3]
      · have h3 : a = b := UInt8.le_antisymm (UInt8.not_lt.1 h2) (UInt8.not_lt.1 h1)
        simp [h3, ih]
        exact decide_eq_decide.2 Iff.rfl
theorem scmp_zero : ∀ a b : Str, scmp a b = 0 ↔ a = b
  | [], [] => by simp [scmp, Lib.compareBytes]
  | [], _ :: _ => by simp [scmp, Lib.compareBytes]
  | _ :: _, [] => by simp [scmp, Lib.compareBytes]
  | a :: x, b :: y => by
    have ih := scmp_zero x y
    simp only [scmp, Lib.compareBytes] at ih ⊢
    by_cases h1 : a < b
    · have h3 : ¬ a = b := fun h => by subst h; exact UInt8.lt_irrefl _ h1
      simp [h1, h3]
    · by_cases h2 : b < a
      · have h3 : ¬ a = b := fun h => by subst h; exact h1 h2
        simp [h1, h2, h3]
      · have h3 : a = b := UInt8.le_antisymm (UInt8.not_lt.1 h2) (UInt8.not_lt.1 h1)
        simp [h3, ih]
theorem rcmp_vcmp : ∀ a b : Val, rcmp a b = vcmp a b
  | ⟨k, n, s⟩, ⟨k', n', s'⟩ => by
    simp only [rcmp, vcmp, vsign, scompare, scmp_less]
    by_cases h1 : k < k'
    · simp [h1]
    · by_cases h2 : k' < k
      · have h3 : ¬ k = k' := by omega
        simp [h1, h2, h3]
      · obtain rfl : k = k' := by omega
        by_cases h4 : n < n'
        · simp [h4]
        · by_cases h5 : n' < n
          · have h6 : ¬ n = n' := by omega
            simp [h4, h5, h6]
          · obtain rfl : n = n' := by omega
            have h7 := scmp_zero s s'
            rcases scmp_range s s' with h | h | h
            · simp [h]
            · have h8 : s = s' := h7.1 h
              subst h8
              simp [h]
            · have h8 : ¬ s = s' := fun e => by rw [h7.2 e] at h; cases h
              simp [h, h8]
/-! ## exchequer/exchequerref02.Check -/
def rcheck_0_sg : Sig := ⟨88, [(2, .int .i64), (5, .int .i64)], [(1, .ptr 0 0)], [(0, .one (.sv .val))], 1, 0, 0, [], []⟩
abbrev rcheck_0_V := Int × Int × Val
def rcheck_0 {R : Type} (rec : rcheck_0_V → Option R) (kx : Ex → rcheck_0_V → Option R) (v : rcheck_0_V) : Option R := match v with
 | (v1, v2, w) =>
  cond (decide (v2 < (w.s.length : Int))) (
   cond (decide (w.kind = 4)) (
    chk (inb v2 w.s.length) (
     cond (decide ((bat w.s v2) < 32)) (
      kx .ret (2, v2, w)) (
      chk (inb v2 w.s.length) (
       cond (decide (127 ≤ (bat w.s v2))) (
        kx .ret (2, v2, w)) (
        rec (v1, (wr .i64 (v2 + 1)), w)))))) (
    kx (.exit 0) (v1, v2, w))) (
   kx (.exit 0) (v1, v2, w))
def rcheck_px (R : Type) (k : Nat) : Px R := ⟨ttOf ttL, glT, callT [], callQT [], loopT [(6, loopOr k rcheck_0_sg (rcheck_0))]⟩
theorem rcheck_0_eq (R : Type) (k : Nat) : ∀ (fr : List Fr) (rec : rcheck_0_V → Option R) (kx : Ex → rcheck_0_V → Option R) (v : rcheck_0_V), round (rcheck_px R k) rcheck_0_sg (lp Tryd.f27 0) fr rec kx v = rcheck_0 rec kx v
  | fr, rec, kx, (v1, v2, w) => by kernel_rfl
def rcheck_body (k : Nat) (x : HV [.sv .val]) : Option (HV [.int .i64]) := match x with
 | v =>
  let j4 := fun (p4 : Bool) =>
   let j3 := fun (p6 : Bool) =>
    let j2 := fun (_ : Unit) =>
     iter (fun rec => rcheck_0 rec (fun e v => match v with | (v3, _, _) => match e with
      | .ret =>
       some v3
      | .exit 0 =>
       some 0
      | _ => none)) k (0, 0, v)
    let j1 := fun (p7 : Bool) =>
     let j := fun (p9 : Bool) =>
      cond (p9) (
       some 2) (
       cond (!p6) (
        cond (!decide (v.s = [])) (
         some 2) (
         cond (decide (1000 < (v.s.length : Int))) (
          some 2) (
          j2 ()))) (
        cond (decide (1000 < (v.s.length : Int))) (
         some 2) (
         j2 ())))
     cond (p7) (
      j true) (
      cond (!p4) (
       j (!decide (v.n = 0))) (
       j false))
    cond (decide (v.kind < 1)) (
     j1 true) (
     j1 (decide (5 < v.kind)))
   cond (decide (v.kind = 4)) (
    j3 true) (
    j3 (decide (v.kind = 5)))
  cond (decide (v.kind = 2)) (
   cond (decide (v.n = 0)) (
    j4 true) (
    cond (decide (v.n = 1)) (
     j4 true) (
     j4 (decide (v.kind = 3))))) (
   j4 (decide (v.kind = 3)))
theorem rcheck_eq (k : Nat) : ∀ (x : HV [.sv .val]), runF (rcheck_px _ k) Tryd.f27 [.sv .val] [.int .i64] x some = rcheck_body k x
  | v => by kernel_rfl
theorem rcheck_run (k : Nat) : FnOk Tryd.prog elT glT 27 [.sv .val] [.int .i64] (rcheck_body k) := by
  refine fnOk_run Tryd.func27 rfl (by kernel_rfl) follows (by kernel_rfl) (n := 1) (by kernel_rfl) (px := rcheck_px _ k) (fun cx hP hel hgl => ?_) (rcheck_eq k)
  have hp0 : PxOk cx (rcheck_px (HV [.int .i64]) k) := ⟨fun t => by rw [hP, hel]; exact tt_ok ttL_ok t, by rw [hgl]; rfl⟩
  have hc0 : CallOk cx (rcheck_px (HV [.int .i64]) k) := callT_ok rfl cfs_nil
  have hq0 : CallQOk cx (rcheck_px (HV [.int .i64]) k) := callQT_ok rfl cqfs_nil
  have hlrcheck_0 : LoopOk cx (rcheck_px (HV [.int .i64]) k) (lp Tryd.f27 0) := loop_ok hp0 hc0 hq0 (by rw [hP]; exact follows) (k := k) (s := rcheck_0_sg) (step := rcheck_0) (fun _ _ => by kernel_rfl) (by kernel_rfl) (rcheck_0_eq _ k) (loops_in (n := 0) (by kernel_rfl) all0)
  exact ⟨hp0, hc0, hq0, (allS all0 hlrcheck_0)⟩
abbrev rcheck (v : Val) : Int := vcheck v
def rcheck_F : FT [.sv .val] [.int .i64] := fun x => some (rcheck x)
theorem rcheck_loop {R : Type} {kx : Ex → rcheck_0_V → Option R} {v : Val} {a b : Option R} (hn : ln v.s.length) (h4 : v.kind = 4) (h1 : ∀ j, kx .ret (2, j, v) = a) (h2 : ∀ q j, kx (.exit 0) (q, j, v) = b) : ∀ (k i : Nat) q, i ≤ v.s.length → v.s.length - i < k → iter (fun rec => rcheck_0 rec kx) k (q, (i : Int), v) = cond ((v.s.drop i).all vis) b a
  | 0, i, q, _, h => by omega
  | k + 1, i, q, hi, h => by
    rw [iter_s]
    by_cases hl : i < v.s.length
    · have ih := rcheck_loop hn h4 h1 h2 k (i + 1) q (by omega) (by omega)
      simp only [rcheck_0, wr_succ hl hn, ih, h1, drop_cons hl, bat_nat hl, inb_t hl, List.all_cons, chk, cond_t, Bool.cond_decide]
      rw [if_pos (by omega), if_pos h4]
      simp only [vis]
      split
      · rw [decide_eq_false (by omega)]; rfl
      · split
        · rw [decide_eq_true (by omega), decide_eq_false (by omega)]; rfl
        · rw [decide_eq_true (by omega), decide_eq_true (by omega)]; rfl
    · simp only [rcheck_0, h2, Bool.cond_decide]
      rw [if_neg (by omega), List.drop_eq_nil_of_le (by omega)]
      rfl
theorem rcheck_no {R : Type} {kx : Ex → rcheck_0_V → Option R} {v : Val} {b : Option R} (h4 : ¬ v.kind = 4) (h2 : kx (.exit 0) (0, 0, v) = b) (k : Nat) : iter (fun rec => rcheck_0 rec kx) (k + 1) (0, 0, v) = b := by
  rw [iter_s]
  simp only [rcheck_0, h2, Bool.cond_decide, if_neg h4]
  split <;> rfl
theorem rcheck_ok : FnOk Tryd.prog elT glT 27 [.sv .val] [.int .i64] rcheck_F := .fin 0 rcheck_run fun v r hb hx => ⟨v.s.length + 1, by
  simp only [rcheck_F, Option.some.injEq] at hx
  subst hx
  have e0 : ((0 : Nat) : Int) = 0 := rfl
  have hloop : iter (fun rec => rcheck_0 rec (fun e v => match v with | (v2, _, _) => match e with
      | .ret => some v2
      | .exit 0 => some 0
      | _ => none)) (v.s.length + 1) (0, 0, v) = cond (decide (v.kind = 4) && !visible v.s) (some (2 : Int)) (some 0) := by
    by_cases h4 : v.kind = 4
    · have := rcheck_loop (a := some (2 : Int)) (b := some 0) hb.2.2 h4 (kx := fun e v => match v with | (v2, _, _) => match e with
        | .ret => some v2
        | .exit 0 => some 0
        | _ => none) (fun _ => rfl) (fun _ _ => rfl) (v.s.length + 1) 0 0 (Nat.zero_le _) (by omega)
      rw [e0] at this
      rw [this, decide_eq_true h4, List.drop_zero, visible]
      cases v.s.all vis <;> rfl
    · rw [rcheck_no (b := some 0) h4 rfl, decide_eq_false h4]
      rfl
  simp only [rcheck_body] at hloop ⊢
  rw [hloop]
  have hlen : v.s = [] → ¬ (1000 < (v.s.length : Int)) := fun h => by rw [h]; simp
  have hle : decide ((v.s.length : Int) ≤ 1000) = !decide (1000 < (v.s.length : Int)) := by
    by_cases h : 1000 < (v.s.length : Int)
    · rw [decide_eq_true h, decide_eq_false (by omega)]; rfl
    · rw [decide_eq_false h, decide_eq_true (by omega)]; rfl
  have hs : decide (v.s = []) = true → decide (1000 < (v.s.length : Int)) = false := fun h => decide_eq_false (hlen (of_decide_eq_true h))
  simp only [vcheck, vright, hle]
  generalize decide (1000 < (v.s.length : Int)) = q at *
  generalize decide (v.s = []) = s at *
  generalize visible v.s = w at *
  by_cases hk : v.kind = 1
  · simp only [hk]; cases decide (v.n = 0) <;> cases s <;> simp_all
  by_cases hk2 : v.kind = 2
  · simp only [hk2]; cases decide (v.n = 0) <;> cases decide (v.n = 1) <;> cases s <;> simp_all
  by_cases hk3 : v.kind = 3
  · simp only [hk3]; cases decide (v.n = 0) <;> cases decide (v.n = 1) <;> cases s <;> simp_all
  by_cases hk4 : v.kind = 4
  · simp only [hk4]; cases decide (v.n = 0) <;> cases w <;> cases q <;> simp_all
  by_cases hk5 : v.kind = 5
  · simp only [hk5]; cases decide (v.n = 0) <;> cases q <;> simp_all
  rw [decide_eq_false hk, decide_eq_false hk2, decide_eq_false hk3, decide_eq_false hk4, decide_eq_false hk5]
  by_cases hl : v.kind < 1
  · rw [decide_eq_true hl]; rfl
  · rw [decide_eq_false hl, decide_eq_true (show 5 < v.kind by omega)]; rfl⟩
end Go.Proofs.YtkiakihffmafcaaDoor

/- Plain law: what stands one way round: numbers, texts, values, rows. -/
namespace Go.Proofs.YtkiakihffmafcaaDoor
open Go.Ax
structure LinC {α : Type} (c : α → α → Int) : Prop where
  rng : ∀ x y, c x y = -1 ∨ c x y = 0 ∨ c x y = 1
  eq : ∀ x y, c x y = 0 ↔ x = y
  anti : ∀ x y, c y x = -(c x y)
  tr : ∀ x y z, c x y ≤ 0 → c y z ≤ 0 → c x z ≤ 0
def then2 (p q : Int) : Int := if p = 0 then q else p
theorem then2_le {p q : Int} (h : then2 p q ≤ 0) : p ≤ 0 ∧ (p = 0 → q ≤ 0) := by
  simp only [then2] at h
  split at h <;> omega
/-- two ways of standing, the first one first -/
theorem then2_tr {α β : Type} {c : α → α → Int} {d : β → β → Int} (hc : LinC c) {x y z : α} {u v w : β} (hd : d u v ≤ 0 → d v w ≤ 0 → d u w ≤ 0) (h1 : then2 (c x y) (d u v) ≤ 0) (h2 : then2 (c y z) (d v w) ≤ 0) : then2 (c x z) (d u w) ≤ 0 := by
  obtain ⟨a1, a2⟩ := then2_le h1
  obtain ⟨b1, b2⟩ := then2_le h2
  have t := hc.tr x y z a1 b1
  simp only [then2]
  split
  · rename_i h0
    have e := (hc.eq x z).1 h0
    subst e
    have an := hc.anti x y
    have p0 : c x y = 0 := by omega
    have q0 : c y x = 0 := by omega
    exact hd (a2 p0) (b2 q0)
  · exact t
def lexL {α : Type} (c : α → α → Int) : List α → List α → Int
  | [], [] => 0
  | [], _ :: _ => -1
  | _ :: _, [] => 1
  | x :: a, y :: b => then2 (c x y) (lexL c a b)
theorem lexL_lin {α : Type} {c : α → α → Int} (hc : LinC c) : LinC (lexL c) := by
  refine ⟨?_, ?_, ?_, ?_⟩
  · intro x
    induction x with
    | nil => intro y; cases y <;> simp [lexL]
    | cons x a ih =>
      intro y
      cases y with
      | nil => simp [lexL]
      | cons y b =>
        simp only [lexL, then2]
        split
        · exact ih b
        · exact hc.rng x y
  · intro x
    induction x with
    | nil => intro y; cases y <;> simp [lexL]
    | cons x a ih =>
      intro y
      cases y with
      | nil => simp [lexL]
      | cons y b =>
        simp only [lexL, then2, List.cons.injEq]
        split
        · rename_i h
          rw [ih b]
          exact ⟨fun e => ⟨(hc.eq x y).1 h, e⟩, fun e => e.2⟩
        · rename_i h
          exact ⟨fun e => absurd e h, fun e => absurd ((hc.eq x y).2 e.1) h⟩
  · intro x
    induction x with
    | nil => intro y; cases y <;> simp [lexL]
    | cons x a ih =>
      intro y
      cases y with
      | nil => simp [lexL]
      | cons y b =>
        have h := hc.anti x y
        have hb := ih b
        simp only [lexL, then2]
        split <;> split <;> omega
  · intro x
    induction x with
    | nil => intro y z _ _; cases z <;> simp [lexL]
    | cons x a ih =>
      intro y z h1 h2
      cases y with
      | nil => simp [lexL] at h1
      | cons y b =>
        cases z with
        | nil => simp [lexL] at h2
        | cons z e =>
          simp only [lexL] at h1 h2 ⊢
          exact then2_tr hc (fun p q => ih b e p q) h1 h2
theorem sg_lin : LinC vsign := by
  have e : ∀ x y, vsign x y = if x < y then -1 else if y < x then 1 else 0 := fun x y => by
    simp only [vsign, Bool.cond_decide]
  refine ⟨fun x y => ?_, fun x y => ?_, fun x y => ?_, fun x y z h1 h2 => ?_⟩
  · rw [e]; split
    · simp
    · split <;> simp
  · rw [e]; split
    · simp; omega
    · split
      · simp; omega
      · simp; omega
  · rw [e, e]
    split <;> split <;> (try split) <;> omega
  · rw [e] at h1 h2 ⊢
    split at h1
    · split at h2
      · rw [if_pos (by omega)]; omega
      · split at h2
        · omega
        · rw [if_pos (by omega)]; omega
    · split at h1
      · omega
      · split at h2
        · rw [if_pos (by omega)]; omega
        · split at h2
          · omega
          · rw [if_neg (by omega), if_neg (by omega)]; omega
def bcmp (a b : UInt8) : Int := vsign (a.toNat : Int) (b.toNat : Int)
theorem bcmp_lin : LinC bcmp := by
  refine ⟨fun x y => sg_lin.rng _ _, fun x y => ?_, fun x y => sg_lin.anti _ _, fun x y z => sg_lin.tr _ _ _⟩
  simp only [bcmp]
  rw [sg_lin.eq]
  constructor
  · intro h
    exact UInt8.toNat_inj.1 (by omega)
  · intro h; rw [h]
theorem scmp_lex : ∀ a b : Str, scmp a b = lexL bcmp a b
  | [], [] => rfl
  | [], _ :: _ => rfl
  | _ :: _, [] => rfl
  | a :: l, b :: m => by
    have ih := scmp_lex l m
    simp only [scmp, Lib.compareBytes] at ih ⊢
    simp only [lexL, then2, bcmp, vsign, Bool.cond_decide, ← ih]
    by_cases h1 : a < b
    · have : (a.toNat : Int) < (b.toNat : Int) := by have := UInt8.lt_iff_toNat_lt.1 h1; omega
      simp [h1, this]
    · by_cases h2 : b < a
      · have h3 : ¬ (a.toNat : Int) < (b.toNat : Int) := by have := UInt8.lt_iff_toNat_lt.1 h2; omega
        have h4 : (b.toNat : Int) < (a.toNat : Int) := by have := UInt8.lt_iff_toNat_lt.1 h2; omega
        simp [h1, h2, h3, h4]
      · have h3 : a = b := UInt8.le_antisymm (UInt8.not_lt.1 h2) (UInt8.not_lt.1 h1)
        subst h3
        simp [h1]
theorem scmp_lin : LinC scmp := by
  have e : (scmp : Str → Str → Int) = lexL bcmp := by
    funext a b
    exact scmp_lex a b
  rw [e]
  exact lexL_lin bcmp_lin
theorem vcmp_then (a b : Val) : vcmp a b = then2 (vsign a.kind b.kind) (then2 (vsign a.n b.n) (scmp a.s b.s)) := by
  simp only [vcmp, scompare, then2]
  by_cases h1 : vsign a.kind b.kind = 0
  · rw [decide_eq_true h1, if_pos h1]
    by_cases h2 : vsign a.n b.n = 0
    · rw [decide_eq_true h2, if_pos h2]; rfl
    · rw [decide_eq_false h2, if_neg h2]; rfl
  · rw [decide_eq_false h1, if_neg h1]; rfl
theorem vcmp_lin : LinC vcmp := by
  refine ⟨fun x y => ?_, fun x y => ?_, fun x y => ?_, fun x y z h1 h2 => ?_⟩
  · rw [vcmp_then]
    simp only [then2]
    split
    · split
      · exact scmp_lin.rng _ _
      · exact sg_lin.rng _ _
    · exact sg_lin.rng _ _
  · rw [vcmp_then]
    have e1 := sg_lin.eq x.kind y.kind
    have e2 := sg_lin.eq x.n y.n
    have e3 := scmp_lin.eq x.s y.s
    obtain ⟨k, n, s⟩ := x
    obtain ⟨k', n', s'⟩ := y
    simp only [then2, Val.mk.injEq] at *
    split
    · split
      · rename_i h1 h2
        rw [e3, e1.1 h1, e2.1 h2]
        simp
      · rename_i h1 h2
        exact ⟨fun h => absurd h h2, fun h => absurd (e2.2 h.2.1) h2⟩
    · rename_i h1
      exact ⟨fun h => absurd h h1, fun h => absurd (e1.2 h.1) h1⟩
  · rw [vcmp_then, vcmp_then]
    have e1 := sg_lin.anti x.kind y.kind
    have e2 := sg_lin.anti x.n y.n
    have e3 := scmp_lin.anti x.s y.s
    simp only [then2]
    split <;> split <;> (try split) <;> (try split) <;> omega
  · rw [vcmp_then] at h1 h2 ⊢
    refine then2_tr (d := fun (p q : Int × Str) => then2 (vsign p.1 q.1) (scmp p.2 q.2)) (u := (x.n, x.s)) (v := (y.n, y.s)) (w := (z.n, z.s)) sg_lin ?_ h1 h2
    intro h3 h4
    exact then2_tr (d := scmp) sg_lin (fun p q => scmp_lin.tr _ _ _ p q) h3 h4
theorem vrows_lin : LinC (lexL vcmp) := lexL_lin vcmp_lin
end Go.Proofs.YtkiakihffmafcaaDoor

/- Rows of values, one against another: the document's. -/
namespace Go.Proofs.YtkiakihffmafcaaDoor
open Go.Ax
/-! ## exchequer/exchequerref02.Rows -/
def rrows_0_sg : Sig := ⟨59, [(0, .sl .val false), (1, .sl .val false), (5, .int .i64)], [], [], 0, 0, 0, [], []⟩
abbrev rrows_0_V := List Val × List Val × Int
def rrows_0 {R : Type} (rec : rrows_0_V → Option R) (kx : Ex → rrows_0_V → Option R) (v : rrows_0_V) : Option R := match v with
 | (v, v1, v2) =>
  let j := fun (p : Bool) =>
   cond (p) (
    chk (inb v2 v.length) (
     chk (inb v2 v1.length) (
      cond (decide ((at' .val v v2) = (at' .val v1 v2))) (
       rec (v, v1, (wr .i64 (v2 + 1)))) (
       kx (.exit 0) (v, v1, v2))))) (
    kx (.exit 0) (v, v1, v2))
  cond (decide (v2 < (v.length : Int))) (
   j (decide (v2 < (v1.length : Int)))) (
   j false)
def rrows_px (R : Type) (k : Nat) : Px R := ⟨ttOf ttL, glT, callT [], callQT [(32, callOrQ [.sv .val, .sv .val] [.int .i64] rcmp_F)], loopT [(2, loopOr k rrows_0_sg (rrows_0))]⟩
theorem rrows_0_eq (R : Type) (k : Nat) : ∀ (fr : List Fr) (rec : rrows_0_V → Option R) (kx : Ex → rrows_0_V → Option R) (v : rrows_0_V), round (rrows_px R k) rrows_0_sg (lp Tryd.f16 0) fr rec kx v = rrows_0 rec kx v
  | fr, rec, kx, (v, v1, v2) => by kernel_rfl
def rrows_body (k : Nat) (x : HV [.sl .val false, .sl .val false]) : Option (HV [.int .i64]) := match x with
 | (a, b) =>
  iter (fun rec => rrows_0 rec (fun e v => match v with | (v3, v4, v5) => match e with
   | .exit 0 =>
    let j1 := fun (p4 : Bool) =>
     cond (p4) (
      chk (inb v5 v3.length) (
       chk (inb v5 v4.length) (
        some (rcmp (at' .val v3 v5) (at' .val v4 v5))))) (
      cond (decide (v5 < (v4.length : Int))) (
       some (-1)) (
       cond (decide (v5 < (v3.length : Int))) (
        some 1) (
        some 0)))
    cond (decide (v5 < (v3.length : Int))) (
     j1 (decide (v5 < (v4.length : Int)))) (
     j1 false)
   | _ => none)) k (a, b, 0)
theorem rrows_eq (k : Nat) : ∀ (x : HV [.sl .val false, .sl .val false]), runF (rrows_px _ k) Tryd.f16 [.sl .val false, .sl .val false] [.int .i64] x some = rrows_body k x
  | (a, b) => by kernel_rfl
theorem rrows_run (k : Nat) : FnOk Tryd.prog elT glT 16 [.sl .val false, .sl .val false] [.int .i64] (rrows_body k) := by
  refine fnOk_run Tryd.func16 rfl (by kernel_rfl) follows (by kernel_rfl) (n := 1) (by kernel_rfl) (px := rrows_px _ k) (fun cx hP hel hgl => ?_) (rrows_eq k)
  have hp0 : PxOk cx (rrows_px (HV [.int .i64]) k) := ⟨fun t => by rw [hP, hel]; exact tt_ok ttL_ok t, by rw [hgl]; rfl⟩
  have hc0 : CallOk cx (rrows_px (HV [.int .i64]) k) := callT_ok rfl cfs_nil
  have hq0 : CallQOk cx (rrows_px (HV [.int .i64]) k) := callQT_ok rfl (cqfs_cons (cqf_or (by rw [hP, hel, hgl]; exact rcmp_ok) (by kernel_rfl)) cqfs_nil)
  have hlrrows_0 : LoopOk cx (rrows_px (HV [.int .i64]) k) (lp Tryd.f16 0) := loop_ok hp0 hc0 hq0 (by rw [hP]; exact follows) (k := k) (s := rrows_0_sg) (step := rrows_0) (fun _ _ => by kernel_rfl) (by kernel_rfl) (rrows_0_eq _ k) (loops_in (n := 0) (by kernel_rfl) all0)
  exact ⟨hp0, hc0, hq0, (allS all0 hlrrows_0)⟩
abbrev rrows (a b : List Val) : Int := lexL vcmp a b
def rrows_F : FT [.sl .val false, .sl .val false] [.int .i64] := fun x => some (rrows x.1 x.2)
theorem rrows_loop {R : Type} {kx : Ex → rrows_0_V → Option R} {a b : List Val} {c : Int → Option R} (hln : ln a.length) (h2 : ∀ i : Nat, (∀ (h1 : i < a.length) (h2 : i < b.length), ¬ a[i] = b[i]) → kx (.exit 0) (a, b, (i : Int)) = c (lexL vcmp (a.drop i) (b.drop i))) : ∀ (k i : Nat), i ≤ a.length → a.length - i < k → iter (fun rec => rrows_0 rec kx) k (a, b, (i : Int)) = c (lexL vcmp (a.drop i) (b.drop i))
  | 0, i, _, h => absurd h (Nat.not_lt_zero _)
  | k + 1, i, hi, h => by
    rw [iter_s]
    simp only [rrows_0]
    by_cases la : i < a.length
    · rw [decide_eq_true (show (i : Int) < (a.length : Int) by omega)]
      by_cases lb : i < b.length
      · rw [decide_eq_true (show (i : Int) < (b.length : Int) by omega)]
        have ih := rrows_loop hln h2 k (i + 1) (by omega) (by omega)
        simp only [cond_t, inb_t la, inb_t lb, chk, at_nat (c := .val) la, at_nat (c := .val) lb, wr_succ la hln, ih]
        by_cases he : a[i] = b[i]
        · rw [decide_eq_true he, drop_cons la, drop_cons lb]
          simp only [lexL, then2]
          rw [if_pos ((vcmp_lin.eq _ _).2 he)]
          rfl
        · rw [decide_eq_false he]
          exact h2 i fun _ _ => he
      · rw [decide_eq_false (show ¬ (i : Int) < (b.length : Int) by omega)]
        exact h2 i fun _ q => absurd q lb
    · rw [decide_eq_false (show ¬ (i : Int) < (a.length : Int) by omega)]
      exact h2 i fun q _ => absurd q la
theorem rrows_ok : FnOk Tryd.prog elT glT 16 [.sl .val false, .sl .val false] [.int .i64] rrows_F := .fin 0 rrows_run fun (a, b) r hb hx => ⟨a.length + 1, by
  have l1 : ln a.length := hb.1.1
  simp only [rrows_F, Option.some.injEq] at hx
  subst hx
  simp only [rrows_body]
  refine rrows_loop (c := fun q => some q) l1 (fun i hne => ?_) (a.length + 1) 0 (Nat.zero_le _) (by omega)
  by_cases la : i < a.length
  · by_cases lb : i < b.length
    · have he : ¬ vcmp a[i] b[i] = 0 := fun e => hne la lb ((vcmp_lin.eq _ _).1 e)
      simp only [inb_t la, inb_t lb, chk, cond_t, at_nat (c := .val) la, at_nat (c := .val) lb, rcmp_vcmp]
      rw [decide_eq_true (show (i : Int) < (a.length : Int) by omega), decide_eq_true (show (i : Int) < (b.length : Int) by omega), drop_cons la, drop_cons lb]
      simp only [lexL, then2]
      rw [if_neg he]
      rfl
    · rw [decide_eq_true (show (i : Int) < (a.length : Int) by omega), decide_eq_false (show ¬ (i : Int) < (b.length : Int) by omega), drop_cons la, List.drop_eq_nil_of_le (show b.length ≤ i by omega)]
      rfl
  · rw [decide_eq_false (show ¬ (i : Int) < (a.length : Int) by omega), List.drop_eq_nil_of_le (show a.length ≤ i by omega)]
    by_cases lb : i < b.length
    · rw [decide_eq_true (show (i : Int) < (b.length : Int) by omega), drop_cons lb]
      rfl
    · rw [decide_eq_false (show ¬ (i : Int) < (b.length : Int) by omega), List.drop_eq_nil_of_le (show b.length ≤ i by omega)]
      rfl⟩
theorem wr_opp {z : Int} (h : z = -1 ∨ z = 0 ∨ z = 1) : wr .i64 (0 - z) = -z := by
  rw [wr_id (by simp only [inI]; omega)]
  omega
end Go.Proofs.YtkiakihffmafcaaDoor

/- Contracts of the library's functions on bytes. -/
namespace Go.Ax
theorem byte_ok (b : UInt8) : u8ok .u8 (b.toNat : Int) = true := by
  have := b.toNat_lt
  simp [u8ok, IntKind.min, IntKind.max, IntKind.signed, IntKind.bits]
  omega
/-- the bytes of a slice that is read -/
theorem run_bytes {P : Program} {S : Fp} {w : World} {l : Str} {t : Tk} {v : Value} (h : RF S w (.sl .byte l t) v) : (Extern.Bytes.bytesOf v).run P w = .ok ⟨l.toArray⟩ w := by
  obtain ⟨a, cap, rfl, hf⟩ := h.here.slice
  cases l with
  | nil => cases a <;> simp [Extern.Bytes.bytesOf, Extern.Bytes.loadBytes, go_sem] <;> rfl
  | cons x l =>
    rcases hf with h | ⟨b, o, rfl, _, hat⟩
    · cases h
    · have hl := Lib.run_loadBytesX (P := P) w ((x :: l).map fun b => (b.toNat : Int)) ⟨b, o, none⟩ .empty (fun j y hj => by
        rw [List.getElem?_map] at hj
        obtain ⟨z, hz, rfl⟩ := Option.map_eq_some_iff.1 hj
        obtain ⟨u, hu, hf⟩ := hat j z hz 0 (.int .u8 (z.toNat : Int)) rfl
        cases hf
        rw [Sx.add_mk]
        simpa [csz] using hu)
      have e : Lib.bytesOf ((x :: l).map fun b => (b.toNat : Int)) = x :: l := by
        simp [Lib.bytesOf, Function.comp_def]
      rw [e, List.length_map] at hl
      simp only [Extern.Bytes.bytesOf, hl]
      congr 1
      apply ByteArray.ext
      simp
theorem run_count {P : Program} {S : Fp} {w : World} {l : Str} {t : Tk} {v : Value} (h : RF S w (.sl .byte l t) v) (c : Int) : (Extern.BytealgCount.count #[v, .int .u8 c]).run P w = .ok (.int .i64 (Lib.countByte l c.toNat.toUInt8)) w := by
  have hs := Lib.run_countString (P := P) ⟨l.toArray⟩ c w
  have hb := run_bytes (P := P) h
  change Sem.run P (do
    let b ← Extern.Bytes.bytesOf v
    let c' ← Extern.Bytes.asByte (.int .u8 c)
    pure (goInt (b.foldl (fun n x => if x == c' then n + 1 else n) (0 : Nat)))) w = _
  change Sem.run P (do
    let b ← Extern.Bytes.bytesOf (.string ⟨l.toArray⟩)
    let c' ← Extern.Bytes.asByte (.int .u8 c)
    pure (goInt (b.foldl (fun n x => if x == c' then n + 1 else n) (0 : Nat)))) w = _ at hs
  rw [Sem.run_bind] at hs ⊢
  rw [hb]
  exact hs
theorem run_index {P : Program} {S : Fp} {w : World} {l : Str} {t : Tk} {v : Value} (h : RF S w (.sl .byte l t) v) (c : Int) : (Extern.BytealgIndexByte.indexByte #[v, .int .u8 c]).run P w = .ok (.int .i64 (Lib.indexByte l c.toNat.toUInt8)) w := by
  have hs := Lib.run_indexByteString (P := P) ⟨l.toArray⟩ c w
  have hb := run_bytes (P := P) h
  change Sem.run P (do
    let b ← Extern.Bytes.bytesOf v
    let c' ← Extern.Bytes.asByte (.int .u8 c)
    match (List.range b.size).find? fun i => b[i]! == c' with
    | some i => pure (goInt i)
    | none => pure (goInt (-1))) w = _
  change Sem.run P (do
    let b ← Extern.Bytes.bytesOf (.string ⟨l.toArray⟩)
    let c' ← Extern.Bytes.asByte (.int .u8 c)
    match (List.range b.size).find? fun i => b[i]! == c' with
    | some i => pure (goInt i)
    | none => pure (goInt (-1))) w = _ at hs
  rw [Sem.run_bind] at hs ⊢
  rw [hb]
  exact hs
theorem run_cmp {P : Program} {S : Fp} {w : World} {l m : Str} {t t' : Tk} {v u : Value} (h : RF S w (.sl .byte l t) v) (k : RF S w (.sl .byte m t') u) : (Extern.BytealgCompare.compare #[v, u]).run P w = .ok (.int .i64 (Lib.compareBytes l m)) w := by
  have hs := Lib.run_compareString (P := P) ⟨l.toArray⟩ ⟨m.toArray⟩ w
  have hb := run_bytes (P := P) h
  have hb2 := run_bytes (P := P) k
  change Sem.run P (do pure (goInt (Extern.BytealgCompare.cmp (← Extern.Bytes.bytesOf v) (← Extern.Bytes.bytesOf u)))) w = _
  change Sem.run P (do pure (goInt (Extern.BytealgCompare.cmp (← Extern.Bytes.bytesOf (.string ⟨l.toArray⟩)) (← Extern.Bytes.bytesOf (.string ⟨m.toArray⟩))))) w = _ at hs
  rw [Sem.run_bind] at hs ⊢
  rw [hb]
  simp only [Result.andThen] at hs ⊢
  rw [Sem.run_bind, hb2]
  exact hs
end Go.Ax
namespace Go.Proofs
open Go.Shelf
def Tryd.laysClone_ren : Go.Shelf.Ren := ⟨fun | 4 => 34 | n => n, fun | 22 => 23 | 4 => 4 | 5 => 5 | n => n, fun | n => n⟩
theorem Tryd.laysClone : Go.Proofs.SlLaysK.n4 Tryd.prog Tryd.laysClone_ren := {
  mixed := by kernel_rfl
  f4 := Tryd.func34.trans (congrArg some (by kernel_rfl))
  t4 := Tryd.underlying4
  a4 := Tryd.isAgg4
  z4 := Tryd.sizeOf4
  v4 := Tryd.zeroValue4
  t22 := Tryd.underlying23
  a22 := Tryd.isAgg23
  z22 := Tryd.sizeOf23
  v22 := Tryd.zeroValue23
  t5 := Tryd.underlying5
  i5 := by kernel_rfl }
end Go.Proofs
namespace Go.Proofs.YtkiakihffmafcaaDoor
open Go.Ax
def bcount (s sep : Str) : Option Int := match sep with
  | [c] => some (Lib.countByte s c)
  | _ => none
def bcount_F : FT [.sl .byte false, .sl .byte false] [.int .i64] := fun x => bcount x.1 x.2
theorem bcount_ok : FnOk Tryd.prog elT glT 44 [.sl .byte false, .sl .byte false] [.int .i64] bcount_F := by
  refine ⟨Sx.enters_of Tryd.func44 rfl (by kernel_rfl), fun x r hx w M vs hM hgl hr => ?_⟩
  obtain ⟨s, sep⟩ := x
  obtain ⟨c, rfl⟩ : ∃ c, sep = [c] := by
    cases sep with
    | nil => cases hx
    | cons c tl => cases tl with
      | nil => exact ⟨c, rfl⟩
      | cons _ _ => cases hx
  simp only [bcount_F, bcount, Option.some.injEq] at hx
  subst hx
  simp only [encL, enc1, Reps, Rep] at hr
  obtain ⟨u, us, rfl, ⟨h1, _⟩, u2, us2, rfl, ⟨h2, _⟩, rfl⟩ := hr
  have h1 : RF (v0 elT M w).S w (.sl .byte s .no) u := h1
  have h2 : RF (v0 elT M w).S w (.sl .byte [c] .no) u2 := h2
  have walk : Calls Tryd.prog 44 #[u, u2] w fun e w' => e = .returned (.int .i64 (Lib.countByte s c)) ∧ w' = w := by
    have hrun := run_count (P := Tryd.prog) h1 (c.toNat : Int)
    have e1 : (Int.toNat (c.toNat : Int)).toUInt8 = c := by simp
    rw [e1] at hrun
    obtain ⟨a2, cap2, rfl, hf2⟩ := h2.here.slice
    rcases hf2 with h | ⟨b2, o2, rfl, _, hat⟩
    · cases h
    obtain ⟨q, hc2, hq⟩ := hat 0 c rfl 0 (.int .u8 (c.toNat : Int)) rfl
    cases hq
    have hc2 : w.cell? ⟨b2, o2, none⟩ = some (.int .u8 (c.toNat : Int)) := by simpa using hc2
    obtain ⟨a, cap, rfl, _⟩ := h1.here.slice
    have mixed := follows
    have t0 := Tryd.underlying5
    simp only [List.length_singleton]
    clear h1 h2 hat hM hgl
    go_enter Tryd.func44, Tryd.ntmps44
    go_wp2
    rw [run_callFunc_extern Tryd.func48 (by kernel_rfl) (by kernel_rfl) (by kernel_rfl) (e := Extern.BytealgCount.count) (by kernel_rfl), hrun]
    simp only [Result.andThen]
    rw [Oper.upon_value]
    go_wp2
    go_ret
    exact ⟨rfl, rfl⟩
  refine Calls.mono walk ?_
  rintro en w' ⟨rfl, rfl⟩
  refine ⟨_, ⟨fun _ => 0, fun _ => Option.none⟩, rfl, Chg.refl _ _, fun p g o hp => (by simp [owns] at hp), fun p q g o o2 hp => (by simp [owns] at hp), ?_⟩
  simp only [pack, encL, enc1, Rep]
  have hl : Lib.countByte s c ≤ s.length := List.count_le_length
  have hs := h1.here.len
  exact ⟨trivial, len_ok (Nat.le_trans hl hs)⟩
theorem index_bd (l : Str) (c : UInt8) : -1 ≤ Lib.indexByte l c ∧ Lib.indexByte l c ≤ l.length := by
  induction l with
  | nil => simp [Lib.indexByte]
  | cons b l ih =>
    simp only [Lib.indexByte, List.length_cons]
    split
    · omega
    · split <;> omega
def bindex (s : Str) (c : Int) : Int := Lib.indexByte s c.toNat.toUInt8
def bindex_F : FT [.sl .byte false, .int .u8] [.int .i64] := fun x => some (bindex x.1 x.2)
theorem bindex_ok : FnOk Tryd.prog elT glT 49 [.sl .byte false, .int .u8] [.int .i64] bindex_F := by
  refine ⟨Sx.enters_of Tryd.func49 rfl (by kernel_rfl), fun x r hx w M vs hM hgl hr => ?_⟩
  obtain ⟨s, c⟩ := x
  simp only [bindex_F, Option.some.injEq] at hx
  subst hx
  simp only [encL, enc1, Reps, Rep] at hr
  obtain ⟨u, us, rfl, ⟨h1, _⟩, u2, us2, rfl, ⟨rfl, _⟩, rfl⟩ := hr
  have h1 : RF (v0 elT M w).S w (.sl .byte s .no) u := h1
  have walk : Calls Tryd.prog 49 #[u, .int .u8 c] w fun e w' => e = .returned (.int .i64 (bindex s c)) ∧ w' = w := by
    have hrun := run_index (P := Tryd.prog) h1 c
    obtain ⟨a, cap, rfl, _⟩ := h1.here.slice
    have mixed := follows
    clear h1 hM hgl
    go_enter Tryd.func49, Tryd.ntmps49
    go_wp2
    rw [run_callFunc_extern Tryd.func55 (by kernel_rfl) (by kernel_rfl) (by kernel_rfl) (e := Extern.BytealgIndexByte.indexByte) (by kernel_rfl), hrun]
    simp only [Result.andThen]
    rw [Oper.upon_value]
    go_wp2
    go_ret
    exact ⟨rfl, rfl⟩
  refine Calls.mono walk ?_
  rintro en w' ⟨rfl, rfl⟩
  refine ⟨_, ⟨fun _ => 0, fun _ => Option.none⟩, rfl, Chg.refl _ _, fun p g o hp => (by simp [owns] at hp), fun p q g o o2 hp => (by simp [owns] at hp), ?_⟩
  simp only [pack, encL, enc1, Rep]
  have hs := h1.here.len
  refine ⟨trivial, u8_of ?_⟩
  have hb := index_bd s c.toNat.toUInt8
  have hm : maxLen = 9223372036854775807 := rfl
  simp only [IntKind.min, IntKind.max, IntKind.signed, IntKind.bits, bindex]
  simp only [if_true]
  omega
def bcmp' (a b : Str) : Int := Lib.compareBytes a b
def bcmp'_F : FT [.sl .byte false, .sl .byte false] [.int .i64] := fun x => some (bcmp' x.1 x.2)
theorem bcmp'_ok : FnOk Tryd.prog elT glT 35 [.sl .byte false, .sl .byte false] [.int .i64] bcmp'_F := by
  refine ⟨Sx.enters_of Tryd.func35 rfl (by kernel_rfl), fun x r hx w M vs hM hgl hr => ?_⟩
  obtain ⟨a, b⟩ := x
  simp only [bcmp'_F, Option.some.injEq] at hx
  subst hx
  simp only [encL, enc1, Reps, Rep] at hr
  obtain ⟨u, us, rfl, ⟨h1, _⟩, u2, us2, rfl, ⟨h2, _⟩, rfl⟩ := hr
  have h1 : RF (v0 elT M w).S w (.sl .byte a .no) u := h1
  have h2 : RF (v0 elT M w).S w (.sl .byte b .no) u2 := h2
  have walk : Calls Tryd.prog 35 #[u, u2] w fun e w' => e = .returned (.int .i64 (Lib.compareBytes a b)) ∧ w' = w := by
    have hrun := run_cmp (P := Tryd.prog) h1 h2
    obtain ⟨ad, cap, rfl, _⟩ := h1.here.slice
    obtain ⟨ad2, cap2, rfl, _⟩ := h2.here.slice
    have mixed := follows
    clear h1 h2 hM hgl
    go_enter Tryd.func35, Tryd.ntmps35
    go_wp2
    rw [run_callFunc_extern Tryd.func41 (by kernel_rfl) (by kernel_rfl) (by kernel_rfl) (e := Extern.BytealgCompare.compare) (by kernel_rfl), hrun]
    simp only [Result.andThen]
    rw [Oper.upon_value]
    go_wp2
    go_ret
    exact ⟨rfl, rfl⟩
  refine Calls.mono walk ?_
  rintro en w' ⟨rfl, rfl⟩
  refine ⟨_, ⟨fun _ => 0, fun _ => Option.none⟩, rfl, Chg.refl _ _, fun p g o hp => (by simp [owns] at hp), fun p q g o o2 hp => (by simp [owns] at hp), ?_⟩
  simp only [pack, encL, enc1]
  have h : bcmp' a b = -1 ∨ bcmp' a b = 0 ∨ bcmp' a b = 1 := scmp_range a b
  refine rep_int (u8_of ?_)
  simp only [IntKind.min, IntKind.max, IntKind.signed, IntKind.bits]
  simp only [if_true]
  omega
def bclone (s : Str) : Option Str := cond (decide (s.length ≤ 140737488355328)) (some s) none
def bclone_F : FT [.sl .byte false] [.sl .byte true] := fun x => bclone x
theorem bclone_ok : FnOk Tryd.prog elT glT 34 [.sl .byte false] [.sl .byte true] bclone_F := by
  refine ⟨Sx.enters_of Tryd.func34 rfl (by kernel_rfl), fun x r hx w M vs hM hgl hr => ?_⟩
  have hx : bclone x = some r := hx
  simp only [bclone] at hx
  by_cases hl : x.length ≤ 140737488355328
  · rw [decide_eq_true hl] at hx
    have hx : some x = some r := hx
    simp only [Option.some.injEq] at hx
    subst hx
    simp only [encL, enc1, Reps, Rep] at hr
    obtain ⟨u, us, rfl, ⟨h1, _⟩, rfl⟩ := hr
    have h1 : RF (v0 elT M w).S w (.sl .byte x .no) u := h1
    obtain ⟨a, cap, rfl, hf⟩ := h1.here.slice
    have key : Calls Tryd.prog 34 #[.slice a x.length cap] w fun e w' => ∃ v', e = .returned v' ∧ ((v' = .slice none 0 0 ∧ x = []) ∨ w'.ownsRow w.heap.size 5 1 v' x.length (x.map fun b => Value.int .u8 (b.toNat : Int))) ∧ Go.RowKit.Below w.heap.size w w' := by
      cases a with
      | none =>
        have hx0 : x = [] := by
          rcases hf with h | ⟨_, _, h, _⟩
          · exact h
          · cases h
        refine (show Calls Tryd.prog 34 _ w _ from Any.bytes_Clone_nil Tryd.laysClone x.length cap w).mono ?_
        rintro en w' ⟨rfl, rfl⟩
        exact ⟨_, rfl, .inl ⟨rfl, hx0⟩, Go.RowKit.Below.refl _ _⟩
      | some ad =>
        have c := Any.bytes_Clone_at Tryd.laysClone ad x.length cap (x.map fun b => (b.toNat : Int)) w (by simp) hl (fun i hi => by
          rcases hf with h | ⟨b, o, h, _, hat⟩
          · rw [h] at hi; simp at hi
          · simp only [Option.some.injEq] at h
            subst h
            obtain ⟨q, hc, hq⟩ := hat i x[i] (List.getElem?_eq_getElem hi) 0 (.int .u8 (x[i].toNat : Int)) rfl
            cases hq
            rw [Sx.add_mk]
            simp only [csz, Nat.mul_one, Nat.add_zero] at hc
            rw [hc]
            simp [List.getD_eq_getElem?_getD, hi])
        refine (show Calls Tryd.prog 34 _ w _ from c).mono ?_
        rintro en w' ⟨v', rfl, ho, _, hb⟩
        exact ⟨v', rfl, .inr (by simpa [Function.comp_def] using (show w'.ownsRow w.heap.size 5 1 v' _ _ from ho)), hb⟩
    refine key.mono ?_
    rintro en w' ⟨v', rfl, ho, hb⟩
    have nilcase : v' = .slice none 0 0 → x = [] → ∃ v m, Ending.returned v' = .returned v ∧ Chg noFp w w' ∧ (∀ p g o, p ∈ owns 0 [Sg.sl .byte true] → m.tk p = some (g, o) → w.heap.size ≤ g ∧ g < w'.heap.size) ∧ (∀ p q g o o', p ∈ owns 0 [Sg.sl .byte true] → q ∈ owns 0 [Sg.sl .byte true] → m.tk p = some (g, o) → m.tk q = some (g, o') → p = q) ∧ Rep (vr elT M m [.sl .byte true] w') (pack (encL 0 [.sl .byte true] x)) v := fun e1 e2 => by
      subst e1 e2
      refine ⟨_, ⟨fun _ => 0, fun _ => Option.none⟩, rfl, Chg.of_below hb, fun p g o _ h => (by cases h), fun p q g o o2 _ _ h => (by cases h), ?_⟩
      simp only [pack, encL, enc1, Rep]
      exact ⟨fun _ _ => .nil _ _ _ _, Nat.zero_lt_one, fun _ => .inl ⟨rfl, rfl, rfl⟩⟩
    rcases ho with ⟨e1, e2⟩ | ⟨_, ⟨e1, e2⟩ | ⟨g, cap', cur, rfl, hg, hh, hle, hcm, hsz, htk⟩⟩
    · exact nilcase e1 e2
    · exact nilcase e1 (List.eq_nil_of_length_eq_zero e2)
    · refine ⟨_, ⟨fun _ => 0, fun _ => some (g, x.length)⟩, rfl, Chg.of_below hb, fun p g' o hp h => ?_, fun p q g' o o2 hp hq _ _ => (by simp [owns] at hp hq; omega), ?_⟩
      · simp only [Option.some.injEq, Prod.mk.injEq] at h
        obtain ⟨rfl, _⟩ := h
        exact ⟨hg, (Array.getElem?_eq_some_iff.1 hh).1⟩
      · simp only [pack, encL, enc1, Rep]
        have hcell : ∀ (i : Nat) (b : UInt8), x[i]? = some b → cur[i]? = some (Value.int .u8 (b.toNat : Int)) := fun i b hi => by
          have := congrArg (·[i]?) htk
          simp only [List.getElem?_map, hi, Option.map_some, Nat.mul_one] at this
          rw [List.getElem?_take] at this
          split at this
          · simpa using this
          · cases this
        refine ⟨slice_mk rfl (.inr ⟨g, 0, rfl, ⟨hle, hcm⟩, fun i y hy w2 hw j d hd => ?_⟩), Nat.zero_lt_one, fun _ => .inr ⟨g, cap', cur, rfl, by simp [vr, csz], hh, by simpa [csz] using hsz, hle, hcm⟩⟩
        obtain ⟨rfl, rfl⟩ : j = 0 ∧ d = .int .u8 (y.toNat : Int) := by
          cases j with
          | zero => exact ⟨rfl, by simpa [enc] using hd.symm⟩
          | succ j => simp [enc] at hd
        refine ⟨.int .u8 (y.toNat : Int), ?_, .int _ _ (byte_ok y)⟩
        refine hw.cell g _ _ ?_ ?_
        · simp only [World.cell?, vr, hh]
          simpa [csz] using hcell i y hy
        · have hi : i < x.length := (List.getElem?_eq_some_iff.1 hy).1
          rintro (h | ⟨p, o, _, h, h3⟩)
          · have := hM g _ h
            omega
          · simp only [Option.some.injEq, Prod.mk.injEq] at h
            simp only [csz] at h3
            omega
  · rw [decide_eq_false hl] at hx
    cases hx
end Go.Proofs.YtkiakihffmafcaaDoor

/- bytes.ReplaceAll of the byte 0 by 0, 255. -/
namespace Go.Proofs.YtkiakihffmafcaaDoor
open Go.Ax
/-! ## bytes.Index -/
def bfind_px (R : Type) : Px R := ⟨ttOf ttL, glT, callT [(49, callOr [.sl .byte false, .int .u8] [.int .i64] bindex_F)], callQT [], loopT []⟩
def bfind_body (x : HV [.sl .byte false, .sl .byte false]) : Option (HV [.int .i64]) := match x with
 | (s, sep) =>
  cond (decide ((sep.length : Int) = 0)) (
   some 0) (
   cond (decide ((sep.length : Int) = 1)) (
    chk (inb 0 sep.length) (
     some (bindex s ((at' .byte sep 0).toNat : Int)))) (
    cond (decide ((sep.length : Int) = (s.length : Int))) (
     none) (
     cond (decide ((s.length : Int) < (sep.length : Int))) (
      some (-1)) (
      none))))
theorem bfind_eq : ∀ (x : HV [.sl .byte false, .sl .byte false]), runF (bfind_px _) Tryd.f45 [.sl .byte false, .sl .byte false] [.int .i64] x some = bfind_body x
  | (s, sep) => by kernel_rfl
theorem bfind_run : FnOk Tryd.prog elT glT 45 [.sl .byte false, .sl .byte false] [.int .i64] (bfind_body) := by
  refine fnOk_run Tryd.func45 rfl (by kernel_rfl) follows (by kernel_rfl) (n := 2) (by kernel_rfl) (px := bfind_px _) (fun cx hP hel hgl => ?_) (bfind_eq)
  have hp0 : PxOk cx (bfind_px (HV [.int .i64])) := ⟨fun t => by rw [hP, hel]; exact tt_ok ttL_ok t, by rw [hgl]; rfl⟩
  have hc0 : CallOk cx (bfind_px (HV [.int .i64])) := callT_ok rfl (cfs_cons (cf_or (by rw [hP, hel, hgl]; exact bindex_ok) (by kernel_rfl)) cfs_nil)
  have hq0 : CallQOk cx (bfind_px (HV [.int .i64])) := callQT_ok rfl cqfs_nil
  exact ⟨hp0, hc0, hq0, (allS (allS all0 (loop_dead (fun _ _ => by kernel_rfl))) (loop_dead (fun _ _ => by kernel_rfl)))⟩
def bfind (s sep : Str) : Option Int := match sep with
  | [c] => some (Lib.indexByte s c)
  | _ => none
def bfind_F : FT [.sl .byte false, .sl .byte false] [.int .i64] := fun x => bfind x.1 x.2
theorem bfind_ok : FnOk Tryd.prog elT glT 45 [.sl .byte false, .sl .byte false] [.int .i64] bfind_F := .fin0 bfind_run fun (s, sep) r _ hx => by
  obtain ⟨c, rfl⟩ : ∃ c, sep = [c] := by
    cases sep with
    | nil => cases hx
    | cons c tl => cases tl with
      | nil => exact ⟨c, rfl⟩
      | cons _ _ => cases hx
  rw [← hx]
  show (some (bindex s ((at' .byte [c] 0).toNat : Int)) : Option Int) = some (Lib.indexByte s c)
  simp [bindex, at']
/-- a text's bytes, each 0 followed by 255 -/
def esc (s : Str) : Str := s.flatMap fun b => if b = 0 then [0, 255] else [b]
theorem esc_nil : esc [] = [] := rfl
theorem esc_append (a b : Str) : esc (a ++ b) = esc a ++ esc b := by simp [esc]
theorem esc_zero (l : Str) : esc (0 :: l) = 0 :: 255 :: esc l := by simp [esc]
theorem esc_cons {b : UInt8} (h : b ≠ 0) (l : Str) : esc (b :: l) = b :: esc l := by simp [esc, h]
theorem esc_id : ∀ {a : Str}, (0 : UInt8) ∉ a → esc a = a
  | [], _ => rfl
  | b :: a, h => by
    simp only [List.mem_cons, not_or] at h
    rw [esc_cons (Ne.symm h.1), esc_id h.2]
theorem esc_len (s : Str) : (esc s).length = s.length + s.count 0 := by
  induction s with
  | nil => rfl
  | cons b s ih =>
    by_cases h : b = 0
    · subst h
      rw [esc_zero]
      simp only [List.length_cons, ih, List.count_cons_self]
      omega
    · rw [esc_cons h, List.count_cons_of_ne h]
      simp only [List.length_cons, ih]
      omega
/-- where the first 0 is -/
theorem first_zero : ∀ {l : Str}, 0 < l.count 0 → ∃ a b, l = a ++ 0 :: b ∧ (0 : UInt8) ∉ a ∧ Lib.indexByte l 0 = (a.length : Int) ∧ l.count 0 = b.count 0 + 1
  | [], h => by simp at h
  | x :: l, h => by
    by_cases hx : x = 0
    · subst hx
      exact ⟨[], l, rfl, by simp, by simp [Lib.indexByte], by simp⟩
    · rw [List.count_cons_of_ne hx] at h
      obtain ⟨a, b, e, h1, h2, h3⟩ := first_zero h
      refine ⟨x :: a, b, by rw [e]; rfl, by simp [h1, Ne.symm hx], ?_, by rw [List.count_cons_of_ne hx]; exact h3⟩
      have h4 : ¬ (a.length : Int) = -1 := by omega
      simp [Lib.indexByte, hx, h2, h4]
theorem splice_take {α : Type} (xs : List α) (o : Nat) (l : List α) (h : o + l.length ≤ xs.length) : (splice xs o l).take (o + l.length) = xs.take o ++ l := by
  have h1 : (xs.take o).length = o := by simp; omega
  simp only [splice]
  rw [← List.append_assoc, List.take_append_of_le_length (by simp; omega)]
  rw [List.take_of_length_le (by simp; omega)]
/-! ## bytes.Replace -/
def brepl_1_sg : Sig := ⟨132, [(0, .sl .byte false), (2, .sl .byte false), (11, .int .i64), (12, .int .i64), (88, .int .i64), (89, .int .i64)], [], [(0, .one (.dn .byte))], 1, 0, 0, [], [(10, 0, .byte)]⟩
abbrev brepl_1_V := List UInt8 × List UInt8 × Int × Int × Int × Int × List UInt8 × Int × Int
def brepl_1 {R : Type} (_ : brepl_1_V → Option R) (kx : Ex → brepl_1_V → Option R) (v : brepl_1_V) : Option R := match v with
 | (v17, v18, v19, v20, v21, v22, w3, w4, w5) =>
  cond (decide (v22 < v21)) (
   chk (upto v20 v17.length v17.length) (
    none)) (
   kx (.exit 2) (v17, v18, v19, v20, v21, v22, w3, w4, w5))
def brepl_0_sg : Sig := ⟨132, [(0, .sl .byte false), (1, .sl .byte false), (2, .sl .byte false), (11, .int .i64), (12, .int .i64), (48, .int .i64), (49, .int .i64)], [], [(0, .one (.dn .byte))], 1, 0, 0, [], [(10, 0, .byte)]⟩
abbrev brepl_0_V := List UInt8 × List UInt8 × List UInt8 × Int × Int × Int × Int × List UInt8 × Int × Int
def brepl_0 {R : Type} (rec : brepl_0_V → Option R) (kx : Ex → brepl_0_V → Option R) (v : brepl_0_V) : Option R := match v with
 | (v, v1, v2, v3, v4, v5, v6, w, w1, w2) =>
  cond (decide (v6 < v5)) (
   chk (upto v4 v.length v.length) (
    (bfind (v.drop (v4 : Int).toNat) v1).bind fun x1 =>
     chk (upI v3 w2 w2) (
      chk (upto v4 (wr .i64 (v4 + x1)) v.length) (
       chk (decide ((0 : Int) ≤ (w1 + v3)) && decide ((0 : Int) ≤ (w2 - v3)) && decide ((w1 + v3) + (w2 - v3) ≤ (w.length : Int))) (
        chk (upI (wr .i64 (v3 + ((min ((w2 - v3) : Int).toNat (cut v v4 (wr .i64 (v4 + x1))).length : Nat) : Int))) w2 w2) (
         chk (decide ((0 : Int) ≤ (w1 + (wr .i64 (v3 + ((min ((w2 - v3) : Int).toNat (cut v v4 (wr .i64 (v4 + x1))).length : Nat) : Int))))) && decide ((0 : Int) ≤ (w2 - (wr .i64 (v3 + ((min ((w2 - v3) : Int).toNat (cut v v4 (wr .i64 (v4 + x1))).length : Nat) : Int))))) && decide ((w1 + (wr .i64 (v3 + ((min ((w2 - v3) : Int).toNat (cut v v4 (wr .i64 (v4 + x1))).length : Nat) : Int)))) + (w2 - (wr .i64 (v3 + ((min ((w2 - v3) : Int).toNat (cut v v4 (wr .i64 (v4 + x1))).length : Nat) : Int)))) ≤ ((splice w ((w1 + v3) : Int).toNat ((cut v v4 (wr .i64 (v4 + x1))).take ((w2 - v3) : Int).toNat)).length : Int))) (
          rec (v, v1, v2, (wr .i64 ((wr .i64 (v3 + ((min ((w2 - v3) : Int).toNat (cut v v4 (wr .i64 (v4 + x1))).length : Nat) : Int))) + ((min ((w2 - (wr .i64 (v3 + ((min ((w2 - v3) : Int).toNat (cut v v4 (wr .i64 (v4 + x1))).length : Nat) : Int)))) : Int).toNat v2.length : Nat) : Int))), (wr .i64 ((wr .i64 (v4 + x1)) + (v1.length : Int))), v5, (wr .i64 (v6 + 1)), (splice (splice w ((w1 + v3) : Int).toNat ((cut v v4 (wr .i64 (v4 + x1))).take ((w2 - v3) : Int).toNat)) ((w1 + (wr .i64 (v3 + ((min ((w2 - v3) : Int).toNat (cut v v4 (wr .i64 (v4 + x1))).length : Nat) : Int)))) : Int).toNat (v2.take ((w2 - (wr .i64 (v3 + ((min ((w2 - v3) : Int).toNat (cut v v4 (wr .i64 (v4 + x1))).length : Nat) : Int)))) : Int).toNat)), w1, w2)))))))) (
   kx (.exit 0) (v, v1, v2, v3, v4, v5, v6, w, w1, w2))
def brepl_px (R : Type) (k : Nat) : Px R := ⟨ttOf ttL, glT, callT [(44, callOr [.sl .byte false, .sl .byte false] [.int .i64] bcount_F), (45, callOr [.sl .byte false, .sl .byte false] [.int .i64] bfind_F)], callQT [], loopT [(13, loopOr k brepl_0_sg (brepl_0)), (21, loopOr k brepl_1_sg (brepl_1))]⟩
theorem brepl_0_eq (R : Type) (k : Nat) : ∀ (fr : List Fr) (rec : brepl_0_V → Option R) (kx : Ex → brepl_0_V → Option R) (v : brepl_0_V), round (brepl_px R k) brepl_0_sg (lp Tryd.f43 0) fr rec kx v = brepl_0 rec kx v
  | fr, rec, kx, (v, v1, v2, v3, v4, v5, v6, w, w1, w2) => by kernel_rfl
theorem brepl_1_eq (R : Type) (k : Nat) : ∀ (fr : List Fr) (rec : brepl_1_V → Option R) (kx : Ex → brepl_1_V → Option R) (v : brepl_1_V), round (brepl_px R k) brepl_1_sg (lp Tryd.f43 1) fr rec kx v = brepl_1 rec kx v
  | fr, rec, kx, (v17, v18, v19, v20, v21, v22, w3, w4, w5) => by kernel_rfl
def brepl_body (k : Nat) (x : HV [.sl .byte false, .sl .byte false, .sl .byte false, .int .i64]) : Option (HV [.sl .byte true]) := match x with
 | (s, old, new, n) =>
  let j2 := fun (p : Int) =>
   cond (decide (p = 0)) (
    chk (decide (0 + s.length ≤ maxApp)) (
     some ([] ++ s))) (
    let j1 := fun (p3 : Int) =>
     chk (upI 0 (wr .i64 ((s.length : Int) + (wr .i64 (p3 * (wr .i64 ((new.length : Int) - (old.length : Int))))))) (wr .i64 ((s.length : Int) + (wr .i64 (p3 * (wr .i64 ((new.length : Int) - (old.length : Int))))))) && decide ((wr .i64 ((s.length : Int) + (wr .i64 (p3 * (wr .i64 ((new.length : Int) - (old.length : Int))))))) ≤ (maxApp : Int))) (
      let j := fun (p4 : List UInt8) (p5 : Int) (p6 : Int) (p7 : Int) (p8 : Int) (q : List UInt8) =>
       chk (upI p7 p6 p6) (
        chk (upto p8 p4.length p4.length) (
         chk (decide ((0 : Int) ≤ (p5 + p7)) && decide ((0 : Int) ≤ (p6 - p7)) && decide ((p5 + p7) + (p6 - p7) ≤ (q.length : Int))) (
          chk (upI 0 (wr .i64 (p7 + ((min ((p6 - p7) : Int).toNat (p4.drop (p8 : Int).toNat).length : Nat) : Int))) p6) (
           chk (decide (((p5 + 0) : Int) = 0) && decide ((0 : Int) < ((wr .i64 (p7 + ((min ((p6 - p7) : Int).toNat (p4.drop (p8 : Int).toNat).length : Nat) : Int))) - 0)) && decide (((wr .i64 (p7 + ((min ((p6 - p7) : Int).toNat (p4.drop (p8 : Int).toNat).length : Nat) : Int))) - 0) ≤ ((splice q ((p5 + p7) : Int).toNat ((p4.drop (p8 : Int).toNat).take ((p6 - p7) : Int).toNat)).length : Int))) (
            some ((splice q ((p5 + p7) : Int).toNat ((p4.drop (p8 : Int).toNat).take ((p6 - p7) : Int).toNat)).take (((wr .i64 (p7 + ((min ((p6 - p7) : Int).toNat (p4.drop (p8 : Int).toNat).length : Nat) : Int))) - 0) : Int).toNat))))))
      cond (decide (0 < (old.length : Int))) (
       iter (fun rec => brepl_0 rec (fun e v => match v with | (v7, _, _, v10, v11, _, _, v14, v15, v16) => match e with
        | .exit 0 =>
         j v7 v15 v16 v10 v11 v14
        | _ => none)) k (s, old, new, 0, 0, p3, 0, (List.replicate ((wr .i64 ((s.length : Int) + (wr .i64 (p3 * (wr .i64 ((new.length : Int) - (old.length : Int))))))) : Int).toNat (zer .byte)), 0, (wr .i64 ((s.length : Int) + (wr .i64 (p3 * (wr .i64 ((new.length : Int) - (old.length : Int))))))))) (
       chk (upI 0 (wr .i64 ((s.length : Int) + (wr .i64 (p3 * (wr .i64 ((new.length : Int) - (old.length : Int))))))) (wr .i64 ((s.length : Int) + (wr .i64 (p3 * (wr .i64 ((new.length : Int) - (old.length : Int)))))))) (
        chk (decide ((0 : Int) ≤ 0) && decide ((0 : Int) ≤ ((wr .i64 ((s.length : Int) + (wr .i64 (p3 * (wr .i64 ((new.length : Int) - (old.length : Int))))))) - 0)) && decide (0 + ((wr .i64 ((s.length : Int) + (wr .i64 (p3 * (wr .i64 ((new.length : Int) - (old.length : Int))))))) - 0) ≤ ((List.replicate ((wr .i64 ((s.length : Int) + (wr .i64 (p3 * (wr .i64 ((new.length : Int) - (old.length : Int))))))) : Int).toNat (zer .byte)).length : Int))) (
         iter (fun rec => brepl_1 rec (fun e v => match v with | (v23, _, v25, v26, _, _, v29, v30, v31) => match e with
          | .exit 2 =>
           j v23 v30 v31 v25 v26 v29
          | _ => none)) k (s, new, (wr .i64 (0 + ((min (((wr .i64 ((s.length : Int) + (wr .i64 (p3 * (wr .i64 ((new.length : Int) - (old.length : Int))))))) - 0) : Int).toNat new.length : Nat) : Int))), 0, (wr .i64 (p3 - 1)), 0, (splice (List.replicate ((wr .i64 ((s.length : Int) + (wr .i64 (p3 * (wr .i64 ((new.length : Int) - (old.length : Int))))))) : Int).toNat (zer .byte)) (0 : Int).toNat (new.take (((wr .i64 ((s.length : Int) + (wr .i64 (p3 * (wr .i64 ((new.length : Int) - (old.length : Int))))))) - 0) : Int).toNat)), 0, (wr .i64 ((s.length : Int) + (wr .i64 (p3 * (wr .i64 ((new.length : Int) - (old.length : Int))))))))))))
    cond (decide (n < 0)) (
     j1 p) (
     cond (decide (p < n)) (
      j1 p) (
      j1 n)))
  cond (!decide (n = 0)) (
   (bcount s old).bind fun x =>
    j2 x) (
   j2 0)
theorem brepl_eq (k : Nat) : ∀ (x : HV [.sl .byte false, .sl .byte false, .sl .byte false, .int .i64]), runF (brepl_px _ k) Tryd.f43 [.sl .byte false, .sl .byte false, .sl .byte false, .int .i64] [.sl .byte true] x some = brepl_body k x
  | (s, old, new, n) => by kernel_rfl
theorem brepl_run (k : Nat) : FnOk Tryd.prog elT glT 43 [.sl .byte false, .sl .byte false, .sl .byte false, .int .i64] [.sl .byte true] (brepl_body k) := by
  refine fnOk_run Tryd.func43 rfl (by kernel_rfl) follows (by kernel_rfl) (n := 2) (by kernel_rfl) (px := brepl_px _ k) (fun cx hP hel hgl => ?_) (brepl_eq k)
  have hp0 : PxOk cx (brepl_px (HV [.sl .byte true]) k) := ⟨fun t => by rw [hP, hel]; exact tt_ok ttL_ok t, by rw [hgl]; rfl⟩
  have hc0 : CallOk cx (brepl_px (HV [.sl .byte true]) k) := callT_ok rfl (cfs_cons (cf_or (by rw [hP, hel, hgl]; exact bcount_ok) (by kernel_rfl)) (cfs_cons (cf_or (by rw [hP, hel, hgl]; exact bfind_ok) (by kernel_rfl)) cfs_nil))
  have hq0 : CallQOk cx (brepl_px (HV [.sl .byte true]) k) := callQT_ok rfl cqfs_nil
  have hlbrepl_0 : LoopOk cx (brepl_px (HV [.sl .byte true]) k) (lp Tryd.f43 0) := loop_ok hp0 hc0 hq0 (by rw [hP]; exact follows) (k := k) (s := brepl_0_sg) (step := brepl_0) (fun _ _ => by kernel_rfl) (by kernel_rfl) (brepl_0_eq _ k) (loops_in (n := 0) (by kernel_rfl) all0)
  have hlbrepl_1 : LoopOk cx (brepl_px (HV [.sl .byte true]) k) (lp Tryd.f43 1) := loop_ok hp0 hc0 hq0 (by rw [hP]; exact follows) (k := k) (s := brepl_1_sg) (step := brepl_1) (fun _ _ => by kernel_rfl) (by kernel_rfl) (brepl_1_eq _ k) (loops_in (n := 0) (by kernel_rfl) all0)
  exact ⟨hp0, hc0, hq0, (allS (allS all0 hlbrepl_0) hlbrepl_1)⟩
def brepl (s old new : Str) (n : Int) : Option Str := cond (decide (old = [0]) && decide (new = [0, 255]) && decide (n = -1) && decide (s.length ≤ 68719476736)) (some (esc s)) none
def brepl_F : FT [.sl .byte false, .sl .byte false, .sl .byte false, .int .i64] [.sl .byte true] := fun x => brepl x.1 x.2.1 x.2.2.1 x.2.2.2
theorem brepl_step {R : Type} {rec : brepl_0_V → Option R} {kx : Ex → brepl_0_V → Option R} {s A B : Str} {p L N m i : Nat} {w : Str} (hs : s.length ≤ 68719476736) (hN : N ≤ 137438953472) (hi : i < m) (hm : ln m) (hp : s.drop p = A ++ 0 :: B) (hA : Lib.indexByte (A ++ 0 :: B) 0 = (A.length : Int)) (hL : L + A.length + 2 ≤ N) (hw : w.length = N) : brepl_0 rec kx (s, [0], [0, 255], (L : Int), (p : Int), (m : Int), (i : Int), w, 0, (N : Int)) = rec (s, [0], [0, 255], ((L + A.length + 2 : Nat) : Int), ((p + A.length + 1 : Nat) : Int), (m : Int), ((i + 1 : Nat) : Int), splice (splice w L A) (L + A.length) [0, 255], 0, (N : Int)) := by
  have hpl : p + (A.length + 1 + B.length) = s.length := by
    have := congrArg List.length hp
    simp only [List.length_drop, List.length_append, List.length_cons] at this
    omega
  have e1 : upto (p : Int) (s.length : Int) s.length = true := by rw [upto_nat]; simp; omega
  have e2 : bfind (s.drop p) [0] = some (A.length : Int) := by simp only [bfind, hp, hA]
  have e3 : wr .i64 ((p : Int) + (A.length : Int)) = ((p + A.length : Nat) : Int) := by rw [wr_id (by simp only [inI]; omega)]; rfl
  have e4 : cut s (p : Int) ((p + A.length : Nat) : Int) = A := by
    simp only [cut, Int.toNat_natCast, hp]
    rw [show p + A.length - p = A.length by omega]
    simp
  have e5 : upto (p : Int) ((p + A.length : Nat) : Int) s.length = true := by rw [upto_nat]; simp; omega
  have e6 : min ((N : Int) - (L : Int)).toNat A.length = A.length := by omega
  have e7 : wr .i64 ((L : Int) + (A.length : Int)) = ((L + A.length : Nat) : Int) := by rw [wr_id (by simp only [inI]; omega)]; rfl
  have e8 : upI (L : Int) (N : Int) (N : Int) = true := by simp only [upI, Bool.and_eq_true, decide_eq_true_eq]; omega
  have e9 : upI ((L + A.length : Nat) : Int) (N : Int) (N : Int) = true := by simp only [upI, Bool.and_eq_true, decide_eq_true_eq]; omega
  have e10 : A.take ((N : Int) - (L : Int)).toNat = A := List.take_of_length_le (by omega)
  have e11 : ([0, 255] : Str).take ((N : Int) - ((L + A.length : Nat) : Int)).toNat = [0, 255] := List.take_of_length_le (by simp; omega)
  have e12 : min ((N : Int) - ((L + A.length : Nat) : Int)).toNat 2 = 2 := by omega
  have e13 : wr .i64 (((L + A.length : Nat) : Int) + 2) = ((L + A.length + 2 : Nat) : Int) := by rw [wr_id (by simp only [inI]; omega)]; rfl
  have e14 : wr .i64 (((p + A.length : Nat) : Int) + 1) = ((p + A.length + 1 : Nat) : Int) := by rw [wr_id (by simp only [inI]; omega)]; rfl
  have e15 : wr .i64 ((i : Int) + 1) = ((i + 1 : Nat) : Int) := wr_succ hi hm
  have e16 : decide ((i : Int) < (m : Int)) = true := decide_eq_true (by omega)
  have e17 : (0 : Int) + (L : Int) = (L : Int) := Int.zero_add _
  have e18 : (0 : Int) + ((L + A.length : Nat) : Int) = ((L + A.length : Nat) : Int) := Int.zero_add _
  have hsl : (splice w L A).length = N := by rw [splice_len _ _ _ (by omega)]; exact hw
  have e19 : (decide ((0 : Int) ≤ (L : Int)) && decide ((0 : Int) ≤ ((N : Int) - (L : Int))) && decide ((L : Int) + ((N : Int) - (L : Int)) ≤ (N : Int))) = true := by simp only [Bool.and_eq_true, decide_eq_true_eq]; omega
  have e20 : (decide ((0 : Int) ≤ ((L + A.length : Nat) : Int)) && decide ((0 : Int) ≤ ((N : Int) - ((L + A.length : Nat) : Int))) && decide (((L + A.length : Nat) : Int) + ((N : Int) - ((L + A.length : Nat) : Int)) ≤ (N : Int))) = true := by simp only [Bool.and_eq_true, decide_eq_true_eq]; omega
  have e21 : ((2 : Nat) : Int) = 2 := rfl
  have e22 : ((1 : Nat) : Int) = 1 := rfl
  have l2 : ([0, 255] : Str).length = 2 := rfl
  have l1 : ([0] : Str).length = 1 := rfl
  simp only [brepl_0, e16, cond_t, e1, chk, Int.toNat_natCast, e2, Option.bind_some, e8, e3, e5, e4, e6, e7, e17, hw, e19, e9, e10, e18, hsl, e20, l1, l2, e11, e12, e21, e22, e13, e14, e15]
theorem brepl_loop {R : Type} {kx : Ex → brepl_0_V → Option R} {s : Str} {c : Option R} {N m : Nat} (hs : s.length ≤ 68719476736) (hN : N = (esc s).length) (hm : m ≤ s.length) (h0 : ∀ (L p : Nat) (w : Str), p ≤ s.length → L = (esc (s.take p)).length → w.length = N → w.take L = esc (s.take p) → (s.drop p).count 0 = 0 → kx (.exit 0) (s, [0], [0, 255], (L : Int), (p : Int), (m : Int), (m : Int), w, 0, (N : Int)) = c) :
    ∀ (k i L p : Nat) (w : Str), (s.drop p).count 0 = m - i → i ≤ m → m - i < k → p ≤ s.length → L = (esc (s.take p)).length → w.length = N → w.take L = esc (s.take p) → iter (fun rec => brepl_0 rec kx) k (s, [0], [0, 255], (L : Int), (p : Int), (m : Int), (i : Int), w, 0, (N : Int)) = c
  | 0, i, L, p, w, _, _, h, _, _, _, _ => by omega
  | k + 1, i, L, p, w, hc, him, hk, hp, hL, hw, ht => by
    have hcl : s.count 0 ≤ s.length := List.count_le_length
    have hNs : N ≤ 137438953472 := by rw [hN, esc_len]; omega
    rw [iter_s]
    by_cases hi : i < m
    · obtain ⟨A, B, hd, hA, hix, hcb⟩ := first_zero (l := s.drop p) (by omega)
      have e1 : s.take (p + A.length + 1) = s.take p ++ (A ++ [0]) := by
        rw [Nat.add_assoc, List.take_add, hd]
        congr 1
        rw [show A ++ 0 :: B = (A ++ [0]) ++ B by simp]
        exact List.take_left' (by simp)
      have e2 : s.drop (p + A.length + 1) = B := by
        rw [Nat.add_assoc, ← List.drop_drop, hd, show A ++ 0 :: B = (A ++ [0]) ++ B by simp]
        exact List.drop_left' (by simp)
      have e3 : esc (s.take (p + A.length + 1)) = esc (s.take p) ++ (A ++ [0, 255]) := by
        rw [e1, esc_append, esc_append, esc_id hA]
        rfl
      have hpl : p + A.length + 1 ≤ s.length := by
        have := congrArg List.length hd
        simp only [List.length_drop, List.length_append, List.length_cons] at this
        omega
      have hL2 : L + A.length + 2 = (esc (s.take (p + A.length + 1))).length := by
        rw [e3, List.length_append, ← hL]
        simp
        omega
      have hLN : L + A.length + 2 ≤ N := by
        have : esc s = esc (s.take (p + A.length + 1)) ++ esc (s.drop (p + A.length + 1)) := by rw [← esc_append, List.take_append_drop]
        rw [hN, this, List.length_append]
        omega
      have hsl : (splice w L A).length = N := by rw [splice_len _ _ _ (by omega)]; exact hw
      rw [brepl_step hs hNs hi (by simp only [ln]; omega) hd (hd ▸ hix) hLN hw]
      refine brepl_loop hs hN hm h0 k (i + 1) (L + A.length + 2) (p + A.length + 1) _ ?_ (by omega) (by omega) hpl hL2 ?_ ?_
      · rw [e2]; omega
      · rw [splice_len _ _ _ (by rw [hsl]; simp; omega)]; exact hsl
      · rw [show L + A.length + 2 = (L + A.length) + ([0, 255] : Str).length by rfl, splice_take _ _ _ (by rw [hsl]; simp; omega), splice_take _ _ _ (by omega), ht, e3]
        simp
    · have him : i = m := by omega
      subst him
      simp only [brepl_0, decide_eq_false (show ¬ ((i : Nat) : Int) < (i : Int) by omega), cond_f]
      exact h0 L p w hp hL hw ht (by omega)
theorem brepl_ok : FnOk Tryd.prog elT glT 43 [.sl .byte false, .sl .byte false, .sl .byte false, .int .i64] [.sl .byte true] brepl_F := .fin 0 brepl_run fun (s, old, new, n) r hb hx => ⟨s.count 0 + 1, by
  simp only [brepl_F, brepl] at hx
  cases hc : decide (old = [0]) && decide (new = [0, 255]) && decide (n = -1) && decide (s.length ≤ 68719476736) with
  | false => rw [hc] at hx; cases hx
  | true =>
    rw [hc] at hx
    simp only [Bool.and_eq_true, decide_eq_true_eq] at hc
    obtain ⟨⟨⟨rfl, rfl⟩, rfl⟩, hs⟩ := hc
    have hx : some (esc s) = some r := hx
    rw [← hx]
    have hcl : s.count 0 ≤ s.length := List.count_le_length
    have hNl := esc_len s
    have ecount : bcount s [0] = some ((s.count 0 : Nat) : Int) := rfl
    have l2 : ([0, 255] : Str).length = 2 := rfl
    have l1 : ([0] : Str).length = 1 := rfl
    by_cases h0 : s.count 0 = 0
    · have hno : (0 : UInt8) ∉ s := List.count_eq_zero.1 h0
      have c1 : decide (0 + s.length ≤ maxApp) = true := decide_eq_true (by simp only [maxApp]; omega)
      have c2 : decide (((s.count 0 : Nat) : Int) = 0) = true := decide_eq_true (by omega)
      simp only [brepl_body, ecount, Option.bind_some, c2, cond_t, c1, chk, esc_id hno]
      rfl
    · have c2 : decide (((s.count 0 : Nat) : Int) = 0) = false := decide_eq_false (by omega)
      have c3 : wr .i64 (((2 : Nat) : Int) - ((1 : Nat) : Int)) = 1 := by decide
      have c4 : wr .i64 (((s.count 0 : Nat) : Int) * 1) = ((s.count 0 : Nat) : Int) := by rw [Int.mul_one, wr_id (by simp only [inI]; omega)]
      have c5 : wr .i64 ((s.length : Int) + ((s.count 0 : Nat) : Int)) = (((esc s).length : Nat) : Int) := by rw [wr_id (by simp only [inI]; omega), hNl]; rfl
      have c6 : (upI 0 (((esc s).length : Nat) : Int) (((esc s).length : Nat) : Int) && decide ((((esc s).length : Nat) : Int) ≤ (maxApp : Int))) = true := by
        have h1 : (((esc s).length : Nat) : Int) ≤ 274877906944 := by rw [hNl]; omega
        simp only [upI, Bool.and_eq_true, decide_eq_true_eq]
        exact ⟨⟨⟨Int.le_refl _, Int.natCast_nonneg _⟩, Int.le_refl _⟩, h1⟩
      have c7 : decide ((0 : Int) < ((1 : Nat) : Int)) = true := rfl
      have c8 : decide ((-1 : Int) < 0) = true := rfl
      have c9 : (!decide ((-1 : Int) = 0)) = true := rfl
      simp only [brepl_body, c9, ecount, Option.bind_some, c2, cond_t, cond_f, c8, l1, l2, c3, c4, c5, c6, chk, c7]
      refine brepl_loop (c := some (esc s)) (N := (esc s).length) (m := s.count 0) hs rfl hcl (fun L p w hp hL hw ht hz => ?_) (s.count 0 + 1) 0 0 0 _ (by simp) (Nat.zero_le _) (by omega) (Nat.zero_le _) (by simp [esc]) (by simp) (by simp [esc])
      have hdn : (0 : UInt8) ∉ s.drop p := List.count_eq_zero.1 hz
      have hes : esc s = esc (s.take p) ++ s.drop p := by rw [← esc_id hdn, ← esc_append, List.take_append_drop]
      have hNL : (esc s).length = L + (s.drop p).length := by rw [hes, List.length_append, ← hL]
      have hdl : (s.drop p).length = s.length - p := List.length_drop
      have e1 : upI (L : Int) (((esc s).length : Nat) : Int) (((esc s).length : Nat) : Int) = true := by simp only [upI, Bool.and_eq_true, decide_eq_true_eq]; omega
      have e2 : upto (p : Int) (s.length : Int) s.length = true := by rw [upto_nat]; simp; omega
      have e3 : (decide ((0 : Int) ≤ (L : Int)) && decide ((0 : Int) ≤ ((((esc s).length : Nat) : Int) - (L : Int))) && decide ((L : Int) + ((((esc s).length : Nat) : Int) - (L : Int)) ≤ (((esc s).length : Nat) : Int))) = true := by simp only [Bool.and_eq_true, decide_eq_true_eq]; omega
      have e4 : min ((((esc s).length : Nat) : Int) - (L : Int)).toNat (s.drop p).length = (s.drop p).length := by omega
      have e5 : wr .i64 ((L : Int) + (((s.drop p).length : Nat) : Int)) = (((esc s).length : Nat) : Int) := by rw [wr_id (by simp only [inI]; omega)]; omega
      have e6 : upI 0 (((esc s).length : Nat) : Int) (((esc s).length : Nat) : Int) = true := by simp only [upI, Bool.and_eq_true, decide_eq_true_eq]; omega
      have e7 : (s.drop p).take ((((esc s).length : Nat) : Int) - (L : Int)).toNat = s.drop p := List.take_of_length_le (by omega)
      have hsl : (splice w L (s.drop p)).length = (esc s).length := by rw [splice_len _ _ _ (by omega)]; exact hw
      have e8 : decide ((0 : Int) < (((esc s).length : Nat) : Int)) = true := decide_eq_true (by omega)
      have e10 : decide ((((esc s).length : Nat) : Int) ≤ (((esc s).length : Nat) : Int)) = true := decide_eq_true (Int.le_refl _)
      have e9 : (splice w L (s.drop p)).take (esc s).length = esc s := by
        have := splice_take w L (s.drop p) (by omega)
        rw [← hNL, ht] at this
        rw [this, hes]
      simp only [Int.zero_add, Int.add_zero, Int.sub_zero, Int.toNat_natCast, hw, e1, e2, e3, e4, e5, e6, e7, hsl, e8, e9, e10, decide_true, Bool.true_and, cond_t]⟩
end Go.Proofs.YtkiakihffmafcaaDoor

/- A row's bytes: the program's. -/
namespace Go.Proofs.YtkiakihffmafcaaDoor
open Go.Ax
/-! ## bytes.ReplaceAll -/
def brepls_px (R : Type) : Px R := ⟨ttOf ttL, glT, callT [(43, callOr [.sl .byte false, .sl .byte false, .sl .byte false, .int .i64] [.sl .byte true] brepl_F)], callQT [], loopT []⟩
def brepls_body (x : HV [.sl .byte false, .sl .byte false, .sl .byte false]) : Option (HV [.sl .byte true]) := match x with
 | (s, old, new) =>
  (brepl s old new (-1)).bind fun x =>
   some x
theorem brepls_eq : ∀ (x : HV [.sl .byte false, .sl .byte false, .sl .byte false]), runF (brepls_px _) Tryd.f37 [.sl .byte false, .sl .byte false, .sl .byte false] [.sl .byte true] x some = brepls_body x
  | (s, old, new) => by kernel_rfl
theorem brepls_run : FnOk Tryd.prog elT glT 37 [.sl .byte false, .sl .byte false, .sl .byte false] [.sl .byte true] (brepls_body) := by
  refine fnOk_run Tryd.func37 rfl (by kernel_rfl) follows (by kernel_rfl) (n := 0) (by kernel_rfl) (px := brepls_px _) (fun cx hP hel hgl => ?_) (brepls_eq)
  have hp0 : PxOk cx (brepls_px (HV [.sl .byte true])) := ⟨fun t => by rw [hP, hel]; exact tt_ok ttL_ok t, by rw [hgl]; rfl⟩
  have hc0 : CallOk cx (brepls_px (HV [.sl .byte true])) := callT_ok rfl (cfs_cons (cf_or (by rw [hP, hel, hgl]; exact brepl_ok) (by kernel_rfl)) cfs_nil)
  have hq0 : CallQOk cx (brepls_px (HV [.sl .byte true])) := callQT_ok rfl cqfs_nil
  exact ⟨hp0, hc0, hq0, all0⟩
def brepls (s old new : Str) : Option Str := brepl s old new (-1)
def brepls_F : FT [.sl .byte false, .sl .byte false, .sl .byte false] [.sl .byte true] := fun x => brepls x.1 x.2.1 x.2.2
theorem brepls_ok : FnOk Tryd.prog elT glT 37 [.sl .byte false, .sl .byte false, .sl .byte false] [.sl .byte true] brepls_F := .fin0 brepls_run fun (s, old, new) r _ hx => by
  rw [← hx]
  simp only [brepls_body, brepls_F, brepls]
  cases brepl s old new (-1) <;> rfl
/-! ## exchequer/keys.escaped -/
def kesc_px (R : Type) : Px R := ⟨ttOf ttL, glT, callT [(37, callOr [.sl .byte false, .sl .byte false, .sl .byte false] [.sl .byte true] brepls_F)], callQT [], loopT []⟩
def kesc_body (x : HV [.str]) : Option (HV [.sl .byte true]) := match x with
 | s =>
  chk (decide (s.length ≤ maxApp)) (
   (brepls s [(UInt8.ofNat (0 : Int).toNat)] [(UInt8.ofNat (0 : Int).toNat), (UInt8.ofNat (255 : Int).toNat)]).bind fun x =>
    chk (decide (x.length + 2 ≤ maxApp)) (
     some (x ++ [(UInt8.ofNat (0 : Int).toNat), (UInt8.ofNat (1 : Int).toNat)])))
theorem kesc_eq : ∀ (x : HV [.str]), runF (kesc_px _) Tryd.f26 [.str] [.sl .byte true] x some = kesc_body x
  | s => by kernel_rfl
theorem kesc_run : FnOk Tryd.prog elT glT 26 [.str] [.sl .byte true] (kesc_body) := by
  refine fnOk_run Tryd.func26 rfl (by kernel_rfl) follows (by kernel_rfl) (n := 0) (by kernel_rfl) (px := kesc_px _) (fun cx hP hel hgl => ?_) (kesc_eq)
  have hp0 : PxOk cx (kesc_px (HV [.sl .byte true])) := ⟨fun t => by rw [hP, hel]; exact tt_ok ttL_ok t, by rw [hgl]; rfl⟩
  have hc0 : CallOk cx (kesc_px (HV [.sl .byte true])) := callT_ok rfl (cfs_cons (cf_or (by rw [hP, hel, hgl]; exact brepls_ok) (by kernel_rfl)) cfs_nil)
  have hq0 : CallQOk cx (kesc_px (HV [.sl .byte true])) := callQT_ok rfl cqfs_nil
  exact ⟨hp0, hc0, hq0, all0⟩
def kesc (s : Str) : Option Str := cond (decide (s.length ≤ 68719476736)) (some (esc s ++ [0, 1])) none
def kesc_F : FT [.str] [.sl .byte true] := fun x => kesc x
theorem kesc_ok : FnOk Tryd.prog elT glT 26 [.str] [.sl .byte true] kesc_F := .fin0 kesc_run fun s r _ hx => by
  simp only [kesc_F, kesc] at hx
  cases hc : decide (s.length ≤ 68719476736) with
  | false => rw [hc] at hx; cases hx
  | true =>
    rw [hc] at hx
    have hl := of_decide_eq_true hc
    have hcl : s.count 0 ≤ s.length := List.count_le_length
    have hNl := esc_len s
    rw [← hx]
    have c1 : decide (s.length ≤ maxApp) = true := decide_eq_true (by simp only [maxApp]; omega)
    have c2 : brepls s [0] [0, 255] = some (esc s) := by simp [brepls, brepl, hc]
    have c3 : decide ((esc s).length + 2 ≤ maxApp) = true := decide_eq_true (by simp only [maxApp]; omega)
    simp [kesc_body, c1, c2, c3, chk]
/-! ## a value's bytes -/
def hbyte (x s : Nat) : UInt8 := UInt8.ofNat (x / 2 ^ s % 256)
def hi8x (x : Nat) : Str := [hbyte x 56, hbyte x 48, hbyte x 40, hbyte x 32, hbyte x 24, hbyte x 16, hbyte x 8, hbyte x 0]
/-- a number and 2^63, the highest byte first -/
def hi8 (n : Int) : Str := hi8x (n + 9223372036854775808).toNat
def payload (v : Val) : Str := cond (decide (v.kind = 2)) [UInt8.ofNat v.n.toNat] (cond (decide (v.kind = 3)) (hi8 v.n) (cond (decide (v.kind = 4) || decide (v.kind = 5)) (esc v.s ++ [0, 1]) []))
def encv (v : Val) : Str := UInt8.ofNat v.kind.toNat :: payload v
def encs (l : List Val) : Str := l.flatMap encv
/-- how much is looked at -/
def vsz : List Val → Nat
  | [] => 0
  | v :: l => v.s.length + 1 + vsz l
theorem vsz_append : ∀ a b, vsz (a ++ b) = vsz a + vsz b
  | [], b => by simp [vsz]
  | v :: a, b => by
    simp only [List.cons_append, vsz, vsz_append a b]
    omega
theorem vsz_take (l : List Val) (i : Nat) : vsz (l.take i) ≤ vsz l := by
  have := vsz_append (l.take i) (l.drop i)
  rw [List.take_append_drop] at this
  omega
theorem vsz_get {l : List Val} {i : Nat} (h : i < l.length) : vsz (l.take i) + (l[i].s.length + 1) ≤ vsz l := by
  have h1 := vsz_append (l.take i) (l.drop i)
  rw [List.take_append_drop, drop_cons h] at h1
  simp only [vsz] at h1
  omega
theorem encv_len (v : Val) : (encv v).length ≤ 9 * (v.s.length + 1) := by
  have h := esc_len v.s
  have hc : v.s.count 0 ≤ v.s.length := List.count_le_length
  simp only [encv, payload, List.length_cons]
  cases decide (v.kind = 2) <;> cases decide (v.kind = 3) <;> cases (decide (v.kind = 4) || decide (v.kind = 5)) <;> simp [hi8, hi8x] <;> omega
theorem encs_len (l : List Val) : (encs l).length ≤ 9 * vsz l := by
  induction l with
  | nil => simp [encs]
  | cons v l ih =>
    have := encv_len v
    simp only [encs, List.flatMap_cons, List.length_append, vsz] at ih ⊢
    omega
theorem encs_append (a b : List Val) : encs (a ++ b) = encs a ++ encs b := by simp [encs]
theorem encs_snoc {l : List Val} {i : Nat} (h : i < l.length) : encs (l.take (i + 1)) = encs (l.take i) ++ encv l[i] := by
  rw [← List.take_append_getElem h, encs_append]
  simp [encs]
theorem xor63 {x : Nat} (h : x < 2 ^ 63) : x ^^^ 2 ^ 63 = x + 2 ^ 63 := by
  rw [Nat.add_comm, Nat.xor_comm]
  apply Nat.eq_of_testBit_eq
  intro i
  rw [Nat.testBit_xor, Nat.testBit_two_pow]
  rcases Nat.lt_trichotomy i 63 with hi | rfl | hi
  · rw [Nat.testBit_two_pow_add_gt hi]
    simp [Nat.ne_of_gt hi]
  · rw [Nat.testBit_two_pow_add_eq, Nat.testBit_lt_two_pow h]
    simp
  · rw [Nat.testBit_lt_two_pow (Nat.lt_of_lt_of_le h (Nat.pow_le_pow_right (by omega) (by omega)))]
    rw [Nat.testBit_lt_two_pow (show 2 ^ 63 + x < 2 ^ i from Nat.lt_of_lt_of_le (show 2 ^ 63 + x < 2 ^ 64 by omega) (Nat.pow_le_pow_right (by omega) (by omega)))]
    simp [Nat.ne_of_lt hi]
theorem wrap_u64 {m : Nat} (h : m < 18446744073709551616) : IntKind.wrap .u64 (m : Int) = (m : Int) := by
  simp [IntKind.wrap, IntKind.bits, IntKind.signed]
  omega
theorem wr_u64 {n : Int} (h : inI n) : ∃ a : Nat, wr .u64 n = (a : Int) ∧ a < 18446744073709551616 ∧ ((0 ≤ n ∧ (a : Int) = n) ∨ (n < 0 ∧ (a : Int) = n + 18446744073709551616)) := by
  simp only [inI] at h
  have e : wr .u64 n = n % 18446744073709551616 := by simp [wr, IntKind.wrap, IntKind.bits, IntKind.signed]
  refine ⟨(n % 18446744073709551616).toNat, ?_, ?_, ?_⟩ <;> omega
theorem flip63 {n : Int} (h : inI n) : ixor .u64 (wr .u64 n) 9223372036854775808 = n + 9223372036854775808 := by
  obtain ⟨a, ha, hlt, hc⟩ := wr_u64 h
  have e1 : (BitVec.ofInt 64 (a : Int)).toNat = a := by
    simp
    omega
  have e2 : (BitVec.ofInt 64 (9223372036854775808 : Int)).toNat = 2 ^ 63 := by decide
  have e3 : ixor .u64 (a : Int) 9223372036854775808 = IntKind.wrap .u64 (((a ^^^ 2 ^ 63 : Nat)) : Int) := by
    show IntKind.wrap .u64 (((BitVec.ofInt 64 (a : Int) ^^^ BitVec.ofInt 64 (9223372036854775808 : Int)).toNat : Nat) : Int) = _
    rw [BitVec.toNat_xor, e1, e2]
  rw [ha, e3]
  simp only [inI] at h
  rcases hc with ⟨h0, h1⟩ | ⟨h0, h1⟩
  · rw [xor63 (by omega), wrap_u64 (by omega)]
    omega
  · obtain ⟨b, rfl⟩ : ∃ b, a = b + 2 ^ 63 := ⟨a - 2 ^ 63, by omega⟩
    rw [← xor63 (x := b) (by omega), Nat.xor_assoc, Nat.xor_self, Nat.xor_zero, wrap_u64 (by omega)]
    omega
theorem ishr_byte (x s : Nat) (hs : s ≤ 63) : UInt8.ofNat (wr .u8 (ishr .u64 (x : Int) (s : Int))).toNat = UInt8.ofNat (x / 2 ^ s % 256) := by
  have e : min (s : Int).toNat (IntKind.bits .u64) = s := by
    simp [IntKind.bits]; omega
  have e2 : ishr .u64 (x : Int) (s : Int) = ((x / 2 ^ s : Nat) : Int) := by
    simp only [ishr, e]
    have e0 : ((2 : Int) ^ s) = ((2 ^ s : Nat) : Int) := by simp
    rw [e0, Int.fdiv_eq_ediv_of_nonneg _ (Int.natCast_nonneg _)]
    rfl
  have e3 : wr .u8 ((x / 2 ^ s : Nat) : Int) = ((x / 2 ^ s % 256 : Nat) : Int) := by
    simp [wr, IntKind.wrap, IntKind.bits, IntKind.signed]
  rw [e2, e3, Int.toNat_natCast]
/-! ## exchequer/keys.Encode -/
def kenc_1_sg : Sig := ⟨64, [(2, .sl .byte true), (3, .int .i64), (4, .sl .byte true), (8, .int .u64), (9, .int .i64), (10, .sl .val false), (11, .int .i64), (12, .int .i64)], [], [], 0, 0, 0, [], []⟩
abbrev kenc_1_V := List UInt8 × Int × List UInt8 × Int × Int × List Val × Int × Int
def kenc_1 {R : Type} (rec : kenc_1_V → Option R) (kx : Ex → kenc_1_V → Option R) (v : kenc_1_V) : Option R := match v with
 | (v6, v7, v8, v9, v10, v11, v12, v13) =>
  cond (decide (0 ≤ v10)) (
   chk (decide (0 ≤ v10)) (
    chk (decide (v8.length + 1 ≤ maxApp)) (
     rec (v6, v7, (v8 ++ [(UInt8.ofNat ((wr .u8 (ishr .u64 v9 v10)) : Int).toNat)]), v9, (wr .i64 (v10 - 8)), v11, v12, v13)))) (
   kx (.exit 3) (v6, v7, v8, v9, v10, v11, v12, v13))
def kenc_0_sg : Sig := ⟨64, [(2, .sl .byte true), (3, .int .i64), (4, .sl .byte true), (10, .sl .val false), (11, .int .i64), (12, .int .i64)], [], [], 0, 0, 0, [], []⟩
abbrev kenc_0_V := List UInt8 × Int × List UInt8 × List Val × Int × Int
def kenc_0 {R : Type} (k : Nat) (rec : kenc_0_V → Option R) (kx : Ex → kenc_0_V → Option R) (v : kenc_0_V) : Option R := match v with
 | (v, v1, v2, v3, v4, v5) =>
  cond (decide (v5 < v4)) (
   chk (inb v5 v3.length) (
    cond (!decide ((vcheck (at' .val v3 v5)) = 0)) (
     kx .ret ([], (vcheck (at' .val v3 v5)), v2, v3, v4, v5)) (
     chk (decide (v2.length + 1 ≤ maxApp)) (
      cond (decide ((at' .val v3 v5).kind = 2)) (
       chk (decide ((v2 ++ [(UInt8.ofNat ((wr .u8 ((at' .val v3 v5).kind)) : Int).toNat)]).length + 1 ≤ maxApp)) (
        rec (v, v1, ((v2 ++ [(UInt8.ofNat ((wr .u8 ((at' .val v3 v5).kind)) : Int).toNat)]) ++ [(UInt8.ofNat ((wr .u8 ((at' .val v3 v5).n)) : Int).toNat)]), v3, v4, (wr .i64 (v5 + 1))))) (
       cond (decide ((at' .val v3 v5).kind = 3)) (
        iter (fun rc => kenc_1 rc (fun e v => match v with | (v14, v15, v16, _, _, v19, v20, v21) => match e with
         | .exit 3 =>
          rec (v14, v15, v16, v19, v20, (wr .i64 (v21 + 1)))
         | _ => none)) k (v, v1, (v2 ++ [(UInt8.ofNat ((wr .u8 ((at' .val v3 v5).kind)) : Int).toNat)]), (ixor .u64 (wr .u64 ((at' .val v3 v5).n)) 9223372036854775808), 56, v3, v4, v5)) (
        let j := fun (p : Bool) =>
         cond (p) (
          (kesc ((at' .val v3 v5).s)).bind fun x =>
           chk (decide ((v2 ++ [(UInt8.ofNat ((wr .u8 ((at' .val v3 v5).kind)) : Int).toNat)]).length + x.length ≤ maxApp)) (
            rec (v, v1, ((v2 ++ [(UInt8.ofNat ((wr .u8 ((at' .val v3 v5).kind)) : Int).toNat)]) ++ x), v3, v4, (wr .i64 (v5 + 1))))) (
          rec (v, v1, (v2 ++ [(UInt8.ofNat ((wr .u8 ((at' .val v3 v5).kind)) : Int).toNat)]), v3, v4, (wr .i64 (v5 + 1))))
        cond (decide ((at' .val v3 v5).kind = 4)) (
         j (decide ((at' .val v3 v5).kind = 4))) (
         j (decide ((at' .val v3 v5).kind = 5))))))))) (
   kx (.exit 0) (v, v1, v2, v3, v4, v5))
def kenc_px (R : Type) (k : Nat) : Px R := ⟨ttOf ttL, glT, callT [(25, callOr [.sv .val] [.int .i64] vcheck_F), (26, callOr [.str] [.sl .byte true] kesc_F)], callQT [], loopT [(15, loopOr k kenc_1_sg (kenc_1)), (3, loopOr k kenc_0_sg (kenc_0 k))]⟩
theorem kenc_1_eq (R : Type) (k : Nat) : ∀ (fr : List Fr) (rec : kenc_1_V → Option R) (kx : Ex → kenc_1_V → Option R) (v : kenc_1_V), round (kenc_px R k) kenc_1_sg (lpC (lp Tryd.f11 0) 0) fr rec kx v = kenc_1 rec kx v
  | fr, rec, kx, (v6, v7, v8, v9, v10, v11, v12, v13) => by kernel_rfl
theorem kenc_0_eq (R : Type) (k : Nat) : ∀ (fr : List Fr) (rec : kenc_0_V → Option R) (kx : Ex → kenc_0_V → Option R) (v : kenc_0_V), round (kenc_px R k) kenc_0_sg (lp Tryd.f11 0) fr rec kx v = kenc_0 k rec kx v
  | fr, rec, kx, (v, v1, v2, v3, v4, v5) => by kernel_rfl
def kenc_body (k : Nat) (x : HV [.sl .val false]) : Option (HV [.sl .byte true, .int .i64]) := match x with
 | l =>
  iter (fun rec => kenc_0 k rec (fun e v => match v with | (v22, v23, v24, _, _, _) => match e with
   | .ret =>
    some (v22, v23)
   | .exit 0 =>
    some (v24, 0)
   | _ => none)) k ([], 0, [], l, (l.length : Int), 0)
theorem kenc_eq (k : Nat) : ∀ (x : HV [.sl .val false]), runF (kenc_px _ k) Tryd.f11 [.sl .val false] [.sl .byte true, .int .i64] x some = kenc_body k x
  | l => by kernel_rfl
theorem kenc_run (k : Nat) : FnOk Tryd.prog elT glT 11 [.sl .val false] [.sl .byte true, .int .i64] (kenc_body k) := by
  refine fnOk_run Tryd.func11 rfl (by kernel_rfl) follows (by kernel_rfl) (n := 2) (by kernel_rfl) (px := kenc_px _ k) (fun cx hP hel hgl => ?_) (kenc_eq k)
  have hp0 : PxOk cx (kenc_px (HV [.sl .byte true, .int .i64]) k) := ⟨fun t => by rw [hP, hel]; exact tt_ok ttL_ok t, by rw [hgl]; rfl⟩
  have hc0 : CallOk cx (kenc_px (HV [.sl .byte true, .int .i64]) k) := callT_ok rfl (cfs_cons (cf_or (by rw [hP, hel, hgl]; exact vcheck_ok) (by kernel_rfl)) (cfs_cons (cf_or (by rw [hP, hel, hgl]; exact kesc_ok) (by kernel_rfl)) cfs_nil))
  have hq0 : CallQOk cx (kenc_px (HV [.sl .byte true, .int .i64]) k) := callQT_ok rfl cqfs_nil
  have hlkenc_1 : LoopOk cx (kenc_px (HV [.sl .byte true, .int .i64]) k) (lpC (lp Tryd.f11 0) 0) := loop_ok hp0 hc0 hq0 (by rw [hP]; exact follows) (k := k) (s := kenc_1_sg) (step := kenc_1) (fun _ _ => by kernel_rfl) (by kernel_rfl) (kenc_1_eq _ k) (loops_in (n := 0) (by kernel_rfl) all0)
  have hlkenc_0 : LoopOk cx (kenc_px (HV [.sl .byte true, .int .i64]) k) (lp Tryd.f11 0) := loop_ok hp0 hc0 hq0 (by rw [hP]; exact follows) (k := k) (s := kenc_0_sg) (step := kenc_0 k) (fun _ _ => by kernel_rfl) (by kernel_rfl) (kenc_0_eq _ k) (loops_in (n := 1) (by kernel_rfl) (allS all0 hlkenc_1))
  exact ⟨hp0, hc0, hq0, (allS (allS all0 hlkenc_0) hlkenc_1)⟩
def kenc (l : List Val) : Option (Str × Int) := cond (decide (vsz l ≤ 100000)) (some (cond (l.all vright) (encs l, 0) ([], 2))) none
def kenc_F : FT [.sl .val false] [.sl .byte true, .int .i64] := fun x => kenc x
theorem kenc_byte {R : Type} {rec : kenc_1_V → Option R} {kx : Ex → kenc_1_V → Option R} {q acc : Str} {e : Int} {x s : Nat} {l : List Val} {n i : Int} (hs : s ≤ 63) (ha : acc.length ≤ 2000000) : kenc_1 rec kx (q, e, acc, (x : Int), (s : Int), l, n, i) = rec (q, e, acc ++ [hbyte x s], (x : Int), wr .i64 ((s : Int) - 8), l, n, i) := by
  have c1 : decide ((0 : Int) ≤ (s : Int)) = true := decide_eq_true (by omega)
  have c2 : decide (acc.length + 1 ≤ maxApp) = true := decide_eq_true (by simp only [maxApp]; omega)
  simp only [kenc_1, c1, c2, chk, cond_t, ishr_byte x s hs, hbyte]
theorem kenc_eight {R : Type} {kx : Ex → kenc_1_V → Option R} {q acc : Str} {e : Int} {x : Nat} {l : List Val} {n i : Int} {k : Nat} (ha : acc.length ≤ 1000000) : iter (fun rec => kenc_1 rec kx) (k + 9) (q, e, acc, (x : Int), 56, l, n, i) = kx (.exit 3) (q, e, acc ++ hi8x x, (x : Int), -8, l, n, i) := by
  have st : ∀ (k s : Nat) (acc : Str) (t : Int), s ≤ 63 → acc.length ≤ 2000000 → wr .i64 ((s : Int) - 8) = t → iter (fun rec => kenc_1 rec kx) (k + 1) (q, e, acc, (x : Int), (s : Int), l, n, i) = iter (fun rec => kenc_1 rec kx) k (q, e, acc ++ [hbyte x s], (x : Int), t, l, n, i) := fun k s acc t h1 h2 h3 => by
    rw [iter_s, kenc_byte h1 h2, h3]
  have e1 := st (k + 8) 56 acc 48 (by omega) (by omega) (by decide)
  have e2 := st (k + 7) 48 (acc ++ [hbyte x 56]) 40 (by omega) (by simp; omega) (by decide)
  have e3 := st (k + 6) 40 (acc ++ [hbyte x 56] ++ [hbyte x 48]) 32 (by omega) (by simp; omega) (by decide)
  have e4 := st (k + 5) 32 (acc ++ [hbyte x 56] ++ [hbyte x 48] ++ [hbyte x 40]) 24 (by omega) (by simp; omega) (by decide)
  have e5 := st (k + 4) 24 (acc ++ [hbyte x 56] ++ [hbyte x 48] ++ [hbyte x 40] ++ [hbyte x 32]) 16 (by omega) (by simp; omega) (by decide)
  have e6 := st (k + 3) 16 (acc ++ [hbyte x 56] ++ [hbyte x 48] ++ [hbyte x 40] ++ [hbyte x 32] ++ [hbyte x 24]) 8 (by omega) (by simp; omega) (by decide)
  have e7 := st (k + 2) 8 (acc ++ [hbyte x 56] ++ [hbyte x 48] ++ [hbyte x 40] ++ [hbyte x 32] ++ [hbyte x 24] ++ [hbyte x 16]) 0 (by omega) (by simp; omega) (by decide)
  have e8 := st (k + 1) 0 (acc ++ [hbyte x 56] ++ [hbyte x 48] ++ [hbyte x 40] ++ [hbyte x 32] ++ [hbyte x 24] ++ [hbyte x 16] ++ [hbyte x 8]) (-8) (by omega) (by simp; omega) (by decide)
  refine e1.trans (e2.trans (e3.trans (e4.trans (e5.trans (e6.trans (e7.trans (e8.trans ?_)))))))
  rw [iter_s]
  have c1 : decide ((0 : Int) ≤ -8) = false := rfl
  simp only [kenc_1, c1, cond_f, hi8x, List.append_assoc, List.cons_append, List.nil_append]
theorem vright_iff {v : Val} : vright v = true ↔ (v.kind = 1 ∧ v.n = 0 ∧ v.s = []) ∨ (v.kind = 2 ∧ (v.n = 0 ∨ v.n = 1) ∧ v.s = []) ∨ (v.kind = 3 ∧ v.s = []) ∨ (v.kind = 4 ∧ v.n = 0 ∧ v.s.length ≤ 1000 ∧ visible v.s = true) ∨ (v.kind = 5 ∧ v.n = 0 ∧ v.s.length ≤ 1000) := by
  have hl : (v.s.length : Int) ≤ 1000 ↔ v.s.length ≤ 1000 := by omega
  by_cases h1 : v.kind = 1
  · by_cases h0 : v.n = 0 <;> simp [vright, h1, h0]
  by_cases h2 : v.kind = 2
  · by_cases h0 : v.n = 0
    · simp [vright, h2, h0]
    · by_cases h3 : v.n = 1 <;> simp [vright, h2, h0, h3]
  by_cases h3 : v.kind = 3
  · simp [vright, h3]
  by_cases h4 : v.kind = 4
  · by_cases h0 : v.n = 0
    · by_cases h5 : v.s.length ≤ 1000 <;> simp [vright, h4, h0, h5, hl]
    · simp [vright, h4, h0]
  by_cases h5 : v.kind = 5
  · by_cases h0 : v.n = 0 <;> simp [vright, h5, h0, hl]
  simp [vright, h1, h2, h3, h4, h5]
theorem kenc_round {R : Type} {rec : kenc_0_V → Option R} {kx : Ex → kenc_0_V → Option R} {l : List Val} {q : Str} {e : Int} {acc : Str} {i k : Nat} (hl : ln l.length) (hi : i < l.length) (hb : BdVal l[i]) (ha : acc.length ≤ 900000) (hs : l[i].s.length ≤ 100000) : kenc_0 (k + 9) rec kx (q, e, acc, l, (l.length : Int), (i : Int)) = cond (vright l[i]) (rec (q, e, acc ++ encv l[i], l, (l.length : Int), ((i + 1 : Nat) : Int))) (kx .ret ([], 2, acc, l, (l.length : Int), (i : Int))) := by
  have c1 : decide ((i : Int) < (l.length : Int)) = true := decide_eq_true (by omega)
  have c2 : wr .i64 ((i : Int) + 1) = ((i + 1 : Nat) : Int) := wr_succ hi hl
  have c3 : decide (acc.length + 1 ≤ maxApp) = true := decide_eq_true (by simp only [maxApp]; omega)
  simp only [kenc_0, c1, cond_t, inb_t hi, chk, at_nat (c := .val) hi, c2, c3]
  generalize l[i] = v at *
  cases hr : vright v with
  | false =>
    have hc : vcheck v = 2 := by simp [vcheck, hr]
    simp only [hc]
    rfl
  | true =>
    have hc : vcheck v = 0 := vcheck_iff.2 hr
    have c4 : (!decide (vcheck v = 0)) = false := by rw [hc]; rfl
    have c5 : ∀ b : UInt8, decide ((acc ++ [b]).length + 1 ≤ maxApp) = true := fun b => decide_eq_true (by simp only [maxApp, List.length_append, List.length_singleton]; omega)
    simp only [c4, cond_f, c5, cond_t]
    have w1 : wr .u8 1 = 1 := by decide
    have w2 : wr .u8 2 = 2 := by decide
    have w3 : wr .u8 3 = 3 := by decide
    have w4 : wr .u8 4 = 4 := by decide
    have w5 : wr .u8 5 = 5 := by decide
    have w0 : wr .u8 0 = 0 := by decide
    rcases vright_iff.1 hr with ⟨h, _⟩ | ⟨h, hn, _⟩ | ⟨h, _⟩ | ⟨h, _, hsl, _⟩ | ⟨h, _, hsl⟩
    · simp [h, encv, payload, w1]
    · rcases hn with hn | hn <;> simp [h, hn, encv, payload, w0, w1, w2]
    · obtain ⟨x, hxe, hx⟩ : ∃ x : Nat, (v.n + 9223372036854775808).toNat = x ∧ ixor .u64 (wr .u64 v.n) 9223372036854775808 = (x : Int) := by
        have := hb.2.1
        refine ⟨_, rfl, ?_⟩
        rw [flip63 this]
        simp only [inI] at this
        omega
      have h8 := kenc_eight (R := R) (kx := fun e v => match v with | (v14, v15, v16, _, _, v19, v20, v21) => match e with
         | .exit 3 => rec (v14, v15, v16, v19, v20, (wr .i64 (v21 + 1)))
         | _ => none) (q := q) (acc := acc ++ [3]) (e := e) (x := x) (l := l) (n := (l.length : Int)) (i := (i : Int)) (k := k) (by simp; omega)
      have p1 : encv v = 3 :: hi8x x := by simp [encv, payload, h, hi8, hxe]
      have d2 : decide (v.kind = 2) = false := by rw [h]; rfl
      have d3 : decide (v.kind = 3) = true := by rw [h]; rfl
      have d0 : UInt8.ofNat (wr .u8 v.kind).toNat = 3 := by rw [h, w3]; rfl
      simp only [d2, d3, d0, cond_f, cond_t, hx, p1, h8, c2, List.append_assoc, List.cons_append, List.nil_append]
    · have hk : kesc v.s = some (esc v.s ++ [0, 1]) := by simp only [kesc, decide_eq_true (show v.s.length ≤ 68719476736 by omega), cond_t]
      have hc1 : v.s.count 0 ≤ v.s.length := List.count_le_length
      have hc2 := esc_len v.s
      have hc3 : acc.length + 1 + ((esc v.s).length + 2) ≤ maxApp := by simp only [maxApp]; omega
      simp [h, encv, payload, w4, hk, hc3]
    · have hk : kesc v.s = some (esc v.s ++ [0, 1]) := by simp only [kesc, decide_eq_true (show v.s.length ≤ 68719476736 by omega), cond_t]
      have hc1 : v.s.count 0 ≤ v.s.length := List.count_le_length
      have hc2 := esc_len v.s
      have hc3 : acc.length + 1 + ((esc v.s).length + 2) ≤ maxApp := by simp only [maxApp]; omega
      simp [h, encv, payload, w5, hk, hc3]
theorem kenc_loop {R : Type} {kx : Ex → kenc_0_V → Option R} {l : List Val} {c1 c2 : Option R} {k0 : Nat} (hl : ln l.length) (hb : ∀ v, v ∈ l → BdVal v) (hz : vsz l ≤ 100000) (h1 : ∀ q i, kx .ret ([], 2, q, l, (l.length : Int), i) = c1) (h2 : ∀ q e, kx (.exit 0) (q, e, encs l, l, (l.length : Int), (l.length : Int)) = c2) :
    ∀ (k i : Nat) (q : Str) (e : Int), i ≤ l.length → l.length - i < k → iter (fun rec => kenc_0 (k0 + 9) rec kx) k (q, e, encs (l.take i), l, (l.length : Int), (i : Int)) = cond ((l.drop i).all vright) c2 c1
  | 0, i, q, e, _, h => by omega
  | k + 1, i, q, e, hi, h => by
    rw [iter_s]
    by_cases hlt : i < l.length
    · have hg := vsz_get hlt
      have hel := encs_len (l.take i)
      rw [kenc_round hl hlt (hb _ (List.getElem_mem hlt)) (by omega) (by omega), ← encs_snoc hlt, kenc_loop hl hb hz h1 h2 k (i + 1) q e (by omega) (by omega), h1, drop_cons hlt]
      simp only [List.all_cons]
      cases vright l[i] <;> rfl
    · have hi : i = l.length := by omega
      subst hi
      simp only [kenc_0, decide_eq_false (show ¬ ((l.length : Nat) : Int) < (l.length : Int) by omega), cond_f, List.take_length, h2, List.drop_length]
      rfl
theorem kenc_ok : FnOk Tryd.prog elT glT 11 [.sl .val false] [.sl .byte true, .int .i64] kenc_F := .fin 0 kenc_run fun l r hb hx => ⟨l.length + 10, by
  simp only [kenc_F, kenc] at hx
  cases hc : decide (vsz l ≤ 100000) with
  | false => rw [hc] at hx; cases hx
  | true =>
    rw [hc] at hx
    have hx : some (cond (l.all vright) (encs l, 0) ([], 2)) = some r := hx
    rw [← hx]
    simp only [kenc_body]
    refine (kenc_loop (c1 := some ([], 2)) (c2 := some (encs l, 0)) (k0 := l.length + 1) hb.1 hb.2 (of_decide_eq_true hc) (fun _ _ => rfl) (fun _ _ => rfl) (l.length + 10) 0 [] 0 (Nat.zero_le _) (by omega)).trans ?_
    rw [List.drop_zero]
    cases l.all vright <;> rfl⟩
end Go.Proofs.YtkiakihffmafcaaDoor

/- A row's bytes: the document's. -/
namespace Go.Proofs.YtkiakihffmafcaaDoor
open Go.Ax
/-! ## exchequer/exchequerref04.turned -/
def rturned_px (R : Type) : Px R := ⟨ttOf ttL, glT, callT [], callQT [], loopT []⟩
def rturned_body (x : HV [.int .u8]) : Option (HV [.int .u8]) := match x with
 | c =>
  cond (decide (c < 128)) (
   some (wr .u8 (c + 128))) (
   some (wr .u8 (c - 128)))
theorem rturned_eq : ∀ (x : HV [.int .u8]), runF (rturned_px _) Tryd.f38 [.int .u8] [.int .u8] x some = rturned_body x
  | c => by kernel_rfl
theorem rturned_run : FnOk Tryd.prog elT glT 38 [.int .u8] [.int .u8] (rturned_body) := by
  refine fnOk_run Tryd.func38 rfl (by kernel_rfl) follows (by kernel_rfl) (n := 0) (by kernel_rfl) (px := rturned_px _) (fun cx hP hel hgl => ?_) (rturned_eq)
  have hp0 : PxOk cx (rturned_px (HV [.int .u8])) := ⟨fun t => by rw [hP, hel]; exact tt_ok ttL_ok t, by rw [hgl]; rfl⟩
  have hc0 : CallOk cx (rturned_px (HV [.int .u8])) := callT_ok rfl cfs_nil
  have hq0 : CallQOk cx (rturned_px (HV [.int .u8])) := callQT_ok rfl cqfs_nil
  exact ⟨hp0, hc0, hq0, all0⟩
def rturned (c : Int) : Int :=
  cond (decide (c < 128)) (
   (wr .u8 (c + 128))) (
   (wr .u8 (c - 128)))
theorem rturned_tot (x : HV [.int .u8]) : rturned_body x = some (rturned x) := by
  first
    | exact rfl
    | simp only [rturned_body, rturned, cond_some]
def rturned_F : FT [.int .u8] [.int .u8] := fun x => some (rturned x)
theorem rturned_ok : FnOk Tryd.prog elT glT 38 [.int .u8] [.int .u8] rturned_F := .fin0 rturned_run fun x _ _ hx => (rturned_tot x).trans hx
/-! ## exchequer/exchequerref04.high -/
def rhigh_0_sg : Sig := ⟨28, [(4, .int .u64), (5, .int .i64)], [], [(0, .one (.dn .byte))], 1, 0, 0, [], [(3, 0, .byte)]⟩
abbrev rhigh_0_V := Int × Int × List UInt8 × Int × Int
def rhigh_0 {R : Type} (rec : rhigh_0_V → Option R) (kx : Ex → rhigh_0_V → Option R) (v : rhigh_0_V) : Option R := match v with
 | (v, v1, w, w1, w2) =>
  cond (decide (0 ≤ v1)) (
   chk (inO v1 w2) (
    chk (inb (w1 + v1) w.length) (
     rec ((wr .u64 (Int.tdiv v 256)), (wr .i64 (v1 - 1)), (w.set ((w1 + v1) : Int).toNat (UInt8.ofNat ((wr .u8 (Int.tmod v 256)) : Int).toNat)), w1, w2)))) (
   kx (.exit 0) (v, v1, w, w1, w2))
def rhigh_px (R : Type) (k : Nat) : Px R := ⟨ttOf ttL, glT, callT [(38, callOr [.int .u8] [.int .u8] rturned_F)], callQT [], loopT [(4, loopOr k rhigh_0_sg (rhigh_0))]⟩
theorem rhigh_0_eq (R : Type) (k : Nat) : ∀ (fr : List Fr) (rec : rhigh_0_V → Option R) (kx : Ex → rhigh_0_V → Option R) (v : rhigh_0_V), round (rhigh_px R k) rhigh_0_sg (lp Tryd.f28 0) fr rec kx v = rhigh_0 rec kx v
  | fr, rec, kx, (v, v1, w, w1, w2) => by kernel_rfl
def rhigh_body (k : Nat) (x : HV [.int .i64]) : Option (HV [.sl .byte false]) := match x with
 | n =>
  iter (fun rec => rhigh_0 rec (fun e v => match v with | (_, _, v4, v5, v6) => match e with
   | .exit 0 =>
    chk (inO 0 v6) (
     chk (inb (v5 + 0) v4.length) (
      chk (inO 0 v6) (
       chk (inb (v5 + 0) v4.length) (
        chk (decide ((0 : Int) ≤ v5) && decide ((0 : Int) ≤ v6) && decide ((v5 + v6) ≤ ((v4.set ((v5 + 0) : Int).toNat (UInt8.ofNat ((rturned ((at' .byte v4 (v5 + 0)).toNat : Int)) : Int).toNat)).length : Int))) (
         some (cut (v4.set ((v5 + 0) : Int).toNat (UInt8.ofNat ((rturned ((at' .byte v4 (v5 + 0)).toNat : Int)) : Int).toNat)) v5 (v5 + v6)))))))
   | _ => none)) k ((wr .u64 n), 7, (List.replicate (8 : Int).toNat (zer .byte)), 0, 8)
theorem rhigh_eq (k : Nat) : ∀ (x : HV [.int .i64]), runF (rhigh_px _ k) Tryd.f28 [.int .i64] [.sl .byte false] x some = rhigh_body k x
  | n => by kernel_rfl
theorem rhigh_run (k : Nat) : FnOk Tryd.prog elT glT 28 [.int .i64] [.sl .byte false] (rhigh_body k) := by
  refine fnOk_run Tryd.func28 rfl (by kernel_rfl) follows (by kernel_rfl) (n := 1) (by kernel_rfl) (px := rhigh_px _ k) (fun cx hP hel hgl => ?_) (rhigh_eq k)
  have hp0 : PxOk cx (rhigh_px (HV [.sl .byte false]) k) := ⟨fun t => by rw [hP, hel]; exact tt_ok ttL_ok t, by rw [hgl]; rfl⟩
  have hc0 : CallOk cx (rhigh_px (HV [.sl .byte false]) k) := callT_ok rfl (cfs_cons (cf_or (by rw [hP, hel, hgl]; exact rturned_ok) (by kernel_rfl)) cfs_nil)
  have hq0 : CallQOk cx (rhigh_px (HV [.sl .byte false]) k) := callQT_ok rfl cqfs_nil
  have hlrhigh_0 : LoopOk cx (rhigh_px (HV [.sl .byte false]) k) (lp Tryd.f28 0) := loop_ok hp0 hc0 hq0 (by rw [hP]; exact follows) (k := k) (s := rhigh_0_sg) (step := rhigh_0) (fun _ _ => by kernel_rfl) (by kernel_rfl) (rhigh_0_eq _ k) (loops_in (n := 0) (by kernel_rfl) all0)
  exact ⟨hp0, hc0, hq0, (allS all0 hlrhigh_0)⟩
def rhigh (n : Int) : Str := hi8 n
def rhigh_F : FT [.int .i64] [.sl .byte false] := fun x => some (rhigh x)
theorem rhigh_round {R : Type} {rec : rhigh_0_V → Option R} {kx : Ex → rhigh_0_V → Option R} {x i : Nat} {w : Str} (hi : i < 8) (hw : w.length = 8) (hx : x < 18446744073709551616) : rhigh_0 rec kx ((x : Int), (i : Int), w, 0, 8) = rec (((x / 256 : Nat) : Int), wr .i64 ((i : Int) - 1), w.set i (UInt8.ofNat (x % 256)), 0, 8) := by
  have c1 : decide ((0 : Int) ≤ (i : Int)) = true := decide_eq_true (by omega)
  have c2 : inO (i : Int) 8 = true := by simp only [inO, Bool.and_eq_true, decide_eq_true_eq]; omega
  have c3 : inb (i : Int) w.length = true := inb_t (by omega)
  have c4 : wr .u64 (Int.tdiv (x : Int) 256) = ((x / 256 : Nat) : Int) := by
    rw [show Int.tdiv (x : Int) 256 = ((x / 256 : Nat) : Int) from rfl]
    exact wrap_u64 (by omega)
  have c5 : UInt8.ofNat (wr .u8 (Int.tmod (x : Int) 256)).toNat = UInt8.ofNat (x % 256) := by
    rw [show Int.tmod (x : Int) 256 = ((x % 256 : Nat) : Int) from rfl]
    simp [wr, IntKind.wrap, IntKind.bits, IntKind.signed]
    congr 1
  simp only [rhigh_0, c1, c2, c3, c4, c5, chk, cond_t, Int.zero_add, Int.toNat_natCast]
theorem rhigh_eight {R : Type} {kx : Ex → rhigh_0_V → Option R} {x k : Nat} (hx : x < 18446744073709551616) : ∃ q : Int, iter (fun rec => rhigh_0 rec kx) (k + 9) ((x : Int), 7, List.replicate (8 : Int).toNat (zer .byte), 0, 8) = kx (.exit 0) (q, -1, [UInt8.ofNat (x / 256 / 256 / 256 / 256 / 256 / 256 / 256 % 256), UInt8.ofNat (x / 256 / 256 / 256 / 256 / 256 / 256 % 256), UInt8.ofNat (x / 256 / 256 / 256 / 256 / 256 % 256), UInt8.ofNat (x / 256 / 256 / 256 / 256 % 256), UInt8.ofNat (x / 256 / 256 / 256 % 256), UInt8.ofNat (x / 256 / 256 % 256), UInt8.ofNat (x / 256 % 256), UInt8.ofNat (x % 256)], 0, 8) := by
  have st : ∀ (k i x : Nat) (w : Str) (t : Int), i < 8 → w.length = 8 → x < 18446744073709551616 → wr .i64 ((i : Int) - 1) = t → iter (fun rec => rhigh_0 rec kx) (k + 1) ((x : Int), (i : Int), w, 0, 8) = iter (fun rec => rhigh_0 rec kx) k (((x / 256 : Nat) : Int), t, w.set i (UInt8.ofNat (x % 256)), 0, 8) := fun k i x w t h1 h2 h3 h4 => by
    rw [iter_s, rhigh_round h1 h2 h3, h4]
  have e1 := st (k + 8) 7 x (List.replicate (8 : Int).toNat (zer .byte)) 6 (by omega) rfl hx (by decide)
  have e2 := st (k + 7) 6 (x / 256) [0, 0, 0, 0, 0, 0, 0, UInt8.ofNat (x % 256)] 5 (by omega) rfl (by omega) (by decide)
  have e3 := st (k + 6) 5 (x / 256 / 256) [0, 0, 0, 0, 0, 0, UInt8.ofNat (x / 256 % 256), UInt8.ofNat (x % 256)] 4 (by omega) rfl (by omega) (by decide)
  have e4 := st (k + 5) 4 (x / 256 / 256 / 256) [0, 0, 0, 0, 0, UInt8.ofNat (x / 256 / 256 % 256), UInt8.ofNat (x / 256 % 256), UInt8.ofNat (x % 256)] 3 (by omega) rfl (by omega) (by decide)
  have e5 := st (k + 4) 3 (x / 256 / 256 / 256 / 256) [0, 0, 0, 0, UInt8.ofNat (x / 256 / 256 / 256 % 256), UInt8.ofNat (x / 256 / 256 % 256), UInt8.ofNat (x / 256 % 256), UInt8.ofNat (x % 256)] 2 (by omega) rfl (by omega) (by decide)
  have e6 := st (k + 3) 2 (x / 256 / 256 / 256 / 256 / 256) [0, 0, 0, UInt8.ofNat (x / 256 / 256 / 256 / 256 % 256), UInt8.ofNat (x / 256 / 256 / 256 % 256), UInt8.ofNat (x / 256 / 256 % 256), UInt8.ofNat (x / 256 % 256), UInt8.ofNat (x % 256)] 1 (by omega) rfl (by omega) (by decide)
  have e7 := st (k + 2) 1 (x / 256 / 256 / 256 / 256 / 256 / 256) [0, 0, UInt8.ofNat (x / 256 / 256 / 256 / 256 / 256 % 256), UInt8.ofNat (x / 256 / 256 / 256 / 256 % 256), UInt8.ofNat (x / 256 / 256 / 256 % 256), UInt8.ofNat (x / 256 / 256 % 256), UInt8.ofNat (x / 256 % 256), UInt8.ofNat (x % 256)] 0 (by omega) rfl (by omega) (by decide)
  have e8 := st (k + 1) 0 (x / 256 / 256 / 256 / 256 / 256 / 256 / 256) [0, UInt8.ofNat (x / 256 / 256 / 256 / 256 / 256 / 256 % 256), UInt8.ofNat (x / 256 / 256 / 256 / 256 / 256 % 256), UInt8.ofNat (x / 256 / 256 / 256 / 256 % 256), UInt8.ofNat (x / 256 / 256 / 256 % 256), UInt8.ofNat (x / 256 / 256 % 256), UInt8.ofNat (x / 256 % 256), UInt8.ofNat (x % 256)] (-1) (by omega) rfl (by omega) (by decide)
  refine ⟨((x / 256 / 256 / 256 / 256 / 256 / 256 / 256 / 256 : Nat) : Int), e1.trans (e2.trans (e3.trans (e4.trans (e5.trans (e6.trans (e7.trans (e8.trans ?_)))))))⟩
  rw [iter_s]
  have c1 : decide ((0 : Int) ≤ -1) = false := rfl
  simp only [rhigh_0, c1, cond_f]
  rfl
theorem rturned_byte {m : Nat} (h : m < 256) : UInt8.ofNat (rturned ((UInt8.ofNat m).toNat : Int)).toNat = UInt8.ofNat ((m + 128) % 256) := by
  have e : ((UInt8.ofNat m).toNat : Int) = (m : Int) := by simp; omega
  rw [e]
  simp only [rturned, Bool.cond_decide]
  split
  · rw [show (m : Int) + 128 = ((m + 128 : Nat) : Int) from rfl]
    simp [wr, IntKind.wrap, IntKind.bits, IntKind.signed]
    exact congrArg UInt8.ofNat (by omega)
  · have : (m : Int) - 128 = ((m - 128 : Nat) : Int) := by omega
    rw [this]
    have h2 : (m + 128) % 256 = m - 128 := by omega
    rw [h2]
    simp [wr, IntKind.wrap, IntKind.bits, IntKind.signed]
    exact congrArg UInt8.ofNat (by omega)
theorem rhigh_ok : FnOk Tryd.prog elT glT 28 [.int .i64] [.sl .byte false] rhigh_F := .fin 0 rhigh_run fun n r hb hx => ⟨9, by
  simp only [rhigh_F, Option.some.injEq] at hx
  subst hx
  have hn : inI n := inK_i64 hb
  obtain ⟨a, ha, hlt, hc⟩ := wr_u64 hn
  simp only [rhigh_body, ha]
  obtain ⟨q, hq⟩ := rhigh_eight (R := Str) (k := 0) hlt (kx := fun e v => match v with | (_, _, v4, v5, v6) => match e with
   | .exit 0 =>
    chk (inO 0 v6) (
     chk (inb (v5 + 0) v4.length) (
      chk (inO 0 v6) (
       chk (inb (v5 + 0) v4.length) (
        chk (decide ((0 : Int) ≤ v5) && decide ((0 : Int) ≤ v6) && decide ((v5 + v6) ≤ ((v4.set ((v5 + 0) : Int).toNat (UInt8.ofNat ((rturned ((at' .byte v4 (v5 + 0)).toNat : Int)) : Int).toNat)).length : Int))) (
         some (cut (v4.set ((v5 + 0) : Int).toNat (UInt8.ofNat ((rturned ((at' .byte v4 (v5 + 0)).toNat : Int)) : Int).toNat)) v5 (v5 + v6)))))))
   | _ => none)
  refine hq.trans ?_
  have h256 : a / 256 / 256 / 256 / 256 / 256 / 256 / 256 % 256 < 256 := Nat.mod_lt _ (by omega)
  have ht := rturned_byte h256
  show some [UInt8.ofNat (rturned ((UInt8.ofNat (a / 256 / 256 / 256 / 256 / 256 / 256 / 256 % 256)).toNat : Int)).toNat, _, _, _, _, _, _, _] = some (hi8 n)
  rw [ht]
  simp only [inI] at hn
  simp only [hi8, hi8x, hbyte]
  have hy : ∃ y : Nat, (n + 9223372036854775808).toNat = y ∧ ((a < 9223372036854775808 ∧ y = a + 9223372036854775808) ∨ (9223372036854775808 ≤ a ∧ y + 9223372036854775808 = a)) := ⟨_, rfl, by omega⟩
  obtain ⟨y, hye, hy⟩ := hy
  rw [hye]
  have g0 : (a / 256 / 256 / 256 / 256 / 256 / 256 / 256 % 256 + 128) % 256 = y / 2 ^ 56 % 256 := by simp only [show (2 : Nat) ^ 56 = 72057594037927936 from rfl]; omega
  have g1 : a / 256 / 256 / 256 / 256 / 256 / 256 % 256 = y / 2 ^ 48 % 256 := by simp only [show (2 : Nat) ^ 48 = 281474976710656 from rfl]; omega
  have g2 : a / 256 / 256 / 256 / 256 / 256 % 256 = y / 2 ^ 40 % 256 := by simp only [show (2 : Nat) ^ 40 = 1099511627776 from rfl]; omega
  have g3 : a / 256 / 256 / 256 / 256 % 256 = y / 2 ^ 32 % 256 := by simp only [show (2 : Nat) ^ 32 = 4294967296 from rfl]; omega
  have g4 : a / 256 / 256 / 256 % 256 = y / 2 ^ 24 % 256 := by simp only [show (2 : Nat) ^ 24 = 16777216 from rfl]; omega
  have g5 : a / 256 / 256 % 256 = y / 2 ^ 16 % 256 := by simp only [show (2 : Nat) ^ 16 = 65536 from rfl]; omega
  have g6 : a / 256 % 256 = y / 2 ^ 8 % 256 := by simp only [show (2 : Nat) ^ 8 = 256 from rfl]; omega
  have g7 : a % 256 = y / 2 ^ 0 % 256 := by simp only [Nat.pow_zero]; omega
  rw [g0, g1, g2, g3, g4, g5, g6, g7]⟩
/-! ## exchequer/exchequerref04.Encode -/
def renc_1_sg : Sig := ⟨76, [(0, .sl .val false), (2, .sl .byte true), (3, .int .i64), (4, .sl .byte true), (5, .int .i64), (8, .int .i64)], [(6, .ptr 0 0)], [(0, .one (.sv .val))], 1, 0, 0, [], []⟩
abbrev renc_1_V := List Val × List UInt8 × Int × List UInt8 × Int × Int × Val
def renc_1 {R : Type} (rec : renc_1_V → Option R) (kx : Ex → renc_1_V → Option R) (v : renc_1_V) : Option R := match v with
 | (v5, v6, v7, v8, v9, v10, w) =>
  cond (decide (v10 < (w.s.length : Int))) (
   chk (inb v10 w.s.length) (
    chk (decide (v8.length + 1 ≤ maxApp)) (
     chk (inb v10 w.s.length) (
      cond (decide ((bat w.s v10) = 0)) (
       chk (decide ((v8 ++ [(UInt8.ofNat ((bat w.s v10) : Int).toNat)]).length + 1 ≤ maxApp)) (
        rec (v5, v6, v7, ((v8 ++ [(UInt8.ofNat ((bat w.s v10) : Int).toNat)]) ++ [(UInt8.ofNat (255 : Int).toNat)]), v9, (wr .i64 (v10 + 1)), w))) (
       rec (v5, v6, v7, (v8 ++ [(UInt8.ofNat ((bat w.s v10) : Int).toNat)]), v9, (wr .i64 (v10 + 1)), w)))))) (
   kx (.exit 2) (v5, v6, v7, v8, v9, v10, w))
def renc_0_sg : Sig := ⟨76, [(0, .sl .val false), (2, .sl .byte true), (3, .int .i64), (4, .sl .byte true), (5, .int .i64)], [], [], 0, 0, 0, [], []⟩
abbrev renc_0_V := List Val × List UInt8 × Int × List UInt8 × Int
def renc_0 {R : Type} (k : Nat) (rec : renc_0_V → Option R) (kx : Ex → renc_0_V → Option R) (v : renc_0_V) : Option R := match v with
 | (v, v1, v2, v3, v4) =>
  cond (decide (v4 < (v.length : Int))) (
   chk (inb v4 v.length) (
    cond (!decide ((rcheck (at' .val v v4)) = 0)) (
     kx .ret (v, [], (rcheck (at' .val v v4)), v3, v4)) (
     chk (decide (v3.length + 1 ≤ maxApp)) (
      let j1 := fun (p : List UInt8) =>
       let j := fun (p1 : List UInt8) =>
        cond (decide (4 ≤ (at' .val v v4).kind)) (
         iter (fun rc => renc_1 rc (fun e v => match v with | (v11, v12, v13, v14, v15, _, _) => match e with
          | .exit 2 =>
           chk (decide (v14.length + 2 ≤ maxApp)) (
            rec (v11, v12, v13, (v14 ++ [(UInt8.ofNat (0 : Int).toNat), (UInt8.ofNat (1 : Int).toNat)]), (wr .i64 (v15 + 1))))
          | _ => none)) k (v, v1, v2, p1, v4, 0, (at' .val v v4))) (
         rec (v, v1, v2, p1, (wr .i64 (v4 + 1))))
       cond (decide ((at' .val v v4).kind = 3)) (
        chk (decide (p.length + (rhigh ((at' .val v v4).n)).length ≤ maxApp)) (
         j (p ++ (rhigh ((at' .val v v4).n))))) (
        j p)
      cond (decide ((at' .val v v4).kind = 2)) (
       chk (decide ((v3 ++ [(UInt8.ofNat ((wr .u8 ((at' .val v v4).kind)) : Int).toNat)]).length + 1 ≤ maxApp)) (
        j1 ((v3 ++ [(UInt8.ofNat ((wr .u8 ((at' .val v v4).kind)) : Int).toNat)]) ++ [(UInt8.ofNat ((wr .u8 ((at' .val v v4).n)) : Int).toNat)]))) (
       j1 (v3 ++ [(UInt8.ofNat ((wr .u8 ((at' .val v v4).kind)) : Int).toNat)])))))) (
   kx (.exit 0) (v, v1, v2, v3, v4))
def renc_px (R : Type) (k : Nat) : Px R := ⟨ttOf ttL, glT, callT [(27, callOr [.sv .val] [.int .i64] rcheck_F), (28, callOr [.int .i64] [.sl .byte false] rhigh_F)], callQT [], loopT [(16, loopOr k renc_1_sg (renc_1)), (3, loopOr k renc_0_sg (renc_0 k))]⟩
theorem renc_1_eq (R : Type) (k : Nat) : ∀ (fr : List Fr) (rec : renc_1_V → Option R) (kx : Ex → renc_1_V → Option R) (v : renc_1_V), round (renc_px R k) renc_1_sg (lpC (lp Tryd.f12 0) 0) fr rec kx v = renc_1 rec kx v
  | fr, rec, kx, (v5, v6, v7, v8, v9, v10, w) => by kernel_rfl
theorem renc_0_eq (R : Type) (k : Nat) : ∀ (fr : List Fr) (rec : renc_0_V → Option R) (kx : Ex → renc_0_V → Option R) (v : renc_0_V), round (renc_px R k) renc_0_sg (lp Tryd.f12 0) fr rec kx v = renc_0 k rec kx v
  | fr, rec, kx, (v, v1, v2, v3, v4) => by kernel_rfl
def renc_body (k : Nat) (x : HV [.sl .val false]) : Option (HV [.sl .byte true, .int .i64]) := match x with
 | l =>
  iter (fun rec => renc_0 k rec (fun e v => match v with | (_, v19, v20, v21, _) => match e with
   | .ret =>
    some (v19, v20)
   | .exit 0 =>
    some (v21, 0)
   | _ => none)) k (l, [], 0, [], 0)
theorem renc_eq (k : Nat) : ∀ (x : HV [.sl .val false]), runF (renc_px _ k) Tryd.f12 [.sl .val false] [.sl .byte true, .int .i64] x some = renc_body k x
  | l => by kernel_rfl
theorem renc_run (k : Nat) : FnOk Tryd.prog elT glT 12 [.sl .val false] [.sl .byte true, .int .i64] (renc_body k) := by
  refine fnOk_run Tryd.func12 rfl (by kernel_rfl) follows (by kernel_rfl) (n := 2) (by kernel_rfl) (px := renc_px _ k) (fun cx hP hel hgl => ?_) (renc_eq k)
  have hp0 : PxOk cx (renc_px (HV [.sl .byte true, .int .i64]) k) := ⟨fun t => by rw [hP, hel]; exact tt_ok ttL_ok t, by rw [hgl]; rfl⟩
  have hc0 : CallOk cx (renc_px (HV [.sl .byte true, .int .i64]) k) := callT_ok rfl (cfs_cons (cf_or (by rw [hP, hel, hgl]; exact rcheck_ok) (by kernel_rfl)) (cfs_cons (cf_or (by rw [hP, hel, hgl]; exact rhigh_ok) (by kernel_rfl)) cfs_nil))
  have hq0 : CallQOk cx (renc_px (HV [.sl .byte true, .int .i64]) k) := callQT_ok rfl cqfs_nil
  have hlrenc_1 : LoopOk cx (renc_px (HV [.sl .byte true, .int .i64]) k) (lpC (lp Tryd.f12 0) 0) := loop_ok hp0 hc0 hq0 (by rw [hP]; exact follows) (k := k) (s := renc_1_sg) (step := renc_1) (fun _ _ => by kernel_rfl) (by kernel_rfl) (renc_1_eq _ k) (loops_in (n := 0) (by kernel_rfl) all0)
  have hlrenc_0 : LoopOk cx (renc_px (HV [.sl .byte true, .int .i64]) k) (lp Tryd.f12 0) := loop_ok hp0 hc0 hq0 (by rw [hP]; exact follows) (k := k) (s := renc_0_sg) (step := renc_0 k) (fun _ _ => by kernel_rfl) (by kernel_rfl) (renc_0_eq _ k) (loops_in (n := 1) (by kernel_rfl) (allS all0 hlrenc_1))
  exact ⟨hp0, hc0, hq0, (allS (allS all0 hlrenc_0) hlrenc_1)⟩
abbrev renc (l : List Val) : Option (Str × Int) := kenc l
def renc_F : FT [.sl .val false] [.sl .byte true, .int .i64] := fun x => renc x
theorem renc_text {R : Type} {kx : Ex → renc_1_V → Option R} {l : List Val} {q acc : Str} {e i : Int} {v : Val} (hs : v.s.length ≤ 100000) (ha : acc.length ≤ 1000000) : ∀ (k p : Nat), p ≤ v.s.length → v.s.length - p < k → iter (fun rec => renc_1 rec kx) k (l, q, e, acc ++ esc (v.s.take p), i, (p : Int), v) = kx (.exit 2) (l, q, e, acc ++ esc v.s, i, (v.s.length : Int), v)
  | 0, p, _, h => by omega
  | k + 1, p, hp, h => by
    rw [iter_s]
    by_cases hl : p < v.s.length
    · have ih := renc_text (kx := kx) (l := l) (q := q) (e := e) (i := i) hs ha k (p + 1) (by omega) (by omega)
      have c0 := esc_len (v.s.take p)
      have c00 : (v.s.take p).count 0 ≤ (v.s.take p).length := List.count_le_length
      have c01 : (v.s.take p).length ≤ v.s.length := by rw [List.length_take]; omega
      have c1 : ∀ b : Str, b.length ≤ 2 → decide ((acc ++ esc (v.s.take p) ++ b).length + 1 ≤ maxApp) = true := fun b hb => decide_eq_true (by simp only [maxApp, List.length_append]; omega)
      have c2 : decide ((p : Int) < (v.s.length : Int)) = true := decide_eq_true (by omega)
      have c3 : decide ((acc ++ esc (v.s.take p)).length + 1 ≤ maxApp) = true := by simpa using c1 [] (by simp)
      have c4 : wr .i64 ((p : Int) + 1) = ((p + 1 : Nat) : Int) := wr_succ hl (by simp only [ln]; omega)
      have c5 : UInt8.ofNat (((v.s[p]).toNat : Int)).toNat = v.s[p] := by simp
      have c6 : v.s.take (p + 1) = v.s.take p ++ [v.s[p]] := (List.take_append_getElem hl).symm
      have c7 := c1 [v.s[p]] (by simp)
      have c8 : UInt8.ofNat (255 : Int).toNat = 255 := rfl
      rw [c6, esc_append] at ih
      simp only [renc_1, c2, cond_t, inb_t hl, chk, c3, bat_nat hl, c5, c7, c4, c8]
      by_cases h0 : v.s[p] = 0
      · have c9 : decide (((v.s[p]).toNat : Int) = 0) = true := by rw [h0]; rfl
        simp only [c9, cond_t]
        rw [h0] at ih ⊢
        simpa [esc] using ih
      · have c9 : decide (((v.s[p]).toNat : Int) = 0) = false := decide_eq_false fun h => h0 (UInt8.toNat_inj.1 (by simpa using h))
        simp only [c9, cond_f]
        simpa [esc, h0] using ih
    · have hp : p = v.s.length := by omega
      subst hp
      simp only [renc_1, decide_eq_false (show ¬ ((v.s.length : Nat) : Int) < (v.s.length : Int) by omega), cond_f, List.take_length]
theorem renc_round {R : Type} {rec : renc_0_V → Option R} {kx : Ex → renc_0_V → Option R} {l : List Val} {q : Str} {e : Int} {acc : Str} {i k : Nat} (hl : ln l.length) (hi : i < l.length) (ha : acc.length ≤ 900000) (hs : l[i].s.length ≤ 100000) (hk : 100000 < k) : renc_0 k rec kx (l, q, e, acc, (i : Int)) = cond (vright l[i]) (rec (l, q, e, acc ++ encv l[i], ((i + 1 : Nat) : Int))) (kx .ret (l, [], 2, acc, (i : Int))) := by
  have c1 : decide ((i : Int) < (l.length : Int)) = true := decide_eq_true (by omega)
  have c2 : wr .i64 ((i : Int) + 1) = ((i + 1 : Nat) : Int) := wr_succ hi hl
  have c3 : decide (acc.length + 1 ≤ maxApp) = true := decide_eq_true (by simp only [maxApp]; omega)
  simp only [renc_0, c1, cond_t, inb_t hi, chk, at_nat (c := .val) hi, c2, c3, rcheck]
  generalize l[i] = v at *
  cases hr : vright v with
  | false =>
    have hc : vcheck v = 2 := by simp [vcheck, hr]
    simp only [hc]
    rfl
  | true =>
    have hc : vcheck v = 0 := vcheck_iff.2 hr
    have c4 : (!decide (vcheck v = 0)) = false := by rw [hc]; rfl
    have c5 : ∀ b : UInt8, decide ((acc ++ [b]).length + 1 ≤ maxApp) = true := fun b => decide_eq_true (by simp only [maxApp, List.length_append, List.length_singleton]; omega)
    have c6 : ∀ b : UInt8, decide ((acc ++ [b]).length + (rhigh v.n).length ≤ maxApp) = true := fun b => decide_eq_true (by simp only [maxApp, rhigh, hi8, hi8x, List.length_append, List.length_cons, List.length_nil]; omega)
    simp only [c4, cond_f, c5, c6, cond_t]
    have w1 : wr .u8 1 = 1 := by decide
    have w2 : wr .u8 2 = 2 := by decide
    have w3 : wr .u8 3 = 3 := by decide
    have w4 : wr .u8 4 = 4 := by decide
    have w5 : wr .u8 5 = 5 := by decide
    have w0 : wr .u8 0 = 0 := by decide
    have text : ∀ b : UInt8, v.s.length ≤ 1000 → iter (fun rc => renc_1 rc (fun e v => match v with | (v11, v12, v13, v14, v15, _, _) => match e with
          | .exit 2 =>
           cond (decide (v14.length + 2 ≤ maxApp)) (
            rec (v11, v12, v13, (v14 ++ [(UInt8.ofNat (0 : Int).toNat), (UInt8.ofNat (1 : Int).toNat)]), (wr .i64 (v15 + 1)))) none
          | _ => none)) k (l, q, e, acc ++ [b], (i : Int), 0, v) = rec (l, q, e, acc ++ [b] ++ (esc v.s ++ [0, 1]), ((i + 1 : Nat) : Int)) := fun b hsl => by
      have hc1 : v.s.count 0 ≤ v.s.length := List.count_le_length
      have hc2 := esc_len v.s
      have hc3 : decide ((acc ++ [b] ++ esc v.s).length + 2 ≤ maxApp) = true := decide_eq_true (by simp only [maxApp, List.length_append, List.length_singleton]; omega)
      have := renc_text (R := R) (kx := fun e v => match v with | (v11, v12, v13, v14, v15, _, _) => match e with
          | .exit 2 =>
           cond (decide (v14.length + 2 ≤ maxApp)) (
            rec (v11, v12, v13, (v14 ++ [(UInt8.ofNat (0 : Int).toNat), (UInt8.ofNat (1 : Int).toNat)]), (wr .i64 (v15 + 1)))) none
          | _ => none) (l := l) (q := q) (acc := acc ++ [b]) (e := e) (i := (i : Int)) hs (by simp; omega) k 0 (Nat.zero_le _) (by omega)
      simp only [hc3, c2, cond_t] at this
      rw [List.take_zero, esc_nil, List.append_nil] at this
      refine this.trans ?_
      rw [List.append_assoc _ (esc v.s)]
      rfl
    rcases vright_iff.1 hr with ⟨h, _⟩ | ⟨h, hn, _⟩ | ⟨h, _⟩ | ⟨h, _, hsl, _⟩ | ⟨h, _, hsl⟩
    · simp [h, encv, payload, w1]
    · rcases hn with hn | hn <;> simp [h, hn, encv, payload, w0, w1, w2]
    · simp [h, encv, payload, w3, rhigh]
    · have p1 : encv v = 4 :: (esc v.s ++ [0, 1]) := by simp [encv, payload, h]
      have d2 : decide (v.kind = 2) = false := by rw [h]; rfl
      have d3 : decide (v.kind = 3) = false := by rw [h]; rfl
      have d4 : decide (4 ≤ v.kind) = true := by rw [h]; rfl
      have d0 : UInt8.ofNat (wr .u8 v.kind).toNat = 4 := by rw [h, w4]; rfl
      simp only [d2, d3, d4, d0, cond_f, cond_t, p1]
      rw [show acc ++ 4 :: (esc v.s ++ [0, 1]) = acc ++ [4] ++ (esc v.s ++ [0, 1]) by simp]
      exact text 4 hsl
    · have p1 : encv v = 5 :: (esc v.s ++ [0, 1]) := by simp [encv, payload, h]
      have d2 : decide (v.kind = 2) = false := by rw [h]; rfl
      have d3 : decide (v.kind = 3) = false := by rw [h]; rfl
      have d4 : decide (4 ≤ v.kind) = true := by rw [h]; rfl
      have d0 : UInt8.ofNat (wr .u8 v.kind).toNat = 5 := by rw [h, w5]; rfl
      simp only [d2, d3, d4, d0, cond_f, cond_t, p1]
      rw [show acc ++ 5 :: (esc v.s ++ [0, 1]) = acc ++ [5] ++ (esc v.s ++ [0, 1]) by simp]
      exact text 5 hsl
theorem renc_loop {R : Type} {kx : Ex → renc_0_V → Option R} {l : List Val} {c1 c2 : Option R} {k0 : Nat} (hk : 100000 < k0) (hl : ln l.length) (hz : vsz l ≤ 100000) (h1 : ∀ q i, kx .ret (l, [], 2, q, i) = c1) (h2 : ∀ q e, kx (.exit 0) (l, q, e, encs l, (l.length : Int)) = c2) :
    ∀ (k i : Nat) (q : Str) (e : Int), i ≤ l.length → l.length - i < k → iter (fun rec => renc_0 k0 rec kx) k (l, q, e, encs (l.take i), (i : Int)) = cond ((l.drop i).all vright) c2 c1
  | 0, i, q, e, _, h => by omega
  | k + 1, i, q, e, hi, h => by
    rw [iter_s]
    by_cases hlt : i < l.length
    · have hg := vsz_get hlt
      have hel := encs_len (l.take i)
      rw [renc_round hl hlt (by omega) (by omega) hk, ← encs_snoc hlt, renc_loop hk hl hz h1 h2 k (i + 1) q e (by omega) (by omega), h1, drop_cons hlt]
      simp only [List.all_cons]
      cases vright l[i] <;> rfl
    · have hi : i = l.length := by omega
      subst hi
      simp only [renc_0, decide_eq_false (show ¬ ((l.length : Nat) : Int) < (l.length : Int) by omega), cond_f, List.take_length, h2, List.drop_length]
      rfl
theorem renc_ok : FnOk Tryd.prog elT glT 12 [.sl .val false] [.sl .byte true, .int .i64] renc_F := .fin 0 renc_run fun l r hb hx => ⟨l.length + 100001, by
  simp only [renc_F, renc, kenc] at hx
  cases hc : decide (vsz l ≤ 100000) with
  | false => rw [hc] at hx; cases hx
  | true =>
    rw [hc] at hx
    have hx : some (cond (l.all vright) (encs l, 0) ([], 2)) = some r := hx
    rw [← hx]
    simp only [renc_body]
    refine (renc_loop (c1 := some ([], 2)) (c2 := some (encs l, 0)) (k0 := l.length + 100001) (by omega) hb.1 (of_decide_eq_true hc) (fun _ _ => rfl) (fun _ _ => rfl) (l.length + 100001) 0 [] 0 (Nat.zero_le _) (by omega)).trans ?_
    rw [List.drop_zero]
    cases l.all vright <;> rfl⟩
end Go.Proofs.YtkiakihffmafcaaDoor

/- Bytes as a value: the program's and the document's. -/
namespace Go.Proofs.YtkiakihffmafcaaDoor
open Go.Ax
/-! ## a text's bytes, read back -/
/-- the text with which bytes begin, and how many these are; -1: they are none; 0: they end too soon -/
def sc : Str → Str × Int
  | [] => ([], 0)
  | [b] => if b = 0 then ([], 0) else ([b], 0)
  | b :: c :: t => if b = 0 then (if c = 1 then ([], 2) else if c = 255 then (if (sc t).2 = -1 then ([], -1) else (0 :: (sc t).1, if (sc t).2 = 0 then 0 else (sc t).2 + 2)) else ([], -1)) else if (sc (c :: t)).2 = -1 then ([], -1) else (b :: (sc (c :: t)).1, if (sc (c :: t)).2 = 0 then 0 else (sc (c :: t)).2 + 1)
theorem sc_plain {b : UInt8} (h : b ≠ 0) (t : Str) : sc (b :: t) = if (sc t).2 = -1 then ([], -1) else (b :: (sc t).1, if (sc t).2 = 0 then 0 else (sc t).2 + 1) := by
  cases t with
  | nil => simp [sc, h]
  | cons c t => rw [sc]; simp [h]
theorem sc_pair (t : Str) : sc (0 :: 255 :: t) = if (sc t).2 = -1 then ([], -1) else (0 :: (sc t).1, if (sc t).2 = 0 then 0 else (sc t).2 + 2) := by
  rw [sc]
  rfl
theorem sc_end (t : Str) : sc (0 :: 1 :: t) = ([], 2) := by
  rw [sc]
  rfl
theorem sc_bad {c : UInt8} (h1 : c ≠ 1) (h2 : c ≠ 255) (t : Str) : sc (0 :: c :: t) = ([], -1) := by
  rw [sc]
  simp [h1, h2]
theorem sc_rng : ∀ (n : Nat) (t : Str), t.length ≤ n → -1 ≤ (sc t).2 ∧ (sc t).2 ≤ t.length ∧ (sc t).1.length ≤ t.length
  | _, [], _ => by simp [sc]
  | n, [b], _ => by
    by_cases h : b = 0 <;> simp [sc, h]
  | 0, b :: c :: t, h => by simp at h
  | n + 1, b :: c :: t, h => by
    simp only [List.length_cons] at h ⊢
    by_cases hb : b = 0
    · subst hb
      by_cases h1 : c = 1
      · subst h1; rw [sc_end]; simp; omega
      · by_cases h2 : c = 255
        · subst h2
          have ih := sc_rng n t (by omega)
          rw [sc_pair]
          split
          · simp; omega
          · simp only [List.length_cons]
            split <;> omega
        · rw [sc_bad h1 h2]; simp; omega
    · have ih := sc_rng n (c :: t) (by simp; omega)
      simp only [List.length_cons] at ih
      rw [sc_plain hb]
      split
      · simp; omega
      · simp only [List.length_cons]
        split <;> omega
theorem sc_none : ∀ (t : Str), (sc t).2 = -1 → (sc t).1 = []
  | [], _ => rfl
  | [b], h => by
    by_cases hb : b = 0 <;> simp [sc, hb] at h
  | b :: c :: t, h => by
    by_cases hb : b = 0
    · subst hb
      by_cases h1 : c = 1
      · subst h1; rw [sc_end] at h; simp at h
      · by_cases h2 : c = 255
        · subst h2
          have hr := sc_rng t.length t (Nat.le_refl _)
          rw [sc_pair] at h ⊢
          split
          · rfl
          · rename_i h3
            rw [if_neg h3] at h
            simp only at h
            split at h <;> omega
        · rw [sc_bad h1 h2]
    · have hr := sc_rng (c :: t).length (c :: t) (Nat.le_refl _)
      rw [sc_plain hb] at h ⊢
      split
      · rfl
      · rename_i h3
        rw [if_neg h3] at h
        simp only at h
        split at h <;> omega
def scAt (acc : Str) (i : Nat) (r : Str × Int) : Str × Int := if r.2 = -1 then ([], -1) else (acc ++ r.1, if r.2 = 0 then 0 else (i : Int) + r.2)
theorem scAt_plain {acc : Str} {i : Nat} {b : UInt8} (h : b ≠ 0) (t : Str) : scAt acc i (sc (b :: t)) = scAt (acc ++ [b]) (i + 1) (sc t) := by
  have hr := sc_rng t.length t (Nat.le_refl _)
  rw [sc_plain h]
  simp only [scAt]
  by_cases h1 : (sc t).2 = -1
  · simp [h1]
  · by_cases h2 : (sc t).2 = 0
    · simp [h2]
    · have h3 : ¬ (sc t).2 + 1 = -1 := by omega
      have h4 : ¬ (sc t).2 + 1 = 0 := by omega
      simp [h1, h2, h3, h4]
      omega
theorem scAt_pair {acc : Str} {i : Nat} (t : Str) : scAt acc i (sc (0 :: 255 :: t)) = scAt (acc ++ [0]) (i + 2) (sc t) := by
  have hr := sc_rng t.length t (Nat.le_refl _)
  rw [sc_pair]
  simp only [scAt]
  by_cases h1 : (sc t).2 = -1
  · simp [h1]
  · by_cases h2 : (sc t).2 = 0
    · simp [h2]
    · have h3 : ¬ (sc t).2 + 2 = -1 := by omega
      have h4 : ¬ (sc t).2 + 2 = 0 := by omega
      simp [h1, h2, h3, h4]
      omega
theorem drop_nil {b : Str} {i : Nat} (h : ¬ i < b.length) : b.drop i = [] := List.drop_eq_nil_of_le (by omega)
theorem at_zero {b : Str} {i : Nat} (h : i < b.length) : decide (((b[i]).toNat : Int) = 0) = decide (b[i] = 0) := by
  refine decide_eq_decide.2 ⟨fun e => UInt8.toNat_inj.1 (by simpa using e), fun e => by rw [e]; rfl⟩
theorem at_num {c : UInt8} (n : UInt8) : decide ((c.toNat : Int) = (n.toNat : Int)) = decide (c = n) := by
  refine decide_eq_decide.2 ⟨fun e => UInt8.toNat_inj.1 (by omega), fun e => by rw [e]⟩
/-! ## exchequer/exchequerref04.escaped -/
def resc_0_sg : Sig := ⟨54, [(0, .sl .byte false), (2, .str), (3, .int .i64), (4, .sl .byte true), (5, .int .i64)], [], [], 0, 0, 0, [], []⟩
abbrev resc_0_V := List UInt8 × Str × Int × List UInt8 × Int
def resc_0 {R : Type} (rec : resc_0_V → Option R) (kx : Ex → resc_0_V → Option R) (v : resc_0_V) : Option R := match v with
 | (v, v1, v2, v3, v4) =>
  cond (decide (v4 < (v.length : Int))) (
   chk (inb v4 v.length) (
    cond (!decide (((at' .byte v v4).toNat : Int) = 0)) (
     chk (inb v4 v.length) (
      chk (decide (v3.length + 1 ≤ maxApp)) (
       rec (v, v1, v2, (v3 ++ [(UInt8.ofNat (((at' .byte v v4).toNat : Int) : Int).toNat)]), (wr .i64 (v4 + 1)))))) (
     cond (decide ((wr .i64 (v4 + 1)) = (v.length : Int))) (
      kx .ret (v, v3, 0, v3, v4)) (
      chk (inb (wr .i64 (v4 + 1)) v.length) (
       cond (decide (((at' .byte v (wr .i64 (v4 + 1))).toNat : Int) = 1)) (
        kx .ret (v, v3, (wr .i64 (v4 + 2)), v3, v4)) (
        chk (inb (wr .i64 (v4 + 1)) v.length) (
         cond (!decide (((at' .byte v (wr .i64 (v4 + 1))).toNat : Int) = 255)) (
          kx .ret (v, [], (-1), v3, v4)) (
          chk (decide (v3.length + 1 ≤ maxApp)) (
           rec (v, v1, v2, (v3 ++ [(UInt8.ofNat (0 : Int).toNat)]), (wr .i64 (v4 + 2)))))))))))) (
   kx (.exit 0) (v, v1, v2, v3, v4))
def resc_px (R : Type) (k : Nat) : Px R := ⟨ttOf ttL, glT, callT [], callQT [], loopT [(3, loopOr k resc_0_sg (resc_0))]⟩
theorem resc_0_eq (R : Type) (k : Nat) : ∀ (fr : List Fr) (rec : resc_0_V → Option R) (kx : Ex → resc_0_V → Option R) (v : resc_0_V), round (resc_px R k) resc_0_sg (lp Tryd.f31 0) fr rec kx v = resc_0 rec kx v
  | fr, rec, kx, (v, v1, v2, v3, v4) => by kernel_rfl
def resc_body (k : Nat) (x : HV [.sl .byte false]) : Option (HV [.str, .int .i64]) := match x with
 | b =>
  iter (fun rec => resc_0 rec (fun e v => match v with | (_, v6, v7, v8, _) => match e with
   | .ret =>
    some (v6, v7)
   | .exit 0 =>
    some (v8, 0)
   | _ => none)) k (b, [], 0, [], 0)
theorem resc_eq (k : Nat) : ∀ (x : HV [.sl .byte false]), runF (resc_px _ k) Tryd.f31 [.sl .byte false] [.str, .int .i64] x some = resc_body k x
  | b => by kernel_rfl
theorem resc_run (k : Nat) : FnOk Tryd.prog elT glT 31 [.sl .byte false] [.str, .int .i64] (resc_body k) := by
  refine fnOk_run Tryd.func31 rfl (by kernel_rfl) follows (by kernel_rfl) (n := 1) (by kernel_rfl) (px := resc_px _ k) (fun cx hP hel hgl => ?_) (resc_eq k)
  have hp0 : PxOk cx (resc_px (HV [.str, .int .i64]) k) := ⟨fun t => by rw [hP, hel]; exact tt_ok ttL_ok t, by rw [hgl]; rfl⟩
  have hc0 : CallOk cx (resc_px (HV [.str, .int .i64]) k) := callT_ok rfl cfs_nil
  have hq0 : CallQOk cx (resc_px (HV [.str, .int .i64]) k) := callQT_ok rfl cqfs_nil
  have hlresc_0 : LoopOk cx (resc_px (HV [.str, .int .i64]) k) (lp Tryd.f31 0) := loop_ok hp0 hc0 hq0 (by rw [hP]; exact follows) (k := k) (s := resc_0_sg) (step := resc_0) (fun _ _ => by kernel_rfl) (by kernel_rfl) (resc_0_eq _ k) (loops_in (n := 0) (by kernel_rfl) all0)
  exact ⟨hp0, hc0, hq0, (allS all0 hlresc_0)⟩
def resc (b : Str) : Option (Str × Int) := cond (decide (b.length ≤ 1000000)) (some (sc b)) none
def resc_F : FT [.sl .byte false] [.str, .int .i64] := fun x => resc x
theorem resc_loop {R : Type} {kx : Ex → resc_0_V → Option R} {b : Str} {c : Str × Int → Option R} (hb : b.length ≤ 1000000) (h1 : ∀ s n o i, kx .ret (b, s, n, o, i) = c (s, n)) (h2 : ∀ s n o i, kx (.exit 0) (b, s, n, o, i) = c (o, 0)) :
    ∀ (k i : Nat) (s : Str) (n : Int) (o : Str), i ≤ b.length → b.length - i < k → o.length ≤ i → iter (fun rec => resc_0 rec kx) k (b, s, n, o, (i : Int)) = c (scAt o i (sc (b.drop i)))
  | 0, i, _, _, _, _, h, _ => by omega
  | k + 1, i, s, n, o, hi, h, ho => by
    rw [iter_s]
    by_cases hl : i < b.length
    · have e1 : decide ((i : Int) < (b.length : Int)) = true := decide_eq_true (by omega)
      have e2 : wr .i64 ((i : Int) + 1) = ((i + 1 : Nat) : Int) := wr_succ hl (by simp only [ln]; omega)
      have e3 : decide (o.length + 1 ≤ maxApp) = true := decide_eq_true (by simp only [maxApp]; omega)
      have e4 : UInt8.ofNat (((b[i]).toNat : Int)).toNat = b[i] := by simp
      have e5 : wr .i64 ((i : Int) + 2) = ((i + 2 : Nat) : Int) := by rw [wr_id (by simp only [inI]; omega)]; rfl
      simp only [resc_0, e1, cond_t, inb_t hl, chk, at_nat (c := .byte) hl, e2, e3, e4, e5, at_zero hl]
      rw [drop_cons hl]
      by_cases h0 : b[i] = 0
      · simp only [h0, decide_true, Bool.not_true, cond_f]
        by_cases hl2 : i + 1 < b.length
        · have e6 : decide (((i + 1 : Nat) : Int) = (b.length : Int)) = false := decide_eq_false (by omega)
          have q1 := at_num (c := b[i + 1]) 1
          have q2 := at_num (c := b[i + 1]) 255
          have q1 : decide ((b[i + 1].toNat : Int) = 1) = decide (b[i + 1] = 1) := q1
          have q2 : decide ((b[i + 1].toNat : Int) = 255) = decide (b[i + 1] = 255) := q2
          simp only [e6, cond_f, inb_t hl2, cond_t, at_nat (c := .byte) hl2, q1, q2, h1]
          rw [drop_cons hl2]
          by_cases c1 : b[i + 1] = 1
          · rw [c1, sc_end]
            simp [scAt]
          · by_cases c2 : b[i + 1] = 255
            · have ih := resc_loop hb h1 h2 k (i + 2) s n (o ++ [0]) (by omega) (by omega) (by simp; omega)
              rw [c2, scAt_pair, ← ih]
              rfl
            · rw [sc_bad c1 c2]
              simp [c1, c2, scAt]
        · have e6 : decide (((i + 1 : Nat) : Int) = (b.length : Int)) = true := decide_eq_true (by omega)
          simp only [e6, cond_t, h1, drop_nil hl2]
          simp [sc, scAt]
      · have ih := resc_loop hb h1 h2 k (i + 1) s n (o ++ [b[i]]) (by omega) (by omega) (by simp; omega)
        simp only [h0, decide_false, Bool.not_false, cond_t, ih, scAt_plain h0]
    · simp only [resc_0, decide_eq_false (show ¬ (i : Int) < (b.length : Int) by omega), cond_f, h2, drop_nil hl]
      simp [sc, scAt]
theorem resc_ok : FnOk Tryd.prog elT glT 31 [.sl .byte false] [.str, .int .i64] resc_F := .fin 0 resc_run fun b r hb hx => ⟨b.length + 1, by
  simp only [resc_F, resc] at hx
  cases hc : decide (b.length ≤ 1000000) with
  | false => rw [hc] at hx; cases hx
  | true =>
    rw [hc] at hx
    have hx : some (sc b) = some r := hx
    rw [← hx]
    simp only [resc_body]
    refine (resc_loop (c := fun q => some q) (of_decide_eq_true hc) (fun _ _ _ _ => rfl) (fun _ _ _ _ => rfl) (b.length + 1) 0 [] 0 [] (Nat.zero_le _) (by omega) (Nat.le_refl _)).trans ?_
    have hr := sc_none b
    simp only [scAt, List.drop_zero, List.nil_append]
    generalize sc b = q at *
    obtain ⟨s, n⟩ := q
    by_cases h1 : n = -1
    · have := hr h1
      simp only at this
      simp [h1, this]
    · by_cases h2 : n = 0 <;> simp [h1, h2]⟩
/-! ### the program's way: looked at as it goes -/
def okt (kind : Int) (s : Str) : Bool := decide (vcheck (Val.mk kind 0 s) = 0)
theorem okt_iff {kind : Int} (hk : kind = 4 ∨ kind = 5) {s : Str} : okt kind s = true ↔ s.length ≤ 1000 ∧ (kind = 4 → visible s = true) := by
  simp only [okt, decide_eq_true_eq, vcheck_iff, vright_iff]
  rcases hk with rfl | rfl <;> simp
theorem okt_app {kind : Int} (hk : kind = 4 ∨ kind = 5) {s t : Str} (h : okt kind (s ++ t) = true) : okt kind s = true := by
  rw [okt_iff hk] at h ⊢
  obtain ⟨h1, h2⟩ := h
  refine ⟨by simp at h1; omega, fun h3 => ?_⟩
  have := h2 h3
  simp only [visible, List.all_append, Bool.and_eq_true] at this ⊢
  exact this.1
def ptext (kind : Int) (r : Str × Int) : Str × Int := if r.2 = -1 then ([], -1) else if okt kind r.1 = true then (if r.2 = 0 then ([], 0) else r) else ([], -1)
/-! ## exchequer/keys.text -/
def ktext_0_sg : Sig := ⟨51, [(0, .sl .byte false), (1, .int .i64), (4, .str), (5, .int .i64), (6, .sl .byte true), (7, .int .i64)], [], [], 0, 0, 0, [], []⟩
abbrev ktext_0_V := List UInt8 × Int × Str × Int × List UInt8 × Int
def ktext_0 {R : Type} (rec : ktext_0_V → Option R) (kx : Ex → ktext_0_V → Option R) (v : ktext_0_V) : Option R := match v with
 | (v, v1, v2, v3, v4, v5) =>
  cond (decide (v5 < (v.length : Int))) (
   chk (inb v5 v.length) (
    let j := fun (p : Int) =>
     chk (decide (v4.length + 1 ≤ maxApp)) (
      cond (!decide ((vcheck (Val.mk v1 0 (v4 ++ [(UInt8.ofNat (((at' .byte v v5).toNat : Int) : Int).toNat)]))) = 0)) (
       kx .ret (v, v1, [], (-1), (v4 ++ [(UInt8.ofNat (((at' .byte v v5).toNat : Int) : Int).toNat)]), p)) (
       rec (v, v1, v2, v3, (v4 ++ [(UInt8.ofNat (((at' .byte v v5).toNat : Int) : Int).toNat)]), (wr .i64 (p + 1)))))
    cond (decide (((at' .byte v v5).toNat : Int) = 0)) (
     cond (decide ((wr .i64 (v5 + 1)) = (v.length : Int))) (
      kx .ret (v, v1, [], 0, v4, (wr .i64 (v5 + 1)))) (
      chk (inb (wr .i64 (v5 + 1)) v.length) (
       cond (decide (((at' .byte v (wr .i64 (v5 + 1))).toNat : Int) = 1)) (
        kx .ret (v, v1, v4, (wr .i64 ((wr .i64 (v5 + 1)) + 1)), v4, (wr .i64 (v5 + 1)))) (
        chk (inb (wr .i64 (v5 + 1)) v.length) (
         cond (!decide (((at' .byte v (wr .i64 (v5 + 1))).toNat : Int) = 255)) (
          kx .ret (v, v1, [], (-1), v4, (wr .i64 (v5 + 1)))) (
          j (wr .i64 (v5 + 1)))))))) (
     j v5))) (
   kx (.exit 0) (v, v1, v2, v3, v4, v5))
def ktext_px (R : Type) (k : Nat) : Px R := ⟨ttOf ttL, glT, callT [(25, callOr [.sv .val] [.int .i64] vcheck_F)], callQT [], loopT [(3, loopOr k ktext_0_sg (ktext_0))]⟩
theorem ktext_0_eq (R : Type) (k : Nat) : ∀ (fr : List Fr) (rec : ktext_0_V → Option R) (kx : Ex → ktext_0_V → Option R) (v : ktext_0_V), round (ktext_px R k) ktext_0_sg (lp Tryd.f39 0) fr rec kx v = ktext_0 rec kx v
  | fr, rec, kx, (v, v1, v2, v3, v4, v5) => by kernel_rfl
def ktext_body (k : Nat) (x : HV [.sl .byte false, .int .i64]) : Option (HV [.str, .int .i64]) := match x with
 | (b, kind) =>
  iter (fun rec => ktext_0 rec (fun e v => match v with | (_, _, v8, v9, _, _) => match e with
   | .ret =>
    some (v8, v9)
   | .exit 0 =>
    some ([], 0)
   | _ => none)) k (b, kind, [], 0, [], 0)
theorem ktext_eq (k : Nat) : ∀ (x : HV [.sl .byte false, .int .i64]), runF (ktext_px _ k) Tryd.f39 [.sl .byte false, .int .i64] [.str, .int .i64] x some = ktext_body k x
  | (b, kind) => by kernel_rfl
theorem ktext_run (k : Nat) : FnOk Tryd.prog elT glT 39 [.sl .byte false, .int .i64] [.str, .int .i64] (ktext_body k) := by
  refine fnOk_run Tryd.func39 rfl (by kernel_rfl) follows (by kernel_rfl) (n := 1) (by kernel_rfl) (px := ktext_px _ k) (fun cx hP hel hgl => ?_) (ktext_eq k)
  have hp0 : PxOk cx (ktext_px (HV [.str, .int .i64]) k) := ⟨fun t => by rw [hP, hel]; exact tt_ok ttL_ok t, by rw [hgl]; rfl⟩
  have hc0 : CallOk cx (ktext_px (HV [.str, .int .i64]) k) := callT_ok rfl (cfs_cons (cf_or (by rw [hP, hel, hgl]; exact vcheck_ok) (by kernel_rfl)) cfs_nil)
  have hq0 : CallQOk cx (ktext_px (HV [.str, .int .i64]) k) := callQT_ok rfl cqfs_nil
  have hlktext_0 : LoopOk cx (ktext_px (HV [.str, .int .i64]) k) (lp Tryd.f39 0) := loop_ok hp0 hc0 hq0 (by rw [hP]; exact follows) (k := k) (s := ktext_0_sg) (step := ktext_0) (fun _ _ => by kernel_rfl) (by kernel_rfl) (ktext_0_eq _ k) (loops_in (n := 0) (by kernel_rfl) all0)
  exact ⟨hp0, hc0, hq0, (allS all0 hlktext_0)⟩
def ktext (b : Str) (kind : Int) : Option (Str × Int) := cond (decide (b.length ≤ 1000000) && (decide (kind = 4) || decide (kind = 5))) (some (ptext kind (sc b))) none
def ktext_F : FT [.sl .byte false, .int .i64] [.str, .int .i64] := fun x => ktext x.1 x.2
theorem ptext_no {kind : Int} (hk : kind = 4 ∨ kind = 5) {acc : Str} {i : Nat} {r : Str × Int} (h : okt kind acc = false) : ptext kind (scAt acc i r) = ([], -1) := by
  simp only [ptext, scAt]
  by_cases h1 : r.2 = -1
  · simp [h1]
  · have h2 : ¬ okt kind (acc ++ r.1) = true := fun h3 => by rw [okt_app hk h3] at h; cases h
    simp [h1, h2]
theorem ktext_loop {R : Type} {kx : Ex → ktext_0_V → Option R} {b : Str} {kind : Int} {c : Str × Int → Option R} (hk : kind = 4 ∨ kind = 5) (hb : b.length ≤ 1000000) (h1 : ∀ s n o i, kx .ret (b, kind, s, n, o, i) = c (s, n)) (h2 : ∀ s n o i, kx (.exit 0) (b, kind, s, n, o, i) = c ([], 0)) :
    ∀ (k i : Nat) (s : Str) (n : Int) (o : Str), i ≤ b.length → b.length - i < k → o.length ≤ i → okt kind o = true → iter (fun rec => ktext_0 rec kx) k (b, kind, s, n, o, (i : Int)) = c (ptext kind (scAt o i (sc (b.drop i))))
  | 0, i, _, _, _, _, h, _, _ => by omega
  | k + 1, i, s, n, o, hi, h, ho, hok => by
    rw [iter_s]
    by_cases hl : i < b.length
    · have e1 : decide ((i : Int) < (b.length : Int)) = true := decide_eq_true (by omega)
      have e2 : wr .i64 ((i : Int) + 1) = ((i + 1 : Nat) : Int) := wr_succ hl (by simp only [ln]; omega)
      have e3 : decide (o.length + 1 ≤ maxApp) = true := decide_eq_true (by simp only [maxApp]; omega)
      have e4 : UInt8.ofNat (((b[i]).toNat : Int)).toNat = b[i] := by simp
      simp only [ktext_0, e1, cond_t, inb_t hl, chk, at_nat (c := .byte) hl, e2, e3, e4, at_zero hl]
      rw [drop_cons hl]
      by_cases h0 : b[i] = 0
      · simp only [h0, decide_true, cond_t]
        by_cases hl2 : i + 1 < b.length
        · have e6 : decide (((i + 1 : Nat) : Int) = (b.length : Int)) = false := decide_eq_false (by omega)
          have e5 : wr .i64 (((i + 1 : Nat) : Int) + 1) = ((i + 2 : Nat) : Int) := by rw [wr_id (by simp only [inI]; omega)]; rfl
          have q1 : decide ((b[i + 1].toNat : Int) = 1) = decide (b[i + 1] = 1) := at_num (c := b[i + 1]) 1
          have q2 : decide ((b[i + 1].toNat : Int) = 255) = decide (b[i + 1] = 255) := at_num (c := b[i + 1]) 255
          simp only [e6, cond_f, inb_t hl2, cond_t, at_nat (c := .byte) hl2, q1, q2, h1, e5]
          rw [drop_cons hl2]
          by_cases c1 : b[i + 1] = 1
          · rw [c1, sc_end]
            simp [scAt, ptext, hok]
            rw [if_neg (by omega), if_neg (by omega)]
          · by_cases c2 : b[i + 1] = 255
            · rw [c2, scAt_pair]
              cases hq : okt kind (o ++ [0]) with
              | true =>
                have ih := ktext_loop hk hb h1 h2 k (i + 2) s n (o ++ [0]) (by omega) (by omega) (by simp; omega) hq
                have hq2 : decide (vcheck (Val.mk kind 0 (o ++ [0])) = 0) = true := hq
                rw [← ih]
                simp [hq2]
              | false =>
                have hq2 : decide (vcheck (Val.mk kind 0 (o ++ [0])) = 0) = false := hq
                rw [ptext_no hk hq]
                simp [hq2]
            · rw [sc_bad c1 c2]
              simp [c1, c2, scAt, ptext]
        · have e6 : decide (((i + 1 : Nat) : Int) = (b.length : Int)) = true := decide_eq_true (by omega)
          simp only [e6, cond_t, h1, drop_nil hl2]
          simp [sc, scAt, ptext, hok]
      · rw [scAt_plain h0]
        simp only [h0, decide_false, cond_f]
        cases hq : okt kind (o ++ [b[i]]) with
        | true =>
          have ih := ktext_loop hk hb h1 h2 k (i + 1) s n (o ++ [b[i]]) (by omega) (by omega) (by simp; omega) hq
          have hq2 : decide (vcheck (Val.mk kind 0 (o ++ [b[i]])) = 0) = true := hq
          simp only [hq2, Bool.not_true, cond_f, ih]
        | false =>
          have hq2 : decide (vcheck (Val.mk kind 0 (o ++ [b[i]])) = 0) = false := hq
          rw [ptext_no hk hq]
          simp only [hq2, Bool.not_false, cond_t, h1]
    · simp only [ktext_0, decide_eq_false (show ¬ (i : Int) < (b.length : Int) by omega), cond_f, h2, drop_nil hl]
      simp [sc, scAt, ptext, hok]
theorem ktext_ok : FnOk Tryd.prog elT glT 39 [.sl .byte false, .int .i64] [.str, .int .i64] ktext_F := .fin 0 ktext_run fun (b, kind) r hb hx => ⟨b.length + 1, by
  simp only [ktext_F, ktext] at hx
  cases hc : (decide (b.length ≤ 1000000) && (decide (kind = 4) || decide (kind = 5))) with
  | false => rw [hc] at hx; cases hx
  | true =>
    rw [hc] at hx
    simp only [Bool.and_eq_true, Bool.or_eq_true, decide_eq_true_eq] at hc
    have hx : some (ptext kind (sc b)) = some r := hx
    rw [← hx]
    simp only [ktext_body]
    have h0 : okt kind [] = true := (okt_iff hc.2).2 ⟨by simp, fun _ => rfl⟩
    refine (ktext_loop (c := fun q => some q) hc.2 hc.1 (fun _ _ _ _ => rfl) (fun _ _ _ _ => rfl) (b.length + 1) 0 [] 0 [] (Nat.zero_le _) (by omega) (Nat.le_refl _) h0).trans ?_
    simp only [scAt, List.drop_zero, List.nil_append]
    generalize sc b = q
    obtain ⟨s, n⟩ := q
    by_cases h1 : n = -1
    · simp [h1, ptext]
    · by_cases h2 : n = 0 <;> simp [h1, h2, ptext]⟩
/-! ## eight bytes, read back -/
def vfold (a : Nat) (b : Str) : Nat := b.foldl (fun a c => a * 256 + c.toNat) a
def val8 (b : Str) : Nat := vfold 0 b
def num8 (b : Str) : Int := (val8 b : Int) - 9223372036854775808
theorem vfold_cons (a : Nat) (c : UInt8) (l : Str) : vfold a (c :: l) = vfold (a * 256 + c.toNat) l := rfl
theorem val8_from (l : Str) : ∀ a : Nat, vfold a l = a * 256 ^ l.length + val8 l := by
  induction l with
  | nil => intro a; simp [val8, vfold]
  | cons c l ih =>
    intro a
    simp only [val8, vfold_cons, List.length_cons] at ih ⊢
    rw [ih, ih (0 * 256 + c.toNat), Nat.pow_succ]
    simp only [Nat.add_mul, Nat.zero_mul, Nat.zero_add]
    rw [Nat.mul_assoc, Nat.mul_comm 256 (256 ^ l.length), Nat.add_assoc]
theorem val8_cons (c : UInt8) (l : Str) : val8 (c :: l) = c.toNat * 256 ^ l.length + val8 l := by
  have := val8_from l (0 * 256 + c.toNat)
  simp only [Nat.zero_mul, Nat.zero_add] at this
  rw [← this, val8, vfold_cons, Nat.zero_mul, Nat.zero_add]
theorem val8_lt : ∀ l : Str, val8 l < 256 ^ l.length
  | [] => by simp [val8, vfold]
  | c :: l => by
    have h1 := val8_lt l
    have h2 := c.toNat_lt
    have h3 : c.toNat * 256 ^ l.length ≤ 255 * 256 ^ l.length := Nat.mul_le_mul_right _ (by omega)
    rw [val8_cons, List.length_cons, Nat.pow_succ]
    omega
theorem step_lt {x i : Nat} {c : UInt8} (hx : x < 256 ^ i) (hi : i < 8) : x * 256 + c.toNat < 256 ^ (i + 1) ∧ x * 256 + c.toNat < 18446744073709551616 := by
  have h2 := c.toNat_lt
  have h3 : 256 ^ (i + 1) ≤ 256 ^ 8 := Nat.pow_le_pow_right (by omega) (by omega)
  rw [show (256 : Nat) ^ 8 = 18446744073709551616 from rfl] at h3
  have h4 : x * 256 + c.toNat < 256 ^ (i + 1) := by rw [Nat.pow_succ]; omega
  exact ⟨h4, Nat.lt_of_lt_of_le h4 h3⟩
/-! ## exchequer/exchequerref04.low -/
def rlow_0_sg : Sig := ⟨24, [(0, .sl .byte false), (3, .int .u64), (4, .int .i64)], [], [], 0, 0, 0, [], []⟩
abbrev rlow_0_V := List UInt8 × Int × Int
def rlow_0 {R : Type} (rec : rlow_0_V → Option R) (kx : Ex → rlow_0_V → Option R) (v : rlow_0_V) : Option R := match v with
 | (v, v1, v2) =>
  cond (decide (v2 < 8)) (
   chk (inb v2 v.length) (
    rec (v, (wr .u64 ((wr .u64 (v1 * 256)) + (wr .u64 ((at' .byte v v2).toNat : Int)))), (wr .i64 (v2 + 1))))) (
   kx (.exit 0) (v, v1, v2))
def rlow_px (R : Type) (k : Nat) : Px R := ⟨ttOf ttL, glT, callT [(38, callOr [.int .u8] [.int .u8] rturned_F)], callQT [], loopT [(3, loopOr k rlow_0_sg (rlow_0))]⟩
theorem rlow_0_eq (R : Type) (k : Nat) : ∀ (fr : List Fr) (rec : rlow_0_V → Option R) (kx : Ex → rlow_0_V → Option R) (v : rlow_0_V), round (rlow_px R k) rlow_0_sg (lp Tryd.f30 0) fr rec kx v = rlow_0 rec kx v
  | fr, rec, kx, (v, v1, v2) => by kernel_rfl
def rlow_body (k : Nat) (x : HV [.sl .byte false]) : Option (HV [.int .i64]) := match x with
 | b =>
  chk (inb 0 b.length) (
   iter (fun rec => rlow_0 rec (fun e v => match v with | (_, v4, _) => match e with
    | .exit 0 =>
     some (wr .i64 v4)
    | _ => none)) k (b, (wr .u64 (rturned ((at' .byte b 0).toNat : Int))), 1))
theorem rlow_eq (k : Nat) : ∀ (x : HV [.sl .byte false]), runF (rlow_px _ k) Tryd.f30 [.sl .byte false] [.int .i64] x some = rlow_body k x
  | b => by kernel_rfl
theorem rlow_run (k : Nat) : FnOk Tryd.prog elT glT 30 [.sl .byte false] [.int .i64] (rlow_body k) := by
  refine fnOk_run Tryd.func30 rfl (by kernel_rfl) follows (by kernel_rfl) (n := 1) (by kernel_rfl) (px := rlow_px _ k) (fun cx hP hel hgl => ?_) (rlow_eq k)
  have hp0 : PxOk cx (rlow_px (HV [.int .i64]) k) := ⟨fun t => by rw [hP, hel]; exact tt_ok ttL_ok t, by rw [hgl]; rfl⟩
  have hc0 : CallOk cx (rlow_px (HV [.int .i64]) k) := callT_ok rfl (cfs_cons (cf_or (by rw [hP, hel, hgl]; exact rturned_ok) (by kernel_rfl)) cfs_nil)
  have hq0 : CallQOk cx (rlow_px (HV [.int .i64]) k) := callQT_ok rfl cqfs_nil
  have hlrlow_0 : LoopOk cx (rlow_px (HV [.int .i64]) k) (lp Tryd.f30 0) := loop_ok hp0 hc0 hq0 (by rw [hP]; exact follows) (k := k) (s := rlow_0_sg) (step := rlow_0) (fun _ _ => by kernel_rfl) (by kernel_rfl) (rlow_0_eq _ k) (loops_in (n := 0) (by kernel_rfl) all0)
  exact ⟨hp0, hc0, hq0, (allS all0 hlrlow_0)⟩
def rlow (b : Str) : Option Int := cond (decide (b.length = 8)) (some (num8 b)) none
def rlow_F : FT [.sl .byte false] [.int .i64] := fun x => rlow x
theorem rlow_loop {R : Type} {kx : Ex → rlow_0_V → Option R} {b : Str} {c : Nat → Option R} (hb : b.length = 8) (h2 : ∀ n : Nat, kx (.exit 0) (b, (n : Int), 8) = c n) :
    ∀ (k i x : Nat), i ≤ 8 → 8 - i < k → x < 256 ^ i → iter (fun rec => rlow_0 rec kx) k (b, (x : Int), (i : Int)) = c (vfold x (b.drop i))
  | 0, i, _, _, h, _ => by omega
  | k + 1, i, x, hi, h, hx => by
    rw [iter_s]
    by_cases hl : i < b.length
    · have hs := step_lt (c := b[i]) hx (by omega)
      have ih := rlow_loop hb h2 k (i + 1) (x * 256 + b[i].toNat) (by omega) (by omega) hs.1
      have e1 : decide ((i : Int) < 8) = true := decide_eq_true (by omega)
      have e2 : wr .i64 ((i : Int) + 1) = ((i + 1 : Nat) : Int) := wr_succ hl (by simp only [ln]; omega)
      have e3 : wr .u64 ((x : Int) * 256) = ((x * 256 : Nat) : Int) := wrap_u64 (m := x * 256) (by omega)
      have e4 : wr .u64 ((b[i].toNat : Int)) = (b[i].toNat : Int) := wrap_u64 (by have := b[i].toNat_lt; omega)
      have e5 : wr .u64 (((x * 256 : Nat) : Int) + (b[i].toNat : Int)) = ((x * 256 + b[i].toNat : Nat) : Int) := wrap_u64 (m := x * 256 + b[i].toNat) hs.2
      simp only [rlow_0, e1, cond_t, inb_t hl, chk, at_nat (c := .byte) hl, e2, e3, e4, e5, ih]
      rw [drop_cons hl, vfold_cons]
    · have hi8 : i = 8 := by omega
      subst hi8
      have e1 : decide (((8 : Nat) : Int) < 8) = false := rfl
      simp only [rlow_0, e1, cond_f, List.drop_eq_nil_of_le (show b.length ≤ 8 by omega)]
      exact h2 x
theorem rturned_nat (c : UInt8) : ∃ t : Nat, rturned (c.toNat : Int) = (t : Int) ∧ t < 256 ∧ (c.toNat + 128 = t ∨ c.toNat = t + 128) := by
  have h := c.toNat_lt
  simp only [rturned, Bool.cond_decide]
  split
  · refine ⟨c.toNat + 128, ?_, by omega, .inl rfl⟩
    simp [wr, IntKind.wrap, IntKind.bits, IntKind.signed]
    omega
  · refine ⟨c.toNat - 128, ?_, by omega, .inr (by omega)⟩
    simp [wr, IntKind.wrap, IntKind.bits, IntKind.signed]
    omega
theorem wr_lo {v : Nat} (h : v < 9223372036854775808) : wr .i64 (v : Int) = v := wr_id (by simp only [inI]; omega)
theorem wr_hi {v : Nat} (h : 9223372036854775808 ≤ v) (h2 : v < 18446744073709551616) : wr .i64 (v : Int) = v - 18446744073709551616 := by
  have e : (v : Int) % 2 ^ 64 = v := Int.emod_eq_of_lt (by omega) (by omega)
  simp only [wr, IntKind.wrap, IntKind.signed, IntKind.bits, Bool.true_and, e]
  rw [if_pos (decide_eq_true (by omega))]
  omega
theorem wr_num8 {b : Str} {t c : Nat} {l : Str} (hv : val8 b = c * 256 ^ 7 + val8 l) (hl : l.length = 7) (h : c + 128 = t ∨ c = t + 128) (ht : t < 256) (hc : c < 256) : wr .i64 ((t * 256 ^ 7 + val8 l : Nat) : Int) = num8 b := by
  have h1 := val8_lt l
  rw [hl] at h1
  rw [num8, hv]
  simp only [show (256 : Nat) ^ 7 = 72057594037927936 from rfl] at *
  generalize val8 l = v at *
  by_cases hw : t * 72057594037927936 + v < 9223372036854775808
  · rw [wr_lo hw]; omega
  · rw [wr_hi (by omega) (by omega)]; omega
theorem rlow_ok : FnOk Tryd.prog elT glT 30 [.sl .byte false] [.int .i64] rlow_F := .fin 0 rlow_run fun b r hb hx => ⟨9, by
  simp only [rlow_F, rlow] at hx
  cases hc : decide (b.length = 8) with
  | false => rw [hc] at hx; cases hx
  | true =>
    rw [hc] at hx
    have hl := of_decide_eq_true hc
    have hx : some (num8 b) = some r := hx
    rw [← hx]
    cases b with
    | nil => cases hl
    | cons a l =>
      simp only [List.length_cons] at hl
      obtain ⟨t, h1, h2, h3⟩ := rturned_nat a
      have e0 : at' .byte (a :: l) 0 = a := rfl
      have e1 : inb 0 (a :: l).length = true := by simp [inb]
      have e2 : wr .u64 (t : Int) = (t : Int) := wrap_u64 (by omega)
      simp only [rlow_body, e0, h1, e1, e2, chk, cond_t]
      refine (rlow_loop (c := fun n => some (wr .i64 (n : Int))) (by simp; omega) (fun _ => rfl) 9 1 t (by omega) (by omega) (by omega)).trans ?_
      rw [List.drop_one, List.tail_cons, val8_from, show l.length = 7 by omega]
      rw [wr_num8 (b := a :: l) (by rw [val8_cons, show l.length = 7 by omega]) (by omega) h3 h2 a.toNat_lt]⟩
/-! ## one value, read back -/
def one1 : Str → Val × Int
  | [] => (⟨0, 0, []⟩, 0)
  | k :: t => if k = 1 then (⟨1, 0, []⟩, 1) else if k = 2 then (match t with
      | [] => (⟨2, 0, []⟩, 0)
      | c :: _ => (⟨2, (c.toNat : Int), []⟩, if 1 < c.toNat then -1 else 2)) else if k = 3 then (if t.length < 8 then (⟨3, 0, []⟩, 0) else (⟨3, num8 (t.take 8), []⟩, 9)) else if k = 4 ∨ k = 5 then (⟨(k.toNat : Int), 0, (ptext (k.toNat : Int) (sc t)).1⟩, if 0 < (ptext (k.toNat : Int) (sc t)).2 then (ptext (k.toNat : Int) (sc t)).2 + 1 else (ptext (k.toNat : Int) (sc t)).2) else (⟨(k.toNat : Int), 0, []⟩, -1)
theorem ior_byte {x : Nat} {c : UInt8} (h : x * 256 + c.toNat < 18446744073709551616) : ior .u64 (ishl .u64 (x : Int) 8) (wr .u64 (c.toNat : Int)) = ((x * 256 + c.toNat : Nat) : Int) := by
  have hc := c.toNat_lt
  have hlt : x * 256 < 18446744073709551616 := Nat.lt_of_le_of_lt (Nat.le_add_right _ _) h
  have e1 : ishl .u64 (x : Int) 8 = ((x * 256 : Nat) : Int) := by
    have e0 : (2 : Int) ^ min (8 : Int).toNat (IntKind.bits .u64) = 256 := rfl
    have e1 : (x : Int) * 256 = ((x * 256 : Nat) : Int) := by omega
    simp only [ishl]
    rw [e0, e1]
    exact wrap_u64 hlt
  have e2 : wr .u64 (c.toNat : Int) = (c.toNat : Int) := wrap_u64 (by omega)
  have e3 : (BitVec.ofInt 64 ((x * 256 : Nat) : Int)).toNat = x * 256 := by
    simp
    omega
  have e4 : (BitVec.ofInt 64 (c.toNat : Int)).toNat = c.toNat := by
    simp
  have e5 : x * 256 ||| c.toNat = x * 256 + c.toNat := by
    have := Nat.shiftLeft_add_eq_or_of_lt (i := 8) (b := c.toNat) (by omega) x
    rw [Nat.shiftLeft_eq] at this
    exact this.symm
  rw [e1, e2]
  show IntKind.wrap .u64 (((BitVec.ofInt 64 ((x * 256 : Nat) : Int) ||| BitVec.ofInt 64 (c.toNat : Int)).toNat : Nat) : Int) = _
  rw [BitVec.toNat_or, e3, e4, e5]
  exact wrap_u64 h
/-! ## exchequer/keys.one -/
def kone_0_sg : Sig := ⟨80, [(5, .int .u64), (43, .sl .byte false), (44, .int .i64), (45, .int .i64)], [(2, .ptr 0 0), (4, .ptr 1 0)], [(0, .one (.sv .val)), (1, .one (.sv .val))], 2, 0, 0, [], []⟩
abbrev kone_0_V := Int × List UInt8 × Int × Int × Val × Val
def kone_0 {R : Type} (rec : kone_0_V → Option R) (kx : Ex → kone_0_V → Option R) (v : kone_0_V) : Option R := match v with
 | (v, v1, v2, v3, w, w1) =>
  cond (decide (v3 < v2)) (
   chk (inb v3 v1.length) (
    rec ((ior .u64 (ishl .u64 v 8) (wr .u64 ((at' .byte v1 v3).toNat : Int))), v1, v2, (wr .i64 (v3 + 1)), w, w1))) (
   kx (.exit 1) (v, v1, v2, v3, w, w1))
def kone_px (R : Type) (k : Nat) : Px R := ⟨ttOf ttL, glT, callT [], callQT [(39, callOrQ [.sl .byte false, .int .i64] [.str, .int .i64] ktext_F)], loopT [(17, loopOr k kone_0_sg (kone_0))]⟩
theorem kone_0_eq (R : Type) (k : Nat) : ∀ (fr : List Fr) (rec : kone_0_V → Option R) (kx : Ex → kone_0_V → Option R) (v : kone_0_V), round (kone_px R k) kone_0_sg (lp Tryd.f29 0) fr rec kx v = kone_0 rec kx v
  | fr, rec, kx, (v, v1, v2, v3, w, w1) => by kernel_rfl
def kone_body (k : Nat) (x : HV [.sl .byte false]) : Option (HV [.sv .val, .int .i64]) := match x with
 | b =>
  chk (inb 0 b.length) (
   cond (decide ((wr .i64 ((at' .byte b 0).toNat : Int)) = 1)) (
    some ((Val.mk (wr .i64 ((at' .byte b 0).toNat : Int)) 0 []), 1)) (
    cond (decide ((wr .i64 ((at' .byte b 0).toNat : Int)) = 2)) (
     cond (decide ((b.length : Int) = 1)) (
      some ((Val.mk (wr .i64 ((at' .byte b 0).toNat : Int)) 0 []), 0)) (
      chk (inb 1 b.length) (
       cond (decide (1 < (wr .i64 ((at' .byte b 1).toNat : Int)))) (
        some ((Val.mk (wr .i64 ((at' .byte b 0).toNat : Int)) (wr .i64 ((at' .byte b 1).toNat : Int)) []), (-1))) (
        some ((Val.mk (wr .i64 ((at' .byte b 0).toNat : Int)) (wr .i64 ((at' .byte b 1).toNat : Int)) []), 2))))) (
     cond (decide ((wr .i64 ((at' .byte b 0).toNat : Int)) = 3)) (
      cond (decide ((b.length : Int) < 9)) (
       some ((Val.mk (wr .i64 ((at' .byte b 0).toNat : Int)) 0 []), 0)) (
       chk (upto 1 9 b.length) (
        iter (fun rec => kone_0 rec (fun e v => match v with | (v4, _, _, _, _, v9) => match e with
         | .exit 1 =>
          some ((Val.mk v9.kind (wr .i64 (ixor .u64 v4 9223372036854775808)) v9.s), 9)
         | _ => none)) k (0, (cut b 1 9), ((cut b 1 9).length : Int), 0, (Val.mk 0 0 []), (Val.mk (wr .i64 ((at' .byte b 0).toNat : Int)) 0 []))))) (
      let j := fun (p : Bool) =>
       cond (p) (
        chk (upto 1 b.length b.length) (
         (ktext (b.drop (1 : Int).toNat) (wr .i64 ((at' .byte b 0).toNat : Int))).bind fun (x, x1) =>
          cond (decide (0 < x1)) (
           some ((Val.mk (wr .i64 ((at' .byte b 0).toNat : Int)) 0 x), (wr .i64 (x1 + 1)))) (
           some ((Val.mk (wr .i64 ((at' .byte b 0).toNat : Int)) 0 x), x1)))) (
        some ((Val.mk (wr .i64 ((at' .byte b 0).toNat : Int)) 0 []), (-1)))
      cond (decide ((wr .i64 ((at' .byte b 0).toNat : Int)) = 4)) (
       j (decide ((wr .i64 ((at' .byte b 0).toNat : Int)) = 4))) (
       j (decide ((wr .i64 ((at' .byte b 0).toNat : Int)) = 5)))))))
theorem kone_eq (k : Nat) : ∀ (x : HV [.sl .byte false]), runF (kone_px _ k) Tryd.f29 [.sl .byte false] [.sv .val, .int .i64] x some = kone_body k x
  | b => by kernel_rfl
theorem kone_run (k : Nat) : FnOk Tryd.prog elT glT 29 [.sl .byte false] [.sv .val, .int .i64] (kone_body k) := by
  refine fnOk_run Tryd.func29 rfl (by kernel_rfl) follows (by kernel_rfl) (n := 1) (by kernel_rfl) (px := kone_px _ k) (fun cx hP hel hgl => ?_) (kone_eq k)
  have hp0 : PxOk cx (kone_px (HV [.sv .val, .int .i64]) k) := ⟨fun t => by rw [hP, hel]; exact tt_ok ttL_ok t, by rw [hgl]; rfl⟩
  have hc0 : CallOk cx (kone_px (HV [.sv .val, .int .i64]) k) := callT_ok rfl cfs_nil
  have hq0 : CallQOk cx (kone_px (HV [.sv .val, .int .i64]) k) := callQT_ok rfl (cqfs_cons (cqf_or (by rw [hP, hel, hgl]; exact ktext_ok) (by kernel_rfl)) cqfs_nil)
  have hlkone_0 : LoopOk cx (kone_px (HV [.sv .val, .int .i64]) k) (lp Tryd.f29 0) := loop_ok hp0 hc0 hq0 (by rw [hP]; exact follows) (k := k) (s := kone_0_sg) (step := kone_0) (fun _ _ => by kernel_rfl) (by kernel_rfl) (kone_0_eq _ k) (loops_in (n := 0) (by kernel_rfl) all0)
  exact ⟨hp0, hc0, hq0, (allS all0 hlkone_0)⟩
def kone (b : Str) : Option (Val × Int) := cond (!decide (b = []) && decide (b.length ≤ 1000000)) (some (one1 b)) none
def kone_F : FT [.sl .byte false] [.sv .val, .int .i64] := fun x => kone x
theorem kone_loop {R : Type} {kx : Ex → kone_0_V → Option R} {l : Str} {w w1 : Val} {c : Nat → Option R} (hb : l.length = 8) (h2 : ∀ n : Nat, kx (.exit 1) ((n : Int), l, 8, 8, w, w1) = c n) :
    ∀ (k i x : Nat), i ≤ 8 → 8 - i < k → x < 256 ^ i → iter (fun rec => kone_0 rec kx) k ((x : Int), l, 8, (i : Int), w, w1) = c (vfold x (l.drop i))
  | 0, i, _, _, h, _ => by omega
  | k + 1, i, x, hi, h, hx => by
    rw [iter_s]
    by_cases hl : i < l.length
    · have hs := step_lt (c := l[i]) hx (by omega)
      have ih := kone_loop hb h2 k (i + 1) (x * 256 + l[i].toNat) (by omega) (by omega) hs.1
      have e1 : decide ((i : Int) < 8) = true := decide_eq_true (by omega)
      have e2 : wr .i64 ((i : Int) + 1) = ((i + 1 : Nat) : Int) := wr_succ hl (by simp only [ln]; omega)
      simp only [kone_0, e1, cond_t, inb_t hl, chk, at_nat (c := .byte) hl, e2, ior_byte hs.2, ih]
      rw [drop_cons hl, vfold_cons]
    · have hi8 : i = 8 := by omega
      subst hi8
      have e1 : decide (((8 : Nat) : Int) < 8) = false := rfl
      simp only [kone_0, e1, cond_f, List.drop_eq_nil_of_le (show l.length ≤ 8 by omega)]
      exact h2 x
theorem u8_lit {k : UInt8} (n : UInt8) : decide ((k.toNat : Int) = (n.toNat : Int)) = decide (k = n) := at_num n
theorem flip8 {l : Str} (h : l.length = 8) : wr .i64 (ixor .u64 ((val8 l : Nat) : Int) 9223372036854775808) = num8 l := by
  have h1 := val8_lt l
  rw [h, show (256 : Nat) ^ 8 = 18446744073709551616 from rfl] at h1
  have e1 : (BitVec.ofInt 64 ((val8 l : Nat) : Int)).toNat = val8 l := by
    simp
    omega
  have e2 : (BitVec.ofInt 64 (9223372036854775808 : Int)).toNat = 2 ^ 63 := by decide
  have e3 : ixor .u64 ((val8 l : Nat) : Int) 9223372036854775808 = IntKind.wrap .u64 (((val8 l ^^^ 2 ^ 63 : Nat)) : Int) := by
    show IntKind.wrap .u64 (((BitVec.ofInt 64 ((val8 l : Nat) : Int) ^^^ BitVec.ofInt 64 (9223372036854775808 : Int)).toNat : Nat) : Int) = _
    rw [BitVec.toNat_xor, e1, e2]
  rw [e3, num8]
  generalize val8 l = v at *
  by_cases hv : v < 2 ^ 63
  · rw [xor63 hv, wrap_u64 (by omega), wr_hi (by omega) (by omega)]
    omega
  · obtain ⟨b, rfl⟩ : ∃ b, v = b + 2 ^ 63 := ⟨v - 2 ^ 63, by omega⟩
    rw [← xor63 (x := b) (by omega), Nat.xor_assoc, Nat.xor_self, Nat.xor_zero, wrap_u64 (by omega), xor63 (by omega), wr_lo (by omega)]
    omega
theorem ptext_rng (kind : Int) (b : Str) : -1 ≤ (ptext kind (sc b)).2 ∧ (ptext kind (sc b)).2 ≤ b.length := by
  have hr := sc_rng b.length b (Nat.le_refl _)
  simp only [ptext]
  split
  · simp only; omega
  · split
    · split
      · simp only; omega
      · omega
    · simp only; omega
theorem kone_ok : FnOk Tryd.prog elT glT 29 [.sl .byte false] [.sv .val, .int .i64] kone_F := .fin 0 kone_run fun b r hb hx => ⟨9, by
  simp only [kone_F, kone] at hx
  cases hc : (!decide (b = []) && decide (b.length ≤ 1000000)) with
  | false => rw [hc] at hx; cases hx
  | true =>
    rw [hc] at hx
    simp only [Bool.and_eq_true, Bool.not_eq_true', decide_eq_false_iff_not, decide_eq_true_eq] at hc
    have hx : some (one1 b) = some r := hx
    rw [← hx]
    cases b with
    | nil => exact absurd rfl hc.1
    | cons k t =>
      have hl := hc.2
      simp only [List.length_cons] at hl
      have hk := k.toNat_lt
      have e0 : at' .byte (k :: t) 0 = k := rfl
      have e1 : inb 0 (k :: t).length = true := by simp [inb]
      have e2 : wr .i64 (k.toNat : Int) = (k.toNat : Int) := wr_id (by simp only [inI]; omega)
      have q1 : decide ((k.toNat : Int) = 1) = decide (k = 1) := u8_lit 1
      have q2 : decide ((k.toNat : Int) = 2) = decide (k = 2) := u8_lit 2
      have q3 : decide ((k.toNat : Int) = 3) = decide (k = 3) := u8_lit 3
      have q4 : decide ((k.toNat : Int) = 4) = decide (k = 4) := u8_lit 4
      have q5 : decide ((k.toNat : Int) = 5) = decide (k = 5) := u8_lit 5
      simp only [kone_body, e0, e1, e2, chk, cond_t, q1, q2, q3, q4, q5, one1]
      by_cases h1 : k = 1
      · subst h1; rfl
      by_cases h2 : k = 2
      · subst h2
        cases t with
        | nil => rfl
        | cons c t =>
          have hcl := c.toNat_lt
          have a1 : decide ((((2 : UInt8) :: c :: t).length : Int) = 1) = false := decide_eq_false (by simp only [List.length_cons]; omega)
          have a2 : inb 1 ((2 : UInt8) :: c :: t).length = true := by simp [inb]; omega
          have a3 : at' .byte ((2 : UInt8) :: c :: t) 1 = c := rfl
          have a4 : wr .i64 (c.toNat : Int) = (c.toNat : Int) := wr_id (by simp only [inI]; omega)
          have a5 : decide ((1 : Int) < (c.toNat : Int)) = decide (1 < c.toNat) := decide_eq_decide.2 (by omega)
          simp only [a1, a2, a3, a4, a5]
          by_cases h3 : 1 < c.toNat <;> simp [h3]
      by_cases h3 : k = 3
      · subst h3
        by_cases h8 : t.length < 8
        · have a1 : decide ((((3 : UInt8) :: t).length : Int) < 9) = true := decide_eq_true (by simp only [List.length_cons]; omega)
          simp only [a1, h8, cond_t, if_true]
          rfl
        · have a1 : decide ((((3 : UInt8) :: t).length : Int) < 9) = false := decide_eq_false (by simp only [List.length_cons]; omega)
          have a2 : upto 1 9 ((3 : UInt8) :: t).length = true := by simp [upto]; omega
          have a3 : cut ((3 : UInt8) :: t) 1 9 = t.take 8 := rfl
          have a4 : (t.take 8).length = 8 := by rw [List.length_take]; omega
          have a5 : (((t.take 8).length : Nat) : Int) = 8 := by rw [a4]; rfl
          have := kone_loop (R := Val × Int) (w := Val.mk 0 0 []) (w1 := Val.mk ((3 : UInt8).toNat : Int) 0 []) (kx := fun e v => match v with | (v4, _, _, _, _, v9) => match e with
             | .exit 1 => some ((Val.mk v9.kind (wr .i64 (ixor .u64 v4 9223372036854775808)) v9.s), 9)
             | _ => none) (c := fun n => some (Val.mk 3 (wr .i64 (ixor .u64 (n : Int) 9223372036854775808)) [], 9)) a4 (fun _ => rfl) 9 0 0 (by omega) (by omega) (by simp)
          rw [List.drop_zero] at this
          have e8 := flip8 a4
          simp only [val8] at e8
          rw [e8] at this
          have z0 : ((0 : Nat) : Int) = 0 := rfl
          rw [z0] at this
          simp only [a1, a2, a3, a5, h8, decide_false, decide_true, cond_t, cond_f, if_false, if_true, h1, h2]
          simpa [val8] using this
      by_cases h4 : k = 4 ∨ k = 5
      · have hkk : ((k.toNat : Nat) : Int) = 4 ∨ ((k.toNat : Nat) : Int) = 5 := by rcases h4 with rfl | rfl <;> decide
        have a1 : upto 1 (((k :: t).length : Nat) : Int) (k :: t).length = true := by simp [upto]; omega
        have a2 : (k :: t).drop (1 : Int).toNat = t := rfl
        have a3 : ktext t (k.toNat : Int) = some (ptext (k.toNat : Int) (sc t)) := by
          simp only [ktext]
          have : (decide (t.length ≤ 1000000) && (decide ((k.toNat : Int) = 4) || decide ((k.toNat : Int) = 5))) = true := by
            simp only [Bool.and_eq_true, Bool.or_eq_true, decide_eq_true_eq]
            exact ⟨by omega, hkk⟩
          rw [this]
          rfl
        have hr := ptext_rng (k.toNat : Int) t
        have a4 : wr .i64 ((ptext (k.toNat : Int) (sc t)).2 + 1) = (ptext (k.toNat : Int) (sc t)).2 + 1 := wr_id (by simp only [inI]; omega)
        simp only [h1, h2, h3, h4, decide_false, cond_f, if_false, if_true, a1, a2, a3, Option.bind_some, cond_t]
        rcases h4 with h4 | h4
        · simp only [h4, decide_true, cond_t]
          subst h4
          by_cases hp : 0 < (ptext (((4 : UInt8).toNat : Nat) : Int) (sc t)).2
          · simp only [hp, decide_true, cond_t, if_true, a4]
          · simp only [hp, decide_false, cond_f, if_false]
        · have h5 : ¬ k = 4 := fun e => by rw [e] at h4; cases h4
          simp only [h4, decide_true, cond_t]
          subst h4
          have c4 : decide ((5 : UInt8) = 4) = false := rfl
          simp only [c4, cond_f]
          by_cases hp : 0 < (ptext (((5 : UInt8).toNat : Nat) : Int) (sc t)).2
          · simp only [hp, decide_true, cond_t, if_true, a4]
          · simp only [hp, decide_false, cond_f, if_false]
      · have h5 : ¬ k = 4 := fun e => h4 (.inl e)
        have h6 : ¬ k = 5 := fun e => h4 (.inr e)
        simp [h1, h2, h3, h5, h6]⟩
end Go.Proofs.YtkiakihffmafcaaDoor

/- Plain laws on a row's bytes: read back, cut short, in order. -/
namespace Go.Proofs.YtkiakihffmafcaaDoor
open Go.Ax
/-! ## texts -/
theorem sc_esc (t : Str) : ∀ s : Str, sc (esc s ++ 0 :: 1 :: t) = (s, ((esc s).length : Int) + 2)
  | [] => by rw [esc_nil, List.nil_append, sc_end]; rfl
  | b :: s => by
    have ih := sc_esc t s
    by_cases hb : b = 0
    · subst hb
      rw [esc_zero, List.cons_append, List.cons_append, sc_pair, ih]
      have h1 : ¬ ((esc s).length : Int) + 2 = -1 := by omega
      have h2 : ¬ ((esc s).length : Int) + 2 = 0 := by omega
      simp only [h1, h2, if_false, List.length_cons]
      congr 1
    · rw [esc_cons hb, List.cons_append, sc_plain hb, ih]
      have h1 : ¬ ((esc s).length : Int) + 2 = -1 := by omega
      have h2 : ¬ ((esc s).length : Int) + 2 = 0 := by omega
      simp only [h1, h2, if_false, List.length_cons]
      congr 1
theorem sc_cut : ∀ (s u v : Str), u ++ v = esc s ++ [0, 1] → v ≠ [] → (sc u).2 = 0 ∧ ∃ w, s = (sc u).1 ++ w
  | s, [], v, _, _ => ⟨rfl, s, rfl⟩
  | [], c :: u, v, h, hv => by
    rw [esc_nil, List.nil_append, List.cons_append, List.cons.injEq] at h
    obtain ⟨rfl, h⟩ := h
    cases u with
    | nil => exact ⟨by simp [sc], [], by simp [sc]⟩
    | cons d u =>
      rw [List.cons_append, List.cons.injEq] at h
      have := List.append_eq_nil_iff.1 h.2
      exact absurd this.2 hv
  | b :: s, c :: u, v, h, hv => by
    by_cases hb : b = 0
    · subst hb
      rw [esc_zero, List.cons_append, List.cons_append, List.cons_append, List.cons.injEq] at h
      obtain ⟨rfl, h⟩ := h
      cases u with
      | nil => exact ⟨by simp [sc], 0 :: s, by simp [sc]⟩
      | cons d u =>
        rw [List.cons_append, List.cons.injEq] at h
        obtain ⟨rfl, h⟩ := h
        obtain ⟨h1, w, h2⟩ := sc_cut s u v h hv
        rw [sc_pair, h1]
        refine ⟨by simp, w, ?_⟩
        simp only [Int.reduceNeg, Int.reduceEq, if_false, List.cons_append]
        rw [← h2]
    · rw [esc_cons hb, List.cons_append, List.cons_append, List.cons.injEq] at h
      obtain ⟨rfl, h⟩ := h
      obtain ⟨h1, w, h2⟩ := sc_cut s u v h hv
      rw [sc_plain hb, h1]
      refine ⟨by simp, w, ?_⟩
      simp only [Int.reduceNeg, Int.reduceEq, if_false, List.cons_append]
      rw [← h2]
theorem sc_back : ∀ (n : Nat) (b : Str), b.length ≤ n → 0 < (sc b).2 → ∃ t, b = esc (sc b).1 ++ 0 :: 1 :: t ∧ (sc b).2 = ((esc (sc b).1).length : Int) + 2
  | _, [], _, h => by simp [sc] at h
  | _, [b], _, h => by by_cases hb : b = 0 <;> simp [sc, hb] at h
  | 0, b :: c :: t, hn, _ => by simp at hn
  | n + 1, b :: c :: t, hn, h => by
    simp only [List.length_cons] at hn
    by_cases hb : b = 0
    · subst hb
      by_cases h1 : c = 1
      · subst h1
        refine ⟨t, ?_, ?_⟩ <;> rw [sc_end] <;> rfl
      · by_cases h2 : c = 255
        · subst h2
          rw [sc_pair] at h ⊢
          have hr := sc_rng t.length t (Nat.le_refl _)
          by_cases h3 : (sc t).2 = -1
          · simp [h3] at h
          · by_cases h4 : (sc t).2 = 0
            · simp [h4] at h
            · obtain ⟨u, e1, e2⟩ := sc_back n t (by omega) (by omega)
              simp only [h3, h4, if_false]
              refine ⟨u, ?_, ?_⟩
              · rw [esc_zero, List.cons_append, List.cons_append, ← e1]
              · rw [esc_zero, e2]; simp only [List.length_cons]; omega
        · rw [sc_bad h1 h2] at h; simp at h
    · rw [sc_plain hb] at h ⊢
      have hr := sc_rng (c :: t).length (c :: t) (Nat.le_refl _)
      by_cases h3 : (sc (c :: t)).2 = -1
      · simp [h3] at h
      · by_cases h4 : (sc (c :: t)).2 = 0
        · simp [h4] at h
        · obtain ⟨u, e1, e2⟩ := sc_back n (c :: t) (by simp only [List.length_cons]; omega) (by omega)
          simp only [h3, h4, if_false]
          refine ⟨u, ?_, ?_⟩
          · rw [esc_cons hb, List.cons_append, ← e1]
          · rw [esc_cons hb, e2]; simp only [List.length_cons]; omega
/-! ## eight bytes -/
theorem scmp_app : ∀ a x y : Str, scmp (a ++ x) (a ++ y) = scmp x y
  | [], _, _ => rfl
  | c :: a, x, y => by
    have ih := scmp_app a x y
    simp only [scmp, List.cons_append, Lib.compareBytes] at ih ⊢
    rw [if_neg (UInt8.lt_irrefl _), if_neg (UInt8.lt_irrefl _)]
    exact ih
theorem scmp_lt {c d : UInt8} (h : c < d) (x y : Str) : scmp (c :: x) (d :: y) = -1 := by
  simp only [scmp, Lib.compareBytes]
  rw [if_pos h]
theorem scmp_gt {c d : UInt8} (h : d < c) (x y : Str) : scmp (c :: x) (d :: y) = 1 := by
  simp only [scmp, Lib.compareBytes]
  rw [if_neg (UInt8.lt_asymm h), if_pos h]
theorem scmp_same (c : UInt8) (x y : Str) : scmp (c :: x) (c :: y) = scmp x y := scmp_app [c] x y
theorem scmp_nil (d : UInt8) (y : Str) : scmp [] (d :: y) = -1 := rfl
theorem scmp_nil2 (d : UInt8) (y : Str) : scmp (d :: y) [] = 1 := rfl
theorem u8_tri (c d : UInt8) : c < d ∨ c = d ∨ d < c := by
  rcases Nat.lt_trichotomy c.toNat d.toNat with h | h | h
  · exact .inl h
  · exact .inr (.inl (UInt8.toNat_inj.1 h))
  · exact .inr (.inr h)
/-- two rows of bytes of one length stand as their numbers do -/
theorem scmp_val : ∀ (p q x y : Str), p.length = q.length → scmp (p ++ x) (q ++ y) = if val8 p = val8 q then scmp x y else if val8 p < val8 q then -1 else 1
  | [], [], x, y, _ => by simp
  | [], _ :: _, _, _, h => by cases h
  | _ :: _, [], _, _, h => by cases h
  | c :: p, d :: q, x, y, h => by
    simp only [List.length_cons, Nat.add_right_cancel_iff] at h
    have h' := h
    have hp := val8_lt p
    have hq := val8_lt q
    rw [← h] at hq
    rw [val8_cons, val8_cons, List.cons_append, List.cons_append, ← h]
    rcases u8_tri c d with hc | rfl | hc
    · have h1 : c.toNat + 1 ≤ d.toNat := hc
      have h2 : (c.toNat + 1) * 256 ^ p.length ≤ d.toNat * 256 ^ p.length := Nat.mul_le_mul_right _ h1
      rw [Nat.add_mul, Nat.one_mul] at h2
      rw [scmp_lt hc, if_neg (by omega), if_pos (by omega)]
    · rw [scmp_same, scmp_val p q x y h']
      simp only [Nat.add_left_cancel_iff, Nat.add_lt_add_iff_left]
    · have h1 : d.toNat + 1 ≤ c.toNat := hc
      have h2 : (d.toNat + 1) * 256 ^ p.length ≤ c.toNat * 256 ^ p.length := Nat.mul_le_mul_right _ h1
      rw [Nat.add_mul, Nat.one_mul] at h2
      rw [scmp_gt hc, if_neg (by omega), if_neg (by omega)]
theorem val8_hi8x {x : Nat} (h : x < 18446744073709551616) : val8 (hi8x x) = x := by
  have e : ∀ s, (hbyte x s).toNat = x / 2 ^ s % 256 := fun s => by simp [hbyte]
  simp only [hi8x, val8, vfold, List.foldl_cons, List.foldl_nil, e]
  simp only [show (2 : Nat) ^ 56 = 72057594037927936 from rfl, show (2 : Nat) ^ 48 = 281474976710656 from rfl, show (2 : Nat) ^ 40 = 1099511627776 from rfl, show (2 : Nat) ^ 32 = 4294967296 from rfl, show (2 : Nat) ^ 24 = 16777216 from rfl, show (2 : Nat) ^ 16 = 65536 from rfl, show (2 : Nat) ^ 8 = 256 from rfl, Nat.pow_zero]
  omega
theorem hi8_len (n : Int) : (hi8 n).length = 8 := rfl
theorem val8_hi8 {n : Int} (h : inI n) : (val8 (hi8 n) : Int) = n + 9223372036854775808 := by
  simp only [inI] at h
  rw [hi8, val8_hi8x (by omega)]
  omega
theorem num8_hi8 {n : Int} (h : inI n) : num8 (hi8 n) = n := by
  rw [num8, val8_hi8 h]
  omega
theorem val8_inj : ∀ {p q : Str}, p.length = q.length → val8 p = val8 q → p = q
  | [], [], _, _ => rfl
  | [], _ :: _, h, _ => by cases h
  | _ :: _, [], h, _ => by cases h
  | c :: p, d :: q, h, e => by
    simp only [List.length_cons, Nat.add_right_cancel_iff] at h
    have hp := val8_lt p
    have hq := val8_lt q
    rw [val8_cons, val8_cons, ← h] at e
    rw [← h] at hq
    have hpos : 0 < 256 ^ p.length := Nat.pow_pos (by omega)
    have e1 : (c.toNat * 256 ^ p.length + val8 p) / 256 ^ p.length = c.toNat := by
      rw [Nat.mul_comm, Nat.mul_add_div hpos, Nat.div_eq_of_lt hp, Nat.add_zero]
    have e2 : (d.toNat * 256 ^ p.length + val8 q) / 256 ^ p.length = d.toNat := by
      rw [Nat.mul_comm, Nat.mul_add_div hpos, Nat.div_eq_of_lt hq, Nat.add_zero]
    rw [e, e2] at e1
    obtain rfl := UInt8.toNat_inj.1 e1
    rw [val8_inj h (by omega)]
theorem num8_in {p : Str} (h : p.length = 8) : inI (num8 p) := by
  have := val8_lt p
  rw [h, show (256 : Nat) ^ 8 = 18446744073709551616 from rfl] at this
  simp only [inI, num8]
  omega
theorem hi8_num8 {p : Str} (h : p.length = 8) : hi8 (num8 p) = p := by
  refine val8_inj (by rw [h]; rfl) ?_
  have := val8_hi8 (num8_in h)
  simp only [num8] at this ⊢
  omega
/-! ## one value -/
theorem one1_3 (t : Str) : one1 (3 :: t) = if t.length < 8 then (⟨3, 0, []⟩, 0) else (⟨3, num8 (t.take 8), []⟩, 9) := rfl
theorem one1_4 (t : Str) : one1 (4 :: t) = (⟨4, 0, (ptext 4 (sc t)).1⟩, if 0 < (ptext 4 (sc t)).2 then (ptext 4 (sc t)).2 + 1 else (ptext 4 (sc t)).2) := rfl
theorem one1_5 (t : Str) : one1 (5 :: t) = (⟨5, 0, (ptext 5 (sc t)).1⟩, if 0 < (ptext 5 (sc t)).2 then (ptext 5 (sc t)).2 + 1 else (ptext 5 (sc t)).2) := rfl
theorem payload_text {v : Val} (h : v.kind = 4 ∨ v.kind = 5) : payload v = esc v.s ++ [0, 1] := by
  rcases h with h | h <;> simp [payload, h]
theorem okt_right {v : Val} (h : v.kind = 4 ∨ v.kind = 5) (hr : vright v = true) : okt v.kind v.s = true ∧ v.n = 0 := by
  rw [okt_iff h]
  rcases vright_iff.1 hr with ⟨e, _⟩ | ⟨e, _⟩ | ⟨e, _⟩ | ⟨e, h1, h2, h3⟩ | ⟨e, h1, h2⟩
  · omega
  · omega
  · omega
  · exact ⟨⟨h2, fun _ => h3⟩, h1⟩
  · exact ⟨⟨h2, fun q => by omega⟩, h1⟩
theorem okt_val {k : Int} {s : Str} (ho : okt k s = true) : vright ⟨k, 0, s⟩ = true := vcheck_iff.1 (of_decide_eq_true ho)
theorem one1_enc {v : Val} (hr : vright v = true) (hn : inI v.n) (t : Str) : one1 (encv v ++ t) = (v, ((encv v).length : Int)) := by
  obtain ⟨k, n, s⟩ := v
  have hrr := hr
  rcases vright_iff.1 hr with ⟨e, e1, e2⟩ | ⟨e, e1, e2⟩ | ⟨e, e1⟩ | ⟨e, h1, h2, h3⟩ | ⟨e, h1, h2⟩
  · simp only at e e1 e2; subst e e1 e2; rfl
  · simp only at e e1 e2; subst e e2
    rcases e1 with rfl | rfl <;> rfl
  · simp only at e e1 hn; subst e e1
    have hp : encv ⟨3, n, []⟩ = 3 :: hi8 n := by simp [encv, payload]
    have hl : ¬ (hi8 n ++ t).length < 8 := by rw [List.length_append, hi8_len]; omega
    have ht : (hi8 n ++ t).take 8 = hi8 n := List.take_left' (hi8_len n)
    rw [hp, List.cons_append, one1_3, if_neg hl, ht, num8_hi8 hn, List.length_cons, hi8_len]
    rfl
  · simp only at e h1; subst e h1
    have hp : encv ⟨4, 0, s⟩ = 4 :: (esc s ++ [0, 1]) := by simp [encv, payload]
    have ho := (okt_right (.inl rfl) hrr).1
    have hs := sc_esc t s
    have hpt : ptext 4 (sc (esc s ++ 0 :: 1 :: t)) = (s, ((esc s).length : Int) + 2) := by
      rw [hs]
      simp only [ptext]
      rw [if_neg (by omega), if_pos ho, if_neg (by omega)]
    rw [hp, List.cons_append, show (esc s ++ [0, 1]) ++ t = esc s ++ 0 :: 1 :: t by simp]
    rw [one1_4, hpt]
    simp only [if_pos (show (0 : Int) < ((esc s).length : Int) + 2 by omega), List.length_cons, List.length_append, List.length_nil]
    congr 1
  · simp only at e h1; subst e h1
    have hp : encv ⟨5, 0, s⟩ = 5 :: (esc s ++ [0, 1]) := by simp [encv, payload]
    have ho := (okt_right (.inr rfl) hrr).1
    have hs := sc_esc t s
    have hpt : ptext 5 (sc (esc s ++ 0 :: 1 :: t)) = (s, ((esc s).length : Int) + 2) := by
      rw [hs]
      simp only [ptext]
      rw [if_neg (by omega), if_pos ho, if_neg (by omega)]
    rw [hp, List.cons_append, show (esc s ++ [0, 1]) ++ t = esc s ++ 0 :: 1 :: t by simp]
    rw [one1_5, hpt]
    simp only [if_pos (show (0 : Int) < ((esc s).length : Int) + 2 by omega), List.length_cons, List.length_append, List.length_nil]
    congr 1
theorem ptext_cut {k : Int} (hk : k = 4 ∨ k = 5) {s u w : Str} (ho : okt k s = true) (h : u ++ w = esc s ++ [0, 1]) (hw : w ≠ []) : (ptext k (sc u)).2 = 0 := by
  obtain ⟨h1, x, h2⟩ := sc_cut s u w h hw
  have ho2 : okt k (sc u).1 = true := okt_app hk (h2 ▸ ho)
  simp only [ptext, h1, ho2, if_true]
  rfl
theorem one1_cut {v : Val} (hr : vright v = true) {u w : Str} (h : u ++ w = encv v) (hu : u ≠ []) (hw : w ≠ []) : (one1 u).2 = 0 := by
  obtain ⟨c, u, rfl⟩ : ∃ c u', u = c :: u' := by
    cases u with
    | nil => exact absurd rfl hu
    | cons c u => exact ⟨c, u, rfl⟩
  obtain ⟨k, n, s⟩ := v
  have hrr := hr
  have hwl : 0 < w.length := by cases w with
    | nil => exact absurd rfl hw
    | cons _ _ => simp
  rw [encv, List.cons_append, List.cons.injEq] at h
  obtain ⟨rfl, h⟩ := h
  have hl := congrArg List.length h
  rw [List.length_append] at hl
  rcases vright_iff.1 hr with ⟨e, e1, e2⟩ | ⟨e, e1, e2⟩ | ⟨e, e1⟩ | ⟨e, h1, h2, h3⟩ | ⟨e, h1, h2⟩
  · simp only at e; subst e
    have e0 : (payload ⟨1, n, s⟩).length = 0 := rfl
    omega
  · simp only at e; subst e
    have e0 : (payload ⟨2, n, s⟩).length = 1 := rfl
    obtain rfl : u = [] := List.eq_nil_of_length_eq_zero (by omega)
    rfl
  · simp only at e; subst e
    have e0 : (payload ⟨3, n, s⟩).length = 8 := rfl
    show (one1 (3 :: u)).2 = 0
    rw [one1_3, if_pos (show u.length < 8 by omega)]
  · simp only at e; subst e
    rw [payload_text (.inl rfl)] at h
    have := ptext_cut (.inl rfl) (okt_right (.inl rfl) hrr).1 h hw
    show (one1 (4 :: u)).2 = 0
    rw [one1_4, this]
    rfl
  · simp only at e; subst e
    rw [payload_text (.inr rfl)] at h
    have := ptext_cut (.inr rfl) (okt_right (.inr rfl) hrr).1 h hw
    show (one1 (5 :: u)).2 = 0
    rw [one1_5, this]
    rfl
theorem one1_back {b : Str} (h : 0 < (one1 b).2) : vright (one1 b).1 = true ∧ inI (one1 b).1.n ∧ ∃ t, b = encv (one1 b).1 ++ t ∧ (one1 b).2 = ((encv (one1 b).1).length : Int) := by
  cases b with
  | nil => simp [one1] at h
  | cons k t =>
    simp only [one1] at h ⊢
    by_cases h1 : k = 1
    · subst h1
      simp only [if_true]
      exact ⟨rfl, by simp [inI], t, rfl, rfl⟩
    rw [if_neg h1] at h ⊢
    by_cases h2 : k = 2
    · subst h2
      simp only [if_true] at h ⊢
      cases t with
      | nil => simp at h
      | cons c t =>
        simp only at h ⊢
        by_cases hc : 1 < c.toNat
        · simp [hc] at h
        · simp only [hc, if_false]
          refine ⟨vright_iff.2 (.inr (.inl ⟨rfl, by simp only; omega, rfl⟩)), by simp only [inI]; omega, t, ?_, ?_⟩
          · simp [encv, payload]
          · simp [encv, payload]
    rw [if_neg h2] at h ⊢
    by_cases h3 : k = 3
    · subst h3
      simp only [if_true] at h ⊢
      by_cases hl : t.length < 8
      · simp [hl] at h
      · rw [if_neg hl] at h ⊢
        have htl : (t.take 8).length = 8 := by rw [List.length_take]; omega
        refine ⟨vright_iff.2 (.inr (.inr (.inl ⟨rfl, rfl⟩))), num8_in htl, t.drop 8, ?_, ?_⟩
        · simp [encv, payload, hi8_num8 htl]
        · simp [encv, payload, hi8_num8 htl, htl]
    rw [if_neg h3] at h ⊢
    by_cases h4 : k = 4 ∨ k = 5
    · rw [if_pos h4] at h ⊢
      have hk : ((k.toNat : Nat) : Int) = 4 ∨ ((k.toNat : Nat) : Int) = 5 := by rcases h4 with rfl | rfl <;> decide
      have hp : 0 < (ptext (k.toNat : Int) (sc t)).2 := by
        simp only at h
        split at h
        · assumption
        · exact h
      simp only [ptext] at hp
      have c1 : ¬ (sc t).2 = -1 := fun e => by rw [if_pos e] at hp; simp at hp
      rw [if_neg c1] at hp
      have c2 : okt (k.toNat : Int) (sc t).1 = true := by
        cases hc : okt (k.toNat : Int) (sc t).1 with
        | true => rfl
        | false => simp [hc] at hp
      rw [if_pos c2] at hp
      have c3 : ¬ (sc t).2 = 0 := fun e => by rw [if_pos e] at hp; simp at hp
      rw [if_neg c3] at hp
      have hpt : ptext (k.toNat : Int) (sc t) = sc t := by
        simp only [ptext]
        rw [if_neg c1, if_pos c2, if_neg c3]
      rw [hpt, if_pos hp]
      obtain ⟨u, e1, e2⟩ := sc_back t.length t (Nat.le_refl _) hp
      have hpay := payload_text (v := ⟨(k.toNat : Int), 0, (sc t).1⟩) hk
      have henc : encv ⟨(k.toNat : Int), 0, (sc t).1⟩ = k :: (esc (sc t).1 ++ [0, 1]) := by
        rw [encv, hpay]
        congr 1
        simp
      refine ⟨okt_val c2, by simp [inI], u, ?_, ?_⟩
      · rw [henc]
        simp only [List.cons_append, List.append_assoc, List.nil_append]
        rw [← e1]
      · rw [henc]
        simp only [List.length_cons, List.length_append, List.length_nil]
        omega
    · rw [if_neg h4] at h
      simp at h
theorem one1_rng {b : Str} (h : 0 < (one1 b).2) : 0 < (one1 b).2.toNat ∧ (one1 b).2.toNat ≤ b.length := by
  obtain ⟨_, _, t, h1, h2⟩ := one1_back h
  have h3 := congrArg List.length h1
  rw [List.length_append] at h3
  have h4 : 0 < (encv (one1 b).1).length := by simp [encv]
  omega
/-! ## a row -/
def decN : Nat → List Val → Str → List Val × Int
  | 0, acc, _ => (acc, 0)
  | k + 1, acc, b => if b = [] then (acc, 0) else if 0 < (one1 b).2 then decN k (acc ++ [(one1 b).1]) (b.drop (one1 b).2.toNat) else if (one1 b).2 = 0 then ([], 10) else ([], 11)
def dec (b : Str) : List Val × Int := decN (b.length + 1) [] b
theorem decN_fuel : ∀ (k j : Nat) (acc : List Val) (b : Str), b.length < k → b.length < j → decN k acc b = decN j acc b
  | 0, _, _, _, h, _ => by omega
  | _, 0, _, _, _, h => by omega
  | k + 1, j + 1, acc, b, h1, h2 => by
    simp only [decN]
    split
    · rfl
    · split
      · rename_i h3
        have := one1_rng h3
        exact decN_fuel k j _ _ (by rw [List.length_drop]; omega) (by rw [List.length_drop]; omega)
      · rfl
theorem decN_enc : ∀ (l : List Val) (k : Nat) (acc : List Val) (t : Str), l.all vright = true → (∀ v, v ∈ l → inI v.n) → (encs l ++ t).length < k → ∃ j, t.length < j ∧ decN k acc (encs l ++ t) = decN j (acc ++ l) t
  | [], k, acc, t, _, _, hk => ⟨k, hk, by simp [encs]⟩
  | v :: l, k, acc, t, hr, hn, hk => by
    simp only [List.all_cons, Bool.and_eq_true] at hr
    cases k with
    | zero => omega
    | succ k =>
      have e : encs (v :: l) ++ t = encv v ++ (encs l ++ t) := by simp [encs]
      rw [e] at hk ⊢
      have h1 := one1_enc hr.1 (hn v (by simp)) (encs l ++ t)
      have h2 : 0 < (encv v).length := by simp [encv]
      rw [List.length_append] at hk
      obtain ⟨j, hj, he⟩ := decN_enc l k (acc ++ [v]) t hr.2 (fun w hw => hn w (by simp [hw])) (by omega)
      refine ⟨j, hj, ?_⟩
      rw [decN, h1, if_neg (by simp [encv]), if_pos (by simp only; omega)]
      simp only [Int.toNat_natCast, List.drop_left]
      rw [he]
      simp
theorem dec_enc {l : List Val} (hr : l.all vright = true) (hn : ∀ v, v ∈ l → inI v.n) : dec (encs l) = (l, 0) := by
  obtain ⟨j, hj, he⟩ := decN_enc l ((encs l).length + 1) [] [] hr hn (by simp)
  rw [List.append_nil] at he
  rw [dec, he]
  cases j with
  | zero => omega
  | succ j => simp [decN]
theorem decN_cut : ∀ (l : List Val) (k : Nat) (acc : List Val) (u w : Str), l.all vright = true → (∀ v, v ∈ l → inI v.n) → u ++ w = encs l → u.length < k → (decN k acc u = ([], 10) ∨ ∃ m, decN k acc u = (acc ++ m, 0) ∧ ∃ r, l = m ++ r)
  | _, 0, _, _, _, _, _, _, hk => by omega
  | l, k + 1, acc, [], w, hr, hn, h, hk => .inr ⟨[], by simp [decN], l, rfl⟩
  | [], k + 1, acc, c :: u, w, hr, hn, h, hk => by simp [encs] at h
  | v :: l, k + 1, acc, c :: u, w, hr, hn, h, hk => by
    simp only [List.all_cons, Bool.and_eq_true] at hr
    have e : encs (v :: l) = encv v ++ encs l := by simp [encs]
    rw [e] at h
    rcases List.append_eq_append_iff.1 h with ⟨a, h1, h2⟩ | ⟨a, h1, h2⟩
    · by_cases ha : a = []
      · subst ha
        rw [List.append_nil] at h1
        have h3 := one1_enc hr.1 (hn v (by simp)) []
        rw [List.append_nil, h1] at h3
        simp only [List.nil_append] at h2
        rcases decN_cut l k (acc ++ [v]) [] w hr.2 (fun x hx => hn x (by simp [hx])) (by simpa using h2) (by simp only [List.length_cons] at hk; simp; omega) with hd | ⟨m, hd, r, hm⟩
        · left
          rw [decN, if_neg (by simp), h3, if_pos (by simp)]
          simp only [Int.toNat_natCast, List.drop_length]
          exact hd
        · right
          refine ⟨v :: m, ?_, r, by rw [hm]; rfl⟩
          rw [decN, if_neg (by simp), h3, if_pos (by simp)]
          simp only [Int.toNat_natCast, List.drop_length]
          rw [hd]
          simp
      · left
        have h3 := one1_cut hr.1 h1.symm (by simp) ha
        rw [decN, if_neg (by simp), h3]
        simp
    · have h3 := one1_enc hr.1 (hn v (by simp)) a
      rw [← h1] at h3
      have hpos : 0 < (encv v).length := by simp [encv]
      have hl := congrArg List.length h1
      rw [List.length_append] at hl
      have hdr : (c :: u).drop (encv v).length = a := by rw [h1]; exact List.drop_left
      rcases decN_cut l k (acc ++ [v]) a w hr.2 (fun x hx => hn x (by simp [hx])) h2.symm (by omega) with hd | ⟨m, hd, r, hm⟩
      · left
        rw [decN, if_neg (by simp), h3, if_pos (by simp only; omega)]
        simp only [Int.toNat_natCast]
        rw [hdr]
        exact hd
      · right
        refine ⟨v :: m, ?_, r, by rw [hm]; rfl⟩
        rw [decN, if_neg (by simp), h3, if_pos (by simp only; omega)]
        simp only [Int.toNat_natCast]
        rw [hdr, hd]
        simp
theorem decN_back : ∀ (k : Nat) (acc : List Val) (b : Str) (r : List Val × Int), decN k acc b = r → b.length < k → (r = ([], 10) ∨ r = ([], 11) ∨ ∃ m, r = (acc ++ m, 0) ∧ m.all vright = true ∧ (∀ v, v ∈ m → inI v.n) ∧ b = encs m)
  | 0, _, _, _, _, h => by omega
  | k + 1, acc, b, r, he, hk => by
    rw [decN] at he
    by_cases hb : b = []
    · rw [if_pos hb] at he
      exact .inr (.inr ⟨[], by rw [← he, List.append_nil], rfl, fun v hv => (by cases hv), by rw [hb]; rfl⟩)
    · rw [if_neg hb] at he
      by_cases h1 : 0 < (one1 b).2
      · rw [if_pos h1] at he
        have hr := one1_rng h1
        obtain ⟨h2, h3, t, h4, h5⟩ := one1_back h1
        have h6 : b.drop (one1 b).2.toNat = t := by
          rw [h5, Int.toNat_natCast]
          conv => lhs; arg 2; rw [h4]
          exact List.drop_left
        rcases decN_back k _ _ r he (by rw [List.length_drop]; omega) with h | h | ⟨m, e1, e2, e3, e4⟩
        · exact .inl h
        · exact .inr (.inl h)
        · refine .inr (.inr ⟨(one1 b).1 :: m, by rw [e1]; simp, by simp [h2, e2], fun v hv => ?_, ?_⟩)
          · rcases List.mem_cons.1 hv with rfl | hv
            · exact h3
            · exact e3 v hv
          · rw [h6] at e4
            rw [show encs ((one1 b).1 :: m) = encv (one1 b).1 ++ encs m by simp [encs], ← e4]
            exact h4
      · rw [if_neg h1] at he
        split at he
        · exact .inl he.symm
        · exact .inr (.inl he.symm)
/-! ## order -/
theorem scmp_esc : ∀ (s t x y : Str), scmp (esc s ++ 0 :: 1 :: x) (esc t ++ 0 :: 1 :: y) = if s = t then scmp x y else scmp s t
  | [], [], x, y => by rw [if_pos rfl]; exact scmp_app [0, 1] x y
  | [], c :: t, x, y => by
    rw [if_neg (by simp), scmp_nil]
    by_cases hc : c = 0
    · subst hc
      rw [esc_zero, esc_nil, List.nil_append, List.cons_append, List.cons_append, scmp_same, scmp_lt (by decide)]
    · rw [esc_cons hc, esc_nil, List.nil_append, List.cons_append, scmp_lt (UInt8.pos_iff_ne_zero.2 hc)]
  | c :: s, [], x, y => by
    rw [if_neg (by simp), scmp_nil2]
    by_cases hc : c = 0
    · subst hc
      rw [esc_zero, esc_nil, List.nil_append, List.cons_append, List.cons_append, scmp_same, scmp_gt (by decide)]
    · rw [esc_cons hc, esc_nil, List.nil_append, List.cons_append, scmp_gt (UInt8.pos_iff_ne_zero.2 hc)]
  | c :: s, d :: t, x, y => by
    have ih := scmp_esc s t x y
    by_cases hcd : c = d
    · subst hcd
      have e : scmp (esc (c :: s) ++ 0 :: 1 :: x) (esc (c :: t) ++ 0 :: 1 :: y) = scmp (esc s ++ 0 :: 1 :: x) (esc t ++ 0 :: 1 :: y) := by
        by_cases hc : c = 0
        · subst hc
          rw [esc_zero, esc_zero]
          exact scmp_app [0, 255] _ _
        · rw [esc_cons hc, esc_cons hc]
          exact scmp_app [c] _ _
      rw [e, ih, scmp_same]
      simp
    · rw [if_neg (by simp [hcd])]
      have hlt : ∀ (c d : UInt8) (s t : Str), c < d → ∀ x y, scmp (esc (c :: s) ++ x) (esc (d :: t) ++ y) = -1 := fun c d s t h x y => by
        have hd : d ≠ 0 := UInt8.pos_iff_ne_zero.1 (UInt8.lt_of_le_of_lt (UInt8.zero_le) h)
        rw [esc_cons hd]
        by_cases hc : c = 0
        · subst hc
          rw [esc_zero]
          exact scmp_lt h _ _
        · rw [esc_cons hc]
          exact scmp_lt h _ _
      have hgt : ∀ (c d : UInt8) (s t : Str), d < c → ∀ x y, scmp (esc (c :: s) ++ x) (esc (d :: t) ++ y) = 1 := fun c d s t h x y => by
        have hd : c ≠ 0 := UInt8.pos_iff_ne_zero.1 (UInt8.lt_of_le_of_lt (UInt8.zero_le) h)
        rw [esc_cons hd]
        by_cases hc : d = 0
        · subst hc
          rw [esc_zero]
          exact scmp_gt h _ _
        · rw [esc_cons hc]
          exact scmp_gt h _ _
      rcases u8_tri c d with h | h | h
      · rw [hlt c d s t h, scmp_lt h]
      · exact absurd h hcd
      · rw [hgt c d s t h, scmp_gt h]
end Go.Proofs.YtkiakihffmafcaaDoor

/- Plain laws on a row's bytes: in order, one behind the other, the least beyond. -/
namespace Go.Proofs.YtkiakihffmafcaaDoor
open Go.Ax
theorem vsign_lt {a b : Int} (h : a < b) : vsign a b = -1 := by simp [vsign, h]
theorem vsign_gt {a b : Int} (h : b < a) : vsign a b = 1 := by
  have : ¬ a < b := by omega
  simp [vsign, h, this]
theorem vsign_eq (a : Int) : vsign a a = 0 := by simp [vsign]
theorem vcmp_kind {v w : Val} (h : vsign v.kind w.kind ≠ 0) : vcmp v w = vsign v.kind w.kind := by simp [vcmp, h]
theorem vcmp_num {v w : Val} (h : v.kind = w.kind) (h2 : vsign v.n w.n ≠ 0) : vcmp v w = vsign v.n w.n := by simp [vcmp, h, h2, vsign_eq]
theorem vcmp_text {v w : Val} (h : v.kind = w.kind) (h2 : v.n = w.n) : vcmp v w = scmp v.s w.s := by simp [vcmp, h, h2, vsign_eq]
theorem kind_rng {v : Val} (h : vright v = true) : 1 ≤ v.kind ∧ v.kind ≤ 5 := by
  rcases vright_iff.1 h with ⟨e, _⟩ | ⟨e, _⟩ | ⟨e, _⟩ | ⟨e, _⟩ | ⟨e, _⟩ <;> omega
theorem kind_byte {v : Val} (h : vright v = true) : (UInt8.ofNat v.kind.toNat).toNat = v.kind.toNat := by
  have := kind_rng h
  simp
  omega
theorem encv_cmp {v w : Val} (hv : vright v = true) (hw : vright w = true) (nv : inI v.n) (nw : inI w.n) (x y : Str) : scmp (encv v ++ x) (encv w ++ y) = if v = w then scmp x y else vcmp v w := by
  have kv := kind_rng hv
  have kw := kind_rng hw
  rcases Int.lt_trichotomy v.kind w.kind with h | h | h
  · have hne : ¬ v = w := fun e => by rw [e] at h; omega
    have hs := vsign_lt h
    rw [if_neg hne, vcmp_kind (by rw [hs]; decide), hs, encv, encv, List.cons_append, List.cons_append]
    refine scmp_lt ?_ _ _
    show (UInt8.ofNat v.kind.toNat).toNat < (UInt8.ofNat w.kind.toNat).toNat
    rw [kind_byte hv, kind_byte hw]
    omega
  · rw [encv, encv, h, List.cons_append, List.cons_append, scmp_same]
    obtain ⟨k, n, s⟩ := v
    obtain ⟨k2, m, t⟩ := w
    simp only at h
    subst h
    rcases vright_iff.1 hv with ⟨e, e1, e2⟩ | ⟨e, e1, e2⟩ | ⟨e, e1⟩ | ⟨e, h1, h2, h3⟩ | ⟨e, h1, h2⟩
    · simp only at e e1 e2
      subst e e1 e2
      rcases vright_iff.1 hw with ⟨_, e3, e4⟩ | ⟨q, _⟩ | ⟨q, _⟩ | ⟨q, _⟩ | ⟨q, _⟩
      · simp only at e3 e4
        subst e3 e4
        rw [if_pos rfl]
        rfl
      all_goals cases q
    · simp only at e e1 e2
      subst e e2
      rcases vright_iff.1 hw with ⟨q, _⟩ | ⟨_, e3, e4⟩ | ⟨q, _⟩ | ⟨q, _⟩ | ⟨q, _⟩
      · cases q
      · simp only at e3 e4
        subst e4
        rcases e1 with rfl | rfl <;> rcases e3 with rfl | rfl
        · rw [if_pos rfl]; exact scmp_same 0 x y
        · exact scmp_lt (c := 0) (d := 1) (by decide) x y
        · exact scmp_gt (c := 1) (d := 0) (by decide) x y
        · rw [if_pos rfl]; exact scmp_same 1 x y
      all_goals cases q
    · simp only at e e1 nv nw
      subst e e1
      rcases vright_iff.1 hw with ⟨q, _⟩ | ⟨q, _⟩ | ⟨_, e4⟩ | ⟨q, _⟩ | ⟨q, _⟩
      · cases q
      · cases q
      · simp only at e4
        subst e4
        have p1 : payload ⟨3, n, []⟩ = hi8 n := rfl
        have p2 : payload ⟨3, m, []⟩ = hi8 m := rfl
        rw [p1, p2, scmp_val (hi8 n) (hi8 m) x y rfl]
        have q1 := val8_hi8 nv
        have q2 := val8_hi8 nw
        rcases Int.lt_trichotomy n m with h | rfl | h
        · have hs := vsign_lt h
          rw [if_neg (by omega), if_pos (by omega), if_neg (by simp; omega), vcmp_num (v := ⟨3, n, []⟩) (w := ⟨3, m, []⟩) rfl (by simp only [hs]; decide)]
          exact hs.symm
        · rw [if_pos rfl, if_pos rfl]
        · have hs := vsign_gt h
          rw [if_neg (by omega), if_neg (by omega), if_neg (by simp; omega), vcmp_num (v := ⟨3, n, []⟩) (w := ⟨3, m, []⟩) rfl (by simp only [hs]; decide)]
          exact hs.symm
      all_goals cases q
    all_goals
      simp only at e h1
      subst e h1
      have m0 : m = 0 := by
        rcases vright_iff.1 hw with ⟨q, _⟩ | ⟨q, _⟩ | ⟨q, _⟩ | ⟨_, q, _⟩ | ⟨_, q, _⟩
        any_goals exact q
        all_goals cases q
      subst m0
      rw [payload_text (by simp), payload_text (by simp), List.append_assoc, List.append_assoc]
      refine (scmp_esc s t x y).trans ?_
      rw [show ∀ k : Int, vcmp ⟨k, 0, s⟩ ⟨k, 0, t⟩ = scmp s t from fun k => vcmp_text rfl rfl]
      by_cases hst : s = t
      · subst hst; rw [if_pos rfl, if_pos rfl]
      · rw [if_neg hst, if_neg (by simp [hst])]
  · have hne : ¬ v = w := fun e => by rw [e] at h; omega
    have hs := vsign_gt h
    rw [if_neg hne, vcmp_kind (by rw [hs]; decide), hs, encv, encv, List.cons_append, List.cons_append]
    refine scmp_gt ?_ _ _
    show (UInt8.ofNat w.kind.toNat).toNat < (UInt8.ofNat v.kind.toNat).toNat
    rw [kind_byte hv, kind_byte hw]
    omega
theorem vcmp_ne {v w : Val} (h : ¬ v = w) : vcmp v w ≠ 0 := fun e => h ((vcmp_lin.eq _ _).1 e)
theorem encs_cons (v : Val) (l : List Val) : encs (v :: l) = encv v ++ encs l := by simp [encs]
theorem encs_cmp : ∀ (a b : List Val) (x y : Str), a.length = b.length → a.all vright = true → b.all vright = true → (∀ v, v ∈ a → inI v.n) → (∀ v, v ∈ b → inI v.n) → scmp (encs a ++ x) (encs b ++ y) = if a = b then scmp x y else lexL vcmp a b
  | [], [], x, y, _, _, _, _, _ => by rw [if_pos rfl]; rfl
  | [], _ :: _, _, _, h, _, _, _, _ => by cases h
  | _ :: _, [], _, _, h, _, _, _, _ => by cases h
  | v :: a, w :: b, x, y, h, ra, rb, na, nb => by
    simp only [List.all_cons, Bool.and_eq_true] at ra rb
    rw [encs_cons, encs_cons, List.append_assoc, List.append_assoc, encv_cmp ra.1 rb.1 (na v (by simp)) (nb w (by simp))]
    simp only [List.length_cons, Nat.add_right_cancel_iff] at h
    by_cases hvw : v = w
    · subst hvw
      rw [if_pos rfl, encs_cmp a b x y h ra.2 rb.2 (fun u hu => na u (by simp [hu])) (fun u hu => nb u (by simp [hu]))]
      have e0 : vcmp v v = 0 := (vcmp_lin.eq _ _).2 rfl
      simp only [List.cons.injEq, true_and, lexL, e0, then2, if_true]
    · rw [if_neg hvw, if_neg (by simp [hvw])]
      simp only [lexL, then2]
      rw [if_neg (vcmp_ne hvw)]
theorem lexL_ne {a b : List Val} (h : ¬ a = b) : lexL vcmp a b ≠ 0 := fun e => h ((vrows_lin.eq a b).1 e)
/-- neither of two rows of one length begins the other, unless they are the same -/
theorem encs_front {a b : List Val} (h : a.length = b.length) (ra : a.all vright = true) (rb : b.all vright = true) (na : ∀ v, v ∈ a → inI v.n) (nb : ∀ v, v ∈ b → inI v.n) {x y : Str} (he : encs a ++ x = encs b ++ y) : a = b := by
  by_cases hab : a = b
  · exact hab
  · have h1 := encs_cmp a b x y h ra rb na nb
    rw [if_neg hab, he] at h1
    have h2 : scmp (encs b ++ y) (encs b ++ y) = 0 := (scmp_zero _ _).2 rfl
    rw [h2] at h1
    exact absurd h1.symm (lexL_ne hab)
/-- a row's bytes begin with another's just if the row begins so -/
theorem encs_begins {p b : List Val} (rp : p.all vright = true) (rb : b.all vright = true) (np : ∀ v, v ∈ p → inI v.n) (nb : ∀ v, v ∈ b → inI v.n) : encs p <+: encs b ↔ p <+: b := by
  constructor
  · rintro ⟨x, hx⟩
    by_cases hl : p.length ≤ b.length
    · have h1 : b.take p.length ++ b.drop p.length = b := List.take_append_drop _ _
      have h2 : encs b = encs (b.take p.length) ++ encs (b.drop p.length) := by rw [← encs_append, h1]
      rw [h2] at hx
      have h3 : p = b.take p.length := by
        refine encs_front (by rw [List.length_take]; omega) rp ?_ np (fun v hv => nb v (List.mem_of_mem_take hv)) hx
        exact List.all_eq_true.2 fun v hv => List.all_eq_true.1 rb v (List.mem_of_mem_take hv)
      exact ⟨b.drop p.length, by rw [← h3] at h1; exact h1⟩
    · have h1 : p.take b.length ++ p.drop b.length = p := List.take_append_drop _ _
      have h2 : encs p = encs (p.take b.length) ++ encs (p.drop b.length) := by rw [← encs_append, h1]
      have h3 : encs (p.take b.length) ++ (encs (p.drop b.length) ++ x) = encs b ++ [] := by rw [← List.append_assoc, ← h2, hx, List.append_nil]
      have h4 : p.take b.length = b := encs_front (by rw [List.length_take]; omega) (List.all_eq_true.2 fun v hv => List.all_eq_true.1 rp v (List.mem_of_mem_take hv)) rb (fun v hv => np v (List.mem_of_mem_take hv)) nb h3
      rw [h4] at h3
      have h5 := List.append_cancel_left h3
      cases hd : p.drop b.length with
      | nil => have := congrArg List.length hd; simp at this; omega
      | cons v l => rw [hd, encs_cons, encv] at h5; simp at h5
  · rintro ⟨x, hx⟩
    exact ⟨encs x, by rw [← hx, encs_append]⟩
/-! ## the least beyond -/
def nxt : Str → Str
  | [] => []
  | c :: l => if nxt l = [] then (if c = 255 then [] else [c + 1]) else c :: nxt l
theorem u8_max (d : UInt8) : ¬ (255 : UInt8) < d := by
  have := d.toNat_lt
  intro h
  have h : (255 : UInt8).toNat < d.toNat := h
  have e : (255 : UInt8).toNat = 255 := rfl
  omega
theorem u8_succ {c : UInt8} (h : c ≠ 255) : (c + 1).toNat = c.toNat + 1 := by
  have h1 := c.toNat_lt
  have h2 : c.toNat ≠ 255 := fun e => h (UInt8.toNat_inj.1 e)
  simp
  omega
theorem scmp_le_nil (y : Str) : ¬ scmp y [] < 0 := by
  cases y with
  | nil => decide
  | cons _ _ => rw [scmp_nil2]; decide
theorem scmp_nil_le (y : Str) : scmp [] y ≤ 0 := by
  cases y with
  | nil => decide
  | cons _ _ => rw [scmp_nil]; decide
theorem nxt_iff : ∀ p y : Str, (scmp p y ≤ 0 ∧ (nxt p = [] ∨ scmp y (nxt p) < 0)) ↔ p <+: y
  | [], y => by simp [scmp_nil_le, nxt]
  | c :: l, [] => by rw [scmp_nil2]; simp
  | c :: l, d :: y => by
    have ih := nxt_iff l y
    rw [List.cons_prefix_cons]
    rcases u8_tri c d with h | rfl | h
    · have hne : ¬ c = d := fun e => by rw [e] at h; exact UInt8.lt_irrefl _ h
      simp only [hne, false_and, iff_false, scmp_lt h]
      rintro ⟨_, h2⟩
      by_cases hn : nxt l = []
      · by_cases hc : c = 255
        · rw [hc] at h; exact u8_max d h
        · simp only [nxt, hn, hc, if_true, if_false] at h2
          rcases h2 with h2 | h2
          · cases h2
          · rcases u8_tri d (c + 1) with h3 | rfl | h3
            · have e1 := u8_succ hc
              have h : c.toNat < d.toNat := h
              have h3 : d.toNat < (c + 1).toNat := h3
              omega
            · rw [scmp_same] at h2
              exact scmp_le_nil y h2
            · rw [scmp_gt h3] at h2
              omega
      · simp only [nxt, hn, if_false] at h2
        rcases h2 with h2 | h2
        · cases h2
        · rw [scmp_gt h] at h2
          omega
    · rw [scmp_same]
      simp only [true_and]
      rw [← ih]
      by_cases hn : nxt l = []
      · by_cases hc : c = 255
        · simp [nxt, hn, hc]
        · have h1 : c < c + 1 := by
            show c.toNat < (c + 1).toNat
            rw [u8_succ hc]; omega
          simp [nxt, hn, hc, scmp_lt h1]
      · simp only [nxt, hn, if_false, scmp_same]
        simp
    · have hne : ¬ c = d := fun e => by rw [e] at h; exact UInt8.lt_irrefl _ h
      simp [hne, scmp_gt h]
theorem nxt_all : ∀ n : Nat, nxt (List.replicate n 255) = []
  | 0 => rfl
  | n + 1 => by simp [List.replicate_succ, nxt, nxt_all n]
theorem nxt_snoc {c : UInt8} (h : c ≠ 255) (n : Nat) : ∀ l : Str, nxt (l ++ c :: List.replicate n 255) = l ++ [c + 1]
  | [] => by simp [nxt, nxt_all, h]
  | d :: l => by simp [nxt, nxt_snoc h n l]
theorem scmp_anti (a b : Str) : scmp b a = -(scmp a b) := by
  have h := vcmp_lin.anti ⟨5, 0, a⟩ ⟨5, 0, b⟩
  rw [vcmp_text (v := ⟨5, 0, a⟩) (w := ⟨5, 0, b⟩) rfl rfl, vcmp_text (v := ⟨5, 0, b⟩) (w := ⟨5, 0, a⟩) rfl rfl] at h
  exact h
end Go.Proofs.YtkiakihffmafcaaDoor

/- Rows read from bytes: the program's and the document's. -/
namespace Go.Proofs.YtkiakihffmafcaaDoor
open Go.Ax
/-! ## exchequer/keys.Decode -/
def kdec_0_sg : Sig := ⟨33, [(0, .sl .byte false), (2, .sl .val true), (3, .int .i64), (4, .sl .val true), (5, .int .i64)], [], [], 0, 0, 0, [], []⟩
abbrev kdec_0_V := List UInt8 × List Val × Int × List Val × Int
def kdec_0 {R : Type} (rec : kdec_0_V → Option R) (kx : Ex → kdec_0_V → Option R) (v : kdec_0_V) : Option R := match v with
 | (v, v1, v2, v3, v4) =>
  cond (decide (v4 < (v.length : Int))) (
   chk (upto v4 v.length v.length) (
    (kone (v.drop (v4 : Int).toNat)).bind fun (x, x1) =>
     cond (decide (0 < x1)) (
      chk (decide (v3.length + 1 ≤ maxApp)) (
       rec (v, v1, v2, (v3 ++ [x]), (wr .i64 (v4 + x1))))) (
      cond (decide (x1 = 0)) (
       kx .ret (v, [], 10, v3, v4)) (
       kx .ret (v, [], 11, v3, v4))))) (
   kx (.exit 0) (v, v1, v2, v3, v4))
def kdec_px (R : Type) (k : Nat) : Px R := ⟨ttOf ttL, glT, callT [(29, callOr [.sl .byte false] [.sv .val, .int .i64] kone_F)], callQT [], loopT [(3, loopOr k kdec_0_sg (kdec_0))]⟩
theorem kdec_0_eq (R : Type) (k : Nat) : ∀ (fr : List Fr) (rec : kdec_0_V → Option R) (kx : Ex → kdec_0_V → Option R) (v : kdec_0_V), round (kdec_px R k) kdec_0_sg (lp Tryd.f13 0) fr rec kx v = kdec_0 rec kx v
  | fr, rec, kx, (v, v1, v2, v3, v4) => by kernel_rfl
def kdec_body (k : Nat) (x : HV [.sl .byte false]) : Option (HV [.sl .val true, .int .i64]) := match x with
 | b =>
  iter (fun rec => kdec_0 rec (fun e v => match v with | (_, v6, v7, v8, _) => match e with
   | .ret =>
    some (v6, v7)
   | .exit 0 =>
    some (v8, 0)
   | _ => none)) k (b, [], 0, [], 0)
theorem kdec_eq (k : Nat) : ∀ (x : HV [.sl .byte false]), runF (kdec_px _ k) Tryd.f13 [.sl .byte false] [.sl .val true, .int .i64] x some = kdec_body k x
  | b => by kernel_rfl
theorem kdec_run (k : Nat) : FnOk Tryd.prog elT glT 13 [.sl .byte false] [.sl .val true, .int .i64] (kdec_body k) := by
  refine fnOk_run Tryd.func13 rfl (by kernel_rfl) follows (by kernel_rfl) (n := 1) (by kernel_rfl) (px := kdec_px _ k) (fun cx hP hel hgl => ?_) (kdec_eq k)
  have hp0 : PxOk cx (kdec_px (HV [.sl .val true, .int .i64]) k) := ⟨fun t => by rw [hP, hel]; exact tt_ok ttL_ok t, by rw [hgl]; rfl⟩
  have hc0 : CallOk cx (kdec_px (HV [.sl .val true, .int .i64]) k) := callT_ok rfl (cfs_cons (cf_or (by rw [hP, hel, hgl]; exact kone_ok) (by kernel_rfl)) cfs_nil)
  have hq0 : CallQOk cx (kdec_px (HV [.sl .val true, .int .i64]) k) := callQT_ok rfl cqfs_nil
  have hlkdec_0 : LoopOk cx (kdec_px (HV [.sl .val true, .int .i64]) k) (lp Tryd.f13 0) := loop_ok hp0 hc0 hq0 (by rw [hP]; exact follows) (k := k) (s := kdec_0_sg) (step := kdec_0) (fun _ _ => by kernel_rfl) (by kernel_rfl) (kdec_0_eq _ k) (loops_in (n := 0) (by kernel_rfl) all0)
  exact ⟨hp0, hc0, hq0, (allS all0 hlkdec_0)⟩
def kdec (b : Str) : Option (List Val × Int) := cond (decide (b.length ≤ 1000000)) (some (dec b)) none
def kdec_F : FT [.sl .byte false] [.sl .val true, .int .i64] := fun x => kdec x
theorem kone_some {b : Str} (h : b ≠ []) (hl : b.length ≤ 1000000) : kone b = some (one1 b) := by
  simp [kone, h, hl]
theorem kdec_loop {R : Type} {kx : Ex → kdec_0_V → Option R} {b : Str} {c : List Val × Int → Option R} (hb : b.length ≤ 1000000) (h1 : ∀ e o i, kx .ret (b, [], e, o, i) = c ([], e)) (h2 : ∀ q e o i, kx (.exit 0) (b, q, e, o, i) = c (o, 0)) :
    ∀ (k i : Nat) (q : List Val) (e : Int) (o : List Val), i ≤ b.length → b.length - i < k → o.length ≤ i → iter (fun rec => kdec_0 rec kx) k (b, q, e, o, (i : Int)) = c (decN k o (b.drop i))
  | 0, i, _, _, _, _, h, _ => by omega
  | k + 1, i, q, e, o, hi, h, ho => by
    rw [iter_s]
    by_cases hl : i < b.length
    · have hdl : (b.drop i).length = b.length - i := List.length_drop
      have hne : b.drop i ≠ [] := fun e => by rw [e] at hdl; simp at hdl; omega
      have e1 : decide ((i : Int) < (b.length : Int)) = true := decide_eq_true (by omega)
      have e2 : upto (i : Int) (b.length : Int) b.length = true := by rw [upto_nat]; simp; omega
      have e3 : kone (b.drop i) = some (one1 (b.drop i)) := kone_some hne (by omega)
      have e4 : decide (o.length + 1 ≤ maxApp) = true := decide_eq_true (by simp only [maxApp]; omega)
      simp only [kdec_0, e1, cond_t, e2, chk, Int.toNat_natCast, e3, Option.bind_some, e4, h1, decN, if_neg hne]
      by_cases hp : 0 < (one1 (b.drop i)).2
      · have hr := one1_rng hp
        have e5 : wr .i64 ((i : Int) + (one1 (b.drop i)).2) = ((i + (one1 (b.drop i)).2.toNat : Nat) : Int) := by
          rw [wr_id (by simp only [inI]; omega)]; omega
        have ih := kdec_loop hb h1 h2 k (i + (one1 (b.drop i)).2.toNat) q e (o ++ [(one1 (b.drop i)).1]) (by omega) (by omega) (by simp; omega)
        rw [decide_eq_true hp, cond_t, e5, ih, if_pos hp, List.drop_drop]
      · rw [decide_eq_false hp, cond_f, if_neg hp, Bool.cond_decide]
        split <;> rfl
    · have hd : b.drop i = [] := List.drop_eq_nil_of_le (by omega)
      simp only [kdec_0, decide_eq_false (show ¬ (i : Int) < (b.length : Int) by omega), cond_f, h2, hd, decN, if_true]
theorem kdec_ok : FnOk Tryd.prog elT glT 13 [.sl .byte false] [.sl .val true, .int .i64] kdec_F := .fin 0 kdec_run fun b r hb hx => ⟨b.length + 1, by
  simp only [kdec_F, kdec] at hx
  cases hc : decide (b.length ≤ 1000000) with
  | false => rw [hc] at hx; cases hx
  | true =>
    rw [hc] at hx
    have hx : some (dec b) = some r := hx
    rw [← hx]
    simp only [kdec_body]
    exact kdec_loop (c := fun q => some q) (of_decide_eq_true hc) (fun _ _ _ => rfl) (fun _ _ _ _ => rfl) (b.length + 1) 0 [] 0 [] (Nat.zero_le _) (by omega) (Nat.le_refl _)⟩
/-! ## exchequer/exchequerref04.Cmp -/
def rcmp4_0_sg : Sig := ⟨46, [(0, .sl .byte false), (1, .sl .byte false), (4, .int .i64), (5, .int .i64)], [], [], 0, 0, 0, [], []⟩
abbrev rcmp4_0_V := List UInt8 × List UInt8 × Int × Int
def rcmp4_0 {R : Type} (rec : rcmp4_0_V → Option R) (kx : Ex → rcmp4_0_V → Option R) (v : rcmp4_0_V) : Option R := match v with
 | (v, v1, v2, v3) =>
  cond (decide (v3 < (v.length : Int))) (
   cond (decide (v3 < (v1.length : Int))) (
    chk (inb v3 v.length) (
     chk (inb v3 v1.length) (
      cond (decide (((at' .byte v v3).toNat : Int) < ((at' .byte v1 v3).toNat : Int))) (
       kx .ret (v, v1, (-1), v3)) (
       chk (inb v3 v.length) (
        chk (inb v3 v1.length) (
         cond (decide (((at' .byte v1 v3).toNat : Int) < ((at' .byte v v3).toNat : Int))) (
          kx .ret (v, v1, 1, v3)) (
          rec (v, v1, v2, (wr .i64 (v3 + 1)))))))))) (
    kx (.exit 0) (v, v1, v2, v3))) (
   kx (.exit 0) (v, v1, v2, v3))
def rcmp4_px (R : Type) (k : Nat) : Px R := ⟨ttOf ttL, glT, callT [], callQT [], loopT [(2, loopOr k rcmp4_0_sg (rcmp4_0))]⟩
theorem rcmp4_0_eq (R : Type) (k : Nat) : ∀ (fr : List Fr) (rec : rcmp4_0_V → Option R) (kx : Ex → rcmp4_0_V → Option R) (v : rcmp4_0_V), round (rcmp4_px R k) rcmp4_0_sg (lp Tryd.f18 0) fr rec kx v = rcmp4_0 rec kx v
  | fr, rec, kx, (v, v1, v2, v3) => by kernel_rfl
def rcmp4_body (k : Nat) (x : HV [.sl .byte false, .sl .byte false]) : Option (HV [.int .i64]) := match x with
 | (a, b) =>
  iter (fun rec => rcmp4_0 rec (fun e v => match v with | (v4, v5, v6, _) => match e with
   | .ret =>
    some v6
   | .exit 0 =>
    cond (decide ((v4.length : Int) < (v5.length : Int))) (
     some (-1)) (
     cond (decide ((v5.length : Int) < (v4.length : Int))) (
      some 1) (
      some 0))
   | _ => none)) k (a, b, 0, 0)
theorem rcmp4_eq (k : Nat) : ∀ (x : HV [.sl .byte false, .sl .byte false]), runF (rcmp4_px _ k) Tryd.f18 [.sl .byte false, .sl .byte false] [.int .i64] x some = rcmp4_body k x
  | (a, b) => by kernel_rfl
theorem rcmp4_run (k : Nat) : FnOk Tryd.prog elT glT 18 [.sl .byte false, .sl .byte false] [.int .i64] (rcmp4_body k) := by
  refine fnOk_run Tryd.func18 rfl (by kernel_rfl) follows (by kernel_rfl) (n := 1) (by kernel_rfl) (px := rcmp4_px _ k) (fun cx hP hel hgl => ?_) (rcmp4_eq k)
  have hp0 : PxOk cx (rcmp4_px (HV [.int .i64]) k) := ⟨fun t => by rw [hP, hel]; exact tt_ok ttL_ok t, by rw [hgl]; rfl⟩
  have hc0 : CallOk cx (rcmp4_px (HV [.int .i64]) k) := callT_ok rfl cfs_nil
  have hq0 : CallQOk cx (rcmp4_px (HV [.int .i64]) k) := callQT_ok rfl cqfs_nil
  have hlrcmp4_0 : LoopOk cx (rcmp4_px (HV [.int .i64]) k) (lp Tryd.f18 0) := loop_ok hp0 hc0 hq0 (by rw [hP]; exact follows) (k := k) (s := rcmp4_0_sg) (step := rcmp4_0) (fun _ _ => by kernel_rfl) (by kernel_rfl) (rcmp4_0_eq _ k) (loops_in (n := 0) (by kernel_rfl) all0)
  exact ⟨hp0, hc0, hq0, (allS all0 hlrcmp4_0)⟩
abbrev rcmp4 (a b : Str) : Int := scmp a b
def rcmp4_F : FT [.sl .byte false, .sl .byte false] [.int .i64] := fun x => some (rcmp4 x.1 x.2)
theorem rcmp4_loop {R : Type} {kx : Ex → rcmp4_0_V → Option R} {a b : Str} {c : Int → Option R} (hb : ln a.length) (h1 : ∀ r i, kx .ret (a, b, r, i) = c r) (h2 : ∀ q (i : Nat), i ≤ a.length → i ≤ b.length → (i = a.length ∨ i = b.length) → kx (.exit 0) (a, b, q, (i : Int)) = c (scmp (a.drop i) (b.drop i))) :
    ∀ (k i : Nat) (q : Int), i ≤ a.length → i ≤ b.length → a.length - i < k → iter (fun rec => rcmp4_0 rec kx) k (a, b, q, (i : Int)) = c (scmp (a.drop i) (b.drop i))
  | 0, i, _, _, _, h => by omega
  | k + 1, i, q, hi, hj, h => by
    rw [iter_s]
    by_cases la : i < a.length
    · by_cases lb : i < b.length
      · have ih := rcmp4_loop hb h1 h2 k (i + 1) q (by omega) (by omega) (by omega)
        have e1 : decide ((i : Int) < (a.length : Int)) = true := decide_eq_true (by omega)
        have e2 : decide ((i : Int) < (b.length : Int)) = true := decide_eq_true (by omega)
        have e3 : ∀ x y : UInt8, decide ((x.toNat : Int) < (y.toNat : Int)) = decide (x < y) := fun x y => decide_eq_decide.2 (by rw [UInt8.lt_iff_toNat_lt]; omega)
        simp only [rcmp4_0, e1, e2, cond_t, inb_t la, inb_t lb, chk, at_nat (c := .byte) la, at_nat (c := .byte) lb, wr_succ la hb, ih, h1, e3]
        rw [drop_cons la, drop_cons lb]
        rcases u8_tri a[i] b[i] with h | h | h
        · rw [decide_eq_true h, scmp_lt h]; rfl
        · rw [h, scmp_same, decide_eq_false (UInt8.lt_irrefl _)]; rfl
        · rw [decide_eq_false (UInt8.lt_asymm h), decide_eq_true h, scmp_gt h]; rfl
      · simp only [rcmp4_0, decide_eq_true (show (i : Int) < (a.length : Int) by omega), decide_eq_false (show ¬ (i : Int) < (b.length : Int) by omega), cond_t, cond_f]
        exact h2 q i hi hj (.inr (by omega))
    · simp only [rcmp4_0, decide_eq_false (show ¬ (i : Int) < (a.length : Int) by omega), cond_f]
      exact h2 q i hi hj (.inl (by omega))
theorem rcmp4_ok : FnOk Tryd.prog elT glT 18 [.sl .byte false, .sl .byte false] [.int .i64] rcmp4_F := .fin 0 rcmp4_run fun (a, b) r hb hx => ⟨a.length + 1, by
  simp only [rcmp4_F, Option.some.injEq] at hx
  rw [← hx]
  simp only [rcmp4_body]
  refine rcmp4_loop (c := fun q => some q) hb.1.1 (fun _ _ => rfl) (fun q i hi hj h => ?_) (a.length + 1) 0 0 (Nat.zero_le _) (Nat.zero_le _) (by omega)
  rcases h with h | h
  · subst h
    rw [List.drop_length]
    by_cases hl : a.length < b.length
    · rw [drop_cons hl, scmp_nil]
      simp only [decide_eq_true (show (a.length : Int) < (b.length : Int) by omega), cond_t]
    · rw [List.drop_eq_nil_of_le (by omega)]
      simp only [decide_eq_false (show ¬ (a.length : Int) < (b.length : Int) by omega), decide_eq_false (show ¬ (b.length : Int) < (a.length : Int) by omega), cond_f]
      rfl
  · subst h
    rw [List.drop_length]
    by_cases hl : b.length < a.length
    · rw [drop_cons hl, scmp_nil2]
      simp only [decide_eq_false (show ¬ (a.length : Int) < (b.length : Int) by omega), decide_eq_true (show (b.length : Int) < (a.length : Int) by omega), cond_t, cond_f]
    · rw [List.drop_eq_nil_of_le (by omega)]
      simp only [decide_eq_false (show ¬ (a.length : Int) < (b.length : Int) by omega), decide_eq_false (show ¬ (b.length : Int) < (a.length : Int) by omega), cond_f]
      rfl⟩
/-! ## exchequer/exchequerref04.Decode -/
def rdec_0_sg : Sig := ⟨77, [(0, .sl .byte false), (2, .sl .val true), (3, .int .i64), (4, .sl .val true)], [], [], 0, 0, 0, [], []⟩
abbrev rdec_0_V := List UInt8 × List Val × Int × List Val
def rdec_0 {R : Type} (rec : rdec_0_V → Option R) (kx : Ex → rdec_0_V → Option R) (v : rdec_0_V) : Option R := match v with
 | (v, v1, v2, v3) =>
  cond (decide (0 < (v.length : Int))) (
   chk (inb 0 v.length) (
    let j1 := fun (p1 : Int) (p2 : Bool) (q : Val) =>
     cond (!decide ((rcheck q) = 0)) (
      kx .ret (v, [], 11, v3)) (
      cond (p2) (
       kx .ret (v, [], 10, v3)) (
       cond (decide ((v.length : Int) < p1)) (
        kx .ret (v, [], 10, v3)) (
        chk (decide (v3.length + 1 ≤ maxApp)) (
         chk (upto p1 v.length v.length) (
          rec ((v.drop (p1 : Int).toNat), v1, v2, (v3 ++ [q])))))))
    chk (inb 0 v.length) (
     cond (decide (((at' .byte v 0).toNat : Int) = 2)) (
      cond (decide (1 < (v.length : Int))) (
       chk (inb 1 v.length) (
        j1 2 false (Val.mk (wr .i64 ((at' .byte v 0).toNat : Int)) (wr .i64 ((at' .byte v 1).toNat : Int)) []))) (
       j1 2 false (Val.mk (wr .i64 ((at' .byte v 0).toNat : Int)) 0 []))) (
      cond (decide (((at' .byte v 0).toNat : Int) = 3)) (
       cond (decide (9 ≤ (v.length : Int))) (
        chk (upto 1 9 v.length) (
         (rlow (cut v 1 9)).bind fun x =>
          j1 9 false (Val.mk (wr .i64 ((at' .byte v 0).toNat : Int)) x []))) (
        j1 9 false (Val.mk (wr .i64 ((at' .byte v 0).toNat : Int)) 0 []))) (
       let j := fun (p : Bool) =>
        cond (p) (
         chk (upto 1 v.length v.length) (
          (resc (v.drop (1 : Int).toNat)).bind fun (x1, x2) =>
           cond (decide (x2 < 0)) (
            kx .ret (v, [], 11, v3)) (
            j1 (wr .i64 (x2 + 1)) (decide (x2 = 0)) (Val.mk (wr .i64 ((at' .byte v 0).toNat : Int)) 0 x1)))) (
         j1 1 false (Val.mk (wr .i64 ((at' .byte v 0).toNat : Int)) 0 []))
       cond (decide (((at' .byte v 0).toNat : Int) = 4)) (
        j (decide (((at' .byte v 0).toNat : Int) = 4))) (
        j (decide (((at' .byte v 0).toNat : Int) = 5)))))))) (
   kx (.exit 0) (v, v1, v2, v3))
def rdec_px (R : Type) (k : Nat) : Px R := ⟨ttOf ttL, glT, callT [(30, callOr [.sl .byte false] [.int .i64] rlow_F), (31, callOr [.sl .byte false] [.str, .int .i64] resc_F), (27, callOr [.sv .val] [.int .i64] rcheck_F)], callQT [], loopT [(2, loopOr k rdec_0_sg (rdec_0))]⟩
theorem rdec_0_eq (R : Type) (k : Nat) : ∀ (fr : List Fr) (rec : rdec_0_V → Option R) (kx : Ex → rdec_0_V → Option R) (v : rdec_0_V), round (rdec_px R k) rdec_0_sg (lp Tryd.f14 0) fr rec kx v = rdec_0 rec kx v
  | fr, rec, kx, (v, v1, v2, v3) => by kernel_rfl
def rdec_body (k : Nat) (x : HV [.sl .byte false]) : Option (HV [.sl .val true, .int .i64]) := match x with
 | b =>
  iter (fun rec => rdec_0 rec (fun e v => match v with | (_, v5, v6, v7) => match e with
   | .ret =>
    some (v5, v6)
   | .exit 0 =>
    some (v7, 0)
   | _ => none)) k (b, [], 0, [])
theorem rdec_eq (k : Nat) : ∀ (x : HV [.sl .byte false]), runF (rdec_px _ k) Tryd.f14 [.sl .byte false] [.sl .val true, .int .i64] x some = rdec_body k x
  | b => by kernel_rfl
theorem rdec_run (k : Nat) : FnOk Tryd.prog elT glT 14 [.sl .byte false] [.sl .val true, .int .i64] (rdec_body k) := by
  refine fnOk_run Tryd.func14 rfl (by kernel_rfl) follows (by kernel_rfl) (n := 1) (by kernel_rfl) (px := rdec_px _ k) (fun cx hP hel hgl => ?_) (rdec_eq k)
  have hp0 : PxOk cx (rdec_px (HV [.sl .val true, .int .i64]) k) := ⟨fun t => by rw [hP, hel]; exact tt_ok ttL_ok t, by rw [hgl]; rfl⟩
  have hc0 : CallOk cx (rdec_px (HV [.sl .val true, .int .i64]) k) := callT_ok rfl (cfs_cons (cf_or (by rw [hP, hel, hgl]; exact rlow_ok) (by kernel_rfl)) (cfs_cons (cf_or (by rw [hP, hel, hgl]; exact resc_ok) (by kernel_rfl)) (cfs_cons (cf_or (by rw [hP, hel, hgl]; exact rcheck_ok) (by kernel_rfl)) cfs_nil)))
  have hq0 : CallQOk cx (rdec_px (HV [.sl .val true, .int .i64]) k) := callQT_ok rfl cqfs_nil
  have hlrdec_0 : LoopOk cx (rdec_px (HV [.sl .val true, .int .i64]) k) (lp Tryd.f14 0) := loop_ok hp0 hc0 hq0 (by rw [hP]; exact follows) (k := k) (s := rdec_0_sg) (step := rdec_0) (fun _ _ => by kernel_rfl) (by kernel_rfl) (rdec_0_eq _ k) (loops_in (n := 0) (by kernel_rfl) all0)
  exact ⟨hp0, hc0, hq0, (allS all0 hlrdec_0)⟩
abbrev rdec (b : Str) : Option (List Val × Int) := kdec b
def rdec_F : FT [.sl .byte false] [.sl .val true, .int .i64] := fun x => rdec x
theorem rdec_step {R : Type} {rec : rdec_0_V → Option R} {kx : Ex → rdec_0_V → Option R} {b : Str} {q o : List Val} {e : Int} (hne : b ≠ []) (hb : b.length ≤ 1000000) (ho : o.length ≤ 1000000) : rdec_0 rec kx (b, q, e, o) = if 0 < (one1 b).2 then rec (b.drop (one1 b).2.toNat, q, e, o ++ [(one1 b).1]) else if (one1 b).2 = 0 then kx .ret (b, [], 10, o) else kx .ret (b, [], 11, o) := by
  cases b with
  | nil => exact absurd rfl hne
  | cons k t =>
    have hl := hb
    simp only [List.length_cons] at hl
    have hk := k.toNat_lt
    have e0 : at' .byte (k :: t) 0 = k := rfl
    have e1 : inb 0 (k :: t).length = true := by simp [inb]
    have e2 : wr .i64 (k.toNat : Int) = (k.toNat : Int) := wr_id (by simp only [inI]; omega)
    have q2 : decide ((k.toNat : Int) = 2) = decide (k = 2) := u8_lit 2
    have q3 : decide ((k.toNat : Int) = 3) = decide (k = 3) := u8_lit 3
    have q4 : decide ((k.toNat : Int) = 4) = decide (k = 4) := u8_lit 4
    have q5 : decide ((k.toNat : Int) = 5) = decide (k = 5) := u8_lit 5
    have e4 : decide (o.length + 1 ≤ maxApp) = true := decide_eq_true (by simp only [maxApp]; omega)
    have e5 : decide ((0 : Int) < ((k :: t).length : Int)) = true := decide_eq_true (by simp only [List.length_cons]; omega)
    have up : ∀ n : Nat, n ≤ (k :: t).length → upto (n : Int) (((k :: t).length : Nat) : Int) (k :: t).length = true := fun n h => by rw [upto_nat]; simp; simpa using h
    have sh : ∀ n : Nat, decide ((((k :: t).length : Nat) : Int) < (n : Int)) = decide ((k :: t).length < n) := fun n => decide_eq_decide.2 (by omega)
    simp only [rdec_0, e0, e1, e2, e4, e5, chk, cond_t, q2, q3, q4, q5, rcheck]
    by_cases h1 : k = 1
    · subst h1
      have c1 : vcheck ⟨(((1 : UInt8).toNat : Nat) : Int), 0, []⟩ = 0 := rfl
      have s1 := sh 1
      have u1 := up 1 (by simp)
      have z1 : ((1 : Nat) : Int) = 1 := rfl
      rw [z1] at s1 u1
      have s1' : decide (((1 : UInt8) :: t).length < 1) = false := decide_eq_false (by simp)
      simp only [c1, s1, u1, s1']
      rfl
    by_cases h2 : k = 2
    · subst h2
      cases t with
      | nil => rfl
      | cons c t =>
        have hcl := c.toNat_lt
        have a1 : decide ((1 : Int) < (((2 : UInt8) :: c :: t).length : Int)) = true := decide_eq_true (by simp only [List.length_cons]; omega)
        have a2 : inb 1 ((2 : UInt8) :: c :: t).length = true := by simp [inb]; omega
        have a3 : at' .byte ((2 : UInt8) :: c :: t) 1 = c := rfl
        have a4 : wr .i64 (c.toNat : Int) = (c.toNat : Int) := wr_id (by simp only [inI]; omega)
        have s1 := sh 2
        have u1 := up 2 (by simp)
        have z1 : ((2 : Nat) : Int) = 2 := rfl
        rw [z1] at s1 u1
        have s1' : decide (((2 : UInt8) :: c :: t).length < 2) = false := decide_eq_false (by simp)
        simp only [a1, a2, a3, a4, s1, u1, s1', decide_true, cond_t, one1, if_true]
        have hk2 : (((2 : UInt8).toNat : Nat) : Int) = 2 := rfl
        rw [hk2]
        by_cases h3 : 1 < c.toNat
        · have hv : vcheck ⟨2, (c.toNat : Int), []⟩ ≠ 0 := fun e => by
            rcases vright_iff.1 (vcheck_iff.1 e) with ⟨q, _⟩ | ⟨_, q, _⟩ | ⟨q, _⟩ | ⟨q, _⟩ | ⟨q, _⟩
            · cases q
            · simp only at q; omega
            all_goals cases q
          have h21 : ¬ (2 : UInt8) = 1 := by decide
          simp [h3, hv, h21]
        · have hv : vcheck ⟨2, (c.toNat : Int), []⟩ = 0 := vcheck_iff.2 (vright_iff.2 (.inr (.inl ⟨rfl, by simp only; omega, rfl⟩)))
          have h21 : ¬ (2 : UInt8) = 1 := by decide
          simp [h3, hv, h21]
    by_cases h3 : k = 3
    · subst h3
      rw [one1_3]
      have hk3 : (((3 : UInt8).toNat : Nat) : Int) = 3 := rfl
      have hv : ∀ n : Int, vcheck ⟨3, n, []⟩ = 0 := fun n => vcheck_iff.2 (vright_iff.2 (.inr (.inr (.inl ⟨rfl, rfl⟩))))
      have s1 := sh 9
      have z1 : ((9 : Nat) : Int) = 9 := rfl
      rw [z1] at s1
      have d2 : decide ((3 : UInt8) = 2) = false := rfl
      by_cases h8 : t.length < 8
      · have a1 : decide ((9 : Int) ≤ (((3 : UInt8) :: t).length : Int)) = false := decide_eq_false (by simp only [List.length_cons]; omega)
        have s2 : decide (((3 : UInt8) :: t).length < 9) = true := decide_eq_true (by simp only [List.length_cons]; omega)
        simp only [a1, s1, s2, hk3, hv, d2, decide_true, cond_t, cond_f, h8, if_true]
        rfl
      · have a1 : decide ((9 : Int) ≤ (((3 : UInt8) :: t).length : Int)) = true := decide_eq_true (by simp only [List.length_cons]; omega)
        have a2 : upto 1 9 ((3 : UInt8) :: t).length = true := by simp [upto]; omega
        have a3 : cut ((3 : UInt8) :: t) 1 9 = t.take 8 := rfl
        have a4 : (t.take 8).length = 8 := by rw [List.length_take]; omega
        have a5 : rlow (t.take 8) = some (num8 (t.take 8)) := by simp only [rlow, a4]; rfl
        have s2 : decide (((3 : UInt8) :: t).length < 9) = false := decide_eq_false (by simp only [List.length_cons]; omega)
        have u1 := up 9 (by simp only [List.length_cons]; omega)
        rw [z1] at u1
        simp only [a1, a2, a3, a5, s1, s2, u1, hk3, hv, d2, decide_true, cond_t, cond_f, h8, if_false, Option.bind_some]
        rfl
    have d2 : decide (k = 2) = false := decide_eq_false h2
    have d3 : decide (k = 3) = false := decide_eq_false h3
    by_cases h4 : k = 4 ∨ k = 5
    · have hkk : ((k.toNat : Nat) : Int) = 4 ∨ ((k.toNat : Nat) : Int) = 5 := by rcases h4 with rfl | rfl <;> decide
      have a1 := up 1 (by simp)
      have z1 : ((1 : Nat) : Int) = 1 := rfl
      rw [z1] at a1
      have a2 : (k :: t).drop (1 : Int).toNat = t := rfl
      have a3 : resc t = some (sc t) := by simp only [resc]; rw [decide_eq_true (show t.length ≤ 1000000 by omega)]; rfl
      have hr := sc_rng t.length t (Nat.le_refl _)
      have a4 : wr .i64 ((sc t).2 + 1) = (sc t).2 + 1 := wr_id (by simp only [inI]; omega)
      have o1 : one1 (k :: t) = (⟨(k.toNat : Int), 0, (ptext (k.toNat : Int) (sc t)).1⟩, if 0 < (ptext (k.toNat : Int) (sc t)).2 then (ptext (k.toNat : Int) (sc t)).2 + 1 else (ptext (k.toNat : Int) (sc t)).2) := by
        simp only [one1, h1, h2, h3, h4, if_true, if_false]
      have main : ∀ d : Bool, d = true → (cond d ((resc t).bind fun x => cond (decide (x.2 < 0)) (kx .ret (k :: t, [], 11, o)) (cond (!decide (vcheck ⟨(k.toNat : Int), 0, x.1⟩ = 0)) (kx .ret (k :: t, [], 11, o)) (cond (decide (x.2 = 0)) (kx .ret (k :: t, [], 10, o)) (cond (decide ((((k :: t).length : Nat) : Int) < wr .i64 (x.2 + 1))) (kx .ret (k :: t, [], 10, o)) (cond (upto (wr .i64 (x.2 + 1)) (((k :: t).length : Nat) : Int) (k :: t).length) (rec ((k :: t).drop (wr .i64 (x.2 + 1)).toNat, q, e, o ++ [⟨(k.toNat : Int), 0, x.1⟩])) none))))) (kx .ret (k :: t, [], 11, o))) = if 0 < (one1 (k :: t)).2 then rec ((k :: t).drop (one1 (k :: t)).2.toNat, q, e, o ++ [(one1 (k :: t)).1]) else if (one1 (k :: t)).2 = 0 then kx .ret (k :: t, [], 10, o) else kx .ret (k :: t, [], 11, o) := by
        intro d hd
        rw [hd, cond_t, a3, Option.bind_some, a4, o1]
        generalize hpt : ptext (k.toNat : Int) (sc t) = pt
        simp only [ptext] at hpt
        by_cases p1 : (sc t).2 = -1
        · rw [if_pos p1] at hpt
          subst hpt
          simp [p1]
        · have p2 : decide ((sc t).2 < 0) = false := decide_eq_false (by omega)
          rw [if_neg p1] at hpt
          rw [p2, cond_f]
          cases ho2 : okt (k.toNat : Int) (sc t).1 with
          | false =>
            have : decide (vcheck ⟨(k.toNat : Int), 0, (sc t).1⟩ = 0) = false := ho2
            rw [ho2] at hpt
            have hpt : ([], -1) = pt := hpt
            subst hpt
            rw [this]
            simp
          | true =>
            have : decide (vcheck ⟨(k.toNat : Int), 0, (sc t).1⟩ = 0) = true := ho2
            rw [this]
            rw [if_pos ho2] at hpt
            by_cases p3 : (sc t).2 = 0
            · rw [if_pos p3] at hpt
              subst hpt
              simp [p3]
            · rw [if_neg p3] at hpt
              subst hpt
              have s2 : decide ((((k :: t).length : Nat) : Int) < (sc t).2 + 1) = false := decide_eq_false (by simp only [List.length_cons]; omega)
              have u2 : upto ((sc t).2 + 1) (((k :: t).length : Nat) : Int) (k :: t).length = true := by
                simp only [upto, Bool.and_eq_true, decide_eq_true_eq, List.length_cons]
                omega
              have p4 : 0 < (sc t).2 := by omega
              have p5 : 0 < (sc t).2 + 1 := by omega
              simp only [s2, u2, p3, p4, p5, decide_false, Bool.not_true, cond_t, cond_f, if_true]
      simp only [a1, a2, cond_t, d2, d3, cond_f]
      have m := main (decide (k = 4) || decide (k = 5)) (by simpa using h4)
      rw [← m]
      by_cases h5 : k = 4
      · rw [decide_eq_true h5]; rfl
      · have h6 : k = 5 := h4.resolve_left h5
        rw [decide_eq_false h5, decide_eq_true h6]; rfl
    · have h5 : ¬ k = 4 := fun e => h4 (.inl e)
      have h6 : ¬ k = 5 := fun e => h4 (.inr e)
      have hv : vcheck ⟨(k.toNat : Int), 0, []⟩ ≠ 0 := fun e => by
        have := kind_rng (vcheck_iff.1 e)
        simp only at this
        have m : ∀ n : UInt8, k.toNat = n.toNat → k = n := fun n h => UInt8.toNat_inj.1 h
        have : k.toNat = 1 ∨ k.toNat = 2 ∨ k.toNat = 3 ∨ k.toNat = 4 ∨ k.toNat = 5 := by omega
        rcases this with h | h | h | h | h
        · exact h1 (m 1 h)
        · exact h2 (m 2 h)
        · exact h3 (m 3 h)
        · exact h5 (m 4 h)
        · exact h6 (m 5 h)
      have o1 : one1 (k :: t) = (⟨(k.toNat : Int), 0, []⟩, -1) := by
        simp only [one1, h1, h2, h3, h4, if_false]
      rw [o1]
      simp [h5, h6, d2, d3, hv]
theorem rdec_loop {R : Type} {kx : Ex → rdec_0_V → Option R} {c : List Val × Int → Option R} (h1 : ∀ b e o, kx .ret (b, [], e, o) = c ([], e)) (h2 : ∀ q e o, kx (.exit 0) ([], q, e, o) = c (o, 0)) :
    ∀ (k : Nat) (b : Str) (q : List Val) (e : Int) (o : List Val), b.length < k → b.length + o.length ≤ 1000000 → iter (fun rec => rdec_0 rec kx) k (b, q, e, o) = c (decN k o b)
  | 0, _, _, _, _, h, _ => by omega
  | k + 1, b, q, e, o, h, ho => by
    rw [iter_s]
    by_cases hb : b = []
    · subst hb
      have : decide ((0 : Int) < (([] : Str).length : Int)) = false := rfl
      simp only [rdec_0, this, cond_f, h2, decN, if_true]
    · rw [rdec_step hb (by omega) (by omega)]
      simp only [decN, if_neg hb, h1]
      by_cases hp : 0 < (one1 b).2
      · have hr := one1_rng hp
        rw [if_pos hp, if_pos hp]
        exact rdec_loop h1 h2 k _ q e _ (by rw [List.length_drop]; omega) (by rw [List.length_drop, List.length_append, List.length_singleton]; omega)
      · rw [if_neg hp, if_neg hp]
        split <;> rfl
theorem rdec_ok : FnOk Tryd.prog elT glT 14 [.sl .byte false] [.sl .val true, .int .i64] rdec_F := .fin 0 rdec_run fun b r hb hx => ⟨b.length + 1, by
  simp only [rdec_F, rdec, kdec] at hx
  cases hc : decide (b.length ≤ 1000000) with
  | false => rw [hc] at hx; cases hx
  | true =>
    rw [hc] at hx
    have hx : some (dec b) = some r := hx
    rw [← hx]
    simp only [rdec_body]
    have hl := of_decide_eq_true hc
    exact rdec_loop (c := fun q => some q) (fun _ _ _ => rfl) (fun _ _ _ => rfl) (b.length + 1) b [] 0 [] (by omega) (by simpa using hl)⟩
end Go.Proofs.YtkiakihffmafcaaDoor
