/- Functions: places of columns, rows that fit, truths, names, comparisons, products. -/
import Derived.Test.YtlhebakbbfmiiaaDoorFa
import Derived.Test.YtlhebakbbfmiiaaDoorLc
namespace Go.Proofs.YtlhebakbbfmiiaaDoor
open Go.Ax
/-! ## strings.Compare -/
def scompare_px (R : Type) : Px R := ⟨ttOf ttL, glT, callT [(71, callOr [.str, .str] [.int .i64] scmp_F)], callQT [], loopT []⟩
def scompare_body (x : HV [.str, .str]) : Option (HV [.int .i64]) := match x with
 | (a, b) =>
  some (scmp a b)
theorem scompare_eq : ∀ (x : HV [.str, .str]), runF (scompare_px _) Tryd.f58 [.str, .str] [.int .i64] x some = scompare_body x
  | (a, b) => by kernel_rfl
theorem scompare_run : FnOk Tryd.prog elT glT 58 [.str, .str] [.int .i64] (scompare_body) := by
  refine fnOk_run Tryd.func58 rfl (by kernel_rfl) follows (by kernel_rfl) (n := 0) (by kernel_rfl) (px := scompare_px _) (fun cx hP hel hgl => ?_) (scompare_eq)
  have hp0 : PxOk cx (scompare_px (HV [.int .i64])) := ⟨fun t => by rw [hP, hel]; exact tt_ok ttL_ok t, by rw [hgl]; rfl⟩
  have hc0 : CallOk cx (scompare_px (HV [.int .i64])) := callT_ok rfl (cfs_cons (cf_or (by rw [hP, hel, hgl]; exact scmp_ok) (by kernel_rfl)) cfs_nil)
  have hq0 : CallQOk cx (scompare_px (HV [.int .i64])) := callQT_ok rfl cqfs_nil
  exact ⟨hp0, hc0, hq0, all0⟩
def scompare (a : Str) (b : Str) : Int :=
  (scmp a b)
theorem scompare_tot (x : HV [.str, .str]) : scompare_body x = some (scompare x.1 x.2) := by
  first
    | exact rfl
    | simp only [scompare_body, scompare, cond_some]
def scompare_F : FT [.str, .str] [.int .i64] := fun x => some (scompare x.1 x.2)
theorem scompare_ok : FnOk Tryd.prog elT glT 58 [.str, .str] [.int .i64] scompare_F := .fin0 scompare_run fun x _ _ hx => (scompare_tot x).trans hx
/-! ## exchequer/value.Cmp -/
def vcmp_px (R : Type) : Px R := ⟨ttOf ttL, glT, callT [(57, callOr [.int .i64, .int .i64] [.int .i64] vsign_F), (58, callOr [.str, .str] [.int .i64] scompare_F)], callQT [], loopT []⟩
def vcmp_body (x : HV [.sv .val, .sv .val]) : Option (HV [.int .i64]) := match x with
 | (a, b) =>
  cond (!decide ((vsign a.kind b.kind) = 0)) (
   some (vsign a.kind b.kind)) (
   cond (!decide ((vsign a.n b.n) = 0)) (
    some (vsign a.n b.n)) (
    some (scompare a.s b.s)))
theorem vcmp_eq : ∀ (x : HV [.sv .val, .sv .val]), runF (vcmp_px _) Tryd.f41 [.sv .val, .sv .val] [.int .i64] x some = vcmp_body x
  | (a, b) => by kernel_rfl
theorem vcmp_run : FnOk Tryd.prog elT glT 41 [.sv .val, .sv .val] [.int .i64] (vcmp_body) := by
  refine fnOk_run Tryd.func41 rfl (by kernel_rfl) follows (by kernel_rfl) (n := 0) (by kernel_rfl) (px := vcmp_px _) (fun cx hP hel hgl => ?_) (vcmp_eq)
  have hp0 : PxOk cx (vcmp_px (HV [.int .i64])) := ⟨fun t => by rw [hP, hel]; exact tt_ok ttL_ok t, by rw [hgl]; rfl⟩
  have hc0 : CallOk cx (vcmp_px (HV [.int .i64])) := callT_ok rfl (cfs_cons (cf_or (by rw [hP, hel, hgl]; exact vsign_ok) (by kernel_rfl)) (cfs_cons (cf_or (by rw [hP, hel, hgl]; exact scompare_ok) (by kernel_rfl)) cfs_nil))
  have hq0 : CallQOk cx (vcmp_px (HV [.int .i64])) := callQT_ok rfl cqfs_nil
  exact ⟨hp0, hc0, hq0, all0⟩
def vcmp (a : Val) (b : Val) : Int :=
  cond (!decide ((vsign a.kind b.kind) = 0)) (
   (vsign a.kind b.kind)) (
   cond (!decide ((vsign a.n b.n) = 0)) (
    (vsign a.n b.n)) (
    (scompare a.s b.s)))
theorem vcmp_tot (x : HV [.sv .val, .sv .val]) : vcmp_body x = some (vcmp x.1 x.2) := by
  first
    | exact rfl
    | simp only [vcmp_body, vcmp, cond_some]
def vcmp_F : FT [.sv .val, .sv .val] [.int .i64] := fun x => some (vcmp x.1 x.2)
theorem vcmp_ok : FnOk Tryd.prog elT glT 41 [.sv .val, .sv .val] [.int .i64] vcmp_F := .fin0 vcmp_run fun x _ _ hx => (vcmp_tot x).trans hx
/-! ## math/bits.Mul64 -/
def mul64_px (R : Type) : Px R := ⟨ttOf ttL, glT, callT [], callQT [], loopT []⟩
def mul64_body (x : HV [.int .u64, .int .u64]) : Option (HV [.int .u64, .int .u64]) := match x with
 | (a, b) =>
  some ((wr .u64 ((wr .u64 ((wr .u64 ((ishr .u64 a 32) * (ishr .u64 b 32))) + (ishr .u64 (wr .u64 ((wr .u64 ((ishr .u64 a 32) * (iand .u64 b 4294967295))) + (ishr .u64 (wr .u64 ((iand .u64 a 4294967295) * (iand .u64 b 4294967295))) 32))) 32))) + (ishr .u64 (wr .u64 ((iand .u64 (wr .u64 ((wr .u64 ((ishr .u64 a 32) * (iand .u64 b 4294967295))) + (ishr .u64 (wr .u64 ((iand .u64 a 4294967295) * (iand .u64 b 4294967295))) 32))) 4294967295) + (wr .u64 ((iand .u64 a 4294967295) * (ishr .u64 b 32))))) 32))), (wr .u64 (a * b)))
theorem mul64_eq : ∀ (x : HV [.int .u64, .int .u64]), runF (mul64_px _) Tryd.f69 [.int .u64, .int .u64] [.int .u64, .int .u64] x some = mul64_body x
  | (a, b) => by kernel_rfl
theorem mul64_run : FnOk Tryd.prog elT glT 69 [.int .u64, .int .u64] [.int .u64, .int .u64] (mul64_body) := by
  refine fnOk_run Tryd.func69 rfl (by kernel_rfl) follows (by kernel_rfl) (n := 0) (by kernel_rfl) (px := mul64_px _) (fun cx hP hel hgl => ?_) (mul64_eq)
  have hp0 : PxOk cx (mul64_px (HV [.int .u64, .int .u64])) := ⟨fun t => by rw [hP, hel]; exact tt_ok ttL_ok t, by rw [hgl]; rfl⟩
  have hc0 : CallOk cx (mul64_px (HV [.int .u64, .int .u64])) := callT_ok rfl cfs_nil
  have hq0 : CallQOk cx (mul64_px (HV [.int .u64, .int .u64])) := callQT_ok rfl cqfs_nil
  exact ⟨hp0, hc0, hq0, all0⟩
def mul64 (a : Int) (b : Int) : Int × Int :=
  ((wr .u64 ((wr .u64 ((wr .u64 ((ishr .u64 a 32) * (ishr .u64 b 32))) + (ishr .u64 (wr .u64 ((wr .u64 ((ishr .u64 a 32) * (iand .u64 b 4294967295))) + (ishr .u64 (wr .u64 ((iand .u64 a 4294967295) * (iand .u64 b 4294967295))) 32))) 32))) + (ishr .u64 (wr .u64 ((iand .u64 (wr .u64 ((wr .u64 ((ishr .u64 a 32) * (iand .u64 b 4294967295))) + (ishr .u64 (wr .u64 ((iand .u64 a 4294967295) * (iand .u64 b 4294967295))) 32))) 4294967295) + (wr .u64 ((iand .u64 a 4294967295) * (ishr .u64 b 32))))) 32))), (wr .u64 (a * b)))
theorem mul64_tot (x : HV [.int .u64, .int .u64]) : mul64_body x = some (mul64 x.1 x.2) := by
  first
    | exact rfl
    | simp only [mul64_body, mul64, cond_some]
def mul64_F : FT [.int .u64, .int .u64] [.int .u64, .int .u64] := fun x => some (mul64 x.1 x.2)
theorem mul64_ok : FnOk Tryd.prog elT glT 69 [.int .u64, .int .u64] [.int .u64, .int .u64] mul64_F := .fin0 mul64_run fun x _ _ hx => (mul64_tot x).trans hx
/-! ## exchequer/value.Mul -/
def vmul_px (R : Type) : Px R := ⟨ttOf ttL, glT, callT [(70, callOr [.int .i64] [.int .u64] vsize_F), (69, callOr [.int .u64, .int .u64] [.int .u64, .int .u64] mul64_F)], callQT [], loopT []⟩
def vmul_body (x : HV [.int .i64, .int .i64]) : Option (HV [.int .i64, .int .i64]) := match x with
 | (a, b) =>
  let j1 := fun (p3 : Bool) =>
   cond (p3) (
    some (0, 20)) (
    cond (!decide ((decide (a < 0)) = (decide (b < 0)))) (
     some ((wr .i64 (wr .u64 (0 - (mul64 (vsize a) (vsize b)).2))), 0)) (
     some ((wr .i64 ((mul64 (vsize a) (vsize b)).2)), 0)))
  let j := fun (p : Bool) =>
   cond (p) (
    j1 true) (
    cond (decide ((mul64 (vsize a) (vsize b)).2 = 9223372036854775808)) (
     j1 (!(!decide ((decide (a < 0)) = (decide (b < 0)))))) (
     j1 false))
  cond (decide (0 < (mul64 (vsize a) (vsize b)).1)) (
   j true) (
   j (decide (9223372036854775808 < (mul64 (vsize a) (vsize b)).2)))
theorem vmul_eq : ∀ (x : HV [.int .i64, .int .i64]), runF (vmul_px _) Tryd.f56 [.int .i64, .int .i64] [.int .i64, .int .i64] x some = vmul_body x
  | (a, b) => by kernel_rfl
theorem vmul_run : FnOk Tryd.prog elT glT 56 [.int .i64, .int .i64] [.int .i64, .int .i64] (vmul_body) := by
  refine fnOk_run Tryd.func56 rfl (by kernel_rfl) follows (by kernel_rfl) (n := 0) (by kernel_rfl) (px := vmul_px _) (fun cx hP hel hgl => ?_) (vmul_eq)
  have hp0 : PxOk cx (vmul_px (HV [.int .i64, .int .i64])) := ⟨fun t => by rw [hP, hel]; exact tt_ok ttL_ok t, by rw [hgl]; rfl⟩
  have hc0 : CallOk cx (vmul_px (HV [.int .i64, .int .i64])) := callT_ok rfl (cfs_cons (cf_or (by rw [hP, hel, hgl]; exact vsize_ok) (by kernel_rfl)) (cfs_cons (cf_or (by rw [hP, hel, hgl]; exact mul64_ok) (by kernel_rfl)) cfs_nil))
  have hq0 : CallQOk cx (vmul_px (HV [.int .i64, .int .i64])) := callQT_ok rfl cqfs_nil
  exact ⟨hp0, hc0, hq0, all0⟩
def vmul (a : Int) (b : Int) : Int × Int :=
  let j1 := fun (p3 : Bool) =>
   cond (p3) (
    (0, 20)) (
    cond (!decide ((decide (a < 0)) = (decide (b < 0)))) (
     ((wr .i64 (wr .u64 (0 - (mul64 (vsize a) (vsize b)).2))), 0)) (
     ((wr .i64 ((mul64 (vsize a) (vsize b)).2)), 0)))
  let j := fun (p : Bool) =>
   cond (p) (
    j1 true) (
    cond (decide ((mul64 (vsize a) (vsize b)).2 = 9223372036854775808)) (
     j1 (!(!decide ((decide (a < 0)) = (decide (b < 0)))))) (
     j1 false))
  cond (decide (0 < (mul64 (vsize a) (vsize b)).1)) (
   j true) (
   j (decide (9223372036854775808 < (mul64 (vsize a) (vsize b)).2)))
theorem vmul_tot (x : HV [.int .i64, .int .i64]) : vmul_body x = some (vmul x.1 x.2) := by
  first
    | exact rfl
    | simp only [vmul_body, vmul, cond_some]
def vmul_F : FT [.int .i64, .int .i64] [.int .i64, .int .i64] := fun x => some (vmul x.1 x.2)
theorem vmul_ok : FnOk Tryd.prog elT glT 56 [.int .i64, .int .i64] [.int .i64, .int .i64] vmul_F := .fin0 vmul_run fun x _ _ hx => (vmul_tot x).trans hx
/-! ## exchequer/reckon.sum -/
def rsum_px (R : Type) : Px R := ⟨ttOf ttL, glT, callT [(54, callOr [.int .i64, .int .i64] [.int .i64, .int .i64] vadd_F), (55, callOr [.int .i64, .int .i64] [.int .i64, .int .i64] vsub_F), (56, callOr [.int .i64, .int .i64] [.int .i64, .int .i64] vmul_F)], callQT [], loopT []⟩
def rsum_body (x : HV [.int .i64, .int .i64, .int .i64]) : Option (HV [.sv .val, .int .i64]) := match x with
 | (kind, a, b) =>
  cond (decide (kind = 12)) (
   cond (!decide ((vadd a b).2 = 0)) (
    some ((Val.mk 0 0 []), (vadd a b).2)) (
    some ((Val.mk 3 ((vadd a b).1) []), 0))) (
   cond (decide (kind = 13)) (
    cond (!decide ((vsub a b).2 = 0)) (
     some ((Val.mk 0 0 []), (vsub a b).2)) (
     some ((Val.mk 3 ((vsub a b).1) []), 0))) (
    cond (decide (kind = 14)) (
     cond (!decide ((vmul a b).2 = 0)) (
      some ((Val.mk 0 0 []), (vmul a b).2)) (
      some ((Val.mk 3 ((vmul a b).1) []), 0))) (
     cond (!decide ((vsub 0 a).2 = 0)) (
      some ((Val.mk 0 0 []), (vsub 0 a).2)) (
      some ((Val.mk 3 ((vsub 0 a).1) []), 0)))))
theorem rsum_eq : ∀ (x : HV [.int .i64, .int .i64, .int .i64]), runF (rsum_px _) Tryd.f39 [.int .i64, .int .i64, .int .i64] [.sv .val, .int .i64] x some = rsum_body x
  | (kind, a, b) => by kernel_rfl
theorem rsum_run : FnOk Tryd.prog elT glT 39 [.int .i64, .int .i64, .int .i64] [.sv .val, .int .i64] (rsum_body) := by
  refine fnOk_run Tryd.func39 rfl (by kernel_rfl) follows (by kernel_rfl) (n := 0) (by kernel_rfl) (px := rsum_px _) (fun cx hP hel hgl => ?_) (rsum_eq)
  have hp0 : PxOk cx (rsum_px (HV [.sv .val, .int .i64])) := ⟨fun t => by rw [hP, hel]; exact tt_ok ttL_ok t, by rw [hgl]; rfl⟩
  have hc0 : CallOk cx (rsum_px (HV [.sv .val, .int .i64])) := callT_ok rfl (cfs_cons (cf_or (by rw [hP, hel, hgl]; exact vadd_ok) (by kernel_rfl)) (cfs_cons (cf_or (by rw [hP, hel, hgl]; exact vsub_ok) (by kernel_rfl)) (cfs_cons (cf_or (by rw [hP, hel, hgl]; exact vmul_ok) (by kernel_rfl)) cfs_nil)))
  have hq0 : CallQOk cx (rsum_px (HV [.sv .val, .int .i64])) := callQT_ok rfl cqfs_nil
  exact ⟨hp0, hc0, hq0, all0⟩
def rsum (kind : Int) (a : Int) (b : Int) : Val × Int :=
  cond (decide (kind = 12)) (
   cond (!decide ((vadd a b).2 = 0)) (
    ((Val.mk 0 0 []), (vadd a b).2)) (
    ((Val.mk 3 ((vadd a b).1) []), 0))) (
   cond (decide (kind = 13)) (
    cond (!decide ((vsub a b).2 = 0)) (
     ((Val.mk 0 0 []), (vsub a b).2)) (
     ((Val.mk 3 ((vsub a b).1) []), 0))) (
    cond (decide (kind = 14)) (
     cond (!decide ((vmul a b).2 = 0)) (
      ((Val.mk 0 0 []), (vmul a b).2)) (
      ((Val.mk 3 ((vmul a b).1) []), 0))) (
     cond (!decide ((vsub 0 a).2 = 0)) (
      ((Val.mk 0 0 []), (vsub 0 a).2)) (
      ((Val.mk 3 ((vsub 0 a).1) []), 0)))))
theorem rsum_tot (x : HV [.int .i64, .int .i64, .int .i64]) : rsum_body x = some (rsum x.1 x.2.1 x.2.2) := by
  first
    | exact rfl
    | simp only [rsum_body, rsum, cond_some]
def rsum_F : FT [.int .i64, .int .i64, .int .i64] [.sv .val, .int .i64] := fun x => some (rsum x.1 x.2.1 x.2.2)
theorem rsum_ok : FnOk Tryd.prog elT glT 39 [.int .i64, .int .i64, .int .i64] [.sv .val, .int .i64] rsum_F := .fin0 rsum_run fun x _ _ hx => (rsum_tot x).trans hx
/-! ## exchequer/reckon.find -/
def find_0_sg : Sig := ⟨20, [(1, .str), (4, .int .i64), (7, .sl .col false), (8, .int .i64), (9, .int .i64)], [], [], 0, 0, 0, []⟩
abbrev find_0_V := Str × Int × List Col × Int × Int
def find_0 {R : Type} (rec : find_0_V → Option R) (kx : Ex → find_0_V → Option R) (v : find_0_V) : Option R := match v with
 | (v, v1, v2, v3, v4) =>
  cond (decide (v4 < v3)) (
   chk (inb v4 v2.length) (
    cond (decide (((at' .col v2 v4).name) = v)) (
     kx .ret (v, v4, v2, v3, v4)) (
     rec (v, v1, v2, v3, (wr .i64 (v4 + 1)))))) (
   kx (.exit 0) (v, v1, v2, v3, v4))
def find_px (R : Type) (k : Nat) : Px R := ⟨ttOf ttL, glT, callT [], callQT [], loopT [(2, loopOr k find_0_sg (find_0))]⟩
theorem find_0_eq (R : Type) (k : Nat) : ∀ (fr : List Fr) (rec : find_0_V → Option R) (kx : Ex → find_0_V → Option R) (v : find_0_V), round (find_px R k) find_0_sg (lp Tryd.f35 0) fr rec kx v = find_0 rec kx v
  | fr, rec, kx, (v, v1, v2, v3, v4) => by kernel_rfl
def find_body (k : Nat) (x : HV [.sl .col false, .str]) : Option (HV [.int .i64]) := match x with
 | (cols, name) =>
  iter (fun rec => find_0 rec (fun e v => match v with | (_, v6, _, _, _) => match e with
   | .ret =>
    some v6
   | .exit 0 =>
    some (-1)
   | _ => none)) k (name, 0, cols, (cols.length : Int), 0)
theorem find_eq (k : Nat) : ∀ (x : HV [.sl .col false, .str]), runF (find_px _ k) Tryd.f35 [.sl .col false, .str] [.int .i64] x some = find_body k x
  | (cols, name) => by kernel_rfl
theorem find_run (k : Nat) : FnOk Tryd.prog elT glT 35 [.sl .col false, .str] [.int .i64] (find_body k) := by
  refine fnOk_run Tryd.func35 rfl (by kernel_rfl) follows (by kernel_rfl) (n := 1) (by kernel_rfl) (px := find_px _ k) (fun cx hP hel hgl => ?_) (find_eq k)
  have hp0 : PxOk cx (find_px (HV [.int .i64]) k) := ⟨fun t => by rw [hP, hel]; exact tt_ok ttL_ok t, by rw [hgl]; rfl⟩
  have hc0 : CallOk cx (find_px (HV [.int .i64]) k) := callT_ok rfl cfs_nil
  have hq0 : CallQOk cx (find_px (HV [.int .i64]) k) := callQT_ok rfl cqfs_nil
  have hlfind_0 : LoopOk cx (find_px (HV [.int .i64]) k) (lp Tryd.f35 0) := loop_ok hp0 hc0 hq0 (by rw [hP]; exact follows) (k := k) (s := find_0_sg) (step := find_0) (fun _ _ => by kernel_rfl) (by kernel_rfl) (find_0_eq _ k) (loops_in (n := 0) (by kernel_rfl) all0)
  exact ⟨hp0, hc0, hq0, (allS all0 hlfind_0)⟩
def findFrom : List Col → Str → Nat → Int
  | [], _, _ => -1
  | c :: l, s, i => if c.name = s then (i : Int) else findFrom l s (i + 1)
def find (cols : List Col) (name : Str) : Int := findFrom cols name 0
def find_F : FT [.sl .col false, .str] [.int .i64] := fun x => some (find x.1 x.2)
theorem find_loop {R : Type} {kx : Ex → find_0_V → Option R} {s : Str} {cols : List Col} {g : Int → Option R} (hn : ln cols.length) (h1 : ∀ j, kx .ret (s, j, cols, (cols.length : Int), j) = g j) (h2 : ∀ q j, kx (.exit 0) (s, q, cols, (cols.length : Int), j) = g (-1)) : ∀ (k i : Nat) q, i ≤ cols.length → cols.length - i < k → iter (fun rec => find_0 rec kx) k (s, q, cols, (cols.length : Int), (i : Int)) = g (findFrom (cols.drop i) s i)
  | 0, i, q, _, h => by omega
  | k + 1, i, q, hi, h => by
    rw [iter_s]
    by_cases hl : i < cols.length
    · have ih := find_loop hn h1 h2 k (i + 1) q (by omega) (by omega)
      simp only [find_0, wr_succ hl hn, ih, h1, drop_cons hl, at_nat (c := .col) hl, inb_t hl, chk, cond_t, Bool.cond_decide, findFrom]
      rw [if_pos (by omega)]
      split <;> rfl
    · simp only [find_0, h2, Bool.cond_decide]
      rw [if_neg (by omega), List.drop_eq_nil_of_le (by omega)]
      rfl
theorem find_ok : FnOk Tryd.prog elT glT 35 [.sl .col false, .str] [.int .i64] find_F := .fin 0 find_run fun (cols, s) r hb hx => ⟨cols.length + 1, by
  simp only [find_body]
  refine (find_loop (g := some) hb.1.1 ?_ ?_ (cols.length + 1) 0 0 (Nat.zero_le _) (by omega)).trans hx
  · exact fun _ => rfl
  · exact fun _ _ => rfl⟩
/-! ## exchequer/reckon.Fits -/
def rowfits_0_sg : Sig := ⟨28, [(1, .sl .val false), (4, .bool), (12, .sl .col false), (13, .int .i64), (14, .int .i64)], [], [], 0, 0, 0, []⟩
abbrev rowfits_0_V := List Val × Bool × List Col × Int × Int
def rowfits_0 {R : Type} (rec : rowfits_0_V → Option R) (kx : Ex → rowfits_0_V → Option R) (v : rowfits_0_V) : Option R := match v with
 | (v, v1, v2, v3, v4) =>
  cond (decide (v4 < v3)) (
   chk (inb v4 v2.length) (
    chk (inb v4 v.length) (
     cond (!(vfits (at' .val v v4) ((at' .col v2 v4).kind))) (
      kx .ret (v, false, v2, v3, v4)) (
      rec (v, v1, v2, v3, (wr .i64 (v4 + 1))))))) (
   kx (.exit 0) (v, v1, v2, v3, v4))
def rowfits_px (R : Type) (k : Nat) : Px R := ⟨ttOf ttL, glT, callT [], callQT [(33, callOrQ [.sv .val, .int .i64] [.bool] vfits_F)], loopT [(4, loopOr k rowfits_0_sg (rowfits_0))]⟩
theorem rowfits_0_eq (R : Type) (k : Nat) : ∀ (fr : List Fr) (rec : rowfits_0_V → Option R) (kx : Ex → rowfits_0_V → Option R) (v : rowfits_0_V), round (rowfits_px R k) rowfits_0_sg (lp Tryd.f17 0) fr rec kx v = rowfits_0 rec kx v
  | fr, rec, kx, (v, v1, v2, v3, v4) => by kernel_rfl
def rowfits_body (k : Nat) (x : HV [.sl .col false, .sl .val false]) : Option (HV [.bool]) := match x with
 | (cols, row) =>
  cond (!decide ((cols.length : Int) = (row.length : Int))) (
   some false) (
   iter (fun rec => rowfits_0 rec (fun e v => match v with | (_, v6, _, _, _) => match e with
    | .ret =>
     some v6
    | .exit 0 =>
     some true
    | _ => none)) k (row, false, cols, (cols.length : Int), 0))
theorem rowfits_eq (k : Nat) : ∀ (x : HV [.sl .col false, .sl .val false]), runF (rowfits_px _ k) Tryd.f17 [.sl .col false, .sl .val false] [.bool] x some = rowfits_body k x
  | (cols, row) => by kernel_rfl
theorem rowfits_run (k : Nat) : FnOk Tryd.prog elT glT 17 [.sl .col false, .sl .val false] [.bool] (rowfits_body k) := by
  refine fnOk_run Tryd.func17 rfl (by kernel_rfl) follows (by kernel_rfl) (n := 1) (by kernel_rfl) (px := rowfits_px _ k) (fun cx hP hel hgl => ?_) (rowfits_eq k)
  have hp0 : PxOk cx (rowfits_px (HV [.bool]) k) := ⟨fun t => by rw [hP, hel]; exact tt_ok ttL_ok t, by rw [hgl]; rfl⟩
  have hc0 : CallOk cx (rowfits_px (HV [.bool]) k) := callT_ok rfl cfs_nil
  have hq0 : CallQOk cx (rowfits_px (HV [.bool]) k) := callQT_ok rfl (cqfs_cons (cqf_or (by rw [hP, hel, hgl]; exact vfits_ok) (by kernel_rfl)) cqfs_nil)
  have hlrowfits_0 : LoopOk cx (rowfits_px (HV [.bool]) k) (lp Tryd.f17 0) := loop_ok hp0 hc0 hq0 (by rw [hP]; exact follows) (k := k) (s := rowfits_0_sg) (step := rowfits_0) (fun _ _ => by kernel_rfl) (by kernel_rfl) (rowfits_0_eq _ k) (loops_in (n := 0) (by kernel_rfl) all0)
  exact ⟨hp0, hc0, hq0, (allS all0 hlrowfits_0)⟩
def allFit : List Col → List Val → Bool
  | [], [] => true
  | c :: cs, v :: vs => vfits v c.kind && allFit cs vs
  | _, _ => false
def rowfits (cols : List Col) (row : List Val) : Bool := allFit cols row
def rowfits_F : FT [.sl .col false, .sl .val false] [.bool] := fun x => some (rowfits x.1 x.2)
theorem allFit_len : ∀ {cols : List Col} {row : List Val}, allFit cols row = true → cols.length = row.length
  | [], [], _ => rfl
  | _ :: cs, _ :: vs, h => by
    simp only [allFit, Bool.and_eq_true] at h
    simp [allFit_len h.2]
  | [], _ :: _, h => by simp [allFit] at h
  | _ :: _, [], h => by simp [allFit] at h
theorem rowfits_loop {R : Type} {kx : Ex → rowfits_0_V → Option R} {row : List Val} {cols : List Col} {a b : Option R} (hn : ln cols.length) (he : cols.length = row.length) (h1 : ∀ j, kx .ret (row, false, cols, (cols.length : Int), j) = a) (h2 : ∀ q j, kx (.exit 0) (row, q, cols, (cols.length : Int), j) = b) : ∀ (k i : Nat) q, i ≤ cols.length → cols.length - i < k → iter (fun rec => rowfits_0 rec kx) k (row, q, cols, (cols.length : Int), (i : Int)) = cond (allFit (cols.drop i) (row.drop i)) b a
  | 0, i, q, _, h => by omega
  | k + 1, i, q, hi, h => by
    rw [iter_s]
    by_cases hl : i < cols.length
    · have ih := rowfits_loop hn he h1 h2 k (i + 1) q (by omega) (by omega)
      have hl2 : i < row.length := by omega
      simp only [rowfits_0, wr_succ hl hn, ih, h1, drop_cons hl, drop_cons hl2, at_nat (c := .col) hl, at_nat (c := .val) hl2, inb_t hl, inb_t hl2, chk, cond_t, Bool.cond_decide, allFit]
      rw [if_pos (by omega)]
      cases vfits row[i] cols[i].kind <;> rfl
    · simp only [rowfits_0, h2, Bool.cond_decide]
      rw [if_neg (by omega), List.drop_eq_nil_of_le (by omega), List.drop_eq_nil_of_le (by omega)]
      rfl
theorem rowfits_ok : FnOk Tryd.prog elT glT 17 [.sl .col false, .sl .val false] [.bool] rowfits_F := .fin 0 rowfits_run fun (cols, row) r hb hx => ⟨cols.length + 1, by
  simp only [rowfits_F, Option.some.injEq, rowfits] at hx
  simp only [rowfits_body]
  by_cases he : cols.length = row.length
  · rw [decide_eq_true (by omega)]
    simp only [Bool.not_true, cond_f]
    refine (rowfits_loop (a := some false) (b := some true) hb.1.1 he ?_ ?_ (cols.length + 1) 0 false (Nat.zero_le _) (by omega)).trans ?_
    · exact fun _ => rfl
    · exact fun _ _ => rfl
    · rw [← hx]
      simp only [List.drop_zero]
      cases allFit cols row <;> rfl
  · rw [decide_eq_false (by omega)]
    have : allFit cols row = false := by
      cases hf : allFit cols row with
      | false => rfl
      | true => exact absurd (allFit_len hf) he
    rw [← hx, this]
    rfl⟩
/-! ## exchequer/reckon.logic -/
def logic_0_sg : Sig := ⟨34, [(0, .int .i64), (6, .bool), (12, .sl .val false), (13, .int .i64), (14, .int .i64)], [(4, .ptr 0 0), (5, .ptr 1 0)], [(0, .one (.sv .val)), (1, .one (.sv .val))], 2, 0, 0, []⟩
abbrev logic_0_V := Int × Bool × List Val × Int × Int × Val × Val
def logic_0 {R : Type} (rec : logic_0_V → Option R) (kx : Ex → logic_0_V → Option R) (v : logic_0_V) : Option R := match v with
 | (v, v1, v2, v3, v4, w, w1) =>
  cond (decide (v4 < v3)) (
   chk (inb v4 v2.length) (
    cond (decide ((at' .val v2 v4) = w1)) (
     kx .ret (v, v1, v2, v3, v4, w1, w1)) (
     cond (v1) (
      rec (v, true, v2, v3, (wr .i64 (v4 + 1)), w, w1)) (
      rec (v, decide ((at' .val v2 v4).kind = 1), v2, v3, (wr .i64 (v4 + 1)), w, w1))))) (
   kx (.exit 0) (v, v1, v2, v3, v4, w, w1))
def logic_px (R : Type) (k : Nat) : Px R := ⟨ttOf ttL, glT, callT [(32, callOr [.bool] [.sv .val] truth_F)], callQT [], loopT [(4, loopOr k logic_0_sg (logic_0))]⟩
theorem logic_0_eq (R : Type) (k : Nat) : ∀ (fr : List Fr) (rec : logic_0_V → Option R) (kx : Ex → logic_0_V → Option R) (v : logic_0_V), round (logic_px R k) logic_0_sg (lp Tryd.f38 0) fr rec kx v = logic_0 rec kx v
  | fr, rec, kx, (v, v1, v2, v3, v4, w, w1) => by kernel_rfl
def logic_body (k : Nat) (x : HV [.int .i64, .sl .val false]) : Option (HV [.sv .val]) := match x with
 | (kind, l) =>
  iter (fun rec => logic_0 rec (fun e v => match v with | (v5, v6, _, _, _, v10, _) => match e with
   | .ret =>
    some v10
   | .exit 0 =>
    cond (v6) (
     some (Val.mk 1 0 [])) (
     some (truth (!decide (v5 = 5))))
   | _ => none)) k (kind, false, l, (l.length : Int), 0, (Val.mk 0 0 []), (truth (decide (kind = 5))))
theorem logic_eq (k : Nat) : ∀ (x : HV [.int .i64, .sl .val false]), runF (logic_px _ k) Tryd.f38 [.int .i64, .sl .val false] [.sv .val] x some = logic_body k x
  | (kind, l) => by kernel_rfl
theorem logic_run (k : Nat) : FnOk Tryd.prog elT glT 38 [.int .i64, .sl .val false] [.sv .val] (logic_body k) := by
  refine fnOk_run Tryd.func38 rfl (by kernel_rfl) follows (by kernel_rfl) (n := 1) (by kernel_rfl) (px := logic_px _ k) (fun cx hP hel hgl => ?_) (logic_eq k)
  have hp0 : PxOk cx (logic_px (HV [.sv .val]) k) := ⟨fun t => by rw [hP, hel]; exact tt_ok ttL_ok t, by rw [hgl]; rfl⟩
  have hc0 : CallOk cx (logic_px (HV [.sv .val]) k) := callT_ok rfl (cfs_cons (cf_or (by rw [hP, hel, hgl]; exact truth_ok) (by kernel_rfl)) cfs_nil)
  have hq0 : CallQOk cx (logic_px (HV [.sv .val]) k) := callQT_ok rfl cqfs_nil
  have hllogic_0 : LoopOk cx (logic_px (HV [.sv .val]) k) (lp Tryd.f38 0) := loop_ok hp0 hc0 hq0 (by rw [hP]; exact follows) (k := k) (s := logic_0_sg) (step := logic_0) (fun _ _ => by kernel_rfl) (by kernel_rfl) (logic_0_eq _ k) (loops_in (n := 0) (by kernel_rfl) all0)
  exact ⟨hp0, hc0, hq0, (allS all0 hllogic_0)⟩
def isNull (v : Val) : Bool := decide (v.kind = 1)
def logic (kind : Int) (l : List Val) : Val := cond (l.any fun v => decide (v = truth (decide (kind = 5)))) (truth (decide (kind = 5))) (cond (l.any isNull) ⟨1, 0, []⟩ (truth (!decide (kind = 5))))
def logic_F : FT [.int .i64, .sl .val false] [.sv .val] := fun x => some (logic x.1 x.2)
theorem logic_loop {R : Type} {kx : Ex → logic_0_V → Option R} {kd : Int} {l : List Val} {e : Val} {a : Option R} {b : Bool → Option R} (hn : ln l.length) (h1 : ∀ q j, kx .ret (kd, q, l, (l.length : Int), j, e, e) = a) (h2 : ∀ q j z, kx (.exit 0) (kd, q, l, (l.length : Int), j, z, e) = b q) : ∀ (k i : Nat) (u : Bool) z, i ≤ l.length → l.length - i < k → iter (fun rec => logic_0 rec kx) k (kd, u, l, (l.length : Int), (i : Int), z, e) = cond ((l.drop i).any fun v => decide (v = e)) a (b (u || (l.drop i).any isNull))
  | 0, i, u, z, _, h => by omega
  | k + 1, i, u, z, hi, h => by
    rw [iter_s]
    by_cases hl : i < l.length
    · have ih := fun u => logic_loop hn h1 h2 k (i + 1) u z (by omega) (by omega)
      simp only [logic_0, wr_succ hl hn, ih, h1, drop_cons hl, at_nat (c := .val) hl, inb_t hl, chk, cond_t, Bool.cond_decide, List.any_cons]
      rw [if_pos (by omega)]
      by_cases he : l[i] = e
      · rw [if_pos he, decide_eq_true he]; rfl
      · rw [if_neg he, decide_eq_false he]
        cases u <;> simp [isNull]
    · simp only [logic_0, h2, Bool.cond_decide]
      rw [if_neg (by omega), List.drop_eq_nil_of_le (by omega)]
      simp
theorem logic_ok : FnOk Tryd.prog elT glT 38 [.int .i64, .sl .val false] [.sv .val] logic_F := .fin 0 logic_run fun (kd, l) r hb hx => ⟨l.length + 1, by
  simp only [logic_F, Option.some.injEq, logic] at hx
  simp only [logic_body]
  refine (logic_loop (a := some (truth (decide (kd = 5)))) (b := fun q => cond q (some ⟨1, 0, []⟩) (some (truth (!decide (kd = 5))))) hb.2.1 ?_ ?_ (l.length + 1) 0 false _ (Nat.zero_le _) (by omega)).trans ?_
  · exact fun _ _ => rfl
  · exact fun _ _ _ => rfl
  rw [← hx]
  simp only [List.drop_zero, Bool.false_or]
  cases (l.any fun v => decide (v = truth (decide (kd = 5)))) <;> cases l.any isNull <;> rfl⟩
/-! ## exchequer/lex.Name -/
def lname_0_sg : Sig := ⟨21, [(0, .str), (1, .int .i64)], [(2, .fn 66 [])], [], 40, 40, 200, []⟩
abbrev lname_0_V := Str × Int
def lname_0 {R : Type} (rec : lname_0_V → Option R) (kx : Ex → lname_0_V → Option R) (v : lname_0_V) : Option R := match v with
 | (v, v1) =>
  cond (decide (v1 < (v.length : Int))) (
   chk (inb v1 v.length) (
    cond ((inner (bat v v1))) (
     rec (v, (wr .i64 (v1 + 1)))) (
     kx (.exit 0) (v, v1)))) (
   kx (.exit 0) (v, v1))
def lname_pxi0 (R : Type) (k : Nat) : Px R := ⟨ttOf ttL, glT, callT [(66, callOr [.int .u8] [.bool] inner_F)], callQT [], loopT [(1, loopOr k lname_0_sg (lname_0))]⟩
noncomputable def lname_px (R : Type) (k : Nat) : Px R := ⟨ttOf ttL, glT, callT [(64, callOr [.int .u8] [.bool] lower_F), (65, callRun 40 200 (lname_pxi0 R k) Tryd.f65)], callQT [], loopT []⟩
theorem lname_0_eq (R : Type) (k : Nat) : ∀ (fr : List Fr) (rec : lname_0_V → Option R) (kx : Ex → lname_0_V → Option R) (v : lname_0_V), round (lname_pxi0 R k) lname_0_sg (lp Tryd.f65 0) fr rec kx v = lname_0 rec kx v
  | fr, rec, kx, (v, v1) => by kernel_rfl
def lname_body (k : Nat) (x : HV [.str]) : Option (HV [.bool]) := match x with
 | s =>
  let j1 := fun (p : Bool) =>
   let j := fun (p1 : Bool) =>
    cond (p1) (
     iter (fun rec => lname_0 rec (fun e v => match v with | (_, v3) => match e with
      | .exit 0 =>
       some (decide (v3 = (s.length : Int)))
      | _ => none)) k (s, 0)) (
     some false)
   cond (p) (
    chk (inb 0 s.length) (
     j (lower (bat s 0)))) (
    j false)
  cond (!decide (s = [])) (
   j1 (decide ((s.length : Int) ≤ 30))) (
   j1 false)
theorem lname_eq (k : Nat) : ∀ (x : HV [.str]), runF (lname_px _ k) Tryd.f49 [.str] [.bool] x some = lname_body k x
  | s => by kernel_rfl
theorem lname_run (k : Nat) : FnOk Tryd.prog elT glT 49 [.str] [.bool] (lname_body k) := by
  refine fnOk_run Tryd.func49 rfl (by kernel_rfl) follows (by kernel_rfl) (n := 0) (by kernel_rfl) (px := lname_px _ k) (fun cx hP hel hgl => ?_) (lname_eq k)
  have hp1 : PxOk cx (lname_pxi0 (HV [.bool]) k) := ⟨fun t => by rw [hP, hel]; exact tt_ok ttL_ok t, by rw [hgl]; rfl⟩
  have hc1 : CallOk cx (lname_pxi0 (HV [.bool]) k) := callT_ok rfl (cfs_cons (cf_or (by rw [hP, hel, hgl]; exact inner_ok) (by kernel_rfl)) cfs_nil)
  have hq1 : CallQOk cx (lname_pxi0 (HV [.bool]) k) := callQT_ok rfl cqfs_nil
  have hllname_0 : LoopOk cx (lname_pxi0 (HV [.bool]) k) (lp Tryd.f65 0) := loop_ok hp1 hc1 hq1 (by rw [hP]; exact follows) (k := k) (s := lname_0_sg) (step := lname_0) (fun _ _ => by kernel_rfl) (by kernel_rfl) (lname_0_eq _ k) (loops_in (n := 0) (by kernel_rfl) all0)
  have hp0 : PxOk cx (lname_px (HV [.bool]) k) := ⟨fun t => by rw [hP, hel]; exact tt_ok ttL_ok t, by rw [hgl]; rfl⟩
  have hc0 : CallOk cx (lname_px (HV [.bool]) k) := callT_ok rfl (cfs_cons (cf_or (by rw [hP, hel, hgl]; exact lower_ok) (by kernel_rfl)) (cfs_cons (cf_run hp1 hc1 hq1 (by rw [hP]; exact follows) (by rw [hP]; exact Tryd.func65) rfl (by kernel_rfl) (by kernel_rfl) (n := 1) (by kernel_rfl) ((allS all0 hllname_0))) cfs_nil))
  have hq0 : CallQOk cx (lname_px (HV [.bool]) k) := callQT_ok rfl cqfs_nil
  exact ⟨hp0, hc0, hq0, all0⟩
def innerB (b : UInt8) : Bool := inner (b.toNat : Int)
def lname (s : Str) : Bool := match s with
  | [] => false
  | b :: l => decide ((b :: l).length ≤ 30) && lower (b.toNat : Int) && (b :: l).all innerB
def lname_F : FT [.str] [.bool] := fun x => some (lname x)
theorem lname_loop {R : Type} {kx : Ex → lname_0_V → Option R} {s : Str} {a b : Option R} (hn : ln s.length) (h1 : ∀ j : Nat, j < s.length → kx (.exit 0) (s, (j : Int)) = a) (h2 : kx (.exit 0) (s, (s.length : Int)) = b) : ∀ (k i : Nat), i ≤ s.length → s.length - i < k → iter (fun rec => lname_0 rec kx) k (s, (i : Int)) = cond ((s.drop i).all innerB) b a
  | 0, i, _, h => by omega
  | k + 1, i, hi, h => by
    rw [iter_s]
    by_cases hl : i < s.length
    · have ih := lname_loop hn h1 h2 k (i + 1) (by omega) (by omega)
      simp only [lname_0, wr_succ hl hn, ih, h1 i hl, drop_cons hl, bat_nat hl, inb_t hl, chk, cond_t, Bool.cond_decide, List.all_cons, innerB]
      rw [if_pos (by omega)]
      cases inner (s[i].toNat : Int) <;> rfl
    · obtain rfl : i = s.length := by omega
      simp only [lname_0, h2, Bool.cond_decide]
      rw [if_neg (by omega), List.drop_eq_nil_of_le (by omega)]
      rfl
theorem lname_ok : FnOk Tryd.prog elT glT 49 [.str] [.bool] lname_F := .fin 0 lname_run fun s r hb hx => ⟨s.length + 1, by
  simp only [lname_F, Option.some.injEq] at hx
  simp only [lname_body]
  cases s with
  | nil => rw [← hx]; rfl
  | cons b l =>
    rw [decide_eq_false (by simp)]
    simp only [Bool.not_false, cond_t]
    have hl : ((b :: l).length : Int) ≤ 30 ↔ (b :: l).length ≤ 30 := by omega
    simp only [lname, hl] at hx ⊢
    by_cases h30 : (b :: l).length ≤ 30
    · rw [decide_eq_true h30] at hx ⊢
      simp only [cond_t, chk, Bool.true_and] at hx ⊢
      have e0 : bat (b :: l) 0 = (b.toNat : Int) := rfl
      have e1 : inb 0 (b :: l).length = true := inb_t (i := 0) (by simp)
      rw [e0, e1]
      cases hlo : lower (b.toNat : Int) with
      | false => rw [hlo] at hx; rw [← hx]; rfl
      | true =>
        rw [hlo] at hx
        refine (lname_loop (s := b :: l) (a := some false) (b := some true) hb (fun j hj => ?_) ?_ ((b :: l).length + 1) 0 (Nat.zero_le _) (by omega)).trans ?_
        · show some (decide _) = _
          rw [decide_eq_false (by omega)]
        · show some (decide _) = _
          rw [decide_eq_true rfl]
        · rw [← hx]
          simp only [List.drop_zero, Bool.true_and]
          cases (b :: l).all innerB <;> rfl
    · rw [decide_eq_false h30] at hx ⊢
      rw [← hx]
      rfl⟩
end Go.Proofs.YtlhebakbbfmiiaaDoor
