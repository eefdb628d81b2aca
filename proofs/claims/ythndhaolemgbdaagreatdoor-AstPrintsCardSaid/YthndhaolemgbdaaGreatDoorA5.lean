/- Texts of the proof, one behind the other: Wr, Ws, Vc, Rh, Da, Db, Vt, Nf, Uq, Us, Ri, Ne. -/
import Derived.Test.YthndhaolemgbdaaGreatDoorA4
/- The program's writer of statements: what it appends. -/
namespace Go.Proofs.YthndhaolemgbdaaGreatDoor
open Go.Ax
/-! ## a text more -/
def app (out t : Str) : Option Str := if out.length + t.length ≤ 100000000000 then some (out ++ t) else none
theorem app_app (out a b : Str) : ((app out a).bind fun x => app x b) = app out (a ++ b) := by
  simp only [app, List.length_append]
  by_cases h1 : out.length + a.length ≤ 100000000000
  · rw [if_pos h1, Option.bind_some]
    simp only [List.length_append, List.append_assoc, Nat.add_assoc]
  · rw [if_neg h1, if_neg (by omega)]
    rfl
theorem app_cont {R : Type} (out a b : Str) (c : Str → Option R) : ((app out a).bind fun x => (app x b).bind c) = (app out (a ++ b)).bind c := by
  rw [← app_app, Option.bind_assoc]
theorem app_one {o : Option Str} : (o.bind fun x => some x) = o := by cases o <;> rfl
theorem app_nil {out : Str} (h : out.length ≤ 100000000000) : app out [] = some out := by
  simp only [app, List.length_nil, Nat.add_zero, List.append_nil]
  rw [if_pos h]
theorem app_le {out t r : Str} (h : app out t = some r) : r.length ≤ 100000000000 ∧ r = out ++ t := by
  simp only [app] at h
  split at h
  · rename_i h1
    obtain rfl := Option.some.inj h
    exact ⟨by rw [List.length_append]; exact h1, rfl⟩
  · cases h
theorem app_len {out t r : Str} (h : app out t = some r) : out.length + t.length ≤ 100000000000 := by
  simp only [app] at h
  split at h
  · rename_i h1; exact h1
  · cases h
theorem app_some {out t : Str} (h : out.length + t.length ≤ 100000000000) : app out t = some (out ++ t) := if_pos h
/-! ## lists with a comma between -/
def tailT {α : Type} (f : α → Str) : List α → Str
  | [] => []
  | x :: l => [44, 32] ++ f x ++ tailT f l
def listT {α : Type} (f : α → Str) : List α → Str
  | [] => []
  | x :: l => f x ++ tailT f l
theorem list_loop {V R α : Type} {step : (V → Option R) → V → Option R} (l : List α) (f : α → Str) (st : Nat → Str → V) (c : Str → Option R)
    (hs : ∀ i (hi : i < l.length) (acc : Str) rec, step rec (st i acc) = (app acc ((if i = 0 then [] else [44, 32]) ++ f l[i])).bind fun x => rec (st (i + 1) x))
    (he : ∀ acc rec, step rec (st l.length acc) = c acc) (k : Nat) (hk : l.length < k) (out : Str) (ho : out.length ≤ 100000000000) : iter step k (st 0 out) = (app out (listT f l)).bind c := by
  refine (iter_ind l.length st (fun _ acc => acc.length ≤ 100000000000) (fun i acc => (app acc (if i = 0 then listT f (l.drop i) else tailT f (l.drop i))).bind c) (fun i hi acc ha rec hr => ?_) (fun acc ha rec => ?_) k 0 out (Nat.zero_le _) (by omega) ho).trans (by rw [if_pos rfl, List.drop_zero])
  · rw [hs i hi acc rec]
    have hd : (if i = 0 then listT f (l.drop i) else tailT f (l.drop i)) = ((if i = 0 then [] else [44, 32]) ++ f l[i]) ++ tailT f (l.drop (i + 1)) := by
      rw [drop_cons hi]
      split <;> simp [listT, tailT]
    rw [hd, ← app_cont acc ((if i = 0 then [] else [44, 32]) ++ f l[i]) (tailT f (l.drop (i + 1))) c]
    cases hx : app acc ((if i = 0 then [] else [44, 32]) ++ f l[i]) with
    | none => rfl
    | some x =>
      rw [Option.bind_some, Option.bind_some, hr x (app_le hx).1, if_neg (by omega)]
  · rw [he]
    have : (if l.length = 0 then listT f (l.drop l.length) else tailT f (l.drop l.length)) = [] := by
      rw [List.drop_length]
      split <;> rfl
    rw [this, app_nil ha]
    rfl
/-! ## words -/
/-! ## (*exchequer/ast.writer).words -/
def wwords_si : Sig := ⟨2, [(1, .sl .str false)], [(0, .ptr 0 0)], [(0, .bld 82)], 1, 1, 0, [], []⟩
def wwords_so : Sig := ⟨0, [], [], [(0, .bld 82)], 1, 1, 0, [], []⟩
abbrev wwords_I := List Str × List UInt8
abbrev wwords_O := List UInt8
def wwords_0_sg : Sig := ⟨18, [(6, .sl .str false), (7, .int .i64), (8, .int .i64)], [(0, .ptr 0 0)], [(0, .bld 82)], 1, 1, 0, [], []⟩
abbrev wwords_0_V := List Str × Int × Int × List UInt8
def wwords_0 {R : Type} (rec : wwords_0_V → Option R) (kx : Ex → wwords_0_V → Option R) (v : wwords_0_V) : Option R := match v with
 | (v, v1, v2, w) =>
  cond (decide (v2 < v1)) (
   chk (inb v2 v.length) (
    (bwrite_F ((at' .str v v2), w)).bind fun x =>
     rec (v, v1, (wr .i64 (v2 + 1)), x))) (
   kx (.exit 0) (v, v1, v2, w))
def wwords_px (R : Type) (k : Nat) : Px R := ⟨ttOf ttL, glT, callT [(104, callLn bwrite_si bwrite_so bwrite_F)], callQT [], loopT [(1, loopOr k wwords_0_sg (wwords_0))]⟩
theorem wwords_0_eq (R : Type) (k : Nat) : ∀ (fr : List Fr) (rec : wwords_0_V → Option R) (kx : Ex → wwords_0_V → Option R) (v : wwords_0_V), round (wwords_px R k) wwords_0_sg (lp Tryz.f49 0) fr rec kx v = wwords_0 rec kx v
  | fr, rec, kx, (v, v1, v2, w) => by kernel_rfl
def wwords_body (k : Nat) (x : wwords_I) : Option (wwords_O) := match x with
 | (l, out) =>
  iter (fun rec => wwords_0 rec (fun e vz => match vz with | (_, _, _, v6) => match e with
   | .exit 0 =>
    some v6
   | _ => none)) k (l, (l.length : Int), 0, out)
theorem wwords_eq (k : Nat) : ∀ (x : wwords_I), runLn (wwords_px _ k) Tryz.f49 wwords_si wwords_so x some = wwords_body k x
  | (l, out) => by kernel_rfl
theorem wwords_run (k : Nat) : FnLn Tryz.prog elT glT 49 wwords_si wwords_so (wwords_body k) := by
  refine fnLn_run Tryz.func49 rfl (by kernel_rfl) follows (by kernel_rfl) (n := 1) (by kernel_rfl) (px := wwords_px _ k) (fun cx hP hel hgl => ?_) (wwords_eq k)
  have hp0 : PxOk cx (wwords_px (wwords_O) k) := ⟨fun t => by rw [hP, hel]; exact tt_ok ttL_ok t, by rw [hgl]; rfl⟩
  have hc0 : CallOk cx (wwords_px (wwords_O) k) := callT_ok rfl (cfs_cons (cf_ln (by rw [hP, hel, hgl]; exact bwrite_ok) (by kernel_rfl)) cfs_nil)
  have hq0 : CallQOk cx (wwords_px (wwords_O) k) := callQT_ok rfl cqfs_nil
  have hlwwords_0 : LoopOk cx (wwords_px (wwords_O) k) (lp Tryz.f49 0) := loop_ok hp0 hc0 hq0 (by rw [hP]; exact follows) (k := k) (s := wwords_0_sg) (step := wwords_0) (fun _ _ => by kernel_rfl) (by kernel_rfl) (wwords_0_eq _ k) (loops_in (n := 0) (by kernel_rfl) all0)
  exact ⟨hp0, hc0, hq0, (allS all0 hlwwords_0)⟩
def wwords (l : List Str) (out : Str) : Option Str := app out l.flatten
def wwords_F : wwords_I → Option wwords_O := fun x => wwords x.1 x.2
theorem wwords_loop {R : Type} {kx : Ex → wwords_0_V → Option R} {l : List Str} {c : Str → Option R} (hn : ln l.length) (h2 : ∀ i out, kx (.exit 0) (l, (l.length : Int), i, out) = c out) (k : Nat) (hk : l.length < k) (out : Str) (ho : out.length + l.flatten.length ≤ 100000000000) :
    iter (fun rec => wwords_0 rec kx) k (l, (l.length : Int), 0, out) = c (out ++ l.flatten) := by
  refine (iter_ind l.length (fun i out => (l, (l.length : Int), (i : Int), out)) (fun i out => List.length out + ((l.drop i).flatten).length ≤ 100000000000) (fun i out => c (out ++ (l.drop i).flatten)) (fun i hi out ha rec hr => ?_) (fun out _ rec => ?_) k 0 out (Nat.zero_le _) (by omega) (by rw [List.drop_zero]; exact ho)).trans (by rw [List.drop_zero])
  · rw [drop_cons hi] at ha ⊢
    simp only [List.flatten_cons, List.length_append] at ha
    have hw : bwrite l[i] out = some (out ++ l[i]) := by
      simp only [bwrite]
      rw [if_pos (by simp only [maxApp]; omega)]
    have hr := hr (out ++ l[i]) (by rw [List.length_append]; omega)
    simp only [wwords_0, lt_t hi, cond_t, inb_t hi, chk, at_nat (c := .str) hi, bwrite_F, hw, Option.bind_some, wr_succ hi hn, hr, List.flatten_cons, List.append_assoc]
  · simp only [wwords_0, lt_n, cond_f, h2]
    rw [List.drop_eq_nil_of_le (Nat.le_refl _)]
    simp
theorem wwords_ok : FnLn Tryz.prog elT glT 49 wwords_si wwords_so wwords_F := .fin 0 wwords_run fun (l, out) r hb hx => ⟨l.length + 1, by
  have hx : app out l.flatten = some r := hx
  have hlen := app_len hx
  rw [(app_le hx).2]
  exact wwords_loop (l := l) (c := some) hb.1.1 (fun _ _ => rfl) (l.length + 1) (by omega) out hlen⟩
theorem ww (l : List Str) (out : Str) : wwords_F (l, out) = app out l.flatten := rfl
/-! ## an expression -/
def sgn (k : Int) : Str := mget signsL k
mutual
def etx : Xpr → Str
  | .mk k v n l => if k = 1 then vprint v else if k = 2 then n else etxs k l
def etxs : Int → List Xpr → Str
  | _, [] => []
  | k, x :: l => if k = 3 then [40] ++ [78, 79, 84, 32] ++ etx x ++ [41] else if k = 15 then [40] ++ [45] ++ etx x ++ [41] else if k = 16 then [40] ++ etx x ++ [32, 73, 83, 32, 78, 85, 76, 76] ++ [41] else [40] ++ etx x ++ ([32] ++ (sgn k ++ [32])) ++ etx1 l ++ [41]
def etx1 : List Xpr → Str
  | [] => []
  | y :: _ => etx y
end
mutual
def okx : Xpr → Bool
  | .mk k _ _ l => if k = 1 ∨ k = 2 then true else okxs k l
def okxs : Int → List Xpr → Bool
  | _, [] => false
  | k, x :: l => okx x && (if k = 3 ∨ k = 15 ∨ k = 16 then true else okx1 l)
def okx1 : List Xpr → Bool
  | [] => false
  | y :: _ => okx y
end
theorem etx_un (e : Xpr) : etx e = if e.kind = 1 then vprint e.v else if e.kind = 2 then e.name else etxs e.kind e.l := by
  cases e; simp only [etx]; rfl
theorem okx_un (e : Xpr) : okx e = if e.kind = 1 ∨ e.kind = 2 then true else okxs e.kind e.l := by
  cases e; simp only [okx]; rfl
/-! ## (*exchequer/ast.writer).expr -/
def wexpr_si : Sig := ⟨2, [(1, .sv .expr)], [(0, .ptr 0 0)], [(0, .bld 82)], 1, 1, 0, [], []⟩
def wexpr_so : Sig := ⟨0, [], [], [(0, .bld 82)], 1, 1, 0, [], []⟩
abbrev wexpr_I := Xpr × List UInt8
abbrev wexpr_O := List UInt8
def wexpr_px (R : Type) (rf : wexpr_I → Option wexpr_O) : Px R := ⟨ttOf ttL, glT, callT [(98, callOr [.sv .val] [.str] vprint_F), (49, callLn wwords_si wwords_so wwords_F), (40, callLn wexpr_si wexpr_so rf)], callQT [], loopT []⟩
def wexpr_body (rf : wexpr_I → Option wexpr_O) (x : wexpr_I) : Option (wexpr_O) := match x with
 | (e, out) =>
  cond (decide (e.kind = 1)) (
   (wwords_F ([(vprint e.v)], out)).bind fun x =>
    some x) (
   cond (decide (e.kind = 2)) (
    (wwords_F ([e.name], out)).bind fun x1 =>
     some x1) (
    (wwords_F ([[40]], out)).bind fun x2 =>
     cond (decide (e.kind = 3)) (
      (wwords_F ([[78, 79, 84, 32]], x2)).bind fun x3 =>
       chk (inb 0 e.l.length) (
        (rf ((at' .expr e.l 0), x3)).bind fun x4 =>
         (wwords_F ([[41]], x4)).bind fun x13 =>
          some x13)) (
      cond (decide (e.kind = 15)) (
       (wwords_F ([[45]], x2)).bind fun x5 =>
        chk (inb 0 e.l.length) (
         (rf ((at' .expr e.l 0), x5)).bind fun x6 =>
          (wwords_F ([[41]], x6)).bind fun x14 =>
           some x14)) (
       cond (decide (e.kind = 16)) (
        chk (inb 0 e.l.length) (
         (rf ((at' .expr e.l 0), x2)).bind fun x7 =>
          (wwords_F ([[32, 73, 83, 32, 78, 85, 76, 76]], x7)).bind fun x8 =>
           (wwords_F ([[41]], x8)).bind fun x15 =>
            some x15)) (
        chk (inb 0 e.l.length) (
         (rf ((at' .expr e.l 0), x2)).bind fun x9 =>
          (wwords_F ([[32], (mget signsL e.kind), [32]], x9)).bind fun x10 =>
           chk (inb 1 e.l.length) (
            (rf ((at' .expr e.l 1), x10)).bind fun x11 =>
             (wwords_F ([[41]], x11)).bind fun x16 =>
              some x16)))))))
theorem wexpr_eq (rf : wexpr_I → Option wexpr_O) : ∀ (x : wexpr_I), runLn (wexpr_px _ rf) Tryz.f40 wexpr_si wexpr_so x some = wexpr_body rf x
  | (e, out) => by kernel_rfl
theorem wexpr_run (rf : wexpr_I → Option wexpr_O) (hrf : FnLn Tryz.prog elT glT 40 wexpr_si wexpr_so rf) : FnLn Tryz.prog elT glT 40 wexpr_si wexpr_so (wexpr_body rf) := by
  refine fnLn_run Tryz.func40 rfl (by kernel_rfl) follows (by kernel_rfl) (n := 0) (by kernel_rfl) (px := wexpr_px _ rf) (fun cx hP hel hgl => ?_) (wexpr_eq rf)
  have hp0 : PxOk cx (wexpr_px (wexpr_O) rf) := ⟨fun t => by rw [hP, hel]; exact tt_ok ttL_ok t, by rw [hgl]; rfl⟩
  have hc0 : CallOk cx (wexpr_px (wexpr_O) rf) := callT_ok rfl (cfs_cons (cf_or (by rw [hP, hel, hgl]; exact vprint_ok) (by kernel_rfl)) (cfs_cons (cf_ln (by rw [hP, hel, hgl]; exact wwords_ok) (by kernel_rfl)) (cfs_cons (cf_ln (by rw [hP, hel, hgl]; exact hrf) (by kernel_rfl)) cfs_nil)))
  have hq0 : CallQOk cx (wexpr_px (wexpr_O) rf) := callQT_ok rfl cqfs_nil
  exact ⟨hp0, hc0, hq0, all0⟩
def wexpr (e : Xpr) (out : Str) : Option Str := cond (okx e) (app out (etx e)) none
def wexpr_F : wexpr_I → Option wexpr_O := fun x => wexpr x.1 x.2
theorem wexpr_all : ∀ (n : Nat) (e : Xpr) (out : Str), BdExpr e → esize e ≤ n → okx e = true → iter (V := wexpr_I) (R := wexpr_O) wexpr_body n (e, out) = app out (etx e)
  | 0, e, _, _, h, _ => by have := esize_pos e; omega
  | n + 1, e, out, hb, h, hok => by
    obtain ⟨hb4, hb5⟩ := bd_ls hb
    rw [esize_eq] at h
    have hrf : ∀ x, x ∈ e.l → okx x = true → ∀ out : Str, iter (V := wexpr_I) (R := wexpr_O) wexpr_body n (x, out) = app out (etx x) := fun x hx ho out => wexpr_all n x out (hb5 x hx) (by have := esize_mem hx; omega) ho
    rw [iter_s, etx_un]
    rw [okx_un] at hok
    simp only [wexpr_body, ww]
    by_cases h1 : e.kind = 1
    · rw [decide_eq_true h1, if_pos h1, cond_t, app_one]
      simp
    by_cases h2 : e.kind = 2
    · rw [decide_eq_false h1, decide_eq_true h2, if_neg h1, if_pos h2, cond_f, cond_t, app_one]
      simp
    rw [decide_eq_false h1, decide_eq_false h2, if_neg h1, if_neg h2, cond_f, cond_f]
    rw [if_neg (by omega)] at hok
    cases hl : e.l with
    | nil => rw [hl] at hok; cases hok
    | cons x l =>
      rw [hl] at hok hrf
      simp only [okxs, Bool.and_eq_true] at hok
      have hx := hrf x List.mem_cons_self hok.1
      have e0 : at' .expr (x :: l) 0 = x := rfl
      have i0 : inb 0 (x :: l).length = true := inb_t (i := 0) (by simp)
      simp only [e0, i0, hx, chk, cond_t, etxs]
      by_cases h3 : e.kind = 3
      · rw [decide_eq_true h3, if_pos h3]
        simp only [cond_t, app_cont, app_one, app_app, List.flatten_cons, List.flatten_nil, List.append_nil, List.append_assoc]
      by_cases h15 : e.kind = 15
      · rw [decide_eq_false h3, decide_eq_true h15, if_neg h3, if_pos h15]
        simp only [cond_t, cond_f, app_cont, app_one, app_app, List.flatten_cons, List.flatten_nil, List.append_nil, List.append_assoc]
      by_cases h16 : e.kind = 16
      · rw [decide_eq_false h3, decide_eq_false h15, decide_eq_true h16, if_neg h3, if_neg h15, if_pos h16]
        simp only [cond_t, cond_f, app_cont, app_one, app_app, List.flatten_cons, List.flatten_nil, List.append_nil, List.append_assoc]
      rw [decide_eq_false h3, decide_eq_false h15, decide_eq_false h16, if_neg h3, if_neg h15, if_neg h16]
      rw [if_neg (by omega)] at hok
      cases l with
      | nil => exact absurd hok.2 (by simp [okx1])
      | cons y l =>
        have hy := hrf y (by simp) hok.2
        have e1 : at' .expr (x :: y :: l) 1 = y := rfl
        have i1 : inb 1 (x :: y :: l).length = true := inb_t (i := 1) (by simp)
        simp only [e1, i1, hy, cond_t, cond_f, etx1]
        simp only [app_one, app_app, List.flatten_cons, List.flatten_nil, List.append_nil, List.append_assoc, sgn]
theorem wexpr_ok : FnLn Tryz.prog elT glT 40 wexpr_si wexpr_so wexpr_F := by
  refine .fin (ι := Nat) (sg := wexpr_si) (so := wexpr_so) 0 (F := fun n => iter (V := wexpr_I) (R := wexpr_O) wexpr_body n) (fun n => FnLn.rec' (Sx.enters_of Tryz.func40 rfl rfl) (fun rf hrf => wexpr_run rf hrf) n) fun (e, out) r hb hx => ⟨esize e, ?_⟩
  have hx : cond (okx e) (app out (etx e)) none = some r := hx
  cases hok : okx e with
  | false => rw [hok] at hx; cases hx
  | true =>
    rw [hok] at hx
    exact (wexpr_all (esize e) e out hb.1 (Nat.le_refl _) hok).trans hx
theorem we {e : Xpr} (h : okx e = true) (out : Str) : wexpr_F (e, out) = app out (etx e) := by
  show cond (okx e) _ _ = _
  rw [h]
  rfl
end Go.Proofs.YthndhaolemgbdaaGreatDoor

/- The program's writer of statements: texts of expressions, of statements. -/
namespace Go.Proofs.YthndhaolemgbdaaGreatDoor
open Go.Ax
theorem app_congr {R : Type} {out t : Str} {f g : Str → Option R} (h : ∀ x : Str, x.length ≤ 100000000000 → f x = g x) : (app out t).bind f = (app out t).bind g := by
  cases hx : app out t with
  | none => rfl
  | some x => exact h x (app_le hx).1
theorem sep_step {R : Type} (i : Nat) (acc t : Str) (c : Str → Option R) : cond (decide ((0 : Int) < (i : Int))) ((app acc [44, 32]).bind fun x => (app x t).bind c) ((app acc t).bind c) = (app acc ((if i = 0 then [] else [44, 32]) ++ t)).bind c := by
  by_cases h : i = 0
  · rw [decide_eq_false (by omega), if_pos h]
    rfl
  · rw [decide_eq_true (by omega), if_neg h, cond_t, app_cont]
theorem fl1 (a : Str) : ([a] : List Str).flatten = a := by simp
theorem fl2 (a b : Str) : ([a, b] : List Str).flatten = a ++ b := by simp
theorem fl3 (a b c : Str) : ([a, b, c] : List Str).flatten = a ++ (b ++ c) := by simp
theorem fl5 (a b c d e : Str) : ([a, b, c, d, e] : List Str).flatten = a ++ (b ++ (c ++ (d ++ e))) := by simp
theorem cat_loop {V R α : Type} {step : (V → Option R) → V → Option R} (l : List α) (f : α → Str) (st : Nat → Str → V) (c : Str → Option R)
    (hs : ∀ i (hi : i < l.length) (acc : Str) rec, step rec (st i acc) = (app acc (f l[i])).bind fun x => rec (st (i + 1) x))
    (he : ∀ acc rec, step rec (st l.length acc) = c acc) (k : Nat) (hk : l.length < k) (out : Str) (ho : out.length ≤ 100000000000) : iter step k (st 0 out) = (app out (l.map f).flatten).bind c := by
  refine (iter_ind l.length st (fun _ acc => acc.length ≤ 100000000000) (fun i acc => (app acc ((l.drop i).map f).flatten).bind c) (fun i hi acc ha rec hr => ?_) (fun acc ha rec => ?_) k 0 out (Nat.zero_le _) (by omega) ho).trans (by rw [List.drop_zero])
  · rw [hs i hi acc rec, drop_cons hi, List.map_cons, List.flatten_cons, ← app_cont]
    exact app_congr fun x hx => hr x hx
  · rw [he, List.drop_length, List.map_nil, List.flatten_nil, app_nil ha]
    rfl
theorem app_z {out r : Str} (h : app out [] = some r) : some out = some r := by
  have := (app_le h).2
  rw [List.append_nil] at this
  rw [this]
/-! ## the text of an expression -/
/-! ## exchequer/ast.Text -/
def atext_px (R : Type) : Px R := ⟨ttOf ttL, glT, callT [(39, callOr [.sv .expr, .int .i64] [.bool] eright_F), (40, callLn wexpr_si wexpr_so wexpr_F), (41, callLn bstr_si bstr_so bstr_F)], callQT [], loopT []⟩
def atext_body (x : HV [.sv .expr]) : Option (HV [.str, .int .i64]) := match x with
 | e =>
  cond (!(eright e 30)) (
   some ([], 2)) (
   (wexpr_F (e, [])).bind fun x =>
    (bstr_F x).bind fun x1 =>
     some (x1, 0))
theorem atext_eq : ∀ (x : HV [.sv .expr]), runF (atext_px _) Tryz.f14 [.sv .expr] [.str, .int .i64] x some = atext_body x
  | e => by kernel_rfl
theorem atext_run : FnOk Tryz.prog elT glT 14 [.sv .expr] [.str, .int .i64] (atext_body) := by
  refine fnOk_run Tryz.func14 rfl (by kernel_rfl) follows (by kernel_rfl) (n := 0) (by kernel_rfl) (px := atext_px _) (fun cx hP hel hgl => ?_) (atext_eq)
  have hp0 : PxOk cx (atext_px (HV [.str, .int .i64])) := ⟨fun t => by rw [hP, hel]; exact tt_ok ttL_ok t, by rw [hgl]; rfl⟩
  have hc0 : CallOk cx (atext_px (HV [.str, .int .i64])) := callT_ok rfl (cfs_cons (cf_or (by rw [hP, hel, hgl]; exact eright_ok) (by kernel_rfl)) (cfs_cons (cf_ln (by rw [hP, hel, hgl]; exact wexpr_ok) (by kernel_rfl)) (cfs_cons (cf_ln (by rw [hP, hel, hgl]; exact bstr_ok) (by kernel_rfl)) cfs_nil)))
  have hq0 : CallQOk cx (atext_px (HV [.str, .int .i64])) := callQT_ok rfl cqfs_nil
  exact ⟨hp0, hc0, hq0, all0⟩
def atext (e : Xpr) : Option (Str × Int) := cond (eright e 30) (cond (okx e) ((app [] (etx e)).bind fun t => some (t, 0)) none) (some ([], 2))
def atext_F : FT [.sv .expr] [.str, .int .i64] := fun x => atext x
theorem atext_ok : FnOk Tryz.prog elT glT 14 [.sv .expr] [.str, .int .i64] atext_F := .fin0 atext_run fun e r hb hx => by
  have hx : atext e = some r := hx
  rw [← hx]
  simp only [atext_body, atext]
  simp only [atext] at hx
  cases hr : eright e 30 with
  | false => rfl
  | true =>
    rw [hr] at hx
    cases ho : okx e with
    | false => rw [ho] at hx; cases hx
    | true =>
      simp only [we ho, Bool.not_true, cond_f, cond_t]
      rfl
theorem erights_all : ∀ (l : List Xpr) (m : Int), erights l m = l.all fun x => eright x m
  | [], _ => rfl
  | x :: l, m => by simp only [erights, List.all_cons, erights_all l m]
theorem right_okx : ∀ (n : Nat) (e : Xpr) (m : Int), esize e ≤ n → eright e m = true → okx e = true
  | 0, e, _, h, _ => by have := esize_pos e; omega
  | n + 1, e, m, h, hr => by
    obtain ⟨hp, _, hs⟩ := eright_parts hr
    rw [esize_eq] at h
    rw [erights_all] at hs
    have ih : ∀ x, x ∈ e.l → okx x = true := fun x hx => right_okx n x _ (by have := esize_mem hx; omega) (List.all_eq_true.1 hs x hx)
    rw [okx_un]
    rcases parts_spec e.kind with ⟨h0, hk⟩ | ⟨h0, hk⟩ | ⟨h0, hk⟩ | h0
    · rw [if_pos hk]
    · rw [if_neg (by omega)]
      rw [h0] at hp
      match hl : e.l, hp with
      | [x], _ => rw [okxs, if_pos hk, ih x (by rw [hl]; simp)]; rfl
    · rw [if_neg (by omega)]
      rw [h0] at hp
      match hl : e.l, hp with
      | [x, y], _ =>
        rw [okxs, ih x (by rw [hl]; simp), okx1, ih y (by rw [hl]; simp)]
        split <;> rfl
    · rw [h0] at hp
      omega
theorem right_ok {e : Xpr} {m : Int} (h : eright e m = true) : okx e = true := right_okx _ e m (Nat.le_refl _) h
/-! ## names, columns, conditions -/
def okNm (l : List Str) : Bool := decide (l.length ≤ 1000000) && decide ((Lib.join l [44, 32]).length ≤ 1000000000)
def nmT (l : List Str) : Str := [40] ++ (Lib.join l [44, 32] ++ [41])
/-! ## (*exchequer/ast.writer).names -/
def wnames_si : Sig := ⟨2, [(1, .sl .str false)], [(0, .ptr 0 0)], [(0, .bld 82)], 1, 1, 0, [], []⟩
def wnames_so : Sig := ⟨0, [], [], [(0, .bld 82)], 1, 1, 0, [], []⟩
abbrev wnames_I := List Str × List UInt8
abbrev wnames_O := List UInt8
def wnames_px (R : Type) : Px R := ⟨ttOf ttL, glT, callT [(105, callOr [.sl .str false, .str] [.str] sjoin_F), (49, callLn wwords_si wwords_so wwords_F)], callQT [], loopT []⟩
def wnames_body (x : wnames_I) : Option (wnames_O) := match x with
 | (l, out) =>
  (sjoin l [44, 32]).bind fun x =>
   (wwords_F ([[40], x, [41]], out)).bind fun x1 =>
    some x1
theorem wnames_eq : ∀ (x : wnames_I), runLn (wnames_px _) Tryz.f50 wnames_si wnames_so x some = wnames_body x
  | (l, out) => by kernel_rfl
theorem wnames_run : FnLn Tryz.prog elT glT 50 wnames_si wnames_so (wnames_body) := by
  refine fnLn_run Tryz.func50 rfl (by kernel_rfl) follows (by kernel_rfl) (n := 0) (by kernel_rfl) (px := wnames_px _) (fun cx hP hel hgl => ?_) (wnames_eq)
  have hp0 : PxOk cx (wnames_px (wnames_O)) := ⟨fun t => by rw [hP, hel]; exact tt_ok ttL_ok t, by rw [hgl]; rfl⟩
  have hc0 : CallOk cx (wnames_px (wnames_O)) := callT_ok rfl (cfs_cons (cf_or (by rw [hP, hel, hgl]; exact sjoin_ok) (by kernel_rfl)) (cfs_cons (cf_ln (by rw [hP, hel, hgl]; exact wwords_ok) (by kernel_rfl)) cfs_nil))
  have hq0 : CallQOk cx (wnames_px (wnames_O)) := callQT_ok rfl cqfs_nil
  exact ⟨hp0, hc0, hq0, all0⟩
def wnames (l : List Str) (out : Str) : Option Str := cond (okNm l) (app out (nmT l)) none
def wnames_F : wnames_I → Option wnames_O := fun x => wnames x.1 x.2
theorem wnames_b (l : List Str) (out : Str) (h : okNm l = true) : wnames_body (l, out) = app out (nmT l) := by
  simp only [okNm, Bool.and_eq_true, decide_eq_true_eq] at h
  have hj : sjoin l [44, 32] = some (Lib.join l [44, 32]) := if_pos h
  simp only [wnames_body, hj, ww, Option.bind_some, app_one, fl3]
  rfl
theorem wnames_ok : FnLn Tryz.prog elT glT 50 wnames_si wnames_so wnames_F := .fin0 wnames_run fun (l, out) r hb hx => by
  have hx : cond (okNm l) (app out (nmT l)) none = some r := hx
  cases ho : okNm l with
  | false => rw [ho] at hx; cases hx
  | true =>
    rw [ho] at hx
    exact (wnames_b l out ho).trans hx
theorem wn {l : List Str} (h : okNm l = true) (out : Str) : wnames_F (l, out) = app out (nmT l) := by
  show cond (okNm l) _ _ = _
  rw [h]
  rfl
def colT (c : Col) : Str := c.name ++ ([32] ++ at' .str kindsL c.kind) ++ cond c.notNull [32, 78, 79, 84, 32, 78, 85, 76, 76] [] ++ cond c.unique [32, 85, 78, 73, 81, 85, 69] [] ++ cond (decide (c.ref = [])) [] ([32, 82, 69, 70, 69, 82, 69, 78, 67, 69, 83, 32] ++ c.ref)
/-! ## (*exchequer/ast.writer).col -/
def wcol_si : Sig := ⟨2, [(1, .sv .col)], [(0, .ptr 0 0)], [(0, .bld 82)], 1, 1, 0, [], []⟩
def wcol_so : Sig := ⟨0, [], [], [(0, .bld 82)], 1, 1, 0, [], []⟩
abbrev wcol_I := Col × List UInt8
abbrev wcol_O := List UInt8
def wcol_px (R : Type) : Px R := ⟨ttOf ttL, glT, callT [(49, callLn wwords_si wwords_so wwords_F)], callQT [], loopT []⟩
def wcol_body (x : wcol_I) : Option (wcol_O) := match x with
 | (c, out) =>
  chk (inb c.kind 6) (
   (wwords_F ([c.name, [32], (at' .str kindsL c.kind)], out)).bind fun x =>
    let j1 := fun (q : List UInt8) =>
     let j := fun (q1 : List UInt8) =>
      cond (!decide (c.ref = [])) (
       (wwords_F ([[32, 82, 69, 70, 69, 82, 69, 78, 67, 69, 83, 32], c.ref], q1)).bind fun x3 =>
        some x3) (
       some q1)
     cond (c.unique) (
      (wwords_F ([[32, 85, 78, 73, 81, 85, 69]], q)).bind fun x2 =>
       j x2) (
      j q)
    cond (c.notNull) (
     (wwords_F ([[32, 78, 79, 84, 32, 78, 85, 76, 76]], x)).bind fun x1 =>
      j1 x1) (
     j1 x))
theorem wcol_eq : ∀ (x : wcol_I), runLn (wcol_px _) Tryz.f103 wcol_si wcol_so x some = wcol_body x
  | (c, out) => by kernel_rfl
theorem wcol_run : FnLn Tryz.prog elT glT 103 wcol_si wcol_so (wcol_body) := by
  refine fnLn_run Tryz.func103 rfl (by kernel_rfl) follows (by kernel_rfl) (n := 0) (by kernel_rfl) (px := wcol_px _) (fun cx hP hel hgl => ?_) (wcol_eq)
  have hp0 : PxOk cx (wcol_px (wcol_O)) := ⟨fun t => by rw [hP, hel]; exact tt_ok ttL_ok t, by rw [hgl]; rfl⟩
  have hc0 : CallOk cx (wcol_px (wcol_O)) := callT_ok rfl (cfs_cons (cf_ln (by rw [hP, hel, hgl]; exact wwords_ok) (by kernel_rfl)) cfs_nil)
  have hq0 : CallQOk cx (wcol_px (wcol_O)) := callQT_ok rfl cqfs_nil
  exact ⟨hp0, hc0, hq0, all0⟩
def wcol (c : Col) (out : Str) : Option Str := cond (inb c.kind 6) (app out (colT c)) none
def wcol_F : wcol_I → Option wcol_O := fun x => wcol x.1 x.2
theorem wcol_b (c : Col) (out : Str) (h : inb c.kind 6 = true) : wcol_body (c, out) = app out (colT c) := by
  simp only [wcol_body, h, chk, cond_t, ww, fl1, fl2, fl3, colT]
  cases c.notNull <;> cases c.unique <;> cases decide (c.ref = []) <;> simp only [cond_t, cond_f, Bool.not_true, Bool.not_false, app_one, app_app, List.append_nil, List.append_assoc]
theorem wcol_ok : FnLn Tryz.prog elT glT 103 wcol_si wcol_so wcol_F := .fin0 wcol_run fun (c, out) r hb hx => by
  have hx : cond (inb c.kind 6) (app out (colT c)) none = some r := hx
  cases ho : inb c.kind 6 with
  | false => rw [ho] at hx; cases hx
  | true =>
    rw [ho] at hx
    exact (wcol_b c out ho).trans hx
theorem wc {c : Col} (h : inb c.kind 6 = true) (out : Str) : wcol_F (c, out) = app out (colT c) := by
  show cond (inb c.kind 6) _ _ = _
  rw [h]
  rfl
def whT (s : Stm) : Str := cond s.has ([32, 87, 72, 69, 82, 69, 32] ++ etx s.whr) []
def okW (s : Stm) : Bool := !s.has || okx s.whr
/-! ## (*exchequer/ast.writer).where -/
def wwhere_si : Sig := ⟨2, [(1, .sv .stmt)], [(0, .ptr 0 0)], [(0, .bld 82)], 1, 1, 0, [], []⟩
def wwhere_so : Sig := ⟨0, [], [], [(0, .bld 82)], 1, 1, 0, [], []⟩
abbrev wwhere_I := Stm × List UInt8
abbrev wwhere_O := List UInt8
def wwhere_px (R : Type) : Px R := ⟨ttOf ttL, glT, callT [(49, callLn wwords_si wwords_so wwords_F), (40, callLn wexpr_si wexpr_so wexpr_F)], callQT [], loopT []⟩
def wwhere_body (x : wwhere_I) : Option (wwhere_O) := match x with
 | (s, out) =>
  cond (s.has) (
   (wwords_F ([[32, 87, 72, 69, 82, 69, 32]], out)).bind fun x =>
    (wexpr_F ((xeta s.whr), x)).bind fun x1 =>
     some x1) (
   some out)
theorem wwhere_eq : ∀ (x : wwhere_I), runLn (wwhere_px _) Tryz.f55 wwhere_si wwhere_so x some = wwhere_body x
  | (s, out) => by kernel_rfl
theorem wwhere_run : FnLn Tryz.prog elT glT 55 wwhere_si wwhere_so (wwhere_body) := by
  refine fnLn_run Tryz.func55 rfl (by kernel_rfl) follows (by kernel_rfl) (n := 0) (by kernel_rfl) (px := wwhere_px _) (fun cx hP hel hgl => ?_) (wwhere_eq)
  have hp0 : PxOk cx (wwhere_px (wwhere_O)) := ⟨fun t => by rw [hP, hel]; exact tt_ok ttL_ok t, by rw [hgl]; rfl⟩
  have hc0 : CallOk cx (wwhere_px (wwhere_O)) := callT_ok rfl (cfs_cons (cf_ln (by rw [hP, hel, hgl]; exact wwords_ok) (by kernel_rfl)) (cfs_cons (cf_ln (by rw [hP, hel, hgl]; exact wexpr_ok) (by kernel_rfl)) cfs_nil))
  have hq0 : CallQOk cx (wwhere_px (wwhere_O)) := callQT_ok rfl cqfs_nil
  exact ⟨hp0, hc0, hq0, all0⟩
def wwhere (s : Stm) (out : Str) : Option Str := cond (okW s) (app out (whT s)) none
def wwhere_F : wwhere_I → Option wwhere_O := fun x => wwhere x.1 x.2
theorem wwhere_b (s : Stm) (out r : Str) (h : okW s = true) (hr : app out (whT s) = some r) : wwhere_body (s, out) = some r := by
  simp only [okW] at h
  simp only [whT] at hr
  simp only [wwhere_body, xeta_eq, ww, fl1]
  cases hs : s.has with
  | false =>
    rw [hs] at hr
    exact app_z hr
  | true =>
    rw [hs] at h hr
    simp only [we (show okx s.whr = true from h), cond_t, app_one, app_app]
    exact hr
theorem wwhere_ok : FnLn Tryz.prog elT glT 55 wwhere_si wwhere_so wwhere_F := .fin0 wwhere_run fun (s, out) r hb hx => by
  have hx : cond (okW s) (app out (whT s)) none = some r := hx
  cases ho : okW s with
  | false => rw [ho] at hx; cases hx
  | true =>
    rw [ho] at hx
    exact wwhere_b s out r ho hx
theorem wh {s : Stm} (h : okW s = true) (out : Str) : wwhere_F (s, out) = app out (whT s) := by
  show cond (okW s) _ _ = _
  rw [h]
  rfl
/-! ## a table -/
def chkT (e : Xpr) : Str := [44, 32, 67, 72, 69, 67, 75, 32] ++ cond (decide (parts e.kind = 0)) ([40] ++ (etx e ++ [41])) (etx e)
def tableT (s : Stm) : Str := [67, 82, 69, 65, 84, 69, 32, 84, 65, 66, 76, 69, 32] ++ (s.name ++ [32, 40]) ++ listT colT s.cols ++ [44, 32, 80, 82, 73, 77, 65, 82, 89, 32, 75, 69, 89, 32] ++ nmT s.names ++ (s.l.map chkT).flatten ++ [41]
def okT (s : Stm) : Bool := s.cols.all (fun c => inb c.kind 6) && okNm s.names && s.l.all okx
def fuelS (s : Stm) : Nat := s.cols.length + s.l.length + s.order.length + s.rows.length + s.sets.length + (s.rows.map List.length).sum + 1
/-! ## (*exchequer/ast.writer).table -/
def wtable_si : Sig := ⟨2, [(1, .sv .stmt)], [(0, .ptr 0 0)], [(0, .bld 82)], 1, 1, 0, [], []⟩
def wtable_so : Sig := ⟨0, [], [], [(0, .bld 82)], 1, 1, 0, [], []⟩
abbrev wtable_I := Stm × List UInt8
abbrev wtable_O := List UInt8
def wtable_1_sg : Sig := ⟨54, [(25, .sl .expr false), (26, .int .i64), (27, .int .i64)], [(2, .ptr 1 0)], [(0, .bld 82), (1, .fx [.ptr 0 0])], 2, 1, 0, [], []⟩
abbrev wtable_1_V := List Xpr × Int × Int × List UInt8
def wtable_1 {R : Type} (rec : wtable_1_V → Option R) (kx : Ex → wtable_1_V → Option R) (v : wtable_1_V) : Option R := match v with
 | (v6, v7, v8, w2) =>
  cond (decide (v8 < v7)) (
   chk (inb v8 v6.length) (
    (wwords_F ([[44, 32, 67, 72, 69, 67, 75, 32]], w2)).bind fun x5 =>
     cond (decide ((parts ((at' .expr v6 v8).kind)) = 0)) (
      (wwords_F ([[40]], x5)).bind fun x6 =>
       (wexpr_F ((at' .expr v6 v8), x6)).bind fun x7 =>
        (wwords_F ([[41]], x7)).bind fun x8 =>
         rec (v6, v7, (wr .i64 (v8 + 1)), x8)) (
      (wexpr_F ((at' .expr v6 v8), x5)).bind fun x9 =>
       rec (v6, v7, (wr .i64 (v8 + 1)), x9)))) (
   kx (.exit 0) (v6, v7, v8, w2))
def wtable_0_sg : Sig := ⟨20, [(7, .int .i64), (8, .int .i64)], [(0, .ptr 0 0), (2, .fn 102 [.ptr 1 0, .ptr 2 0])], [(0, .bld 82), (1, .fx [.ptr 0 0]), (2, .one (.sv .stmt))], 80, 80, 400, [2], []⟩
abbrev wtable_0_V := Int × Int × List UInt8 × Stm
def wtable_0 {R : Type} (rec : wtable_0_V → Option R) (kx : Ex → wtable_0_V → Option R) (v : wtable_0_V) : Option R := match v with
 | (v, v1, w, w1) =>
  cond (decide (v1 < v)) (
   let j := fun (q : List UInt8) =>
    chk (inb v1 w1.cols.length) (
     (wcol_F ((at' .col w1.cols v1), q)).bind fun x2 =>
      rec (v, (wr .i64 (v1 + 1)), x2, w1))
   cond (decide (0 < v1)) (
    (wwords_F ([[44, 32]], w)).bind fun x1 =>
     j x1) (
    j w)) (
   kx (.exit 0) (v, v1, w, w1))
def wtable_pxi0i0 (R : Type) (_k : Nat) : Px R := ⟨ttOf ttL, glT, callT [(103, callLn wcol_si wcol_so wcol_F)], callQT [], loopT []⟩
noncomputable def wtable_pxi0 (R : Type) (k : Nat) : Px R := ⟨ttOf ttL, glT, callT [(49, callLn wwords_si wwords_so wwords_F), (102, callRun 120 600 (wtable_pxi0i0 R k) Tryz.f102)], callQT [], loopT [(1, loopOr k wtable_0_sg (wtable_0))]⟩
noncomputable def wtable_px (R : Type) (k : Nat) : Px R := ⟨ttOf ttL, glT, callT [(49, callLn wwords_si wwords_so wwords_F), (50, callLn wnames_si wnames_so wnames_F), (94, callOr [.int .i64] [.int .i64] parts_F), (40, callLn wexpr_si wexpr_so wexpr_F), (51, callRun 80 400 (wtable_pxi0 R k) Tryz.f51)], callQT [], loopT [(6, loopOr k wtable_1_sg (wtable_1))]⟩
theorem wtable_0_eq (R : Type) (k : Nat) : ∀ (fr : List Fr) (rec : wtable_0_V → Option R) (kx : Ex → wtable_0_V → Option R) (v : wtable_0_V), round (wtable_pxi0 R k) wtable_0_sg (lp Tryz.f51 0) fr rec kx v = wtable_0 rec kx v
  | fr, rec, kx, (v, v1, w, w1) => by kernel_rfl
theorem wtable_1_eq (R : Type) (k : Nat) : ∀ (fr : List Fr) (rec : wtable_1_V → Option R) (kx : Ex → wtable_1_V → Option R) (v : wtable_1_V), round (wtable_px R k) wtable_1_sg (lp Tryz.f48 0) fr rec kx v = wtable_1 rec kx v
  | fr, rec, kx, (v6, v7, v8, w2) => by kernel_rfl
def wtable_body (k : Nat) (x : wtable_I) : Option (wtable_O) := match x with
 | (s, out) =>
  (wwords_F ([[67, 82, 69, 65, 84, 69, 32, 84, 65, 66, 76, 69, 32], s.name, [32, 40]], out)).bind fun x =>
   iter (fun rec => wtable_0 rec (fun e vz => match vz with | (_, _, v4, v5) => match e with
    | .exit 0 =>
     (wwords_F ([[44, 32, 80, 82, 73, 77, 65, 82, 89, 32, 75, 69, 89, 32]], v4)).bind fun x3 =>
      (wnames_F (v5.names, x3)).bind fun x4 =>
       iter (fun rec => wtable_1 rec (fun e vz => match vz with | (_, _, _, v12) => match e with
        | .exit 0 =>
         (wwords_F ([[41]], v12)).bind fun x10 =>
          some x10
        | _ => none)) k (v5.l, (v5.l.length : Int), 0, x4)
    | _ => none)) k ((s.cols.length : Int), 0, x, s)
theorem wtable_eq (k : Nat) : ∀ (x : wtable_I), runLn (wtable_px _ k) Tryz.f48 wtable_si wtable_so x some = wtable_body k x
  | (s, out) => by kernel_rfl
theorem wtable_run (k : Nat) : FnLn Tryz.prog elT glT 48 wtable_si wtable_so (wtable_body k) := by
  refine fnLn_run Tryz.func48 rfl (by kernel_rfl) follows (by kernel_rfl) (n := 1) (by kernel_rfl) (px := wtable_px _ k) (fun cx hP hel hgl => ?_) (wtable_eq k)
  have hp2 : PxOk cx (wtable_pxi0i0 (wtable_O) k) := ⟨fun t => by rw [hP, hel]; exact tt_ok ttL_ok t, by rw [hgl]; rfl⟩
  have hc2 : CallOk cx (wtable_pxi0i0 (wtable_O) k) := callT_ok rfl (cfs_cons (cf_ln (by rw [hP, hel, hgl]; exact wcol_ok) (by kernel_rfl)) cfs_nil)
  have hq2 : CallQOk cx (wtable_pxi0i0 (wtable_O) k) := callQT_ok rfl cqfs_nil
  have hp1 : PxOk cx (wtable_pxi0 (wtable_O) k) := ⟨fun t => by rw [hP, hel]; exact tt_ok ttL_ok t, by rw [hgl]; rfl⟩
  have hc1 : CallOk cx (wtable_pxi0 (wtable_O) k) := callT_ok rfl (cfs_cons (cf_ln (by rw [hP, hel, hgl]; exact wwords_ok) (by kernel_rfl)) (cfs_cons (cf_run hp2 hc2 hq2 (by rw [hP]; exact follows) (by rw [hP]; exact Tryz.func102) rfl (by kernel_rfl) (by kernel_rfl) (n := 0) (by kernel_rfl) (all0)) cfs_nil))
  have hq1 : CallQOk cx (wtable_pxi0 (wtable_O) k) := callQT_ok rfl cqfs_nil
  have hlwtable_0 : LoopOk cx (wtable_pxi0 (wtable_O) k) (lp Tryz.f51 0) := loop_ok hp1 hc1 hq1 (by rw [hP]; exact follows) (k := k) (s := wtable_0_sg) (step := wtable_0) (fun _ _ => by kernel_rfl) (by kernel_rfl) (wtable_0_eq _ k) (loops_in (n := 0) (by kernel_rfl) all0)
  have hp0 : PxOk cx (wtable_px (wtable_O) k) := ⟨fun t => by rw [hP, hel]; exact tt_ok ttL_ok t, by rw [hgl]; rfl⟩
  have hc0 : CallOk cx (wtable_px (wtable_O) k) := callT_ok rfl (cfs_cons (cf_ln (by rw [hP, hel, hgl]; exact wwords_ok) (by kernel_rfl)) (cfs_cons (cf_ln (by rw [hP, hel, hgl]; exact wnames_ok) (by kernel_rfl)) (cfs_cons (cf_or (by rw [hP, hel, hgl]; exact parts_ok) (by kernel_rfl)) (cfs_cons (cf_ln (by rw [hP, hel, hgl]; exact wexpr_ok) (by kernel_rfl)) (cfs_cons (cf_run hp1 hc1 hq1 (by rw [hP]; exact follows) (by rw [hP]; exact Tryz.func51) rfl (by kernel_rfl) (by kernel_rfl) (n := 1) (by kernel_rfl) ((allS all0 hlwtable_0))) cfs_nil)))))
  have hq0 : CallQOk cx (wtable_px (wtable_O) k) := callQT_ok rfl cqfs_nil
  have hlwtable_1 : LoopOk cx (wtable_px (wtable_O) k) (lp Tryz.f48 0) := loop_ok hp0 hc0 hq0 (by rw [hP]; exact follows) (k := k) (s := wtable_1_sg) (step := wtable_1) (fun _ _ => by kernel_rfl) (by kernel_rfl) (wtable_1_eq _ k) (loops_in (n := 0) (by kernel_rfl) all0)
  exact ⟨hp0, hc0, hq0, (allS all0 hlwtable_1)⟩
def wtable (s : Stm) (out : Str) : Option Str := cond (okT s) (app out (tableT s)) none
def wtable_F : wtable_I → Option wtable_O := fun x => wtable x.1 x.2
theorem wtable_b (k : Nat) (s : Stm) (out : Str) (hb : BdStm s) (h : okT s = true) (hk : fuelS s ≤ k) : wtable_body k (s, out) = app out (tableT s) := by
  simp only [okT, Bool.and_eq_true] at h
  obtain ⟨⟨h1, h2⟩, h3⟩ := h
  simp only [fuelS] at hk
  have hc := List.all_eq_true.1 h1
  have hl := List.all_eq_true.1 h3
  simp only [wtable_body, ww, fl1, fl3]
  refine (app_congr fun x hx => (list_loop s.cols colT (fun i acc => ((s.cols.length : Int), (i : Int), acc, s)) (fun acc => (app acc ([44, 32, 80, 82, 73, 77, 65, 82, 89, 32, 75, 69, 89, 32] ++ nmT s.names)).bind fun x => (app x (s.l.map chkT).flatten).bind fun x => app x [41]) (fun i hi acc rec => ?_) (fun acc rec => ?_) k (by omega) x hx)).trans ?_
  · simp only [wtable_0, lt_t hi, cond_t, inb_t hi, chk, at_nat (c := .col) hi, wc (hc _ (List.getElem_mem hi)), wr_succ hi hb.cols.1, ww, fl1]
    exact sep_step i acc (colT s.cols[i]) _
  · simp only [wtable_0, lt_n, cond_f, ww, fl1, wn h2]
    rw [app_cont]
    refine app_congr fun x hx => cat_loop s.l chkT (fun i acc => (s.l, (s.l.length : Int), (i : Int), acc)) (fun acc => app acc [41]) (fun i hi acc rec => ?_) (fun acc rec => ?_) k (by omega) x hx
    · simp only [wtable_1, lt_t hi, cond_t, inb_t hi, chk, at_nat (c := .expr) hi, we (hl _ (List.getElem_mem hi)), wr_succ hi hb.l.1, ww, fl1, chkT]
      cases decide (parts s.l[i].kind = 0) with
      | true => simp only [cond_t, app_cont]
      | false => simp only [cond_f, app_cont]
    · simp only [wtable_1, lt_n, cond_f, ww, fl1, app_one]
  · simp only [app_app, tableT, List.append_assoc]
theorem wtable_ok : FnLn Tryz.prog elT glT 48 wtable_si wtable_so wtable_F := .fin 0 wtable_run fun (s, out) r hb hx => ⟨fuelS s, by
  have hx : cond (okT s) (app out (tableT s)) none = some r := hx
  cases ho : okT s with
  | false => rw [ho] at hx; cases hx
  | true =>
    rw [ho] at hx
    exact (wtable_b (fuelS s) s out hb.1 ho (Nat.le_refl _)).trans hx⟩
theorem wt {s : Stm} (h : okT s = true) (out : Str) : wtable_F (s, out) = app out (tableT s) := by
  show cond (okT s) _ _ = _
  rw [h]
  rfl
/-! ## a select -/
def ordT (p : Str × Bool) : Str := p.1 ++ cond p.2 [32, 68, 69, 83, 67] []
def limT (s : Stm) : Str := cond (decide (0 ≤ s.most)) ([32, 76, 73, 77, 73, 84, 32] ++ vprint ⟨3, s.most, []⟩) []
def obT (s : Stm) : Str := cond (decide (0 < (s.order.length : Int))) [32, 79, 82, 68, 69, 82, 32, 66, 89, 32] []
def selT (s : Stm) : Str := [83, 69, 76, 69, 67, 84, 32] ++ cond (decide ((s.l.length : Int) = 0)) [42] [] ++ listT etx s.l ++ ([32, 70, 82, 79, 77, 32] ++ s.name) ++ whT s ++ obT s ++ listT ordT (s.order.zip s.desc) ++ limT s
def okS (s : Stm) : Bool := s.l.all okx && okW s && decide (s.desc.length = s.order.length)
/-! ## (*exchequer/ast.writer).chosen -/
def wchosen_si : Sig := ⟨2, [(1, .sv .stmt)], [(0, .ptr 0 0)], [(0, .bld 82)], 1, 1, 0, [], []⟩
def wchosen_so : Sig := ⟨0, [], [], [(0, .bld 82)], 1, 1, 0, [], []⟩
abbrev wchosen_I := Stm × List UInt8
abbrev wchosen_O := List UInt8
def wchosen_1_sg : Sig := ⟨20, [(7, .int .i64), (8, .int .i64)], [(0, .ptr 0 0), (2, .fn 107 [.ptr 1 0, .ptr 2 0])], [(0, .bld 82), (1, .fx [.ptr 0 0]), (2, .one (.sv .stmt))], 80, 80, 600, [404, 2], []⟩
abbrev wchosen_1_V := Int × Int × List UInt8 × Stm
def wchosen_1 {R : Type} (rec : wchosen_1_V → Option R) (kx : Ex → wchosen_1_V → Option R) (v : wchosen_1_V) : Option R := match v with
 | (v6, v7, w2, w3) =>
  cond (decide (v7 < v6)) (
   let j1 := fun (q3 : List UInt8) =>
    chk (inb v7 w3.order.length) (
     (wwords_F ([(at' .str w3.order v7)], q3)).bind fun x8 =>
      chk (inb v7 w3.desc.length) (
       cond ((at' .bool w3.desc v7)) (
        (wwords_F ([[32, 68, 69, 83, 67]], x8)).bind fun x9 =>
         rec (v6, (wr .i64 (v7 + 1)), x9, w3)) (
        rec (v6, (wr .i64 (v7 + 1)), x8, w3))))
   cond (decide (0 < v7)) (
    (wwords_F ([[44, 32]], w2)).bind fun x7 =>
     j1 x7) (
    j1 w2)) (
   kx (.exit 0) (v6, v7, w2, w3))
def wchosen_0_sg : Sig := ⟨20, [(7, .int .i64), (8, .int .i64)], [(0, .ptr 0 0), (2, .fn 106 [.ptr 1 0, .ptr 2 0])], [(0, .bld 82), (1, .fx [.ptr 0 0]), (2, .one (.sv .stmt))], 80, 80, 400, [2], []⟩
abbrev wchosen_0_V := Int × Int × List UInt8 × Stm
def wchosen_0 {R : Type} (rec : wchosen_0_V → Option R) (kx : Ex → wchosen_0_V → Option R) (v : wchosen_0_V) : Option R := match v with
 | (v, v1, w, w1) =>
  cond (decide (v1 < v)) (
   let j := fun (q1 : List UInt8) =>
    chk (inb v1 w1.l.length) (
     (wexpr_F ((at' .expr w1.l v1), q1)).bind fun x3 =>
      rec (v, (wr .i64 (v1 + 1)), x3, w1))
   cond (decide (0 < v1)) (
    (wwords_F ([[44, 32]], w)).bind fun x2 =>
     j x2) (
    j w)) (
   kx (.exit 0) (v, v1, w, w1))
def wchosen_pxi0i0 (R : Type) (_k : Nat) : Px R := ⟨ttOf ttL, glT, callT [(40, callLn wexpr_si wexpr_so wexpr_F)], callQT [], loopT []⟩
noncomputable def wchosen_pxi0 (R : Type) (k : Nat) : Px R := ⟨ttOf ttL, glT, callT [(49, callLn wwords_si wwords_so wwords_F), (106, callRun 120 600 (wchosen_pxi0i0 R k) Tryz.f106)], callQT [], loopT [(1, loopOr k wchosen_0_sg (wchosen_0))]⟩
def wchosen_pxi1i0 (R : Type) (_k : Nat) : Px R := ⟨ttOf ttL, glT, callT [(49, callLn wwords_si wwords_so wwords_F)], callQT [], loopT []⟩
noncomputable def wchosen_pxi1 (R : Type) (k : Nat) : Px R := ⟨ttOf ttL, glT, callT [(49, callLn wwords_si wwords_so wwords_F), (107, callRun 120 800 (wchosen_pxi1i0 R k) Tryz.f107)], callQT [], loopT [(1, loopOr k wchosen_1_sg (wchosen_1))]⟩
noncomputable def wchosen_px (R : Type) (k : Nat) : Px R := ⟨ttOf ttL, glT, callT [(49, callLn wwords_si wwords_so wwords_F), (55, callLn wwhere_si wwhere_so wwhere_F), (51, callRunOr 80 400 (wchosen_pxi0 R k) Tryz.f51 (callRun 80 600 (wchosen_pxi1 R k) Tryz.f51))], callQT [(98, callOrQ [.sv .val] [.str] vprint_F)], loopT []⟩
theorem wchosen_0_eq (R : Type) (k : Nat) : ∀ (fr : List Fr) (rec : wchosen_0_V → Option R) (kx : Ex → wchosen_0_V → Option R) (v : wchosen_0_V), round (wchosen_pxi0 R k) wchosen_0_sg (lp Tryz.f51 0) fr rec kx v = wchosen_0 rec kx v
  | fr, rec, kx, (v, v1, w, w1) => by kernel_rfl
theorem wchosen_1_eq (R : Type) (k : Nat) : ∀ (fr : List Fr) (rec : wchosen_1_V → Option R) (kx : Ex → wchosen_1_V → Option R) (v : wchosen_1_V), round (wchosen_pxi1 R k) wchosen_1_sg (lp Tryz.f51 0) fr rec kx v = wchosen_1 rec kx v
  | fr, rec, kx, (v6, v7, w2, w3) => by kernel_rfl
def wchosen_body (k : Nat) (x : wchosen_I) : Option (wchosen_O) := match x with
 | (s, out) =>
  (wwords_F ([[83, 69, 76, 69, 67, 84, 32]], out)).bind fun x =>
   let j3 := fun (q : List UInt8) =>
    iter (fun rec => wchosen_0 rec (fun e vz => match vz with | (_, _, v4, v5) => match e with
     | .exit 0 =>
      (wwords_F ([[32, 70, 82, 79, 77, 32], v5.name], v4)).bind fun x4 =>
       (wwhere_F (v5, x4)).bind fun x5 =>
        let j2 := fun (q2 : List UInt8) =>
         iter (fun rec => wchosen_1 rec (fun e vz => match vz with | (_, _, v10, v11) => match e with
          | .exit 0 =>
           cond (decide (0 ≤ v11.most)) (
            (wwords_F ([[32, 76, 73, 77, 73, 84, 32], (vprint (Val.mk 3 v11.most []))], v10)).bind fun x10 =>
             some x10) (
            some v10)
          | _ => none)) k ((v5.order.length : Int), 0, q2, v5)
        cond (decide (0 < (v5.order.length : Int))) (
         (wwords_F ([[32, 79, 82, 68, 69, 82, 32, 66, 89, 32]], x5)).bind fun x6 =>
          j2 x6) (
         j2 x5)
     | _ => none)) k ((s.l.length : Int), 0, q, s)
   cond (decide ((s.l.length : Int) = 0)) (
    (wwords_F ([[42]], x)).bind fun x1 =>
     j3 x1) (
    j3 x)
theorem wchosen_eq (k : Nat) : ∀ (x : wchosen_I), runLn (wchosen_px _ k) Tryz.f56 wchosen_si wchosen_so x some = wchosen_body k x
  | (s, out) => by kernel_rfl
theorem wchosen_run (k : Nat) : FnLn Tryz.prog elT glT 56 wchosen_si wchosen_so (wchosen_body k) := by
  refine fnLn_run Tryz.func56 rfl (by kernel_rfl) follows (by kernel_rfl) (n := 0) (by kernel_rfl) (px := wchosen_px _ k) (fun cx hP hel hgl => ?_) (wchosen_eq k)
  have hp2 : PxOk cx (wchosen_pxi0i0 (wchosen_O) k) := ⟨fun t => by rw [hP, hel]; exact tt_ok ttL_ok t, by rw [hgl]; rfl⟩
  have hc2 : CallOk cx (wchosen_pxi0i0 (wchosen_O) k) := callT_ok rfl (cfs_cons (cf_ln (by rw [hP, hel, hgl]; exact wexpr_ok) (by kernel_rfl)) cfs_nil)
  have hq2 : CallQOk cx (wchosen_pxi0i0 (wchosen_O) k) := callQT_ok rfl cqfs_nil
  have hp1 : PxOk cx (wchosen_pxi0 (wchosen_O) k) := ⟨fun t => by rw [hP, hel]; exact tt_ok ttL_ok t, by rw [hgl]; rfl⟩
  have hc1 : CallOk cx (wchosen_pxi0 (wchosen_O) k) := callT_ok rfl (cfs_cons (cf_ln (by rw [hP, hel, hgl]; exact wwords_ok) (by kernel_rfl)) (cfs_cons (cf_run hp2 hc2 hq2 (by rw [hP]; exact follows) (by rw [hP]; exact Tryz.func106) rfl (by kernel_rfl) (by kernel_rfl) (n := 0) (by kernel_rfl) (all0)) cfs_nil))
  have hq1 : CallQOk cx (wchosen_pxi0 (wchosen_O) k) := callQT_ok rfl cqfs_nil
  have hlwchosen_0 : LoopOk cx (wchosen_pxi0 (wchosen_O) k) (lp Tryz.f51 0) := loop_ok hp1 hc1 hq1 (by rw [hP]; exact follows) (k := k) (s := wchosen_0_sg) (step := wchosen_0) (fun _ _ => by kernel_rfl) (by kernel_rfl) (wchosen_0_eq _ k) (loops_in (n := 0) (by kernel_rfl) all0)
  have hp4 : PxOk cx (wchosen_pxi1i0 (wchosen_O) k) := ⟨fun t => by rw [hP, hel]; exact tt_ok ttL_ok t, by rw [hgl]; rfl⟩
  have hc4 : CallOk cx (wchosen_pxi1i0 (wchosen_O) k) := callT_ok rfl (cfs_cons (cf_ln (by rw [hP, hel, hgl]; exact wwords_ok) (by kernel_rfl)) cfs_nil)
  have hq4 : CallQOk cx (wchosen_pxi1i0 (wchosen_O) k) := callQT_ok rfl cqfs_nil
  have hp3 : PxOk cx (wchosen_pxi1 (wchosen_O) k) := ⟨fun t => by rw [hP, hel]; exact tt_ok ttL_ok t, by rw [hgl]; rfl⟩
  have hc3 : CallOk cx (wchosen_pxi1 (wchosen_O) k) := callT_ok rfl (cfs_cons (cf_ln (by rw [hP, hel, hgl]; exact wwords_ok) (by kernel_rfl)) (cfs_cons (cf_run hp4 hc4 hq4 (by rw [hP]; exact follows) (by rw [hP]; exact Tryz.func107) rfl (by kernel_rfl) (by kernel_rfl) (n := 0) (by kernel_rfl) (all0)) cfs_nil))
  have hq3 : CallQOk cx (wchosen_pxi1 (wchosen_O) k) := callQT_ok rfl cqfs_nil
  have hlwchosen_1 : LoopOk cx (wchosen_pxi1 (wchosen_O) k) (lp Tryz.f51 0) := loop_ok hp3 hc3 hq3 (by rw [hP]; exact follows) (k := k) (s := wchosen_1_sg) (step := wchosen_1) (fun _ _ => by kernel_rfl) (by kernel_rfl) (wchosen_1_eq _ k) (loops_in (n := 0) (by kernel_rfl) all0)
  have hp0 : PxOk cx (wchosen_px (wchosen_O) k) := ⟨fun t => by rw [hP, hel]; exact tt_ok ttL_ok t, by rw [hgl]; rfl⟩
  have hc0 : CallOk cx (wchosen_px (wchosen_O) k) := callT_ok rfl (cfs_cons (cf_ln (by rw [hP, hel, hgl]; exact wwords_ok) (by kernel_rfl)) (cfs_cons (cf_ln (by rw [hP, hel, hgl]; exact wwhere_ok) (by kernel_rfl)) (cfs_cons (cf_runOr (cf_run hp1 hc1 hq1 (by rw [hP]; exact follows) (by rw [hP]; exact Tryz.func51) rfl (by kernel_rfl) (by kernel_rfl) (n := 1) (by kernel_rfl) ((allS all0 hlwchosen_0))) (cf_run hp3 hc3 hq3 (by rw [hP]; exact follows) (by rw [hP]; exact Tryz.func51) rfl (by kernel_rfl) (by kernel_rfl) (n := 1) (by kernel_rfl) ((allS all0 hlwchosen_1)))) cfs_nil)))
  have hq0 : CallQOk cx (wchosen_px (wchosen_O) k) := callQT_ok rfl (cqfs_cons (cqf_or (by rw [hP, hel, hgl]; exact vprint_ok) (by kernel_rfl)) cqfs_nil)
  exact ⟨hp0, hc0, hq0, all0⟩
def wchosen (s : Stm) (out : Str) : Option Str := cond (okS s) (app out (selT s)) none
def wchosen_F : wchosen_I → Option wchosen_O := fun x => wchosen x.1 x.2
theorem cond_app {R : Type} {b : Bool} {out t : Str} {c : Str → Option R} (ho : out.length ≤ 100000000000) : cond b ((app out t).bind c) (c out) = (app out (cond b t [])).bind c := by
  cases b with
  | true => rfl
  | false => rw [cond_f, cond_f, app_nil ho]; rfl
theorem wchosen_b (k : Nat) (s : Stm) (out : Str) (hb : BdStm s) (h : okS s = true) (hk : fuelS s ≤ k) : wchosen_body k (s, out) = app out (selT s) := by
  simp only [okS, Bool.and_eq_true, decide_eq_true_eq] at h
  obtain ⟨⟨h1, h2⟩, h3⟩ := h
  simp only [fuelS] at hk
  have hl := List.all_eq_true.1 h1
  have hz : (s.order.zip s.desc).length = s.order.length := by rw [List.length_zip]; omega
  have hend : ∀ x : Str, x.length ≤ 100000000000 → cond (decide (0 ≤ s.most)) (app x ([32, 76, 73, 77, 73, 84, 32] ++ vprint ⟨3, s.most, []⟩)) (some x) = app x (limT s) := fun x hx => by
    simp only [limT]
    cases decide (0 ≤ s.most) with
    | true => rfl
    | false => rw [cond_f, cond_f, app_nil hx]
  have hord : ∀ (kx : Ex → wchosen_1_V → Option wchosen_O), (∀ acc, kx (.exit 0) ((s.order.length : Int), (s.order.length : Int), acc, s) = cond (decide (0 ≤ s.most)) (app acc ([32, 76, 73, 77, 73, 84, 32] ++ vprint ⟨3, s.most, []⟩)) (some acc)) → ∀ x : Str, x.length ≤ 100000000000 →
      iter (fun rec => wchosen_1 rec kx) k ((s.order.length : Int), 0, x, s) = (app x (listT ordT (s.order.zip s.desc))).bind fun x => app x (limT s) := fun kx hkx x hx => by
    refine (list_loop (s.order.zip s.desc) ordT (fun i acc => ((s.order.length : Int), (i : Int), acc, s)) (fun acc => cond (decide (0 ≤ s.most)) (app acc ([32, 76, 73, 77, 73, 84, 32] ++ vprint ⟨3, s.most, []⟩)) (some acc)) (fun i hi acc rec => ?_) (fun acc rec => ?_) k (by omega) x hx).trans (app_congr hend)
    · have hi1 : i < s.order.length := by omega
      have hi2 : i < s.desc.length := by omega
      have hg : (s.order.zip s.desc)[i] = (s.order[i], s.desc[i]) := by simp
      simp only [wchosen_1, lt_t hi1, cond_t, inb_t hi1, inb_t hi2, chk, at_nat (c := .str) hi1, at_nat (c := .bool) hi2, wr_succ hi1 hb.order.1, ww, fl1, hg]
      have hitem : ∀ q : Str, ((app q s.order[i]).bind fun x8 => cond s.desc[i] ((app x8 [32, 68, 69, 83, 67]).bind fun x9 => rec ((s.order.length : Int), ((i + 1 : Nat) : Int), x9, s)) (rec ((s.order.length : Int), ((i + 1 : Nat) : Int), x8, s))) = (app q (ordT (s.order[i], s.desc[i]))).bind fun x => rec ((s.order.length : Int), ((i + 1 : Nat) : Int), x, s) := fun q => by
        simp only [ordT]
        rw [← app_cont]
        exact app_congr fun x hx => cond_app hx
      simp only [hitem]
      exact sep_step i acc _ _
    · rw [hz]
      simp only [wchosen_1, lt_n, cond_f, hkx]
  simp only [wchosen_body, ww, fl1, fl2]
  have hsel : ∀ (kx : Ex → wchosen_0_V → Option wchosen_O), (∀ acc : Str, acc.length ≤ 100000000000 → kx (.exit 0) ((s.l.length : Int), (s.l.length : Int), acc, s) = app acc (([32, 70, 82, 79, 77, 32] ++ s.name) ++ whT s ++ obT s ++ listT ordT (s.order.zip s.desc) ++ limT s)) → ∀ x : Str, x.length ≤ 100000000000 →
      iter (fun rec => wchosen_0 rec kx) k ((s.l.length : Int), 0, x, s) = app x (listT etx s.l ++ (([32, 70, 82, 79, 77, 32] ++ s.name) ++ whT s ++ obT s ++ listT ordT (s.order.zip s.desc) ++ limT s)) := fun kx hkx x hx => by
    refine (list_loop s.l etx (fun i acc => ((s.l.length : Int), (i : Int), acc, s)) (fun acc => kx (.exit 0) ((s.l.length : Int), (s.l.length : Int), acc, s)) (fun i hi acc rec => ?_) (fun acc rec => ?_) k (by omega) x hx).trans ((app_congr hkx).trans (app_app _ _ _))
    · simp only [wchosen_0, lt_t hi, cond_t, inb_t hi, chk, at_nat (c := .expr) hi, we (hl _ (List.getElem_mem hi)), wr_succ hi hb.l.1, ww, fl1]
      exact sep_step i acc _ _
    · simp only [wchosen_0, lt_n, cond_f]
  refine (app_congr fun x hx => (cond_app hx).trans (app_congr fun q hq => hsel _ (fun acc ha => ?_) q hq)).trans ?_
  · show ((app acc ([32, 70, 82, 79, 77, 32] ++ s.name)).bind fun x4 => (wwhere_F (s, x4)).bind fun x5 => cond (decide (0 < (s.order.length : Int))) ((app x5 [32, 79, 82, 68, 69, 82, 32, 66, 89, 32]).bind fun x6 => iter (fun rec => wchosen_1 rec _) k ((s.order.length : Int), 0, x6, s)) (iter (fun rec => wchosen_1 rec _) k ((s.order.length : Int), 0, x5, s))) = _
    simp only [wh h2]
    rw [app_cont]
    refine (app_congr fun x5 hx5 => (cond_app hx5).trans (app_congr fun y hy => hord _ (fun _ => ?_) y hy)).trans ?_
    · simp only [app_one, vprint]
    · simp only [app_app, obT, List.append_assoc]
  · simp only [app_app, selT, List.append_assoc]
theorem wchosen_ok : FnLn Tryz.prog elT glT 56 wchosen_si wchosen_so wchosen_F := .fin 0 wchosen_run fun (s, out) r hb hx => ⟨fuelS s, by
  have hx : cond (okS s) (app out (selT s)) none = some r := hx
  cases ho : okS s with
  | false => rw [ho] at hx; cases hx
  | true =>
    rw [ho] at hx
    exact (wchosen_b (fuelS s) s out hb.1 ho (Nat.le_refl _)).trans hx⟩
theorem ws {s : Stm} (h : okS s = true) (out : Str) : wchosen_F (s, out) = app out (selT s) := by
  show cond (okS s) _ _ = _
  rw [h]
  rfl
/-! ## a statement's text -/
def rowT (r : List Xpr) : Str := [40] ++ (listT etx r ++ [41])
def setT (x : SetE) : Str := x.name ++ [32, 61, 32] ++ etx x.e
def printT (s : Stm) : Str :=
  if s.kind = 1 then tableT s
  else if s.kind = 2 then [68, 82, 79, 80, 32, 84, 65, 66, 76, 69, 32] ++ s.name
  else if s.kind = 3 then [67, 82, 69, 65, 84, 69, 32, 73, 78, 68, 69, 88, 32] ++ (s.name ++ ([32, 79, 78, 32] ++ (s.on ++ [32]))) ++ nmT s.names
  else if s.kind = 4 then [68, 82, 79, 80, 32, 73, 78, 68, 69, 88, 32] ++ s.name
  else if s.kind = 5 then [73, 78, 83, 69, 82, 84, 32, 73, 78, 84, 79, 32] ++ (s.name ++ [32, 86, 65, 76, 85, 69, 83, 32]) ++ listT rowT s.rows
  else if s.kind = 6 then [85, 80, 68, 65, 84, 69, 32] ++ (s.name ++ [32, 83, 69, 84, 32]) ++ listT setT s.sets ++ whT s
  else if s.kind = 7 then [68, 69, 76, 69, 84, 69, 32, 70, 82, 79, 77, 32] ++ s.name ++ whT s
  else selT s
def okP (s : Stm) : Bool :=
  if s.kind = 1 then okT s
  else if s.kind = 2 ∨ s.kind = 4 then true
  else if s.kind = 3 then okNm s.names
  else if s.kind = 5 then s.rows.all fun r => r.all okx
  else if s.kind = 6 then s.sets.all (fun x => okx x.e) && okW s
  else if s.kind = 7 then okW s
  else decide (s.kind = 8) && okS s
/-! ## exchequer/ast.Print -/
def aprint_2_sg : Sig := ⟨20, [(7, .int .i64), (8, .int .i64)], [(0, .ptr 1 0), (2, .fn 54 [.ptr 1 0, .ptr 0 0])], [(0, .one (.sv .stmt)), (1, .bld 82)], 40, 40, 200, [2], []⟩
abbrev aprint_2_V := Int × Int × Stm × List UInt8
def aprint_2 {R : Type} (rec : aprint_2_V → Option R) (kx : Ex → aprint_2_V → Option R) (v : aprint_2_V) : Option R := match v with
 | (v13, v14, w5, w6) =>
  cond (decide (v14 < v13)) (
   let j2 := fun (q2 : List UInt8) =>
    chk (inb v14 w5.sets.length) (
     (wwords_F ([((at' .set w5.sets v14).name), [32, 61, 32]], q2)).bind fun x14 =>
      chk (inb v14 w5.sets.length) (
       (wexpr_F ((xeta ((at' .set w5.sets v14).e)), x14)).bind fun x15 =>
        rec (v13, (wr .i64 (v14 + 1)), w5, x15)))
   cond (decide (0 < v14)) (
    (wwords_F ([[44, 32]], w6)).bind fun x13 =>
     j2 x13) (
    j2 w6)) (
   kx (.exit 0) (v13, v14, w5, w6))
def aprint_1_sg : Sig := ⟨20, [(7, .int .i64), (8, .int .i64)], [(0, .ptr 1 0), (2, .fn 53 [.ptr 1 0, .ptr 0 0, .ptr 80 0])], [(0, .one (.sv .stmt)), (1, .bld 82), (80, .cells [.int .i64])], 120, 120, 600, [400, 2], []⟩
abbrev aprint_1_V := Int × Int × Stm × List UInt8 × Int
def aprint_1 {R : Type} (rec : aprint_1_V → Option R) (kx : Ex → aprint_1_V → Option R) (v : aprint_1_V) : Option R := match v with
 | (v2, v3, w2, w3, w4) =>
  cond (decide (v3 < v2)) (
   let j := fun (q1 : List UInt8) =>
    chk (inb w4 w2.rows.length) (
     chk (inb v3 ((at' .exprs w2.rows w4).length)) (
      (wexpr_F ((at' .expr (at' .exprs w2.rows w4) v3), q1)).bind fun x10 =>
       rec (v2, (wr .i64 (v3 + 1)), w2, x10, w4)))
   cond (decide (0 < v3)) (
    (wwords_F ([[44, 32]], w3)).bind fun x9 =>
     j x9) (
    j w3)) (
   kx (.exit 0) (v2, v3, w2, w3, w4))
def aprint_0_sg : Sig := ⟨20, [(7, .int .i64), (8, .int .i64)], [(0, .ptr 1 0), (2, .fn 52 [.ptr 1 0, .ptr 0 0])], [(0, .one (.sv .stmt)), (1, .bld 82)], 40, 40, 200, [2], []⟩
abbrev aprint_0_V := Int × Int × Stm × List UInt8
def aprint_0 {R : Type} (k : Nat) (rec : aprint_0_V → Option R) (kx : Ex → aprint_0_V → Option R) (v : aprint_0_V) : Option R := match v with
 | (v, v1, w, w1) =>
  cond (decide (v1 < v)) (
   let j1 := fun (q : List UInt8) =>
    (wwords_F ([[40]], q)).bind fun x8 =>
     chk (inb v1 w.rows.length) (
      iter (fun rc => aprint_1 rc (fun e vz => match vz with | (_, _, v6, v7, _) => match e with
       | .exit 0 =>
        (wwords_F ([[41]], v7)).bind fun x11 =>
         rec (v, (wr .i64 (v1 + 1)), v6, x11)
       | _ => none)) k (((at' .exprs w.rows v1).length : Int), 0, w, x8, v1))
   cond (decide (0 < v1)) (
    (wwords_F ([[44, 32]], w1)).bind fun x7 =>
     j1 x7) (
    j1 w1)) (
   kx (.exit 0) (v, v1, w, w1))
def aprint_pxi0i0i0i0 (R : Type) (_k : Nat) : Px R := ⟨ttOf ttL, glT, callT [(40, callLn wexpr_si wexpr_so wexpr_F)], callQT [], loopT []⟩
noncomputable def aprint_pxi0i0i0 (R : Type) (k : Nat) : Px R := ⟨ttOf ttL, glT, callT [(49, callLn wwords_si wwords_so wwords_F), (53, callRun 160 800 (aprint_pxi0i0i0i0 R k) Tryz.f53)], callQT [], loopT [(1, loopOr k aprint_1_sg (aprint_1))]⟩
noncomputable def aprint_pxi0i0 (R : Type) (k : Nat) : Px R := ⟨ttOf ttL, glT, callT [(49, callLn wwords_si wwords_so wwords_F), (51, callRun 120 600 (aprint_pxi0i0i0 R k) Tryz.f51)], callQT [], loopT []⟩
def aprint_pxi0i1 (R : Type) (_k : Nat) : Px R := ⟨ttOf ttL, glT, callT [(49, callLn wwords_si wwords_so wwords_F), (40, callLn wexpr_si wexpr_so wexpr_F)], callQT [], loopT []⟩
noncomputable def aprint_pxi0 (R : Type) (k : Nat) : Px R := ⟨ttOf ttL, glT, callT [(49, callLn wwords_si wwords_so wwords_F), (52, callRun 80 400 (aprint_pxi0i0 R k) Tryz.f52), (54, callRun 80 400 (aprint_pxi0i1 R k) Tryz.f54)], callQT [], loopT [(1, loopTry k aprint_0_sg (aprint_0 k) (loopOr k aprint_2_sg (aprint_2)))]⟩
noncomputable def aprint_px (R : Type) (k : Nat) : Px R := ⟨ttOf ttL, glT, callT [(25, callOr [.sv .stmt] [.int .i64] acheck_F), (48, callLn wtable_si wtable_so wtable_F), (49, callLn wwords_si wwords_so wwords_F), (50, callLn wnames_si wnames_so wnames_F), (55, callLn wwhere_si wwhere_so wwhere_F), (56, callLn wchosen_si wchosen_so wchosen_F), (41, callLn bstr_si bstr_so bstr_F), (51, callRun 40 200 (aprint_pxi0 R k) Tryz.f51)], callQT [], loopT []⟩
theorem aprint_1_eq (R : Type) (k : Nat) : ∀ (fr : List Fr) (rec : aprint_1_V → Option R) (kx : Ex → aprint_1_V → Option R) (v : aprint_1_V), round (aprint_pxi0i0i0 R k) aprint_1_sg (lp Tryz.f51 0) fr rec kx v = aprint_1 rec kx v
  | fr, rec, kx, (v2, v3, w2, w3, w4) => by kernel_rfl
theorem aprint_0_eq (R : Type) (k : Nat) : ∀ (fr : List Fr) (rec : aprint_0_V → Option R) (kx : Ex → aprint_0_V → Option R) (v : aprint_0_V), round (aprint_pxi0 R k) aprint_0_sg (lp Tryz.f51 0) fr rec kx v = aprint_0 k rec kx v
  | fr, rec, kx, (v, v1, w, w1) => by kernel_rfl
theorem aprint_2_eq (R : Type) (k : Nat) : ∀ (fr : List Fr) (rec : aprint_2_V → Option R) (kx : Ex → aprint_2_V → Option R) (v : aprint_2_V), round (aprint_pxi0 R k) aprint_2_sg (lp Tryz.f51 0) fr rec kx v = aprint_2 rec kx v
  | fr, rec, kx, (v13, v14, w5, w6) => by kernel_rfl
def aprint_body (k : Nat) (x : HV [.sv .stmt]) : Option (HV [.str, .int .i64]) := match x with
 | s =>
  (acheck s).bind fun x =>
   cond (!decide (x = 0)) (
    some ([], x)) (
    cond (decide (s.kind = 1)) (
     (wtable_F (s, [])).bind fun x1 =>
      (bstr_F x1).bind fun x21 =>
       some (x21, 0)) (
     cond (decide (s.kind = 2)) (
      (wwords_F ([[68, 82, 79, 80, 32, 84, 65, 66, 76, 69, 32], s.name], [])).bind fun x2 =>
       (bstr_F x2).bind fun x22 =>
        some (x22, 0)) (
      cond (decide (s.kind = 3)) (
       (wwords_F ([[67, 82, 69, 65, 84, 69, 32, 73, 78, 68, 69, 88, 32], s.name, [32, 79, 78, 32], s.on, [32]], [])).bind fun x3 =>
        (wnames_F (s.names, x3)).bind fun x4 =>
         (bstr_F x4).bind fun x23 =>
          some (x23, 0)) (
       cond (decide (s.kind = 4)) (
        (wwords_F ([[68, 82, 79, 80, 32, 73, 78, 68, 69, 88, 32], s.name], [])).bind fun x5 =>
         (bstr_F x5).bind fun x24 =>
          some (x24, 0)) (
        cond (decide (s.kind = 5)) (
         (wwords_F ([[73, 78, 83, 69, 82, 84, 32, 73, 78, 84, 79, 32], s.name, [32, 86, 65, 76, 85, 69, 83, 32]], [])).bind fun x6 =>
          iter (fun rec => aprint_0 k rec (fun e vz => match vz with | (_, _, _, v12) => match e with
           | .exit 0 =>
            (bstr_F v12).bind fun x25 =>
             some (x25, 0)
           | _ => none)) k ((s.rows.length : Int), 0, s, x6)) (
         cond (decide (s.kind = 6)) (
          (wwords_F ([[85, 80, 68, 65, 84, 69, 32], s.name, [32, 83, 69, 84, 32]], [])).bind fun x12 =>
           iter (fun rec => aprint_2 rec (fun e vz => match vz with | (_, _, v17, v18) => match e with
            | .exit 0 =>
             (wwhere_F (v17, v18)).bind fun x16 =>
              (bstr_F x16).bind fun x26 =>
               some (x26, 0)
            | _ => none)) k ((s.sets.length : Int), 0, s, x12)) (
          cond (decide (s.kind = 7)) (
           (wwords_F ([[68, 69, 76, 69, 84, 69, 32, 70, 82, 79, 77, 32], s.name], [])).bind fun x17 =>
            (wwhere_F (s, x17)).bind fun x18 =>
             (bstr_F x18).bind fun x27 =>
              some (x27, 0)) (
           cond (decide (s.kind = 8)) (
            (wchosen_F (s, [])).bind fun x19 =>
             (bstr_F x19).bind fun x28 =>
              some (x28, 0)) (
            (bstr_F []).bind fun x29 =>
             some (x29, 0))))))))))
theorem aprint_eq (k : Nat) : ∀ (x : HV [.sv .stmt]), runF (aprint_px _ k) Tryz.f23 [.sv .stmt] [.str, .int .i64] x some = aprint_body k x
  | s => by kernel_rfl
theorem aprint_run (k : Nat) : FnOk Tryz.prog elT glT 23 [.sv .stmt] [.str, .int .i64] (aprint_body k) := by
  refine fnOk_run Tryz.func23 rfl (by kernel_rfl) follows (by kernel_rfl) (n := 0) (by kernel_rfl) (px := aprint_px _ k) (fun cx hP hel hgl => ?_) (aprint_eq k)
  have hp4 : PxOk cx (aprint_pxi0i0i0i0 (HV [.str, .int .i64]) k) := ⟨fun t => by rw [hP, hel]; exact tt_ok ttL_ok t, by rw [hgl]; rfl⟩
  have hc4 : CallOk cx (aprint_pxi0i0i0i0 (HV [.str, .int .i64]) k) := callT_ok rfl (cfs_cons (cf_ln (by rw [hP, hel, hgl]; exact wexpr_ok) (by kernel_rfl)) cfs_nil)
  have hq4 : CallQOk cx (aprint_pxi0i0i0i0 (HV [.str, .int .i64]) k) := callQT_ok rfl cqfs_nil
  have hp3 : PxOk cx (aprint_pxi0i0i0 (HV [.str, .int .i64]) k) := ⟨fun t => by rw [hP, hel]; exact tt_ok ttL_ok t, by rw [hgl]; rfl⟩
  have hc3 : CallOk cx (aprint_pxi0i0i0 (HV [.str, .int .i64]) k) := callT_ok rfl (cfs_cons (cf_ln (by rw [hP, hel, hgl]; exact wwords_ok) (by kernel_rfl)) (cfs_cons (cf_run hp4 hc4 hq4 (by rw [hP]; exact follows) (by rw [hP]; exact Tryz.func53) rfl (by kernel_rfl) (by kernel_rfl) (n := 0) (by kernel_rfl) (all0)) cfs_nil))
  have hq3 : CallQOk cx (aprint_pxi0i0i0 (HV [.str, .int .i64]) k) := callQT_ok rfl cqfs_nil
  have hlaprint_1 : LoopOk cx (aprint_pxi0i0i0 (HV [.str, .int .i64]) k) (lp Tryz.f51 0) := loop_ok hp3 hc3 hq3 (by rw [hP]; exact follows) (k := k) (s := aprint_1_sg) (step := aprint_1) (fun _ _ => by kernel_rfl) (by kernel_rfl) (aprint_1_eq _ k) (loops_in (n := 0) (by kernel_rfl) all0)
  have hp2 : PxOk cx (aprint_pxi0i0 (HV [.str, .int .i64]) k) := ⟨fun t => by rw [hP, hel]; exact tt_ok ttL_ok t, by rw [hgl]; rfl⟩
  have hc2 : CallOk cx (aprint_pxi0i0 (HV [.str, .int .i64]) k) := callT_ok rfl (cfs_cons (cf_ln (by rw [hP, hel, hgl]; exact wwords_ok) (by kernel_rfl)) (cfs_cons (cf_run hp3 hc3 hq3 (by rw [hP]; exact follows) (by rw [hP]; exact Tryz.func51) rfl (by kernel_rfl) (by kernel_rfl) (n := 1) (by kernel_rfl) ((allS all0 hlaprint_1))) cfs_nil))
  have hq2 : CallQOk cx (aprint_pxi0i0 (HV [.str, .int .i64]) k) := callQT_ok rfl cqfs_nil
  have hp5 : PxOk cx (aprint_pxi0i1 (HV [.str, .int .i64]) k) := ⟨fun t => by rw [hP, hel]; exact tt_ok ttL_ok t, by rw [hgl]; rfl⟩
  have hc5 : CallOk cx (aprint_pxi0i1 (HV [.str, .int .i64]) k) := callT_ok rfl (cfs_cons (cf_ln (by rw [hP, hel, hgl]; exact wwords_ok) (by kernel_rfl)) (cfs_cons (cf_ln (by rw [hP, hel, hgl]; exact wexpr_ok) (by kernel_rfl)) cfs_nil))
  have hq5 : CallQOk cx (aprint_pxi0i1 (HV [.str, .int .i64]) k) := callQT_ok rfl cqfs_nil
  have hp1 : PxOk cx (aprint_pxi0 (HV [.str, .int .i64]) k) := ⟨fun t => by rw [hP, hel]; exact tt_ok ttL_ok t, by rw [hgl]; rfl⟩
  have hc1 : CallOk cx (aprint_pxi0 (HV [.str, .int .i64]) k) := callT_ok rfl (cfs_cons (cf_ln (by rw [hP, hel, hgl]; exact wwords_ok) (by kernel_rfl)) (cfs_cons (cf_run hp2 hc2 hq2 (by rw [hP]; exact follows) (by rw [hP]; exact Tryz.func52) rfl (by kernel_rfl) (by kernel_rfl) (n := 0) (by kernel_rfl) (all0)) (cfs_cons (cf_run hp5 hc5 hq5 (by rw [hP]; exact follows) (by rw [hP]; exact Tryz.func54) rfl (by kernel_rfl) (by kernel_rfl) (n := 0) (by kernel_rfl) (all0)) cfs_nil)))
  have hq1 : CallQOk cx (aprint_pxi0 (HV [.str, .int .i64]) k) := callQT_ok rfl cqfs_nil
  have hlaprint_0 : LoopOk cx (aprint_pxi0 (HV [.str, .int .i64]) k) (lp Tryz.f51 0) := loop_of (fun _ _ => by kernel_rfl) (loopW_try (loopW_or hp1 hc1 hq1 (by rw [hP]; exact follows) (k := k) (s := aprint_0_sg) (step := aprint_0 k) (by kernel_rfl) (aprint_0_eq _ k) (loops_in (n := 0) (by kernel_rfl) all0)) (loopW_or hp1 hc1 hq1 (by rw [hP]; exact follows) (k := k) (s := aprint_2_sg) (step := aprint_2) (by kernel_rfl) (aprint_2_eq _ k) (loops_in (n := 0) (by kernel_rfl) all0)))
  have hp0 : PxOk cx (aprint_px (HV [.str, .int .i64]) k) := ⟨fun t => by rw [hP, hel]; exact tt_ok ttL_ok t, by rw [hgl]; rfl⟩
  have hc0 : CallOk cx (aprint_px (HV [.str, .int .i64]) k) := callT_ok rfl (cfs_cons (cf_or (by rw [hP, hel, hgl]; exact acheck_ok) (by kernel_rfl)) (cfs_cons (cf_ln (by rw [hP, hel, hgl]; exact wtable_ok) (by kernel_rfl)) (cfs_cons (cf_ln (by rw [hP, hel, hgl]; exact wwords_ok) (by kernel_rfl)) (cfs_cons (cf_ln (by rw [hP, hel, hgl]; exact wnames_ok) (by kernel_rfl)) (cfs_cons (cf_ln (by rw [hP, hel, hgl]; exact wwhere_ok) (by kernel_rfl)) (cfs_cons (cf_ln (by rw [hP, hel, hgl]; exact wchosen_ok) (by kernel_rfl)) (cfs_cons (cf_ln (by rw [hP, hel, hgl]; exact bstr_ok) (by kernel_rfl)) (cfs_cons (cf_run hp1 hc1 hq1 (by rw [hP]; exact follows) (by rw [hP]; exact Tryz.func51) rfl (by kernel_rfl) (by kernel_rfl) (n := 1) (by kernel_rfl) ((allS all0 hlaprint_0))) cfs_nil))))))))
  have hq0 : CallQOk cx (aprint_px (HV [.str, .int .i64]) k) := callQT_ok rfl cqfs_nil
  exact ⟨hp0, hc0, hq0, all0⟩
def aprint (s : Stm) : Option (Str × Int) := (acheck s).bind fun x => cond (!decide (x = 0)) (some ([], x)) (cond (okP s) ((app [] (printT s)).bind fun t => some (t, 0)) none)
def aprint_F : FT [.sv .stmt] [.str, .int .i64] := fun x => aprint x
theorem aprint_1_loop {R : Type} {kx : Ex → aprint_1_V → Option R} {s : Stm} {j : Nat} {c : Str → Option R} (hj : j < s.rows.length) (hn : ln s.rows[j].length) (hok : s.rows[j].all okx = true) (h2 : ∀ acc, kx (.exit 0) ((s.rows[j].length : Int), (s.rows[j].length : Int), s, acc, (j : Int)) = c acc) (k : Nat) (hk : s.rows[j].length < k) (out : Str) (ho : out.length ≤ 100000000000) :
    iter (fun rec => aprint_1 rec kx) k ((s.rows[j].length : Int), 0, s, out, (j : Int)) = (app out (listT etx s.rows[j])).bind c := by
  have hl := List.all_eq_true.1 hok
  refine list_loop s.rows[j] etx (fun i acc => ((s.rows[j].length : Int), (i : Int), s, acc, (j : Int))) c (fun i hi acc rec => ?_) (fun acc rec => ?_) k hk out ho
  · simp only [aprint_1, lt_t hi, cond_t, inb_t hi, inb_t hj, chk, at_nat (c := .exprs) hj, at_nat (c := .expr) hi, we (hl _ (List.getElem_mem hi)), wr_succ hi hn, ww, fl1]
    exact sep_step i acc _ _
  · simp only [aprint_1, lt_n, cond_f, h2]
theorem aprint_0_loop {R : Type} {kx : Ex → aprint_0_V → Option R} {s : Stm} {c : Str → Option R} (hb : BdStm s) (hok : (s.rows.all fun r => r.all okx) = true) (h2 : ∀ acc, kx (.exit 0) ((s.rows.length : Int), (s.rows.length : Int), s, acc) = c acc) (k : Nat) (hk : fuelS s ≤ k) (out : Str) (ho : out.length ≤ 100000000000) :
    iter (fun rec => aprint_0 k rec kx) k ((s.rows.length : Int), 0, s, out) = (app out (listT rowT s.rows)).bind c := by
  have hl := List.all_eq_true.1 hok
  simp only [fuelS] at hk
  refine list_loop s.rows rowT (fun i acc => ((s.rows.length : Int), (i : Int), s, acc)) c (fun i hi acc rec => ?_) (fun acc rec => ?_) k (by omega) out ho
  · have hm := sum_mem (List.getElem_mem hi)
    have hrow : ∀ q : Str, ((app q [40]).bind fun x8 => iter (fun rc => aprint_1 rc (fun e v => match v with
        | (_, _, v6, v7, _) => match e with
          | .exit 0 => (app v7 [41]).bind fun x11 => rec ((s.rows.length : Int), ((i + 1 : Nat) : Int), v6, x11)
          | _ => none)) k ((s.rows[i].length : Int), 0, s, x8, (i : Int))) = (app q (rowT s.rows[i])).bind fun x => rec ((s.rows.length : Int), ((i + 1 : Nat) : Int), s, x) := fun q => by
      refine (app_congr fun x hx => aprint_1_loop (c := fun acc => (app acc [41]).bind fun x11 => rec ((s.rows.length : Int), ((i + 1 : Nat) : Int), s, x11)) hi (hb.rows.2 _ (List.getElem_mem hi)).1 (hl _ (List.getElem_mem hi)) (fun _ => rfl) k (by omega) x hx).trans ?_
      simp only [app_cont, rowT]
    simp only [aprint_0, lt_t hi, cond_t, inb_t hi, chk, at_nat (c := .exprs) hi, wr_succ hi hb.rows.1, ww, fl1]
    refine Eq.trans ?_ (sep_step i acc _ _)
    have e : ∀ (b : Bool) (x y x' y' : Option R), x = x' → y = y' → cond b x y = cond b x' y' := fun _ _ _ _ _ h1 h2 => by rw [h1, h2]
    exact e _ _ _ _ _ (app_congr fun x _ => hrow x) (hrow acc)
  · simp only [aprint_0, lt_n, cond_f, h2]
theorem aprint_2_loop {R : Type} {kx : Ex → aprint_2_V → Option R} {s : Stm} {c : Str → Option R} (hb : BdStm s) (hok : (s.sets.all fun x => okx x.e) = true) (h2 : ∀ acc, kx (.exit 0) ((s.sets.length : Int), (s.sets.length : Int), s, acc) = c acc) (k : Nat) (hk : s.sets.length < k) (out : Str) (ho : out.length ≤ 100000000000) :
    iter (fun rec => aprint_2 rec kx) k ((s.sets.length : Int), 0, s, out) = (app out (listT setT s.sets)).bind c := by
  have hl := List.all_eq_true.1 hok
  refine list_loop s.sets setT (fun i acc => ((s.sets.length : Int), (i : Int), s, acc)) c (fun i hi acc rec => ?_) (fun acc rec => ?_) k hk out ho
  · simp only [aprint_2, lt_t hi, cond_t, inb_t hi, chk, at_nat (c := .set) hi, xeta_eq, we (hl _ (List.getElem_mem hi)), wr_succ hi hb.sets.1, ww, fl1, fl2]
    have hitem : ∀ q : Str, ((app q (s.sets[i].name ++ [32, 61, 32])).bind fun x14 => (app x14 (etx s.sets[i].e)).bind fun x15 => rec ((s.sets.length : Int), ((i + 1 : Nat) : Int), s, x15)) = (app q (setT s.sets[i])).bind fun x => rec ((s.sets.length : Int), ((i + 1 : Nat) : Int), s, x) := fun q => by
      rw [app_cont]
      rfl
    simp only [hitem]
    exact sep_step i acc _ _
  · simp only [aprint_2, lt_n, cond_f, h2]
theorem bs (x : Str) : ((bstr_F x).bind fun t => some (t, (0 : Int))) = some (x, 0) := rfl
theorem aprint_b (k : Nat) (s : Stm) (hb : BdStm s) (hk : fuelS s ≤ k) (h : okP s = true) (hc : acheck s = some 0) : aprint_body k s = ((app [] (printT s)).bind fun t => some (t, 0)) := by
  have hk2 := hk
  simp only [fuelS] at hk2
  simp only [aprint_body, hc, Option.bind_some, bs, ww, fl2, fl3, fl5]
  simp only [okP] at h
  simp only [printT]
  rw [decide_true, Bool.not_true, cond_f]
  by_cases h1 : s.kind = 1
  · rw [if_pos h1] at h
    rw [decide_eq_true h1, if_pos h1, cond_t, wt h]
  rw [if_neg h1] at h
  rw [decide_eq_false h1, if_neg h1, cond_f]
  by_cases h2 : s.kind = 2
  · rw [decide_eq_true h2, if_pos h2, cond_t]
  rw [decide_eq_false h2, if_neg h2, cond_f]
  by_cases h3 : s.kind = 3
  · rw [if_neg (by omega), if_pos h3] at h
    rw [decide_eq_true h3, if_pos h3, cond_t]
    simp only [wn h, app_cont]
  rw [decide_eq_false h3, if_neg h3, cond_f]
  by_cases h4 : s.kind = 4
  · rw [decide_eq_true h4, if_pos h4, cond_t]
  rw [if_neg (by omega), if_neg h3] at h
  rw [decide_eq_false h4, if_neg h4, cond_f]
  by_cases h5 : s.kind = 5
  · rw [if_pos h5] at h
    rw [decide_eq_true h5, if_pos h5, cond_t]
    refine (app_congr fun x hx => aprint_0_loop (c := fun t => some (t, (0 : Int))) hb h (fun _ => rfl) k hk x hx).trans ?_
    rw [app_cont]
  rw [if_neg h5] at h
  rw [decide_eq_false h5, if_neg h5, cond_f]
  by_cases h6 : s.kind = 6
  · rw [if_pos h6, Bool.and_eq_true] at h
    rw [decide_eq_true h6, if_pos h6, cond_t]
    refine (app_congr fun x hx => aprint_2_loop (c := fun t => (app t (whT s)).bind fun t => some (t, (0 : Int))) hb h.1 (fun acc => ?_) k (by omega) x hx).trans ?_
    · show ((wwhere_F (s, acc)).bind fun x16 => some (x16, (0 : Int))) = _
      rw [wh h.2]
    · simp only [app_cont, List.append_assoc]
  rw [if_neg h6] at h
  rw [decide_eq_false h6, if_neg h6, cond_f]
  by_cases h7 : s.kind = 7
  · rw [if_pos h7] at h
    rw [decide_eq_true h7, if_pos h7, cond_t]
    simp only [wh h, app_cont]
  rw [if_neg h7, Bool.and_eq_true, decide_eq_true_eq] at h
  rw [decide_eq_false h7, if_neg h7, cond_f, decide_eq_true h.1, cond_t, ws h.2]
theorem aprint_ok : FnOk Tryz.prog elT glT 23 [.sv .stmt] [.str, .int .i64] aprint_F := .fin 0 aprint_run fun s r hb hx => ⟨fuelS s, by
  have hx : aprint s = some r := hx
  simp only [aprint] at hx
  cases hc : acheck s with
  | none => rw [hc] at hx; cases hx
  | some x =>
    rw [hc, Option.bind_some] at hx
    by_cases h0 : x = 0
    · subst h0
      cases ho : okP s with
      | false => rw [ho] at hx; cases hx
      | true =>
        rw [ho] at hx
        exact (aprint_b (fuelS s) s hb (Nat.le_refl _) ho hc).trans hx
    · rw [decide_eq_false h0] at hx
      rw [← hx]
      simp only [aprint_body, hc, Option.bind_some]
      rw [decide_eq_false h0]
      rfl⟩
end Go.Proofs.YthndhaolemgbdaaGreatDoor

/- The document's answer: may a value be. -/
namespace Go.Proofs.YthndhaolemgbdaaGreatDoor
open Go.Ax
theorem vcheck_iff {v : Val} : vcheck v = 0 ↔ vright v = true := by
  simp only [vcheck]
  cases vright v <;> simp
/-! ## exchequer/exchequerref02.Check -/
def rcheck_0_sg : Sig := ⟨88, [(2, .int .i64), (5, .int .i64)], [(1, .ptr 0 0)], [(0, .one (.sv .val))], 1, 0, 0, [], []⟩
abbrev rcheck_0_V := Int × Int × Val
def rcheck_0 {R : Type} (rec : rcheck_0_V → Option R) (kx : Ex → rcheck_0_V → Option R) (v : rcheck_0_V) : Option R := match v with
 | (v1, v2, w) =>
  cond (decide (v2 < (w.s.length : Int))) (
   cond (decide (w.kind = 4)) (
    chk (inb v2 w.s.length) (
     cond (decide ((bat w.s v2) < 32)) (
      kx .ret (2, v2, w)) (
      chk (inb v2 w.s.length) (
       cond (decide (127 ≤ (bat w.s v2))) (
        kx .ret (2, v2, w)) (
        rec (v1, (wr .i64 (v2 + 1)), w)))))) (
    kx (.exit 0) (v1, v2, w))) (
   kx (.exit 0) (v1, v2, w))
def rcheck_px (R : Type) (k : Nat) : Px R := ⟨ttOf ttL, glT, callT [], callQT [], loopT [(6, loopOr k rcheck_0_sg (rcheck_0))]⟩
theorem rcheck_0_eq (R : Type) (k : Nat) : ∀ (fr : List Fr) (rec : rcheck_0_V → Option R) (kx : Ex → rcheck_0_V → Option R) (v : rcheck_0_V), round (rcheck_px R k) rcheck_0_sg (lp Tryz.f101 0) fr rec kx v = rcheck_0 rec kx v
  | fr, rec, kx, (v1, v2, w) => by kernel_rfl
def rcheck_body (k : Nat) (x : HV [.sv .val]) : Option (HV [.int .i64]) := match x with
 | v =>
  let j4 := fun (p4 : Bool) =>
   let j3 := fun (p6 : Bool) =>
    let j2 := fun (_ : Unit) =>
     iter (fun rec => rcheck_0 rec (fun e vz => match vz with | (v3, _, _) => match e with
      | .ret =>
       some v3
      | .exit 0 =>
       some 0
      | _ => none)) k (0, 0, v)
    let j1 := fun (p7 : Bool) =>
     let j := fun (p9 : Bool) =>
      cond (p9) (
       some 2) (
       cond (!p6) (
        cond (!decide (v.s = [])) (
         some 2) (
         cond (decide (1000 < (v.s.length : Int))) (
          some 2) (
          j2 ()))) (
        cond (decide (1000 < (v.s.length : Int))) (
         some 2) (
         j2 ())))
     cond (p7) (
      j true) (
      cond (!p4) (
       j (!decide (v.n = 0))) (
       j false))
    cond (decide (v.kind < 1)) (
     j1 true) (
     j1 (decide (5 < v.kind)))
   cond (decide (v.kind = 4)) (
    j3 true) (
    j3 (decide (v.kind = 5)))
  cond (decide (v.kind = 2)) (
   cond (decide (v.n = 0)) (
    j4 true) (
    cond (decide (v.n = 1)) (
     j4 true) (
     j4 (decide (v.kind = 3))))) (
   j4 (decide (v.kind = 3)))
theorem rcheck_eq (k : Nat) : ∀ (x : HV [.sv .val]), runF (rcheck_px _ k) Tryz.f101 [.sv .val] [.int .i64] x some = rcheck_body k x
  | v => by kernel_rfl
theorem rcheck_run (k : Nat) : FnOk Tryz.prog elT glT 101 [.sv .val] [.int .i64] (rcheck_body k) := by
  refine fnOk_run Tryz.func101 rfl (by kernel_rfl) follows (by kernel_rfl) (n := 1) (by kernel_rfl) (px := rcheck_px _ k) (fun cx hP hel hgl => ?_) (rcheck_eq k)
  have hp0 : PxOk cx (rcheck_px (HV [.int .i64]) k) := ⟨fun t => by rw [hP, hel]; exact tt_ok ttL_ok t, by rw [hgl]; rfl⟩
  have hc0 : CallOk cx (rcheck_px (HV [.int .i64]) k) := callT_ok rfl cfs_nil
  have hq0 : CallQOk cx (rcheck_px (HV [.int .i64]) k) := callQT_ok rfl cqfs_nil
  have hlrcheck_0 : LoopOk cx (rcheck_px (HV [.int .i64]) k) (lp Tryz.f101 0) := loop_ok hp0 hc0 hq0 (by rw [hP]; exact follows) (k := k) (s := rcheck_0_sg) (step := rcheck_0) (fun _ _ => by kernel_rfl) (by kernel_rfl) (rcheck_0_eq _ k) (loops_in (n := 0) (by kernel_rfl) all0)
  exact ⟨hp0, hc0, hq0, (allS all0 hlrcheck_0)⟩
abbrev rcheck (v : Val) : Int := vcheck v
def rcheck_F : FT [.sv .val] [.int .i64] := fun x => some (rcheck x)
theorem rcheck_loop {R : Type} {kx : Ex → rcheck_0_V → Option R} {v : Val} {a b : Option R} (hn : ln v.s.length) (h4 : v.kind = 4) (h1 : ∀ j, kx .ret (2, j, v) = a) (h2 : ∀ q j, kx (.exit 0) (q, j, v) = b) : ∀ (k i : Nat) q, i ≤ v.s.length → v.s.length - i < k → iter (fun rec => rcheck_0 rec kx) k (q, (i : Int), v) = cond ((v.s.drop i).all vis) b a
  | 0, i, q, _, h => by omega
  | k + 1, i, q, hi, h => by
    rw [iter_s]
    by_cases hl : i < v.s.length
    · have ih := rcheck_loop hn h4 h1 h2 k (i + 1) q (by omega) (by omega)
      simp only [rcheck_0, wr_succ hl hn, ih, h1, drop_cons hl, bat_nat hl, inb_t hl, List.all_cons, chk, cond_t, Bool.cond_decide]
      rw [if_pos (by omega), if_pos h4]
      simp only [vis]
      split
      · rw [decide_eq_false (by omega)]; rfl
      · split
        · rw [decide_eq_true (by omega), decide_eq_false (by omega)]; rfl
        · rw [decide_eq_true (by omega), decide_eq_true (by omega)]; rfl
    · simp only [rcheck_0, h2, Bool.cond_decide]
      rw [if_neg (by omega), List.drop_eq_nil_of_le (by omega)]
      rfl
theorem rcheck_no {R : Type} {kx : Ex → rcheck_0_V → Option R} {v : Val} {b : Option R} (h4 : ¬ v.kind = 4) (h2 : kx (.exit 0) (0, 0, v) = b) (k : Nat) : iter (fun rec => rcheck_0 rec kx) (k + 1) (0, 0, v) = b := by
  rw [iter_s]
  simp only [rcheck_0, h2, Bool.cond_decide, if_neg h4]
  split <;> rfl
theorem rcheck_ok : FnOk Tryz.prog elT glT 101 [.sv .val] [.int .i64] rcheck_F := .fin 0 rcheck_run fun v r hb hx => ⟨v.s.length + 1, by
  simp only [rcheck_F, Option.some.injEq] at hx
  subst hx
  have e0 : ((0 : Nat) : Int) = 0 := rfl
  have hloop : iter (fun rec => rcheck_0 rec (fun e v => match v with | (v2, _, _) => match e with
      | .ret => some v2
      | .exit 0 => some 0
      | _ => none)) (v.s.length + 1) (0, 0, v) = cond (decide (v.kind = 4) && !visible v.s) (some (2 : Int)) (some 0) := by
    by_cases h4 : v.kind = 4
    · have := rcheck_loop (a := some (2 : Int)) (b := some 0) hb.2.2 h4 (kx := fun e v => match v with | (v2, _, _) => match e with
        | .ret => some v2
        | .exit 0 => some 0
        | _ => none) (fun _ => rfl) (fun _ _ => rfl) (v.s.length + 1) 0 0 (Nat.zero_le _) (by omega)
      rw [e0] at this
      rw [this, decide_eq_true h4, List.drop_zero, visible]
      cases v.s.all vis <;> rfl
    · rw [rcheck_no (b := some 0) h4 rfl, decide_eq_false h4]
      rfl
  simp only [rcheck_body] at hloop ⊢
  rw [hloop]
  have hlen : v.s = [] → ¬ (1000 < (v.s.length : Int)) := fun h => by rw [h]; simp
  have hle : decide ((v.s.length : Int) ≤ 1000) = !decide (1000 < (v.s.length : Int)) := by
    by_cases h : 1000 < (v.s.length : Int)
    · rw [decide_eq_true h, decide_eq_false (by omega)]; rfl
    · rw [decide_eq_false h, decide_eq_true (by omega)]; rfl
  have hs : decide (v.s = []) = true → decide (1000 < (v.s.length : Int)) = false := fun h => decide_eq_false (hlen (of_decide_eq_true h))
  simp only [vcheck, vright, hle]
  generalize decide (1000 < (v.s.length : Int)) = q at *
  generalize decide (v.s = []) = s at *
  generalize visible v.s = w at *
  by_cases hk : v.kind = 1
  · simp only [hk]; cases decide (v.n = 0) <;> cases s <;> simp_all
  by_cases hk2 : v.kind = 2
  · simp only [hk2]; cases decide (v.n = 0) <;> cases decide (v.n = 1) <;> cases s <;> simp_all
  by_cases hk3 : v.kind = 3
  · simp only [hk3]; cases decide (v.n = 0) <;> cases decide (v.n = 1) <;> cases s <;> simp_all
  by_cases hk4 : v.kind = 4
  · simp only [hk4]; cases decide (v.n = 0) <;> cases w <;> cases q <;> simp_all
  by_cases hk5 : v.kind = 5
  · simp only [hk5]; cases decide (v.n = 0) <;> cases q <;> simp_all
  rw [decide_eq_false hk, decide_eq_false hk2, decide_eq_false hk3, decide_eq_false hk4, decide_eq_false hk5]
  by_cases hl : v.kind < 1
  · rw [decide_eq_true hl]; rfl
  · rw [decide_eq_false hl, decide_eq_true (show 5 < v.kind by omega)]; rfl⟩
end Go.Proofs.YthndhaolemgbdaaGreatDoor

/- The document's answer: the names in an expression; what is fixed in the heads of chapter 13's laws. -/
namespace Go.Proofs.YthndhaolemgbdaaGreatDoor
open Go.Ax
/-! ## exchequer/exchequerref13.Has -/
def rhas_0_sg : Sig := ⟨18, [(0, .sl .str false), (1, .str), (4, .bool), (5, .int .i64)], [], [], 0, 0, 0, [], []⟩
abbrev rhas_0_V := List Str × Str × Bool × Int
def rhas_0 {R : Type} (rec : rhas_0_V → Option R) (kx : Ex → rhas_0_V → Option R) (v : rhas_0_V) : Option R := match v with
 | (v, v1, v2, v3) =>
  cond (decide (v3 < (v.length : Int))) (
   chk (inb v3 v.length) (
    cond (decide ((at' .str v v3) = v1)) (
     kx .ret (v, v1, true, v3)) (
     rec (v, v1, v2, (wr .i64 (v3 + 1)))))) (
   kx (.exit 0) (v, v1, v2, v3))
def rhas_px (R : Type) (k : Nat) : Px R := ⟨ttOf ttL, glT, callT [], callQT [], loopT [(2, loopOr k rhas_0_sg (rhas_0))]⟩
theorem rhas_0_eq (R : Type) (k : Nat) : ∀ (fr : List Fr) (rec : rhas_0_V → Option R) (kx : Ex → rhas_0_V → Option R) (v : rhas_0_V), round (rhas_px R k) rhas_0_sg (lp Tryz.f45 0) fr rec kx v = rhas_0 rec kx v
  | fr, rec, kx, (v, v1, v2, v3) => by kernel_rfl
def rhas_body (k : Nat) (x : HV [.sl .str false, .str]) : Option (HV [.bool]) := match x with
 | (l, s) =>
  iter (fun rec => rhas_0 rec (fun e vz => match vz with | (_, _, v6, _) => match e with
   | .ret =>
    some v6
   | .exit 0 =>
    some false
   | _ => none)) k (l, s, false, 0)
theorem rhas_eq (k : Nat) : ∀ (x : HV [.sl .str false, .str]), runF (rhas_px _ k) Tryz.f45 [.sl .str false, .str] [.bool] x some = rhas_body k x
  | (l, s) => by kernel_rfl
theorem rhas_run (k : Nat) : FnOk Tryz.prog elT glT 45 [.sl .str false, .str] [.bool] (rhas_body k) := by
  refine fnOk_run Tryz.func45 rfl (by kernel_rfl) follows (by kernel_rfl) (n := 1) (by kernel_rfl) (px := rhas_px _ k) (fun cx hP hel hgl => ?_) (rhas_eq k)
  have hp0 : PxOk cx (rhas_px (HV [.bool]) k) := ⟨fun t => by rw [hP, hel]; exact tt_ok ttL_ok t, by rw [hgl]; rfl⟩
  have hc0 : CallOk cx (rhas_px (HV [.bool]) k) := callT_ok rfl cfs_nil
  have hq0 : CallQOk cx (rhas_px (HV [.bool]) k) := callQT_ok rfl cqfs_nil
  have hlrhas_0 : LoopOk cx (rhas_px (HV [.bool]) k) (lp Tryz.f45 0) := loop_ok hp0 hc0 hq0 (by rw [hP]; exact follows) (k := k) (s := rhas_0_sg) (step := rhas_0) (fun _ _ => by kernel_rfl) (by kernel_rfl) (rhas_0_eq _ k) (loops_in (n := 0) (by kernel_rfl) all0)
  exact ⟨hp0, hc0, hq0, (allS all0 hlrhas_0)⟩
def rhas (l : List Str) (s : Str) : Bool := l.contains s
def rhas_F : FT [.sl .str false, .str] [.bool] := fun x => some (rhas x.1 x.2)
theorem rhas_loop {R : Type} {kx : Ex → rhas_0_V → Option R} {l : List Str} {s : Str} {c : Bool → Option R} (hn : ln l.length) (h1 : ∀ i, kx .ret (l, s, true, i) = c true) (h2 : ∀ q i, kx (.exit 0) (l, s, q, i) = c false) (k : Nat) (hk : l.length < k) :
    iter (fun rec => rhas_0 rec kx) k (l, s, false, 0) = c (l.contains s) := by
  refine (iter_ind0 l.length (fun i => (l, s, false, (i : Int))) (fun i => c ((l.drop i).contains s)) (fun i hi rec hr => ?_) (fun rec => ?_) k 0 (Nat.zero_le _) (by omega)).trans (by rw [List.drop_zero])
  · simp only [rhas_0, lt_t hi, cond_t, inb_t hi, chk, at_nat (c := .str) hi, wr_succ hi hn, hr, h1, drop_cons hi, List.contains_cons]
    by_cases h : l[i] = s
    · rw [decide_eq_true h, h]
      simp
    · have hf : (s == l[i]) = false := beq_eq_false_iff_ne.2 (fun e => h e.symm)
      rw [decide_eq_false h, hf]
      rfl
  · simp only [rhas_0, lt_n, cond_f, h2]
    rw [List.drop_eq_nil_of_le (Nat.le_refl _)]
    rfl
theorem rhas_ok : FnOk Tryz.prog elT glT 45 [.sl .str false, .str] [.bool] rhas_F := .fin 0 rhas_run fun (l, s) r hb hx => ⟨l.length + 1, by
  simp only [rhas_F, Option.some.injEq] at hx
  rw [← hx]
  simp only [rhas_body]
  exact rhas_loop (c := some) hb.1.1 (fun _ => rfl) (fun _ _ => rfl) (l.length + 1) (by omega)⟩
/-! ## names, added to others -/
theorem mem_addN {out : List Str} {m x : Str} (h : x ∈ out) : x ∈ addN out m := by
  simp only [addN]
  split
  · exact h
  · exact List.mem_append_left _ h
theorem addN_self (out : List Str) (m : Str) : m ∈ addN out m := by
  simp only [addN]
  split
  · rename_i h
    exact List.contains_iff_mem.1 h
  · simp
theorem fold_keep : ∀ (acc out : List Str) {x : Str}, x ∈ out → x ∈ acc.foldl addN out
  | [], _, _, h => h
  | y :: acc, out, _, h => fold_keep acc (addN out y) (mem_addN h)
theorem fold_mem : ∀ (acc out : List Str) {x : Str}, x ∈ acc → x ∈ acc.foldl addN out
  | y :: acc, out, x, h => by
    rcases List.mem_cons.1 h with rfl | h
    · exact fold_keep acc _ (addN_self _ _)
    · exact fold_mem acc _ h
theorem addN_no {out : List Str} {m : Str} (h : m ∈ out) : addN out m = out := by
  simp only [addN]
  rw [if_pos (List.contains_iff_mem.2 h)]
theorem fold_addN (acc out : List Str) (y : Str) : (addN acc y).foldl addN out = addN (acc.foldl addN out) y := by
  by_cases h : y ∈ acc
  · rw [addN_no h, addN_no (fold_mem acc out h)]
  · have e : addN acc y = acc ++ [y] := by
      simp only [addN]
      rw [if_neg (fun q => h (List.contains_iff_mem.1 q))]
    rw [e, List.foldl_append]
    rfl
mutual
theorem nwalk_fold : ∀ (e : Xpr) (acc out : List Str), nwalk e (acc.foldl addN out) = (nwalk e acc).foldl addN out
  | .mk k v n l, acc, out => by
    simp only [nwalk]
    split
    · rw [← fold_addN, nwalks_fold l]
    · rw [nwalks_fold l]
theorem nwalks_fold : ∀ (l : List Xpr) (acc out : List Str), nwalks l (acc.foldl addN out) = (nwalks l acc).foldl addN out
  | [], _, _ => rfl
  | x :: l, acc, out => by
    simp only [nwalks]
    rw [nwalk_fold x, nwalks_fold l]
end
/-! ## exchequer/exchequerref13.Names -/
def rnames_1_sg : Sig := ⟨49, [(3, .sl .str true), (4, .int .i64), (5, .sl .str true), (6, .int .i64)], [(1, .ptr 0 0)], [(0, .one (.sv .expr))], 1, 0, 0, [], []⟩
abbrev rnames_1_V := List Str × Int × List Str × Int × Xpr
def rnames_1 {R : Type} (rec : rnames_1_V → Option R) (kx : Ex → rnames_1_V → Option R) (v : rnames_1_V) : Option R := match v with
 | (v2, v3, v4, v5, w1) =>
  cond (decide (v5 < (v4.length : Int))) (
   chk (inb v5 v4.length) (
    cond (!(rhas v2 (at' .str v4 v5))) (
     chk (inb v5 v4.length) (
      chk (decide (v2.length + 1 ≤ maxApp)) (
       rec ((v2 ++ [(at' .str v4 v5)]), v3, v4, (wr .i64 (v5 + 1)), w1)))) (
     rec (v2, v3, v4, (wr .i64 (v5 + 1)), w1)))) (
   kx (.exit 2) (v2, v3, v4, v5, w1))
def rnames_0_sg : Sig := ⟨49, [(3, .sl .str true), (4, .int .i64)], [(1, .ptr 0 0)], [(0, .one (.sv .expr))], 1, 0, 0, [], []⟩
abbrev rnames_0_V := List Str × Int × Xpr
def rnames_0 {R : Type} (k : Nat) (rf : FT [.sv .expr] [.sl .str true]) (rec : rnames_0_V → Option R) (kx : Ex → rnames_0_V → Option R) (v : rnames_0_V) : Option R := match v with
 | (v, v1, w) =>
  cond (decide (v1 < (w.l.length : Int))) (
   chk (inb v1 w.l.length) (
    (rf (at' .expr w.l v1)).bind fun x =>
     iter (fun rc => rnames_1 rc (fun e vz => match vz with | (v6, v7, _, _, v10) => match e with
      | .exit 2 =>
       rec (v6, (wr .i64 (v7 + 1)), v10)
      | _ => none)) k (v, v1, x, 0, w))) (
   kx (.exit 0) (v, v1, w))
def rnames_px (R : Type) (k : Nat) (rf : FT [.sv .expr] [.sl .str true]) : Px R := ⟨ttOf ttL, glT, callT [(17, callOr [.sv .expr] [.sl .str true] rf), (45, callOr [.sl .str false, .str] [.bool] rhas_F)], callQT [], loopT [(9, loopOr k rnames_1_sg (rnames_1)), (5, loopOr k rnames_0_sg (rnames_0 k rf))]⟩
theorem rnames_1_eq (R : Type) (k : Nat) (rf : FT [.sv .expr] [.sl .str true]) : ∀ (fr : List Fr) (rec : rnames_1_V → Option R) (kx : Ex → rnames_1_V → Option R) (v : rnames_1_V), round (rnames_px R k rf) rnames_1_sg (lpC (lp Tryz.f17 0) 0) fr rec kx v = rnames_1 rec kx v
  | fr, rec, kx, (v2, v3, v4, v5, w1) => by kernel_rfl
theorem rnames_0_eq (R : Type) (k : Nat) (rf : FT [.sv .expr] [.sl .str true]) : ∀ (fr : List Fr) (rec : rnames_0_V → Option R) (kx : Ex → rnames_0_V → Option R) (v : rnames_0_V), round (rnames_px R k rf) rnames_0_sg (lp Tryz.f17 0) fr rec kx v = rnames_0 k rf rec kx v
  | fr, rec, kx, (v, v1, w) => by kernel_rfl
def rnames_body (k : Nat) (rf : FT [.sv .expr] [.sl .str true]) (x : HV [.sv .expr]) : Option (HV [.sl .str true]) := match x with
 | e =>
  let j := fun (p : List Str) =>
   iter (fun rec => rnames_0 k rf rec (fun e vz => match vz with | (v11, _, _) => match e with
    | .exit 0 =>
     some v11
    | _ => none)) k (p, 0, e)
  cond (decide (e.kind = 2)) (
   j [e.name]) (
   j [])
theorem rnames_eq (k : Nat) (rf : FT [.sv .expr] [.sl .str true]) : ∀ (x : HV [.sv .expr]), runF (rnames_px _ k rf) Tryz.f17 [.sv .expr] [.sl .str true] x some = rnames_body k rf x
  | e => by kernel_rfl
theorem rnames_run (k : Nat) (rf : FT [.sv .expr] [.sl .str true]) (hrf : FnOk Tryz.prog elT glT 17 [.sv .expr] [.sl .str true] rf) : FnOk Tryz.prog elT glT 17 [.sv .expr] [.sl .str true] (rnames_body k rf) := by
  refine fnOk_run Tryz.func17 rfl (by kernel_rfl) follows (by kernel_rfl) (n := 2) (by kernel_rfl) (px := rnames_px _ k rf) (fun cx hP hel hgl => ?_) (rnames_eq k rf)
  have hp0 : PxOk cx (rnames_px (HV [.sl .str true]) k rf) := ⟨fun t => by rw [hP, hel]; exact tt_ok ttL_ok t, by rw [hgl]; rfl⟩
  have hc0 : CallOk cx (rnames_px (HV [.sl .str true]) k rf) := callT_ok rfl (cfs_cons (cf_or (by rw [hP, hel, hgl]; exact hrf) (by kernel_rfl)) (cfs_cons (cf_or (by rw [hP, hel, hgl]; exact rhas_ok) (by kernel_rfl)) cfs_nil))
  have hq0 : CallQOk cx (rnames_px (HV [.sl .str true]) k rf) := callQT_ok rfl cqfs_nil
  have hlrnames_1 : LoopOk cx (rnames_px (HV [.sl .str true]) k rf) (lpC (lp Tryz.f17 0) 0) := loop_ok hp0 hc0 hq0 (by rw [hP]; exact follows) (k := k) (s := rnames_1_sg) (step := rnames_1) (fun _ _ => by kernel_rfl) (by kernel_rfl) (rnames_1_eq _ k rf) (loops_in (n := 0) (by kernel_rfl) all0)
  have hlrnames_0 : LoopOk cx (rnames_px (HV [.sl .str true]) k rf) (lp Tryz.f17 0) := loop_ok hp0 hc0 hq0 (by rw [hP]; exact follows) (k := k) (s := rnames_0_sg) (step := rnames_0 k rf) (fun _ _ => by kernel_rfl) (by kernel_rfl) (rnames_0_eq _ k rf) (loops_in (n := 1) (by kernel_rfl) (allS all0 hlrnames_1))
  exact ⟨hp0, hc0, hq0, (allS (allS all0 hlrnames_0) hlrnames_1)⟩
def rnames (e : Xpr) : Option (List Str) := if esize e ≤ 1000000 then some (nwalk e []) else none
def rnames_F : FT [.sv .expr] [.sl .str true] := fun x => rnames x
theorem rnames_1_loop {R : Type} {kx : Ex → rnames_1_V → Option R} {m : List Str} {j : Int} {w : Xpr} {c : List Str → Option R} (hn : ln m.length) (h2 : ∀ out i, kx (.exit 2) (out, j, m, i, w) = c out) (k : Nat) (hk : m.length < k) (out : List Str) (ho : out.length + m.length ≤ 1000000) :
    iter (fun rec => rnames_1 rec kx) k (out, j, m, 0, w) = c (m.foldl addN out) := by
  refine (iter_ind m.length (fun i out => (out, j, m, (i : Int), w)) (fun i out => List.length out + (m.length - i) ≤ 1000000) (fun i out => c ((m.drop i).foldl addN out)) (fun i hi out ha rec hr => ?_) (fun out _ rec => ?_) k 0 out (Nat.zero_le _) (by omega) (by omega)).trans (by rw [List.drop_zero])
  · have hr := hr (addN out m[i]) (by have := addN_len out m[i]; omega)
    simp only [rnames_1, lt_t hi, cond_t, inb_t hi, chk, at_nat (c := .str) hi, wr_succ hi hn, drop_cons hi, List.foldl_cons, rhas, ← hr, decide_eq_true (show out.length + 1 ≤ maxApp by simp only [maxApp]; omega)]
    simp only [addN]
    cases out.contains m[i] <;> rfl
  · simp only [rnames_1, lt_n, cond_f, h2]
    rw [List.drop_eq_nil_of_le (Nat.le_refl _)]
    rfl
theorem rnames_0_loop {R : Type} {rf : FT [.sv .expr] [.sl .str true]} {kx : Ex → rnames_0_V → Option R} {w : Xpr} {c : List Str → Option R} (hn : ln w.l.length) (hrf : ∀ x, x ∈ w.l → rf x = some (nwalk x [])) (h2 : ∀ out i, kx (.exit 0) (out, i, w) = c out) (k : Nat) (hk : esizes w.l < k) (out : List Str) (ho : out.length + esizes w.l ≤ 1000000) :
    iter (fun rec => rnames_0 k rf rec kx) k (out, 0, w) = c (nwalks w.l out) := by
  have hl := esizes_len w.l
  refine (iter_ind w.l.length (fun i out => (out, (i : Int), w)) (fun i out => List.length out + esizes (w.l.drop i) ≤ 1000000) (fun i out => c (nwalks (w.l.drop i) out)) (fun i hi out ha rec hr => ?_) (fun out _ rec => ?_) k 0 out (Nat.zero_le _) (by omega) (by rw [List.drop_zero]; exact ho)).trans (by rw [List.drop_zero])
  · have hd := esizes_drop hi
    have hm := esize_mem (List.getElem_mem hi)
    have hx := nwalk_len w.l[i] []
    have ho := nwalk_len w.l[i] out
    simp only [List.length_nil] at hx
    have hr := hr (nwalk w.l[i] out) (by omega)
    simp only [rnames_0, lt_t hi, cond_t, inb_t hi, chk, at_nat (c := .expr) hi, hrf _ (List.getElem_mem hi), Option.bind_some, drop_cons hi, nwalks]
    refine (rnames_1_loop (c := fun o => rec (o, ((i + 1 : Nat) : Int), w)) (by simp only [ln]; omega) (fun o q => by simp only [wr_succ hi hn]) k (by omega) out (by omega)).trans ?_
    have e := nwalk_fold w.l[i] [] out
    rw [List.foldl_nil] at e
    rw [← e]
    exact hr
  · simp only [rnames_0, lt_n, cond_f, h2]
    rw [List.drop_eq_nil_of_le (Nat.le_refl _)]
    rfl
theorem rnames_all (k : Nat) : ∀ (n : Nat) (e : Xpr), BdExpr e → esize e ≤ n → esize e ≤ k → esize e ≤ 1000000 → iter (rnames_body k) n e = some (nwalk e [])
  | 0, e, _, h, _, _ => by have := esize_pos e; omega
  | n + 1, e, hb, h, hk, ho => by
    obtain ⟨hb4, hb5⟩ := bd_ls hb
    rw [esize_eq] at h hk ho
    have hrf : ∀ x, x ∈ e.l → iter (rnames_body k) n x = some (nwalk x []) := fun x hx => by
      have := esize_mem hx
      exact rnames_all k n x (hb5 x hx) (by omega) (by omega) (by omega)
    have hloop := fun (q : List Str) (hq : q.length + esizes e.l ≤ 1000000) => rnames_0_loop (R := List Str) (rf := iter (rnames_body k) n) (w := e) (c := some) (kx := fun e v => match v with
      | (v11, _, _) => match e with
        | .exit 0 => some v11
        | _ => none) hb4 hrf (fun _ _ => rfl) k (by omega) q hq
    rw [iter_s, nwalk_un]
    simp only [rnames_body]
    by_cases h2 : e.kind = 2
    · have hq := hloop [e.name] (by simp only [List.length_cons, List.length_nil]; omega)
      rw [decide_eq_true h2, if_pos h2, cond_t]
      exact hq
    · have hq := hloop [] (by simp only [List.length_nil]; omega)
      rw [decide_eq_false h2, if_neg h2, cond_f]
      exact hq
theorem rnames_ok : FnOk Tryz.prog elT glT 17 [.sv .expr] [.sl .str true] rnames_F := by
  refine .fin (ι := Nat) 0 (F := fun n => iter (rnames_body n) n) (fun n => FnOk.rec' (Sx.enters_of Tryz.func17 rfl rfl) (fun rf hrf => rnames_run n rf hrf) n) fun e r hb hx => ⟨esize e, ?_⟩
  simp only [rnames_F, rnames] at hx
  split at hx
  · rename_i h
    exact (rnames_all (esize e) (esize e) e hb (Nat.le_refl _) (Nat.le_refl _) h).trans hx
  · cases hx
/-! ## exchequer/exchequerlaw13.name -/
def lnm_px (R : Type) : Px R := ⟨ttOf ttL, glT, callT [], callQT [], loopT []⟩
def lnm_body (x : HV [.str]) : Option (HV [.sv .expr]) := match x with
 | s =>
  some (Xpr.mk 2 ⟨0, 0, []⟩ s [])
theorem lnm_eq : ∀ (x : HV [.str]), runF (lnm_px _) Tryz.f38 [.str] [.sv .expr] x some = lnm_body x
  | s => by kernel_rfl
theorem lnm_run : FnOk Tryz.prog elT glT 38 [.str] [.sv .expr] (lnm_body) := by
  refine fnOk_run Tryz.func38 rfl (by kernel_rfl) follows (by kernel_rfl) (n := 0) (by kernel_rfl) (px := lnm_px _) (fun cx hP hel hgl => ?_) (lnm_eq)
  have hp0 : PxOk cx (lnm_px (HV [.sv .expr])) := ⟨fun t => by rw [hP, hel]; exact tt_ok ttL_ok t, by rw [hgl]; rfl⟩
  have hc0 : CallOk cx (lnm_px (HV [.sv .expr])) := callT_ok rfl cfs_nil
  have hq0 : CallQOk cx (lnm_px (HV [.sv .expr])) := callQT_ok rfl cqfs_nil
  exact ⟨hp0, hc0, hq0, all0⟩
def lnm (s : Str) : Xpr :=
  (Xpr.mk 2 ⟨0, 0, []⟩ s [])
theorem lnm_tot (x : HV [.str]) : lnm_body x = some (lnm x) := by
  first
    | exact rfl
    | simp only [lnm_body, lnm, cond_some]
def lnm_F : FT [.str] [.sv .expr] := fun x => some (lnm x)
theorem lnm_ok : FnOk Tryz.prog elT glT 38 [.str] [.sv .expr] lnm_F := .fin0 lnm_run fun x _ _ hx => (lnm_tot x).trans hx
/-! ## exchequer/exchequerlaw13.two -/
def ltwo_px (R : Type) : Px R := ⟨ttOf ttL, glT, callT [], callQT [], loopT []⟩
def ltwo_body (x : HV [.int .i64, .sv .expr, .sv .expr]) : Option (HV [.sv .expr]) := match x with
 | (kind, a, b) =>
  some (Xpr.mk kind ⟨0, 0, []⟩ [] [a, b])
theorem ltwo_eq : ∀ (x : HV [.int .i64, .sv .expr, .sv .expr]), runF (ltwo_px _) Tryz.f37 [.int .i64, .sv .expr, .sv .expr] [.sv .expr] x some = ltwo_body x
  | (kind, a, b) => by kernel_rfl
theorem ltwo_run : FnOk Tryz.prog elT glT 37 [.int .i64, .sv .expr, .sv .expr] [.sv .expr] (ltwo_body) := by
  refine fnOk_run Tryz.func37 rfl (by kernel_rfl) follows (by kernel_rfl) (n := 0) (by kernel_rfl) (px := ltwo_px _) (fun cx hP hel hgl => ?_) (ltwo_eq)
  have hp0 : PxOk cx (ltwo_px (HV [.sv .expr])) := ⟨fun t => by rw [hP, hel]; exact tt_ok ttL_ok t, by rw [hgl]; rfl⟩
  have hc0 : CallOk cx (ltwo_px (HV [.sv .expr])) := callT_ok rfl cfs_nil
  have hq0 : CallQOk cx (ltwo_px (HV [.sv .expr])) := callQT_ok rfl cqfs_nil
  exact ⟨hp0, hc0, hq0, all0⟩
def ltwo (kind : Int) (a : Xpr) (b : Xpr) : Xpr :=
  (Xpr.mk kind ⟨0, 0, []⟩ [] [a, b])
theorem ltwo_tot (x : HV [.int .i64, .sv .expr, .sv .expr]) : ltwo_body x = some (ltwo x.1 x.2.1 x.2.2) := by
  first
    | exact rfl
    | simp only [ltwo_body, ltwo, cond_some]
def ltwo_F : FT [.int .i64, .sv .expr, .sv .expr] [.sv .expr] := fun x => some (ltwo x.1 x.2.1 x.2.2)
theorem ltwo_ok : FnOk Tryz.prog elT glT 37 [.int .i64, .sv .expr, .sv .expr] [.sv .expr] ltwo_F := .fin0 ltwo_run fun x _ _ hx => (ltwo_tot x).trans hx
/-! ## exchequer/exchequerlaw13.known -/
def known13_px (R : Type) : Px R := ⟨ttOf ttL, glT, callT [(14, callOr [.sv .expr] [.str, .int .i64] atext_F), (38, callOr [.str] [.sv .expr] lnm_F), (23, callOr [.sv .stmt] [.str, .int .i64] aprint_F), (16, callOr [.sv .expr] [.sl .str true] anames_F), (18, callOr [.sv .expr] [.int .i64] aexpr_F), (20, callOr [.sv .expr, .sv .expr] [.bool] asame_F)], callQT [(38, callOrQ [.str] [.sv .expr] lnm_F), (37, callOrQ [.int .i64, .sv .expr, .sv .expr] [.sv .expr] ltwo_F)], loopT []⟩
def known13_body (x : HV []) : Option (HV [.bool]) := match x with
 | () =>
  (atext (ltwo 4 (ltwo 6 (lnm [97]) (Xpr.mk 1 ⟨3, 1, []⟩ [] [])) (Xpr.mk 3 ⟨0, 0, []⟩ [] [(lnm [98])]))).bind fun (x, x1) =>
   (aprint (Stm.mk 7 [116] [] [] [] [] [] [] true (xeta (lnm [98])) [] [] 0)).bind fun (x2, x3) =>
    (aprint (Stm.mk 0 [] [] [] [] [] [] [] false (Xpr.mk 0 ⟨0, 0, []⟩ [] []) [] [] 0)).bind fun (_, x5) =>
     (anames (ltwo 4 (ltwo 6 (lnm [97]) (Xpr.mk 1 ⟨3, 1, []⟩ [] [])) (Xpr.mk 3 ⟨0, 0, []⟩ [] [(lnm [98])]))).bind fun x6 =>
      let j5 := fun (p : Bool) =>
       let j4 := fun (p1 : Bool) =>
        let j3 := fun (p2 : Bool) =>
         let j2 := fun (p3 : Bool) =>
          let j1 := fun (p4 : Bool) =>
           let j := fun (p5 : Bool) =>
            cond (p5) (
             cond (decide ((aexpr (ltwo 4 (ltwo 6 (lnm [97]) (Xpr.mk 1 ⟨3, 1, []⟩ [] [])) (Xpr.mk 3 ⟨0, 0, []⟩ [] [(lnm [98])]))) = 0)) (
              some (asame (ltwo 4 (ltwo 6 (lnm [97]) (Xpr.mk 1 ⟨3, 1, []⟩ [] [])) (Xpr.mk 3 ⟨0, 0, []⟩ [] [(lnm [98])])) (ltwo 4 (ltwo 6 (lnm [97]) (Xpr.mk 1 ⟨3, 1, []⟩ [] [])) (Xpr.mk 3 ⟨0, 0, []⟩ [] [(lnm [98])])))) (
              some false)) (
             some false)
           cond (p4) (
            chk (inb 1 x6.length) (
             j (decide ((at' .str x6 1) = [98])))) (
            j false)
          cond (p3) (
           j1 (decide ((x6.length : Int) = 2))) (
           j1 false)
         cond (p2) (
          j2 (decide (x5 = 2))) (
          j2 false)
        cond (p1) (
         j3 (decide (x3 = 0))) (
         j3 false)
       cond (p) (
        j4 (decide (x2 = [68, 69, 76, 69, 84, 69, 32, 70, 82, 79, 77, 32, 116, 32, 87, 72, 69, 82, 69, 32, 98]))) (
        j4 false)
      cond (decide (x = [40, 40, 97, 32, 61, 32, 49, 41, 32, 65, 78, 68, 32, 40, 78, 79, 84, 32, 98, 41, 41])) (
       j5 (decide (x1 = 0))) (
       j5 false)
theorem known13_eq : ∀ (x : HV []), runF (known13_px _) Tryz.f13 [] [.bool] x some = known13_body x
  | () => by kernel_rfl
theorem known13_run : FnOk Tryz.prog elT glT 13 [] [.bool] (known13_body) := by
  refine fnOk_run Tryz.func13 rfl (by kernel_rfl) follows (by kernel_rfl) (n := 0) (by kernel_rfl) (px := known13_px _) (fun cx hP hel hgl => ?_) (known13_eq)
  have hp0 : PxOk cx (known13_px (HV [.bool])) := ⟨fun t => by rw [hP, hel]; exact tt_ok ttL_ok t, by rw [hgl]; rfl⟩
  have hc0 : CallOk cx (known13_px (HV [.bool])) := callT_ok rfl (cfs_cons (cf_or (by rw [hP, hel, hgl]; exact atext_ok) (by kernel_rfl)) (cfs_cons (cf_or (by rw [hP, hel, hgl]; exact lnm_ok) (by kernel_rfl)) (cfs_cons (cf_or (by rw [hP, hel, hgl]; exact aprint_ok) (by kernel_rfl)) (cfs_cons (cf_or (by rw [hP, hel, hgl]; exact anames_ok) (by kernel_rfl)) (cfs_cons (cf_or (by rw [hP, hel, hgl]; exact aexpr_ok) (by kernel_rfl)) (cfs_cons (cf_or (by rw [hP, hel, hgl]; exact asame_ok) (by kernel_rfl)) cfs_nil))))))
  have hq0 : CallQOk cx (known13_px (HV [.bool])) := callQT_ok rfl (cqfs_cons (cqf_or (by rw [hP, hel, hgl]; exact lnm_ok) (by kernel_rfl)) (cqfs_cons (cqf_or (by rw [hP, hel, hgl]; exact ltwo_ok) (by kernel_rfl)) cqfs_nil))
  exact ⟨hp0, hc0, hq0, all0⟩
def known13 : Bool := true
def known13_F : FT [] [.bool] := fun _ => some (known13)
theorem known13_b : known13_body () = some true := by kernel_rfl
theorem known13_ok : FnOk Tryz.prog elT glT 13 [] [.bool] known13_F := .fin0 known13_run fun x r hb hx => by cases x; exact known13_b.trans hx
end Go.Proofs.YthndhaolemgbdaaGreatDoor

/- The document's answer: names, signs. -/
namespace Go.Proofs.YthndhaolemgbdaaGreatDoor
open Go.Ax
/-! ## exchequer/exchequerref12.class -/
def rclass_0_sg : Sig := ⟨58, [(0, .int .u8), (2, .int .i64), (3, .str), (4, .int .i64)], [], [], 0, 0, 0, [], []⟩
abbrev rclass_0_V := Int × Int × Str × Int
def rclass_0 {R : Type} (rec : rclass_0_V → Option R) (kx : Ex → rclass_0_V → Option R) (v : rclass_0_V) : Option R := match v with
 | (v, v1, v2, v3) =>
  cond (decide (v3 < (v2.length : Int))) (
   chk (inb v3 v2.length) (
    cond (decide ((bat v2 v3) = v)) (
     kx .ret (v, 7, v2, v3)) (
     rec (v, v1, v2, (wr .i64 (v3 + 1)))))) (
   kx (.exit 1) (v, v1, v2, v3))
def rclass_px (R : Type) (k : Nat) : Px R := ⟨ttOf ttL, glT, callT [], callQT [], loopT [(15, loopOr k rclass_0_sg (rclass_0))]⟩
theorem rclass_0_eq (R : Type) (k : Nat) : ∀ (fr : List Fr) (rec : rclass_0_V → Option R) (kx : Ex → rclass_0_V → Option R) (v : rclass_0_V), round (rclass_px R k) rclass_0_sg (lp Tryz.f92 0) fr rec kx v = rclass_0 rec kx v
  | fr, rec, kx, (v, v1, v2, v3) => by kernel_rfl
def rclass_body (k : Nat) (x : HV [.int .u8]) : Option (HV [.int .i64]) := match x with
 | c =>
  let j3 : Bool → Option (HV [.int .i64]) := fun (p1 : Bool) =>
   cond (p1) (
    some 1) (
    let j2 : Bool → Option (HV [.int .i64]) := fun (p3 : Bool) =>
     cond (p3) (
      some 2) (
      let j1 : Bool → Option (HV [.int .i64]) := fun (p5 : Bool) =>
       cond (p5) (
        some 3) (
        cond (decide (c = 95)) (
         some 4) (
         cond (decide (c = 39)) (
          some 5) (
          let j : Bool → Option (HV [.int .i64]) := fun (p6 : Bool) =>
           cond (p6) (
            some 6) (
            cond (decide (c = 10)) (
             some 6) (
             cond (decide (c = 13)) (
              some 6) (
              iter (fun rec => rclass_0 rec (fun e vz => match vz with | (_, v5, _, _) => match e with
               | .ret =>
                some v5
               | .exit 1 =>
                some 0
               | _ => none)) k (c, 0, [40, 41, 44, 42, 61, 60, 62, 43, 45, 59], 0))))
          cond (decide (c = 32)) (
           j true) (
           j (decide (c = 9))))))
      cond (decide (48 ≤ c)) (
       j1 (decide (c ≤ 57))) (
       j1 false))
    cond (decide (97 ≤ c)) (
     j2 (decide (c ≤ 122))) (
     j2 false))
  cond (decide (65 ≤ c)) (
   j3 (decide (c ≤ 90))) (
   j3 false)
theorem rclass_eq (k : Nat) : ∀ (x : HV [.int .u8]), runF (rclass_px _ k) Tryz.f92 [.int .u8] [.int .i64] x some = rclass_body k x
  | c => by kernel_rfl
theorem rclass_run (k : Nat) : FnOk Tryz.prog elT glT 92 [.int .u8] [.int .i64] (rclass_body k) := by
  refine fnOk_run Tryz.func92 rfl (by kernel_rfl) follows (by kernel_rfl) (n := 1) (by kernel_rfl) (px := rclass_px _ k) (fun cx hP hel hgl => ?_) (rclass_eq k)
  have hp0 : PxOk cx (rclass_px (HV [.int .i64]) k) := ⟨fun t => by rw [hP, hel]; exact tt_ok ttL_ok t, by rw [hgl]; rfl⟩
  have hc0 : CallOk cx (rclass_px (HV [.int .i64]) k) := callT_ok rfl cfs_nil
  have hq0 : CallQOk cx (rclass_px (HV [.int .i64]) k) := callQT_ok rfl cqfs_nil
  have hlrclass_0 : LoopOk cx (rclass_px (HV [.int .i64]) k) (lp Tryz.f92 0) := loop_ok hp0 hc0 hq0 (by rw [hP]; exact follows) (k := k) (s := rclass_0_sg) (step := rclass_0) (fun _ _ => by kernel_rfl) (by kernel_rfl) (rclass_0_eq _ k) (loops_in (n := 0) (by kernel_rfl) all0)
  exact ⟨hp0, hc0, hq0, (allS all0 hlrclass_0)⟩
def rclass (c : Int) : Int := Lp.clsF c
def rclass_F : FT [.int .u8] [.int .i64] := fun x => some (rclass x)
theorem rclass_all : ((List.range 256).all fun n => decide (rclass_body 11 (n : Int) = some (Lp.clsF (n : Int)))) = true := by kernel_rfl
theorem rclass_ok : FnOk Tryz.prog elT glT 92 [.int .u8] [.int .i64] rclass_F := .fin 0 rclass_run fun (c : Int) r hb hx => ⟨11, by
  simp only [rclass_F, Option.some.injEq] at hx
  have h : 0 ≤ c ∧ c ≤ 255 := by
    have h0 : inK .u8 c := hb
    simp only [inK, IntKind.min, IntKind.max] at h0
    exact ⟨h0.1, h0.2⟩
  obtain ⟨n, rfl⟩ : ∃ n : Nat, c = (n : Int) := ⟨c.toNat, by omega⟩
  have h2 := List.all_eq_true.1 rclass_all n (List.mem_range.2 (by omega))
  exact (of_decide_eq_true h2).trans (congrArg some hx)⟩
/-! ## exchequer/exchequerref12.Name -/
def rname_0_sg : Sig := ⟨37, [(0, .str), (2, .bool), (3, .int .i64)], [], [], 0, 0, 0, [], []⟩
abbrev rname_0_V := Str × Bool × Int
def rname_0 {R : Type} (rec : rname_0_V → Option R) (kx : Ex → rname_0_V → Option R) (v : rname_0_V) : Option R := match v with
 | (v, v1, v2) =>
  cond (decide (v2 < (v.length : Int))) (
   chk (inb v2 v.length) (
    cond (!decide ((rclass (bat v v2)) = 2)) (
     cond (decide (v2 = 0)) (
      kx .ret (v, false, v2)) (
      cond (!decide ((rclass (bat v v2)) = 3)) (
       cond (!decide ((rclass (bat v v2)) = 4)) (
        kx .ret (v, false, v2)) (
        rec (v, v1, (wr .i64 (v2 + 1))))) (
       rec (v, v1, (wr .i64 (v2 + 1)))))) (
     rec (v, v1, (wr .i64 (v2 + 1)))))) (
   kx (.exit 0) (v, v1, v2))
def rname_px (R : Type) (k : Nat) : Px R := ⟨ttOf ttL, glT, callT [(92, callOr [.int .u8] [.int .i64] rclass_F)], callQT [], loopT [(2, loopOr k rname_0_sg (rname_0))]⟩
theorem rname_0_eq (R : Type) (k : Nat) : ∀ (fr : List Fr) (rec : rname_0_V → Option R) (kx : Ex → rname_0_V → Option R) (v : rname_0_V), round (rname_px R k) rname_0_sg (lp Tryz.f72 0) fr rec kx v = rname_0 rec kx v
  | fr, rec, kx, (v, v1, v2) => by kernel_rfl
def rname_body (k : Nat) (x : HV [.str]) : Option (HV [.bool]) := match x with
 | s =>
  iter (fun rec => rname_0 rec (fun e vz => match vz with | (v3, v4, _) => match e with
   | .ret =>
    some v4
   | .exit 0 =>
    cond (decide (1 ≤ (v3.length : Int))) (
     some (decide ((v3.length : Int) ≤ 30))) (
     some false)
   | _ => none)) k (s, false, 0)
theorem rname_eq (k : Nat) : ∀ (x : HV [.str]), runF (rname_px _ k) Tryz.f72 [.str] [.bool] x some = rname_body k x
  | s => by kernel_rfl
theorem rname_run (k : Nat) : FnOk Tryz.prog elT glT 72 [.str] [.bool] (rname_body k) := by
  refine fnOk_run Tryz.func72 rfl (by kernel_rfl) follows (by kernel_rfl) (n := 1) (by kernel_rfl) (px := rname_px _ k) (fun cx hP hel hgl => ?_) (rname_eq k)
  have hp0 : PxOk cx (rname_px (HV [.bool]) k) := ⟨fun t => by rw [hP, hel]; exact tt_ok ttL_ok t, by rw [hgl]; rfl⟩
  have hc0 : CallOk cx (rname_px (HV [.bool]) k) := callT_ok rfl (cfs_cons (cf_or (by rw [hP, hel, hgl]; exact rclass_ok) (by kernel_rfl)) cfs_nil)
  have hq0 : CallQOk cx (rname_px (HV [.bool]) k) := callQT_ok rfl cqfs_nil
  have hlrname_0 : LoopOk cx (rname_px (HV [.bool]) k) (lp Tryz.f72 0) := loop_ok hp0 hc0 hq0 (by rw [hP]; exact follows) (k := k) (s := rname_0_sg) (step := rname_0) (fun _ _ => by kernel_rfl) (by kernel_rfl) (rname_0_eq _ k) (loops_in (n := 0) (by kernel_rfl) all0)
  exact ⟨hp0, hc0, hq0, (allS all0 hlrname_0)⟩
def rname (s : Str) : Bool := Lp.rnameF s
def rname_F : FT [.str] [.bool] := fun x => some (rname x)
theorem rname_loop {R : Type} {kx : Ex → rname_0_V → Option R} {s : Str} {c : Bool → Option R} (hn : ln s.length) (h1 : ∀ j, kx .ret (s, false, j) = c false) (h2 : ∀ q j, kx (.exit 0) (s, q, j) = c true) : ∀ (k i : Nat) q, i ≤ s.length → s.length - i < k → iter (fun rec => rname_0 rec kx) k (s, q, (i : Int)) = c (Lp.okGo (s.drop i) i)
  | 0, i, q, _, h => absurd h (Nat.not_lt_zero _)
  | k + 1, i, q, hi, h => by
    rw [iter_s]
    by_cases hl : i < s.length
    · have ih := rname_loop hn h1 h2 k (i + 1) q (by omega) (by omega)
      have en : ((i + 1 : Nat) : Int) = (i : Int) + 1 := by omega
      simp only [rname_0, wr_succ hl hn, ih, h1, drop_cons hl, bat_nat hl, inb_t hl, chk, cond_t, rclass, Lp.okGo, Lp.nmOk]
      rw [decide_eq_true (show (i : Int) < (s.length : Int) by omega), en]
      cases decide (Lp.clsF (s[i].toNat : Int) = 2) <;> cases decide ((i : Int) = 0) <;> cases decide (Lp.clsF (s[i].toNat : Int) = 3) <;> cases decide (Lp.clsF (s[i].toNat : Int) = 4) <;> rfl
    · simp only [rname_0, h2]
      rw [decide_eq_false (by omega), List.drop_eq_nil_of_le (by omega)]
      rfl
theorem rname_ok : FnOk Tryz.prog elT glT 72 [.str] [.bool] rname_F := .fin 0 rname_run fun s r hb hx => ⟨s.length + 1, by
  simp only [rname_F, Option.some.injEq] at hx
  subst hx
  simp only [rname_body]
  refine (rname_loop (s := s) (c := fun b => cond b (cond (decide (1 ≤ (s.length : Int))) (some (decide ((s.length : Int) ≤ 30))) (some false)) (some false)) hb (fun _ => rfl) (fun _ _ => rfl) (s.length + 1) 0 false (Nat.zero_le _) (by omega)).trans ?_
  rw [List.drop_zero, rname, Lp.rnameF]
  show cond (Lp.okGo s 0) _ _ = _
  cases Lp.okGo s 0 <;> cases decide (1 ≤ (s.length : Int)) <;> rfl⟩
theorem rname_lname (s : Str) : rname s = lname s := (Lp.name_eq s).symm
/-! ## exchequer/exchequerref13.Sign -/
def rsign_px (R : Type) : Px R := ⟨ttOf ttL, glT, callT [], callQT [], loopT []⟩
def rsign_body (x : HV [.int .i64]) : Option (HV [.str]) := match x with
 | kind =>
  cond (decide (kind < 0)) (
   some []) (
   cond (decide (15 ≤ kind)) (
    some []) (
    chk (inb kind 15) (
     some (at' .str [[], [], [], [], [65, 78, 68], [79, 82], [61], [60, 62], [60], [60, 61], [62], [62, 61], [43], [45], [42]] kind))))
theorem rsign_eq : ∀ (x : HV [.int .i64]), runF (rsign_px _) Tryz.f36 [.int .i64] [.str] x some = rsign_body x
  | kind => by kernel_rfl
theorem rsign_run : FnOk Tryz.prog elT glT 36 [.int .i64] [.str] (rsign_body) := by
  refine fnOk_run Tryz.func36 rfl (by kernel_rfl) follows (by kernel_rfl) (n := 0) (by kernel_rfl) (px := rsign_px _) (fun cx hP hel hgl => ?_) (rsign_eq)
  have hp0 : PxOk cx (rsign_px (HV [.str])) := ⟨fun t => by rw [hP, hel]; exact tt_ok ttL_ok t, by rw [hgl]; rfl⟩
  have hc0 : CallOk cx (rsign_px (HV [.str])) := callT_ok rfl cfs_nil
  have hq0 : CallQOk cx (rsign_px (HV [.str])) := callQT_ok rfl cqfs_nil
  exact ⟨hp0, hc0, hq0, all0⟩
def rsigns : List Str := [[], [], [], [], [65, 78, 68], [79, 82], [61], [60, 62], [60], [60, 61], [62], [62, 61], [43], [45], [42]]
def rsign (k : Int) : Str := if k < 0 ∨ 15 ≤ k then [] else at' .str rsigns k
def rsign_F : FT [.int .i64] [.str] := fun x => some (rsign x)
theorem rsign_ok : FnOk Tryz.prog elT glT 36 [.int .i64] [.str] rsign_F := .fin0 rsign_run fun (k : Int) r _ hx => by
  simp only [rsign_F, Option.some.injEq] at hx
  subst hx
  simp only [rsign_body, rsign]
  by_cases h1 : k < 0
  · rw [decide_eq_true h1, if_pos (.inl h1)]; rfl
  · by_cases h2 : 15 ≤ k
    · rw [decide_eq_false h1, decide_eq_true h2, if_pos (.inr h2)]; rfl
    · rw [decide_eq_false h1, decide_eq_false h2, if_neg (by omega)]
      obtain ⟨j, rfl⟩ : ∃ j : Nat, k = (j : Int) := ⟨k.toNat, by omega⟩
      rw [inb_t (i := j) (n := 15) (by omega)]
      rfl
theorem rsign_sgn (k : Int) : rsign k = sgn k := by
  by_cases h : 4 ≤ k ∧ k ≤ 14
  · have : k = 4 ∨ k = 5 ∨ k = 6 ∨ k = 7 ∨ k = 8 ∨ k = 9 ∨ k = 10 ∨ k = 11 ∨ k = 12 ∨ k = 13 ∨ k = 14 := by omega
    rcases this with rfl | rfl | rfl | rfl | rfl | rfl | rfl | rfl | rfl | rfl | rfl <;> rfl
  · have hm : sgn k = [] := by
      simp only [sgn, signsL, mget]
      rw [decide_eq_false (by omega), decide_eq_false (by omega), decide_eq_false (by omega), decide_eq_false (by omega), decide_eq_false (by omega), decide_eq_false (by omega), decide_eq_false (by omega), decide_eq_false (by omega), decide_eq_false (by omega), decide_eq_false (by omega), decide_eq_false (by omega)]
    rw [hm, rsign]
    by_cases h2 : k < 0 ∨ 15 ≤ k
    · rw [if_pos h2]
    · rw [if_neg h2]
      have : k = 0 ∨ k = 1 ∨ k = 2 ∨ k = 3 := by omega
      rcases this with rfl | rfl | rfl | rfl <;> rfl
end Go.Proofs.YthndhaolemgbdaaGreatDoor

/- The document's answer: how deep an expression is; that is the program's. -/
namespace Go.Proofs.YthndhaolemgbdaaGreatDoor
open Go.Ax
/-! ## exchequer/exchequerref13.deep -/
def rdeep_px (R : Type) (rf : FT [.sv .expr] [.int .i64]) : Px R := ⟨ttOf ttL, glT, callT [(101, callOr [.sv .val] [.int .i64] rcheck_F), (72, callOr [.str] [.bool] rname_F), (36, callOr [.int .i64] [.str] rsign_F), (46, callOr [.sv .expr] [.int .i64] rf)], callQT [], loopT []⟩
def rdeep_body (rf : FT [.sv .expr] [.int .i64]) (x : HV [.sv .expr]) : Option (HV [.int .i64]) := match x with
 | e =>
  let j2 := fun (p11 : Int) =>
   cond (!decide ((e.l.length : Int) = p11)) (
    some 31) (
    cond (!decide (e.v = (Val.mk 0 0 []))) (
     some 31) (
     cond (!decide (e.name = [])) (
      some 31) (
      chk (inb 0 e.l.length) (
       (rf (at' .expr e.l 0)).bind fun x =>
        cond (decide (p11 = 2)) (
         chk (inb 1 e.l.length) (
          (rf (at' .expr e.l 1)).bind fun x1 =>
           some (wr .i64 (1 + (max2 x x1))))) (
         some (wr .i64 (1 + x)))))))
  cond (decide (e.kind = 1)) (
   let j := fun (p1 : Bool) =>
    cond (p1) (
     some 31) (
     cond (!decide (e.name = [])) (
      some 31) (
      cond (decide (0 < (e.l.length : Int))) (
       some 31) (
       some 1)))
   cond (!decide ((rcheck e.v) = 0)) (
    j true) (
    cond (decide (e.v.kind = 3)) (
     j (decide (e.v.n < 0))) (
     j false))) (
   cond (decide (e.kind = 2)) (
    cond (!(rname e.name)) (
     some 31) (
     cond (!decide (e.v = (Val.mk 0 0 []))) (
      some 31) (
      cond (decide (0 < (e.l.length : Int))) (
       some 31) (
       some 1)))) (
    let j1 := fun (p10 : Bool) =>
     cond (p10) (
      j2 1) (
      cond (decide ((rsign e.kind) = [])) (
       some 31) (
       j2 2))
    cond (decide (e.kind = 3)) (
     j1 (decide (e.kind = 3))) (
     cond (decide (e.kind = 15)) (
      j1 (decide (e.kind = 15))) (
      j1 (decide (e.kind = 16))))))
theorem rdeep_eq (rf : FT [.sv .expr] [.int .i64]) : ∀ (x : HV [.sv .expr]), runF (rdeep_px _ rf) Tryz.f46 [.sv .expr] [.int .i64] x some = rdeep_body rf x
  | e => by kernel_rfl
theorem rdeep_run (rf : FT [.sv .expr] [.int .i64]) (hrf : FnOk Tryz.prog elT glT 46 [.sv .expr] [.int .i64] rf) : FnOk Tryz.prog elT glT 46 [.sv .expr] [.int .i64] (rdeep_body rf) := by
  refine fnOk_run Tryz.func46 rfl (by kernel_rfl) follows (by kernel_rfl) (n := 0) (by kernel_rfl) (px := rdeep_px _ rf) (fun cx hP hel hgl => ?_) (rdeep_eq rf)
  have hp0 : PxOk cx (rdeep_px (HV [.int .i64]) rf) := ⟨fun t => by rw [hP, hel]; exact tt_ok ttL_ok t, by rw [hgl]; rfl⟩
  have hc0 : CallOk cx (rdeep_px (HV [.int .i64]) rf) := callT_ok rfl (cfs_cons (cf_or (by rw [hP, hel, hgl]; exact rcheck_ok) (by kernel_rfl)) (cfs_cons (cf_or (by rw [hP, hel, hgl]; exact rname_ok) (by kernel_rfl)) (cfs_cons (cf_or (by rw [hP, hel, hgl]; exact rsign_ok) (by kernel_rfl)) (cfs_cons (cf_or (by rw [hP, hel, hgl]; exact hrf) (by kernel_rfl)) cfs_nil))))
  have hq0 : CallQOk cx (rdeep_px (HV [.int .i64]) rf) := callQT_ok rfl cqfs_nil
  exact ⟨hp0, hc0, hq0, all0⟩
def hd (q : List Int) (i : Nat) : Int := q.getD i 0
def dfin (e : Xpr) (q : List Int) : Int :=
  if e.kind = 1 then (if vcheck e.v = 0 ∧ ¬ (e.v.kind = 3 ∧ e.v.n < 0) ∧ e.name = [] ∧ ¬ 0 < (e.l.length : Int) then 1 else 31)
  else if e.kind = 2 then (if lname e.name = true ∧ e.v = ⟨0, 0, []⟩ ∧ ¬ 0 < (e.l.length : Int) then 1 else 31)
  else if e.kind = 3 ∨ e.kind = 15 ∨ e.kind = 16 then (if (e.l.length : Int) = 1 ∧ e.v = ⟨0, 0, []⟩ ∧ e.name = [] then wr .i64 (1 + hd q 0) else 31)
  else if rsign e.kind = [] then 31
  else if (e.l.length : Int) = 2 ∧ e.v = ⟨0, 0, []⟩ ∧ e.name = [] then wr .i64 (1 + max2 (hd q 0) (hd q 1)) else 31
mutual
def rdeep : Xpr → Int
  | .mk k v nm l => dfin (.mk k v nm l) (rdeepL l)
def rdeepL : List Xpr → List Int
  | [] => []
  | x :: l => rdeep x :: rdeepL l
end
theorem rdeep_un (e : Xpr) : rdeep e = dfin e (rdeepL e.l) := by
  cases e
  simp only [rdeep, Xpr.l]
def rdeep_F : FT [.sv .expr] [.int .i64] := fun x => some (rdeep x)
theorem rdeep_j1 {e : Xpr} {rf : FT [.sv .expr] [.int .i64]} (hrf : ∀ x, x ∈ e.l → rf x = some (rdeep x)) (p : Int → Option Int) : (cond (!decide ((e.l.length : Int) = 1)) (some 31) (cond (!decide (e.v = Val.mk 0 0 [])) (some 31) (cond (!decide (e.name = [])) (some 31) (chk (inb 0 e.l.length) ((rf (at' .expr e.l 0)).bind fun x => cond (decide ((1 : Int) = 2)) (p x) (some (wr .i64 (1 + x)))))))) = some (if (e.l.length : Int) = 1 ∧ e.v = ⟨0, 0, []⟩ ∧ e.name = [] then wr .i64 (1 + hd (rdeepL e.l) 0) else 31) := by
  by_cases b1 : (e.l.length : Int) = 1
  · obtain ⟨x, hl⟩ : ∃ x, e.l = [x] := List.length_eq_one_iff.1 (by omega)
    have hrx := hrf x (by rw [hl]; simp)
    rw [hl]
    have a0 : at' .expr [x] 0 = x := rfl
    have i0 : inb 0 [x].length = true := rfl
    by_cases b2 : e.v = ⟨0, 0, []⟩
    · by_cases b3 : e.name = []
      · rw [decide_eq_true b2, decide_eq_true b3, if_pos ⟨rfl, b2, b3⟩, a0, i0, hrx]
        rfl
      · rw [decide_eq_true b2, decide_eq_false b3, if_neg (fun h => b3 h.2.2)]
        rfl
    · rw [decide_eq_false b2, if_neg (fun h => b2 h.2.1)]
      rfl
  · rw [decide_eq_false b1, if_neg (fun h => b1 h.1)]
    rfl
theorem len_two {l : List Xpr} (h : l.length = 2) : ∃ x y, l = [x, y] := by
  match l, h with
  | [x, y], _ => exact ⟨x, y, rfl⟩
theorem rdeep_j2 {e : Xpr} {rf : FT [.sv .expr] [.int .i64]} (hrf : ∀ x, x ∈ e.l → rf x = some (rdeep x)) (p : Int → Option Int) : (cond (!decide ((e.l.length : Int) = 2)) (some 31) (cond (!decide (e.v = Val.mk 0 0 [])) (some 31) (cond (!decide (e.name = [])) (some 31) (chk (inb 0 e.l.length) ((rf (at' .expr e.l 0)).bind fun x => cond (decide ((2 : Int) = 2)) (chk (inb 1 e.l.length) ((rf (at' .expr e.l 1)).bind fun x1 => some (wr .i64 (1 + (max2 x x1))))) (p x)))))) = some (if (e.l.length : Int) = 2 ∧ e.v = ⟨0, 0, []⟩ ∧ e.name = [] then wr .i64 (1 + max2 (hd (rdeepL e.l) 0) (hd (rdeepL e.l) 1)) else 31) := by
  by_cases b1 : (e.l.length : Int) = 2
  · obtain ⟨x, y, hl⟩ : ∃ x y, e.l = [x, y] := len_two (by omega)
    have hrx := hrf x (by rw [hl]; simp)
    have hry := hrf y (by rw [hl]; simp)
    rw [hl]
    have a0 : at' .expr [x, y] 0 = x := rfl
    have a1 : at' .expr [x, y] 1 = y := rfl
    have i0 : inb 0 [x, y].length = true := rfl
    have i1 : inb 1 [x, y].length = true := rfl
    by_cases b2 : e.v = ⟨0, 0, []⟩
    · by_cases b3 : e.name = []
      · rw [decide_eq_true b2, decide_eq_true b3, if_pos ⟨rfl, b2, b3⟩, a0, i0, a1, i1, hrx, hry]
        rfl
      · rw [decide_eq_true b2, decide_eq_false b3, if_neg (fun h => b3 h.2.2)]
        rfl
    · rw [decide_eq_false b2, if_neg (fun h => b2 h.2.1)]
      rfl
  · rw [decide_eq_false b1, if_neg (fun h => b1 h.1)]
    rfl
theorem rdeep_step {e : Xpr} {rf : FT [.sv .expr] [.int .i64]} (hrf : ∀ x, x ∈ e.l → rf x = some (rdeep x)) : rdeep_body rf e = some (rdeep e) := by
  have ro : ∀ v : Val, rcheck v = vcheck v := fun _ => rfl
  have rn : ∀ s : Str, rname s = lname s := rname_lname
  have a6 : 0 < e.l.length ↔ ¬ e.l = [] := List.length_pos_iff
  rw [rdeep_un]
  simp only [rdeep_body, dfin, ro, rn]
  by_cases k1 : e.kind = 1
  · simp only [decide_eq_true k1, if_pos k1, cond_t]
    by_cases a1 : vcheck e.v = 0 <;> by_cases a2 : e.v.kind = 3 <;> by_cases a3 : e.v.n < 0 <;> by_cases a4 : e.name = [] <;> by_cases a5 : e.l = [] <;> simp [a1, a2, a3, a4, a5, a6]
  · by_cases k2 : e.kind = 2
    · simp only [decide_eq_false k1, if_neg k1, decide_eq_true k2, if_pos k2, cond_t, cond_f]
      cases lname e.name <;> by_cases a2 : e.v = ⟨0, 0, []⟩ <;> by_cases a5 : e.l = [] <;> simp [a2, a5, a6]
    · rw [if_neg k1, if_neg k2, decide_eq_false k1, decide_eq_false k2]
      by_cases k3 : e.kind = 3
      · rw [if_pos (.inl k3), decide_eq_true k3]
        exact rdeep_j1 hrf _
      · by_cases k15 : e.kind = 15
        · rw [if_pos (.inr (.inl k15)), decide_eq_false k3, decide_eq_true k15]
          exact rdeep_j1 hrf _
        · by_cases k16 : e.kind = 16
          · rw [if_pos (.inr (.inr k16)), decide_eq_false k3, decide_eq_false k15, decide_eq_true k16]
            exact rdeep_j1 hrf _
          · rw [if_neg (by omega), decide_eq_false k3, decide_eq_false k15, decide_eq_false k16]
            by_cases ks : rsign e.kind = []
            · rw [if_pos ks, decide_eq_true ks]
              rfl
            · rw [if_neg ks, decide_eq_false ks]
              exact rdeep_j2 hrf _
theorem rdeep_all : ∀ (n : Nat) (e : Xpr), esize e ≤ n → iter rdeep_body n e = some (rdeep e)
  | 0, e, h => by have := esize_pos e; omega
  | n + 1, e, h => by
    rw [iter_s]
    refine rdeep_step fun x hx => rdeep_all n x ?_
    have := esize_mem hx
    rw [esize_eq] at h
    omega
theorem rdeep_ok : FnOk Tryz.prog elT glT 46 [.sv .expr] [.int .i64] rdeep_F := by
  refine .fin (ι := Nat) 0 (F := fun n => iter rdeep_body n) (fun n => FnOk.rec' (Sx.enters_of Tryz.func46 rfl rfl) (fun rf hrf => rdeep_run rf hrf) n) fun e r hb hx => ⟨esize e, ?_⟩
  exact (rdeep_all (esize e) e (Nat.le_refl _)).trans hx
/-! ## exchequer/exchequerref13.Expr -/
def rexpr_px (R : Type) : Px R := ⟨ttOf ttL, glT, callT [(46, callOr [.sv .expr] [.int .i64] rdeep_F)], callQT [], loopT []⟩
def rexpr_body (x : HV [.sv .expr]) : Option (HV [.int .i64]) := match x with
 | e =>
  cond (decide (30 < (rdeep e))) (
   some 2) (
   some 0)
theorem rexpr_eq : ∀ (x : HV [.sv .expr]), runF (rexpr_px _) Tryz.f19 [.sv .expr] [.int .i64] x some = rexpr_body x
  | e => by kernel_rfl
theorem rexpr_run : FnOk Tryz.prog elT glT 19 [.sv .expr] [.int .i64] (rexpr_body) := by
  refine fnOk_run Tryz.func19 rfl (by kernel_rfl) follows (by kernel_rfl) (n := 0) (by kernel_rfl) (px := rexpr_px _) (fun cx hP hel hgl => ?_) (rexpr_eq)
  have hp0 : PxOk cx (rexpr_px (HV [.int .i64])) := ⟨fun t => by rw [hP, hel]; exact tt_ok ttL_ok t, by rw [hgl]; rfl⟩
  have hc0 : CallOk cx (rexpr_px (HV [.int .i64])) := callT_ok rfl (cfs_cons (cf_or (by rw [hP, hel, hgl]; exact rdeep_ok) (by kernel_rfl)) cfs_nil)
  have hq0 : CallQOk cx (rexpr_px (HV [.int .i64])) := callQT_ok rfl cqfs_nil
  exact ⟨hp0, hc0, hq0, all0⟩
def rexpr (e : Xpr) : Int :=
  cond (decide (30 < (rdeep e))) (
   2) (
   0)
theorem rexpr_tot (x : HV [.sv .expr]) : rexpr_body x = some (rexpr x) := by
  first
    | exact rfl
    | simp only [rexpr_body, rexpr, cond_some]
def rexpr_F : FT [.sv .expr] [.int .i64] := fun x => some (rexpr x)
theorem rexpr_ok : FnOk Tryz.prog elT glT 19 [.sv .expr] [.int .i64] rexpr_F := .fin0 rexpr_run fun x _ _ hx => (rexpr_tot x).trans hx
theorem deep_bd : ∀ (n : Nat) (e : Xpr), esize e ≤ n → n < 1000000 → 1 ≤ rdeep e ∧ rdeep e ≤ 31 + (n : Int)
  | 0, e, h, _ => by have := esize_pos e; omega
  | n + 1, e, h, hn => by
    have one : (e.l.length : Int) = 1 → 1 ≤ wr .i64 (1 + hd (rdeepL e.l) 0) ∧ wr .i64 (1 + hd (rdeepL e.l) 0) ≤ 31 + ((n + 1 : Nat) : Int) := fun hl => by
      obtain ⟨x, hx⟩ : ∃ x, e.l = [x] := List.length_eq_one_iff.1 (by omega)
      have hb := deep_bd n x (by rw [esize_eq, hx] at h; simp only [esizes] at h; omega) (by omega)
      have h0 : hd (rdeepL e.l) 0 = rdeep x := by rw [hx]; rfl
      rw [h0, wr_id (by simp only [inI]; omega)]
      omega
    have two : (e.l.length : Int) = 2 → 1 ≤ wr .i64 (1 + max2 (hd (rdeepL e.l) 0) (hd (rdeepL e.l) 1)) ∧ wr .i64 (1 + max2 (hd (rdeepL e.l) 0) (hd (rdeepL e.l) 1)) ≤ 31 + ((n + 1 : Nat) : Int) := fun hl => by
      obtain ⟨x, y, hx⟩ : ∃ x y, e.l = [x, y] := len_two (by omega)
      have hb := deep_bd n x (by rw [esize_eq, hx] at h; simp only [esizes] at h; omega) (by omega)
      have hc := deep_bd n y (by rw [esize_eq, hx] at h; simp only [esizes] at h; omega) (by omega)
      have h0 : hd (rdeepL e.l) 0 = rdeep x := by rw [hx]; rfl
      have h1 : hd (rdeepL e.l) 1 = rdeep y := by rw [hx]; rfl
      have hm : max2 (rdeep x) (rdeep y) = rdeep x ∨ max2 (rdeep x) (rdeep y) = rdeep y := by
        simp only [max2]
        split <;> simp
      rw [h0, h1]
      rcases hm with hm | hm <;> rw [hm, wr_id (by simp only [inI]; omega)] <;> omega
    rw [rdeep_un]
    simp only [dfin]
    split
    · split <;> omega
    · split
      · split <;> omega
      · split
        · split
          · rename_i hc
            exact one hc.1
          · omega
        · split
          · omega
          · split
            · rename_i hc
              exact two hc.1
            · omega
theorem rsign_two {k : Int} (h : 4 ≤ k ∧ k ≤ 14) : ¬ rsign k = [] := by
  rcases (by omega : k = 4 ∨ k = 5 ∨ k = 6 ∨ k = 7 ∨ k = 8 ∨ k = 9 ∨ k = 10 ∨ k = 11 ∨ k = 12 ∨ k = 13 ∨ k = 14) with rfl | rfl | rfl | rfl | rfl | rfl | rfl | rfl | rfl | rfl | rfl <;> decide
theorem rsign_no {k : Int} (h1 : ¬ (4 ≤ k ∧ k ≤ 14)) : rsign k = [] := by
  by_cases h2 : k < 0 ∨ 15 ≤ k
  · rw [rsign, if_pos h2]
  · rcases (by omega : k = 0 ∨ k = 1 ∨ k = 2 ∨ k = 3) with rfl | rfl | rfl | rfl <;> decide
theorem parts_no {k : Int} (h : parts k = -1) : ¬ (1 ≤ k ∧ k ≤ 16) := fun hk => by
  rcases (by omega : k = 1 ∨ k = 2 ∨ k = 3 ∨ k = 4 ∨ k = 5 ∨ k = 6 ∨ k = 7 ∨ k = 8 ∨ k = 9 ∨ k = 10 ∨ k = 11 ∨ k = 12 ∨ k = 13 ∨ k = 14 ∨ k = 15 ∨ k = 16) with rfl | rfl | rfl | rfl | rfl | rfl | rfl | rfl | rfl | rfl | rfl | rfl | rfl | rfl | rfl | rfl <;> exact absurd h (by decide)
theorem deep_right : ∀ (n : Nat) (e : Xpr) (m : Nat), esize e ≤ n → n < 1000000 → m ≤ 30 → (eright e (m : Int) = true ↔ rdeep e ≤ (m : Int))
  | 0, e, _, h, _, _ => by have := esize_pos e; omega
  | n + 1, e, m, h, hn, hm => by
    have hb := deep_bd (n + 1) e h hn
    rw [eright_un]
    by_cases h0 : m = 0
    · subst h0
      constructor
      · intro hx
        rw [decide_eq_true (show ((0 : Nat) : Int) = 0 from rfl)] at hx
        cases hx
      · intro hx; omega
    · have hw : wr .i64 ((m : Int) - 1) = ((m - 1 : Nat) : Int) := by
        rw [wr_id (by simp only [inI]; omega)]; omega
      have m1 : (1 : Int) ≤ (m : Int) := by omega
      have m31 : ¬ (31 : Int) ≤ (m : Int) := by omega
      rw [hw, decide_eq_false (show ¬ (m : Int) = 0 by omega), rdeep_un]
      rcases parts_spec e.kind with ⟨p, hk⟩ | ⟨p, hk⟩ | ⟨p, hk⟩ | p
      · rw [p]
        have hz : decide ((e.l.length : Int) = 0) = decide (e.l = []) := decide_eq_decide.2 ⟨fun h => List.eq_nil_of_length_eq_zero (by omega), fun h => by rw [h]; rfl⟩
        have hy : 0 < e.l.length ↔ ¬ e.l = [] := List.length_pos_iff
        rw [hz]
        rcases hk with k1 | k2
        · simp only [dfin, eok, k1]
          by_cases hl : e.l = [] <;> by_cases a1 : vcheck e.v = 0 <;> by_cases a2 : e.v.kind = 3 <;> by_cases a3 : e.v.n < 0 <;> by_cases a4 : e.name = [] <;> simp [hl, a1, a2, a3, a4, m1, m31, erights]
        · simp only [dfin, eok, k2]
          by_cases hl : e.l = [] <;> by_cases a1 : lname e.name = true <;> by_cases a2 : e.v = ⟨0, 0, []⟩ <;> simp [hl, a1, a2, m1, m31, erights]
      · have k1 : ¬ e.kind = 1 := by omega
        have k2 : ¬ e.kind = 2 := by omega
        rw [p]
        simp only [dfin, eok, if_neg k1, if_neg k2, if_pos hk, decide_eq_false k1, decide_eq_false k2, cond_f]
        by_cases hl : (e.l.length : Int) = 1
        · obtain ⟨x, hx⟩ : ∃ x, e.l = [x] := List.length_eq_one_iff.1 (by omega)
          have hs : esize x ≤ n := by rw [esize_eq, hx] at h; simp only [esizes] at h; omega
          have hbx := deep_bd n x hs (by omega)
          have ih : eright x ((m - 1 : Nat) : Int) = true ↔ 1 + rdeep x ≤ (m : Int) := (deep_right n x (m - 1) hs (by omega) (by omega)).trans (by omega)
          have hr : erights e.l ((m - 1 : Nat) : Int) = eright x ((m - 1 : Nat) : Int) := by rw [hx]; simp only [erights, Bool.and_true]
          have h0 : hd (rdeepL e.l) 0 = rdeep x := by rw [hx]; rfl
          have hwx : wr .i64 (1 + rdeep x) = 1 + rdeep x := wr_id (by simp only [inI]; omega)
          rw [hr, h0, hwx, decide_eq_true hl]
          by_cases b2 : e.v = ⟨0, 0, []⟩ <;> by_cases b3 : e.name = [] <;> simp [hl, b2, b3, ih, m31]
        · rw [decide_eq_false hl]
          simp [hl, m31]
      · have k1 : ¬ e.kind = 1 := by omega
        have k2 : ¬ e.kind = 2 := by omega
        have k3 : ¬ (e.kind = 3 ∨ e.kind = 15 ∨ e.kind = 16) := by omega
        rw [p]
        simp only [dfin, eok, if_neg k1, if_neg k2, if_neg k3, if_neg (rsign_two hk), decide_eq_false k1, decide_eq_false k2, cond_f]
        by_cases hl : (e.l.length : Int) = 2
        · obtain ⟨x, y, hx⟩ : ∃ x y, e.l = [x, y] := len_two (by omega)
          have hs : esize x ≤ n := by rw [esize_eq, hx] at h; simp only [esizes] at h; omega
          have ht : esize y ≤ n := by rw [esize_eq, hx] at h; simp only [esizes] at h; omega
          have hbx := deep_bd n x hs (by omega)
          have hby := deep_bd n y ht (by omega)
          have ih : eright x ((m - 1 : Nat) : Int) = true ↔ 1 + rdeep x ≤ (m : Int) := (deep_right n x (m - 1) hs (by omega) (by omega)).trans (by omega)
          have jh : eright y ((m - 1 : Nat) : Int) = true ↔ 1 + rdeep y ≤ (m : Int) := (deep_right n y (m - 1) ht (by omega) (by omega)).trans (by omega)
          have hr : erights e.l ((m - 1 : Nat) : Int) = (eright x ((m - 1 : Nat) : Int) && eright y ((m - 1 : Nat) : Int)) := by rw [hx]; simp only [erights, Bool.and_true]
          have h0 : hd (rdeepL e.l) 0 = rdeep x := by rw [hx]; rfl
          have h1 : hd (rdeepL e.l) 1 = rdeep y := by rw [hx]; rfl
          have hwx : wr .i64 (1 + max2 (rdeep x) (rdeep y)) = 1 + max2 (rdeep x) (rdeep y) := wr_id (by
            simp only [inI, max2]
            split <;> omega)
          have hmx : 1 + max2 (rdeep x) (rdeep y) ≤ (m : Int) ↔ (1 + rdeep x ≤ (m : Int) ∧ 1 + rdeep y ≤ (m : Int)) := by
            simp only [max2]
            split <;> omega
          rw [hr, h0, h1, hwx, decide_eq_true hl]
          by_cases b2 : e.v = ⟨0, 0, []⟩ <;> by_cases b3 : e.name = [] <;> simp [hl, b2, b3, ih, jh, hmx, m31]
        · rw [decide_eq_false hl]
          simp [hl, m31]
      · have hk := parts_no p
        rw [p, decide_eq_false (show ¬ (e.l.length : Int) = -1 by omega)]
        simp only [dfin, if_neg (show ¬ e.kind = 1 by omega), if_neg (show ¬ e.kind = 2 by omega), if_neg (show ¬ (e.kind = 3 ∨ e.kind = 15 ∨ e.kind = 16) by omega), if_pos (rsign_no (show ¬ (4 ≤ e.kind ∧ e.kind ≤ 14) by omega))]
        simp [m31]
end Go.Proofs.YthndhaolemgbdaaGreatDoor

/- The token that a value's text is. -/
namespace Go.Proofs.YthndhaolemgbdaaGreatDoor
open Go.Ax
open Lp (tokS tw isWd isUp isLo isDi isIn pre clsF rnameF wordF nq qS unGo hexD rnumF rnumGo checkF)
/-! ## numbers -/
/-! ## texts -/
/-! ## bytes -/
/-! ## a value's text -/
end Go.Proofs.YthndhaolemgbdaaGreatDoor

/- Plain law: two values that may be, and are not the same, have two texts. -/
namespace Go.Proofs.YthndhaolemgbdaaGreatDoor
open Go.Ax
/-- the digits of a number, at least one -/
def dgs (n : Nat) : List Int := if n = 0 then [0] else digs n
theorem dgs_dg (n : Nat) : dg (dgs n) = true := by
  simp only [dgs]
  split
  · rfl
  · exact digs_dg n
theorem numT_un (n : Int) : numT n = if n < 0 then 45 :: txt (dgs n.natAbs) else txt (dgs n.natAbs) := by
  simp only [numT, dgs]
  by_cases h : n = 0
  · subst h; rfl
  · rw [if_neg h, if_neg (show ¬ n.natAbs = 0 by omega)]
theorem txt_first {n : Nat} : ∃ d l, txt (dgs n) = dch d :: l ∧ 0 ≤ d ∧ d ≤ 9 := by
  have hd := dgs_dg n
  have hne : ¬ dgs n = [] := by
    simp only [dgs]
    split
    · simp
    · rename_i h; exact digs_ne h
  rcases List.eq_nil_or_concat (dgs n) with h | ⟨l, x, h⟩
  · exact absurd h hne
  · rw [List.concat_eq_append] at h
    rw [h] at hd ⊢
    have := (dg_cons.1 (dg_app.1 hd).2).1
    exact ⟨x, (l.map dch).reverse, by simp [txt], this⟩
theorem dch_ne {d : Int} (h : 0 ≤ d ∧ d ≤ 9) : 48 ≤ (dch d).toNat ∧ (dch d).toNat ≤ 57 := by
  simp only [dch, UInt8.toNat_ofNat']
  omega
/-- the first sign tells the kind -/
def fst1 : Str → Nat
  | [] => 0
  | b :: _ => b.toNat
def cl (n : Nat) : Int := if n = 78 then 1 else if n = 70 ∨ n = 84 then 2 else if n = 45 ∨ (48 ≤ n ∧ n ≤ 57) then 3 else if n = 39 then 4 else if n = 120 then 5 else 0
theorem num_first (n : Int) : cl (fst1 (numT n)) = 3 := by
  rw [numT_un]
  split
  · rfl
  · obtain ⟨d, l, e, hd⟩ := txt_first (n := n.natAbs)
    rw [e]
    have key : ∀ k : Nat, 48 ≤ k ∧ k ≤ 57 → cl k = 3 := fun k h1 => by
      simp only [cl]
      rw [if_neg (by omega), if_neg (by omega), if_pos (.inr h1)]
    exact key _ (dch_ne hd)
theorem right_five {v : Val} (h : vright v = true) : v.kind = 1 ∨ v.kind = 2 ∨ v.kind = 3 ∨ v.kind = 4 ∨ v.kind = 5 := by
  by_cases h1 : v.kind = 1
  · exact .inl h1
  by_cases h2 : v.kind = 2
  · exact .inr (.inl h2)
  by_cases h3 : v.kind = 3
  · exact .inr (.inr (.inl h3))
  by_cases h4 : v.kind = 4
  · exact .inr (.inr (.inr (.inl h4)))
  by_cases h5 : v.kind = 5
  · exact .inr (.inr (.inr (.inr h5)))
  · simp [vright, h1, h2, h3, h4, h5] at h
theorem print_kind {v : Val} (h : vright v = true) : cl (fst1 (vprint v)) = v.kind := by
  simp only [vprint, h, cond_t]
  rcases right_five h with k | k | k | k | k
  · rw [if_neg (by omega), if_neg (by omega), if_neg (by omega), if_neg (by omega), k]; rfl
  · rw [if_pos k, k]
    split <;> rfl
  · rw [if_neg (by omega), if_pos k, k, num_first]
  · rw [if_neg (by omega), if_neg (by omega), if_pos k, k]; rfl
  · rw [if_neg (by omega), if_neg (by omega), if_neg (by omega), if_pos k, k]; rfl
theorem print_ne {v : Val} (h : vright v = true) : ¬ vprint v = [] := fun e => by
  have h1 := print_kind h
  rw [e] at h1
  have h2 : cl (fst1 []) = 0 := rfl
  rcases right_five h with k | k | k | k | k <;> omega
end Go.Proofs.YthndhaolemgbdaaGreatDoor

/- Plain law: two expressions that are not the same have two texts, whatever stands behind. -/
namespace Go.Proofs.YthndhaolemgbdaaGreatDoor
open Go.Ax
open Lp (tokS)
/-! ## what stands behind an expression -/
/-! ## an expression that is one token -/
theorem eok_val {e : Xpr} (h : eok e.kind e.v e.name = true) (hk : e.kind = 1) : vright e.v = true ∧ (e.v.kind = 3 → 0 ≤ e.v.n) ∧ e.name = [] := by
  simp only [eok] at h
  rw [decide_eq_true hk, decide_eq_false (show ¬ e.kind = 2 by omega), cond_t, cond_f] at h
  simp only [Bool.and_eq_true, decide_eq_true_eq, Bool.not_eq_true', Bool.and_eq_false_iff, decide_eq_false_iff_not] at h
  obtain ⟨⟨h1, h2⟩, h3⟩ := h
  refine ⟨?_, fun h => ?_, h3⟩
  · simp only [vcheck] at h1
    cases hv : vright e.v with
    | true => rfl
    | false => rw [hv] at h1; simp at h1
  · rcases h2 with h2 | h2
    · exact absurd h h2
    · omega
theorem eok_name {e : Xpr} (h : eok e.kind e.v e.name = true) (hk : e.kind = 2) : lname e.name = true ∧ e.v = ⟨0, 0, []⟩ := by
  simp only [eok] at h
  rw [decide_eq_true hk, decide_eq_false (show ¬ e.kind = 1 by omega), cond_t, cond_f] at h
  simp only [Bool.and_eq_true, decide_eq_true_eq] at h
  exact ⟨h.2, h.1⟩
theorem eok_no {e : Xpr} (h : eok e.kind e.v e.name = true) (h1 : ¬ e.kind = 1) (h2 : ¬ e.kind = 2) : e.v = ⟨0, 0, []⟩ ∧ e.name = [] := by
  simp only [eok] at h
  rw [decide_eq_false h1, decide_eq_false h2, cond_f, cond_f] at h
  simp only [Bool.and_eq_true, decide_eq_true_eq] at h
  exact h
theorem xpr_ext {a b : Xpr} (h1 : a.kind = b.kind) (h2 : a.v = b.v) (h3 : a.name = b.name) (h4 : a.l = b.l) : a = b := by
  cases a; cases b
  simp only [Xpr.kind, Xpr.v, Xpr.name, Xpr.l] at h1 h2 h3 h4
  rw [h1, h2, h3, h4]
/-! ## what an expression of parts looks like -/
def isOp (k : Int) : Prop := 4 ≤ k ∧ k ≤ 14
inductive Shape : Xpr → Prop where
  | atom (e : Xpr) (h : e.kind = 1 ∨ e.kind = 2) : Shape e
  | not (x : Xpr) : Shape (.mk 3 ⟨0, 0, []⟩ [] [x])
  | neg (x : Xpr) : Shape (.mk 15 ⟨0, 0, []⟩ [] [x])
  | isn (x : Xpr) : Shape (.mk 16 ⟨0, 0, []⟩ [] [x])
  | op (k : Int) (x y : Xpr) (h : isOp k) : Shape (.mk k ⟨0, 0, []⟩ [] [x, y])
theorem shape_of {e : Xpr} {m : Int} (h : eright e m = true) : Shape e := by
  obtain ⟨hp, ho, _⟩ := eright_parts h
  by_cases hk : e.kind = 1 ∨ e.kind = 2
  · exact .atom e hk
  · obtain ⟨h1, h2⟩ := eok_no ho (fun h => hk (.inl h)) (fun h => hk (.inr h))
    have ee : e = .mk e.kind ⟨0, 0, []⟩ [] e.l := xpr_ext rfl h1 h2 rfl
    rcases parts_spec e.kind with ⟨p, q⟩ | ⟨p, q⟩ | ⟨p, q⟩ | p
    · exact absurd q hk
    · obtain ⟨x, hx⟩ : ∃ x, e.l = [x] := List.length_eq_one_iff.1 (by omega)
      rw [hx] at ee
      rcases q with q | q | q <;> rw [q] at ee <;> rw [ee]
      · exact .not x
      · exact .neg x
      · exact .isn x
    · obtain ⟨x, y, hx⟩ : ∃ x y, e.l = [x, y] := by
        match hq : e.l, (show e.l.length = 2 by omega) with
        | [x, y], _ => exact ⟨x, y, rfl⟩
      rw [hx] at ee
      rw [ee]
      exact .op _ x y q
    · omega
theorem etx_not (x : Xpr) : etx (.mk 3 ⟨0, 0, []⟩ [] [x]) = 40 :: ([78, 79, 84] ++ 32 :: (etx x ++ [41])) := by
  simp [etx, etxs]
theorem etx_neg (x : Xpr) : etx (.mk 15 ⟨0, 0, []⟩ [] [x]) = 40 :: 45 :: (etx x ++ [41]) := by
  simp [etx, etxs]
theorem etx_isn (x : Xpr) : etx (.mk 16 ⟨0, 0, []⟩ [] [x]) = 40 :: (etx x ++ 32 :: 73 :: 83 :: 32 :: 78 :: 85 :: 76 :: 76 :: [41]) := by
  simp [etx, etxs]
theorem etx_op {k : Int} (h : isOp k) (x y : Xpr) : etx (.mk k ⟨0, 0, []⟩ [] [x, y]) = 40 :: (etx x ++ 32 :: (sgn k ++ 32 :: (etx y ++ [41]))) := by
  simp only [isOp] at h
  simp only [etx, etxs, etx1]
  rw [if_neg (by omega), if_neg (by omega), if_neg (by omega), if_neg (by omega), if_neg (by omega)]
  simp
def sgOk (k : Int) : Bool := (sgn k).all (fun c => !decide (c = 32)) && !decide (sgn k = []) && !decide ((sgn k).head? = some 73)
theorem right_sub {e x : Xpr} {m : Int} (h : eright e m = true) (hx : x ∈ e.l) : ∃ m', eright x m' = true := by
  obtain ⟨_, _, hs⟩ := eright_parts h
  rw [erights_all] at hs
  exact ⟨_, List.all_eq_true.1 hs x hx⟩
end Go.Proofs.YthndhaolemgbdaaGreatDoor

/- Plain law: two statements that are not the same have two texts. -/
namespace Go.Proofs.YthndhaolemgbdaaGreatDoor
open Go.Ax
open Lp (tokS)
/-! ## lists with a comma between -/
section
variable {α : Type} (f : α → Str) (P : α → Prop) (D : Str → Prop)
end
theorem join_list : ∀ l : List Str, Lib.join l [44, 32] = listT (fun x => x) l
  | [] => rfl
  | [x] => by simp [Lib.join, listT, tailT]
  | x :: y :: l => by
    have ih := join_list (y :: l)
    have e : Lib.join (x :: y :: l) [44, 32] = x ++ ([44, 32] ++ Lib.join (y :: l) [44, 32]) := by simp [Lib.join, List.intercalate, List.intersperse]
    simp only [listT, tailT] at ih ⊢
    rw [e, ih]
    simp only [List.append_assoc]
/-- expressions that may be, in bounds -/
def RX (e : Xpr) : Prop := eright e 30 = true ∧ BdExpr e
/-! ## columns -/
def CX (c : Col) : Prop := colOk c = true ∧ lname c.name = true
/-! ## checks -/
theorem parts0 {k : Int} : parts k = 0 ↔ (k = 1 ∨ k = 2) := by
  rcases parts_spec k with ⟨p, h⟩ | ⟨p, h⟩ | ⟨p, h⟩ | p
  · exact ⟨fun _ => h, fun _ => p⟩
  · exact ⟨fun q => by omega, fun q => by omega⟩
  · exact ⟨fun q => by omega, fun q => by omega⟩
  · refine ⟨fun q => by omega, fun q => ?_⟩
    rcases q with rfl | rfl <;> decide
/-! ## what a statement that may be is made of -/
theorem rx_all {l : List Xpr} (h : aexprs l = true) (hb : BdAll BdExpr l) : ∀ x, x ∈ l → RX x := fun x hx => by
  simp only [aexprs, Bool.and_eq_true] at h
  exact ⟨List.all_eq_true.1 h.2 x hx, hb.2 x hx⟩
theorem once_all {l : List Str} (h : aonce l = true) : ∀ x, x ∈ l → lname x = true := by
  simp only [aonce, Bool.and_eq_true] at h
  exact ((onceF_iff l []).1 h.1).1
theorem some_ne {α : Type} {l : List α} (h : asome (l.length : Int) = true) : l ≠ [] := fun e => by
  rw [asome_is, e] at h
  simp at h
/-- where -/
def WX (s : Stm) : Prop := awhere s = true ∧ BdExpr s.whr
theorem wx_rx {s : Stm} (h : WX s) (hs : s.has = true) : RX s.whr := by
  have h1 := h.1
  rw [awhere_is, hs] at h1
  exact ⟨h1, h.2⟩
theorem check_kind {s : Stm} (h : checkB s = true) : (lname s.name = true ∧ arest s = noS) ∧ ((s.kind = 1 ∧ (∀ c, c ∈ s.cols → CX c) ∧ s.cols ≠ [] ∧ s.names ≠ [] ∧ (∀ x, x ∈ s.names → lname x = true) ∧ aexprs s.l = true)
    ∨ (s.kind = 2 ∨ s.kind = 4) ∨ (s.kind = 3 ∧ lname s.on = true ∧ s.names ≠ [] ∧ ∀ x, x ∈ s.names → lname x = true) ∨ (s.kind = 5 ∧ s.rows ≠ [] ∧ ∀ r, r ∈ s.rows → r ≠ [] ∧ aexprs r = true)
    ∨ (s.kind = 6 ∧ s.sets ≠ [] ∧ (∀ x, x ∈ s.sets → eright x.e 30 = true ∧ lname x.name = true) ∧ awhere s = true) ∨ (s.kind = 7 ∧ awhere s = true)
    ∨ (s.kind = 8 ∧ aexprs s.l = true ∧ awhere s = true ∧ (∀ x, x ∈ s.order → lname x = true) ∧ s.desc.length = s.order.length ∧ -1 ≤ s.most)) := by
  simp only [checkB, Bool.and_eq_true, decide_eq_true_eq] at h
  refine ⟨h.1, ?_⟩
  have h := h.2
  by_cases h1 : s.kind = 1
  · rw [if_pos h1] at h
    simp only [Bool.and_eq_true] at h
    obtain ⟨⟨⟨⟨⟨a1, a2⟩, a3⟩, a4⟩, a5⟩, a6⟩ := h
    refine .inl ⟨h1, fun c hc => ⟨List.all_eq_true.1 a1 c hc, once_all a3 _ (List.mem_map.2 ⟨c, hc, rfl⟩)⟩, some_ne a2, some_ne a4, once_all a5, a6⟩
  rw [if_neg h1] at h
  by_cases h3 : s.kind = 3
  · rw [if_pos h3] at h
    simp only [Bool.and_eq_true] at h
    exact .inr (.inr (.inl ⟨h3, h.1.1, some_ne h.1.2, once_all h.2⟩))
  rw [if_neg h3] at h
  by_cases h24 : s.kind = 2 ∨ s.kind = 4
  · exact .inr (.inl h24)
  rw [if_neg h24] at h
  by_cases h5 : s.kind = 5
  · rw [if_pos h5] at h
    simp only [arows, Bool.and_eq_true] at h
    refine .inr (.inr (.inr (.inl ⟨h5, some_ne h.1, fun r hr => ?_⟩)))
    have := List.all_eq_true.1 h.2 r hr
    simp only [rowOk, Bool.and_eq_true, Bool.not_eq_true', decide_eq_false_iff_not] at this
    exact ⟨fun e => this.1 (by rw [e]; rfl), this.2⟩
  rw [if_neg h5] at h
  by_cases h6 : s.kind = 6
  · rw [if_pos h6] at h
    simp only [Bool.and_eq_true] at h
    exact .inr (.inr (.inr (.inr (.inl ⟨h6, some_ne h.1.1.2, fun x hx => ⟨List.all_eq_true.1 h.1.1.1 x hx, once_all h.1.2 _ (List.mem_map.2 ⟨x, hx, rfl⟩)⟩, h.2⟩))))
  rw [if_neg h6] at h
  by_cases h7 : s.kind = 7
  · rw [if_pos h7] at h
    exact .inr (.inr (.inr (.inr (.inr (.inl ⟨h7, h⟩)))))
  rw [if_neg h7] at h
  by_cases h8 : s.kind = 8
  · rw [if_pos h8] at h
    simp only [Bool.and_eq_true, decide_eq_true_eq] at h
    obtain ⟨⟨⟨⟨a1, a2⟩, a3⟩, a4⟩, a5⟩ := h
    exact .inr (.inr (.inr (.inr (.inr (.inr ⟨h8, a1, a2, once_all a3, a4, a5⟩)))))
  rw [if_neg h8] at h
  cases h
/-! ## the law, kind by kind -/
end Go.Proofs.YthndhaolemgbdaaGreatDoor

/- The document's answer: a number's digits. -/
namespace Go.Proofs.YthndhaolemgbdaaGreatDoor
open Go.Ax
theorem at_dgt {l : List Int} {i : Nat} (h : i < l.length) : at' .int l (i : Int) = dgt l i := by
  rw [at_nat (c := .int) h]
  simp [dgt, h]
/-! ## exchequer/exchequerref02.trim -/
def rtrim_0_sg : Sig := ⟨29, [(0, .bool), (1, .sl .int false), (5, .int .i64)], [(4, .ptr 0 0)], [(0, .one (.sv .num))], 1, 0, 0, [], []⟩
abbrev rtrim_0_V := Bool × List Int × Int × Num
def rtrim_0 {R : Type} (rec : rtrim_0_V → Option R) (kx : Ex → rtrim_0_V → Option R) (v : rtrim_0_V) : Option R := match v with
 | (v, v1, v2, w) =>
  cond (decide (0 < v2)) (
   chk (inb (wr .i64 (v2 - 1)) v1.length) (
    cond (decide ((at' .int v1 (wr .i64 (v2 - 1))) = 0)) (
     rec (v, v1, (wr .i64 (v2 - 1)), w)) (
     kx (.exit 0) (v, v1, v2, w)))) (
   kx (.exit 0) (v, v1, v2, w))
def rtrim_px (R : Type) (k : Nat) : Px R := ⟨ttOf ttL, glT, callT [], callQT [], loopT [(2, loopOr k rtrim_0_sg (rtrim_0))]⟩
theorem rtrim_0_eq (R : Type) (k : Nat) : ∀ (fr : List Fr) (rec : rtrim_0_V → Option R) (kx : Ex → rtrim_0_V → Option R) (v : rtrim_0_V), round (rtrim_px R k) rtrim_0_sg (lp Tryz.f108 0) fr rec kx v = rtrim_0 rec kx v
  | fr, rec, kx, (v, v1, v2, w) => by kernel_rfl
def rtrim_body (k : Nat) (x : HV [.bool, .sl .int false]) : Option (HV [.sv .num]) := match x with
 | (m, d) =>
  iter (fun rec => rtrim_0 rec (fun e vz => match vz with | (v3, v4, v5, _) => match e with
   | .exit 0 =>
    cond (v3) (
     chk (upto 0 v5 v4.length) (
      some (Num.mk (decide (0 < v5)) (v4.take (v5 : Int).toNat)))) (
     chk (upto 0 v5 v4.length) (
      some (Num.mk false (v4.take (v5 : Int).toNat))))
   | _ => none)) k (m, d, (d.length : Int), (Num.mk false []))
theorem rtrim_eq (k : Nat) : ∀ (x : HV [.bool, .sl .int false]), runF (rtrim_px _ k) Tryz.f108 [.bool, .sl .int false] [.sv .num] x some = rtrim_body k x
  | (m, d) => by kernel_rfl
theorem rtrim_run (k : Nat) : FnOk Tryz.prog elT glT 108 [.bool, .sl .int false] [.sv .num] (rtrim_body k) := by
  refine fnOk_run Tryz.func108 rfl (by kernel_rfl) follows (by kernel_rfl) (n := 1) (by kernel_rfl) (px := rtrim_px _ k) (fun cx hP hel hgl => ?_) (rtrim_eq k)
  have hp0 : PxOk cx (rtrim_px (HV [.sv .num]) k) := ⟨fun t => by rw [hP, hel]; exact tt_ok ttL_ok t, by rw [hgl]; rfl⟩
  have hc0 : CallOk cx (rtrim_px (HV [.sv .num]) k) := callT_ok rfl cfs_nil
  have hq0 : CallQOk cx (rtrim_px (HV [.sv .num]) k) := callQT_ok rfl cqfs_nil
  have hlrtrim_0 : LoopOk cx (rtrim_px (HV [.sv .num]) k) (lp Tryz.f108 0) := loop_ok hp0 hc0 hq0 (by rw [hP]; exact follows) (k := k) (s := rtrim_0_sg) (step := rtrim_0) (fun _ _ => by kernel_rfl) (by kernel_rfl) (rtrim_0_eq _ k) (loops_in (n := 0) (by kernel_rfl) all0)
  exact ⟨hp0, hc0, hq0, (allS all0 hlrtrim_0)⟩
def rtrim (m : Bool) (d : List Int) : Num := ⟨m && decide (0 < ((trimL d).length : Int)), trimL d⟩
def rtrim_F : FT [.bool, .sl .int false] [.sv .num] := fun x => some (rtrim x.1 x.2)
theorem rtrim_loop {R : Type} {kx : Ex → rtrim_0_V → Option R} {m : Bool} {d : List Int} {w : Num} {b : Option R} (hn : ln d.length) (h2 : ∀ i : Nat, i ≤ d.length → d.take i = trimL d → kx (.exit 0) (m, d, (i : Int), w) = b) : ∀ (i k : Nat), i ≤ d.length → i < k → trimL (d.take i) = trimL d → iter (fun rec => rtrim_0 rec kx) k (m, d, (i : Int), w) = b
  | i, 0, _, h, _ => by omega
  | 0, k + 1, hi, _, ht => by
    rw [iter_s]
    simp only [rtrim_0]
    rw [decide_eq_false (by omega)]
    exact h2 0 hi ht
  | i + 1, k + 1, hi, h, ht => by
    rw [iter_s]
    have hl : i < d.length := by omega
    have e1 : wr .i64 (((i + 1 : Nat) : Int) - 1) = (i : Int) := by rw [wr_id (by simp only [inI, ln] at *; omega)]; omega
    simp only [rtrim_0]
    rw [decide_eq_true (show (0 : Int) < ((i + 1 : Nat) : Int) by omega), e1, inb_t hl, at_nat (c := .int) hl]
    show cond (decide (d[i] = 0)) _ _ = b
    have ht' := ht
    rw [List.take_add_one, List.getElem?_eq_getElem hl] at ht'
    by_cases h0 : d[i] = 0
    · rw [decide_eq_true h0]
      refine rtrim_loop hn h2 i k (by omega) (by omega) ?_
      rw [← ht', h0]
      exact (trimL_zero _).symm
    · rw [decide_eq_false h0]
      refine h2 (i + 1) hi ?_
      rw [← ht', List.take_add_one, List.getElem?_eq_getElem hl]
      exact (trimL_last h0 _).symm
theorem rtrim_ok : FnOk Tryz.prog elT glT 108 [.bool, .sl .int false] [.sv .num] rtrim_F := .fin 0 rtrim_run fun (m, d) r hb hx => ⟨d.length + 1, by
  simp only [rtrim_F, Option.some.injEq] at hx
  subst hx
  simp only [rtrim_body]
  refine rtrim_loop hb.2.1 (fun i hi ht => ?_) d.length (d.length + 1) (Nat.le_refl _) (by omega) (by rw [List.take_length])
  have hlen : (trimL d).length = i := by rw [← ht]; simp; omega
  have hu : upto 0 (i : Int) d.length = true := by
    rw [show (0 : Int) = ((0 : Nat) : Int) from rfl, upto_nat]
    simp [hi]
  rw [hu]
  simp only [chk_t, Int.toNat_natCast, ht, rtrim, hlen]
  cases m <;> rfl⟩
theorem rtrim_S {m : Bool} {d : List Int} (h : dg d = true) : rtrim m d = numS m (val d) := by
  have e := trimL_digs h
  have hv := val_nn h
  simp only [rtrim, numS, e]
  by_cases h0 : val d = 0
  · rw [h0, show digs (Int.toNat 0) = [] from digs_zero]; rfl
  · rw [digs_pos (n := (val d).toNat) (by omega), decide_eq_true (show (0 : Int) < val d by omega)]
    rw [decide_eq_true (by simp only [List.length_cons]; omega)]
/-! ## exchequer/exchequerref02.Of -/
def rOf_0_sg : Sig := ⟨24, [(0, .int .i64), (3, .sl .int true), (4, .int .i64)], [(2, .ptr 0 0)], [(0, .one (.sv .num))], 1, 0, 0, [], []⟩
abbrev rOf_0_V := Int × List Int × Int × Num
def rOf_0 {R : Type} (rec : rOf_0_V → Option R) (kx : Ex → rOf_0_V → Option R) (v : rOf_0_V) : Option R := match v with
 | (v, v1, v2, w) =>
  cond (!decide (v2 = 0)) (
   chk (decide (v1.length + 1 ≤ maxApp)) (
    rec (v, (v1 ++ [(max2 (Int.tmod v2 10) (wr .i64 (0 - (Int.tmod v2 10))))]), (wr .i64 (Int.tdiv v2 10)), w))) (
   kx (.exit 0) (v, v1, v2, w))
def rOf_px (R : Type) (k : Nat) : Px R := ⟨ttOf ttL, glT, callT [(108, callOr [.bool, .sl .int false] [.sv .num] rtrim_F)], callQT [], loopT [(3, loopOr k rOf_0_sg (rOf_0))]⟩
theorem rOf_0_eq (R : Type) (k : Nat) : ∀ (fr : List Fr) (rec : rOf_0_V → Option R) (kx : Ex → rOf_0_V → Option R) (v : rOf_0_V), round (rOf_px R k) rOf_0_sg (lp Tryz.f61 0) fr rec kx v = rOf_0 rec kx v
  | fr, rec, kx, (v, v1, v2, w) => by kernel_rfl
def rOf_body (k : Nat) (x : HV [.int .i64]) : Option (HV [.sv .num]) := match x with
 | n =>
  iter (fun rec => rOf_0 rec (fun e vz => match vz with | (v3, v4, _, _) => match e with
   | .exit 0 =>
    some (rtrim (decide (v3 < 0)) v4)
   | _ => none)) k (n, [], n, (Num.mk false []))
theorem rOf_eq (k : Nat) : ∀ (x : HV [.int .i64]), runF (rOf_px _ k) Tryz.f61 [.int .i64] [.sv .num] x some = rOf_body k x
  | n => by kernel_rfl
theorem rOf_run (k : Nat) : FnOk Tryz.prog elT glT 61 [.int .i64] [.sv .num] (rOf_body k) := by
  refine fnOk_run Tryz.func61 rfl (by kernel_rfl) follows (by kernel_rfl) (n := 1) (by kernel_rfl) (px := rOf_px _ k) (fun cx hP hel hgl => ?_) (rOf_eq k)
  have hp0 : PxOk cx (rOf_px (HV [.sv .num]) k) := ⟨fun t => by rw [hP, hel]; exact tt_ok ttL_ok t, by rw [hgl]; rfl⟩
  have hc0 : CallOk cx (rOf_px (HV [.sv .num]) k) := callT_ok rfl (cfs_cons (cf_or (by rw [hP, hel, hgl]; exact rtrim_ok) (by kernel_rfl)) cfs_nil)
  have hq0 : CallQOk cx (rOf_px (HV [.sv .num]) k) := callQT_ok rfl cqfs_nil
  have hlrOf_0 : LoopOk cx (rOf_px (HV [.sv .num]) k) (lp Tryz.f61 0) := loop_ok hp0 hc0 hq0 (by rw [hP]; exact follows) (k := k) (s := rOf_0_sg) (step := rOf_0) (fun _ _ => by kernel_rfl) (by kernel_rfl) (rOf_0_eq _ k) (loops_in (n := 0) (by kernel_rfl) all0)
  exact ⟨hp0, hc0, hq0, (allS all0 hlrOf_0)⟩
abbrev rOf (n : Int) : Num := numZ n
def rOf_F : FT [.int .i64] [.sv .num] := fun x => some (rOf x)
theorem ten_parts {x : Int} (hx : inI x) (h0 : ¬ x = 0) : max2 (Int.tmod x 10) (wr .i64 (0 - Int.tmod x 10)) = ((x.natAbs % 10 : Nat) : Int) ∧ inI (wr .i64 (Int.tdiv x 10)) ∧ (wr .i64 (Int.tdiv x 10)).natAbs = x.natAbs / 10 := by
  simp only [inI] at *
  rcases Int.natAbs_eq x with h | h
  · generalize x.natAbs = a at h
    subst h
    have e1 : Int.tmod (a : Int) 10 = ((a % 10 : Nat) : Int) := rfl
    have e2 : Int.tdiv (a : Int) 10 = ((a / 10 : Nat) : Int) := rfl
    rw [e1, e2, wr_id (by simp only [inI]; omega), wr_id (by simp only [inI]; omega)]
    refine ⟨?_, by omega, by omega⟩
    simp only [max2]
    split <;> omega
  · generalize x.natAbs = a at h
    subst h
    have e1 : Int.tmod (-(a : Int)) 10 = -((a % 10 : Nat) : Int) := by rw [Int.neg_tmod]; rfl
    have e2 : Int.tdiv (-(a : Int)) 10 = -((a / 10 : Nat) : Int) := by rw [Int.neg_tdiv]; rfl
    rw [e1, e2, wr_id (by simp only [inI]; omega), wr_id (by simp only [inI]; omega)]
    refine ⟨?_, by omega, by omega⟩
    simp only [max2]
    split <;> omega
theorem rOf_loop {R : Type} {kx : Ex → rOf_0_V → Option R} {n : Int} {w : Num} {b : List Int → Option R} (h2 : ∀ out x, kx (.exit 0) (n, out, x, w) = b out) : ∀ (k : Nat) (x : Int) (out : List Int), inI x → (digs x.natAbs).length < k → out.length + (digs x.natAbs).length ≤ 1000 → iter (fun rec => rOf_0 rec kx) k (n, out, x, w) = b (out ++ digs x.natAbs)
  | 0, x, out, _, h, _ => by omega
  | k + 1, x, out, hx, h, ho => by
    rw [iter_s]
    simp only [rOf_0, h2]
    by_cases h0 : x = 0
    · subst h0
      rw [decide_eq_true rfl]
      show b out = _
      rw [show (0 : Int).natAbs = 0 from rfl, digs_zero, List.append_nil]
    · have hd := digs_pos (n := x.natAbs) (by omega)
      obtain ⟨e1, e2, e3⟩ := ten_parts hx h0
      rw [hd, List.length_cons] at h ho
      have ih := rOf_loop h2 k (wr .i64 (Int.tdiv x 10)) (out ++ [((x.natAbs % 10 : Nat) : Int)]) e2 (by rw [e3]; omega) (by rw [e3]; simp only [List.length_append, List.length_cons, List.length_nil]; omega)
      rw [decide_eq_false h0, e1, ih, e3, decide_eq_true (show out.length + 1 ≤ maxApp by simp only [maxApp]; omega), hd]
      simp [chk]
theorem inI_digs {x : Int} (h : inI x) : (digs x.natAbs).length ≤ 20 := digs_len 20 _ (by
  simp only [inI] at h
  have : pw 20 = 100000000000000000000 := by kernel_rfl
  omega)
theorem rOf_ok : FnOk Tryz.prog elT glT 61 [.int .i64] [.sv .num] rOf_F := .fin 0 rOf_run fun n r hb hx => ⟨21, by
  have hb := inK_i64 hb
  have hl := inI_digs hb
  simp only [rOf_F, Option.some.injEq] at hx
  subst hx
  simp only [rOf_body]
  refine (rOf_loop (b := fun out => some (rtrim (decide (n < 0)) out)) (fun _ _ => rfl) 21 n [] hb (by omega) (by simp only [List.length_nil]; omega)).trans ?_
  rw [List.nil_append, rtrim_S (digs_dg _), digs_val]
  rfl⟩
end Go.Proofs.YthndhaolemgbdaaGreatDoor

/- The text of a value: the document's. -/
namespace Go.Proofs.YthndhaolemgbdaaGreatDoor
open Go.Ax
/-! ## (exchequer/exchequerref02.Num).Text -/
def rtext_0_sg : Sig := ⟨30, [(3, .str), (4, .int .i64)], [(1, .ptr 0 0)], [(0, .one (.sv .num))], 1, 0, 0, [], []⟩
abbrev rtext_0_V := Str × Int × Num
def rtext_0 {R : Type} (rec : rtext_0_V → Option R) (kx : Ex → rtext_0_V → Option R) (v : rtext_0_V) : Option R := match v with
 | (v, v1, w) =>
  cond (decide (v1 < (w.d.length : Int))) (
   chk (inb v1 w.d.length) (
    chk (decide ([(UInt8.ofNat ((wr .u8 (wr .i64 (48 + (at' .int w.d v1)))) : Int).toNat)].length + v.length ≤ maxStr)) (
     rec (([(UInt8.ofNat ((wr .u8 (wr .i64 (48 + (at' .int w.d v1)))) : Int).toNat)] ++ v), (wr .i64 (v1 + 1)), w)))) (
   kx (.exit 0) (v, v1, w))
def rtext_px (R : Type) (k : Nat) : Px R := ⟨ttOf ttL, glT, callT [], callQT [], loopT [(3, loopOr k rtext_0_sg (rtext_0))]⟩
theorem rtext_0_eq (R : Type) (k : Nat) : ∀ (fr : List Fr) (rec : rtext_0_V → Option R) (kx : Ex → rtext_0_V → Option R) (v : rtext_0_V), round (rtext_px R k) rtext_0_sg (lp Tryz.f62 0) fr rec kx v = rtext_0 rec kx v
  | fr, rec, kx, (v, v1, w) => by kernel_rfl
def rtext_body (k : Nat) (x : HV [.sv .num]) : Option (HV [.str]) := match x with
 | n =>
  iter (fun rec => rtext_0 rec (fun e vz => match vz with | (v2, _, v4) => match e with
   | .exit 0 =>
    cond (decide (v2 = [])) (
     some [48]) (
     cond (v4.minus) (
      chk (decide ([45].length + v2.length ≤ maxStr)) (
       some ([45] ++ v2))) (
      some v2))
   | _ => none)) k ([], 0, n)
theorem rtext_eq (k : Nat) : ∀ (x : HV [.sv .num]), runF (rtext_px _ k) Tryz.f62 [.sv .num] [.str] x some = rtext_body k x
  | n => by kernel_rfl
theorem rtext_run (k : Nat) : FnOk Tryz.prog elT glT 62 [.sv .num] [.str] (rtext_body k) := by
  refine fnOk_run Tryz.func62 rfl (by kernel_rfl) follows (by kernel_rfl) (n := 1) (by kernel_rfl) (px := rtext_px _ k) (fun cx hP hel hgl => ?_) (rtext_eq k)
  have hp0 : PxOk cx (rtext_px (HV [.str]) k) := ⟨fun t => by rw [hP, hel]; exact tt_ok ttL_ok t, by rw [hgl]; rfl⟩
  have hc0 : CallOk cx (rtext_px (HV [.str]) k) := callT_ok rfl cfs_nil
  have hq0 : CallQOk cx (rtext_px (HV [.str]) k) := callQT_ok rfl cqfs_nil
  have hlrtext_0 : LoopOk cx (rtext_px (HV [.str]) k) (lp Tryz.f62 0) := loop_ok hp0 hc0 hq0 (by rw [hP]; exact follows) (k := k) (s := rtext_0_sg) (step := rtext_0) (fun _ _ => by kernel_rfl) (by kernel_rfl) (rtext_0_eq _ k) (loops_in (n := 0) (by kernel_rfl) all0)
  exact ⟨hp0, hc0, hq0, (allS all0 hlrtext_0)⟩
def rtext (n : Num) : Option Str := cond (dg n.d && decide (n.d.length ≤ 100)) (some (if txt n.d = [] then [48] else if n.minus = true then 45 :: txt n.d else txt n.d)) none
def rtext_F : FT [.sv .num] [.str] := fun x => rtext x
theorem dch_i {d : Int} (h : 0 ≤ d ∧ d ≤ 9) : UInt8.ofNat ((wr .u8 (wr .i64 (48 + d))) : Int).toNat = dch d := by
  have e : wr .u8 (wr .i64 (48 + d)) = 48 + d := by
    rw [wr_id (by simp only [inI]; omega)]
    simp only [wr, IntKind.wrap, IntKind.bits, IntKind.signed]
    simp
    omega
  rw [e]; rfl
theorem txt_take {l : List Int} {i : Nat} (h : i < l.length) : txt (l.take (i + 1)) = dch (dgt l i) :: txt (l.take i) := by
  have e : l.take (i + 1) = l.take i ++ [dgt l i] := by
    rw [List.take_add_one, List.getElem?_eq_getElem h]
    simp [dgt, h]
  rw [e]
  simp [txt]
theorem rtext_loop {R : Type} {kx : Ex → rtext_0_V → Option R} {n : Num} {b : Str → Option R} (hd : dg n.d = true) (hn : n.d.length ≤ 100) (h2 : ∀ s j, kx (.exit 0) (s, j, n) = b s) : ∀ (k i : Nat), i ≤ n.d.length → n.d.length - i < k → iter (fun rec => rtext_0 rec kx) k (txt (n.d.take i), (i : Int), n) = b (txt n.d)
  | 0, i, _, h => absurd h (Nat.not_lt_zero _)
  | k + 1, i, hi, h => by
    rw [iter_s]
    by_cases hl : i < n.d.length
    · have hln : ln n.d.length := by simp only [ln]; omega
      have ih := rtext_loop hd hn h2 k (i + 1) (by omega) (by omega)
      rw [txt_take hl] at ih
      have hlen := txt_len (n.d.take i)
      rw [List.length_take] at hlen
      simp only [rtext_0, wr_succ hl hln, at_dgt hl, inb_t hl, dch_i (dgt_bd hd i)]
      rw [decide_eq_true (show (i : Int) < (n.d.length : Int) by omega)]
      refine (chk_t rfl).trans ((chk_t (decide_eq_true ?_)).trans ih)
      simp only [List.length_cons, List.length_nil, maxStr]
      omega
    · simp only [rtext_0, h2]
      rw [decide_eq_false (show ¬ (i : Int) < (n.d.length : Int) by omega), List.take_of_length_le (by omega)]
      rfl
theorem rtext_ok : FnOk Tryz.prog elT glT 62 [.sv .num] [.str] rtext_F := .fin 0 rtext_run fun n r hb hx => ⟨101, by
  simp only [rtext_F, rtext] at hx
  cases hc : dg n.d && decide (n.d.length ≤ 100) with
  | false => rw [hc] at hx; cases hx
  | true =>
    rw [hc] at hx
    simp only [Bool.and_eq_true, decide_eq_true_eq] at hc
    simp only [rtext_body]
    refine (rtext_loop (b := fun s => cond (decide (s = [])) (some [48]) (cond n.minus (chk (decide ([45].length + s.length ≤ maxStr)) (some ([45] ++ s))) (some s))) hc.1 hc.2 (fun _ _ => rfl) 101 0 (Nat.zero_le _) (by omega)).trans ?_
    rw [← hx]
    have hlen := txt_len n.d
    have hm : decide ([45].length + (txt n.d).length ≤ maxStr) = true := decide_eq_true (by simp only [List.length_cons, List.length_nil, maxStr]; omega)
    simp only [hm, chk, cond_t]
    by_cases h0 : txt n.d = []
    · rw [decide_eq_true h0, if_pos h0]; rfl
    · rw [decide_eq_false h0, if_neg h0]
      cases n.minus <;> rfl⟩
theorem rtext_Z {n : Int} (h : inI n) : rtext (numZ n) = some (numT n) := by
  have hl : (digs n.natAbs).length ≤ 20 := inI_digs h
  have hd : (numZ n).d = digs n.natAbs := by simp only [numZ, numS, Int.toNat_natCast]
  have hmn : (numZ n).minus = decide (n < 0) := by
    simp only [numZ, numS]
    by_cases h0 : n < 0
    · rw [decide_eq_true h0, decide_eq_true (by omega)]; rfl
    · rw [decide_eq_false h0]; rfl
  simp only [rtext, hd, hmn, digs_dg, numT]
  rw [decide_eq_true (show (digs n.natAbs).length ≤ 100 by omega)]
  by_cases h0 : n = 0
  · subst h0
    rw [show (0 : Int).natAbs = 0 from rfl, digs_zero]
    rfl
  · have hne : ¬ txt (digs n.natAbs) = [] := fun e => by
      have := congrArg List.length e
      rw [txt_len, digs_pos (n := n.natAbs) (by omega)] at this
      simp at this
    rw [if_neg hne, if_neg h0]
    by_cases h1 : n < 0
    · rw [decide_eq_true h1, if_pos rfl, if_pos h1]; rfl
    · rw [decide_eq_false h1, if_neg (by decide), if_neg h1]; rfl
/-! ## exchequer/exchequerref02.Print -/
def rprint_1_sg : Sig := ⟨92, [(6, .str), (7, .str), (8, .int .i64)], [(1, .ptr 0 0)], [(0, .one (.sv .val))], 1, 0, 0, [], []⟩
abbrev rprint_1_V := Str × Str × Int × Val
def rprint_1 {R : Type} (rec : rprint_1_V → Option R) (kx : Ex → rprint_1_V → Option R) (v : rprint_1_V) : Option R := match v with
 | (v6, v7, v8, w1) =>
  cond (decide (v8 < (w1.s.length : Int))) (
   chk (inb v8 w1.s.length) (
    chk (inb v8 w1.s.length) (
     chk (upto (wr .u8 (Int.tdiv (bat w1.s v8) 16)) (wr .u8 ((wr .u8 (Int.tdiv (bat w1.s v8) 16)) + 1)) v6.length) (
      chk (decide (v7.length + (cut v6 (wr .u8 (Int.tdiv (bat w1.s v8) 16)) (wr .u8 ((wr .u8 (Int.tdiv (bat w1.s v8) 16)) + 1))).length ≤ maxStr)) (
       chk (inb v8 w1.s.length) (
        chk (inb v8 w1.s.length) (
         chk (upto (Int.tmod (bat w1.s v8) 16) (wr .u8 ((Int.tmod (bat w1.s v8) 16) + 1)) v6.length) (
          chk (decide ((v7 ++ (cut v6 (wr .u8 (Int.tdiv (bat w1.s v8) 16)) (wr .u8 ((wr .u8 (Int.tdiv (bat w1.s v8) 16)) + 1)))).length + (cut v6 (Int.tmod (bat w1.s v8) 16) (wr .u8 ((Int.tmod (bat w1.s v8) 16) + 1))).length ≤ maxStr)) (
           rec (v6, ((v7 ++ (cut v6 (wr .u8 (Int.tdiv (bat w1.s v8) 16)) (wr .u8 ((wr .u8 (Int.tdiv (bat w1.s v8) 16)) + 1)))) ++ (cut v6 (Int.tmod (bat w1.s v8) 16) (wr .u8 ((Int.tmod (bat w1.s v8) 16) + 1)))), (wr .i64 (v8 + 1)), w1)))))))))) (
   kx (.exit 3) (v6, v7, v8, w1))
def rprint_0_sg : Sig := ⟨92, [(4, .str), (5, .int .i64)], [(1, .ptr 0 0)], [(0, .one (.sv .val))], 1, 0, 0, [], []⟩
abbrev rprint_0_V := Str × Int × Val
def rprint_0 {R : Type} (rec : rprint_0_V → Option R) (kx : Ex → rprint_0_V → Option R) (v : rprint_0_V) : Option R := match v with
 | (v1, v2, w) =>
  cond (decide (v2 < (w.s.length : Int))) (
   chk (upto v2 (wr .i64 (v2 + 1)) w.s.length) (
    chk (decide (v1.length + (cut w.s v2 (wr .i64 (v2 + 1))).length ≤ maxStr)) (
     chk (inb v2 w.s.length) (
      cond (decide ((bat w.s v2) = 39)) (
       chk (decide ((v1 ++ (cut w.s v2 (wr .i64 (v2 + 1)))).length + [39].length ≤ maxStr)) (
        rec (((v1 ++ (cut w.s v2 (wr .i64 (v2 + 1)))) ++ [39]), (wr .i64 (v2 + 1)), w))) (
       rec ((v1 ++ (cut w.s v2 (wr .i64 (v2 + 1)))), (wr .i64 (v2 + 1)), w)))))) (
   kx (.exit 1) (v1, v2, w))
def rprint_px (R : Type) (k : Nat) : Px R := ⟨ttOf ttL, glT, callT [(101, callOr [.sv .val] [.int .i64] rcheck_F), (61, callOr [.int .i64] [.sv .num] rOf_F), (62, callOr [.sv .num] [.str] rtext_F)], callQT [], loopT [(16, loopOr k rprint_0_sg (rprint_0)), (25, loopOr k rprint_1_sg (rprint_1))]⟩
theorem rprint_0_eq (R : Type) (k : Nat) : ∀ (fr : List Fr) (rec : rprint_0_V → Option R) (kx : Ex → rprint_0_V → Option R) (v : rprint_0_V), round (rprint_px R k) rprint_0_sg (lp Tryz.f99 0) fr rec kx v = rprint_0 rec kx v
  | fr, rec, kx, (v1, v2, w) => by kernel_rfl
theorem rprint_1_eq (R : Type) (k : Nat) : ∀ (fr : List Fr) (rec : rprint_1_V → Option R) (kx : Ex → rprint_1_V → Option R) (v : rprint_1_V), round (rprint_px R k) rprint_1_sg (lp Tryz.f99 1) fr rec kx v = rprint_1 rec kx v
  | fr, rec, kx, (v6, v7, v8, w1) => by kernel_rfl
def rprint_body (k : Nat) (x : HV [.sv .val]) : Option (HV [.str]) := match x with
 | v =>
  cond (!decide ((rcheck v) = 0)) (
   some []) (
   cond (decide (v.kind = 1)) (
    some [78, 85, 76, 76]) (
    cond (decide (v.kind = 2)) (
     cond (decide (v.n = 0)) (
      some [70, 65, 76, 83, 69]) (
      some [84, 82, 85, 69])) (
     cond (decide (v.kind = 3)) (
      (rtext (rOf v.n)).bind fun x =>
       some x) (
      cond (decide (v.kind = 4)) (
       iter (fun rec => rprint_0 rec (fun e vz => match vz with | (v3, _, _) => match e with
        | .exit 1 =>
         chk (decide (v3.length + [39].length ≤ maxStr)) (
          some (v3 ++ [39]))
        | _ => none)) k ([39], 0, v)) (
       iter (fun rec => rprint_1 rec (fun e vz => match vz with | (_, v10, _, _) => match e with
        | .exit 3 =>
         chk (decide (v10.length + [39].length ≤ maxStr)) (
          some (v10 ++ [39]))
        | _ => none)) k ([48, 49, 50, 51, 52, 53, 54, 55, 56, 57, 97, 98, 99, 100, 101, 102], [120, 39], 0, v))))))
theorem rprint_eq (k : Nat) : ∀ (x : HV [.sv .val]), runF (rprint_px _ k) Tryz.f99 [.sv .val] [.str] x some = rprint_body k x
  | v => by kernel_rfl
theorem rprint_run (k : Nat) : FnOk Tryz.prog elT glT 99 [.sv .val] [.str] (rprint_body k) := by
  refine fnOk_run Tryz.func99 rfl (by kernel_rfl) follows (by kernel_rfl) (n := 2) (by kernel_rfl) (px := rprint_px _ k) (fun cx hP hel hgl => ?_) (rprint_eq k)
  have hp0 : PxOk cx (rprint_px (HV [.str]) k) := ⟨fun t => by rw [hP, hel]; exact tt_ok ttL_ok t, by rw [hgl]; rfl⟩
  have hc0 : CallOk cx (rprint_px (HV [.str]) k) := callT_ok rfl (cfs_cons (cf_or (by rw [hP, hel, hgl]; exact rcheck_ok) (by kernel_rfl)) (cfs_cons (cf_or (by rw [hP, hel, hgl]; exact rOf_ok) (by kernel_rfl)) (cfs_cons (cf_or (by rw [hP, hel, hgl]; exact rtext_ok) (by kernel_rfl)) cfs_nil)))
  have hq0 : CallQOk cx (rprint_px (HV [.str]) k) := callQT_ok rfl cqfs_nil
  have hlrprint_0 : LoopOk cx (rprint_px (HV [.str]) k) (lp Tryz.f99 0) := loop_ok hp0 hc0 hq0 (by rw [hP]; exact follows) (k := k) (s := rprint_0_sg) (step := rprint_0) (fun _ _ => by kernel_rfl) (by kernel_rfl) (rprint_0_eq _ k) (loops_in (n := 0) (by kernel_rfl) all0)
  have hlrprint_1 : LoopOk cx (rprint_px (HV [.str]) k) (lp Tryz.f99 1) := loop_ok hp0 hc0 hq0 (by rw [hP]; exact follows) (k := k) (s := rprint_1_sg) (step := rprint_1) (fun _ _ => by kernel_rfl) (by kernel_rfl) (rprint_1_eq _ k) (loops_in (n := 0) (by kernel_rfl) all0)
  exact ⟨hp0, hc0, hq0, (allS (allS all0 hlrprint_0) hlrprint_1)⟩
abbrev rprint (v : Val) : Str := vprint v
def rprint_F : FT [.sv .val] [.str] := fun x => some (rprint x)
theorem cut_one {l : Str} {i : Nat} (h : i < l.length) : cut l (i : Int) ((i + 1 : Nat) : Int) = [l[i]] := by
  simp only [cut, Int.toNat_natCast, Nat.add_sub_cancel_left]
  rw [drop_cons h]
  rfl
theorem rprint_l0 {R : Type} {kx : Ex → rprint_0_V → Option R} {v : Val} {b : Str → Option R} (hn : v.s.length ≤ 1000) (h2 : ∀ s j, kx (.exit 1) (s, j, v) = b s) : ∀ (k i : Nat) (acc : Str), i ≤ v.s.length → v.s.length - i < k → acc.length ≤ 2 * i + 1 → iter (fun rec => rprint_0 rec kx) k (acc, (i : Int), v) = b (acc ++ quo (v.s.drop i))
  | 0, i, _, _, h, _ => absurd h (Nat.not_lt_zero _)
  | k + 1, i, acc, hi, h, ha => by
    rw [iter_s]
    by_cases hl : i < v.s.length
    · have hln : ln v.s.length := by simp only [ln]; omega
      have hu : upto (i : Int) ((i + 1 : Nat) : Int) v.s.length = true := by
        rw [upto_nat, decide_eq_true (Nat.le_succ i), decide_eq_true (show i + 1 ≤ v.s.length by omega)]; rfl
      have a1 : decide (acc.length + [v.s[i]].length ≤ maxStr) = true := decide_eq_true (by simp only [List.length_cons, List.length_nil, maxStr]; omega)
      have a2 : decide ((acc ++ [v.s[i]]).length + [39].length ≤ maxStr) = true := decide_eq_true (by simp only [List.length_append, List.length_cons, List.length_nil, maxStr]; omega)
      simp only [rprint_0, wr_succ hl hln, hu, cut_one hl, inb_t hl, bat_nat hl, a1, a2, chk, cond_t]
      rw [decide_eq_true (show (i : Int) < (v.s.length : Int) by omega), drop_cons hl]
      by_cases h39 : v.s[i] = 39
      · have ih := rprint_l0 hn h2 k (i + 1) (acc ++ [v.s[i]] ++ [39]) (by omega) (by omega) (by simp only [List.length_append, List.length_cons, List.length_nil]; omega)
        have e : decide (((v.s[i]).toNat : Int) = 39) = true := decide_eq_true (by rw [h39]; rfl)
        rw [e, ih]
        simp only [quo, h39, List.append_assoc, List.singleton_append]
        rfl
      · have ih := rprint_l0 hn h2 k (i + 1) (acc ++ [v.s[i]]) (by omega) (by omega) (by simp only [List.length_append, List.length_cons, List.length_nil]; omega)
        have e : decide (((v.s[i]).toNat : Int) = 39) = false := decide_eq_false fun q => h39 (UInt8.toNat_inj.1 (by
          have : (39 : UInt8).toNat = 39 := rfl
          omega))
        rw [e, ih]
        simp only [quo, if_neg h39, List.append_assoc, List.singleton_append]
        rfl
    · simp only [rprint_0, h2]
      rw [decide_eq_false (show ¬ (i : Int) < (v.s.length : Int) by omega), List.drop_eq_nil_of_le (by omega)]
      simp [quo]
def hyOk (n : Nat) : Bool := upto (wr .u8 (Int.tdiv (n : Int) 16)) (wr .u8 ((wr .u8 (Int.tdiv (n : Int) 16)) + 1)) 16 && upto (Int.tmod (n : Int) 16) (wr .u8 ((Int.tmod (n : Int) 16) + 1)) 16 && decide (cut hexL (wr .u8 (Int.tdiv (n : Int) 16)) (wr .u8 ((wr .u8 (Int.tdiv (n : Int) 16)) + 1)) = [hexL.getD (n / 16) 0]) && decide (cut hexL (Int.tmod (n : Int) 16) (wr .u8 ((Int.tmod (n : Int) 16) + 1)) = [hexL.getD (n % 16) 0])
theorem hy_all : ((List.range 256).all hyOk) = true := by kernel_rfl
theorem hy (b : UInt8) : upto (wr .u8 (Int.tdiv (b.toNat : Int) 16)) (wr .u8 ((wr .u8 (Int.tdiv (b.toNat : Int) 16)) + 1)) 16 = true ∧ upto (Int.tmod (b.toNat : Int) 16) (wr .u8 ((Int.tmod (b.toNat : Int) 16) + 1)) 16 = true ∧ cut hexL (wr .u8 (Int.tdiv (b.toNat : Int) 16)) (wr .u8 ((wr .u8 (Int.tdiv (b.toNat : Int) 16)) + 1)) = [hexL.getD (b.toNat / 16) 0] ∧ cut hexL (Int.tmod (b.toNat : Int) 16) (wr .u8 ((Int.tmod (b.toNat : Int) 16) + 1)) = [hexL.getD (b.toNat % 16) 0] := by
  have h := List.all_eq_true.1 hy_all b.toNat (List.mem_range.2 b.toNat_lt)
  simp only [hyOk, Bool.and_eq_true, decide_eq_true_eq] at h
  exact ⟨h.1.1.1, h.1.1.2, h.1.2, h.2⟩
theorem rprint_l1 {R : Type} {kx : Ex → rprint_1_V → Option R} {v : Val} {b : Str → Option R} (hn : v.s.length ≤ 1000) (h2 : ∀ s j, kx (.exit 3) (hexL, s, j, v) = b s) : ∀ (k i : Nat) (acc : Str), i ≤ v.s.length → v.s.length - i < k → acc.length ≤ 2 * i + 2 → iter (fun rec => rprint_1 rec kx) k (hexL, acc, (i : Int), v) = b (acc ++ hexs (v.s.drop i))
  | 0, i, _, _, h, _ => absurd h (Nat.not_lt_zero _)
  | k + 1, i, acc, hi, h, ha => by
    rw [iter_s]
    by_cases hl : i < v.s.length
    · have hln : ln v.s.length := by simp only [ln]; omega
      obtain ⟨u1, u2, u3, u4⟩ := hy (v.s[i]'hl)
      have hxl : hexL.length = 16 := rfl
      have a1 : decide (acc.length + [hexL.getD ((v.s[i]'hl).toNat / 16) 0].length ≤ maxStr) = true := decide_eq_true (by simp only [List.length_cons, List.length_nil, maxStr]; omega)
      have a2 : decide ((acc ++ [hexL.getD ((v.s[i]'hl).toNat / 16) 0]).length + [hexL.getD ((v.s[i]'hl).toNat % 16) 0].length ≤ maxStr) = true := decide_eq_true (by simp only [List.length_append, List.length_cons, List.length_nil, maxStr]; omega)
      have ih := rprint_l1 hn h2 k (i + 1) (acc ++ [hexL.getD ((v.s[i]'hl).toNat / 16) 0] ++ [hexL.getD ((v.s[i]'hl).toNat % 16) 0]) (by omega) (by omega) (by simp only [List.length_append, List.length_cons, List.length_nil]; omega)
      simp only [rprint_1, wr_succ hl hln, inb_t hl, bat_nat hl, hxl, u1, u2, u3, u4, a1, a2, chk, cond_t, ih]
      rw [decide_eq_true (show (i : Int) < (v.s.length : Int) by omega), drop_cons hl]
      simp only [hexs, List.flatMap_cons, hex2, List.append_assoc, List.cons_append, List.nil_append, cond_t]
    · simp only [rprint_1, h2]
      rw [decide_eq_false (show ¬ (i : Int) < (v.s.length : Int) by omega), List.drop_eq_nil_of_le (by omega)]
      simp [hexs]
theorem right_kind {v : Val} (h : vright v = true) (h1 : ¬ v.kind = 1) (h2 : ¬ v.kind = 2) (h3 : ¬ v.kind = 3) (h4 : ¬ v.kind = 4) : v.kind = 5 := by
  by_cases h5 : v.kind = 5
  · exact h5
  · simp [vright, h1, h2, h3, h4, h5] at h
theorem rprint_ok : FnOk Tryz.prog elT glT 99 [.sv .val] [.str] rprint_F := .fin 0 rprint_run fun v r hb hx => ⟨1001, by
  have hbn : inI v.n := hb.2.1
  simp only [rprint_F, Option.some.injEq] at hx
  subst hx
  simp only [rprint_body, vprint, rcheck]
  cases hr : vright v with
  | false =>
    have : vcheck v = 2 := by simp [vcheck, hr]
    rw [decide_eq_false (show ¬ vcheck v = 0 by omega)]; rfl
  | true =>
    have : vcheck v = 0 := vcheck_iff.2 hr
    rw [decide_eq_true this]
    simp only [Bool.not_true, cond_f, cond_t]
    by_cases k1 : v.kind = 1
    · rw [decide_eq_true k1, if_neg (by omega), if_neg (by omega), if_neg (by omega), if_neg (by omega)]; rfl
    · rw [decide_eq_false k1]
      by_cases k2 : v.kind = 2
      · rw [decide_eq_true k2, if_pos k2]
        rcases right_bool hr k2 with h | h <;> rw [h] <;> rfl
      · rw [decide_eq_false k2, if_neg k2]
        by_cases k3 : v.kind = 3
        · rw [decide_eq_true k3, if_pos k3]
          simp only [cond_t, cond_f, rOf, rtext_Z hbn, Option.bind_some]
        · rw [decide_eq_false k3, if_neg k3]
          by_cases k4 : v.kind = 4
          · have hl := right_len hr (.inl k4)
            have hq := quo_len v.s
            rw [decide_eq_true k4, if_pos k4]
            refine (rprint_l0 (b := fun s => chk (decide (s.length + [39].length ≤ maxStr)) (some (s ++ [39]))) hl (fun _ _ => rfl) 1001 0 [39] (Nat.zero_le _) (by omega) (by simp)).trans ?_
            refine (chk_t (decide_eq_true ?_)).trans rfl
            simp only [List.length_append, List.length_cons, List.length_nil, List.drop_zero, maxStr]
            omega
          · rw [decide_eq_false k4, if_neg k4]
            have k5 := right_kind hr k1 k2 k3 k4
            have hl := right_len hr (.inr k5)
            have hh := hexs_len v.s
            rw [if_pos k5]
            refine (rprint_l1 (b := fun s => chk (decide (s.length + [39].length ≤ maxStr)) (some (s ++ [39]))) hl (fun _ _ => rfl) 1001 0 [120, 39] (Nat.zero_le _) (by omega) (by simp)).trans ?_
            refine (chk_t (decide_eq_true ?_)).trans rfl
            simp only [List.length_append, List.length_cons, List.length_nil, List.drop_zero, maxStr]
            omega⟩
end Go.Proofs.YthndhaolemgbdaaGreatDoor
