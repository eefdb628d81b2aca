/- Texts of the proof, one behind the other: Rk, Rl, Rm, Rf, Rg, Rh, Rn. -/
import Derived.Test.YtlhebakbbfmiiaaDoorEv4
/- The document's answer: a sum of any two numbers. -/
namespace Go.Proofs.YtlhebakbbfmiiaaDoor
open Go.Ax
/-! ## (exchequer/exchequerref02.Num).Plus -/
def rPlus_1_sg : Sig := ⟨99, [(5, .sl .int true), (6, .int .i64), (11, .int .i64)], [(4, .ptr 2 0), (9, .ptr 3 0), (10, .ptr 4 0)], [(2, .one (.sv .num)), (3, .one (.sv .num)), (4, .one (.sv .num))], 5, 0, 0, [], []⟩
abbrev rPlus_1_V := List Int × Int × Int × Num × Num × Num
def rPlus_1 {R : Type} (rec : rPlus_1_V → Option R) (kx : Ex → rPlus_1_V → Option R) (v : rPlus_1_V) : Option R := match v with
 | (v9, v10, v11, w3, w4, w5) =>
  cond (decide (v11 < (w4.d.length : Int))) (
   chk (inb v11 w4.d.length) (
    (rdigit w5.d v11).bind fun x3 =>
     chk (decide (v9.length + 1 ≤ maxApp)) (
      rec ((v9 ++ [(Int.tmod (wr .i64 ((wr .i64 ((wr .i64 ((at' .int w4.d v11) - x3)) - v10)) + 10)) 10)]), (wr .i64 (1 - (wr .i64 (Int.tdiv (wr .i64 ((wr .i64 ((wr .i64 ((at' .int w4.d v11) - x3)) - v10)) + 10)) 10)))), (wr .i64 (v11 + 1)), w3, w4, w5)))) (
   kx (.exit 2) (v9, v10, v11, w3, w4, w5))
def rPlus_0_sg : Sig := ⟨99, [(5, .sl .int true), (6, .int .i64), (7, .int .i64)], [(2, .ptr 0 0), (3, .ptr 1 0), (4, .ptr 2 0)], [(0, .one (.sv .num)), (1, .one (.sv .num)), (2, .one (.sv .num))], 3, 0, 0, [], []⟩
abbrev rPlus_0_V := List Int × Int × Int × Num × Num × Num
def rPlus_0 {R : Type} (rec : rPlus_0_V → Option R) (kx : Ex → rPlus_0_V → Option R) (v : rPlus_0_V) : Option R := match v with
 | (v, v1, v2, w, w1, w2) =>
  let j := fun (_ : Unit) =>
   (rdigit w.d v2).bind fun x =>
    (rdigit w1.d v2).bind fun x1 =>
     chk (decide (v.length + 1 ≤ maxApp)) (
      rec ((v ++ [(Int.tmod (wr .i64 ((wr .i64 (x + x1)) + v1)) 10)]), (wr .i64 (Int.tdiv (wr .i64 ((wr .i64 (x + x1)) + v1)) 10)), (wr .i64 (v2 + 1)), w, w1, w2))
  cond (decide (v2 < (w.d.length : Int))) (
   j ()) (
   cond (decide (v2 < (w1.d.length : Int))) (
    j ()) (
    cond (decide (0 < v1)) (
     j ()) (
     kx (.exit 0) (v, v1, v2, w, w1, w2))))
def rPlus_px (R : Type) (k : Nat) : Px R := ⟨ttOf ttL, glT, callT [(78, callOr [.bool, .sl .int false] [.sv .num] rtrim_F), (80, callOr [.sl .int false, .sl .int false] [.bool] rless_F)], callQT [(79, callOrQ [.sl .int false, .int .i64] [.int .i64] rdigit_F)], loopT [(5, loopOr k rPlus_0_sg (rPlus_0)), (17, loopOr k rPlus_1_sg (rPlus_1))]⟩
theorem rPlus_0_eq (R : Type) (k : Nat) : ∀ (fr : List Fr) (rec : rPlus_0_V → Option R) (kx : Ex → rPlus_0_V → Option R) (v : rPlus_0_V), round (rPlus_px R k) rPlus_0_sg (lp Tryd.f74 0) fr rec kx v = rPlus_0 rec kx v
  | fr, rec, kx, (v, v1, v2, w, w1, w2) => by kernel_rfl
theorem rPlus_1_eq (R : Type) (k : Nat) : ∀ (fr : List Fr) (rec : rPlus_1_V → Option R) (kx : Ex → rPlus_1_V → Option R) (v : rPlus_1_V), round (rPlus_px R k) rPlus_1_sg (lp Tryd.f74 1) fr rec kx v = rPlus_1 rec kx v
  | fr, rec, kx, (v9, v10, v11, w3, w4, w5) => by kernel_rfl
def rPlus_body (k : Nat) (x : HV [.sv .num, .sv .num]) : Option (HV [.sv .num]) := match x with
 | (n, m) =>
  cond (decide (n.minus = m.minus)) (
   iter (fun rec => rPlus_0 rec (fun e v => match v with | (v3, _, _, v6, _, _) => match e with
    | .exit 0 =>
     some (rtrim v6.minus v3)
    | _ => none)) k ([], 0, 0, n, m, (Num.mk false []))) (
   let j1 := fun (q : Num) (q1 : Num) =>
    iter (fun rec => rPlus_1 rec (fun e v => match v with | (v12, _, _, _, v16, _) => match e with
     | .exit 2 =>
      some (rtrim v16.minus v12)
     | _ => none)) k ([], 0, 0, (Num.mk false []), q, q1)
   (rless n.d m.d).bind fun x2 =>
    cond (x2) (
     j1 m n) (
     j1 n m))
theorem rPlus_eq (k : Nat) : ∀ (x : HV [.sv .num, .sv .num]), runF (rPlus_px _ k) Tryd.f74 [.sv .num, .sv .num] [.sv .num] x some = rPlus_body k x
  | (n, m) => by kernel_rfl
theorem rPlus_run (k : Nat) : FnOk Tryd.prog elT glT 74 [.sv .num, .sv .num] [.sv .num] (rPlus_body k) := by
  refine fnOk_run Tryd.func74 rfl (by kernel_rfl) follows (by kernel_rfl) (n := 2) (by kernel_rfl) (px := rPlus_px _ k) (fun cx hP hel hgl => ?_) (rPlus_eq k)
  have hp0 : PxOk cx (rPlus_px (HV [.sv .num]) k) := ⟨fun t => by rw [hP, hel]; exact tt_ok ttL_ok t, by rw [hgl]; rfl⟩
  have hc0 : CallOk cx (rPlus_px (HV [.sv .num]) k) := callT_ok rfl (cfs_cons (cf_or (by rw [hP, hel, hgl]; exact rtrim_ok) (by kernel_rfl)) (cfs_cons (cf_or (by rw [hP, hel, hgl]; exact rless_ok) (by kernel_rfl)) cfs_nil))
  have hq0 : CallQOk cx (rPlus_px (HV [.sv .num]) k) := callQT_ok rfl (cqfs_cons (cqf_or (by rw [hP, hel, hgl]; exact rdigit_ok) (by kernel_rfl)) cqfs_nil)
  have hlrPlus_0 : LoopOk cx (rPlus_px (HV [.sv .num]) k) (lp Tryd.f74 0) := loop_ok hp0 hc0 hq0 (by rw [hP]; exact follows) (k := k) (s := rPlus_0_sg) (step := rPlus_0) (fun _ _ => by kernel_rfl) (by kernel_rfl) (rPlus_0_eq _ k) (loops_in (n := 0) (by kernel_rfl) all0)
  have hlrPlus_1 : LoopOk cx (rPlus_px (HV [.sv .num]) k) (lp Tryd.f74 1) := loop_ok hp0 hc0 hq0 (by rw [hP]; exact follows) (k := k) (s := rPlus_1_sg) (step := rPlus_1) (fun _ _ => by kernel_rfl) (by kernel_rfl) (rPlus_1_eq _ k) (loops_in (n := 0) (by kernel_rfl) all0)
  exact ⟨hp0, hc0, hq0, (allS (allS all0 hlrPlus_0) hlrPlus_1)⟩
def rPlus (n m : Num) : Option Num := cond (okN n && okN m) (some (numZ (nv n + nv m))) none
def rPlus_F : FT [.sv .num, .sv .num] [.sv .num] := fun x => rPlus x.1 x.2
theorem rPlus_l0 {R : Type} {kx : Ex → rPlus_0_V → Option R} {n m w2 : Num} {b : List Int → Option R} (hn : dg n.d = true) (hm : dg m.d = true) {L : Nat} (hL : L ≤ 1000) (h3 : n.d.length ≤ L) (h4 : m.d.length ≤ L) (h2 : ∀ out c i, kx (.exit 0) (out, c, i, n, m, w2) = b out) : ∀ (k i : Nat) (out : List Int) (c : Int), 0 ≤ c → c ≤ 1 → out.length = i → (i : Int) + c ≤ (L : Int) + 1 → 2 * (L - i) + c.toNat < k → dg out = true → ∃ D, dg (out ++ D) = true ∧ val D = val (n.d.drop i) + val (m.d.drop i) + c ∧ iter (fun rec => rPlus_0 rec kx) k (out, c, (i : Int), n, m, w2) = b (out ++ D)
  | 0, i, out, c, _, _, _, _, h, _ => by omega
  | k + 1, i, out, c, c0, c1, ho, hi, hk, hd => by
    have dn := dgt_bd hn i
    have dm := dgt_bd hm i
    have vn := val_drop n.d i
    have vm := val_drop m.d i
    rw [iter_s]
    simp only [rPlus_0, rdigit_nat, Option.bind_some, h2]
    by_cases hgo : i < n.d.length ∨ i < m.d.length ∨ 0 < c
    · have hx : 0 ≤ dgt n.d i + dgt m.d i + c ∧ dgt n.d i + dgt m.d i + c ≤ 19 := by omega
      obtain ⟨x, hxe⟩ : ∃ x, x = dgt n.d i + dgt m.d i + c := ⟨_, rfl⟩
      have e1 : wr .i64 (wr .i64 (dgt n.d i + dgt m.d i) + c) = x := by
        rw [wr_id (n := dgt n.d i + dgt m.d i) (by simp only [inI]; omega), wr_id (by simp only [inI]; omega), hxe]
      rw [← hxe] at hx
      obtain ⟨t1, t2⟩ := ten hx.1
      have e2 : wr .i64 (x / 10) = x / 10 := wr_id (by simp only [inI]; omega)
      have e3 : wr .i64 ((i : Int) + 1) = ((i + 1 : Nat) : Int) := by rw [wr_id (by simp only [inI]; omega)]; omega
      have hdx : dg (out ++ [x % 10]) = true := dg_app.2 ⟨hd, dg_cons.2 ⟨by omega, rfl⟩⟩
      have hbeyond : ¬ i < n.d.length → ¬ i < m.d.length → x = c := fun a b => by
        have z1 : dgt n.d i = 0 := by simp [dgt, List.getElem?_eq_none (Nat.le_of_not_lt a)]
        have z2 : dgt m.d i = 0 := by simp [dgt, List.getElem?_eq_none (Nat.le_of_not_lt b)]
        omega
      obtain ⟨D, q1, q2, q3⟩ := rPlus_l0 hn hm hL h3 h4 h2 k (i + 1) (out ++ [x % 10]) (x / 10) (by omega) (by omega) (by simp [ho]) (by omega) (by
        by_cases a : i < L
        · omega
        · have := hbeyond (by omega) (by omega)
          omega) hdx
      have ha : out.length + 1 ≤ maxApp := by simp only [maxApp]; omega
      rw [e1, t1, t2, e2, e3, q3, decide_eq_true ha]
      refine ⟨x % 10 :: D, by simpa using q1, by simp only [val]; omega, ?_⟩
      simp only [chk, cond_t]
      have ee : out ++ [x % 10] ++ D = out ++ x % 10 :: D := by simp
      rw [ee]
      by_cases a : (i : Int) < (n.d.length : Int)
      · rw [decide_eq_true a]; rfl
      · rw [decide_eq_false a]
        by_cases b' : (i : Int) < (m.d.length : Int)
        · rw [decide_eq_true b']; rfl
        · rw [decide_eq_false b', decide_eq_true (show 0 < c by omega)]; rfl
    · refine ⟨[], by simpa using hd, ?_, ?_⟩
      · rw [List.drop_eq_nil_of_le (by omega), List.drop_eq_nil_of_le (by omega)]
        simp only [val]; omega
      · rw [decide_eq_false (show ¬ (i : Int) < (n.d.length : Int) by omega), decide_eq_false (show ¬ (i : Int) < (m.d.length : Int) by omega), decide_eq_false (show ¬ 0 < c by omega), List.append_nil]
        rfl
theorem rPlus_l1 {R : Type} {kx : Ex → rPlus_1_V → Option R} {n m w2 : Num} {b : List Int → Option R} (hn : dg n.d = true) (hm : dg m.d = true) (hL : n.d.length ≤ 1000) (h2 : ∀ out c i, kx (.exit 2) (out, c, i, w2, n, m) = b out) : ∀ (k i : Nat) (out : List Int) (c : Int), 0 ≤ c → c ≤ 1 → out.length = i → i ≤ n.d.length → n.d.length - i < k → dg out = true → ∃ D cf, dg (out ++ D) = true ∧ D.length = n.d.length - i ∧ (0 ≤ cf ∧ cf ≤ 1) ∧ val D = val (n.d.drop i) - val ((m.d.drop i).take (n.d.length - i)) - c + pw (n.d.length - i) * cf ∧ iter (fun rec => rPlus_1 rec kx) k (out, c, (i : Int), w2, n, m) = b (out ++ D)
  | 0, i, out, c, _, _, _, _, h, _ => by omega
  | k + 1, i, out, c, c0, c1, ho, hi, hk, hd => by
    rw [iter_s]
    simp only [rPlus_1, rdigit_nat, Option.bind_some, h2]
    by_cases hl : i < n.d.length
    · have dn := dgt_bd hn i
      have dm := dgt_bd hm i
      have vn := val_drop n.d i
      obtain ⟨l, hle⟩ : ∃ l, n.d.length - i = l + 1 := ⟨n.d.length - i - 1, by omega⟩
      have vm := val_dt m.d i l
      obtain ⟨x, hxe⟩ : ∃ x, x = dgt n.d i - dgt m.d i - c + 10 := ⟨_, rfl⟩
      have hx : 0 ≤ x ∧ x ≤ 19 := by omega
      have e1 : wr .i64 (wr .i64 (wr .i64 (dgt n.d i - dgt m.d i) - c) + 10) = x := by
        rw [wr_id (n := dgt n.d i - dgt m.d i) (by simp only [inI]; omega), wr_id (n := dgt n.d i - dgt m.d i - c) (by simp only [inI]; omega), wr_id (by simp only [inI]; omega), hxe]
      obtain ⟨t1, t2⟩ := ten hx.1
      have e2 : wr .i64 (1 - wr .i64 (x / 10)) = 1 - x / 10 := by rw [wr_id (n := x / 10) (by simp only [inI]; omega), wr_id (by simp only [inI]; omega)]
      have e3 : wr .i64 ((i : Int) + 1) = ((i + 1 : Nat) : Int) := by rw [wr_id (by simp only [inI]; omega)]; omega
      have hdx : dg (out ++ [x % 10]) = true := dg_app.2 ⟨hd, dg_cons.2 ⟨by omega, rfl⟩⟩
      obtain ⟨D, cf, q1, q2, q3, q4, q5⟩ := rPlus_l1 hn hm hL h2 k (i + 1) (out ++ [x % 10]) (1 - x / 10) (by omega) (by omega) (by simp [ho]) (by omega) (by omega) hdx
      have ha : out.length + 1 ≤ maxApp := by simp only [maxApp]; omega
      have hl2 : n.d.length - (i + 1) = l := by omega
      rw [hl2] at q2 q4
      rw [hle, vm]
      rw [at_dgt hl, e1, t1, t2, e2, e3, q5, decide_eq_true ha, inb_t hl, decide_eq_true (show (i : Int) < (n.d.length : Int) by omega)]
      refine ⟨x % 10 :: D, cf, by simpa using q1, by simp [q2], q3, ?_, ?_⟩
      · simp only [val, pw, Int.mul_assoc]
        omega
      · have ee : out ++ [x % 10] ++ D = out ++ x % 10 :: D := by simp
        rw [ee]
        rfl
    · have e0 : n.d.length - i = 0 := by omega
      refine ⟨[], c, by simpa using hd, by simp [e0], ⟨c0, c1⟩, ?_, ?_⟩
      · rw [e0, List.drop_eq_nil_of_le (by omega)]
        simp only [List.take_zero, val, pw]
        omega
      · rw [decide_eq_false (show ¬ (i : Int) < (n.d.length : Int) by omega), List.append_nil]
        rfl
theorem okN_bd {n : Num} (h : okN n = true) : 0 ≤ val n.d ∧ dg n.d = true ∧ n.d.length ≤ 1000 := by
  obtain ⟨h1, h2⟩ := okN_spec h
  exact ⟨val_nn h1, h1, h2⟩
theorem rPlus_sub {R : Type} {kx : Ex → rPlus_1_V → Option R} {n m w2 : Num} {b : List Int → Option R} (hn : dg n.d = true) (hm : dg m.d = true) (hL : n.d.length ≤ 1000) (hle : val m.d ≤ val n.d) (h2 : ∀ out c i, kx (.exit 2) (out, c, i, w2, n, m) = b out) (k : Nat) (hk : n.d.length < k) : ∃ D, dg D = true ∧ val D = val n.d - val m.d ∧ iter (fun rec => rPlus_1 rec kx) k ([], 0, 0, w2, n, m) = b D := by
  obtain ⟨D, cf, q1, q2, q3, q4, q5⟩ := rPlus_l1 hn hm hL h2 k 0 [] 0 (by omega) (by omega) rfl (Nat.zero_le _) (by omega) rfl
  rw [List.nil_append] at q1 q5
  rw [Nat.sub_zero, List.drop_zero, List.drop_zero] at q4
  have d1 := val_nn q1
  have d2 := val_lt q1
  rw [q2, Nat.sub_zero] at d2
  have m0 := val_td m.d n.d.length
  have m1 := val_nn (dg_take n.d.length hm)
  have m2 := val_nn (dg_drop n.d.length hm)
  have n1 := val_lt hn
  have hp := pw_pos n.d.length
  have hz : val (m.d.drop n.d.length) = 0 := by
    rcases Int.le_iff_lt_or_eq.1 m2 with h | h
    · exfalso
      have : pw n.d.length * 1 ≤ pw n.d.length * val (m.d.drop n.d.length) := Int.mul_le_mul_of_nonneg_left (by omega) (by omega)
      omega
    · exact h.symm
  rw [hz, Int.mul_zero, Int.add_zero] at m0
  rw [← m0] at q4
  have hc : cf = 0 := by
    rcases (by omega : cf = 0 ∨ cf = 1) with h | h
    · exact h
    · rw [h, Int.mul_one] at q4; omega
  rw [hc, Int.mul_zero] at q4
  exact ⟨D, q1, by omega, q5⟩
theorem rPlus_ok : FnOk Tryd.prog elT glT 74 [.sv .num, .sv .num] [.sv .num] rPlus_F := .fin 0 rPlus_run fun (n, m) r hb hx => ⟨2002, by
  simp only [rPlus_F, rPlus] at hx
  cases hd : okN n && okN m with
  | false => rw [hd] at hx; cases hx
  | true =>
    rw [hd] at hx
    have hx : some (numZ (nv n + nv m)) = some r := hx
    rw [← hx]
    simp only [Bool.and_eq_true] at hd
    obtain ⟨n0, n1, n2⟩ := okN_bd hd.1
    obtain ⟨m0, m1, m2⟩ := okN_bd hd.2
    simp only [rPlus_body]
    by_cases hs : n.minus = m.minus
    · rw [decide_eq_true hs]
      obtain ⟨D, q1, q2, q3⟩ := rPlus_l0 (w2 := Num.mk false []) (kx := fun e v => match v with | (v3, _, _, v6, _, _) => match e with | .exit 0 => some (rtrim v6.minus v3) | _ => none) (b := fun out => some (rtrim n.minus out)) n1 m1 (L := max n.d.length m.d.length) (Nat.max_le.2 ⟨n2, m2⟩) (Nat.le_max_left _ _) (Nat.le_max_right _ _) (fun _ _ _ => rfl) 2002 0 [] 0 (by omega) (by omega) rfl (by omega) (by have := Nat.max_le.2 ⟨n2, m2⟩; simp only [Nat.sub_zero, Int.toNat_zero]; omega) rfl
      refine q3.trans ?_
      rw [List.nil_append] at q1 ⊢
      simp only [List.drop_zero] at q2
      rw [rtrim_S q1, numZ_S _ (val_nn q1), q2]
      simp only [nv, ← hs]
      by_cases hm : n.minus = true
      · simp only [if_pos hm]; congr 2; omega
      · simp only [if_neg hm]; congr 2; omega
    · rw [decide_eq_false hs]
      have hl : rless n.d m.d = some (decide (val n.d < val m.d)) := by simp only [rless, n1, m1]; rfl
      simp only [hl, Option.bind_some, cond_f]
      by_cases hlt : val n.d < val m.d
      · rw [decide_eq_true hlt]
        obtain ⟨D, q1, q2, q3⟩ := rPlus_sub (w2 := Num.mk false []) (kx := fun e v => match v with | (v12, _, _, _, v16, _) => match e with | .exit 2 => some (rtrim v16.minus v12) | _ => none) (b := fun out => some (rtrim m.minus out)) m1 n1 m2 (by omega) (fun _ _ _ => rfl) 2002 (by omega)
        refine q3.trans ?_
        rw [rtrim_S q1, numZ_S _ (val_nn q1), q2]
        simp only [nv]
        cases hm : m.minus <;> cases hn : n.minus <;> first | (exact absurd (hn.trans hm.symm) hs) | (simp only [Bool.false_eq_true, if_false, if_true]; congr 2 <;> omega)
      · rw [decide_eq_false hlt]
        obtain ⟨D, q1, q2, q3⟩ := rPlus_sub (w2 := Num.mk false []) (kx := fun e v => match v with | (v12, _, _, _, v16, _) => match e with | .exit 2 => some (rtrim v16.minus v12) | _ => none) (b := fun out => some (rtrim n.minus out)) n1 m1 n2 (by omega) (fun _ _ _ => rfl) 2002 (by omega)
        refine q3.trans ?_
        rw [rtrim_S q1, numZ_S _ (val_nn q1), q2]
        simp only [nv]
        cases hm : m.minus <;> cases hn : n.minus <;> first | (exact absurd (hn.trans hm.symm) hs) | (simp only [Bool.false_eq_true, if_false, if_true]; congr 2 <;> omega)⟩
end Go.Proofs.YtlhebakbbfmiiaaDoor

/- The document's answer: a product of any two numbers. -/
namespace Go.Proofs.YtlhebakbbfmiiaaDoor
open Go.Ax
/-! ## (exchequer/exchequerref02.Num).Times -/
def rTimes_1_sg : Sig := ⟨72, [(6, .int .i64), (7, .int .i64), (8, .int .i64)], [(2, .ptr 0 0), (3, .ptr 1 0), (4, .ptr 2 0)], [(0, .one (.sv .num)), (1, .one (.sv .num)), (2, .one (.sv .num)), (3, .one (.dn .int))], 4, 0, 0, [], [(5, 3, .int)]⟩
abbrev rTimes_1_V := Int × Int × Int × Num × Num × Num × List Int × Int × Int
def rTimes_1 {R : Type} (rec : rTimes_1_V → Option R) (kx : Ex → rTimes_1_V → Option R) (v : rTimes_1_V) : Option R := match v with
 | (v1, v2, v3, w6, w7, w8, w9, w10, w11) =>
  let j := fun (_ : Unit) =>
   chk (inO (wr .i64 (v1 + v3)) w11) (
    chk (inb (w10 + (wr .i64 (v1 + v3))) w9.length) (
     chk (inb v1 w6.d.length) (
      (rdigit w7.d v3).bind fun x =>
       chk (inO (wr .i64 (v1 + v3)) w11) (
        chk (inb (w10 + (wr .i64 (v1 + v3))) w9.length) (
         rec (v1, (wr .i64 (Int.tdiv (wr .i64 ((wr .i64 ((at' .int w9 (w10 + (wr .i64 (v1 + v3)))) + (wr .i64 ((at' .int w6.d v1) * x)))) + v2)) 10)), (wr .i64 (v3 + 1)), w6, w7, w8, (w9.set ((w10 + (wr .i64 (v1 + v3))) : Int).toNat (Int.tmod (wr .i64 ((wr .i64 ((at' .int w9 (w10 + (wr .i64 (v1 + v3)))) + (wr .i64 ((at' .int w6.d v1) * x)))) + v2)) 10)), w10, w11))))))
  cond (decide (v3 < (w7.d.length : Int))) (
   j ()) (
   cond (decide (0 < v2)) (
    j ()) (
    kx (.exit 2) (v1, v2, v3, w6, w7, w8, w9, w10, w11)))
def rTimes_0_sg : Sig := ⟨72, [(6, .int .i64)], [(2, .ptr 0 0), (3, .ptr 1 0), (4, .ptr 2 0)], [(0, .one (.sv .num)), (1, .one (.sv .num)), (2, .one (.sv .num)), (3, .one (.dn .int))], 4, 0, 0, [], [(5, 3, .int)]⟩
abbrev rTimes_0_V := Int × Num × Num × Num × List Int × Int × Int
def rTimes_0 {R : Type} (k : Nat) (rec : rTimes_0_V → Option R) (kx : Ex → rTimes_0_V → Option R) (v : rTimes_0_V) : Option R := match v with
 | (v, w, w1, w2, w3, w4, w5) =>
  cond (decide (v < (w.d.length : Int))) (
   iter (fun rc => rTimes_1 rc (fun e v => match v with | (v4, _, _, v7, v8, v9, v10, v11, v12) => match e with
    | .exit 2 =>
     rec ((wr .i64 (v4 + 1)), v7, v8, v9, v10, v11, v12)
    | _ => none)) k (v, 0, 0, w, w1, w2, w3, w4, w5)) (
   kx (.exit 0) (v, w, w1, w2, w3, w4, w5))
def rTimes_px (R : Type) (k : Nat) : Px R := ⟨ttOf ttL, glT, callT [(78, callOr [.bool, .sl .int false] [.sv .num] rtrim_F)], callQT [(79, callOrQ [.sl .int false, .int .i64] [.int .i64] rdigit_F)], loopT [(7, loopOr k rTimes_1_sg (rTimes_1)), (3, loopOr k rTimes_0_sg (rTimes_0 k))]⟩
theorem rTimes_1_eq (R : Type) (k : Nat) : ∀ (fr : List Fr) (rec : rTimes_1_V → Option R) (kx : Ex → rTimes_1_V → Option R) (v : rTimes_1_V), round (rTimes_px R k) rTimes_1_sg (lpC (lp Tryd.f75 0) 0) fr rec kx v = rTimes_1 rec kx v
  | fr, rec, kx, (v1, v2, v3, w6, w7, w8, w9, w10, w11) => by kernel_rfl
theorem rTimes_0_eq (R : Type) (k : Nat) : ∀ (fr : List Fr) (rec : rTimes_0_V → Option R) (kx : Ex → rTimes_0_V → Option R) (v : rTimes_0_V), round (rTimes_px R k) rTimes_0_sg (lp Tryd.f75 0) fr rec kx v = rTimes_0 k rec kx v
  | fr, rec, kx, (v, w, w1, w2, w3, w4, w5) => by kernel_rfl
def rTimes_body (k : Nat) (x : HV [.sv .num, .sv .num]) : Option (HV [.sv .num]) := match x with
 | (n, m) =>
  chk (upI 0 (wr .i64 ((wr .i64 ((n.d.length : Int) + (m.d.length : Int))) + 1)) (wr .i64 ((wr .i64 ((n.d.length : Int) + (m.d.length : Int))) + 1)) && decide ((wr .i64 ((wr .i64 ((n.d.length : Int) + (m.d.length : Int))) + 1)) ≤ (maxApp : Int))) (
   iter (fun rec => rTimes_0 k rec (fun e v => match v with | (_, v14, v15, _, v17, v18, v19) => match e with
    | .exit 0 =>
     chk (decide ((0 : Int) ≤ v18) && decide ((0 : Int) ≤ v19) && decide ((v18 + v19) ≤ (v17.length : Int))) (
      some (rtrim (!decide (v14.minus = v15.minus)) (cut v17 v18 (v18 + v19))))
    | _ => none)) k (0, n, m, (Num.mk false []), (List.replicate ((wr .i64 ((wr .i64 ((n.d.length : Int) + (m.d.length : Int))) + 1)) : Int).toNat (zer .int)), 0, (wr .i64 ((wr .i64 ((n.d.length : Int) + (m.d.length : Int))) + 1))))
theorem rTimes_eq (k : Nat) : ∀ (x : HV [.sv .num, .sv .num]), runF (rTimes_px _ k) Tryd.f75 [.sv .num, .sv .num] [.sv .num] x some = rTimes_body k x
  | (n, m) => by kernel_rfl
theorem rTimes_run (k : Nat) : FnOk Tryd.prog elT glT 75 [.sv .num, .sv .num] [.sv .num] (rTimes_body k) := by
  refine fnOk_run Tryd.func75 rfl (by kernel_rfl) follows (by kernel_rfl) (n := 2) (by kernel_rfl) (px := rTimes_px _ k) (fun cx hP hel hgl => ?_) (rTimes_eq k)
  have hp0 : PxOk cx (rTimes_px (HV [.sv .num]) k) := ⟨fun t => by rw [hP, hel]; exact tt_ok ttL_ok t, by rw [hgl]; rfl⟩
  have hc0 : CallOk cx (rTimes_px (HV [.sv .num]) k) := callT_ok rfl (cfs_cons (cf_or (by rw [hP, hel, hgl]; exact rtrim_ok) (by kernel_rfl)) cfs_nil)
  have hq0 : CallQOk cx (rTimes_px (HV [.sv .num]) k) := callQT_ok rfl (cqfs_cons (cqf_or (by rw [hP, hel, hgl]; exact rdigit_ok) (by kernel_rfl)) cqfs_nil)
  have hlrTimes_1 : LoopOk cx (rTimes_px (HV [.sv .num]) k) (lpC (lp Tryd.f75 0) 0) := loop_ok hp0 hc0 hq0 (by rw [hP]; exact follows) (k := k) (s := rTimes_1_sg) (step := rTimes_1) (fun _ _ => by kernel_rfl) (by kernel_rfl) (rTimes_1_eq _ k) (loops_in (n := 0) (by kernel_rfl) all0)
  have hlrTimes_0 : LoopOk cx (rTimes_px (HV [.sv .num]) k) (lp Tryd.f75 0) := loop_ok hp0 hc0 hq0 (by rw [hP]; exact follows) (k := k) (s := rTimes_0_sg) (step := rTimes_0 k) (fun _ _ => by kernel_rfl) (by kernel_rfl) (rTimes_0_eq _ k) (loops_in (n := 1) (by kernel_rfl) (allS all0 hlrTimes_1))
  exact ⟨hp0, hc0, hq0, (allS (allS all0 hlrTimes_0) hlrTimes_1)⟩
def rTimes (n m : Num) : Option Num := cond (okN n && okN m) (some (numZ (nv n * nv m))) none
def rTimes_F : FT [.sv .num, .sv .num] [.sv .num] := fun x => rTimes x.1 x.2
theorem val_take' (l : List Int) (j : Nat) : val (l.take (j + 1)) = val (l.take j) + pw j * dgt l j := by
  by_cases h : j < l.length
  · exact val_take l j h
  · have z : dgt l j = 0 := by simp [dgt, List.getElem?_eq_none (Nat.le_of_not_lt h)]
    rw [z, Int.mul_zero, Int.add_zero, List.take_of_length_le (by omega), List.take_of_length_le (by omega)]
theorem rTimes_in {R : Type} {kx : Ex → rTimes_1_V → Option R} {n m w8 : Num} {b : List Int → Option R} (hn : dg n.d = true) (hm : dg m.d = true) {i N : Nat} {V : Int} (hi : i < n.d.length) (hN : N = n.d.length + m.d.length + 1) (hN2 : N ≤ 2001) (hT : V + pw i * (dgt n.d i * val m.d) < pw (i + 1 + m.d.length)) (h2 : ∀ c j d, kx (.exit 2) ((i : Int), c, j, n, m, w8, d, 0, (N : Int)) = b d) : ∀ (k j : Nat) (c : Int) (d : List Int), 0 ≤ c → c ≤ 9 → j ≤ m.d.length + 1 → m.d.length + 1 - j < k → dg d = true → d.length = N → val d + c * pw (i + j) = V + pw i * (dgt n.d i * val (m.d.take j)) → ∃ D, dg D = true ∧ D.length = N ∧ val D = V + pw i * (dgt n.d i * val m.d) ∧ iter (fun rec => rTimes_1 rec kx) k ((i : Int), c, (j : Int), n, m, w8, d, 0, (N : Int)) = b D
  | 0, j, c, d, _, _, _, h, _, _, _ => absurd h (Nat.not_lt_zero _)
  | k + 1, j, c, d, c0, c9, hj, hk, hd, hl, hv => by
    have dn := dgt_bd hn i
    have dm := dgt_bd hm j
    have dd := dgt_bd hd (i + j)
    have hdn := val_nn hd
    rw [iter_s]
    -- what is left over goes no farther
    have stop : 0 < c → m.d.length ≤ j → j = m.d.length := fun h1 h3 => by
      rw [List.take_of_length_le h3] at hv
      rcases Nat.lt_or_ge m.d.length j with h | h
      · exfalso
        have h4 := pw_mono (show i + 1 + m.d.length ≤ i + j by omega)
        have h5 : 1 * pw (i + j) ≤ c * pw (i + j) := Int.mul_le_mul_of_nonneg_right (by omega) (by have := pw_pos (i + j); omega)
        omega
      · omega
    simp only [rTimes_1, rdigit_nat, Option.bind_some, h2]
    by_cases hgo : j < m.d.length ∨ 0 < c
    · have hjm : j ≤ m.d.length := by
        rcases hgo with h | h
        · omega
        · rcases Nat.lt_or_ge j m.d.length with h3 | h3
          · omega
          · have := stop h h3; omega
      have hpr : dgt n.d i * dgt m.d j ≤ 9 * 9 := Int.mul_le_mul dn.2 dm.2 dm.1 (by omega)
      have hpr0 : 0 ≤ dgt n.d i * dgt m.d j := Int.mul_nonneg dn.1 dm.1
      obtain ⟨p, hp⟩ : ∃ p, p = dgt n.d i * dgt m.d j := ⟨_, rfl⟩
      obtain ⟨x, hxe⟩ : ∃ x, x = dgt d (i + j) + p + c := ⟨_, rfl⟩
      rw [← hp] at hpr hpr0
      have hx : 0 ≤ x ∧ x ≤ 99 := by omega
      have e1 : wr .i64 (wr .i64 (dgt d (i + j) + wr .i64 (dgt n.d i * dgt m.d j)) + c) = x := by
        rw [← hp, wr_id (n := p) (by simp only [inI]; omega), wr_id (n := dgt d (i + j) + p) (by simp only [inI]; omega), wr_id (by simp only [inI]; omega), hxe]
      obtain ⟨t1, t2⟩ := ten hx.1
      have e2 : wr .i64 (x / 10) = x / 10 := wr_id (by simp only [inI]; omega)
      have e3 : wr .i64 ((j : Int) + 1) = ((j + 1 : Nat) : Int) := by rw [wr_id (by simp only [inI]; omega)]; omega
      have e4 : wr .i64 ((i : Int) + (j : Int)) = ((i + j : Nat) : Int) := by rw [wr_id (by simp only [inI]; omega)]; omega
      have hlt : i + j < d.length := by omega
      have e5 : inO ((i + j : Nat) : Int) (N : Int) = true := by
        simp only [inO, Bool.and_eq_true, decide_eq_true_eq]
        omega
      have hvs := val_set d (x % 10) (i + j) hlt
      have hvt := val_take' m.d j
      have hpa := pw_add i j
      obtain ⟨D, q1, q2, q3, q4⟩ := rTimes_in hn hm hi hN hN2 hT h2 k (j + 1) (x / 10) (d.set (i + j) (x % 10)) (by omega) (by omega) (by omega) (by omega) (dg_set (by omega) (i + j) hd) (by simpa using hl) (by
        rw [hvs, hvt, show i + (j + 1) = i + j + 1 by omega]
        simp only [pw]
        have hq : x = 10 * (x / 10) + x % 10 := by omega
        generalize x / 10 = q at hq
        generalize x % 10 = r at hq
        generalize pw (i + j) = P at *
        generalize pw i = A at *
        generalize pw j = B at *
        grind)
      refine ⟨D, q1, q2, q3, ?_⟩
      rw [e4, Int.zero_add, e5, inb_t hlt, inb_t hi, at_dgt hlt, at_dgt hi, e1, t1, t2, e2, e3, Int.toNat_natCast, q4]
      by_cases a : (j : Int) < (m.d.length : Int)
      · rw [decide_eq_true a]; rfl
      · rw [decide_eq_false a, decide_eq_true (show 0 < c by omega)]; rfl
    · refine ⟨d, hd, hl, ?_, ?_⟩
      · have hc : c = 0 := by omega
        rw [List.take_of_length_le (by omega), hc, Int.zero_mul, Int.add_zero] at hv
        exact hv
      · rw [decide_eq_false (show ¬ (j : Int) < (m.d.length : Int) by omega), decide_eq_false (show ¬ 0 < c by omega)]
        rfl
theorem prod_lt {x y p q : Int} (hx : 0 ≤ x) (hy : 0 ≤ y) (h1 : x < p) (h2 : y < q) : x * y < p * q := by
  have h3 : x * y ≤ p * y := Int.mul_le_mul_of_nonneg_right (by omega) hy
  have h4 : p * y < p * q := Int.mul_lt_mul_of_pos_left h2 (by omega)
  omega
theorem rTimes_out {R : Type} {kx : Ex → rTimes_0_V → Option R} {n m w : Num} {b : List Int → Option R} (hn : dg n.d = true) (hm : dg m.d = true) {N K : Nat} (hN : N = n.d.length + m.d.length + 1) (hN2 : N ≤ 2001) (hK : m.d.length + 1 < K) (h2 : ∀ i d, kx (.exit 0) (i, n, m, w, d, 0, (N : Int)) = b d) : ∀ (k i : Nat) (d : List Int), i ≤ n.d.length → n.d.length - i < k → dg d = true → d.length = N → val d = val (n.d.take i) * val m.d → ∃ D, dg D = true ∧ D.length = N ∧ val D = val n.d * val m.d ∧ iter (fun rec => rTimes_0 K rec kx) k ((i : Int), n, m, w, d, 0, (N : Int)) = b D
  | 0, i, d, _, h, _, _, _ => absurd h (Nat.not_lt_zero _)
  | k + 1, i, d, hi, hk, hd, hl, hv => by
    rw [iter_s]
    by_cases hlt : i < n.d.length
    · have hvt := val_take' n.d i
      have hmul : val d + pw i * (dgt n.d i * val m.d) = val (n.d.take (i + 1)) * val m.d := by
        rw [hv, hvt, Int.add_mul, Int.mul_assoc]
      have hT : val d + pw i * (dgt n.d i * val m.d) < pw (i + 1 + m.d.length) := by
        rw [hmul, pw_add]
        have l1 := val_lt (dg_take (i + 1) hn)
        rw [List.length_take, Nat.min_eq_left (by omega)] at l1
        exact prod_lt (val_nn (dg_take (i + 1) hn)) (val_nn hm) l1 (val_lt hm)
      obtain ⟨D, q1, q2, q3, q4⟩ := rTimes_in (w8 := w) (kx := fun e v => match v with | (v4, _, _, v7, v8, v9, v10, v11, v12) => match e with | .exit 2 => iter (fun rec => rTimes_0 K rec kx) k ((wr .i64 (v4 + 1)), v7, v8, v9, v10, v11, v12) | _ => none) (b := fun d => iter (fun rec => rTimes_0 K rec kx) k (wr .i64 ((i : Int) + 1), n, m, w, d, 0, (N : Int))) hn hm hlt hN hN2 hT (fun _ _ _ => rfl) K 0 0 d (by omega) (by omega) (Nat.zero_le _) (by omega) hd hl (by simp [val])
      have e3 : wr .i64 ((i : Int) + 1) = ((i + 1 : Nat) : Int) := by rw [wr_id (by simp only [inI]; omega)]; omega
      obtain ⟨E, r1, r2, r3, r4⟩ := rTimes_out hn hm hN hN2 hK h2 k (i + 1) D (by omega) (by omega) q1 q2 (q3.trans hmul)
      refine ⟨E, r1, r2, r3, ?_⟩
      simp only [rTimes_0]
      rw [decide_eq_true (show (i : Int) < (n.d.length : Int) by omega)]
      rw [e3] at q4
      exact q4.trans r4
    · refine ⟨d, hd, hl, ?_, ?_⟩
      · rw [hv, List.take_of_length_le (by omega)]
      · simp only [rTimes_0, h2]
        rw [decide_eq_false (show ¬ (i : Int) < (n.d.length : Int) by omega)]
        rfl
theorem rTimes_ok : FnOk Tryd.prog elT glT 75 [.sv .num, .sv .num] [.sv .num] rTimes_F := .fin 0 rTimes_run fun (n, m) r hb hx => ⟨1003, by
  simp only [rTimes_F, rTimes] at hx
  cases hd : okN n && okN m with
  | false => rw [hd] at hx; cases hx
  | true =>
    rw [hd] at hx
    have hx : some (numZ (nv n * nv m)) = some r := hx
    rw [← hx]
    simp only [Bool.and_eq_true] at hd
    obtain ⟨n0, n1, n2⟩ := okN_bd hd.1
    obtain ⟨m0, m1, m2⟩ := okN_bd hd.2
    obtain ⟨N, hN⟩ : ∃ N, N = n.d.length + m.d.length + 1 := ⟨_, rfl⟩
    have e1 : wr .i64 (wr .i64 ((n.d.length : Int) + (m.d.length : Int)) + 1) = (N : Int) := by
      rw [wr_id (n := (n.d.length : Int) + (m.d.length : Int)) (by simp only [inI]; omega), wr_id (by simp only [inI]; omega)]
      omega
    have e2 : (upI 0 (N : Int) (N : Int) && decide ((N : Int) ≤ (maxApp : Int))) = true := by
      have h1 : (N : Int) ≤ (maxApp : Int) := by simp only [maxApp]; omega
      rw [decide_eq_true h1]
      simp only [upI]
      rw [decide_eq_true (Int.le_refl 0), decide_eq_true (Int.natCast_nonneg N), decide_eq_true (Int.le_refl (N : Int))]
      rfl
    obtain ⟨D, q1, q2, q3, q4⟩ := rTimes_out (w := Num.mk false []) (kx := fun e v => match v with | (_, v14, v15, _, v17, v18, v19) => match e with | .exit 0 => chk (decide ((0 : Int) ≤ v18) && decide ((0 : Int) ≤ v19) && decide ((v18 + v19) ≤ (v17.length : Int))) (some (rtrim (!decide (v14.minus = v15.minus)) (cut v17 v18 (v18 + v19)))) | _ => none) (b := fun d => chk (decide ((0 : Int) ≤ 0) && decide ((0 : Int) ≤ (N : Int)) && decide ((0 + (N : Int)) ≤ (d.length : Int))) (some (rtrim (!decide (n.minus = m.minus)) (cut d 0 (0 + (N : Int)))))) n1 m1 hN (by omega) (K := 1003) (by omega) (fun _ _ => rfl) 1003 0 (List.replicate N 0) (Nat.zero_le _) (by omega) (dg_rep N) (by simp) (by simp [val_rep, val])
    simp only [rTimes_body, e1, e2, Int.toNat_natCast, chk_t]
    refine q4.trans ?_
    have hcut : cut D 0 (0 + (N : Int)) = D := by
      simp only [cut, Int.zero_add, Int.toNat_natCast, Int.toNat_zero, List.drop_zero, Nat.sub_zero]
      exact List.take_of_length_le (by omega)
    rw [hcut, decide_eq_true (Int.le_refl 0), decide_eq_true (Int.natCast_nonneg N), decide_eq_true (show (0 + (N : Int)) ≤ (D.length : Int) by omega), rtrim_S q1, numZ_S _ (val_nn q1), q3]
    simp only [nv]
    cases n.minus <;> cases m.minus <;> simp [chk, Int.neg_mul, Int.mul_neg]⟩
end Go.Proofs.YtlhebakbbfmiiaaDoor

/- The document's answer: sums, differences and products of numbers of 64 bits. -/
namespace Go.Proofs.YtlhebakbbfmiiaaDoor
open Go.Ax
theorem pw40 : pw 40 = 10000000000000000000000000000000000000000 := by kernel_rfl
theorem okZ40 {z : Int} (h : -10000000000000000000000000000000000000000 < z ∧ z < 10000000000000000000000000000000000000000) : okN (numZ z) = true := okZ (by
  have := pw_mono (show 40 ≤ 1000 by omega)
  rw [pw40] at this
  omega)
theorem rPlus_Z {a b : Int} (ha : okN (numZ a) = true) (hb : okN (numZ b) = true) : rPlus (numZ a) (numZ b) = some (numZ (a + b)) := by
  simp only [rPlus, ha, hb, nv_Z]
  rfl
theorem rTimes_Z {a b : Int} (ha : okN (numZ a) = true) (hb : okN (numZ b) = true) : rTimes (numZ a) (numZ b) = some (numZ (a * b)) := by
  simp only [rTimes, ha, hb, nv_Z]
  rfl
theorem rtold_Z (z : Int) : rtold (numZ z) = some (fitZ z) := by
  have h : dg (numZ z).d = true := digs_dg _
  simp only [rtold, h, nv_Z]
  rfl
theorem numZ_neg (z : Int) : (⟨!(numZ z).minus && decide (0 < ((numZ z).d.length : Int)), (numZ z).d⟩ : Num) = numZ (-z) := by
  by_cases h0 : z = 0
  · subst h0
    have e : digs ((0 : Int).natAbs : Int).toNat = [] := digs_zero
    simp only [numZ, numS, e, Int.neg_zero]
    simp
  · have hd := digs_pos (n := z.natAbs) (by omega)
    have e : numZ z = ⟨decide (z < 0), digs z.natAbs⟩ := by
      simp only [numZ, numS, Int.toNat_natCast]
      rw [decide_eq_true (show (0 : Int) < (z.natAbs : Int) by omega), Bool.and_true]
    have e' : numZ (-z) = ⟨decide (-z < 0), digs z.natAbs⟩ := by
      simp only [numZ, numS, Int.toNat_natCast, Int.natAbs_neg]
      rw [decide_eq_true (show (0 : Int) < (z.natAbs : Int) by omega), Bool.and_true]
    rw [e, e', hd]
    have hl : decide ((0 : Int) < ((((z.natAbs % 10 : Nat) : Int) :: digs (z.natAbs / 10)).length : Int)) = true := decide_eq_true (by simp only [List.length_cons]; omega)
    simp only [hl, Bool.and_true]
    by_cases h : z < 0
    · rw [decide_eq_true h, decide_eq_false (show ¬ -z < 0 by omega)]; rfl
    · rw [decide_eq_false h, decide_eq_true (show -z < 0 by omega)]; rfl
theorem inI40 {z : Int} (h : inI z) : okN (numZ z) = true := okZ40 (by simp only [inI] at h; omega)
/-! ## exchequer/exchequerref02.Add -/
def rAdd_px (R : Type) : Px R := ⟨ttOf ttL, glT, callT [(73, callOr [.int .i64] [.sv .num] rOf_F), (74, callOr [.sv .num, .sv .num] [.sv .num] rPlus_F), (72, callOr [.sv .num] [.int .i64, .int .i64] rtold_F)], callQT [], loopT []⟩
def rAdd_body (x : HV [.int .i64, .int .i64]) : Option (HV [.int .i64, .int .i64]) := match x with
 | (a, b) =>
  (rPlus (rOf a) (rOf b)).bind fun x =>
   (rtold x).bind fun (x1, x2) =>
    some (x1, x2)
theorem rAdd_eq : ∀ (x : HV [.int .i64, .int .i64]), runF (rAdd_px _) Tryd.f60 [.int .i64, .int .i64] [.int .i64, .int .i64] x some = rAdd_body x
  | (a, b) => by kernel_rfl
theorem rAdd_run : FnOk Tryd.prog elT glT 60 [.int .i64, .int .i64] [.int .i64, .int .i64] (rAdd_body) := by
  refine fnOk_run Tryd.func60 rfl (by kernel_rfl) follows (by kernel_rfl) (n := 0) (by kernel_rfl) (px := rAdd_px _) (fun cx hP hel hgl => ?_) (rAdd_eq)
  have hp0 : PxOk cx (rAdd_px (HV [.int .i64, .int .i64])) := ⟨fun t => by rw [hP, hel]; exact tt_ok ttL_ok t, by rw [hgl]; rfl⟩
  have hc0 : CallOk cx (rAdd_px (HV [.int .i64, .int .i64])) := callT_ok rfl (cfs_cons (cf_or (by rw [hP, hel, hgl]; exact rOf_ok) (by kernel_rfl)) (cfs_cons (cf_or (by rw [hP, hel, hgl]; exact rPlus_ok) (by kernel_rfl)) (cfs_cons (cf_or (by rw [hP, hel, hgl]; exact rtold_ok) (by kernel_rfl)) cfs_nil)))
  have hq0 : CallQOk cx (rAdd_px (HV [.int .i64, .int .i64])) := callQT_ok rfl cqfs_nil
  exact ⟨hp0, hc0, hq0, all0⟩
abbrev rAdd (a b : Int) : Int × Int := fitZ (a + b)
def rAdd_F : FT [.int .i64, .int .i64] [.int .i64, .int .i64] := fun x => some (rAdd x.1 x.2)
theorem rAdd_ok : FnOk Tryd.prog elT glT 60 [.int .i64, .int .i64] [.int .i64, .int .i64] rAdd_F := .fin0 rAdd_run fun (a, b) r hb hx => by
  have ha := inI40 (inK_i64 hb.1)
  have hb' := inI40 (inK_i64 hb.2)
  simp only [rAdd_F, Option.some.injEq] at hx
  subst hx
  simp only [rAdd_body, rOf, rPlus_Z ha hb', Option.bind_some, rtold_Z]
/-! ## exchequer/exchequerref02.Sub -/
def rSub_px (R : Type) : Px R := ⟨ttOf ttL, glT, callT [(73, callOr [.int .i64] [.sv .num] rOf_F)], callQT [(73, callOrQ [.int .i64] [.sv .num] rOf_F), (74, callOrQ [.sv .num, .sv .num] [.sv .num] rPlus_F), (72, callOrQ [.sv .num] [.int .i64, .int .i64] rtold_F)], loopT []⟩
def rSub_body (x : HV [.int .i64, .int .i64]) : Option (HV [.int .i64, .int .i64]) := match x with
 | (a, b) =>
  let j := fun (p : Bool) =>
   (rPlus (rOf a) (Num.mk p ((rOf b).d))).bind fun x =>
    (rtold x).bind fun (x1, x2) =>
     some (x1, x2)
  cond (!((rOf b).minus)) (
   j (decide (0 < (((rOf b).d).length : Int)))) (
   j false)
theorem rSub_eq : ∀ (x : HV [.int .i64, .int .i64]), runF (rSub_px _) Tryd.f61 [.int .i64, .int .i64] [.int .i64, .int .i64] x some = rSub_body x
  | (a, b) => by kernel_rfl
theorem rSub_run : FnOk Tryd.prog elT glT 61 [.int .i64, .int .i64] [.int .i64, .int .i64] (rSub_body) := by
  refine fnOk_run Tryd.func61 rfl (by kernel_rfl) follows (by kernel_rfl) (n := 0) (by kernel_rfl) (px := rSub_px _) (fun cx hP hel hgl => ?_) (rSub_eq)
  have hp0 : PxOk cx (rSub_px (HV [.int .i64, .int .i64])) := ⟨fun t => by rw [hP, hel]; exact tt_ok ttL_ok t, by rw [hgl]; rfl⟩
  have hc0 : CallOk cx (rSub_px (HV [.int .i64, .int .i64])) := callT_ok rfl (cfs_cons (cf_or (by rw [hP, hel, hgl]; exact rOf_ok) (by kernel_rfl)) cfs_nil)
  have hq0 : CallQOk cx (rSub_px (HV [.int .i64, .int .i64])) := callQT_ok rfl (cqfs_cons (cqf_or (by rw [hP, hel, hgl]; exact rOf_ok) (by kernel_rfl)) (cqfs_cons (cqf_or (by rw [hP, hel, hgl]; exact rPlus_ok) (by kernel_rfl)) (cqfs_cons (cqf_or (by rw [hP, hel, hgl]; exact rtold_ok) (by kernel_rfl)) cqfs_nil)))
  exact ⟨hp0, hc0, hq0, all0⟩
abbrev rSub (a b : Int) : Int × Int := fitZ (a - b)
def rSub_F : FT [.int .i64, .int .i64] [.int .i64, .int .i64] := fun x => some (rSub x.1 x.2)
theorem rSub_ok : FnOk Tryd.prog elT glT 61 [.int .i64, .int .i64] [.int .i64, .int .i64] rSub_F := .fin0 rSub_run fun (a, b) r hb hx => by
  have ha := inI40 (inK_i64 hb.1)
  have hb1 := inK_i64 hb.2
  have hb' : okN (numZ (-b)) = true := okZ40 (by simp only [inI] at hb1; omega)
  have hn := numZ_neg b
  simp only [rSub_F, Option.some.injEq] at hx
  subst hx
  have e : rPlus (numZ a) (numZ (-b)) = some (numZ (a - b)) := (rPlus_Z ha hb').trans (by rw [Int.sub_eq_add_neg])
  simp only [rSub_body, rOf]
  cases hm : (numZ b).minus with
  | true =>
    simp only [hm, Bool.not_true, Bool.false_and] at hn
    simp only [Bool.not_true, cond_f, hn, e, Option.bind_some, rtold_Z]
  | false =>
    simp only [hm, Bool.not_false, Bool.true_and] at hn
    simp only [Bool.not_false, cond_t, hn, e, Option.bind_some, rtold_Z]
/-! ## exchequer/exchequerref02.Mul -/
def rMul_px (R : Type) : Px R := ⟨ttOf ttL, glT, callT [(73, callOr [.int .i64] [.sv .num] rOf_F), (75, callOr [.sv .num, .sv .num] [.sv .num] rTimes_F), (72, callOr [.sv .num] [.int .i64, .int .i64] rtold_F)], callQT [], loopT []⟩
def rMul_body (x : HV [.int .i64, .int .i64]) : Option (HV [.int .i64, .int .i64]) := match x with
 | (a, b) =>
  (rTimes (rOf a) (rOf b)).bind fun x =>
   (rtold x).bind fun (x1, x2) =>
    some (x1, x2)
theorem rMul_eq : ∀ (x : HV [.int .i64, .int .i64]), runF (rMul_px _) Tryd.f62 [.int .i64, .int .i64] [.int .i64, .int .i64] x some = rMul_body x
  | (a, b) => by kernel_rfl
theorem rMul_run : FnOk Tryd.prog elT glT 62 [.int .i64, .int .i64] [.int .i64, .int .i64] (rMul_body) := by
  refine fnOk_run Tryd.func62 rfl (by kernel_rfl) follows (by kernel_rfl) (n := 0) (by kernel_rfl) (px := rMul_px _) (fun cx hP hel hgl => ?_) (rMul_eq)
  have hp0 : PxOk cx (rMul_px (HV [.int .i64, .int .i64])) := ⟨fun t => by rw [hP, hel]; exact tt_ok ttL_ok t, by rw [hgl]; rfl⟩
  have hc0 : CallOk cx (rMul_px (HV [.int .i64, .int .i64])) := callT_ok rfl (cfs_cons (cf_or (by rw [hP, hel, hgl]; exact rOf_ok) (by kernel_rfl)) (cfs_cons (cf_or (by rw [hP, hel, hgl]; exact rTimes_ok) (by kernel_rfl)) (cfs_cons (cf_or (by rw [hP, hel, hgl]; exact rtold_ok) (by kernel_rfl)) cfs_nil)))
  have hq0 : CallQOk cx (rMul_px (HV [.int .i64, .int .i64])) := callQT_ok rfl cqfs_nil
  exact ⟨hp0, hc0, hq0, all0⟩
abbrev rMul (a b : Int) : Int × Int := fitZ (a * b)
def rMul_F : FT [.int .i64, .int .i64] [.int .i64, .int .i64] := fun x => some (rMul x.1 x.2)
theorem rMul_ok : FnOk Tryd.prog elT glT 62 [.int .i64, .int .i64] [.int .i64, .int .i64] rMul_F := .fin0 rMul_run fun (a, b) r hb hx => by
  have ha := inI40 (inK_i64 hb.1)
  have hb' := inI40 (inK_i64 hb.2)
  simp only [rMul_F, Option.some.injEq] at hx
  subst hx
  simp only [rMul_body, rOf, rTimes_Z ha hb', Option.bind_some, rtold_Z]
/-! ## exchequer/exchequerref15.two -/
def rtwo_px (R : Type) : Px R := ⟨ttOf ttL, glT, callT [(42, callOr [.int .i64] [.sv .val] rback_F), (59, callOr [.sv .val, .sv .val] [.int .i64] rcmp_F), (45, callOr [.bool] [.sv .val] ris_F), (60, callOr [.int .i64, .int .i64] [.int .i64, .int .i64] rAdd_F), (61, callOr [.int .i64, .int .i64] [.int .i64, .int .i64] rSub_F), (62, callOr [.int .i64, .int .i64] [.int .i64, .int .i64] rMul_F)], callQT [(43, callOrQ [.sv .val] [.int .i64] rthree_F), (42, callOrQ [.int .i64] [.sv .val] rback_F)], loopT []⟩
def rtwo_body (x : HV [.int .i64, .sv .val, .sv .val]) : Option (HV [.sv .val, .int .i64]) := match x with
 | (k, a, b) =>
  cond (decide (k = 4)) (
   some ((rback (min2 (rthree a) (rthree b))), 0)) (
   cond (decide (k = 5)) (
    some ((rback (max2 (rthree a) (rthree b))), 0)) (
    cond (decide (a.kind = 1)) (
     some ((rback 1), 0)) (
     cond (decide (b.kind = 1)) (
      some ((rback 1), 0)) (
      cond (decide (k = 6)) (
       some ((ris (decide ((rcmp a b) = 0))), 0)) (
       cond (decide (k = 7)) (
        some ((ris (!decide ((rcmp a b) = 0))), 0)) (
        cond (decide (k = 8)) (
         some ((ris (decide ((rcmp a b) = (-1)))), 0)) (
         cond (decide (k = 9)) (
          some ((ris (!decide ((rcmp a b) = 1))), 0)) (
          cond (decide (k = 10)) (
           some ((ris (decide ((rcmp a b) = 1))), 0)) (
           cond (decide (k = 11)) (
            some ((ris (!decide ((rcmp a b) = (-1)))), 0)) (
            cond (decide (k = 12)) (
             cond (!decide ((rAdd a.n b.n).2 = 0)) (
              some ((Val.mk 0 0 []), (rAdd a.n b.n).2)) (
              some ((Val.mk 3 ((rAdd a.n b.n).1) []), 0))) (
             cond (decide (k = 13)) (
              cond (!decide ((rSub a.n b.n).2 = 0)) (
               some ((Val.mk 0 0 []), (rSub a.n b.n).2)) (
               some ((Val.mk 3 ((rSub a.n b.n).1) []), 0))) (
              cond (decide (k = 14)) (
               cond (!decide ((rMul a.n b.n).2 = 0)) (
                some ((Val.mk 0 0 []), (rMul a.n b.n).2)) (
                some ((Val.mk 3 ((rMul a.n b.n).1) []), 0))) (
               some ((Val.mk 3 0 []), 0))))))))))))))
theorem rtwo_eq : ∀ (x : HV [.int .i64, .sv .val, .sv .val]), runF (rtwo_px _) Tryd.f44 [.int .i64, .sv .val, .sv .val] [.sv .val, .int .i64] x some = rtwo_body x
  | (k, a, b) => by kernel_rfl
theorem rtwo_run : FnOk Tryd.prog elT glT 44 [.int .i64, .sv .val, .sv .val] [.sv .val, .int .i64] (rtwo_body) := by
  refine fnOk_run Tryd.func44 rfl (by kernel_rfl) follows (by kernel_rfl) (n := 0) (by kernel_rfl) (px := rtwo_px _) (fun cx hP hel hgl => ?_) (rtwo_eq)
  have hp0 : PxOk cx (rtwo_px (HV [.sv .val, .int .i64])) := ⟨fun t => by rw [hP, hel]; exact tt_ok ttL_ok t, by rw [hgl]; rfl⟩
  have hc0 : CallOk cx (rtwo_px (HV [.sv .val, .int .i64])) := callT_ok rfl (cfs_cons (cf_or (by rw [hP, hel, hgl]; exact rback_ok) (by kernel_rfl)) (cfs_cons (cf_or (by rw [hP, hel, hgl]; exact rcmp_ok) (by kernel_rfl)) (cfs_cons (cf_or (by rw [hP, hel, hgl]; exact ris_ok) (by kernel_rfl)) (cfs_cons (cf_or (by rw [hP, hel, hgl]; exact rAdd_ok) (by kernel_rfl)) (cfs_cons (cf_or (by rw [hP, hel, hgl]; exact rSub_ok) (by kernel_rfl)) (cfs_cons (cf_or (by rw [hP, hel, hgl]; exact rMul_ok) (by kernel_rfl)) cfs_nil))))))
  have hq0 : CallQOk cx (rtwo_px (HV [.sv .val, .int .i64])) := callQT_ok rfl (cqfs_cons (cqf_or (by rw [hP, hel, hgl]; exact rthree_ok) (by kernel_rfl)) (cqfs_cons (cqf_or (by rw [hP, hel, hgl]; exact rback_ok) (by kernel_rfl)) cqfs_nil))
  exact ⟨hp0, hc0, hq0, all0⟩
def rtwo (k : Int) (a : Val) (b : Val) : Val × Int :=
  cond (decide (k = 4)) (
   ((rback (min2 (rthree a) (rthree b))), 0)) (
   cond (decide (k = 5)) (
    ((rback (max2 (rthree a) (rthree b))), 0)) (
    cond (decide (a.kind = 1)) (
     ((rback 1), 0)) (
     cond (decide (b.kind = 1)) (
      ((rback 1), 0)) (
      cond (decide (k = 6)) (
       ((ris (decide ((rcmp a b) = 0))), 0)) (
       cond (decide (k = 7)) (
        ((ris (!decide ((rcmp a b) = 0))), 0)) (
        cond (decide (k = 8)) (
         ((ris (decide ((rcmp a b) = (-1)))), 0)) (
         cond (decide (k = 9)) (
          ((ris (!decide ((rcmp a b) = 1))), 0)) (
          cond (decide (k = 10)) (
           ((ris (decide ((rcmp a b) = 1))), 0)) (
           cond (decide (k = 11)) (
            ((ris (!decide ((rcmp a b) = (-1)))), 0)) (
            cond (decide (k = 12)) (
             cond (!decide ((rAdd a.n b.n).2 = 0)) (
              ((Val.mk 0 0 []), (rAdd a.n b.n).2)) (
              ((Val.mk 3 ((rAdd a.n b.n).1) []), 0))) (
             cond (decide (k = 13)) (
              cond (!decide ((rSub a.n b.n).2 = 0)) (
               ((Val.mk 0 0 []), (rSub a.n b.n).2)) (
               ((Val.mk 3 ((rSub a.n b.n).1) []), 0))) (
              cond (decide (k = 14)) (
               cond (!decide ((rMul a.n b.n).2 = 0)) (
                ((Val.mk 0 0 []), (rMul a.n b.n).2)) (
                ((Val.mk 3 ((rMul a.n b.n).1) []), 0))) (
               ((Val.mk 3 0 []), 0))))))))))))))
theorem rtwo_tot (x : HV [.int .i64, .sv .val, .sv .val]) : rtwo_body x = some (rtwo x.1 x.2.1 x.2.2) := by
  first
    | exact rfl
    | simp only [rtwo_body, rtwo, cond_some]
def rtwo_F : FT [.int .i64, .sv .val, .sv .val] [.sv .val, .int .i64] := fun x => some (rtwo x.1 x.2.1 x.2.2)
theorem rtwo_ok : FnOk Tryd.prog elT glT 44 [.int .i64, .sv .val, .sv .val] [.sv .val, .int .i64] rtwo_F := .fin0 rtwo_run fun x _ _ hx => (rtwo_tot x).trans hx
end Go.Proofs.YtlhebakbbfmiiaaDoor

/- Plain law: the document's depth and the program's. -/
namespace Go.Proofs.YtlhebakbbfmiiaaDoor
open Go.Ax
theorem deep_bd : ∀ (n : Nat) (e : Xpr), esize e ≤ n → n < 1000000 → 1 ≤ rdeep e ∧ rdeep e ≤ 31 + (n : Int)
  | 0, e, h, _ => by have := esize_pos e; omega
  | n + 1, e, h, hn => by
    have one : (e.l.length : Int) = 1 → 1 ≤ wr .i64 (1 + hd (rdeepL e.l) 0) ∧ wr .i64 (1 + hd (rdeepL e.l) 0) ≤ 31 + ((n + 1 : Nat) : Int) := fun hl => by
      obtain ⟨x, hx⟩ : ∃ x, e.l = [x] := List.length_eq_one_iff.1 (by omega)
      have hb := deep_bd n x (by rw [esize_eq, hx] at h; simp only [esizes] at h; omega) (by omega)
      have h0 : hd (rdeepL e.l) 0 = rdeep x := by rw [hx]; rfl
      rw [h0, wr_id (by simp only [inI]; omega)]
      omega
    have two : (e.l.length : Int) = 2 → 1 ≤ wr .i64 (1 + max2 (hd (rdeepL e.l) 0) (hd (rdeepL e.l) 1)) ∧ wr .i64 (1 + max2 (hd (rdeepL e.l) 0) (hd (rdeepL e.l) 1)) ≤ 31 + ((n + 1 : Nat) : Int) := fun hl => by
      obtain ⟨x, y, hx⟩ : ∃ x y, e.l = [x, y] := len_two (by omega)
      have hb := deep_bd n x (by rw [esize_eq, hx] at h; simp only [esizes] at h; omega) (by omega)
      have hc := deep_bd n y (by rw [esize_eq, hx] at h; simp only [esizes] at h; omega) (by omega)
      have h0 : hd (rdeepL e.l) 0 = rdeep x := by rw [hx]; rfl
      have h1 : hd (rdeepL e.l) 1 = rdeep y := by rw [hx]; rfl
      have hm : max2 (rdeep x) (rdeep y) = rdeep x ∨ max2 (rdeep x) (rdeep y) = rdeep y := by
        simp only [max2]
        split <;> simp
      rw [h0, h1]
      rcases hm with hm | hm <;> rw [hm, wr_id (by simp only [inI]; omega)] <;> omega
    rw [rdeep_un]
    simp only [dfin]
    split
    · split <;> omega
    · split
      · split <;> omega
      · split
        · split
          · rename_i hc
            exact one hc.1
          · omega
        · split
          · omega
          · split
            · rename_i hc
              exact two hc.1
            · omega
end Go.Proofs.YtlhebakbbfmiiaaDoor

/- Plain law: the document's depth is the program's. -/
namespace Go.Proofs.YtlhebakbbfmiiaaDoor
open Go.Ax
theorem rsign_two {k : Int} (h : 4 ≤ k ∧ k ≤ 14) : ¬ rsign k = [] := by
  rcases (by omega : k = 4 ∨ k = 5 ∨ k = 6 ∨ k = 7 ∨ k = 8 ∨ k = 9 ∨ k = 10 ∨ k = 11 ∨ k = 12 ∨ k = 13 ∨ k = 14) with rfl | rfl | rfl | rfl | rfl | rfl | rfl | rfl | rfl | rfl | rfl <;> decide
theorem rsign_no {k : Int} (h1 : ¬ (4 ≤ k ∧ k ≤ 14)) : rsign k = [] := by
  by_cases h2 : k < 0 ∨ 15 ≤ k
  · rw [rsign, if_pos h2]
  · rcases (by omega : k = 0 ∨ k = 1 ∨ k = 2 ∨ k = 3) with rfl | rfl | rfl | rfl <;> decide
theorem parts_no {k : Int} (h : parts k = -1) : ¬ (1 ≤ k ∧ k ≤ 16) := fun hk => by
  rcases (by omega : k = 1 ∨ k = 2 ∨ k = 3 ∨ k = 4 ∨ k = 5 ∨ k = 6 ∨ k = 7 ∨ k = 8 ∨ k = 9 ∨ k = 10 ∨ k = 11 ∨ k = 12 ∨ k = 13 ∨ k = 14 ∨ k = 15 ∨ k = 16) with rfl | rfl | rfl | rfl | rfl | rfl | rfl | rfl | rfl | rfl | rfl | rfl | rfl | rfl | rfl | rfl <;> exact absurd h (by decide)
theorem deep_right : ∀ (n : Nat) (e : Xpr) (m : Nat), esize e ≤ n → n < 1000000 → m ≤ 30 → (eright e (m : Int) = true ↔ rdeep e ≤ (m : Int))
  | 0, e, _, h, _, _ => by have := esize_pos e; omega
  | n + 1, e, m, h, hn, hm => by
    have hb := deep_bd (n + 1) e h hn
    rw [eright_un]
    by_cases h0 : m = 0
    · subst h0
      constructor
      · intro hx
        rw [decide_eq_true (show ((0 : Nat) : Int) = 0 from rfl)] at hx
        cases hx
      · intro hx; omega
    · have hw : wr .i64 ((m : Int) - 1) = ((m - 1 : Nat) : Int) := by
        rw [wr_id (by simp only [inI]; omega)]; omega
      have m1 : (1 : Int) ≤ (m : Int) := by omega
      have m31 : ¬ (31 : Int) ≤ (m : Int) := by omega
      rw [hw, decide_eq_false (show ¬ (m : Int) = 0 by omega), rdeep_un]
      rcases parts_spec e.kind with ⟨p, hk⟩ | ⟨p, hk⟩ | ⟨p, hk⟩ | p
      · rw [p]
        have hz : decide ((e.l.length : Int) = 0) = decide (e.l = []) := decide_eq_decide.2 ⟨fun h => List.eq_nil_of_length_eq_zero (by omega), fun h => by rw [h]; rfl⟩
        have hy : 0 < e.l.length ↔ ¬ e.l = [] := List.length_pos_iff
        rw [hz]
        rcases hk with k1 | k2
        · simp only [dfin, eok, k1]
          by_cases hl : e.l = [] <;> by_cases a1 : vcheck e.v = 0 <;> by_cases a2 : e.v.kind = 3 <;> by_cases a3 : e.v.n < 0 <;> by_cases a4 : e.name = [] <;> simp [hl, a1, a2, a3, a4, m1, m31, erights]
        · simp only [dfin, eok, k2]
          by_cases hl : e.l = [] <;> by_cases a1 : lname e.name = true <;> by_cases a2 : e.v = ⟨0, 0, []⟩ <;> simp [hl, a1, a2, m1, m31, erights]
      · have k1 : ¬ e.kind = 1 := by omega
        have k2 : ¬ e.kind = 2 := by omega
        rw [p]
        simp only [dfin, eok, if_neg k1, if_neg k2, if_pos hk, decide_eq_false k1, decide_eq_false k2, cond_f]
        by_cases hl : (e.l.length : Int) = 1
        · obtain ⟨x, hx⟩ : ∃ x, e.l = [x] := List.length_eq_one_iff.1 (by omega)
          have hs : esize x ≤ n := by rw [esize_eq, hx] at h; simp only [esizes] at h; omega
          have hbx := deep_bd n x hs (by omega)
          have ih : eright x ((m - 1 : Nat) : Int) = true ↔ 1 + rdeep x ≤ (m : Int) := (deep_right n x (m - 1) hs (by omega) (by omega)).trans (by omega)
          have hr : erights e.l ((m - 1 : Nat) : Int) = eright x ((m - 1 : Nat) : Int) := by rw [hx]; simp only [erights, Bool.and_true]
          have h0 : hd (rdeepL e.l) 0 = rdeep x := by rw [hx]; rfl
          have hwx : wr .i64 (1 + rdeep x) = 1 + rdeep x := wr_id (by simp only [inI]; omega)
          rw [hr, h0, hwx, decide_eq_true hl]
          by_cases b2 : e.v = ⟨0, 0, []⟩ <;> by_cases b3 : e.name = [] <;> simp [hl, b2, b3, ih, m31]
        · rw [decide_eq_false hl]
          simp [hl, m31]
      · have k1 : ¬ e.kind = 1 := by omega
        have k2 : ¬ e.kind = 2 := by omega
        have k3 : ¬ (e.kind = 3 ∨ e.kind = 15 ∨ e.kind = 16) := by omega
        rw [p]
        simp only [dfin, eok, if_neg k1, if_neg k2, if_neg k3, if_neg (rsign_two hk), decide_eq_false k1, decide_eq_false k2, cond_f]
        by_cases hl : (e.l.length : Int) = 2
        · obtain ⟨x, y, hx⟩ : ∃ x y, e.l = [x, y] := len_two (by omega)
          have hs : esize x ≤ n := by rw [esize_eq, hx] at h; simp only [esizes] at h; omega
          have ht : esize y ≤ n := by rw [esize_eq, hx] at h; simp only [esizes] at h; omega
          have hbx := deep_bd n x hs (by omega)
          have hby := deep_bd n y ht (by omega)
          have ih : eright x ((m - 1 : Nat) : Int) = true ↔ 1 + rdeep x ≤ (m : Int) := (deep_right n x (m - 1) hs (by omega) (by omega)).trans (by omega)
          have jh : eright y ((m - 1 : Nat) : Int) = true ↔ 1 + rdeep y ≤ (m : Int) := (deep_right n y (m - 1) ht (by omega) (by omega)).trans (by omega)
          have hr : erights e.l ((m - 1 : Nat) : Int) = (eright x ((m - 1 : Nat) : Int) && eright y ((m - 1 : Nat) : Int)) := by rw [hx]; simp only [erights, Bool.and_true]
          have h0 : hd (rdeepL e.l) 0 = rdeep x := by rw [hx]; rfl
          have h1 : hd (rdeepL e.l) 1 = rdeep y := by rw [hx]; rfl
          have hwx : wr .i64 (1 + max2 (rdeep x) (rdeep y)) = 1 + max2 (rdeep x) (rdeep y) := wr_id (by
            simp only [inI, max2]
            split <;> omega)
          have hmx : 1 + max2 (rdeep x) (rdeep y) ≤ (m : Int) ↔ (1 + rdeep x ≤ (m : Int) ∧ 1 + rdeep y ≤ (m : Int)) := by
            simp only [max2]
            split <;> omega
          rw [hr, h0, h1, hwx, decide_eq_true hl]
          by_cases b2 : e.v = ⟨0, 0, []⟩ <;> by_cases b3 : e.name = [] <;> simp [hl, b2, b3, ih, jh, hmx, m31]
        · rw [decide_eq_false hl]
          simp [hl, m31]
      · have hk := parts_no p
        rw [p, decide_eq_false (show ¬ (e.l.length : Int) = -1 by omega)]
        simp only [dfin, if_neg (show ¬ e.kind = 1 by omega), if_neg (show ¬ e.kind = 2 by omega), if_neg (show ¬ (e.kind = 3 ∨ e.kind = 15 ∨ e.kind = 16) by omega), if_pos (rsign_no (show ¬ (4 ≤ e.kind ∧ e.kind ≤ 14) by omega))]
        simp [m31]
end Go.Proofs.YtlhebakbbfmiiaaDoor

/- Plain law: what is right has the right shape. -/
namespace Go.Proofs.YtlhebakbbfmiiaaDoor
open Go.Ax
theorem erights_wfl : ∀ (l : List Xpr) (m : Int), (∀ x, x ∈ l → ∀ m, eright x m = true → wfx x = true) → erights l m = true → wfl l = true
  | [], _, _, _ => rfl
  | x :: l, m, hx, h => by
    simp only [erights, Bool.and_eq_true] at h
    simp only [wfl, hx x (.head _) m h.1, erights_wfl l m (fun y hy => hx y (.tail _ hy)) h.2, Bool.and_self]
theorem right_wf : ∀ (n : Nat) (e : Xpr) (m : Int), esize e ≤ n → eright e m = true → wfx e = true
  | 0, e, _, h, _ => by have := esize_pos e; omega
  | n + 1, e, m, h, hr => by
    obtain ⟨hp, _, hs⟩ := eright_parts hr
    rw [wfx_un, decide_eq_true hp, Bool.true_and]
    refine erights_wfl e.l _ (fun x hx m h2 => right_wf n x m ?_ h2) hs
    have := esize_mem hx
    rw [esize_eq] at h
    omega
end Go.Proofs.YtlhebakbbfmiiaaDoor

/- The document's answer: the value of an expression that may be, has a kind, of a row that fits. -/
namespace Go.Proofs.YtlhebakbbfmiiaaDoor
open Go.Ax
/-! ## exchequer/exchequerref15.eval -/
def reval_0_sg : Sig := ⟨97, [(1, .sl .col false), (2, .sl .val false), (7, .int .i64), (8, .int .i64)], [(3, .ptr 0 0), (6, .ptr 1 0)], [(0, .one (.sv .expr)), (1, .one (.sv .val))], 2, 0, 0, [], []⟩
abbrev reval_0_V := List Col × List Val × Int × Int × Xpr × Val
def reval_0 {R : Type} (rec : reval_0_V → Option R) (kx : Ex → reval_0_V → Option R) (v : reval_0_V) : Option R := match v with
 | (v, v1, v2, v3, w, w1) =>
  cond (decide (v3 < (v.length : Int))) (
   cond (decide (w.kind = 2)) (
    chk (inb v3 v.length) (
     cond (decide (((at' .col v v3).name) = w.name)) (
      chk (inb v3 v1.length) (
       kx .ret (v, v1, 0, v3, w, (at' .val v1 v3)))) (
      rec (v, v1, v2, (wr .i64 (v3 + 1)), w, w1)))) (
    kx (.exit 0) (v, v1, v2, v3, w, w1))) (
   kx (.exit 0) (v, v1, v2, v3, w, w1))
def reval_px (R : Type) (k : Nat) (rf : FT [.sv .expr, .sl .col false, .sl .val false] [.sv .val, .int .i64]) : Px R := ⟨ttOf ttL, glT, callT [(30, callOr [.sv .expr, .sl .col false, .sl .val false] [.sv .val, .int .i64] rf), (43, callOr [.sv .val] [.int .i64] rthree_F), (42, callOr [.int .i64] [.sv .val] rback_F), (44, callOr [.int .i64, .sv .val, .sv .val] [.sv .val, .int .i64] rtwo_F), (45, callOr [.bool] [.sv .val] ris_F)], callQT [], loopT [(4, loopOr k reval_0_sg (reval_0))]⟩
theorem reval_0_eq (R : Type) (k : Nat) (rf : FT [.sv .expr, .sl .col false, .sl .val false] [.sv .val, .int .i64]) : ∀ (fr : List Fr) (rec : reval_0_V → Option R) (kx : Ex → reval_0_V → Option R) (v : reval_0_V), round (reval_px R k rf) reval_0_sg (lp Tryd.f30 0) fr rec kx v = reval_0 rec kx v
  | fr, rec, kx, (v, v1, v2, v3, w, w1) => by kernel_rfl
def reval_body (k : Nat) (rf : FT [.sv .expr, .sl .col false, .sl .val false] [.sv .val, .int .i64]) (x : HV [.sv .expr, .sl .col false, .sl .val false]) : Option (HV [.sv .val, .int .i64]) := match x with
 | (e, cols, row) =>
  cond (decide (e.kind = 1)) (
   some (e.v, 0)) (
   iter (fun rec => reval_0 rec (fun e v => match v with | (v4, v5, v6, _, v8, v9) => match e with
    | .ret =>
     some (v9, v6)
    | .exit 0 =>
     chk (inb 0 v8.l.length) (
      (rf ((at' .expr v8.l 0), v4, v5)).bind fun (x, x1) =>
       cond (!decide (x1 = 0)) (
        some ((Val.mk 0 0 []), x1)) (
        cond (decide (v8.kind = 3)) (
         some ((rback (wr .i64 (2 - (rthree x)))), 0)) (
         cond (decide (v8.kind = 15)) (
          some (((rtwo 13 (Val.mk 3 0 []) x).1), (rtwo 13 (Val.mk 3 0 []) x).2)) (
          cond (decide (v8.kind = 16)) (
           some ((ris (decide (x.kind = 1))), 0)) (
           chk (inb 1 v8.l.length) (
            (rf ((at' .expr v8.l 1), v4, v5)).bind fun (x2, x3) =>
             cond (!decide (x3 = 0)) (
              some ((Val.mk 0 0 []), x3)) (
              some (((rtwo v8.kind x x2).1), (rtwo v8.kind x x2).2))))))))
    | _ => none)) k (cols, row, 0, 0, e, (Val.mk 0 0 [])))
theorem reval_eq (k : Nat) (rf : FT [.sv .expr, .sl .col false, .sl .val false] [.sv .val, .int .i64]) : ∀ (x : HV [.sv .expr, .sl .col false, .sl .val false]), runF (reval_px _ k rf) Tryd.f30 [.sv .expr, .sl .col false, .sl .val false] [.sv .val, .int .i64] x some = reval_body k rf x
  | (e, cols, row) => by kernel_rfl
theorem reval_run (k : Nat) (rf : FT [.sv .expr, .sl .col false, .sl .val false] [.sv .val, .int .i64]) (hrf : FnOk Tryd.prog elT glT 30 [.sv .expr, .sl .col false, .sl .val false] [.sv .val, .int .i64] rf) : FnOk Tryd.prog elT glT 30 [.sv .expr, .sl .col false, .sl .val false] [.sv .val, .int .i64] (reval_body k rf) := by
  refine fnOk_run Tryd.func30 rfl (by kernel_rfl) follows (by kernel_rfl) (n := 1) (by kernel_rfl) (px := reval_px _ k rf) (fun cx hP hel hgl => ?_) (reval_eq k rf)
  have hp0 : PxOk cx (reval_px (HV [.sv .val, .int .i64]) k rf) := ⟨fun t => by rw [hP, hel]; exact tt_ok ttL_ok t, by rw [hgl]; rfl⟩
  have hc0 : CallOk cx (reval_px (HV [.sv .val, .int .i64]) k rf) := callT_ok rfl (cfs_cons (cf_or (by rw [hP, hel, hgl]; exact hrf) (by kernel_rfl)) (cfs_cons (cf_or (by rw [hP, hel, hgl]; exact rthree_ok) (by kernel_rfl)) (cfs_cons (cf_or (by rw [hP, hel, hgl]; exact rback_ok) (by kernel_rfl)) (cfs_cons (cf_or (by rw [hP, hel, hgl]; exact rtwo_ok) (by kernel_rfl)) (cfs_cons (cf_or (by rw [hP, hel, hgl]; exact ris_ok) (by kernel_rfl)) cfs_nil)))))
  have hq0 : CallQOk cx (reval_px (HV [.sv .val, .int .i64]) k rf) := callQT_ok rfl cqfs_nil
  have hlreval_0 : LoopOk cx (reval_px (HV [.sv .val, .int .i64]) k rf) (lp Tryd.f30 0) := loop_ok hp0 hc0 hq0 (by rw [hP]; exact follows) (k := k) (s := reval_0_sg) (step := reval_0) (fun _ _ => by kernel_rfl) (by kernel_rfl) (reval_0_eq _ k rf) (loops_in (n := 0) (by kernel_rfl) all0)
  exact ⟨hp0, hc0, hq0, (allS all0 hlreval_0)⟩
theorem eright_mono : ∀ (m q : Nat) (e : Xpr), m ≤ q → q ≤ 30 → eright e (m : Int) = true → eright e (q : Int) = true
  | 0, q, e, _, _, h => by
    rw [eright_un] at h
    simp only [Int.natCast_zero, decide_true, Bool.not_true, Bool.false_and, Bool.false_eq_true] at h
  | m + 1, 0, e, h, _, _ => absurd h (Nat.not_succ_le_zero m)
  | m + 1, q + 1, e, hq, h30, h => by
    obtain ⟨h1, h2, h3⟩ := eright_parts h
    have w1 : wr .i64 (((m + 1 : Nat) : Int) - 1) = (m : Int) := by rw [wr_id (by simp only [inI]; omega)]; omega
    have w2 : wr .i64 (((q + 1 : Nat) : Int) - 1) = (q : Int) := by rw [wr_id (by simp only [inI]; omega)]; omega
    have mono : ∀ l : List Xpr, erights l (m : Int) = true → erights l (q : Int) = true := by
      intro l
      induction l with
      | nil => exact fun h => h
      | cons x l ih =>
        intro h
        simp only [erights, Bool.and_eq_true] at h ⊢
        exact ⟨eright_mono m q x (by omega) (by omega) h.1, ih h.2⟩
    rw [w1] at h3
    rw [eright_un, w2, decide_eq_true h1, h2, mono _ h3, decide_eq_false (by omega)]
    rfl
/-! ## values -/
theorem val_two {v : Val} (h : vright v = true) (hk : v.kind = 1 ∨ v.kind = 2) : v = ⟨1, 0, []⟩ ∨ v = ⟨2, 0, []⟩ ∨ v = ⟨2, 1, []⟩ := by
  obtain ⟨k, n, s⟩ := v
  simp only at hk
  rcases hk with rfl | rfl
  · left
    simp [vright] at h
    simp [h]
  · right
    simp [vright] at h
    by_cases h0 : n = 0
    · left; simp [h0] at h; simp [h0, h]
    · right; simp [h0] at h; simp [h]
theorem val_three {v : Val} (h : vright v = true) (hk : v.kind = 1 ∨ v.kind = 3) : v = ⟨1, 0, []⟩ ∨ v = ⟨3, v.n, []⟩ := by
  obtain ⟨k, n, s⟩ := v
  simp only at hk
  rcases hk with rfl | rfl
  · left
    simp [vright] at h
    simp [h]
  · right
    simp [vright] at h
    simp [h]
theorem rf_iff {a k : Int} : rfits a k = true ↔ (a = k ∨ a = 1) := by
  simp only [rfits]
  by_cases h : a = k <;> simp [h]
theorem kfin_two {e : Xpr} {cols : List Col} {a b : Int} (h : (kfin e cols a b).2 = 0) (h3 : e.kind = 3 ∨ e.kind = 4 ∨ e.kind = 5) : (a = 2 ∨ a = 1) ∧ (b = 2 ∨ b = 1) := by
  simp only [kfin] at h
  rw [if_neg (by omega), if_neg (by omega), if_neg (by omega), if_pos h3] at h
  split at h
  · rename_i hc
    simp only [Bool.and_eq_true, rf_iff] at hc
    exact hc
  · simp at h
theorem kfin_three {e : Xpr} {cols : List Col} {a b : Int} (h : (kfin e cols a b).2 = 0) (h3 : e.kind = 12 ∨ e.kind = 13 ∨ e.kind = 14 ∨ e.kind = 15) : (a = 3 ∨ a = 1) ∧ (b = 3 ∨ b = 1) := by
  simp only [kfin] at h
  rw [if_neg (by omega), if_neg (by omega), if_neg (by omega), if_neg (by omega), if_pos h3] at h
  split at h
  · rename_i hc
    simp only [Bool.and_eq_true, rf_iff] at hc
    exact hc
  · simp at h
theorem ris_truth (b : Bool) : ris b = truth b := by cases b <;> kernel_rfl
/-- what two values make -/
theorem two_logic {k : Int} (hk : k = 4 ∨ k = 5) {v u : Val} (hv : v = ⟨1, 0, []⟩ ∨ v = ⟨2, 0, []⟩ ∨ v = ⟨2, 1, []⟩) (hu : u = ⟨1, 0, []⟩ ∨ u = ⟨2, 0, []⟩ ∨ u = ⟨2, 1, []⟩) : rtwo k v u = (logic k [v, u], 0) := by
  rcases hk with rfl | rfl <;> rcases hv with rfl | rfl | rfl <;> rcases hu with rfl | rfl | rfl <;> kernel_rfl
theorem vcmp_in (a b : Val) : vcmp a b = -1 ∨ vcmp a b = 0 ∨ vcmp a b = 1 := by
  have h : ∀ x y, vsign x y = -1 ∨ vsign x y = 0 ∨ vsign x y = 1 := fun x y => by
    simp only [vsign, Bool.cond_decide]
    split
    · simp
    · split <;> simp
  simp only [vcmp]
  rcases h a.kind b.kind with h1 | h1 | h1 <;> rw [h1] <;> simp
  rcases h a.n b.n with h2 | h2 | h2 <;> rw [h2] <;> simp
  exact scmp_range _ _
theorem two_cmp {k : Int} (hk : 6 ≤ k ∧ k ≤ 11) {v u : Val} (hv : ¬ v.kind = 1) (hu : ¬ u.kind = 1) : rtwo k v u = (truth (stands k (vcmp v u)), 0) := by
  obtain ⟨c, hc'⟩ : ∃ c, vcmp v u = c := ⟨_, rfl⟩
  have hc := vcmp_in v u
  simp only [rtwo, stands, rcmp_vcmp, ris_truth]
  rw [hc'] at hc ⊢
  rw [decide_eq_false hv, decide_eq_false hu]
  clear hc'
  rcases (by omega : k = 6 ∨ k = 7 ∨ k = 8 ∨ k = 9 ∨ k = 10 ∨ k = 11) with rfl | rfl | rfl | rfl | rfl | rfl <;> rcases hc with rfl | rfl | rfl <;> rfl
theorem two_null {k : Int} (hk : 6 ≤ k ∧ k ≤ 14) {v u : Val} (h : v.kind = 1 ∨ u.kind = 1) : rtwo k v u = (⟨1, 0, []⟩, 0) := by
  simp only [rtwo]
  rw [decide_eq_false (show ¬ k = 4 by omega), decide_eq_false (show ¬ k = 5 by omega)]
  by_cases h1 : v.kind = 1
  · rw [decide_eq_true h1]; kernel_rfl
  · rw [decide_eq_false h1, decide_eq_true (h.resolve_left h1)]; kernel_rfl
theorem two_sum {k : Int} (hk : 12 ≤ k ∧ k ≤ 14) {n m : Int} (hn : inI n) (hm : inI m) : rtwo k ⟨3, n, []⟩ ⟨3, m, []⟩ = rsum k n m := by
  have h1 := vadd_z hn hm
  have h2 := vsub_z hn hm
  have h3 := vmul_z hn hm
  rcases (by omega : k = 12 ∨ k = 13 ∨ k = 14) with rfl | rfl | rfl
  · simp only [rtwo, rsum, rAdd, h1]; rfl
  · simp only [rtwo, rsum, rSub, h2]; rfl
  · simp only [rtwo, rsum, rMul, h3]; rfl
theorem one_neg {n : Int} (hn : inI n) : rtwo 13 ⟨3, 0, []⟩ ⟨3, n, []⟩ = rsum 15 n 0 := by
  have h2 := vsub_z (a := 0) (by simp only [inI]; omega) hn
  simp only [rtwo, rsum, rSub, h2]
  rfl
theorem chk_out {R : Type} {b : Bool} {x : Option R} {r : R} (h : chk b x = some r) : x = some r := by
  cases b
  · cases h
  · exact h
/-! ## what is told has room -/
theorem inI_wr (x : Int) : inI (wr .i64 x) := by
  simp only [inI, wr, IntKind.wrap, IntKind.signed, IntKind.bits, Bool.true_and]
  split <;> simp at * <;> omega
theorem inI0 : inI 0 := by simp only [inI]; omega
theorem inI1 : inI 1 := by simp only [inI]; omega
theorem rsum_room (k : Int) {a b : Int} (ha : inI a) (hb : inI b) : inI (rsum k a b).1.n := by
  have fz : ∀ z, inI (fitZ z).1 := fun z => by
    simp only [fitZ]
    split
    · rename_i h; exact h
    · exact inI0
  have one : ∀ (p : Int × Int), inI p.1 → inI (cond (!decide (p.2 = 0)) ((⟨0, 0, []⟩ : Val), p.2) (⟨3, p.1, []⟩, 0)).1.n := fun p h => by
    cases decide (p.2 = 0)
    · exact inI0
    · exact h
  simp only [rsum, vadd_z ha hb, vsub_z ha hb, vmul_z ha hb, vsub_z inI0 ha]
  cases decide (k = 12)
  · cases decide (k = 13)
    · cases decide (k = 14)
      · exact one _ (fz _)
      · exact one _ (fz _)
    · exact one _ (fz _)
  · exact one _ (fz _)
theorem truth_room (b : Bool) : inI (truth b).n := by cases b <;> first | exact inI0 | exact inI1
theorem logic_room (k : Int) (l : List Val) : inI (logic k l).n := by
  rcases logic_or k l with ⟨b, h⟩ | h
  · rw [h]; exact truth_room b
  · rw [h]; exact inI0
theorem at_room {row : List Val} (h : ∀ v, v ∈ row → inI v.n) (i : Int) : inI (at' .val row i).n := by
  simp only [at', List.getD_eq_getElem?_getD]
  cases hg : row[i.toNat]? with
  | none => exact inI0
  | some v => exact h v (List.mem_of_getElem? hg)
theorem efin_room {e : Xpr} {cols : List Col} {row vs : List Val} {u : Bool} {v : Val} {f : Int} (he : inI e.v.n) (hr : ∀ v, v ∈ row → inI v.n) (hv : ∀ v, v ∈ vs → inI v.n) (h : efin e cols row vs u = some (v, f)) : inI v.n := by
  have ck : ∀ {b : Bool} {x : Option (Val × Int)} {r : Val × Int}, chk b x = some r → x = some r := fun {b x r} h => by
    cases b
    · cases h
    · exact h
  have s2 : ∀ (k a b : Int), inI a → inI b → some ((rsum k a b).1, (rsum k a b).2) = some (v, f) → inI v.n := fun k a b ha hb h => by
    simp only [Option.some.injEq, Prod.mk.injEq] at h
    rw [← h.1]; exact rsum_room k ha hb
  simp only [efin] at h
  cases h1 : decide (e.kind = 1)
  · rw [h1] at h
    cases h2 : decide (e.kind = 2)
    · rw [h2] at h
      cases h3 : decide (e.kind = 16)
      · rw [h3] at h
        simp only [cond_f] at h
        have body : ∀ p : Bool, cond p (some (logic e.kind vs, (0 : Int))) (cond u (some (⟨1, 0, []⟩, 0)) (cond (decide (e.kind = 3)) (chk (inb 0 vs.length) (some (truth (decide ((at' .val vs 0).n = 0)), 0))) (cond (decide (e.kind = 15)) (chk (inb 0 vs.length) (some ((rsum e.kind (at' .val vs 0).n 0).1, (rsum e.kind (at' .val vs 0).n 0).2))) (cond (decide (12 ≤ e.kind)) (chk (inb 0 vs.length) (chk (inb 1 vs.length) (some ((rsum e.kind (at' .val vs 0).n (at' .val vs 1).n).1, (rsum e.kind (at' .val vs 0).n (at' .val vs 1).n).2)))) (chk (inb 0 vs.length) (chk (inb 1 vs.length) (some (truth (stands e.kind (vcmp (at' .val vs 0) (at' .val vs 1))), 0)))))))) = some (v, f) → inI v.n := fun p h => by
          cases p
          · simp only [cond_f] at h
            cases u
            · simp only [cond_f] at h
              cases h4 : decide (e.kind = 3)
              · rw [h4] at h
                simp only [cond_f] at h
                cases h5 : decide (e.kind = 15)
                · rw [h5] at h
                  simp only [cond_f] at h
                  cases h6 : decide (12 ≤ e.kind)
                  · rw [h6] at h
                    have h := ck (ck h)
                    simp only [Option.some.injEq, Prod.mk.injEq] at h
                    rw [← h.1]; exact truth_room _
                  · rw [h6] at h
                    exact s2 _ _ _ (at_room hv 0) (at_room hv 1) (ck (ck h))
                · rw [h5] at h
                  exact s2 _ _ _ (at_room hv 0) inI0 (ck h)
              · rw [h4] at h
                have h := ck h
                simp only [Option.some.injEq, Prod.mk.injEq] at h
                rw [← h.1]; exact truth_room _
            · simp only [cond_t, Option.some.injEq, Prod.mk.injEq] at h
              rw [← h.1]; exact inI0
          · simp only [cond_t, Option.some.injEq, Prod.mk.injEq] at h
            rw [← h.1]; exact logic_room _ _
        cases h7 : decide (e.kind = 4)
        · rw [h7] at h; exact body _ h
        · rw [h7] at h; exact body true h
      · rw [h3] at h
        simp only [cond_t, cond_f, Option.some.injEq, Prod.mk.injEq] at h
        rw [← h.1]; exact truth_room _
    · rw [h2] at h
      have h := ck h
      simp only [Option.some.injEq, Prod.mk.injEq] at h
      rw [← h.1]; exact at_room hr _
  · rw [h1] at h
    simp only [cond_t, Option.some.injEq, Prod.mk.injEq] at h
    rw [← h.1]; exact he
theorem evalE_room {cols : List Col} {row : List Val} (hr : ∀ v, v ∈ row → inI v.n) : ∀ (n : Nat) (e : Xpr) (v : Val) (f : Int), esize e ≤ n → BdExpr e → evalE e cols row = some (v, f) → inI v.n
  | 0, e, _, _, h, _, _ => by have := esize_pos e; omega
  | n + 1, e, v, f, h, hb, he => by
    have list : ∀ (l : List Xpr) (g : Int) (vs : List Val), (∀ x, x ∈ l → esize x ≤ n ∧ BdExpr x) → evalL l cols row = some (g, vs) → ∀ v, v ∈ vs → inI v.n := by
      intro l
      induction l with
      | nil => intro g vs _ h; simp only [evalL, Option.some.injEq, Prod.mk.injEq] at h; obtain ⟨_, rfl⟩ := h; simp
      | cons x l ih =>
        intro g vs hx h
        simp only [evalL] at h
        split at h
        · rename_i v f hv
          have hv1 := evalE_room hr n x v f (hx x (.head _)).1 (hx x (.head _)).2 hv
          split at h
          · split at h
            · rename_i g' vs' hvs
              simp only [Option.some.injEq, Prod.mk.injEq] at h
              obtain ⟨_, rfl⟩ := h
              intro w hw
              rcases List.mem_cons.1 hw with rfl | hw
              · exact hv1
              · exact ih g' vs' (fun y hy => hx y (.tail _ hy)) hvs w hw
            · cases h
          · simp only [Option.some.injEq, Prod.mk.injEq] at h
            obtain ⟨_, rfl⟩ := h
            simp
        · cases h
    rw [evalE_un] at he
    rw [esize_eq] at h
    cases hb with
    | mk k v0 nm l b1 b2 b3 b4 b5 =>
      split at he
      · rename_i g vs hl
        have hvs := list l g vs (fun x hx => ⟨by have := esize_mem hx; simp only [Xpr.l] at h; omega, b5 x hx⟩) hl
        have he : (if g = 0 then efin (.mk k v0 nm l) cols row vs (vs.any isNull) else some (⟨0, 0, []⟩, g)) = some (v, f) := by
          exact chk_out he
        split at he
        · exact efin_room (e := .mk k v0 nm l) b2.2.1 hr hvs he
        · simp only [Option.some.injEq, Prod.mk.injEq] at he
          rw [← he.1]; exact inI0
      · cases he
/-! ## the value -/
def reval (e : Xpr) (cols : List Col) (row : List Val) : Option (Val × Int) := cond (eright e 30 && decide ((kindE e cols).2 = 0) && allFit cols row) (evalE e cols row) none
def reval_F : FT [.sv .expr, .sl .col false, .sl .val false] [.sv .val, .int .i64] := fun x => reval x.1 x.2.1 x.2.2
theorem reval_loop {R : Type} {kx : Ex → reval_0_V → Option R} {cols : List Col} {row : List Val} {e : Xpr} {a : Val → Option R} {b : Option R} (hn : ln cols.length) (hlen : cols.length = row.length) (he : e.kind = 2) (h1 : ∀ j w, kx .ret (cols, row, 0, j, e, w) = a w) (h2 : ∀ q j w, kx (.exit 0) (cols, row, q, j, e, w) = b) : ∀ (k i : Nat) q w, i ≤ cols.length → cols.length - i < k → iter (fun rec => reval_0 rec kx) k (cols, row, q, (i : Int), e, w) = if findFrom (cols.drop i) e.name i < 0 then b else a (at' .val row (findFrom (cols.drop i) e.name i))
  | 0, i, q, w, _, h => by omega
  | k + 1, i, q, w, hi, h => by
    rw [iter_s]
    by_cases hl : i < cols.length
    · have ih := reval_loop hn hlen he h1 h2 k (i + 1) q w (by omega) (by omega)
      have hl2 : i < row.length := by omega
      simp only [reval_0, inb_t hl, inb_t hl2, chk, cond_t, at_nat (c := .col) hl, wr_succ hl hn, h1, ih, drop_cons hl]
      rw [decide_eq_true (show (i : Int) < (cols.length : Int) by omega), decide_eq_true he]
      by_cases hc : cols[i].name = e.name
      · have e1 : ∀ l, findFrom (cols[i] :: l) e.name i = (i : Int) := fun l => by simp only [findFrom]; rw [if_pos hc]
        rw [e1, decide_eq_true hc, if_neg (show ¬ (i : Int) < 0 by omega)]
        rfl
      · have e1 : ∀ l, findFrom (cols[i] :: l) e.name i = findFrom l e.name (i + 1) := fun l => by simp only [findFrom]; rw [if_neg hc]
        rw [e1, decide_eq_false hc]
        rfl
    · have e1 : findFrom [] e.name i = -1 := rfl
      simp only [reval_0, h2]
      rw [decide_eq_false (by omega), List.drop_eq_nil_of_le (by omega), e1, if_pos (by omega)]
      rfl
theorem reval_no {R : Type} {kx : Ex → reval_0_V → Option R} {cols : List Col} {row : List Val} {e : Xpr} {w : Val} {b : Option R} (h : ¬ e.kind = 2) (h2 : kx (.exit 0) (cols, row, 0, 0, e, w) = b) (k : Nat) : iter (fun rec => reval_0 rec kx) (k + 1) (cols, row, 0, 0, e, w) = b := by
  rw [iter_s]
  simp only [reval_0, h2, decide_eq_false h, cond_f]
  cases decide ((0 : Int) < (cols.length : Int)) <;> rfl
theorem reval_step (k : Nat) {e : Xpr} {cols : List Col} {row : List Val} {rf : FT [.sv .expr, .sl .col false, .sl .val false] [.sv .val, .int .i64]} (hn : ln cols.length) (hk : cols.length < k) (hr : eright e 30 = true) (hk0 : (kindE e cols).2 = 0) (hf : allFit cols row = true) (hb : BdExpr e) (hrow : ∀ v, v ∈ row → inI v.n) (hrf : ∀ x, x ∈ e.l → eright x 30 = true → (kindE x cols).2 = 0 → rf (x, cols, row) = evalE x cols row) : reval_body k rf (e, cols, row) = evalE e cols row := by
  obtain ⟨hp, hok, hs⟩ := eright_parts hr
  have w29 : wr .i64 ((30 : Int) - 1) = ((29 : Nat) : Int) := by decide
  rw [w29] at hs
  have hbl : ∀ x, x ∈ e.l → BdExpr x := by
    cases hb with
    | mk _ _ _ _ _ _ _ _ b5 => exact b5
  obtain ⟨k, rfl⟩ : ∃ j, k = j + 1 := ⟨k - 1, by omega⟩
  rw [evalE_un]
  rw [kindE_un] at hk0
  simp only [reval_body]
  by_cases k1 : e.kind = 1
  · have hl : e.l = [] := List.eq_nil_of_length_eq_zero (by rw [k1] at hp; have : parts 1 = 0 := rfl; omega)
    rw [decide_eq_true k1, hl]
    simp only [evalL]
    show _ = efin e cols row [] _
    simp only [efin]
    rw [decide_eq_true k1]
    rfl
  · rw [decide_eq_false k1, cond_f]
    by_cases k2 : e.kind = 2
    · have hl : e.l = [] := List.eq_nil_of_length_eq_zero (by rw [k2] at hp; have : parts 2 = 0 := rfl; omega)
      rw [hl] at hk0
      simp only [kindL, kres, kfin, if_neg k1, if_pos k2] at hk0
      have hfd : ¬ find cols e.name < 0 := fun h => by rw [if_pos h] at hk0; cases hk0
      have hlen := allFit_len hf
      have hrg := find_range cols e.name
      obtain ⟨i, hi⟩ : ∃ i : Nat, find cols e.name = (i : Int) := ⟨(find cols e.name).toNat, by omega⟩
      have hi2 : i < row.length := by omega
      refine (reval_loop (a := fun w => some (w, 0)) (b := chk (inb 0 e.l.length) none) hn (by omega) k2 (fun _ _ => rfl) (fun q j w => ?_) (k + 1) 0 0 _ (Nat.zero_le _) (by omega)).trans ?_
      · show chk (inb 0 e.l.length) _ = _
        rw [hl]
        rfl
      · show (if find cols e.name < 0 then _ else some (at' .val row (find cols e.name), (0 : Int))) = _
        rw [if_neg hfd, hl]
        simp only [evalL]
        show _ = efin e cols row [] _
        simp only [efin]
        rw [decide_eq_false k1, decide_eq_true k2, hi, inb_t hi2]
        rfl
    · refine reval_no k2 ?_ k
      rcases parts_spec e.kind with ⟨h0, h⟩ | ⟨h0, h⟩ | ⟨h0, h⟩ | h0
      · omega
      · obtain ⟨x, hl⟩ : ∃ x, e.l = [x] := List.length_eq_one_iff.1 (by omega)
        rw [hl] at hs hk0
        simp only [erights, Bool.and_true] at hs
        have hs30 := eright_mono 29 30 x (by omega) (by omega) hs
        simp only [kindL, kres] at hk0
        have hx0 : (kindE x cols).2 = 0 := by
          by_cases hx : (kindE x cols).2 = 0
          · exact hx
          · rw [if_neg hx] at hk0; exact absurd hk0 hx
        rw [if_pos hx0] at hk0
        have hrx := hrf x (by rw [hl]; simp) hs30 hx0
        obtain ⟨v, f, hv, hg⟩ := evalE_good hf (esize x) x 30 (Nat.le_refl _) hs30 hx0
        have hvr := evalE_room hrow (esize x) x v f (Nat.le_refl _) (hbl x (by rw [hl]; simp)) hv
        rw [hv] at hrx
        have a0 : at' .expr [x] 0 = x := rfl
        have i0 : inb 0 [x].length = true := rfl
        show chk (inb 0 e.l.length) _ = _
        rw [hl, a0, i0, hrx]
        simp only [evalL, hv]
        rcases hg with ⟨rfl, hg⟩ | ⟨rfl, rfl⟩
        · show cond (decide (e.kind = 3)) _ _ = efin e cols row [v] ([v].any isNull)
          simp only [efin]
          rw [decide_eq_false k1, decide_eq_false k2]
          have ag : (kindE x cols).1 = 2 ∨ (kindE x cols).1 = 1 → v = ⟨1, 0, []⟩ ∨ v = ⟨2, 0, []⟩ ∨ v = ⟨2, 1, []⟩ := fun h => val_two hg.1 (by omega)
          have ag3 : (kindE x cols).1 = 3 ∨ (kindE x cols).1 = 1 → v = ⟨1, 0, []⟩ ∨ v = ⟨3, v.n, []⟩ := fun h => val_three hg.1 (by omega)
          rcases h with h3 | h15 | h16
          · rw [h3]
            rcases ag (kfin_two hk0 (.inl h3)).1 with rfl | rfl | rfl <;> rfl
          · rw [h15]
            rcases ag3 (kfin_three hk0 (.inr (.inr (.inr h15)))).1 with h1 | h1
            · rw [h1]; rfl
            · rw [h1]
              have := one_neg hvr
              show some ((rtwo 13 ⟨3, 0, []⟩ ⟨3, v.n, []⟩).1, (rtwo 13 ⟨3, 0, []⟩ ⟨3, v.n, []⟩).2) = some ((rsum 15 v.n 0).1, (rsum 15 v.n 0).2)
              rw [this]
          · rw [h16]
            show some (ris (decide (v.kind = 1)), (0 : Int)) = some (truth ([v].any isNull), 0)
            rw [ris_truth]
            simp [isNull]
        · rfl
      · obtain ⟨x, y, hl⟩ : ∃ x y, e.l = [x, y] := len_two (by omega)
        rw [hl] at hs hk0
        simp only [erights, Bool.and_true, Bool.and_eq_true] at hs
        have hsx := eright_mono 29 30 x (by omega) (by omega) hs.1
        have hsy := eright_mono 29 30 y (by omega) (by omega) hs.2
        simp only [kindL, kres] at hk0
        have hx0 : (kindE x cols).2 = 0 := by
          by_cases hx : (kindE x cols).2 = 0
          · exact hx
          · rw [if_neg hx] at hk0; exact absurd hk0 hx
        rw [if_pos hx0] at hk0
        have hy0 : (kindE y cols).2 = 0 := by
          by_cases hy : (kindE y cols).2 = 0
          · exact hy
          · rw [if_neg hy] at hk0; exact absurd hk0 hy
        rw [if_pos hy0] at hk0
        have hrx := hrf x (by rw [hl]; simp) hsx hx0
        have hry := hrf y (by rw [hl]; simp) hsy hy0
        obtain ⟨v, f, hv, hg⟩ := evalE_good hf (esize x) x 30 (Nat.le_refl _) hsx hx0
        obtain ⟨u, g, hu, hg'⟩ := evalE_good hf (esize y) y 30 (Nat.le_refl _) hsy hy0
        have hvr := evalE_room hrow (esize x) x v f (Nat.le_refl _) (hbl x (by rw [hl]; simp)) hv
        have hur := evalE_room hrow (esize y) y u g (Nat.le_refl _) (hbl y (by rw [hl]; simp)) hu
        rw [hv] at hrx
        rw [hu] at hry
        have a0 : at' .expr [x, y] 0 = x := rfl
        have i0 : inb 0 [x, y].length = true := rfl
        have a1 : at' .expr [x, y] 1 = y := rfl
        have i1 : inb 1 [x, y].length = true := rfl
        show chk (inb 0 e.l.length) _ = _
        rw [hl, a0, i0, hrx, a1, i1, hry]
        simp only [evalL, hv, hu]
        rw [decide_eq_false (show ¬ e.kind = 3 by omega), decide_eq_false (show ¬ e.kind = 15 by omega), decide_eq_false (show ¬ e.kind = 16 by omega)]
        rcases hg with ⟨rfl, hg⟩ | ⟨rfl, rfl⟩
        · rcases hg' with ⟨rfl, hg'⟩ | ⟨rfl, rfl⟩
          · show some ((rtwo e.kind v u).1, (rtwo e.kind v u).2) = efin e cols row [v, u] ([v, u].any isNull)
            simp only [efin]
            rw [decide_eq_false k1, decide_eq_false k2, decide_eq_false (show ¬ e.kind = 16 by omega), decide_eq_false (show ¬ e.kind = 3 by omega), decide_eq_false (show ¬ e.kind = 15 by omega)]
            have at0 : at' .val [v, u] 0 = v := rfl
            have at1 : at' .val [v, u] 1 = u := rfl
            have j0 : inb 0 [v, u].length = true := rfl
            have j1 : inb 1 [v, u].length = true := rfl
            simp only [cond_f, j0, j1, chk, cond_t, at0, at1]
            by_cases h45 : e.kind = 4 ∨ e.kind = 5
            · obtain ⟨ka, kb⟩ := kfin_two hk0 (.inr h45)
              have key := two_logic h45 (val_two hg.1 (by omega)) (val_two hg'.1 (by omega))
              rw [key]
              rcases h45 with h4 | h5
              · rw [decide_eq_true h4]; rfl
              · rw [decide_eq_true h5]
                cases decide (e.kind = 4) <;> rfl
            · rw [decide_eq_false (show ¬ e.kind = 4 by omega), decide_eq_false (show ¬ e.kind = 5 by omega)]
              simp only [cond_f]
              by_cases hnul : v.kind = 1 ∨ u.kind = 1
              · have hany : [v, u].any isNull = true := by
                  rcases hnul with h | h <;> simp [isNull, h]
                rw [hany, two_null (by omega) hnul]
                rfl
              · have hany : [v, u].any isNull = false := by
                  simp only [List.any_cons, List.any_nil, isNull, Bool.or_false]
                  rw [decide_eq_false (fun h => hnul (.inl h)), decide_eq_false (fun h => hnul (.inr h))]
                  rfl
                rw [hany]
                by_cases h12 : 12 ≤ e.kind
                · obtain ⟨ka, kb⟩ := kfin_three hk0 (by omega)
                  rw [decide_eq_true h12]
                  have ev : v = ⟨3, v.n, []⟩ := (val_three hg.1 (by omega)).resolve_left (fun h => hnul (.inl (by rw [h])))
                  have eu : u = ⟨3, u.n, []⟩ := (val_three hg'.1 (by omega)).resolve_left (fun h => hnul (.inr (by rw [h])))
                  have key := two_sum (k := e.kind) (by omega) hvr hur
                  rw [← ev, ← eu] at key
                  rw [key]
                  rfl
                · rw [decide_eq_false h12, two_cmp (by omega) (fun h => hnul (.inl h)) (fun h => hnul (.inr h))]
                  rfl
          · rfl
        · rfl
      · omega
theorem reval_all (k : Nat) {cols : List Col} {row : List Val} (hn : ln cols.length) (hk : cols.length < k) (hf : allFit cols row = true) (hrow : ∀ v, v ∈ row → inI v.n) : ∀ (n : Nat) (e : Xpr), eright e 30 = true → (kindE e cols).2 = 0 → BdExpr e → esize e ≤ n → iter (reval_body k) n (e, cols, row) = evalE e cols row
  | 0, e, _, _, _, h => by have := esize_pos e; omega
  | n + 1, e, hr, hk0, hb, h => by
    rw [iter_s]
    refine reval_step k hn hk hr hk0 hf hb hrow fun x hx hrx hx0 => reval_all k hn hk hf hrow n x hrx hx0 ?_ ?_
    · cases hb with
      | mk _ _ _ _ _ _ _ _ b5 => exact b5 x hx
    · have := esize_mem hx
      rw [esize_eq] at h
      omega
theorem reval_ok : FnOk Tryd.prog elT glT 30 [.sv .expr, .sl .col false, .sl .val false] [.sv .val, .int .i64] reval_F := by
  refine .fin (ι := Nat × Nat) (0, 0) (F := fun n => iter (reval_body n.1) n.2) (fun n => FnOk.rec' (Sx.enters_of Tryd.func30 rfl rfl) (fun rf hrf => reval_run n.1 rf hrf) n.2) fun (e, cols, row) r hb hx => ⟨(cols.length + 1, esize e), ?_⟩
  simp only [reval_F, reval] at hx
  cases hw : eright e 30 && decide ((kindE e cols).2 = 0) && allFit cols row with
  | false => rw [hw] at hx; cases hx
  | true =>
    rw [hw] at hx
    simp only [Bool.and_eq_true, decide_eq_true_eq] at hw
    exact (reval_all (cols.length + 1) hb.2.1.1 (by omega) hw.2 (fun v hv => (hb.2.2.2 v hv).2.1) (esize e) e hw.1.1 hw.1.2 hb.1 (Nat.le_refl _)).trans hx
end Go.Proofs.YtlhebakbbfmiiaaDoor
