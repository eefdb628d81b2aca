/- Texts of the proof, one behind the other: Kk, Kl. -/
import Derived.Test.YtkiakihffmafcaaDoorC4
/- The least bytes beyond, whether bytes begin with others; what the laws look at. -/
namespace Go.Proofs.YtkiakihffmafcaaDoor
open Go.Ax
/-! ## exchequer/keys.Next -/
def knext_0_sg : Sig := ⟨35, [], [], [(0, .one (.dn .byte))], 1, 0, 0, [], [(3, 0, .byte)]⟩
abbrev knext_0_V := List UInt8 × Int × Int
def knext_0 {R : Type} (rec : knext_0_V → Option R) (kx : Ex → knext_0_V → Option R) (v : knext_0_V) : Option R := match v with
 | (w, w1, w2) =>
  cond (decide (0 < w2)) (
   chk (inO (wr .i64 (w2 - 1)) w2) (
    chk (inb (w1 + (wr .i64 (w2 - 1))) w.length) (
     cond (decide (((at' .byte w (w1 + (wr .i64 (w2 - 1)))).toNat : Int) = 255)) (
      chk (upI 0 (wr .i64 (w2 - 1)) w2) (
       rec (w, w1, (wr .i64 (w2 - 1))))) (
      kx (.exit 0) (w, w1, w2))))) (
   kx (.exit 0) (w, w1, w2))
noncomputable def knext_px0 (R : Type) (_k : Nat) : Px R := ⟨ttOf ttL, glT, callT [(34, callThaw [.sl .byte false] .byte bclone_F)], callQT [], loopT []⟩
noncomputable def knext_px (R : Type) (k : Nat) : Px R := ⟨ttOf ttL, glT, callT [(34, callThaw [.sl .byte false] .byte bclone_F)], callQT [], loopT [(2, loopPl (knext_px0 R k) (lp Tryd.f20 0) k knext_0_sg (knext_0))]⟩
theorem knext_0_eq (R : Type) (k : Nat) : ∀ (fr : List Fr) (rec : knext_0_V → Option R) (kx : Ex → knext_0_V → Option R) (v : knext_0_V), round (knext_px R k) knext_0_sg (lp Tryd.f20 0) fr rec kx v = knext_0 rec kx v
  | fr, rec, kx, (w, w1, w2) => by kernel_rfl
def knext_body (k : Nat) (x : HV [.sl .byte false]) : Option (HV [.sl .byte false]) := match x with
 | b =>
  (bclone b).bind fun x =>
   cond (List.isEmpty x) (
    some []) (
    iter (fun rec => knext_0 rec (fun e v => match v with | (v, v1, v2) => match e with
     | .exit 0 =>
      cond (decide (0 < v2)) (
       chk (inO (wr .i64 (v2 - 1)) v2) (
        chk (inb (v1 + (wr .i64 (v2 - 1))) v.length) (
         chk (inO (wr .i64 (v2 - 1)) v2) (
          chk (inb (v1 + (wr .i64 (v2 - 1))) v.length) (
           chk (decide ((0 : Int) ≤ v1) && decide ((0 : Int) ≤ v2) && decide ((v1 + v2) ≤ ((v.set ((v1 + (wr .i64 (v2 - 1))) : Int).toNat (UInt8.ofNat ((wr .u8 (((at' .byte v (v1 + (wr .i64 (v2 - 1)))).toNat : Int) + 1)) : Int).toNat)).length : Int))) (
            some (cut (v.set ((v1 + (wr .i64 (v2 - 1))) : Int).toNat (UInt8.ofNat ((wr .u8 (((at' .byte v (v1 + (wr .i64 (v2 - 1)))).toNat : Int) + 1)) : Int).toNat)) v1 (v1 + v2)))))))) (
       chk (decide ((0 : Int) ≤ v1) && decide ((0 : Int) ≤ v2) && decide ((v1 + v2) ≤ (v.length : Int))) (
        some (cut v v1 (v1 + v2))))
     | _ => none)) k (x, 0, (x.length : Int)))
theorem knext_eq (k : Nat) : ∀ (x : HV [.sl .byte false]), runF (knext_px _ k) Tryd.f20 [.sl .byte false] [.sl .byte false] x some = knext_body k x
  | b => by kernel_rfl
theorem knext_run (k : Nat) : FnOk Tryd.prog elT glT 20 [.sl .byte false] [.sl .byte false] (knext_body k) := by
  refine fnOk_run Tryd.func20 rfl (by kernel_rfl) follows (by kernel_rfl) (n := 1) (by kernel_rfl) (px := knext_px _ k) (fun cx hP hel hgl => ?_) (knext_eq k)
  have hp0 : PxOk cx (knext_px (HV [.sl .byte false]) k) := ⟨fun t => by rw [hP, hel]; exact tt_ok ttL_ok t, by rw [hgl]; rfl⟩
  have hc0 : CallOk cx (knext_px (HV [.sl .byte false]) k) := callT_ok rfl (cfs_cons (cf_thaw (by rw [hP, hel, hgl]; exact bclone_ok) (by kernel_rfl) rfl) cfs_nil)
  have hq0 : CallQOk cx (knext_px (HV [.sl .byte false]) k) := callQT_ok rfl cqfs_nil
  have hp00 : PxOk cx (knext_px0 (HV [.sl .byte false]) k) := ⟨fun t => by rw [hP, hel]; exact tt_ok ttL_ok t, by rw [hgl]; rfl⟩
  have hc00 : CallOk cx (knext_px0 (HV [.sl .byte false]) k) := callT_ok rfl (cfs_cons (cf_thaw (by rw [hP, hel, hgl]; exact bclone_ok) (by kernel_rfl) rfl) cfs_nil)
  have hq00 : CallQOk cx (knext_px0 (HV [.sl .byte false]) k) := callQT_ok rfl cqfs_nil
  have hlknext_0 : LoopOk cx (knext_px (HV [.sl .byte false]) k) (lp Tryd.f20 0) := loop_pl_ok hp0 hc0 hq0 (by rw [hP]; exact follows) hp00 hc00 hq00 (fun _ _ _ => rfl) (k := k) (s := knext_0_sg) (step := knext_0) (fun _ _ => by kernel_rfl) (by kernel_rfl) (knext_0_eq _ k) (loops_in (n := 0) (by kernel_rfl) all0)
  exact ⟨hp0, hc0, hq0, (allS all0 hlknext_0)⟩
def knext (b : Str) : Option Str := cond (decide (b.length ≤ 1000000)) (some (nxt b)) none
def knext_F : FT [.sl .byte false] [.sl .byte false] := fun x => knext x
theorem strip_snoc {w : Str} {n : Nat} (hn : n < w.length) (h : w.drop (n + 1) = List.replicate (w.length - (n + 1)) 255) (h2 : w[n] = 255) : w.drop n = List.replicate (w.length - n) 255 := by
  rw [drop_cons hn, h2, h, show w.length - n = (w.length - (n + 1)) + 1 by omega, List.replicate_succ]
theorem knext_loop {R : Type} {kx : Ex → knext_0_V → Option R} {w : Str} {c : Option R} (hw : w.length ≤ 1000000) (h : ∀ m : Nat, m ≤ w.length → w.drop m = List.replicate (w.length - m) 255 → (∀ (h : m - 1 < w.length), 0 < m → w[m - 1] ≠ 255) → kx (.exit 0) (w, 0, (m : Int)) = c) :
    ∀ (k n : Nat), n ≤ w.length → n < k → w.drop n = List.replicate (w.length - n) 255 → iter (fun rec => knext_0 rec kx) k (w, 0, (n : Int)) = c
  | 0, n, _, h, _ => by omega
  | k + 1, n, hn, hk, hd => by
    rw [iter_s]
    by_cases h0 : 0 < n
    · have hl : n - 1 < w.length := by omega
      have e0 : wr .i64 ((n : Int) - 1) = ((n - 1 : Nat) : Int) := by rw [wr_id (by simp only [inI]; omega)]; omega
      have e1 : decide ((0 : Int) < (n : Int)) = true := decide_eq_true (by omega)
      have e2 : inO ((n - 1 : Nat) : Int) (n : Int) = true := by simp only [inO, Bool.and_eq_true, decide_eq_true_eq]; omega
      have e3 : upI 0 ((n - 1 : Nat) : Int) (n : Int) = true := by simp only [upI, Bool.and_eq_true, decide_eq_true_eq]; omega
      simp only [knext_0, e1, cond_t, e0, e2, chk, Int.zero_add, inb_t hl, at_nat (c := .byte) hl, e3]
      have q : decide (((w[n - 1]).toNat : Int) = 255) = decide (w[n - 1] = 255) := at_num 255
      rw [q]
      by_cases hc : w[n - 1] = 255
      · rw [decide_eq_true hc, cond_t]
        refine knext_loop hw h k (n - 1) (by omega) (by omega) (strip_snoc hl ?_ hc)
        rw [show n - 1 + 1 = n by omega]
        exact hd
      · rw [decide_eq_false hc, cond_f]
        exact h n hn hd fun _ _ => hc
    · have h00 : n = 0 := by omega
      subst h00
      have e1 : decide ((0 : Int) < ((0 : Nat) : Int)) = false := rfl
      simp only [knext_0, e1, cond_f]
      exact h 0 hn hd fun _ h => absurd h (by omega)
/-- what the least beyond is, where the last byte that is not 255 is known -/
theorem nxt_at {w : Str} {m : Nat} (hm : m ≤ w.length) (hd : w.drop m = List.replicate (w.length - m) 255) (h0 : 0 < m) (hc : w[m - 1] ≠ 255) : nxt w = w.take (m - 1) ++ [w[m - 1] + 1] := by
  have e : w = w.take (m - 1) ++ w[m - 1] :: List.replicate (w.length - m) 255 := by
    rw [← hd]
    conv => lhs; rw [← List.take_append_drop (m - 1) w]
    rw [drop_cons (show m - 1 < w.length by omega), show m - 1 + 1 = m by omega]
  rw [← nxt_snoc hc (w.length - m) (w.take (m - 1)), ← e]
theorem nxt_zero {w : Str} (hd : w.drop 0 = List.replicate (w.length - 0) 255) : nxt w = [] := by
  rw [List.drop_zero] at hd
  rw [hd]
  exact nxt_all _
theorem byte_succ (b : UInt8) : UInt8.ofNat (wr .u8 ((b.toNat : Int) + 1)).toNat = b + 1 := by
  have : wr .u8 ((b.toNat : Int) + 1) = (((b.toNat + 1) % 256 : Nat) : Int) := by
    simp [wr, IntKind.wrap, IntKind.bits, IntKind.signed]
  rw [this, Int.toNat_natCast]
  apply UInt8.toNat_inj.1
  simp
theorem set_cut {w : Str} {m : Nat} {c : UInt8} (h0 : 0 < m) (hm : m ≤ w.length) : cut (w.set (m - 1) c) 0 (m : Int) = w.take (m - 1) ++ [c] := by
  simp only [cut, Int.toNat_zero, List.drop_zero, Int.toNat_natCast, Nat.sub_zero]
  rw [List.take_set]
  have : w.take m = w.take (m - 1) ++ [w[m - 1]] := by
    conv => lhs; rw [show m = (m - 1) + 1 by omega]
    exact (List.take_append_getElem _).symm
  have hl : (w.take (m - 1)).length = m - 1 := by rw [List.length_take]; omega
  rw [this, List.set_append_right (h := by omega), hl, Nat.sub_self]
  rfl
theorem knext_ok : FnOk Tryd.prog elT glT 20 [.sl .byte false] [.sl .byte false] knext_F := .fin 0 knext_run fun b r hb hx => ⟨b.length + 1, by
  simp only [knext_F, knext] at hx
  cases hc : decide (b.length ≤ 1000000) with
  | false => rw [hc] at hx; cases hx
  | true =>
    rw [hc] at hx
    have hl := of_decide_eq_true hc
    have hx : some (nxt b) = some r := hx
    rw [← hx]
    have e1 : bclone b = some b := by simp only [bclone]; rw [decide_eq_true (show b.length ≤ 140737488355328 by omega)]; rfl
    simp only [knext_body, e1, Option.bind_some]
    by_cases hb0 : b = []
    · subst hb0; rfl
    · have e2 : List.isEmpty b = false := by cases b with
        | nil => exact absurd rfl hb0
        | cons _ _ => rfl
      rw [e2, cond_f]
      refine knext_loop (c := some (nxt b)) hl (fun m hm hd hcc => ?_) (b.length + 1) b.length (Nat.le_refl _) (by omega) (by simp)
      by_cases h0 : 0 < m
      · have hml : m - 1 < b.length := by omega
        have f0 : wr .i64 ((m : Int) - 1) = ((m - 1 : Nat) : Int) := by rw [wr_id (by simp only [inI]; omega)]; omega
        have f1 : decide ((0 : Int) < (m : Int)) = true := decide_eq_true (by omega)
        have f2 : inO ((m - 1 : Nat) : Int) (m : Int) = true := by simp only [inO, Bool.and_eq_true, decide_eq_true_eq]; omega
        have f3 : ∀ x : UInt8, (decide ((0 : Int) ≤ 0) && decide ((0 : Int) ≤ (m : Int)) && decide ((m : Int) ≤ (((b.set (m - 1) x).length : Nat) : Int))) = true := fun x => by
          simp only [List.length_set, Bool.and_eq_true, decide_eq_true_eq]; omega
        simp only [f1, cond_t, f0, f2, chk, Int.zero_add, inb_t hml, at_nat (c := .byte) hml, Int.toNat_natCast, f3, byte_succ]
        rw [set_cut h0 hm, nxt_at hm hd h0 (hcc hml h0)]
      · have hm0 : m = 0 := by omega
        subst hm0
        have f1 : decide ((0 : Int) < ((0 : Nat) : Int)) = false := rfl
        have f3 : (decide ((0 : Int) ≤ 0) && decide ((0 : Int) ≤ ((0 : Nat) : Int)) && decide ((0 : Int) + ((0 : Nat) : Int) ≤ ((b.length : Nat) : Int))) = true := by simp
        simp only [f1, cond_f, f3, chk, cond_t]
        rw [nxt_zero hd]
        simp [cut]⟩
/-! ## exchequer/exchequerref04.Next -/
def rnext_0_sg : Sig := ⟨36, [(0, .sl .byte false), (3, .int .i64)], [], [], 0, 0, 0, [], []⟩
abbrev rnext_0_V := List UInt8 × Int
def rnext_0 {R : Type} (rec : rnext_0_V → Option R) (kx : Ex → rnext_0_V → Option R) (v : rnext_0_V) : Option R := match v with
 | (v, v1) =>
  cond (decide (0 < v1)) (
   chk (inb (wr .i64 (v1 - 1)) v.length) (
    cond (decide (((at' .byte v (wr .i64 (v1 - 1))).toNat : Int) = 255)) (
     rec (v, (wr .i64 (v1 - 1)))) (
     kx (.exit 0) (v, v1)))) (
   kx (.exit 0) (v, v1))
def rnext_px (R : Type) (k : Nat) : Px R := ⟨ttOf ttL, glT, callT [], callQT [], loopT [(2, loopOr k rnext_0_sg (rnext_0))]⟩
theorem rnext_0_eq (R : Type) (k : Nat) : ∀ (fr : List Fr) (rec : rnext_0_V → Option R) (kx : Ex → rnext_0_V → Option R) (v : rnext_0_V), round (rnext_px R k) rnext_0_sg (lp Tryd.f21 0) fr rec kx v = rnext_0 rec kx v
  | fr, rec, kx, (v, v1) => by kernel_rfl
def rnext_body (k : Nat) (x : HV [.sl .byte false]) : Option (HV [.sl .byte true]) := match x with
 | b =>
  iter (fun rec => rnext_0 rec (fun e v => match v with | (v2, v3) => match e with
   | .exit 0 =>
    cond (decide (v3 = 0)) (
     some []) (
     chk (upto 0 (wr .i64 (v3 - 1)) v2.length) (
      chk (decide (0 + (v2.take ((wr .i64 (v3 - 1)) : Int).toNat).length ≤ maxApp)) (
       chk (inb (wr .i64 (v3 - 1)) v2.length) (
        chk (decide (([] ++ (v2.take ((wr .i64 (v3 - 1)) : Int).toNat)).length + 1 ≤ maxApp)) (
         some (([] ++ (v2.take ((wr .i64 (v3 - 1)) : Int).toNat)) ++ [(UInt8.ofNat ((wr .u8 (((at' .byte v2 (wr .i64 (v3 - 1))).toNat : Int) + 1)) : Int).toNat)]))))))
   | _ => none)) k (b, (b.length : Int))
theorem rnext_eq (k : Nat) : ∀ (x : HV [.sl .byte false]), runF (rnext_px _ k) Tryd.f21 [.sl .byte false] [.sl .byte true] x some = rnext_body k x
  | b => by kernel_rfl
theorem rnext_run (k : Nat) : FnOk Tryd.prog elT glT 21 [.sl .byte false] [.sl .byte true] (rnext_body k) := by
  refine fnOk_run Tryd.func21 rfl (by kernel_rfl) follows (by kernel_rfl) (n := 1) (by kernel_rfl) (px := rnext_px _ k) (fun cx hP hel hgl => ?_) (rnext_eq k)
  have hp0 : PxOk cx (rnext_px (HV [.sl .byte true]) k) := ⟨fun t => by rw [hP, hel]; exact tt_ok ttL_ok t, by rw [hgl]; rfl⟩
  have hc0 : CallOk cx (rnext_px (HV [.sl .byte true]) k) := callT_ok rfl cfs_nil
  have hq0 : CallQOk cx (rnext_px (HV [.sl .byte true]) k) := callQT_ok rfl cqfs_nil
  have hlrnext_0 : LoopOk cx (rnext_px (HV [.sl .byte true]) k) (lp Tryd.f21 0) := loop_ok hp0 hc0 hq0 (by rw [hP]; exact follows) (k := k) (s := rnext_0_sg) (step := rnext_0) (fun _ _ => by kernel_rfl) (by kernel_rfl) (rnext_0_eq _ k) (loops_in (n := 0) (by kernel_rfl) all0)
  exact ⟨hp0, hc0, hq0, (allS all0 hlrnext_0)⟩
abbrev rnext (b : Str) : Option Str := knext b
def rnext_F : FT [.sl .byte false] [.sl .byte true] := fun x => rnext x
theorem rnext_loop {R : Type} {kx : Ex → rnext_0_V → Option R} {w : Str} {c : Option R} (hw : w.length ≤ 1000000) (h : ∀ m : Nat, m ≤ w.length → w.drop m = List.replicate (w.length - m) 255 → (∀ (h : m - 1 < w.length), 0 < m → w[m - 1] ≠ 255) → kx (.exit 0) (w, (m : Int)) = c) :
    ∀ (k n : Nat), n ≤ w.length → n < k → w.drop n = List.replicate (w.length - n) 255 → iter (fun rec => rnext_0 rec kx) k (w, (n : Int)) = c
  | 0, n, _, h, _ => by omega
  | k + 1, n, hn, hk, hd => by
    rw [iter_s]
    by_cases h0 : 0 < n
    · have hl : n - 1 < w.length := by omega
      have e0 : wr .i64 ((n : Int) - 1) = ((n - 1 : Nat) : Int) := by rw [wr_id (by simp only [inI]; omega)]; omega
      have e1 : decide ((0 : Int) < (n : Int)) = true := decide_eq_true (by omega)
      simp only [rnext_0, e1, cond_t, e0, chk, inb_t hl, at_nat (c := .byte) hl]
      have q : decide (((w[n - 1]).toNat : Int) = 255) = decide (w[n - 1] = 255) := at_num 255
      rw [q]
      by_cases hc : w[n - 1] = 255
      · rw [decide_eq_true hc, cond_t]
        refine rnext_loop hw h k (n - 1) (by omega) (by omega) (strip_snoc hl ?_ hc)
        rw [show n - 1 + 1 = n by omega]
        exact hd
      · rw [decide_eq_false hc, cond_f]
        exact h n hn hd fun _ _ => hc
    · have h00 : n = 0 := by omega
      subst h00
      have e1 : decide ((0 : Int) < ((0 : Nat) : Int)) = false := rfl
      simp only [rnext_0, e1, cond_f]
      exact h 0 hn hd fun _ h => absurd h (by omega)
theorem rnext_ok : FnOk Tryd.prog elT glT 21 [.sl .byte false] [.sl .byte true] rnext_F := .fin 0 rnext_run fun b r hb hx => ⟨b.length + 1, by
  simp only [rnext_F, rnext, knext] at hx
  cases hc : decide (b.length ≤ 1000000) with
  | false => rw [hc] at hx; cases hx
  | true =>
    rw [hc] at hx
    have hl := of_decide_eq_true hc
    have hx : some (nxt b) = some r := hx
    rw [← hx]
    simp only [rnext_body]
    refine rnext_loop (c := some (nxt b)) hl (fun m hm hd hcc => ?_) (b.length + 1) b.length (Nat.le_refl _) (by omega) (by simp)
    by_cases h0 : 0 < m
    · have hml : m - 1 < b.length := by omega
      have f0 : wr .i64 ((m : Int) - 1) = ((m - 1 : Nat) : Int) := by rw [wr_id (by simp only [inI]; omega)]; omega
      have f1 : decide ((m : Int) = 0) = false := decide_eq_false (by omega)
      have f2 : upto 0 ((m - 1 : Nat) : Int) b.length = true := by simp only [upto, Bool.and_eq_true, decide_eq_true_eq]; omega
      have f3 : decide (0 + (b.take (m - 1)).length ≤ maxApp) = true := decide_eq_true (by simp only [maxApp, List.length_take]; omega)
      have f4 : decide (([] ++ b.take (m - 1)).length + 1 ≤ maxApp) = true := decide_eq_true (by simp only [maxApp, List.nil_append, List.length_take]; omega)
      simp only [f1, cond_f, f0, f2, chk, cond_t, Int.toNat_natCast, f3, inb_t hml, at_nat (c := .byte) hml, f4, byte_succ]
      rw [nxt_at hm hd h0 (hcc hml h0)]
      rfl
    · have hm0 : m = 0 := by omega
      subst hm0
      rw [nxt_zero hd]
      rfl⟩
/-! ## bytes.Equal -/
def beq_px (R : Type) : Px R := ⟨ttOf ttL, glT, callT [], callQT [], loopT []⟩
def beq_body (x : HV [.sl .byte false, .sl .byte false]) : Option (HV [.bool]) := match x with
 | (a, b) =>
  some (decide (a = b))
theorem beq_eq : ∀ (x : HV [.sl .byte false, .sl .byte false]), runF (beq_px _) Tryd.f40 [.sl .byte false, .sl .byte false] [.bool] x some = beq_body x
  | (a, b) => by kernel_rfl
theorem beq_run : FnOk Tryd.prog elT glT 40 [.sl .byte false, .sl .byte false] [.bool] (beq_body) := by
  refine fnOk_run Tryd.func40 rfl (by kernel_rfl) follows (by kernel_rfl) (n := 0) (by kernel_rfl) (px := beq_px _) (fun cx hP hel hgl => ?_) (beq_eq)
  have hp0 : PxOk cx (beq_px (HV [.bool])) := ⟨fun t => by rw [hP, hel]; exact tt_ok ttL_ok t, by rw [hgl]; rfl⟩
  have hc0 : CallOk cx (beq_px (HV [.bool])) := callT_ok rfl cfs_nil
  have hq0 : CallQOk cx (beq_px (HV [.bool])) := callQT_ok rfl cqfs_nil
  exact ⟨hp0, hc0, hq0, all0⟩
def beq (a : List UInt8) (b : List UInt8) : Bool :=
  (decide (a = b))
theorem beq_tot (x : HV [.sl .byte false, .sl .byte false]) : beq_body x = some (beq x.1 x.2) := by
  first
    | exact rfl
    | simp only [beq_body, beq, cond_some]
def beq_F : FT [.sl .byte false, .sl .byte false] [.bool] := fun x => some (beq x.1 x.2)
theorem beq_ok : FnOk Tryd.prog elT glT 40 [.sl .byte false, .sl .byte false] [.bool] beq_F := .fin0 beq_run fun x _ _ hx => (beq_tot x).trans hx
/-! ## bytes.HasPrefix -/
def bpre_px (R : Type) : Px R := ⟨ttOf ttL, glT, callT [(40, callOr [.sl .byte false, .sl .byte false] [.bool] beq_F)], callQT [], loopT []⟩
def bpre_body (x : HV [.sl .byte false, .sl .byte false]) : Option (HV [.bool]) := match x with
 | (b, a) =>
  cond (decide ((a.length : Int) ≤ (b.length : Int))) (
   chk (upto 0 (a.length : Int) b.length) (
    some (beq (b.take ((a.length : Int) : Int).toNat) a))) (
   some false)
theorem bpre_eq : ∀ (x : HV [.sl .byte false, .sl .byte false]), runF (bpre_px _) Tryd.f33 [.sl .byte false, .sl .byte false] [.bool] x some = bpre_body x
  | (b, a) => by kernel_rfl
theorem bpre_run : FnOk Tryd.prog elT glT 33 [.sl .byte false, .sl .byte false] [.bool] (bpre_body) := by
  refine fnOk_run Tryd.func33 rfl (by kernel_rfl) follows (by kernel_rfl) (n := 0) (by kernel_rfl) (px := bpre_px _) (fun cx hP hel hgl => ?_) (bpre_eq)
  have hp0 : PxOk cx (bpre_px (HV [.bool])) := ⟨fun t => by rw [hP, hel]; exact tt_ok ttL_ok t, by rw [hgl]; rfl⟩
  have hc0 : CallOk cx (bpre_px (HV [.bool])) := callT_ok rfl (cfs_cons (cf_or (by rw [hP, hel, hgl]; exact beq_ok) (by kernel_rfl)) cfs_nil)
  have hq0 : CallQOk cx (bpre_px (HV [.bool])) := callQT_ok rfl cqfs_nil
  exact ⟨hp0, hc0, hq0, all0⟩
abbrev begins (b a : Str) : Bool := decide (a <+: b)
abbrev bpre (b a : Str) : Bool := begins b a
def bpre_F : FT [.sl .byte false, .sl .byte false] [.bool] := fun x => some (bpre x.1 x.2)
theorem pre_take (b a : Str) : decide (b.take a.length = a) = decide (a <+: b) := decide_eq_decide.2 ⟨fun h => List.prefix_iff_eq_take.2 h.symm, fun h => (List.prefix_iff_eq_take.1 h).symm⟩
theorem bpre_ok : FnOk Tryd.prog elT glT 33 [.sl .byte false, .sl .byte false] [.bool] bpre_F := .fin0 bpre_run fun (b, a) r hb hx => by
  simp only [bpre_F, Option.some.injEq] at hx
  rw [← hx]
  simp only [bpre_body, beq, Int.toNat_natCast, pre_take]
  by_cases h : a.length ≤ b.length
  · have e1 : decide ((a.length : Int) ≤ (b.length : Int)) = true := decide_eq_true (by omega)
    have e2 : upto 0 (a.length : Int) b.length = true := by simp only [upto, Bool.and_eq_true, decide_eq_true_eq]; omega
    simp only [e1, e2, chk, cond_t]
  · have e1 : decide ((a.length : Int) ≤ (b.length : Int)) = false := decide_eq_false (by omega)
    have e2 : decide (a <+: b) = false := decide_eq_false fun p => h p.length_le
    simp only [e1, cond_f, e2]
/-! ## exchequer/keys.Begins -/
def kbeg_px (R : Type) : Px R := ⟨ttOf ttL, glT, callT [(33, callOr [.sl .byte false, .sl .byte false] [.bool] bpre_F)], callQT [], loopT []⟩
def kbeg_body (x : HV [.sl .byte false, .sl .byte false]) : Option (HV [.bool]) := match x with
 | (b, a) =>
  some (bpre b a)
theorem kbeg_eq : ∀ (x : HV [.sl .byte false, .sl .byte false]), runF (kbeg_px _) Tryd.f19 [.sl .byte false, .sl .byte false] [.bool] x some = kbeg_body x
  | (b, a) => by kernel_rfl
theorem kbeg_run : FnOk Tryd.prog elT glT 19 [.sl .byte false, .sl .byte false] [.bool] (kbeg_body) := by
  refine fnOk_run Tryd.func19 rfl (by kernel_rfl) follows (by kernel_rfl) (n := 0) (by kernel_rfl) (px := kbeg_px _) (fun cx hP hel hgl => ?_) (kbeg_eq)
  have hp0 : PxOk cx (kbeg_px (HV [.bool])) := ⟨fun t => by rw [hP, hel]; exact tt_ok ttL_ok t, by rw [hgl]; rfl⟩
  have hc0 : CallOk cx (kbeg_px (HV [.bool])) := callT_ok rfl (cfs_cons (cf_or (by rw [hP, hel, hgl]; exact bpre_ok) (by kernel_rfl)) cfs_nil)
  have hq0 : CallQOk cx (kbeg_px (HV [.bool])) := callQT_ok rfl cqfs_nil
  exact ⟨hp0, hc0, hq0, all0⟩
def kbeg (b : List UInt8) (a : List UInt8) : Bool :=
  (bpre b a)
theorem kbeg_tot (x : HV [.sl .byte false, .sl .byte false]) : kbeg_body x = some (kbeg x.1 x.2) := by
  first
    | exact rfl
    | simp only [kbeg_body, kbeg, cond_some]
def kbeg_F : FT [.sl .byte false, .sl .byte false] [.bool] := fun x => some (kbeg x.1 x.2)
theorem kbeg_ok : FnOk Tryd.prog elT glT 19 [.sl .byte false, .sl .byte false] [.bool] kbeg_F := .fin0 kbeg_run fun x _ _ hx => (kbeg_tot x).trans hx
/-! ## exchequer/exchequerref04.Begins -/
def rbeg_px (R : Type) : Px R := ⟨ttOf ttL, glT, callT [(18, callOr [.sl .byte false, .sl .byte false] [.int .i64] rcmp4_F)], callQT [], loopT []⟩
def rbeg_body (x : HV [.sl .byte false, .sl .byte false]) : Option (HV [.bool]) := match x with
 | (b, a) =>
  cond (decide ((a.length : Int) ≤ (b.length : Int))) (
   chk (upto 0 (a.length : Int) b.length) (
    some (decide ((rcmp4 (b.take ((a.length : Int) : Int).toNat) a) = 0)))) (
   some false)
theorem rbeg_eq : ∀ (x : HV [.sl .byte false, .sl .byte false]), runF (rbeg_px _) Tryd.f22 [.sl .byte false, .sl .byte false] [.bool] x some = rbeg_body x
  | (b, a) => by kernel_rfl
theorem rbeg_run : FnOk Tryd.prog elT glT 22 [.sl .byte false, .sl .byte false] [.bool] (rbeg_body) := by
  refine fnOk_run Tryd.func22 rfl (by kernel_rfl) follows (by kernel_rfl) (n := 0) (by kernel_rfl) (px := rbeg_px _) (fun cx hP hel hgl => ?_) (rbeg_eq)
  have hp0 : PxOk cx (rbeg_px (HV [.bool])) := ⟨fun t => by rw [hP, hel]; exact tt_ok ttL_ok t, by rw [hgl]; rfl⟩
  have hc0 : CallOk cx (rbeg_px (HV [.bool])) := callT_ok rfl (cfs_cons (cf_or (by rw [hP, hel, hgl]; exact rcmp4_ok) (by kernel_rfl)) cfs_nil)
  have hq0 : CallQOk cx (rbeg_px (HV [.bool])) := callQT_ok rfl cqfs_nil
  exact ⟨hp0, hc0, hq0, all0⟩
abbrev rbeg (b a : Str) : Bool := begins b a
def rbeg_F : FT [.sl .byte false, .sl .byte false] [.bool] := fun x => some (rbeg x.1 x.2)
theorem rbeg_ok : FnOk Tryd.prog elT glT 22 [.sl .byte false, .sl .byte false] [.bool] rbeg_F := .fin0 rbeg_run fun (b, a) r hb hx => by
  simp only [rbeg_F, Option.some.injEq] at hx
  rw [← hx]
  have e0 : decide (scmp (b.take a.length) a = 0) = decide (a <+: b) := by
    rw [← pre_take]
    exact decide_eq_decide.2 (scmp_zero _ _)
  simp only [rbeg_body, rcmp4, Int.toNat_natCast, e0]
  by_cases h : a.length ≤ b.length
  · have e1 : decide ((a.length : Int) ≤ (b.length : Int)) = true := decide_eq_true (by omega)
    have e2 : upto 0 (a.length : Int) b.length = true := by simp only [upto, Bool.and_eq_true, decide_eq_true_eq]; omega
    simp only [e1, e2, chk, cond_t]
  · have e1 : decide ((a.length : Int) ≤ (b.length : Int)) = false := decide_eq_false (by omega)
    have e2 : decide (a <+: b) = false := decide_eq_false fun p => h p.length_le
    simp only [e1, cond_f, e2]
/-! ## exchequer/keys.Cmp -/
def kcm_px (R : Type) : Px R := ⟨ttOf ttL, glT, callT [(35, callOr [.sl .byte false, .sl .byte false] [.int .i64] bcmp'_F)], callQT [], loopT []⟩
def kcm_body (x : HV [.sl .byte false, .sl .byte false]) : Option (HV [.int .i64]) := match x with
 | (a, b) =>
  some (bcmp' a b)
theorem kcm_eq : ∀ (x : HV [.sl .byte false, .sl .byte false]), runF (kcm_px _) Tryd.f23 [.sl .byte false, .sl .byte false] [.int .i64] x some = kcm_body x
  | (a, b) => by kernel_rfl
theorem kcm_run : FnOk Tryd.prog elT glT 23 [.sl .byte false, .sl .byte false] [.int .i64] (kcm_body) := by
  refine fnOk_run Tryd.func23 rfl (by kernel_rfl) follows (by kernel_rfl) (n := 0) (by kernel_rfl) (px := kcm_px _) (fun cx hP hel hgl => ?_) (kcm_eq)
  have hp0 : PxOk cx (kcm_px (HV [.int .i64])) := ⟨fun t => by rw [hP, hel]; exact tt_ok ttL_ok t, by rw [hgl]; rfl⟩
  have hc0 : CallOk cx (kcm_px (HV [.int .i64])) := callT_ok rfl (cfs_cons (cf_or (by rw [hP, hel, hgl]; exact bcmp'_ok) (by kernel_rfl)) cfs_nil)
  have hq0 : CallQOk cx (kcm_px (HV [.int .i64])) := callQT_ok rfl cqfs_nil
  exact ⟨hp0, hc0, hq0, all0⟩
def kcm (a : List UInt8) (b : List UInt8) : Int :=
  (bcmp' a b)
theorem kcm_tot (x : HV [.sl .byte false, .sl .byte false]) : kcm_body x = some (kcm x.1 x.2) := by
  first
    | exact rfl
    | simp only [kcm_body, kcm, cond_some]
def kcm_F : FT [.sl .byte false, .sl .byte false] [.int .i64] := fun x => some (kcm x.1 x.2)
theorem kcm_ok : FnOk Tryd.prog elT glT 23 [.sl .byte false, .sl .byte false] [.int .i64] kcm_F := .fin0 kcm_run fun x _ _ hx => (kcm_tot x).trans hx
/-! ## exchequer/exchequerref00.Same -/
def same_px (R : Type) : Px R := ⟨ttOf ttL, glT, callT [], callQT [], loopT []⟩
def same_body (x : HV [.sl .byte false, .sl .byte false]) : Option (HV [.bool]) := match x with
 | (a, b) =>
  some (decide (a = b))
theorem same_eq : ∀ (x : HV [.sl .byte false, .sl .byte false]), runF (same_px _) Tryd.f15 [.sl .byte false, .sl .byte false] [.bool] x some = same_body x
  | (a, b) => by kernel_rfl
theorem same_run : FnOk Tryd.prog elT glT 15 [.sl .byte false, .sl .byte false] [.bool] (same_body) := by
  refine fnOk_run Tryd.func15 rfl (by kernel_rfl) follows (by kernel_rfl) (n := 0) (by kernel_rfl) (px := same_px _) (fun cx hP hel hgl => ?_) (same_eq)
  have hp0 : PxOk cx (same_px (HV [.bool])) := ⟨fun t => by rw [hP, hel]; exact tt_ok ttL_ok t, by rw [hgl]; rfl⟩
  have hc0 : CallOk cx (same_px (HV [.bool])) := callT_ok rfl cfs_nil
  have hq0 : CallQOk cx (same_px (HV [.bool])) := callQT_ok rfl cqfs_nil
  exact ⟨hp0, hc0, hq0, all0⟩
def same (a : List UInt8) (b : List UInt8) : Bool :=
  (decide (a = b))
theorem same_tot (x : HV [.sl .byte false, .sl .byte false]) : same_body x = some (same x.1 x.2) := by
  first
    | exact rfl
    | simp only [same_body, same, cond_some]
def same_F : FT [.sl .byte false, .sl .byte false] [.bool] := fun x => some (same x.1 x.2)
theorem same_ok : FnOk Tryd.prog elT glT 15 [.sl .byte false, .sl .byte false] [.bool] same_F := .fin0 same_run fun x _ _ hx => (same_tot x).trans hx
/-! ## exchequer/exchequerref00.Copy -/
def copy_px (R : Type) : Px R := ⟨ttOf ttL, glT, callT [], callQT [], loopT []⟩
def copy_body (x : HV [.sl .byte false]) : Option (HV [.sl .byte true]) := match x with
 | b =>
  chk (decide (0 + b.length ≤ maxApp)) (
   some ([] ++ b))
theorem copy_eq : ∀ (x : HV [.sl .byte false]), runF (copy_px _) Tryd.f17 [.sl .byte false] [.sl .byte true] x some = copy_body x
  | b => by kernel_rfl
theorem copy_run : FnOk Tryd.prog elT glT 17 [.sl .byte false] [.sl .byte true] (copy_body) := by
  refine fnOk_run Tryd.func17 rfl (by kernel_rfl) follows (by kernel_rfl) (n := 0) (by kernel_rfl) (px := copy_px _) (fun cx hP hel hgl => ?_) (copy_eq)
  have hp0 : PxOk cx (copy_px (HV [.sl .byte true])) := ⟨fun t => by rw [hP, hel]; exact tt_ok ttL_ok t, by rw [hgl]; rfl⟩
  have hc0 : CallOk cx (copy_px (HV [.sl .byte true])) := callT_ok rfl cfs_nil
  have hq0 : CallQOk cx (copy_px (HV [.sl .byte true])) := callQT_ok rfl cqfs_nil
  exact ⟨hp0, hc0, hq0, all0⟩
def copy (b : Str) : Option Str := cond (decide (b.length ≤ 100000000)) (some b) none
def copy_F : FT [.sl .byte false] [.sl .byte true] := fun x => copy x
theorem copy_ok : FnOk Tryd.prog elT glT 17 [.sl .byte false] [.sl .byte true] copy_F := .fin0 copy_run fun b r hb hx => by
  simp only [copy_F, copy] at hx
  cases hc : decide (b.length ≤ 100000000) with
  | false => rw [hc] at hx; cases hx
  | true =>
    rw [hc] at hx
    have hl := of_decide_eq_true hc
    have hx : some b = some r := hx
    rw [← hx]
    have e1 : decide (0 + b.length ≤ maxApp) = true := decide_eq_true (by simp only [maxApp]; omega)
    simp only [copy_body, e1, chk, cond_t, List.nil_append]
/-! ## exchequer/exchequerlaw04.long -/
def long_0_sg : Sig := ⟨23, [(0, .sl .val false), (3, .int .i64), (4, .int .i64)], [], [], 0, 0, 0, [], []⟩
abbrev long_0_V := List Val × Int × Int
def long_0 {R : Type} (rec : long_0_V → Option R) (kx : Ex → long_0_V → Option R) (v : long_0_V) : Option R := match v with
 | (v, v1, v2) =>
  cond (decide (v2 < (v.length : Int))) (
   chk (inb v2 v.length) (
    rec (v, (wr .i64 (v1 + (((at' .val v v2).s).length : Int))), (wr .i64 (v2 + 1))))) (
   kx (.exit 0) (v, v1, v2))
def long_px (R : Type) (k : Nat) : Px R := ⟨ttOf ttL, glT, callT [], callQT [], loopT [(3, loopOr k long_0_sg (long_0))]⟩
theorem long_0_eq (R : Type) (k : Nat) : ∀ (fr : List Fr) (rec : long_0_V → Option R) (kx : Ex → long_0_V → Option R) (v : long_0_V), round (long_px R k) long_0_sg (lp Tryd.f9 0) fr rec kx v = long_0 rec kx v
  | fr, rec, kx, (v, v1, v2) => by kernel_rfl
def long_body (k : Nat) (x : HV [.sl .val false]) : Option (HV [.bool]) := match x with
 | l =>
  iter (fun rec => long_0 rec (fun e v => match v with | (_, v4, _) => match e with
   | .exit 0 =>
    some (decide (3000 < v4))
   | _ => none)) k (l, (l.length : Int), 0)
theorem long_eq (k : Nat) : ∀ (x : HV [.sl .val false]), runF (long_px _ k) Tryd.f9 [.sl .val false] [.bool] x some = long_body k x
  | l => by kernel_rfl
theorem long_run (k : Nat) : FnOk Tryd.prog elT glT 9 [.sl .val false] [.bool] (long_body k) := by
  refine fnOk_run Tryd.func9 rfl (by kernel_rfl) follows (by kernel_rfl) (n := 1) (by kernel_rfl) (px := long_px _ k) (fun cx hP hel hgl => ?_) (long_eq k)
  have hp0 : PxOk cx (long_px (HV [.bool]) k) := ⟨fun t => by rw [hP, hel]; exact tt_ok ttL_ok t, by rw [hgl]; rfl⟩
  have hc0 : CallOk cx (long_px (HV [.bool]) k) := callT_ok rfl cfs_nil
  have hq0 : CallQOk cx (long_px (HV [.bool]) k) := callQT_ok rfl cqfs_nil
  have hllong_0 : LoopOk cx (long_px (HV [.bool]) k) (lp Tryd.f9 0) := loop_ok hp0 hc0 hq0 (by rw [hP]; exact follows) (k := k) (s := long_0_sg) (step := long_0) (fun _ _ => by kernel_rfl) (by kernel_rfl) (long_0_eq _ k) (loops_in (n := 0) (by kernel_rfl) all0)
  exact ⟨hp0, hc0, hq0, (allS all0 hllong_0)⟩
def long (l : List Val) : Option Bool := cond (decide (vsz l ≤ 4611686018427387904)) (some (decide (3000 < vsz l))) none
def long_F : FT [.sl .val false] [.bool] := fun x => long x
theorem vsz_ge : ∀ l : List Val, l.length ≤ vsz l
  | [] => Nat.le_refl _
  | v :: l => by
    have := vsz_ge l
    simp only [vsz, List.length_cons]
    omega
theorem long_loop {R : Type} {kx : Ex → long_0_V → Option R} {l : List Val} {c : Int → Option R} (hz : vsz l ≤ 4611686018427387904) (h2 : ∀ n : Int, kx (.exit 0) (l, n, (l.length : Int)) = c n) :
    ∀ (k i n : Nat), i ≤ l.length → l.length - i < k → n + vsz (l.drop i) = vsz l + (l.length - i) → iter (fun rec => long_0 rec kx) k (l, (n : Int), (i : Int)) = c (vsz l)
  | 0, i, _, _, h, _ => by omega
  | k + 1, i, n, hi, h, hn => by
    rw [iter_s]
    by_cases hl : i < l.length
    · have hg := vsz_ge l
      have hd := hn
      rw [drop_cons hl] at hd
      simp only [vsz] at hd
      have hz2 := vsz_ge (l.drop (i + 1))
      rw [List.length_drop] at hz2
      have ih := long_loop hz h2 k (i + 1) (n + l[i].s.length) (by omega) (by omega) (by omega)
      have e1 : decide ((i : Int) < (l.length : Int)) = true := decide_eq_true (by omega)
      have e2 : wr .i64 ((i : Int) + 1) = ((i + 1 : Nat) : Int) := wr_succ hl (by simp only [ln]; omega)
      have e3 : wr .i64 ((n : Int) + (l[i].s.length : Int)) = ((n + l[i].s.length : Nat) : Int) := by
        rw [wr_id (by simp only [inI]; omega)]; rfl
      simp only [long_0, e1, cond_t, inb_t hl, chk, at_nat (c := .val) hl, e2, e3, ih]
    · have hi : i = l.length := by omega
      subst hi
      rw [List.drop_length] at hn
      simp only [vsz] at hn
      simp only [long_0, decide_eq_false (show ¬ ((l.length : Nat) : Int) < (l.length : Int) by omega), cond_f, h2]
      rw [show n = vsz l by omega]
theorem long_ok : FnOk Tryd.prog elT glT 9 [.sl .val false] [.bool] long_F := .fin 0 long_run fun l r hb hx => ⟨l.length + 1, by
  simp only [long_F, long] at hx
  cases hc : decide (vsz l ≤ 4611686018427387904) with
  | false => rw [hc] at hx; cases hx
  | true =>
    rw [hc] at hx
    have hl := of_decide_eq_true hc
    have hx : some (decide (3000 < vsz l)) = some r := hx
    rw [← hx]
    simp only [long_body]
    refine (long_loop (c := fun n => some (decide (3000 < n))) hl (fun _ => rfl) (l.length + 1) 0 l.length (Nat.zero_le _) (by omega) (by simp; omega)).trans ?_
    exact congrArg some (decide_eq_decide.2 (by omega))⟩
/-! ## exchequer/exchequerlaw04.known -/
def known_px (R : Type) : Px R := ⟨ttOf ttL, glT, callT [(11, callOr [.sl .val false] [.sl .byte true, .int .i64] kenc_F), (13, callOr [.sl .byte false] [.sl .val true, .int .i64] kdec_F), (15, callOr [.sl .byte false, .sl .byte false] [.bool] same_F), (20, callOr [.sl .byte false] [.sl .byte false] knext_F)], callQT [], loopT []⟩
def known_body (x : HV []) : Option (HV [.bool]) := match x with
 | () =>
  (kenc [(Val.mk 4 0 [97]), (Val.mk 3 (-1) [])]).bind fun (x, x1) =>
   (kdec x).bind fun (x2, x3) =>
    (kdec [(UInt8.ofNat (4 : Int).toNat), (UInt8.ofNat (97 : Int).toNat)]).bind fun (_, x5) =>
     (kdec [(UInt8.ofNat (4 : Int).toNat), (UInt8.ofNat (97 : Int).toNat), (UInt8.ofNat (0 : Int).toNat), (UInt8.ofNat (2 : Int).toNat)]).bind fun (_, x7) =>
      let j6 := fun (p : Bool) =>
       let j5 := fun (p1 : Bool) =>
        let j4 := fun (p2 : Bool) =>
         let j3 := fun (p3 : Bool) =>
          let j2 := fun (p4 : Bool) =>
           let j1 := fun (p5 : Bool) =>
            let j := fun (p6 : Bool) =>
             cond (p6) (
              (knext [(UInt8.ofNat (255 : Int).toNat)]).bind fun x9 =>
               some (decide ((x9.length : Int) = 0))) (
              some false)
            cond (p5) (
             (knext [(UInt8.ofNat (1 : Int).toNat), (UInt8.ofNat (255 : Int).toNat)]).bind fun x8 =>
              j (same x8 [(UInt8.ofNat (2 : Int).toNat)])) (
             j false)
           cond (p4) (
            j1 (decide (x7 = 11))) (
            j1 false)
          cond (p3) (
           j2 (decide (x5 = 10))) (
           j2 false)
         cond (p2) (
          chk (inb 1 x2.length) (
           j3 (decide ((at' .val x2 1).n = (-1))))) (
          j3 false)
        cond (p1) (
         j4 (decide ((x2.length : Int) = 2))) (
         j4 false)
       cond (p) (
        j5 (decide (x3 = 0))) (
        j5 false)
      cond ((same x [(UInt8.ofNat (4 : Int).toNat), (UInt8.ofNat (97 : Int).toNat), (UInt8.ofNat (0 : Int).toNat), (UInt8.ofNat (1 : Int).toNat), (UInt8.ofNat (3 : Int).toNat), (UInt8.ofNat (127 : Int).toNat), (UInt8.ofNat (255 : Int).toNat), (UInt8.ofNat (255 : Int).toNat), (UInt8.ofNat (255 : Int).toNat), (UInt8.ofNat (255 : Int).toNat), (UInt8.ofNat (255 : Int).toNat), (UInt8.ofNat (255 : Int).toNat), (UInt8.ofNat (255 : Int).toNat)])) (
       j6 (decide (x1 = 0))) (
       j6 false)
theorem known_eq : ∀ (x : HV []), runF (known_px _) Tryd.f10 [] [.bool] x some = known_body x
  | () => by kernel_rfl
theorem known_run : FnOk Tryd.prog elT glT 10 [] [.bool] (known_body) := by
  refine fnOk_run Tryd.func10 rfl (by kernel_rfl) follows (by kernel_rfl) (n := 0) (by kernel_rfl) (px := known_px _) (fun cx hP hel hgl => ?_) (known_eq)
  have hp0 : PxOk cx (known_px (HV [.bool])) := ⟨fun t => by rw [hP, hel]; exact tt_ok ttL_ok t, by rw [hgl]; rfl⟩
  have hc0 : CallOk cx (known_px (HV [.bool])) := callT_ok rfl (cfs_cons (cf_or (by rw [hP, hel, hgl]; exact kenc_ok) (by kernel_rfl)) (cfs_cons (cf_or (by rw [hP, hel, hgl]; exact kdec_ok) (by kernel_rfl)) (cfs_cons (cf_or (by rw [hP, hel, hgl]; exact same_ok) (by kernel_rfl)) (cfs_cons (cf_or (by rw [hP, hel, hgl]; exact knext_ok) (by kernel_rfl)) cfs_nil))))
  have hq0 : CallQOk cx (known_px (HV [.bool])) := callQT_ok rfl cqfs_nil
  exact ⟨hp0, hc0, hq0, all0⟩
abbrev known : Bool := true
def known_F : FT [] [.bool] := fun _ => some (known)
theorem known_ok : FnOk Tryd.prog elT glT 10 [] [.bool] known_F := .fin0 known_run fun _ r _ hx => by
  have hx : some true = some r := hx
  rw [← hx]
  show known_body () = some true
  kernel_rfl
end Go.Proofs.YtkiakihffmafcaaDoor

/- What all laws on rows' bytes use. -/
namespace Go.Proofs.YtkiakihffmafcaaDoor
open Go.Ax
theorem vsz_small {n : Nat} : ∀ {l : List Val}, (∀ v, v ∈ l → v.s.length ≤ n) → vsz l ≤ l.length * (n + 1)
  | [], _ => by simp [vsz]
  | v :: l, h => by
    have h1 := vsz_small (l := l) (n := n) fun w hw => h w (by simp [hw])
    have h2 := h v (by simp)
    simp only [vsz, List.length_cons, Nat.add_mul, Nat.one_mul]
    omega
theorem vsz_up {l : List Val} (h : l.length ≤ 1048576) (h2 : ∀ v, v ∈ l → v.s.length ≤ 1048576) : vsz l ≤ 4611686018427387904 := by
  have h1 := vsz_small h2
  have h3 : l.length * (1048576 + 1) ≤ 1048576 * (1048576 + 1) := Nat.mul_le_mul_right _ h
  omega
theorem vsz_encs : ∀ {l : List Val}, l.all vright = true → vsz l ≤ (encs l).length
  | [], _ => Nat.le_refl _
  | v :: l, h => by
    simp only [List.all_cons, Bool.and_eq_true] at h
    have ih := vsz_encs h.2
    rw [encs_cons, List.length_append]
    have : v.s.length + 1 ≤ (encv v).length := by
      have hs := esc_len v.s
      rcases vright_iff.1 h.1 with ⟨e, _, e2⟩ | ⟨e, _, e2⟩ | ⟨e, e1⟩ | ⟨e, _⟩ | ⟨e, _⟩
      · simp [e2, encv]
      · simp [e2, encv]
      · simp [e1, encv]
      · rw [encv, payload_text (.inl e)]
        simp only [List.length_cons, List.length_append, List.length_nil]
        omega
      · rw [encv, payload_text (.inr e)]
        simp only [List.length_cons, List.length_append, List.length_nil]
        omega
    simp only [vsz]
    omega
theorem long_some {l : List Val} (h : vsz l ≤ 4611686018427387904) : long l = some (decide (3000 < vsz l)) := by simp [long, h]
theorem kenc_some {l : List Val} (h : vsz l ≤ 100000) : kenc l = some (cond (l.all vright) (encs l, 0) ([], 2)) := by simp [kenc, h]
theorem kdec_some {b : Str} (h : b.length ≤ 1000000) : kdec b = some (dec b) := by simp [kdec, h]
theorem knext_some {b : Str} (h : b.length ≤ 1000000) : knext b = some (nxt b) := by simp [knext, h]
theorem rrows_self (l : List Val) : rrows l l = 0 := (vrows_lin.eq l l).2 rfl
theorem same_self (b : Str) : same b b = true := decide_eq_true rfl
theorem val_n {l : List Val} (h : ∀ v, v ∈ l → BdVal v) : ∀ v, v ∈ l → inI v.n := fun v hv => (h v hv).2.1
/-- a place, out of any number -/
theorem pick_at {z : Int} (hz : inI z) {n : Nat} (hn : n ≤ 1000000) : (!decide (wr .u64 (wr .i64 ((n : Int) + 1)) = 0)) = true ∧ ∃ k : Nat, k ≤ n ∧ wr .i64 (Int.tmod (wr .u64 z) (wr .u64 (wr .i64 ((n : Int) + 1)))) = (k : Int) := by
  have e1 : wr .i64 ((n : Int) + 1) = ((n + 1 : Nat) : Int) := by rw [wr_id (by simp only [inI]; omega)]; rfl
  have e2 : wr .u64 ((n + 1 : Nat) : Int) = ((n + 1 : Nat) : Int) := wrap_u64 (by omega)
  obtain ⟨a, ha, _, _⟩ := wr_u64 hz
  rw [e1, e2, ha]
  have hlt : a % (n + 1) < n + 1 := Nat.mod_lt _ (by omega)
  refine ⟨by simp; omega, a % (n + 1), by omega, ?_⟩
  have e3 : Int.tmod (a : Int) ((n + 1 : Nat) : Int) = ((a % (n + 1) : Nat) : Int) := rfl
  rw [e3, wr_id (by simp only [inI]; omega)]
theorem upto_n {k n : Nat} (h : k ≤ n) : upto 0 (k : Int) n = true := by
  simp only [upto, Bool.and_eq_true, decide_eq_true_eq]
  omega
theorem all_take {l : List Val} (h : l.all vright = true) (k : Nat) : (l.take k).all vright = true := List.all_eq_true.2 fun v hv => List.all_eq_true.1 h v (List.mem_of_mem_take hv)
theorem n_take {l : List Val} (h : ∀ v, v ∈ l → inI v.n) (k : Nat) : ∀ v, v ∈ l.take k → inI v.n := fun v hv => h v (List.mem_of_mem_take hv)
theorem not_long {l : List Val} (h : ¬ 3000 < vsz l) : (encs l).length ≤ 27000 := by
  have := encs_len l
  omega
end Go.Proofs.YtkiakihffmafcaaDoor
