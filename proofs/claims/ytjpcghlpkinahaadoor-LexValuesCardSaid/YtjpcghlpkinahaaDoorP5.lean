/- Texts of the proof, one behind the other: Vt. -/
import Derived.Test.YtjpcghlpkinahaaDoorP4
/- The token that a value's text is. -/
namespace Go.Proofs.YtjpcghlpkinahaaDoor
open Go.Ax
open Lp (tokS tw isWd isUp isLo isDi isIn pre clsF rnameF wordF nq qS unGo hexD rnumF rnumGo checkF)
/-- what ends a word -/
def dlm (r : Str) : Prop := ∀ c t, r = c :: t → isWd (c.toNat : Int) = false ∧ c ≠ 39
theorem dlm_nil : dlm [] := fun _ _ h => by cases h
theorem all_imp {p q : UInt8 → Bool} (h : ∀ b, p b = true → q b = true) {w : Str} (hw : w.all p = true) : w.all q = true := List.all_eq_true.2 fun b hb => h b (List.all_eq_true.1 hw b hb)
theorem tw_same {p : Int → Bool} {w r : Str} (hw : w.all (fun b => p b.toNat) = true) (hr : ∀ c t, r = c :: t → p (c.toNat : Int) = false) : tw p (w ++ r) = w := by
  rw [Lp.tw_app r hr w]
  have h1 := (Lp.tw_full (p := p) w).2 hw
  have h2 := Lp.tw_take p w
  rw [h1, List.take_length] at h2
  exact h2.symm
theorem pre_no {m : Str} (h : ∀ a t, m = a :: 39 :: t → False) : pre m [120, 39] = false := by
  match m, h with
  | [], _ => rfl
  | [a], _ => simp [pre]
  | a :: b :: t, h =>
    have hb : b ≠ 39 := fun e => h a t (by rw [e])
    simp [pre, hb]
theorem wd39 : isWd 39 = false := by decide +kernel
theorem pre_word {w r : Str} (hne : w ≠ []) (hw : w.all (fun b => isWd b.toNat) = true) (hr : dlm r) : pre (w ++ r) [120, 39] = false := by
  refine pre_no fun a t h => ?_
  match w, hne, hw, h with
  | [x], _, _, h =>
    simp only [List.cons_append, List.nil_append, List.cons.injEq] at h
    exact (hr 39 t h.2).2 rfl
  | x :: y :: w, _, hw, h =>
    simp only [List.cons_append, List.cons.injEq] at h
    obtain ⟨_, rfl, _⟩ := h
    simp only [List.all_cons, Bool.and_eq_true] at hw
    have h2 := hw.2.1
    have e : ((39 : UInt8).toNat : Int) = 39 := rfl
    rw [e, wd39] at h2
    cases h2
theorem cls_up {c : Int} (h : isUp c = true) : clsF c = 1 := by simp [clsF, h]
theorem cls_lo_all : ∀ n : Fin 256, isLo (n.val : Int) = true → clsF (n.val : Int) = 2 := by decide +kernel
theorem cls_lo {b : UInt8} (h : isLo b.toNat = true) : clsF b.toNat = 2 := Lp.of256 (p := fun c => isLo c = true → clsF c = 2) cls_lo_all b.toNat (Lp.u8_range b) h
theorem tokS_word {w r : Str} (h : wordF w = true) (hr : dlm r) : tokS (w ++ r) = some (1, w, 0, w.length) := by
  have hu := Lp.word_up h
  have hne : w ≠ [] := by rintro rfl; exact absurd h (by decide +kernel)
  have hw : w.all (fun b => isWd b.toNat) = true := all_imp (fun b hb => Lp.up_wd b hb) hu
  have hp := pre_word hne hw hr
  have ht := tw_same hw (fun c t e => (hr c t e).1)
  cases w with
  | nil => exact absurd rfl hne
  | cons c t =>
    simp only [List.all_cons, Bool.and_eq_true] at hu
    have hc : clsF (Sx.byt (c :: t ++ r) 0) = 1 := cls_up hu.1
    unfold tokS
    rw [hp, ht, if_neg (by simp), if_pos hc, if_pos h]
theorem name_split {w : Str} (h : rnameF w = true) : ∃ c t, w = c :: t ∧ isLo c.toNat = true ∧ w.all (fun b => isIn b.toNat) = true := by
  cases w with
  | nil => cases h
  | cons c t =>
    simp only [rnameF, Lp.okGo_zero, Bool.and_eq_true] at h
    exact ⟨c, t, rfl, h.1.1, by simp only [List.all_cons, Bool.and_eq_true]; exact ⟨Lp.lo_in h.1.1, h.1.2⟩⟩
theorem tokS_name {w r : Str} (h : rnameF w = true) (hr : dlm r) : tokS (w ++ r) = some (2, w, 0, w.length) := by
  obtain ⟨c, t, rfl, h1, h2⟩ := name_split h
  have hw : (c :: t).all (fun b => isWd b.toNat) = true := all_imp (fun b hb => Lp.in_wd b hb) h2
  have hp := pre_word (by simp) hw hr
  have ht := tw_same hw (fun c t e => (hr c t e).1)
  have hc : clsF (Sx.byt (c :: t ++ r) 0) = 2 := cls_lo h1
  unfold tokS
  rw [hp, ht, if_neg (by simp), if_neg (by rw [hc]; decide), if_pos hc, if_pos h]
/-! ## numbers -/
theorem rnumGo_app : ∀ (a b : Str) (n : Int), rnumGo (a ++ b) n = (rnumGo a n).bind fun m => rnumGo b m
  | [], b, n => rfl
  | c :: a, b, n => by
    simp only [List.cons_append, rnumGo]
    split
    · rfl
    · exact rnumGo_app a b _
theorem dch_di {d : Int} (h : 0 ≤ d ∧ d ≤ 9) : ((dch d).toNat : Int) = 48 + d ∧ isDi ((dch d).toNat : Int) = true := by
  have e : ((dch d).toNat : Int) = 48 + d := by
    simp only [dch, UInt8.toNat_ofNat']
    omega
  refine ⟨e, ?_⟩
  rw [e]
  simp only [isDi, Bool.and_eq_true, decide_eq_true_eq]
  omega
theorem txt_di : ∀ {l : List Int}, dg l = true → (txt l).all (fun b => isDi b.toNat) = true
  | [], _ => rfl
  | d :: l, h => by
    have h := dg_cons.1 h
    rw [txt_cons, List.all_append, txt_di h.2]
    simp [(dch_di h.1).2]
theorem rnum_txt : ∀ {l : List Int}, dg l = true → rnumGo (txt l) 0 = if val l ≤ 9223372036854775807 then some (val l) else none
  | [], _ => rfl
  | d :: l, h => by
    have h := dg_cons.1 h
    have hv := val_nn h.2
    obtain ⟨hd, hdi⟩ := dch_di h.1
    have hc : clsF (48 + d) = 3 := by rw [← hd]; exact Lp.cls_di hdi
    rw [txt_cons, rnumGo_app, rnum_txt h.2, show val (d :: l) = d + 10 * val l from rfl]
    by_cases h1 : val l ≤ 9223372036854775807
    · rw [if_pos h1]
      simp only [Option.bind_some, rnumGo, hd, hc]
      by_cases h2 : d + 10 * val l ≤ 9223372036854775807
      · rw [if_pos h2, if_neg (by omega)]
        congr 1
        omega
      · rw [if_neg h2, if_pos (by omega)]
    · rw [if_neg h1, if_neg (by omega)]
      rfl
theorem txt_head : ∀ (k n : Nat), n ≤ k → n ≠ 0 → Sx.byt (txt (digs n)) 0 ≠ 48 ∧ txt (digs n) ≠ []
  | 0, n, h, h0 => absurd (Nat.le_zero.1 h) h0
  | k + 1, n, h, h0 => by
    rw [digs_pos h0, txt_cons]
    by_cases h1 : n / 10 = 0
    · rw [h1, digs_zero]
      have e : Sx.byt (txt [] ++ [dch ((n % 10 : Nat) : Int)]) 0 = ((dch ((n % 10 : Nat) : Int)).toNat : Int) := rfl
      rw [e, (dch_di (by omega)).1]
      exact ⟨by omega, by simp⟩
    · obtain ⟨h2, h3⟩ := txt_head k (n / 10) (by omega) h1
      rw [Lp.byt_app h3]
      exact ⟨h2, by simp⟩
theorem rnumF_txt {n : Nat} (h0 : n ≠ 0) : rnumF (txt (digs n)) = if (n : Int) ≤ 9223372036854775807 then (n : Int) else -1 := by
  unfold rnumF
  rw [rnum_txt (digs_dg n), digs_val]
  by_cases h : (n : Int) ≤ 9223372036854775807
  · rw [if_pos h, if_pos h]
    simp only
    rw [if_neg (fun e => (txt_head n n (Nat.le_refl _) h0).1 e.2)]
  · rw [if_neg h, if_neg h]
/-- the digits of a number that is not below 0 -/
def natT (n : Nat) : Str := if n = 0 then [48] else txt (digs n)
theorem natT_di (n : Nat) : (natT n).all (fun b => isDi b.toNat) = true := by
  unfold natT
  split
  · rfl
  · exact txt_di (digs_dg n)
theorem natT_ne (n : Nat) : natT n ≠ [] := by
  unfold natT
  split
  · simp
  · rename_i h; exact (txt_head n n (Nat.le_refl _) h).2
theorem rnumF_natT (n : Nat) : rnumF (natT n) = if (n : Int) ≤ 9223372036854775807 then (n : Int) else -1 := by
  unfold natT
  split
  · rename_i h; subst h; decide +kernel
  · rename_i h; exact rnumF_txt h
theorem natT_wd (n : Nat) : (natT n).all (fun b => isWd b.toNat) = true := all_imp (fun b hb => Lp.in_wd b (Lp.di_in b hb)) (natT_di n)
theorem tokS_nat {n : Nat} {r : Str} (hr : dlm r) : tokS (natT n ++ r) = if (n : Int) ≤ 9223372036854775807 then some (3, natT n, (n : Int), (natT n).length) else none := by
  have hp := pre_word (natT_ne n) (natT_wd n) hr
  have ht := tw_same (natT_wd n) (fun c t e => (hr c t e).1)
  have hc : clsF (Sx.byt (natT n ++ r) 0) = 3 := by
    have h1 := natT_di n
    have h2 := natT_ne n
    cases hw : natT n with
    | nil => exact absurd hw h2
    | cons c t =>
      rw [hw] at h1
      simp only [List.all_cons, Bool.and_eq_true] at h1
      exact Lp.cls_di h1.1
  unfold tokS
  rw [hp, ht, if_neg (by simp), if_neg (by rw [hc]; decide), if_neg (by rw [hc]; decide), if_pos hc, rnumF_natT]
  by_cases h : (n : Int) ≤ 9223372036854775807
  · rw [if_pos h, if_pos h, if_pos (by omega)]
  · rw [if_neg h, if_neg h, if_neg (by decide)]
theorem numT_nat {n : Int} (h : 0 ≤ n) : numT n = natT n.natAbs := by
  unfold numT natT
  rw [if_neg (by omega)]
  by_cases h0 : n = 0
  · rw [if_pos h0, if_pos (by omega)]
  · rw [if_neg h0, if_neg (by omega)]
theorem numT_neg {n : Int} (h : n < 0) : numT n = 45 :: natT n.natAbs := by
  unfold numT natT
  rw [if_pos h, if_neg (by omega), if_neg (by omega)]
/-! ## texts -/
theorem qS_quo {r : Str} (hr : ∀ t, r ≠ 39 :: t) : ∀ (s acc : Str), qS (quo s ++ 39 :: r) acc = some (acc ++ s, (quo s).length + 1)
  | [], acc => by
    cases r with
    | nil => simp [quo, qS]
    | cons d t =>
      have hd : d ≠ 39 := fun e => hr t (by rw [e])
      simp [quo, qS, hd]
  | b :: s, acc => by
    by_cases hb : b = 39
    · subst hb
      simp only [quo, if_true, List.cons_append, qS]
      rw [qS_quo hr s (acc ++ [39])]
      simp
    · have ih := qS_quo hr s (acc ++ [b])
      simp only [quo, if_neg hb, List.cons_append]
      cases hq : quo s ++ 39 :: r with
      | nil => simp at hq
      | cons d t =>
        rw [hq] at ih
        rw [qS, if_neg hb, ih]
        simp
theorem tokS_text {s r : Str} (h : checkF 4 0 s = 0) (hr : ∀ t, r ≠ 39 :: t) : tokS (39 :: (quo s ++ [39]) ++ r) = some (4, s, 0, (quo s).length + 2) := by
  have hp : pre (39 :: (quo s ++ [39]) ++ r) [120, 39] = false := by simp [pre]
  have hc : clsF (Sx.byt (39 :: (quo s ++ [39]) ++ r) 0) = 5 := by
    have e : Sx.byt (39 :: (quo s ++ [39]) ++ r) 0 = 39 := rfl
    rw [e]; decide +kernel
  have hd : (39 :: (quo s ++ [39]) ++ r).drop 1 = quo s ++ 39 :: r := by simp
  unfold tokS
  rw [hp, if_neg (by simp), if_neg (by rw [hc]; decide), if_neg (by rw [hc]; decide), if_neg (by rw [hc]; decide), if_pos hc, hd, qS_quo hr s []]
  simp only [List.nil_append]
  rw [if_pos h]
/-! ## bytes -/
theorem hex2_all : ((List.range 256).all fun n => decide (hexD ((hexL.getD (n / 16) 0).toNat : Int) = some ((n / 16 : Nat) : Int)) && decide (hexD ((hexL.getD (n % 16) 0).toNat : Int) = some ((n % 16 : Nat) : Int)) && nq ((hexL.getD (n / 16) 0).toNat : Int) && nq ((hexL.getD (n % 16) 0).toNat : Int)) = true := by kernel_rfl
theorem hex2_is (b : UInt8) : hexD ((hexL.getD (b.toNat / 16) 0).toNat : Int) = some ((b.toNat / 16 : Nat) : Int) ∧ hexD ((hexL.getD (b.toNat % 16) 0).toNat : Int) = some ((b.toNat % 16 : Nat) : Int) ∧ nq ((hexL.getD (b.toNat / 16) 0).toNat : Int) = true ∧ nq ((hexL.getD (b.toNat % 16) 0).toNat : Int) = true := by
  have h := List.all_eq_true.1 hex2_all b.toNat (List.mem_range.2 b.toNat_lt)
  simp only [Bool.and_eq_true, decide_eq_true_eq] at h
  exact ⟨h.1.1.1, h.1.1.2, h.1.2, h.2⟩
theorem hexs_cons (b : UInt8) (s : Str) : hexs (b :: s) = hexL.getD (b.toNat / 16) 0 :: hexL.getD (b.toNat % 16) 0 :: hexs s := rfl
theorem unGo_hexs : ∀ (s acc : Str), unGo (hexs s) acc = some (acc ++ s)
  | [], acc => by simp [hexs, unGo]
  | b :: s, acc => by
    obtain ⟨h1, h2, _, _⟩ := hex2_is b
    rw [hexs_cons, unGo, h1, h2]
    simp only
    rw [unGo_hexs s]
    have e : (((b.toNat / 16 : Nat) : Int) * 16 + ((b.toNat % 16 : Nat) : Int)).toNat = b.toNat := by omega
    rw [e]
    simp
theorem hexs_nq : ∀ s : Str, (hexs s).all (fun b => nq b.toNat) = true
  | [] => rfl
  | b :: s => by
    obtain ⟨_, _, h1, h2⟩ := hex2_is b
    rw [hexs_cons, List.all_cons, List.all_cons, h1, h2, hexs_nq s]
    rfl
theorem tokS_bytes {s r : Str} (h : s.length ≤ 1000) : tokS (120 :: 39 :: (hexs s ++ [39]) ++ r) = some (5, s, 0, (hexs s).length + 3) := by
  have hp : pre (120 :: 39 :: (hexs s ++ [39]) ++ r) [120, 39] = true := by simp [pre]
  have hd : (120 :: 39 :: (hexs s ++ [39]) ++ r).drop 2 = hexs s ++ 39 :: r := by simp
  have ht : tw nq (hexs s ++ 39 :: r) = hexs s := tw_same (hexs_nq s) (fun c t e => by cases e; decide +kernel)
  have hl := hexs_len s
  unfold tokS
  rw [hp, if_pos rfl, hd, ht, if_neg (by simp only [List.length_append, List.length_cons]; omega), if_pos (by omega), unGo_hexs]
  simp only [List.nil_append]
  rw [if_neg (by omega)]
/-! ## a value's text -/
theorem vright_one {v : Val} (h : vright v = true) (hk : v.kind = 1) : v.n = 0 ∧ v.s = [] := by
  simp [vright, hk] at h
  by_cases h0 : v.n = 0
  · simp [h0] at h; exact ⟨h0, h⟩
  · simp [h0] at h
theorem vright_kind {v : Val} (h : vright v = true) : v.kind = 1 ∨ v.kind = 2 ∨ v.kind = 3 ∨ v.kind = 4 ∨ v.kind = 5 := by
  by_cases h1 : v.kind = 1; · exact .inl h1
  by_cases h2 : v.kind = 2; · exact .inr (.inl h2)
  by_cases h3 : v.kind = 3; · exact .inr (.inr (.inl h3))
  by_cases h4 : v.kind = 4; · exact .inr (.inr (.inr (.inl h4)))
  by_cases h5 : v.kind = 5; · exact .inr (.inr (.inr (.inr h5)))
  simp [vright, h1, h2, h3, h4, h5] at h
theorem vright_text {v : Val} (h : vright v = true) (hk : v.kind = 4) : checkF 4 0 v.s = 0 ∧ v.n = 0 := by
  have hn : v.n = 0 := by
    by_cases h0 : v.n = 0
    · exact h0
    · simp [vright, hk, h0] at h
  have e : v = Val.mk 4 0 v.s := by cases v; simp only at hk hn; subst hk hn; rfl
  have h2 := vright_four v.s
  rw [← e, h] at h2
  refine ⟨?_, hn⟩
  unfold checkF
  rw [if_pos h2.symm]
theorem vright_bytes {v : Val} (h : vright v = true) (hk : v.kind = 5) : v.s.length ≤ 1000 ∧ v.n = 0 := by
  refine ⟨right_len h (.inr hk), ?_⟩
  by_cases h0 : v.n = 0
  · exact h0
  · simp [vright, hk, h0] at h
/-- what a value's text is read as, but for numbers below 0: kind of token, text, number -/
def vtok (v : Val) : Int × Str × Int := if v.kind = 3 then (3, natT v.n.natAbs, v.n) else if v.kind = 4 then (4, v.s, 0) else if v.kind = 5 then (5, v.s, 0) else (1, vprint v, 0)
theorem tokS_val {v : Val} {r : Str} (h : vright v = true) (hn : v.kind = 3 → 0 ≤ v.n ∧ v.n ≤ 9223372036854775807) (hr : dlm r) : tokS (vprint v ++ r) = some ((vtok v).1, (vtok v).2.1, (vtok v).2.2, (vprint v).length) := by
  have hr39 : ∀ t, r ≠ 39 :: t := fun t e => (hr 39 t e).2 rfl
  rcases vright_kind h with hk | hk | hk | hk | hk
  · have e : vprint v = [78, 85, 76, 76] := by simp [vprint, h, hk]
    have e2 : vtok v = (1, [78, 85, 76, 76], 0) := by simp [vtok, hk, e]
    rw [e, e2]
    exact tokS_word (by decide +kernel) hr
  · have e : vprint v = if v.n = 0 then [70, 65, 76, 83, 69] else [84, 82, 85, 69] := by simp [vprint, h, hk]
    have e2 : vtok v = (1, vprint v, 0) := by simp [vtok, hk]
    rw [e2]
    exact tokS_word (by rw [e]; split <;> decide +kernel) hr
  · obtain ⟨h0, h1⟩ := hn hk
    have e : vprint v = natT v.n.natAbs := by simp only [vprint, h, hk]; rw [← numT_nat h0]; rfl
    have e2 : vtok v = (3, natT v.n.natAbs, v.n) := by simp [vtok, hk]
    rw [e, e2, tokS_nat hr, if_pos (by omega)]
    have e3 : ((v.n.natAbs : Nat) : Int) = v.n := by omega
    rw [e3]
  · have e : vprint v = 39 :: (quo v.s ++ [39]) := by simp [vprint, h, hk]
    have e2 : vtok v = (4, v.s, 0) := by simp [vtok, hk]
    rw [e, e2, tokS_text (vright_text h hk).1 hr39]
    simp
  · have e : vprint v = 120 :: 39 :: (hexs v.s ++ [39]) := by simp [vprint, h, hk]
    have e2 : vtok v = (5, v.s, 0) := by simp [vtok, hk]
    rw [e, e2, tokS_bytes (vright_bytes h hk).1]
    simp
end Go.Proofs.YtjpcghlpkinahaaDoor
