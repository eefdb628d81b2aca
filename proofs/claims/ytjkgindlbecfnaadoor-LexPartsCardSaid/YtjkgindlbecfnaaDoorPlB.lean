/- The plain law: the program's token at a place is the reference's (numbers, texts, bytes, signs; all). -/
import Derived.Test.YtjkgindlbecfnaaDoorPlA
namespace Go.Proofs.YtjkgindlbecfnaaDoor
open Go.Sx Go.RowKit
/-! ## numbers -/
theorem di_bd {c : UInt8} (h : isDi c.toNat = true) : 48 ≤ (c.toNat : Int) ∧ (c.toNat : Int) ≤ 57 := by
  simpa [isDi] using h
theorem cls_di {c : UInt8} (h : isDi c.toNat = true) : clsF c.toNat = 3 := by
  have key : ∀ n : Fin 256, isDi (n.val : Int) = true → clsF (n.val : Int) = 3 := by decide +kernel
  exact of256 (p := fun c => isDi c = true → clsF c = 3) key c.toNat (u8_range c) h
theorem di_cls {c : UInt8} (h : clsF c.toNat = 3) : isDi c.toNat = true := by
  have := cls3 h
  simp [isDi]; omega
theorem num_step {c : UInt8} (h : isDi c.toNat = true) {n : Int} (hn : 0 ≤ n) : (inI (n * 10) ∧ inI (n * 10 + dg c.toNat)) ↔ ¬ (clsF c.toNat ≠ 3 ∨ 922337203685477580 < n ∨ (n = 922337203685477580 ∧ 7 < (c.toNat : Int) - 48)) := by
  have hb := di_bd h
  rw [dg_eq _ (by omega), cls_di h]
  unfold inI
  constructor
  · rintro ⟨h1, h2⟩ (h3 | h3 | h3)
    · exact h3 rfl
    · omega
    · omega
  · intro h3
    have h4 : ¬ (922337203685477580 < n) := fun h => h3 (.inr (.inl h))
    have h5 : ¬ (n = 922337203685477580 ∧ 7 < (c.toNat : Int) - 48) := fun h => h3 (.inr (.inr h))
    omega
theorem num_go : ∀ (x : List UInt8) (n : Int), 0 ≤ n → x.all (fun b => isDi b.toNat) = true → rnumGo x n = numGo x n ∧ ∀ m, numGo x n = some m → 0 ≤ m
  | [], n, hn, _ => ⟨rfl, fun m h => by simp only [numGo, Option.some.injEq] at h; omega⟩
  | c :: x, n, hn, hx => by
    simp only [List.all_cons, Bool.and_eq_true] at hx
    have hb := di_bd hx.1
    have hs := num_step hx.1 hn
    have hd : dg c.toNat = (c.toNat : Int) - 48 := dg_eq _ (by omega)
    simp only [rnumGo, numGo]
    by_cases hc : clsF c.toNat ≠ 3 ∨ 922337203685477580 < n ∨ (n = 922337203685477580 ∧ 7 < (c.toNat : Int) - 48)
    · rw [if_pos hc, if_neg (fun h => hs.1 h hc)]
      exact ⟨rfl, fun m h => by cases h⟩
    · rw [if_neg hc, if_pos (hs.2 hc), hd, show 10 * n + ((c.toNat : Int) - 48) = n * 10 + ((c.toNat : Int) - 48) by omega]
      exact num_go x _ (by omega) hx.2
theorem rnum_all : ∀ (x : List UInt8) (n : Int), rnumGo x n ≠ none → x.all (fun b => isDi b.toNat) = true
  | [], _, _ => rfl
  | c :: x, n, h => by
    simp only [rnumGo] at h
    split at h
    · exact absurd rfl h
    · rename_i hc
      have h3 : clsF c.toNat = 3 := by
        by_cases h3 : clsF c.toNat = 3
        · exact h3
        · exact absurd (.inl h3) hc
      simp only [List.all_cons, Bool.and_eq_true]
      exact ⟨di_cls h3, rnum_all x _ h⟩
/-- what a number's text is -/
def numTok (x : List UInt8) (j : Int) : Option (Int × List UInt8 × Int × Int) := if 0 ≤ rnumF x then some (3, x, rnumF x, j) else none
theorem numTok_all {x : List UInt8} {j : Int} (h : numTok x j ≠ none) : x.all (fun b => isDi b.toNat) = true := by
  unfold numTok at h
  split at h
  · rename_i h0
    unfold rnumF at h0
    split at h0
    · omega
    · rename_i n hn
      exact rnum_all x 0 (by rw [hn]; simp)
  · exact absurd rfl h
theorem lead {x : List UInt8} (hne : x ≠ []) : (decide (x = [48]) || byt x 0 != 48) = true ↔ ¬ (1 < (x.length : Int) ∧ byt x 0 = 48) := by
  cases x with
  | nil => exact absurd rfl hne
  | cons c x =>
    have hb : byt (c :: x) 0 = (c.toNat : Int) := rfl
    have hc : (c.toNat : Int) = 48 ↔ c = 48 := by rw [← UInt8.toNat_inj]; simp; omega
    rw [hb]
    simp only [Bool.or_eq_true, decide_eq_true_eq, bne_iff_ne, ne_eq, List.cons.injEq, List.length_cons, hc]
    constructor
    · rintro (⟨_, h⟩ | h) ⟨h1, h2⟩
      · subst h; simp at h1
      · exact h h2
    · intro h
      by_cases h2 : c = 48
      · left
        refine ⟨h2, ?_⟩
        cases x with
        | nil => rfl
        | cons d x => exact absurd ⟨by simp; omega, h2⟩ h
      · exact .inr h2
theorem num_eq {x : List UInt8} (hne : x ≠ []) (hx : x.all (fun b => isDi b.toNat) = true) (a : Bool) (j : Int) :
    (match numGo x 0 with
    | none => none
    | some n => if (decide (x = [48]) || byt x 0 != 48) && a then some ((3 : Int), x, n, j) else none) = if a then numTok x j else none := by
  obtain ⟨h1, h2⟩ := num_go x 0 (by omega) hx
  unfold numTok rnumF
  rw [h1]
  cases hn : numGo x 0 with
  | none => cases a <;> simp
  | some n =>
    have hp := h2 n hn
    cases hl : (decide (x = [48]) || byt x 0 != 48) with
    | true =>
      have := (lead hne).1 hl
      cases a <;> simp [this, hp]
    | false =>
      have : 1 < (x.length : Int) ∧ byt x 0 = 48 := by
        by_cases hh : 1 < (x.length : Int) ∧ byt x 0 = 48
        · exact hh
        · rw [(lead hne).2 hh] at hl; cases hl
      cases a <;> simp [this]
/-! ## bytes -/
theorem hex_iff (l : List UInt8) (i : Int) (h : 0 ≤ i ∧ i < l.length) : HexAt l i ↔ pre (l.drop i.toNat) [120, 39] = true := by
  have hdl : (l.drop i.toNat).length = l.length - i.toNat := List.length_drop
  have hb1 := byt_drop l i h.1 1
  unfold HexAt
  rw [cut_run _ _ _ h.1, runTo_eq]
  generalize l.drop i.toNat = m at *
  have w120 : isWd ((120 : UInt8).toNat : Int) = true := by decide +kernel
  have w39 : isWd ((39 : UInt8).toNat : Int) = false := by decide +kernel
  match m with
  | [] => simp at hdl; omega
  | [a] =>
    simp only [List.length_singleton] at hdl
    constructor
    · rintro ⟨h1, h2, _⟩
      rw [h1] at h2
      simp at h2
      omega
    · intro h; simp [pre] at h
  | a :: b :: r =>
    have hbb : byt (a :: b :: r) ((1 : Nat) : Int) = (b.toNat : Int) := rfl
    constructor
    · rintro ⟨h1, h2, h3⟩
      rw [h1] at h3
      have hb : b = 39 := by
        have : byt l (i + (([120] : List UInt8).length : Int)) = (b.toNat : Int) := by rw [← hbb, hb1]; rfl
        rw [this] at h3
        rw [← UInt8.toNat_inj]; simp; omega
      have ha : a = 120 := by
        unfold tw at h1
        cases hw : isWd a.toNat with
        | true => simp [hw] at h1; exact h1.1
        | false => simp [hw] at h1
      subst hb; subst ha
      simp [pre]
    · intro h
      simp only [pre, Bool.and_eq_true, decide_eq_true_eq, List.length_cons, List.length_nil, List.take_succ_cons, List.take_zero, List.cons.injEq, and_true] at h
      obtain ⟨_, rfl, rfl⟩ := h
      have e1 : tw isWd (120 :: 39 :: r) = [120] := by
        unfold tw
        rw [List.takeWhile_cons, if_pos w120, List.takeWhile_cons, if_neg (by rw [w39]; simp)]
      rw [e1]
      refine ⟨rfl, ?_, ?_⟩
      · simp only [List.length_cons] at hdl ⊢
        simp
        omega
      · have : byt l (i + (([120] : List UInt8).length : Int)) = (((39 : UInt8).toNat : Nat) : Int) := by
          rw [← hbb, hb1]; rfl
        rw [this]; rfl
theorem index_tw : ∀ m : List UInt8, Lib.indexByte m 39 = if (tw (fun c => !decide (c = 39)) m).length = m.length then -1 else ((tw (fun c => !decide (c = 39)) m).length : Int)
  | [] => rfl
  | b :: m => by
    have ih := index_tw m
    have hl := tw_len (fun c => !decide (c = 39)) m
    by_cases hb : b = 39
    · subst hb
      rfl
    · have hne : ¬ ((b.toNat : Int) = 39) := fun h => hb (by rw [← UInt8.toNat_inj]; simp; omega)
      have e1 : tw (fun c => !decide (c = 39)) (b :: m) = b :: tw (fun c => !decide (c = 39)) m := by
        unfold tw
        rw [List.takeWhile_cons, if_pos (by simp [hne])]
      have e2 : (b == 39) = false := by simpa using hb
      rw [Lib.indexByte, e1, ih, e2]
      simp only [Bool.false_eq_true, if_false, List.length_cons]
      by_cases hf : (tw (fun c => !decide (c = 39)) m).length = m.length
      · simp [hf]
      · have : ¬ ((((tw (fun c => !decide (c = 39)) m).length : Int) == -1) = true) := by simp
        rw [if_neg hf, if_neg this, if_neg (by omega)]
        omega
/-! ## signs -/
theorem pre_two (l : List UInt8) (i : Int) (h : 0 ≤ i ∧ i < l.length) (a b : UInt8) : pre (l.drop i.toNat) [a, b] = true ↔ i + 1 < l.length ∧ cut l i (i + 2) = [a, b] := by
  unfold pre cut
  have hdl : (l.drop i.toNat).length = l.length - i.toNat := List.length_drop
  rw [show (i + 2).toNat - i.toNat = 2 by omega]
  simp only [Bool.and_eq_true, decide_eq_true_eq, List.length_cons, List.length_nil, hdl]
  constructor
  · rintro ⟨h1, h2⟩; exact ⟨by omega, h2⟩
  · rintro ⟨h1, h2⟩; exact ⟨by omega, h2⟩
theorem pre_head {m : List UInt8} {a b : UInt8} (h : pre m [a, b] = true) : byt m 0 = a.toNat := by
  simp only [pre, Bool.and_eq_true, decide_eq_true_eq, List.length_cons, List.length_nil] at h
  obtain ⟨_, h2⟩ := h
  cases m with
  | nil => cases h2
  | cons c m => simp at h2; rw [← h2.1]; rfl
theorem sign_tok (l : List UInt8) (i : Int) (h : 0 ≤ i ∧ i < l.length) : (if signF (l.drop i.toNat) = 0 then none else some ((6 : Int), cut l i (i + signF (l.drop i.toNat)), (0 : Int), i + signF (l.drop i.toNat))) =
    if clsF (byt l i) = 7 then (if twoR l i then some (6, cut l i (i + 2), 0, i + 2) else some (6, cut l i (i + 1), 0, i + 1)) else none := by
  have hb0 : byt (l.drop i.toNat) 0 = byt l i := by simpa using byt_drop l i h.1 0
  have hb := byt_range l i
  have hs := sign_eq (byt l i) hb
  have htwo : twoR l i ↔ (pre (l.drop i.toNat) [60, 62] || pre (l.drop i.toNat) [60, 61] || pre (l.drop i.toNat) [62, 61]) = true := by
    simp only [Bool.or_eq_true, pre_two l i h, twoR]
    constructor
    · rintro ⟨h1, h2 | h2 | h2⟩
      · exact .inl (.inl ⟨h1, h2⟩)
      · exact .inl (.inr ⟨h1, h2⟩)
      · exact .inr ⟨h1, h2⟩
    · rintro ((⟨h1, h2⟩ | ⟨h1, h2⟩) | ⟨h1, h2⟩)
      · exact ⟨h1, .inl h2⟩
      · exact ⟨h1, .inr (.inl h2)⟩
      · exact ⟨h1, .inr (.inr h2)⟩
  unfold signF
  by_cases h2 : twoR l i
  · have h2' := htwo.1 h2
    have hc : byt l i = 60 ∨ byt l i = 62 := by
      rw [← hb0]
      simp only [Bool.or_eq_true] at h2'
      rcases h2' with (h | h) | h
      · left; rw [pre_head h]; rfl
      · left; rw [pre_head h]; rfl
      · right; rw [pre_head h]; rfl
    have hc7 : clsF (byt l i) = 7 := by
      rcases hc with h | h <;> rw [h] <;> decide +kernel
    rw [if_pos h2', if_neg (by omega), if_pos hc7, if_pos h2]
  · have h2' : ¬ _ := fun h => h2 (htwo.2 h)
    rw [if_neg h2', if_neg h2, hb0]
    by_cases hc7 : clsF (byt l i) = 7
    · have h0 : 0 ≤ Lib.indexByte signs (byt l i).toNat.toUInt8 := by
        rw [decide_eq_true hc7] at hs; exact of_decide_eq_true hs
      rw [if_pos h0, if_neg (by omega), if_pos hc7]
    · have h0 : ¬ 0 ≤ Lib.indexByte signs (byt l i).toNat.toUInt8 := by
        rw [decide_eq_false hc7] at hs; exact of_decide_eq_false hs
      rw [if_neg h0, if_pos rfl, if_neg hc7]
/-! ## all -/
theorem up_wd (b : UInt8) (h : isUp b.toNat = true) : isWd b.toNat = true := by rw [isWd_eq _ (u8_range b), h]; rfl
theorem in_wd (b : UInt8) (h : isIn b.toNat = true) : isWd b.toNat = true := by rw [isWd_eq _ (u8_range b), h, Bool.or_true]
theorem di_in (b : UInt8) (h : isDi b.toNat = true) : isIn b.toNat = true := by simp [isIn, h]
theorem ite_and {α : Type} (p q : Bool) (x : α) : (if (p && q) = true then some x else none) = if q = true then (if p = true then some x else none) else none := by
  cases p <;> cases q <;> rfl
theorem tok_eq (l : List UInt8) (i : Int) (h : 0 ≤ i ∧ i < l.length) : tokF l i = tokR l i := by
  have hb := byt_range l i
  unfold tokF tokR
  by_cases hx : HexAt l i
  · have hx' := (hex_iff l i h).1 hx
    rw [if_pos hx, if_pos hx']
    have hr1 : runTo isWd l i = i + 1 := by
      rw [runTo_eq, ← cut_run _ _ _ h.1, hx.1]; rfl
    have hlt : i + 1 < l.length := by have := hx.2.1; omega
    have hdl : (l.drop (i + 2).toNat).length = l.length - (i + 2).toNat := List.length_drop
    have htl := tw_len (fun c => !decide (c = 39)) (l.drop (i + 2).toNat)
    rw [hr1]
    simp only
    rw [show i + 1 + 1 = i + 2 by omega, index_tw, runTo_eq]
    by_cases hf : (tw (fun c => !decide (c = 39)) (l.drop (i + 2).toNat)).length = (l.drop (i + 2).toNat).length
    · rw [if_pos hf, if_pos (by omega), if_pos (by omega)]
    · rw [if_neg hf, if_neg (show ¬ ((tw (fun c => !decide (c = 39)) (l.drop (i + 2).toNat)).length : Int) < 0 by omega), if_neg (show ¬ i + 2 + ((tw (fun c => !decide (c = 39)) (l.drop (i + 2).toNat)).length : Int) = l.length by omega)]
      rw [show i + 3 + ((tw (fun c => !decide (c = 39)) (l.drop (i + 2).toNat)).length : Int) = i + 2 + ((tw (fun c => !decide (c = 39)) (l.drop (i + 2).toNat)).length : Int) + 1 by omega]
      rfl
  · have hx' : ¬ pre (l.drop i.toNat) [120, 39] = true := fun hh => hx ((hex_iff l i h).2 hh)
    rw [if_neg hx, if_neg hx']
    have cls : ∀ n : Fin 256, clsF (n.val : Int) = if isUp (n.val : Int) then 1 else if isLo (n.val : Int) then 2 else if isDi (n.val : Int) then 3 else if (n.val : Int) = 39 then 5 else if clsF (n.val : Int) = 7 then 7 else if clsF (n.val : Int) = 6 then 6 else if clsF (n.val : Int) = 4 then 4 else 0 := by decide +kernel
    have hcls := of256 (p := fun c => clsF c = if isUp c then 1 else if isLo c then 2 else if isDi c then 3 else if c = 39 then 5 else if clsF c = 7 then 7 else if clsF c = 6 then 6 else if clsF c = 4 then 4 else 0) cls (byt l i) hb
    have h' : 0 ≤ i ∧ i ≤ l.length := by omega
    cases hu : isUp (byt l i) with
    | true =>
      rw [hu] at hcls
      have h1 : clsF (byt l i) = 1 := hcls
      rw [if_pos rfl, if_pos h1, ite_and]
      exact kind_eq up_wd l i h' (fun x j => if wordF x then some ((1 : Int), x, (0 : Int), j) else none) (fun x j hn => by
        by_cases hw : wordF x = true
        · exact word_up hw
        · simp [hw] at hn)
    | false =>
      rw [hu] at hcls
      rw [if_neg (by simp)]
      cases hlo : isLo (byt l i) with
      | true =>
        rw [hlo] at hcls
        have h1 : clsF (byt l i) = 2 := hcls
        rw [if_pos rfl, if_neg (show ¬ clsF (byt l i) = 1 by omega), if_pos h1, ite_and]
        have := kind_eq in_wd l i h' (fun x j => if nameF x then some ((2 : Int), x, (0 : Int), j) else none) (fun x j hn => by
          by_cases hw : nameF x = true
          · exact name_in hw
          · simp [hw] at hn)
        rw [this, name_eq]
      | false =>
        rw [hlo] at hcls
        rw [if_neg (by simp)]
        cases hd : isDi (byt l i) with
        | true =>
          rw [hd] at hcls
          have h1 : clsF (byt l i) = 3 := hcls
          rw [if_pos rfl, if_neg (show ¬ clsF (byt l i) = 1 by omega), if_neg (show ¬ clsF (byt l i) = 2 by omega), if_pos h1]
          have hrg := runTo_gt h hd
          have hne : cut l i (runTo isDi l i) ≠ [] := by
            have := cut_length l i (runTo isDi l i) (by have := runTo_range isDi l i h'; omega)
            intro h0
            rw [h0] at this
            simp at this
            omega
          have hall : (cut l i (runTo isDi l i)).all (fun b => isDi b.toNat) = true := by rw [cut_run _ _ _ h.1]; exact tw_all _ _
          refine (num_eq hne hall _ _).trans ?_
          exact kind_eq (fun b hb => in_wd b (di_in b hb)) l i h' numTok (fun x j hn => numTok_all hn)
        | false =>
          rw [hd] at hcls
          rw [if_neg (by simp)]
          by_cases hq : byt l i = 39
          · have h1 : clsF (byt l i) = 5 := by rw [hq]; decide +kernel
            rw [if_pos hq, if_neg (show ¬ clsF (byt l i) = 1 by omega), if_neg (show ¬ clsF (byt l i) = 2 by omega), if_neg (show ¬ clsF (byt l i) = 3 by omega), if_pos h1]
            have hqi := qGo_in _ (l.drop (i + 1).toNat) [] (i + 1) (Nat.le_refl _) (by omega)
            simp only
            generalize qGo (l.drop (i + 1).toNat) [] (i + 1) = q at *
            unfold checkF
            cases hr : rightF 4 0 q.1 with
            | true =>
              by_cases hn : q.2 < 0
              · have : q.2 = -1 := by omega
                simp [this]
              · have : ¬ q.2 = -1 := by omega
                simp [this, hn]
            | false => simp
          · have h1 : ¬ clsF (byt l i) = 1 ∧ ¬ clsF (byt l i) = 2 ∧ ¬ clsF (byt l i) = 3 ∧ ¬ clsF (byt l i) = 5 := by
              simp only [Bool.false_eq_true, if_false, if_neg hq] at hcls
              split at hcls
              · omega
              · split at hcls
                · omega
                · split at hcls <;> omega
            rw [if_neg hq, if_neg h1.1, if_neg h1.2.1, if_neg h1.2.2.1, if_neg h1.2.2.2]
            exact sign_tok l i h
theorem allGo_eq (l : List UInt8) : ∀ (f : Nat) (i : Int) (acc : List Tok), 0 ≤ i → allGo f l i acc = rallGo f l i acc
  | 0, _, _, _ => rfl
  | f + 1, i, acc, hi => by
    simp only [allGo, rallGo]
    by_cases he : (l.length : Int) ≤ i
    · rw [if_pos he, if_pos he]
    · rw [if_neg he, if_neg he, blank_eq _ (byt_range l i)]
      by_cases hb : clsF (byt l i) = 6
      · rw [if_pos (by simp [hb]), if_pos hb]
        exact allGo_eq l f _ _ (by omega)
      · rw [if_neg (by simp [hb]), if_neg hb, tok_eq l i (by omega)]
        cases ht : tokR l i with
        | none => rfl
        | some r =>
          obtain ⟨k, s, n, e⟩ := r
          have := tokR_end (by omega) ht
          exact allGo_eq l f _ _ (by omega)
theorem allF_eq (l : List UInt8) : allF l = rallF l := allGo_eq l _ 0 [] (by omega)
end Go.Proofs.YtjkgindlbecfnaaDoor
