/- The plain law: all tokens of a text; texts one behind the other; parts of a text. -/
import Derived.Test.YtjkgindlbecfnaaDoorPlC
namespace Go.Proofs.YtjkgindlbecfnaaDoor
open Go.Sx Go.RowKit
/-! ## what stands behind a token, or is cut off behind it -/
theorem pre_take {m x : List UInt8} {j : Nat} (h : pre (m.take j) x = true) : pre m x = true := by
  simp only [pre, Bool.and_eq_true, decide_eq_true_eq, List.length_take, List.take_take] at h ⊢
  have h2 := h.2
  rw [show min x.length j = x.length by omega] at h2
  exact ⟨by omega, h2⟩
theorem pre_take' {m x : List UInt8} {j : Nat} (h : pre m x = true) (hj : x.length ≤ j) : pre (m.take j) x = true := by
  simp only [pre, Bool.and_eq_true, decide_eq_true_eq, List.length_take, List.take_take] at h ⊢
  refine ⟨by omega, ?_⟩
  rw [show min x.length j = x.length by omega]
  exact h.2
theorem byt_take {m : List UInt8} {j : Nat} (h : 1 ≤ j) : byt (m.take j) 0 = byt m 0 := by
  unfold byt
  simp [List.getD_eq_getElem?_getD, show 0 < j by omega]
theorem twoS_take {m : List UInt8} {j : Nat} (h : twoS (m.take j) = true) : twoS m = true := by
  simp only [twoS, Bool.or_eq_true] at h ⊢
  exact h.imp (Or.imp pre_take pre_take) pre_take
theorem twoS_take' {m : List UInt8} {j : Nat} (h : twoS m = true) (hj : 2 ≤ j) : twoS (m.take j) = true := by
  simp only [twoS, Bool.or_eq_true] at h ⊢
  exact h.imp (Or.imp (fun h => pre_take' h hj) (fun h => pre_take' h hj)) (fun h => pre_take' h hj)
theorem tokS_len {m : List UInt8} {k : Int} {s : List UInt8} {n : Int} {e : Nat} (h : tokS m = some (k, s, n, e)) : 1 ≤ e ∧ e ≤ m.length := by
  cases m with
  | nil => exact absurd (h.symm.trans (show tokS [] = none by decide +kernel)) (by simp)
  | cons c m =>
    have h0 : (0 : Int) ≤ 0 ∧ (0 : Int) < ((c :: m).length : Int) := by simp
    have hr := tokR_S (c :: m) 0 h0
    simp only [Int.toNat_zero, List.drop_zero, h, Option.map_some] at hr
    have := tokR_end h0 hr
    omega
theorem tokS_take {m : List UInt8} {k : Int} {s : List UInt8} {n : Int} {e j : Nat} (h : tokS m = some (k, s, n, e)) (hj : e ≤ j) : tokS (m.take j) = some (k, s, n, e) := by
  have hlen := tokS_len h
  have hb := byt_take (m := m) (j := j) (by omega)
  have htw : ∀ p : Int → Bool, (tw p m).length ≤ j → tw p (m.take j) = tw p m := fun p hp => by
    rw [tw_take', List.take_of_length_le hp]
  unfold tokS at h ⊢
  by_cases hx : pre m [120, 39] = true
  · rw [if_pos hx] at h
    have e3 : ∀ r : List UInt8, (if r.length = (m.drop 2).length then none else match (if r.length % 2 = 0 then unGo r [] else none) with | none => none | some b => if 1000 < (b.length : Int) then none else some ((5 : Int), b, (0 : Int), r.length + 3)) = some (k, s, n, e) → e = r.length + 3 ∧ r.length ≠ (m.drop 2).length := by
      intro r hr
      split at hr
      · cases hr
      · rename_i hne
        split at hr
        · cases hr
        · split at hr
          · cases hr
          · simp only [Option.some.injEq, Prod.mk.injEq] at hr
            exact ⟨hr.2.2.2.symm, hne⟩
    obtain ⟨he, hne⟩ := e3 _ h
    have hdt : (m.take j).drop 2 = (m.drop 2).take (j - 2) := by rw [List.drop_take]
    have hq : tw nq ((m.take j).drop 2) = tw nq (m.drop 2) := by
      rw [hdt, tw_take', List.take_of_length_le (by omega)]
    have hl := tw_len nq (m.drop 2)
    rw [if_pos (pre_take' hx (by simp; omega)), hq]
    have hne' : ¬ (tw nq (m.drop 2)).length = ((m.take j).drop 2).length := by
      rw [hdt, List.length_take]; omega
    rw [if_neg hne']
    rw [if_neg hne] at h
    exact h
  · rw [if_neg hx] at h
    rw [if_neg (fun hh => hx (pre_take hh)), hb]
    have key : ∀ (b : Bool) (kk vv : Int), (if b = true then some (kk, tw isWd m, vv, (tw isWd m).length) else none) = some (k, s, n, e) → tw isWd (m.take j) = tw isWd m := by
      intro b kk vv hh
      cases b
      · cases hh
      · simp only [if_true, Option.some.injEq, Prod.mk.injEq] at hh
        exact htw isWd (by omega)
    split
    · rename_i h1; rw [if_pos h1] at h; rw [key _ _ _ h]; exact h
    · rename_i h1; rw [if_neg h1] at h
      split
      · rename_i h2; rw [if_pos h2] at h; rw [key _ _ _ h]; exact h
      · rename_i h2; rw [if_neg h2] at h
        split
        · rename_i h3; rw [if_pos h3] at h
          have : tw isWd (m.take j) = tw isWd m := by
            split at h
            · simp only [Option.some.injEq, Prod.mk.injEq] at h
              exact htw isWd (by omega)
            · cases h
          rw [this]; exact h
        · rename_i h3; rw [if_neg h3] at h
          split
          · rename_i h5; rw [if_pos h5] at h
            rw [List.drop_take]
            cases hq : qS (m.drop 1) [] with
            | none => rw [hq] at h; cases h
            | some x =>
              obtain ⟨s', n'⟩ := x
              rw [hq] at h
              have hle : n' ≤ j - 1 := by
                simp only at h
                split at h
                · simp only [Option.some.injEq, Prod.mk.injEq] at h; omega
                · cases h
              rw [qS_take _ _ _ s' n' (j - 1) (Nat.le_refl _) hle hq]
              exact h
          · rename_i h5; rw [if_neg h5] at h
            split
            · rename_i h7; rw [if_pos h7] at h
              by_cases h2' : twoS m = true
              · rw [if_pos h2'] at h
                have : 2 ≤ j := by simp only [Option.some.injEq, Prod.mk.injEq] at h; omega
                rw [if_pos (twoS_take' h2' this), List.take_take, show min 2 j = 2 by omega]
                exact h
              · rw [if_neg h2'] at h
                rw [if_neg (fun hh => h2' (twoS_take hh)), List.take_take, show min 1 j = 1 by omega]
                exact h
            · rename_i h7; rw [if_neg h7] at h; exact h
theorem blank_facts : ∀ n : Fin 256, clsF (n.val : Int) = 6 → isWd (n.val : Int) = false ∧ (n.val : Int) ≠ 39 ∧ (n.val : Int) ≠ 61 ∧ (n.val : Int) ≠ 62 := by decide +kernel
theorem blank_c {c : UInt8} (h : clsF c.toNat = 6) : isWd c.toNat = false ∧ c ≠ 39 ∧ c ≠ 61 ∧ c ≠ 62 := by
  have := of256 (p := fun c => clsF c = 6 → isWd c = false ∧ c ≠ 39 ∧ c ≠ 61 ∧ c ≠ 62) blank_facts c.toNat (u8_range c) h
  refine ⟨this.1, ?_, ?_, ?_⟩
  · rintro rfl; exact this.2.1 rfl
  · rintro rfl; exact this.2.2.1 rfl
  · rintro rfl; exact this.2.2.2 rfl
theorem pre_app {m : List UInt8} (hm : m ≠ []) (c : UInt8) (b : List UInt8) {x y : UInt8} (h : c ≠ y) : pre (m ++ c :: b) [x, y] = pre m [x, y] := by
  match m with
  | [] => exact absurd rfl hm
  | [a] =>
    have : pre [a] [x, y] = false := by simp [pre]
    rw [this]
    simp [pre, h]
  | a :: a' :: r => simp [pre]
theorem twoS_app {m : List UInt8} (hm : m ≠ []) {c : UInt8} (b : List UInt8) (hc : clsF c.toNat = 6) : twoS (m ++ c :: b) = twoS m := by
  have h := blank_c hc
  simp only [twoS, pre_app hm c b h.2.2.1, pre_app hm c b h.2.2.2]
theorem byt_app {m : List UInt8} (hm : m ≠ []) (t : List UInt8) : byt (m ++ t) 0 = byt m 0 := by
  cases m with
  | nil => exact absurd rfl hm
  | cons a m => rfl
/-- a token that a quote opens -/
def openB (m : List UInt8) : Prop := byt m 0 = 39 ∨ pre m [120, 39] = true
theorem cls39 {c : Int} (h : clsF c = 5) : c = 39 := by
  unfold clsF at h
  split at h; · omega
  split at h; · omega
  split at h; · omega
  split at h; · omega
  split at h; · assumption
  split at h; · omega
  split at h <;> omega
/-- with a blank behind it a token is the same; what is none, and is not open, is none -/
theorem tokS_app {m : List UInt8} (hm : m ≠ []) {c : UInt8} (b : List UInt8) (hc : clsF c.toNat = 6) : (tokS m ≠ none ∨ ¬ openB m) → tokS (m ++ c :: b) = tokS m := by
  intro hor
  have hbl := blank_c hc
  have htw : tw isWd (m ++ c :: b) = tw isWd m := tw_app _ (fun d t hd => by cases hd; exact hbl.1) m
  unfold tokS at hor ⊢
  rw [pre_app hm c b hbl.2.1, htw, byt_app hm, twoS_app hm b hc]
  by_cases hx : pre m [120, 39] = true
  · rw [if_pos hx] at hor
    rw [if_pos hx, if_pos hx]
    have h2 : 2 ≤ m.length := by
      simp only [pre, Bool.and_eq_true, decide_eq_true_eq, List.length_cons, List.length_nil] at hx; omega
    have hd : (m ++ c :: b).drop 2 = m.drop 2 ++ c :: b := by rw [List.drop_append_of_le_length h2]
    rcases hor with hor | hor
    · have hne : ¬ (tw nq (m.drop 2)).length = (m.drop 2).length := fun hh => by rw [if_pos hh] at hor; exact hor rfl
      have hfull : ∃ r1 d r2, m.drop 2 = r1 ++ d :: r2 ∧ nq d.toNat = false := by
        have hsp : ∀ x : List UInt8, (tw nq x).length ≠ x.length → ∃ r1 d r2, x = r1 ++ d :: r2 ∧ nq d.toNat = false := by
          intro x
          induction x with
          | nil => intro h; simp [tw] at h
          | cons y x ih =>
            intro hne
            cases hy : nq y.toNat with
            | false => exact ⟨[], y, x, rfl, hy⟩
            | true =>
              have : (tw nq x).length ≠ x.length := by
                unfold tw at hne ⊢
                simp [hy] at hne
                exact hne
              obtain ⟨r1, d, r2, h1, h2⟩ := ih this
              exact ⟨y :: r1, d, r2, by rw [h1]; rfl, h2⟩
        exact hsp _ hne
      have htq : tw nq ((m ++ c :: b).drop 2) = tw nq (m.drop 2) := by
        obtain ⟨r1, d, r2, h1, h2'⟩ := hfull
        rw [hd, h1, List.append_assoc, List.cons_append]
        rw [tw_app (p := nq) (d :: (r2 ++ c :: b)) (fun x t hx => by cases hx; exact h2') r1, tw_app (p := nq) (d :: r2) (fun x t hx => by cases hx; exact h2') r1]
      have hl := tw_len nq (m.drop 2)
      have hne' : ¬ (tw nq (m.drop 2)).length = ((m ++ c :: b).drop 2).length := by
        rw [hd, List.length_append]; omega
      rw [htq, if_neg hne', if_neg hne]
    · exact absurd (.inr hx) hor
  · rw [if_neg hx] at hor
    rw [if_neg hx, if_neg hx]
    have ht1 : (m ++ c :: b).take 1 = m.take 1 := by
      cases m with
      | nil => exact absurd rfl hm
      | cons a m => rfl
    have ht2 : twoS m = true → (m ++ c :: b).take 2 = m.take 2 := fun h2 => by
      have : 2 ≤ m.length := by
        simp only [twoS, Bool.or_eq_true, pre, Bool.and_eq_true, decide_eq_true_eq, List.length_cons, List.length_nil] at h2
        omega
      rw [List.take_append_of_le_length this]
    by_cases h1 : clsF (byt m 0) = 1
    · rw [if_pos h1, if_pos h1]
    · by_cases h2 : clsF (byt m 0) = 2
      · rw [if_neg h1, if_neg h1, if_pos h2, if_pos h2]
      · by_cases h3 : clsF (byt m 0) = 3
        · rw [if_neg h1, if_neg h1, if_neg h2, if_neg h2, if_pos h3, if_pos h3]
        · rw [if_neg h1, if_neg h1, if_neg h2, if_neg h2, if_neg h3, if_neg h3]
          rw [if_neg h1, if_neg h2, if_neg h3] at hor
          by_cases h5 : clsF (byt m 0) = 5
          · rw [if_pos h5] at hor
            rw [if_pos h5, if_pos h5]
            rcases hor with hor | hor
            · have hd : (m ++ c :: b).drop 1 = m.drop 1 ++ c :: b := by
                cases m with
                | nil => exact absurd rfl hm
                | cons a m => rfl
              cases hq : qS (m.drop 1) [] with
              | none => rw [hq] at hor; exact absurd rfl hor
              | some x =>
                rw [hd, qS_app _ _ _ x.1 x.2 (c :: b) (Nat.le_refl _) (fun d t hd => by cases hd; exact hbl.2.1) hq]
            · exact absurd (.inl (cls39 h5)) hor
          · rw [if_neg h5, if_neg h5]
            by_cases h7 : clsF (byt m 0) = 7
            · rw [if_pos h7, if_pos h7]
              by_cases h2' : twoS m = true
              · rw [if_pos h2', if_pos h2', ht2 h2']
              · rw [if_neg h2', if_neg h2', ht1]
            · rw [if_neg h7, if_neg h7]
end Go.Proofs.YtjkgindlbecfnaaDoor
