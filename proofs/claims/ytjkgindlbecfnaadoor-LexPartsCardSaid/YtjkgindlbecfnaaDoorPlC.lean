/- The plain law: the token at the head of a text; what stands behind it does not matter. -/
import Derived.Test.YtjkgindlbecfnaaDoorPlB
namespace Go.Proofs.YtjkgindlbecfnaaDoor
open Go.Sx Go.RowKit
/-- between quotes: what is meant, and how many bytes it takes, the quote that ends it among them -/
def qS : List UInt8 → List UInt8 → Option (List UInt8 × Nat)
  | [], _ => none
  | [c], acc => if c = 39 then some (acc, 1) else none
  | c :: d :: r, acc => if c = 39 then (if d = 39 then (qS r (acc ++ [39])).map fun x => (x.1, x.2 + 2) else some (acc, 1)) else (qS (d :: r) (acc ++ [c])).map fun x => (x.1, x.2 + 1)
theorem qGo_eq : ∀ (f : Nat) (l acc : List UInt8) (i : Int), l.length ≤ f → qGo l acc i = match qS l acc with
    | none => ([], -1)
    | some (s, n) => (s, i + (n : Int))
  | _, [], _, _, _ => rfl
  | _, [c], acc, i, _ => by
    by_cases hc : c = 39 <;> simp [qGo, qS, hc]
  | 0, c :: d :: r, _, _, h => by simp at h
  | f + 1, c :: d :: r, acc, i, h => by
    simp only [List.length_cons] at h
    rw [qGo, qS]
    by_cases hc : c = 39
    · rw [if_pos hc, if_pos hc]
      by_cases hd : d = 39
      · rw [if_pos hd, if_pos hd, qGo_eq f r (acc ++ [39]) (i + 2) (by omega)]
        cases qS r (acc ++ [39]) with
        | none => rfl
        | some x => simp; omega
      · rw [if_neg hd, if_neg hd]; rfl
    · rw [if_neg hc, if_neg hc, qGo_eq f (d :: r) (acc ++ [c]) (i + 1) (by simp; omega)]
      cases qS (d :: r) (acc ++ [c]) with
      | none => rfl
      | some x => simp; omega
theorem qS_len : ∀ (f : Nat) (l acc s : List UInt8) (n : Nat), l.length ≤ f → qS l acc = some (s, n) → 1 ≤ n ∧ n ≤ l.length
  | _, [], _, _, _, _, h => by cases h
  | _, [c], acc, s, n, _, h => by
    by_cases hc : c = 39 <;> simp [qS, hc] at h
    simp [← h.2]
  | 0, c :: d :: r, _, _, _, h, _ => by simp at h
  | f + 1, c :: d :: r, acc, s, n, hl, h => by
    simp only [List.length_cons] at hl ⊢
    rw [qS] at h
    by_cases hc : c = 39
    · rw [if_pos hc] at h
      by_cases hd : d = 39
      · rw [if_pos hd] at h
        obtain ⟨⟨s', n'⟩, hq, he⟩ := Option.map_eq_some_iff.1 h
        have := qS_len f r (acc ++ [39]) s' n' (by omega) hq
        simp at he; omega
      · rw [if_neg hd] at h
        simp at h; omega
    · rw [if_neg hc] at h
      obtain ⟨⟨s', n'⟩, hq, he⟩ := Option.map_eq_some_iff.1 h
      have := qS_len f (d :: r) (acc ++ [c]) s' n' (by simp; omega) hq
      simp at he this; omega
/-- what stands behind, if it begins with no quote, does not matter -/
theorem qS_app : ∀ (f : Nat) (l acc s : List UInt8) (n : Nat) (t : List UInt8), l.length ≤ f → (∀ c b, t = c :: b → c ≠ 39) → qS l acc = some (s, n) → qS (l ++ t) acc = some (s, n)
  | _, [], _, _, _, _, _, _, h => by cases h
  | _, [c], acc, s, n, t, _, ht, h => by
    by_cases hc : c = 39 <;> simp [qS, hc] at h
    cases t with
    | nil => simp [qS, hc, h]
    | cons d t => simp [qS, hc, ht d t rfl, h]
  | 0, c :: d :: r, _, _, _, _, h, _, _ => by simp at h
  | f + 1, c :: d :: r, acc, s, n, t, hl, ht, h => by
    simp only [List.length_cons] at hl
    simp only [List.cons_append]
    rw [qS] at h ⊢
    by_cases hc : c = 39
    · rw [if_pos hc] at h ⊢
      by_cases hd : d = 39
      · rw [if_pos hd] at h ⊢
        obtain ⟨⟨s', n'⟩, hq, he⟩ := Option.map_eq_some_iff.1 h
        rw [qS_app f r (acc ++ [39]) s' n' t (by omega) ht hq]
        exact congrArg some he
      · rw [if_neg hd] at h ⊢
        exact h
    · rw [if_neg hc] at h ⊢
      obtain ⟨⟨s', n'⟩, hq, he⟩ := Option.map_eq_some_iff.1 h
      have := qS_app f (d :: r) (acc ++ [c]) s' n' t (by simp; omega) ht hq
      simp only [List.cons_append] at this
      rw [this]
      exact congrArg some he
/-- what is cut off behind does not matter -/
theorem qS_take : ∀ (f : Nat) (l acc s : List UInt8) (n j : Nat), l.length ≤ f → n ≤ j → qS l acc = some (s, n) → qS (l.take j) acc = some (s, n)
  | _, [], _, _, _, _, _, _, h => by cases h
  | _, [c], acc, s, n, j, _, hj, h => by
    have hl := qS_len 1 [c] acc s n (by simp) h
    obtain ⟨j, rfl⟩ : ∃ i, j = i + 1 := ⟨j - 1, by omega⟩
    simpa using h
  | 0, c :: d :: r, _, _, _, _, h, _, _ => by simp at h
  | f + 1, c :: d :: r, acc, s, n, j, hl, hj, h => by
    have hn := qS_len (f + 1) (c :: d :: r) acc s n hl h
    simp only [List.length_cons] at hl
    obtain ⟨j, rfl⟩ : ∃ i, j = i + 1 := ⟨j - 1, by omega⟩
    rw [qS] at h
    by_cases hc : c = 39
    · rw [if_pos hc] at h
      by_cases hd : d = 39
      · rw [if_pos hd] at h
        obtain ⟨⟨s', n'⟩, hq, he⟩ := Option.map_eq_some_iff.1 h
        simp only [Prod.mk.injEq] at he
        obtain ⟨j, rfl⟩ : ∃ i, j = i + 1 := ⟨j - 1, by omega⟩
        simp only [List.take_succ_cons]
        rw [qS, if_pos hc, if_pos hd, qS_take f r (acc ++ [39]) s' n' j (by omega) (by omega) hq]
        simp [he]
      · rw [if_neg hd] at h
        cases j with
        | zero => simp [qS, hc]; simpa using h
        | succ j => simp only [List.take_succ_cons]; rw [qS, if_pos hc, if_neg hd]; exact h
    · rw [if_neg hc] at h
      obtain ⟨⟨s', n'⟩, hq, he⟩ := Option.map_eq_some_iff.1 h
      simp only [Prod.mk.injEq] at he
      have hn' := qS_len f (d :: r) (acc ++ [c]) s' n' (by simp; omega) hq
      obtain ⟨j, rfl⟩ : ∃ i, j = i + 1 := ⟨j - 1, by omega⟩
      have := qS_take f (d :: r) (acc ++ [c]) s' n' (j + 1) (by simp; omega) (by omega) hq
      simp only [List.take_succ_cons] at this ⊢
      rw [qS, if_neg hc, this]
      simp [he]
/-! ## runs -/
theorem tw_app {p : Int → Bool} (t : List UInt8) (ht : ∀ c b, t = c :: b → p c.toNat = false) : ∀ m : List UInt8, tw p (m ++ t) = tw p m
  | [] => by
    cases t with
    | nil => rfl
    | cons c t => simp [tw, ht c t rfl]
  | x :: m => by
    have ih := tw_app t ht m
    unfold tw at *
    cases hp : p x.toNat with
    | true => simp [hp]; exact ih
    | false => simp [hp]
theorem tw_take' {p : Int → Bool} : ∀ (m : List UInt8) (j : Nat), tw p (m.take j) = (tw p m).take j
  | [], j => by simp [tw]
  | x :: m, 0 => by simp [tw]
  | x :: m, j + 1 => by
    have ih := tw_take' (p := p) m j
    unfold tw at *
    cases hp : p x.toNat with
    | true => simp [hp]; exact ih
    | false => simp [hp]
def nq (c : Int) : Bool := !decide (c = 39)
def twoS (m : List UInt8) : Bool := pre m [60, 62] || pre m [60, 61] || pre m [62, 61]
/-- the token at the head of a text: kind, text, number, how many bytes it takes -/
def tokS (m : List UInt8) : Option (Int × List UInt8 × Int × Nat) :=
  if pre m [120, 39] then
    (if (tw nq (m.drop 2)).length = (m.drop 2).length then none else
    match (if (tw nq (m.drop 2)).length % 2 = 0 then unGo (tw nq (m.drop 2)) [] else none) with
    | none => none
    | some b => if 1000 < (b.length : Int) then none else some (5, b, 0, (tw nq (m.drop 2)).length + 3))
  else if clsF (byt m 0) = 1 then (if wordF (tw isWd m) then some (1, tw isWd m, 0, (tw isWd m).length) else none)
  else if clsF (byt m 0) = 2 then (if rnameF (tw isWd m) then some (2, tw isWd m, 0, (tw isWd m).length) else none)
  else if clsF (byt m 0) = 3 then (if 0 ≤ rnumF (tw isWd m) then some (3, tw isWd m, rnumF (tw isWd m), (tw isWd m).length) else none)
  else if clsF (byt m 0) = 5 then
    match qS (m.drop 1) [] with
    | none => none
    | some (s, n) => if checkF 4 0 s = 0 then some (4, s, 0, n + 1) else none
  else if clsF (byt m 0) = 7 then (if twoS m then some (6, m.take 2, 0, 2) else some (6, m.take 1, 0, 1))
  else none
theorem tokR_S (l : List UInt8) (i : Int) (h : 0 ≤ i ∧ i < l.length) : tokR l i = (tokS (l.drop i.toNat)).map fun x => (x.1, x.2.1, x.2.2.1, i + (x.2.2.2 : Int)) := by
  have hb0 : byt (l.drop i.toNat) 0 = byt l i := by simpa using byt_drop l i h.1 0
  have hdl : (l.drop i.toNat).length = l.length - i.toNat := List.length_drop
  have hd1 : (l.drop i.toNat).drop 1 = l.drop (i + 1).toNat := by rw [List.drop_drop]; congr 1; omega
  have hd2 : (l.drop i.toNat).drop 2 = l.drop (i + 2).toNat := by rw [List.drop_drop]; congr 1; omega
  unfold tokR tokS
  by_cases hx : HexAt l i
  · rw [if_pos hx, if_pos ((hex_iff l i h).1 hx)]
    have hr1 : runTo isWd l i = i + 1 := by
      rw [runTo_eq, ← cut_run _ _ _ h.1, hx.1]; rfl
    have hlt : i + 1 < l.length := by have := hx.2.1; omega
    have hdl2 : (l.drop (i + 2).toNat).length = l.length - (i + 2).toNat := List.length_drop
    rw [hr1]
    simp only
    rw [show i + 1 + 1 = i + 2 by omega, hd2, cut_run _ _ _ (by omega), runTo_eq]
    change (if i + 2 + ((tw nq (l.drop (i + 2).toNat)).length : Int) = l.length then none else match (if (tw nq (l.drop (i + 2).toNat)).length % 2 = 0 then unGo (tw nq (l.drop (i + 2).toNat)) [] else none) with | none => none | some b => if 1000 < (b.length : Int) then none else some ((5 : Int), b, (0 : Int), i + 2 + ((tw nq (l.drop (i + 2).toNat)).length : Int) + 1)) = _
    generalize tw nq (l.drop (i + 2).toNat) = r at *
    by_cases hf : r.length = (l.drop (i + 2).toNat).length
    · rw [if_pos (show i + 2 + (r.length : Int) = l.length by omega), if_pos hf]; rfl
    · rw [if_neg (show ¬ i + 2 + (r.length : Int) = l.length by omega), if_neg hf]
      generalize (if r.length % 2 = 0 then unGo r [] else none) = u
      cases u with
      | none => rfl
      | some b =>
        by_cases hbig : 1000 < (b.length : Int)
        · simp only [if_pos hbig]; rfl
        · simp only [if_neg hbig, Option.map_some, Option.some.injEq, Prod.mk.injEq, true_and]
          omega
  · rw [if_neg hx, if_neg (fun hh => hx ((hex_iff l i h).2 hh)), hb0, cut_run _ _ _ h.1, runTo_eq]
    split
    · split <;> rfl
    · split
      · split <;> rfl
      · split
        · split <;> rfl
        · split
          · rw [hd1, qGo_eq _ _ _ _ (Nat.le_refl _)]
            cases qS (l.drop (i + 1).toNat) [] with
            | none => rfl
            | some x =>
              obtain ⟨s, n⟩ := x
              by_cases hk : checkF 4 0 s = 0
              · simp only [if_pos hk]
                rw [if_pos ⟨by omega, hk⟩]
                simp; omega
              · simp [hk]
          · split
            · have htwo : twoR l i ↔ twoS (l.drop i.toNat) = true := by
                simp only [twoS, Bool.or_eq_true, pre_two l i h, twoR]
                constructor
                · rintro ⟨h1, h2 | h2 | h2⟩
                  · exact .inl (.inl ⟨h1, h2⟩)
                  · exact .inl (.inr ⟨h1, h2⟩)
                  · exact .inr ⟨h1, h2⟩
                · rintro ((⟨h1, h2⟩ | ⟨h1, h2⟩) | ⟨h1, h2⟩)
                  · exact ⟨h1, .inl h2⟩
                  · exact ⟨h1, .inr (.inl h2)⟩
                  · exact ⟨h1, .inr (.inr h2)⟩
              have hc : ∀ k : Nat, cut l i (i + k) = (l.drop i.toNat).take k := fun k => by
                unfold cut; congr 1; omega
              have h1 := hc 1
              have h2 := hc 2
              by_cases ht : twoR l i
              · rw [if_pos ht, if_pos (htwo.1 ht)]
                simp only [Option.map_some]
                rw [← h2]; rfl
              · rw [if_neg ht, if_neg (fun hh => ht (htwo.2 hh))]
                simp only [Option.map_some]
                rw [← h1]; rfl
            · rfl
end Go.Proofs.YtjkgindlbecfnaaDoor
