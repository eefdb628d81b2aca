/- The plain law: the program's token at a place is the reference's. -/
import Derived.Test.YtjkgindlbecfnaaDoorRxP
namespace Go.Proofs.YtjkgindlbecfnaaDoor
open Go.Sx Go.RowKit
/-! ## bytes -/
theorem of256 {p : Int → Prop} (h : ∀ n : Fin 256, p (n.val : Int)) (c : Int) (hc : 0 ≤ c ∧ c ≤ 255) : p c := by
  have := h ⟨c.toNat, by omega⟩
  simpa [Int.toNat_of_nonneg hc.1] using this
theorem wd_all : ∀ n : Fin 256, isWd (n.val : Int) = (isUp (n.val : Int) || isIn (n.val : Int)) := by decide +kernel
theorem blank_all : ∀ n : Fin 256, blankF (n.val : Int) = decide (clsF (n.val : Int) = 6) := by decide +kernel
theorem sign_all : ∀ n : Fin 256, decide (0 ≤ Lib.indexByte signs (n.val : Int).toNat.toUInt8) = decide (clsF (n.val : Int) = 7) := by decide +kernel
theorem isWd_eq (c : Int) (hc : 0 ≤ c ∧ c ≤ 255) : isWd c = (isUp c || isIn c) := of256 (p := fun c => isWd c = (isUp c || isIn c)) wd_all c hc
theorem blank_eq (c : Int) (hc : 0 ≤ c ∧ c ≤ 255) : blankF c = decide (clsF c = 6) := of256 (p := fun c => blankF c = decide (clsF c = 6)) blank_all c hc
theorem sign_eq (c : Int) (hc : 0 ≤ c ∧ c ≤ 255) : decide (0 ≤ Lib.indexByte signs c.toNat.toUInt8) = decide (clsF c = 7) := of256 (p := fun c => decide (0 ≤ Lib.indexByte signs c.toNat.toUInt8) = decide (clsF c = 7)) sign_all c hc
theorem u8_range (b : UInt8) : 0 ≤ (b.toNat : Int) ∧ (b.toNat : Int) ≤ 255 := by
  have := b.toNat_lt
  omega
/-! ## runs -/
def tw (p : Int → Bool) (m : List UInt8) : List UInt8 := m.takeWhile fun b => p b.toNat
theorem runTo_eq (p : Int → Bool) (l : List UInt8) (i : Int) : runTo p l i = i + (tw p (l.drop i.toNat)).length := rfl
theorem tw_len (p : Int → Bool) : ∀ m : List UInt8, (tw p m).length ≤ m.length
  | [] => by simp [tw]
  | x :: m => by
    have := tw_len p m
    unfold tw at *
    simp only [List.takeWhile_cons]
    split <;> simp <;> omega
theorem tw_take (p : Int → Bool) : ∀ m : List UInt8, m.take (tw p m).length = tw p m
  | [] => by simp [tw]
  | x :: m => by
    have := tw_take p m
    unfold tw at *
    simp only [List.takeWhile_cons]
    split
    · simp [this]
    · simp
theorem cut_run (p : Int → Bool) (l : List UInt8) (i : Int) (h : 0 ≤ i) : cut l i (runTo p l i) = tw p (l.drop i.toNat) := by
  unfold cut
  rw [runTo_eq, show (i + ((tw p (l.drop i.toNat)).length : Int)).toNat - i.toNat = (tw p (l.drop i.toNat)).length by omega]
  exact tw_take p _
theorem tw_split {p q : Int → Bool} (hpq : ∀ b : UInt8, p b.toNat = true → q b.toNat = true) : ∀ m : List UInt8, tw q m = tw p m ++ tw q (m.drop (tw p m).length)
  | [] => by simp [tw]
  | x :: m => by
    have ih := tw_split hpq m
    unfold tw at *
    cases hp : p x.toNat with
    | true => simp [hp, hpq x hp]; exact ih
    | false => simp [hp]
theorem tw_all (p : Int → Bool) : ∀ m : List UInt8, (tw p m).all (fun b => p b.toNat) = true
  | [] => by simp [tw]
  | x :: m => by
    have ih := tw_all p m
    unfold tw at *
    cases hp : p x.toNat with
    | true => simp only [List.takeWhile_cons, hp, if_true, List.all_cons, Bool.true_and]; exact ih
    | false => simp [hp]
theorem tw_nil_iff {q : Int → Bool} (m : List UInt8) : tw q m = [] ↔ m = [] ∨ q (byt m 0) = false := by
  cases m with
  | nil => simp [tw]
  | cons x m =>
    have : byt (x :: m) 0 = (x.toNat : Int) := rfl
    rw [this]
    cases hq : q x.toNat <;> simp [tw, hq]
theorem byt_drop (l : List UInt8) (i : Int) (h : 0 ≤ i) (j : Nat) : byt (l.drop i.toNat) j = byt l (i + j) := by
  unfold byt
  rw [List.getD_eq_getElem?_getD, List.getD_eq_getElem?_getD, List.getElem?_drop, show i.toNat + (j : Int).toNat = (i + j).toNat by omega]
/-- what ends alone is all of the word -/
theorem alone_iff {p : Int → Bool} (hp : ∀ b : UInt8, p b.toNat = true → isWd b.toNat = true) (l : List UInt8) (i : Int) (h : 0 ≤ i ∧ i ≤ l.length) : aloneF l (runTo p l i) = true ↔ tw p (l.drop i.toNat) = tw isWd (l.drop i.toNat) := by
  have hs := tw_split hp (l.drop i.toNat)
  have hr := runTo_range p l i h
  have hdd : (l.drop i.toNat).drop (tw p (l.drop i.toNat)).length = l.drop (runTo p l i).toNat := by
    rw [List.drop_drop, runTo_eq]
    congr 1
    omega
  rw [hdd] at hs
  have h1 : tw p (l.drop i.toNat) = tw isWd (l.drop i.toNat) ↔ tw isWd (l.drop (runTo p l i).toNat) = [] := by
    rw [hs]
    simp
  rw [h1, tw_nil_iff]
  have h2 : l.drop (runTo p l i).toNat = [] ↔ runTo p l i = l.length := by
    rw [List.drop_eq_nil_iff]; omega
  have h3 : byt (l.drop (runTo p l i).toNat) 0 = byt l (runTo p l i) := by
    have := byt_drop l (runTo p l i) (by omega) 0
    simpa using this
  rw [h2, h3]
  have hb := byt_range l (runTo p l i)
  simp only [aloneF, Bool.or_eq_true, beq_iff_eq, Bool.and_eq_true, Bool.not_eq_true', isWd_eq _ hb, Bool.or_eq_false_iff]
  constructor
  · rintro (h | ⟨h, h'⟩)
    · exact .inl h
    · exact .inr ⟨h', h⟩
  · rintro (h | ⟨h, h'⟩)
    · exact .inl h
    · exact .inr ⟨h', h⟩
/-- a kind of run: what holds of the word that ends alone holds of the whole run -/
theorem kind_eq {p : Int → Bool} (hp : ∀ b : UInt8, p b.toNat = true → isWd b.toNat = true) (l : List UInt8) (i : Int) (h : 0 ≤ i ∧ i ≤ l.length) {α : Type} (f : List UInt8 → Int → Option α) (hf : ∀ x j, f x j ≠ none → x.all (fun b => p b.toNat) = true) :
    (if aloneF l (runTo p l i) then f (cut l i (runTo p l i)) (runTo p l i) else none) = f (cut l i (runTo isWd l i)) (runTo isWd l i) := by
  by_cases ha : aloneF l (runTo p l i) = true
  · have he := (alone_iff hp l i h).1 ha
    have hre : runTo p l i = runTo isWd l i := by rw [runTo_eq, runTo_eq, he]
    rw [if_pos ha, hre]
  · rw [if_neg ha]
    by_cases hn : f (cut l i (runTo isWd l i)) (runTo isWd l i) = none
    · exact hn.symm
    · exfalso
      apply ha
      rw [alone_iff hp l i h]
      have hall := hf _ _ hn
      rw [cut_run _ _ _ h.1] at hall
      have key : ∀ m : List UInt8, (tw isWd m).all (fun b => p b.toNat) = true → tw p m = tw isWd m := by
        intro m
        induction m with
        | nil => simp [tw]
        | cons x m ih =>
          unfold tw at *
          intro hm
          cases hq : isWd x.toNat with
          | true =>
            simp only [List.takeWhile_cons, hq, if_true, List.all_cons, Bool.and_eq_true] at hm ⊢
            rw [if_pos hm.1, ih hm.2]
          | false =>
            have : p x.toNat = false := by
              cases hpx : p x.toNat with
              | false => rfl
              | true => rw [hp x hpx] at hq; cases hq
            simp [hq, this]
      exact key _ hall
/-! ## words -/
theorem words_up : wordsL.all (fun w => w.all fun b => isUp b.toNat) = true := by decide +kernel
theorem word_up {x : List UInt8} (h : wordF x = true) : x.all (fun b => isUp b.toNat) = true := by
  have := List.all_eq_true.1 words_up x (by simpa [wordF] using h)
  exact this
/-! ## names -/
theorem okGo_ne (l : List UInt8) : ∀ j : Int, 0 < j → okGo l j = l.all fun b => isIn b.toNat := by
  induction l with
  | nil => intro j _; rfl
  | cons c l ih =>
    intro j hj
    have hc := u8_range c
    have key : ∀ n : Fin 256, (decide (clsF (n.val : Int) = 2) || (decide (clsF (n.val : Int) = 3) || decide (clsF (n.val : Int) = 4))) = isIn (n.val : Int) := by decide +kernel
    have hk := of256 (p := fun c => (decide (clsF c = 2) || (decide (clsF c = 3) || decide (clsF c = 4))) = isIn c) key c.toNat hc
    simp only [okGo, List.all_cons, ih (j + 1) (by omega), nmOk, show decide (j = 0) = false by simp; omega, Bool.not_false, Bool.true_and, hk]
theorem okGo_zero (c : UInt8) (l : List UInt8) : okGo (c :: l) 0 = (isLo c.toNat && l.all fun b => isIn b.toNat) := by
  have hc := u8_range c
  have key : ∀ n : Fin 256, decide (clsF (n.val : Int) = 2) = isLo (n.val : Int) := by decide +kernel
  have hk := of256 (p := fun c => decide (clsF c = 2) = isLo c) key c.toNat hc
  simp only [okGo, nmOk, decide_true, Bool.not_true, Bool.false_and, Bool.or_false, hk]
  rw [okGo_ne l (0 + 1) (by omega)]
theorem tw_full {p : Int → Bool} : ∀ m : List UInt8, (tw p m).length = m.length ↔ m.all (fun b => p b.toNat) = true
  | [] => by simp [tw]
  | x :: m => by
    have ih := tw_full (p := p) m
    unfold tw at *
    cases hp : p x.toNat with
    | true => simp only [List.takeWhile_cons, hp, if_true, List.length_cons, List.all_cons, Bool.true_and, ← ih]; omega
    | false => simp [hp]
theorem lo_in {c : Int} (h : isLo c = true) : isIn c = true := by simp [isIn, h]
theorem name_eq (x : List UInt8) : nameF x = rnameF x := by
  cases x with
  | nil => rfl
  | cons c x =>
    have hrun : (runTo isIn (c :: x) 0 == ((c :: x).length : Int)) = (c :: x).all fun b => isIn b.toNat := by
      rw [Bool.eq_iff_iff, ← tw_full, beq_iff_eq, runTo_eq]
      simp only [Int.toNat_zero, List.drop_zero]
      omega
    have hb : byt (c :: x) 0 = (c.toNat : Int) := rfl
    simp only [nameF, rnameF, okGo_zero, hrun, hb]
    rw [Bool.eq_iff_iff]
    simp only [Bool.and_eq_true, Bool.not_eq_true', decide_eq_true_eq, decide_eq_false_iff_not, List.all_cons, List.length_cons]
    constructor
    · rintro ⟨⟨⟨_, h1⟩, h2⟩, h3⟩
      exact ⟨⟨h2, h3.2⟩, by omega, h1⟩
    · rintro ⟨⟨h2, h3⟩, _, h1⟩
      exact ⟨⟨⟨by simp, h1⟩, h2⟩, lo_in h2, h3⟩
theorem name_in {x : List UInt8} (h : nameF x = true) : x.all (fun b => isIn b.toNat) = true := by
  simp only [nameF, Bool.and_eq_true, beq_iff_eq] at h
  rw [← tw_full]
  have := h.2
  rw [runTo_eq] at this
  simp only [Int.toNat_zero, List.drop_zero] at this
  omega
end Go.Proofs.YtjkgindlbecfnaaDoor
