/- The plain law: all tokens of a text, as a relation; texts one behind the other; parts of a text. -/
import Derived.Test.YtjkgindlbecfnaaDoorPlD
namespace Go.Proofs.YtjkgindlbecfnaaDoor
open Go.Sx Go.RowKit
/-- the tokens of a text that begins at a place -/
inductive Sc : List UInt8 → Int → List Tok → Prop where
  | nil {p : Int} : Sc [] p []
  | blank {c : UInt8} {r : List UInt8} {p : Int} {ts : List Tok} : clsF c.toNat = 6 → Sc r (p + 1) ts → Sc (c :: r) p ts
  | tok {m : List UInt8} {p : Int} {k : Int} {s : List UInt8} {n : Int} {e : Nat} {ts : List Tok} : clsF (byt m 0) ≠ 6 → tokS m = some (k, s, n, e) → Sc (m.drop e) (p + e) ts → Sc m p (⟨k, p, s, n⟩ :: ts)
/-- the place at which a text is wrong -/
inductive Er : List UInt8 → Int → Int → Prop where
  | blank {c : UInt8} {r : List UInt8} {p j : Int} : clsF c.toNat = 6 → Er r (p + 1) j → Er (c :: r) p j
  | tok {m : List UInt8} {p : Int} {k : Int} {s : List UInt8} {n : Int} {e : Nat} {j : Int} : clsF (byt m 0) ≠ 6 → tokS m = some (k, s, n, e) → Er (m.drop e) (p + e) j → Er m p j
  | bad {m : List UInt8} {p : Int} : m ≠ [] → clsF (byt m 0) ≠ 6 → tokS m = none → Er m p p
theorem all_sc (l : List UInt8) : ∀ (f : Nat) (i : Int) (acc : List Tok), 0 ≤ i ∧ i ≤ l.length → (l.length : Int) - i < f → match rallGo f l i acc with
    | .ok ts => ∃ us, ts = acc ++ us ∧ Sc (l.drop i.toNat) i us
    | .error j => Er (l.drop i.toNat) i j
  | 0, i, acc, h, hf => by omega
  | f + 1, i, acc, h, hf => by
    simp only [rallGo]
    by_cases he : (l.length : Int) ≤ i
    · rw [if_pos he]
      exact ⟨[], by simp, by rw [List.drop_eq_nil_of_le (by omega)]; exact .nil⟩
    · rw [if_neg he]
      have hb0 : byt (l.drop i.toNat) 0 = byt l i := by simpa using byt_drop l i h.1 0
      have hcons := drop_at l i (by omega)
      by_cases hb : clsF (byt l i) = 6
      · rw [if_pos hb]
        have ih := all_sc l f (i + 1) acc (by omega) (by omega)
        have hb' : clsF ((l.getD i.toNat 0).toNat : Int) = 6 := hb
        cases hr : rallGo f l (i + 1) acc with
        | ok ts =>
          rw [hr] at ih
          obtain ⟨us, h1, h2⟩ := ih
          exact ⟨us, h1, by rw [hcons]; exact .blank hb' h2⟩
        | error j =>
          rw [hr] at ih
          show Er _ _ _
          rw [hcons]
          exact .blank hb' ih
      · rw [if_neg hb]
        have hS := tokR_S l i (by omega)
        cases hS' : tokS (l.drop i.toNat) with
        | none =>
          rw [hS'] at hS
          rw [hS]
          exact .bad (by rw [hcons]; simp) (by rw [hb0]; exact hb) hS'
        | some x =>
          obtain ⟨k, s, n, e⟩ := x
          rw [hS'] at hS
          simp only [Option.map_some] at hS
          have hlen := tokS_len hS'
          have hdl : (l.drop i.toNat).length = l.length - i.toNat := List.length_drop
          rw [hS]
          simp only
          have ih := all_sc l f (i + (e : Int)) (acc ++ [⟨k, i, s, n⟩]) (by omega) (by omega)
          have hdd : l.drop (i + (e : Int)).toNat = (l.drop i.toNat).drop e := by rw [List.drop_drop]; congr 1; omega
          rw [hdd] at ih
          cases hr : rallGo f l (i + (e : Int)) (acc ++ [⟨k, i, s, n⟩]) with
          | ok ts =>
            rw [hr] at ih
            obtain ⟨us, h1, h2⟩ := ih
            exact ⟨⟨k, i, s, n⟩ :: us, by rw [h1]; simp, .tok (by rw [hb0]; exact hb) hS' h2⟩
          | error j =>
            rw [hr] at ih
            exact .tok (by rw [hb0]; exact hb) hS' ih
theorem head_cons (c : UInt8) (r : List UInt8) : byt (c :: r) 0 = (c.toNat : Int) := rfl
theorem tokS_nil : tokS [] = none := by decide +kernel
theorem Sc.det {m : List UInt8} {p : Int} {ts : List Tok} (h : Sc m p ts) : ∀ {us : List Tok}, Sc m p us → ts = us := by
  induction h with
  | nil =>
    intro us h
    cases h with
    | nil => rfl
    | tok _ h2 _ => rw [tokS_nil] at h2; cases h2
  | blank hc _ ih =>
    intro us h
    cases h with
    | blank _ h2 => exact ih h2
    | tok h1 _ _ => exact absurd hc h1
  | tok h1 h2 _ ih =>
    intro us h
    cases h with
    | nil => rw [tokS_nil] at h2; cases h2
    | blank hc _ => exact absurd hc h1
    | tok _ h3 h4 =>
      rw [h2] at h3
      cases h3
      rw [ih h4]
theorem Sc.not_er {m : List UInt8} {p : Int} {ts : List Tok} (h : Sc m p ts) : ∀ {j : Int}, ¬ Er m p j := by
  induction h with
  | nil =>
    intro j h
    cases h with
    | tok _ h2 _ => rw [tokS_nil] at h2; cases h2
    | bad h _ _ => exact h rfl
  | blank hc _ ih =>
    intro j h
    cases h with
    | blank _ h2 => exact ih h2
    | tok h1 _ _ => exact absurd hc h1
    | bad _ h1 _ => exact absurd hc h1
  | tok h1 h2 _ ih =>
    intro j h
    cases h with
    | blank hc _ => exact absurd hc h1
    | tok _ h3 h4 =>
      rw [h2] at h3
      cases h3
      exact ih h4
    | bad _ _ h3 => rw [h2] at h3; cases h3
theorem Er.det {m : List UInt8} {p j : Int} (h : Er m p j) : ∀ {i : Int}, Er m p i → j = i := by
  induction h with
  | blank hc _ ih =>
    intro i h
    cases h with
    | blank _ h2 => exact ih h2
    | tok h1 _ _ => exact absurd hc h1
    | bad _ h1 _ => exact absurd hc h1
  | tok h1 h2 _ ih =>
    intro i h
    cases h with
    | blank hc _ => exact absurd hc h1
    | tok _ h3 h4 =>
      rw [h2] at h3
      cases h3
      exact ih h4
    | bad _ _ h3 => rw [h2] at h3; cases h3
  | bad h0 h1 h2 =>
    intro i h
    cases h with
    | blank hc _ => exact absurd hc h1
    | tok _ h3 _ => rw [h2] at h3; cases h3
    | bad _ _ _ => rfl
theorem allF_sc (l : List UInt8) : match allF l with
    | .ok ts => Sc l 0 ts
    | .error j => Er l 0 j := by
  rw [allF_eq, rallF]
  have h := all_sc l (l.length + 1) 0 [] (by omega) (by omega)
  cases hr : rallGo (l.length + 1) l 0 [] with
  | ok ts =>
    rw [hr] at h
    obtain ⟨us, h1, h2⟩ := h
    simp only [List.nil_append] at h1
    subst h1
    simpa using h2
  | error j => rw [hr] at h; simpa using h
theorem allF_of_sc {l : List UInt8} {ts : List Tok} (h : Sc l 0 ts) : allF l = .ok ts := by
  have h2 := allF_sc l
  cases hr : allF l with
  | ok us => rw [hr] at h2; rw [h.det h2]
  | error j => rw [hr] at h2; exact absurd h2 h.not_er
theorem allF_of_er {l : List UInt8} {j : Int} (h : Er l 0 j) : allF l = .error j := by
  have h2 := allF_sc l
  cases hr : allF l with
  | ok us => rw [hr] at h2; exact absurd h (Sc.not_er h2)
  | error i => rw [hr] at h2; rw [h.det h2]
def Tok.off (d : Int) (t : Tok) : Tok := ⟨t.k, t.a + d, t.s, t.n⟩
theorem Sc.off {m : List UInt8} {p : Int} {ts : List Tok} (h : Sc m p ts) (d : Int) : Sc m (p + d) (ts.map (Tok.off d)) := by
  induction h with
  | nil => exact .nil
  | blank hc _ ih => exact .blank hc (by rw [show ∀ x : Int, x + d + 1 = x + 1 + d from fun x => by omega]; exact ih)
  | tok h1 h2 _ ih => exact .tok h1 h2 (by rw [show ∀ x y : Int, x + d + y = x + y + d from fun x y => by omega]; exact ih)
theorem Er.off {m : List UInt8} {p j : Int} (h : Er m p j) (d : Int) : Er m (p + d) (j + d) := by
  induction h with
  | blank hc _ ih => exact .blank hc (by rw [show ∀ x : Int, x + d + 1 = x + 1 + d from fun x => by omega]; exact ih)
  | tok h1 h2 _ ih => exact .tok h1 h2 (by rw [show ∀ x y : Int, x + d + y = x + y + d from fun x y => by omega]; exact ih)
  | bad h0 h1 h2 => exact .bad h0 h1 h2
theorem ne_of_tok {m : List UInt8} {x : Int × List UInt8 × Int × Nat} (h : tokS m = some x) : m ≠ [] := by
  rintro rfl; rw [tokS_nil] at h; cases h
/-! ## a blank between -/
theorem Sc.app {a : List UInt8} {p : Int} {ts : List Tok} (h : Sc a p ts) {c : UInt8} (hc : clsF c.toNat = 6) (b : List UInt8) : ∀ {us : List Tok}, Sc b (p + a.length + 1) us → Sc (a ++ c :: b) p (ts ++ us) := by
  induction h with
  | nil => intro us hb; exact .blank hc (by simpa using hb)
  | blank hx _ ih =>
    intro us hb
    refine .blank hx (ih ?_)
    rename_i r p _ _
    rw [show p + 1 + (r.length : Int) + 1 = p + ((r.length + 1 : Nat) : Int) + 1 by omega]
    exact hb
  | tok h1 h2 _ ih =>
    intro us hb
    have hm := ne_of_tok h2
    have hl := tokS_len h2
    refine .tok (by rw [byt_app hm]; exact h1) ((tokS_app hm b hc (.inl (by rw [h2]; simp))).trans h2) ?_
    rw [List.drop_append_of_le_length hl.2]
    refine ih ?_
    rename_i m p _ _ _ e _ _
    rw [List.length_drop, show p + (e : Int) + ((m.length - e : Nat) : Int) + 1 = p + (m.length : Int) + 1 by omega]
    exact hb
theorem Sc.app_er {a : List UInt8} {p : Int} {ts : List Tok} (h : Sc a p ts) {c : UInt8} (hc : clsF c.toNat = 6) (b : List UInt8) : ∀ {j : Int}, Er b (p + a.length + 1) j → Er (a ++ c :: b) p j := by
  induction h with
  | nil => intro j hb; exact .blank hc (by simpa using hb)
  | blank hx _ ih =>
    intro j hb
    refine .blank hx (ih ?_)
    rename_i r p _ _
    rw [show p + 1 + (r.length : Int) + 1 = p + ((r.length + 1 : Nat) : Int) + 1 by omega]
    exact hb
  | tok h1 h2 _ ih =>
    intro j hb
    have hm := ne_of_tok h2
    have hl := tokS_len h2
    refine .tok (by rw [byt_app hm]; exact h1) ((tokS_app hm b hc (.inl (by rw [h2]; simp))).trans h2) ?_
    rw [List.drop_append_of_le_length hl.2]
    refine ih ?_
    rename_i m p _ _ _ e _ _
    rw [List.length_drop, show p + (e : Int) + ((m.length - e : Nat) : Int) + 1 = p + (m.length : Int) + 1 by omega]
    exact hb
/-- wrong ahead of the blank: there, if no quote opens it -/
theorem Er.app {a : List UInt8} {p j : Int} (h : Er a p j) {c : UInt8} (hc : clsF c.toNat = 6) (b : List UInt8) : ∃ i : Nat, j = p + i ∧ i < a.length ∧ (openB (a.drop i) ∨ Er (a ++ c :: b) p j) := by
  induction h with
  | blank hx _ ih =>
    obtain ⟨i, h1, h2, h3⟩ := ih
    refine ⟨i + 1, by omega, by simp; omega, ?_⟩
    exact h3.imp (fun h => h) (fun h => .blank hx h)
  | tok h1 h2 _ ih =>
    obtain ⟨i, h3, h4, h5⟩ := ih
    have hm := ne_of_tok h2
    have hl := tokS_len h2
    rename_i m p _ _ _ e _ _
    rw [List.length_drop] at h4
    refine ⟨e + i, by omega, by omega, ?_⟩
    rw [List.drop_drop] at h5
    refine h5.imp (fun h => h) (fun h => ?_)
    refine .tok (by rw [byt_app hm]; exact h1) ((tokS_app hm b hc (.inl (by rw [h2]; simp))).trans h2) ?_
    rw [List.drop_append_of_le_length hl.2]
    exact h
  | bad h0 h1 h2 =>
    rename_i m p
    refine ⟨0, by omega, List.length_pos_iff.2 h0, ?_⟩
    by_cases ho : openB m
    · exact .inl ho
    · right
      exact .bad (by simp) (by rw [byt_app h0]; exact h1) ((tokS_app h0 b hc (.inr ho)).trans h2)
/-! ## parts -/
theorem Sc.le {m : List UInt8} {p : Int} {ts : List Tok} (h : Sc m p ts) : ∀ t, t ∈ ts → p ≤ t.a := by
  induction h with
  | nil => intro t h; cases h
  | blank _ _ ih => intro t h; have := ih t h; omega
  | tok _ _ _ ih =>
    intro t h
    simp only [List.mem_cons] at h
    rcases h with rfl | h
    · exact Int.le_refl _
    · have := ih t h; omega
theorem Sc.part {m : List UInt8} {p : Int} {ts : List Tok} (h : Sc m p ts) : ∀ (k : Nat) (t : Tok), ts[k]? = some t → ∃ A : Nat, t.a = p + A ∧ A < m.length ∧ Sc (m.take A) p (ts.take k) ∧ Sc (m.drop A) t.a (ts.drop k) := by
  induction h with
  | nil => intro k t h; simp at h
  | blank hc _ ih =>
    intro k t h
    obtain ⟨A, h1, h2, h3, h4⟩ := ih k t h
    exact ⟨A + 1, by omega, by simp; omega, by rw [List.take_succ_cons]; exact .blank hc h3, h4⟩
  | tok h1 h2 h3 ih =>
    intro k t h
    have hl := tokS_len h2
    rename_i m p _ _ _ e _
    cases k with
    | zero =>
      simp only [List.getElem?_cons_zero, Option.some.injEq] at h
      subst h
      exact ⟨0, by simp, by omega, by simp; exact .nil, by simp; exact .tok h1 h2 h3⟩
    | succ k =>
      obtain ⟨A, h4, h5, h6, h7⟩ := ih k t (by simpa using h)
      rw [List.length_drop] at h5
      refine ⟨e + A, by omega, by omega, ?_, by rw [← List.drop_drop]; exact h7⟩
      rw [List.take_succ_cons]
      refine .tok (by rw [byt_take (by omega)]; exact h1) (tokS_take h2 (by omega)) ?_
      rw [List.drop_take, show e + A - e = A by omega]
      exact h6
/-- the next token is farther behind -/
theorem Sc.next {m : List UInt8} {p : Int} {t : Tok} {ts : List Tok} (h : Sc m p (t :: ts)) (ht : t.a = p) : ∀ u, u ∈ ts → p < u.a := by
  cases h with
  | blank hc h2 => have := h2.le t (by simp); omega
  | tok _ h2 h3 =>
    intro u hu
    have := h3.le u hu
    have := tokS_len h2
    omega
end Go.Proofs.YtjkgindlbecfnaaDoor
