/- What the value of an expression is, if it may be, has a kind, and the row fits; the whole of reckon; the reference's check of a value. -/
import Derived.Test.YtlhebakbbfmiiaaDoorFd
namespace Go.Proofs.YtlhebakbbfmiiaaDoor
open Go.Ax
theorem parts_spec (k : Int) : (parts k = 0 ∧ (k = 1 ∨ k = 2)) ∨ (parts k = 1 ∧ (k = 3 ∨ k = 15 ∨ k = 16)) ∨ (parts k = 2 ∧ 4 ≤ k ∧ k ≤ 14) ∨ parts k = -1 := by
  by_cases h1 : k = 1
  · subst h1; left; decide
  by_cases h2 : k = 2
  · subst h2; left; decide
  by_cases h3 : k = 3
  · subst h3; right; left; decide
  by_cases h15 : k = 15
  · subst h15; right; left; decide
  by_cases h16 : k = 16
  · subst h16; right; left; decide
  right; right
  by_cases h : 4 ≤ k ∧ k ≤ 14
  · left
    refine ⟨?_, h⟩
    have : k = 4 ∨ k = 5 ∨ k = 6 ∨ k = 7 ∨ k = 8 ∨ k = 9 ∨ k = 10 ∨ k = 11 ∨ k = 12 ∨ k = 13 ∨ k = 14 := by omega
    rcases this with rfl | rfl | rfl | rfl | rfl | rfl | rfl | rfl | rfl | rfl | rfl <;> decide
  · right
    have hm : mget signsL k = [] := by
      simp only [signsL, mget]
      rw [decide_eq_false (by omega), decide_eq_false (by omega), decide_eq_false (by omega), decide_eq_false (by omega), decide_eq_false (by omega), decide_eq_false (by omega), decide_eq_false (by omega), decide_eq_false (by omega), decide_eq_false (by omega), decide_eq_false (by omega), decide_eq_false (by omega)]
    simp [parts, hm, h1, h2, h3, h15, h16]
theorem allFit_get : ∀ {cols : List Col} {row : List Val}, allFit cols row = true → ∀ (i : Nat) (h1 : i < cols.length) (h2 : i < row.length), vfits row[i] cols[i].kind = true
  | [], _, _, i, h1, _ => by simp at h1
  | _ :: _, [], _, i, _, h2 => by simp at h2
  | c :: cs, v :: vs, h, i, h1, h2 => by
    simp only [allFit, Bool.and_eq_true] at h
    cases i with
    | zero => exact h.1
    | succ i => exact allFit_get h.2 i (by simpa using h1) (by simpa using h2)
theorem vfits_iff {v : Val} {k : Int} : vfits v k = true ↔ vright v = true ∧ (v.kind = 1 ∨ v.kind = k) := by
  simp only [vfits]
  cases vright v <;> simp
theorem vcheck_iff {v : Val} : vcheck v = 0 ↔ vright v = true := by
  simp only [vcheck]
  cases vright v <;> simp
theorem truth_right (b : Bool) : vright (truth b) = true ∧ (truth b).kind = 2 := by cases b <;> decide
theorem null_right : vright ⟨1, 0, []⟩ = true := by decide
theorem int_right (n : Int) : vright ⟨3, n, []⟩ = true := by simp [vright]
theorem vadd_e (a b : Int) : (vadd a b).2 = 0 ∨ (vadd a b).2 = 20 := by
  simp only [vadd]
  cases decide (decide (a < wr .i64 (a + b)) = decide (0 < b)) <;> simp
theorem vsub_e (a b : Int) : (vsub a b).2 = 0 ∨ (vsub a b).2 = 20 := by
  simp only [vsub]
  cases decide (decide (wr .i64 (a - b) < a) = decide (0 < b)) <;> simp
theorem vmul_e (a b : Int) : (vmul a b).2 = 0 ∨ (vmul a b).2 = 20 := by
  simp only [vmul]
  generalize decide (0 < (mul64 (vsize a) (vsize b)).1) = p
  generalize decide ((mul64 (vsize a) (vsize b)).2 = 9223372036854775808) = q
  generalize decide (9223372036854775808 < (mul64 (vsize a) (vsize b)).2) = r
  generalize (!decide ((decide (a < 0)) = (decide (b < 0)))) = t
  cases p <;> cases q <;> cases r <;> cases t <;> simp
theorem rsum_or (k a b : Int) : (∃ n, rsum k a b = (⟨3, n, []⟩, 0)) ∨ rsum k a b = (⟨0, 0, []⟩, 20) := by
  have h1 := vadd_e a b
  have h2 := vsub_e a b
  have h3 := vmul_e a b
  have h4 := vsub_e 0 a
  simp only [rsum, Bool.cond_decide]
  split
  · rcases h1 with h | h <;> simp [h]
  · split
    · rcases h2 with h | h <;> simp [h]
    · split
      · rcases h3 with h | h <;> simp [h]
      · rcases h4 with h | h <;> simp [h]
theorem logic_or (k : Int) (l : List Val) : (∃ b, logic k l = truth b) ∨ logic k l = ⟨1, 0, []⟩ := by
  simp only [logic]
  cases l.any fun v => decide (v = truth (decide (k = 5)))
  · cases l.any isNull
    · exact .inl ⟨_, rfl⟩
    · exact .inr rfl
  · exact .inl ⟨_, rfl⟩
/-- a value of a kind, or no room -/
def Good (v : Val) (f k : Int) : Prop := (f = 0 ∧ vright v = true ∧ (v.kind = 1 ∨ v.kind = k)) ∨ (f = 20 ∧ v = ⟨0, 0, []⟩)
theorem good_truth (b : Bool) : Good (truth b) 0 2 := .inl ⟨rfl, (truth_right b).1, .inr (truth_right b).2⟩
theorem good_null (k : Int) : Good ⟨1, 0, []⟩ 0 k := .inl ⟨rfl, null_right, .inl rfl⟩
theorem good_sum (k a b : Int) : Good (rsum k a b).1 (rsum k a b).2 3 := by
  rcases rsum_or k a b with ⟨n, h⟩ | h
  · rw [h]; exact .inl ⟨rfl, int_right n, .inr rfl⟩
  · rw [h]; exact .inr ⟨rfl, rfl⟩
theorem good_logic (k : Int) (l : List Val) : Good (logic k l) 0 2 := by
  rcases logic_or k l with ⟨b, h⟩ | h
  · rw [h]; exact good_truth b
  · rw [h]; exact good_null 2
theorem eright_parts {e : Xpr} {m : Int} (h : eright e m = true) : (e.l.length : Int) = parts e.kind ∧ eok e.kind e.v e.name = true ∧ erights e.l (wr .i64 (m - 1)) = true := by
  rw [eright_un] at h
  simp only [Bool.and_eq_true, decide_eq_true_eq] at h
  exact ⟨h.1.1.2, h.1.2, h.2⟩
theorem kfin2 {e : Xpr} {cols : List Col} {a b : Int} (h : (kfin e cols a b).2 = 0) (h3 : e.kind = 3 ∨ e.kind = 4 ∨ e.kind = 5) : kfin e cols a b = (2, 0) := by
  simp only [kfin] at h ⊢
  rw [if_neg (by omega), if_neg (by omega), if_neg (by omega), if_pos h3] at h ⊢
  split at h
  · rename_i hc; rw [if_pos hc]
  · simp at h
theorem kfin3 {e : Xpr} {cols : List Col} {a b : Int} (h : (kfin e cols a b).2 = 0) (h3 : e.kind = 12 ∨ e.kind = 13 ∨ e.kind = 14 ∨ e.kind = 15) : kfin e cols a b = (3, 0) := by
  simp only [kfin] at h ⊢
  rw [if_neg (by omega), if_neg (by omega), if_neg (by omega), if_neg (by omega), if_pos h3] at h ⊢
  split at h
  · rename_i hc; rw [if_pos hc]
  · simp at h
theorem kfin6 {e : Xpr} {cols : List Col} {a b : Int} (h : (kfin e cols a b).2 = 0) (h3 : 6 ≤ e.kind ∧ e.kind ≤ 11) : kfin e cols a b = (2, 0) := by
  simp only [kfin] at h ⊢
  rw [if_neg (by omega), if_neg (by omega), if_neg (by omega), if_neg (by omega), if_neg (by omega)] at h ⊢
  split at h
  · rename_i hc; rw [if_pos hc]
  · simp at h
theorem kfin16 {e : Xpr} {cols : List Col} {a b : Int} (h3 : e.kind = 16) : kfin e cols a b = (2, 0) := by
  simp only [kfin]
  rw [if_neg (by omega), if_neg (by omega), if_pos h3]
theorem evalE_good {cols : List Col} {row : List Val} (hf : allFit cols row = true) : ∀ (n : Nat) (e : Xpr) (m : Int), esize e ≤ n → eright e m = true → (kindE e cols).2 = 0 → ∃ v f, evalE e cols row = some (v, f) ∧ Good v f (kindE e cols).1
  | 0, e, _, h, _, _ => by have := esize_pos e; omega
  | n + 1, e, m, h, hr, hk => by
    obtain ⟨hp, hok, hs⟩ := eright_parts hr
    rw [esize_eq] at h
    rw [kindE_un] at hk ⊢
    rw [evalE_un]
    have i1 : ∀ v : Val, inb 0 [v].length = true := fun v => rfl
    have i2 : ∀ v u : Val, inb 0 [v, u].length = true := fun v u => rfl
    have i3 : ∀ v u : Val, inb 1 [v, u].length = true := fun v u => rfl
    rcases parts_spec e.kind with ⟨h0, hk0⟩ | ⟨h0, hk1⟩ | ⟨h0, hk2⟩ | h0
    · -- no parts
      have hl : e.l = [] := List.eq_nil_of_length_eq_zero (by omega)
      rw [hl] at hk ⊢
      simp only [kindL, kres, evalL] at hk ⊢
      have hc : chk (decide (([] : List Xpr).length ≤ maxApp)) = fun x : Option (Val × Int) => x := rfl
      rw [hc]
      simp only [if_true]
      rcases hk0 with h1 | h2
      · refine ⟨e.v, 0, by simp [efin, h1], .inl ⟨rfl, ?_, .inr ?_⟩⟩
        · simp only [eok, h1] at hok
          simp only [decide_true, cond_t, Bool.and_eq_true, decide_eq_true_eq] at hok
          exact vcheck_iff.1 hok.1.1
        · simp [kfin, h1]
      · simp only [kfin, h2] at hk ⊢
        simp only [show ¬ ((2 : Int) = 1) by decide, if_false, if_true] at hk ⊢
        by_cases hfd : find cols e.name < 0
        · simp [hfd] at hk
        · rw [if_neg hfd]
          have hlen := allFit_len hf
          have hrg := find_range cols e.name
          obtain ⟨i, hi⟩ : ∃ i : Nat, find cols e.name = (i : Int) := ⟨(find cols e.name).toNat, by omega⟩
          have h1 : i < cols.length := by omega
          have h2' : i < row.length := by omega
          have hfit := allFit_get hf i h1 h2'
          rw [vfits_iff] at hfit
          refine ⟨row[i], 0, ?_, .inl ⟨rfl, hfit.1, ?_⟩⟩
          · simp only [efin, h2]
            rw [hi, inb_t h2', at_nat (c := .val) h2']
            rfl
          · rw [hi, at_nat (c := .col) h1]
            exact hfit.2
    · -- one part
      obtain ⟨x, hl⟩ : ∃ x, e.l = [x] := List.length_eq_one_iff.1 (by omega)
      rw [hl] at hk hs ⊢
      simp only [kindL, kres, erights, Bool.and_true] at hk hs ⊢
      have hx0 : (kindE x cols).2 = 0 := by
        by_cases hx : (kindE x cols).2 = 0
        · exact hx
        · rw [if_neg hx] at hk; exact absurd hk hx
      rw [if_pos hx0] at hk ⊢
      obtain ⟨v, f, hv, hg⟩ := evalE_good hf n x _ (by rw [hl] at h; simp only [esizes] at h; omega) hs hx0
      simp only [evalL, hv]
      rcases hg with ⟨rfl, hg⟩ | ⟨rfl, rfl⟩
      · simp only [if_true]
        have hc : chk (decide (([x] : List Xpr).length ≤ maxApp)) = fun y : Option (Val × Int) => y := rfl
        rw [hc]
        simp only [efin]
        have at0 : at' .val [v] 0 = v := rfl
        rcases hk1 with h3 | h15 | h16
        · rw [kfin2 hk (.inl h3)]
          simp only [h3, show decide ((3 : Int) = 1) = false from rfl, show decide ((3 : Int) = 2) = false from rfl, show decide ((3 : Int) = 16) = false from rfl, show decide ((3 : Int) = 4) = false from rfl, show decide ((3 : Int) = 5) = false from rfl, cond_f, decide_true, cond_t, i1, chk, at0]
          cases [v].any isNull
          · exact ⟨_, _, rfl, good_truth _⟩
          · exact ⟨_, _, rfl, good_null _⟩
        · rw [kfin3 hk (.inr (.inr (.inr h15)))]
          simp only [h15, show decide ((15 : Int) = 1) = false from rfl, show decide ((15 : Int) = 2) = false from rfl, show decide ((15 : Int) = 16) = false from rfl, show decide ((15 : Int) = 3) = false from rfl, show decide ((15 : Int) = 4) = false from rfl, show decide ((15 : Int) = 5) = false from rfl, cond_f, decide_true, cond_t, i1, chk, at0]
          cases [v].any isNull
          · exact ⟨_, _, rfl, good_sum _ _ _⟩
          · exact ⟨_, _, rfl, good_null _⟩
        · rw [kfin16 h16]
          simp only [h16, show decide ((16 : Int) = 1) = false from rfl, show decide ((16 : Int) = 2) = false from rfl, decide_true, cond_f, cond_t]
          exact ⟨_, _, rfl, good_truth _⟩
      · exact ⟨_, _, rfl, .inr ⟨rfl, rfl⟩⟩
    · -- two parts
      obtain ⟨x, y, hl⟩ : ∃ x y, e.l = [x, y] := by
        match hq : e.l, (show e.l.length = 2 by omega) with
        | [x, y], _ => exact ⟨x, y, rfl⟩
      rw [hl] at hk hs ⊢
      simp only [kindL, kres, erights, Bool.and_true, Bool.and_eq_true] at hk hs ⊢
      have hx0 : (kindE x cols).2 = 0 := by
        by_cases hx : (kindE x cols).2 = 0
        · exact hx
        · rw [if_neg hx] at hk; exact absurd hk hx
      rw [if_pos hx0] at hk ⊢
      have hy0 : (kindE y cols).2 = 0 := by
        by_cases hy : (kindE y cols).2 = 0
        · exact hy
        · rw [if_neg hy] at hk; exact absurd hk hy
      rw [if_pos hy0] at hk ⊢
      have hsz : esize x ≤ n ∧ esize y ≤ n := by rw [hl] at h; simp only [esizes] at h; omega
      obtain ⟨v, f, hv, hg⟩ := evalE_good hf n x _ hsz.1 hs.1 hx0
      obtain ⟨u, g, hu, hg'⟩ := evalE_good hf n y _ hsz.2 hs.2 hy0
      simp only [evalL, hv, hu]
      rcases hg with ⟨rfl, hg⟩ | ⟨rfl, rfl⟩
      · simp only [if_true]
        rcases hg' with ⟨rfl, hg'⟩ | ⟨rfl, rfl⟩
        · simp only [if_true]
          have hc : chk (decide (([x, y] : List Xpr).length ≤ maxApp)) = fun z : Option (Val × Int) => z := rfl
          rw [hc]
          simp only [efin]
          have at0 : at' .val [v, u] 0 = v := rfl
          have at1 : at' .val [v, u] 1 = u := rfl
          rw [decide_eq_false (show ¬ e.kind = 1 by omega), decide_eq_false (show ¬ e.kind = 2 by omega), decide_eq_false (show ¬ e.kind = 16 by omega), decide_eq_false (show ¬ e.kind = 3 by omega), decide_eq_false (show ¬ e.kind = 15 by omega)]
          simp only [cond_f, i2, i3, chk, cond_t, at0, at1]
          by_cases h45 : e.kind = 4 ∨ e.kind = 5
          · rw [kfin2 hk (.inr h45)]
            rcases h45 with h4 | h5
            · simp only [h4, decide_true, cond_t]
              exact ⟨_, _, rfl, good_logic _ _⟩
            · simp only [h5, show decide ((5 : Int) = 4) = false from rfl, decide_true, cond_t, cond_f]
              exact ⟨_, _, rfl, good_logic _ _⟩
          · rw [decide_eq_false (show ¬ e.kind = 4 by omega), decide_eq_false (show ¬ e.kind = 5 by omega)]
            simp only [cond_f]
            cases hn : [v, u].any isNull
            · simp only [cond_f]
              by_cases h12 : 12 ≤ e.kind
              · rw [kfin3 hk (by omega), decide_eq_true h12]
                exact ⟨_, _, rfl, good_sum _ _ _⟩
              · rw [kfin6 hk (by omega), decide_eq_false h12]
                exact ⟨_, _, rfl, good_truth _⟩
            · exact ⟨_, _, rfl, good_null _⟩
        · exact ⟨_, _, rfl, .inr ⟨rfl, rfl⟩⟩
      · exact ⟨_, _, rfl, .inr ⟨rfl, rfl⟩⟩
    · omega
end Go.Proofs.YtlhebakbbfmiiaaDoor
