/- Ax, part S: values of known types, taken out of a state and laid into it anew. -/
import Derived.Test.YtlhebakbbfmiiaaDoorAxR
namespace Go.Ax
open Go.RowKit
def tkAt : Sg → D → Option Nat
  | .sl _ true, .sl _ _ (.id t) => some t
  | _, _ => none
/-- which right stands at a place -/
def asg (i : Nat) : List Sg → List D → Nat → Option Nat
  | s :: l, d :: ds => fun p => if p = i then tkAt s d else asg (i + 1) l ds p
  | _, _ => fun _ => none
theorem asg_low : ∀ (l : List Sg) (ds : List D) (i p : Nat), p < i → asg i l ds p = none
  | [], _, _, _, _ => by simp [asg]
  | s :: l, [], i, p, _ => rfl
  | s :: l, d :: ds, i, p, h => by
    have ih := asg_low l ds (i + 1) p (by omega)
    simp only [asg, if_neg (Nat.ne_of_lt h)]
    exact ih
theorem decL_cons {a : Sg} {l : List Sg} {al : List Nat} {ds : List D} {x : HV (a :: l)} (h : decL (a :: l) al ds = some x) : ∃ d ds' y al', ds = d :: ds' ∧ dec1 al a d = some (y, al') ∧ ((l = [] ∧ ds' = []) ∨ ∃ z, decL l al' ds' = some z) ∧ ∀ i, encL i (a :: l) x = enc1 i a y :: (match l with | [] => [] | b :: l' => match decL (b :: l') al' ds' with | some z => encL (i + 1) (b :: l') z | none => []) := by
  cases l with
  | nil =>
    cases ds with
    | nil => simp [decL] at h
    | cons d ds =>
      cases ds with
      | nil =>
        simp only [decL] at h
        split at h
        · rename_i y al' hy
          simp only [Option.some.injEq] at h
          subst h
          exact ⟨d, [], y, al', rfl, hy, .inl ⟨rfl, rfl⟩, fun i => rfl⟩
        · cases h
      | cons e ds => simp [decL] at h
  | cons b l =>
    cases ds with
    | nil => simp [decL] at h
    | cons d ds =>
      simp only [decL] at h
      split at h
      · rename_i y al' hy
        split at h
        · rename_i z hz
          simp only [Option.some.injEq] at h
          subst h
          exact ⟨d, ds, y, al', rfl, hy, .inr ⟨z, hz⟩, fun i => by simp only [encL, hz]⟩
        · cases h
      · cases h
theorem dec1_sub {al al' : List Nat} {s : Sg} {d : D} {y : den s} (h : dec1 al s d = some (y, al')) : (∀ t, t ∈ al' → t ∈ al) ∧ (∀ t, tkAt s d = some t → t ∈ al ∧ t ∉ al') := by
  unfold dec1 at h
  split at h
  · split at h
    · simp only [Option.some.injEq, Prod.mk.injEq] at h
      obtain ⟨_, rfl⟩ := h
      refine ⟨fun _ h => h, fun t ha => by simp [tkAt] at ha⟩
    · cases h
  · simp only [Option.some.injEq, Prod.mk.injEq] at h
    obtain ⟨_, rfl⟩ := h
    refine ⟨fun _ h => h, fun t ha => by simp [tkAt] at ha⟩
  · simp only [Option.some.injEq, Prod.mk.injEq] at h
    obtain ⟨_, rfl⟩ := h
    refine ⟨fun _ h => h, fun t ha => by simp [tkAt] at ha⟩
  · split at h
    · split at h
      · split at h
        · rename_i al2 htk
          simp only [Option.some.injEq, Prod.mk.injEq] at h
          obtain ⟨_, rfl⟩ := h
          unfold takeTk at htk
          split at htk
          · cases htk
          · simp only [Option.some.injEq] at htk
            subst htk
            refine ⟨fun _ h => h, fun t ha => by simp [tkAt] at ha⟩
          · split at htk
            · rename_i t0 hc
              simp only [Option.some.injEq] at htk
              subst htk
              refine ⟨fun t ht => (List.mem_filter.1 ht).1, fun t ha => ?_⟩
              simp only [tkAt, Option.some.injEq] at ha
              subst ha
              refine ⟨by simpa using hc, fun hm => ?_⟩
              simp at hm
            · cases htk
        · cases h
      · simp only [Option.some.injEq, Prod.mk.injEq] at h
        obtain ⟨_, rfl⟩ := h
        refine ⟨fun _ h => h, fun t ha => by simp [tkAt] at ha⟩
    · cases h
  · split at h
    · simp only [Option.some.injEq, Prod.mk.injEq] at h
      obtain ⟨_, rfl⟩ := h
      refine ⟨fun _ h => h, fun t ha => by simp [tkAt] at ha⟩
    · cases h
  · split at h
    · split at h
      · simp only [Option.some.injEq, Prod.mk.injEq] at h
        obtain ⟨_, rfl⟩ := h
        refine ⟨fun _ h => h, fun t ha => by simp [tkAt] at ha⟩
      · cases h
    · cases h
  · cases h
theorem asg_tail (s : Sg) (d : D) (l : List Sg) (ds : List D) (i p : Nat) (h : p ≠ i) : asg i (s :: l) (d :: ds) p = asg (i + 1) l ds p := by simp [asg, h]
theorem asg_head (s : Sg) (d : D) (l : List Sg) (ds : List D) (i : Nat) : asg i (s :: l) (d :: ds) i = tkAt s d := by simp [asg]
/-- the rights that are taken: all there, each once -/
theorem asg_spec : ∀ {l : List Sg} {al : List Nat} {ds : List D} {x : HV l} (i : Nat), decL l al ds = some x → (∀ p t, asg i l ds p = some t → t ∈ al ∧ i ≤ p) ∧ ∀ p q t, asg i l ds p = some t → asg i l ds q = some t → p = q
  | [], al, ds, x, i, _ => by simp [asg]
  | a :: l, al, ds, x, i, h => by
    obtain ⟨d, ds', y, al', rfl, h1, h2, _⟩ := decL_cons h
    obtain ⟨s1, s2⟩ := dec1_sub h1
    have ih : (∀ p t, asg (i + 1) l ds' p = some t → t ∈ al' ∧ i + 1 ≤ p) ∧ ∀ p q t, asg (i + 1) l ds' p = some t → asg (i + 1) l ds' q = some t → p = q := by
      rcases h2 with ⟨rfl, rfl⟩ | ⟨z, hz⟩
      · simp [asg]
      · exact asg_spec (i + 1) hz
    refine ⟨fun p t hp => ?_, fun p q t hp hq => ?_⟩
    · by_cases hpi : p = i
      · subst hpi; rw [asg_head] at hp; exact ⟨(s2 t hp).1, Nat.le_refl _⟩
      · rw [asg_tail _ _ _ _ _ _ hpi] at hp
        have := ih.1 p t hp
        exact ⟨s1 t this.1, by omega⟩
    · by_cases hpi : p = i <;> by_cases hqi : q = i
      · rw [hpi, hqi]
      · exfalso
        subst hpi
        rw [asg_tail _ _ _ _ _ _ hqi] at hq
        rw [asg_head] at hp
        exact (s2 t hp).2 (ih.1 q t hq).1
      · exfalso
        subst hqi
        rw [asg_tail _ _ _ _ _ _ hpi] at hp
        rw [asg_head] at hq
        exact (s2 t hq).2 (ih.1 p t hp).1
      · rw [asg_tail _ _ _ _ _ _ hpi] at hp
        rw [asg_tail _ _ _ _ _ _ hqi] at hq
        exact ih.2 p q t hp hq
/-- how values lie when laid in anew -/
theorem dec1_rep {X X' : Vx} (hS : ∀ b i, X'.S b i → X.S b i) (hw : X'.w = X.w) (hel : X'.el = X.el) {al al' : List Nat} {s : Sg} {d : D} {y : den s} {v : Value} (i : Nat) (h : dec1 al s d = some (y, al')) (hal : ∀ t, t ∈ al → X.al t) (hr : Rep X d v) (hown : ∀ c, s = .sl c true → i < X'.nt ∧ X'.m.tk i = (tkAt s d).bind X.m.tk) : Rep X' (enc1 i s y) v := by
  have hrf : ∀ {d : D} {v : Value}, RF X.S X.w d v → RF X'.S X'.w d v := fun h => by
    rw [hw]
    exact h.later (Chg.refl _ _) (fun k j hk => .inl (hS k j hk))
  unfold dec1 at h
  split at h
  · split at h
    · rename_i hk
      simp only [decide_eq_true_eq] at hk
      subst hk
      simp only [Option.some.injEq, Prod.mk.injEq] at h
      obtain ⟨rfl, _⟩ := h
      simpa [enc1, Rep] using hr
    · cases h
  · simp only [Option.some.injEq, Prod.mk.injEq] at h
    obtain ⟨rfl, _⟩ := h
    simpa [enc1, Rep] using hr
  · simp only [Option.some.injEq, Prod.mk.injEq] at h
    obtain ⟨rfl, _⟩ := h
    simpa [enc1, Rep] using hr
  · rename_i c own c' xs t
    split at h
    · rename_i hc
      subst hc
      simp only [Rep] at hr
      split at h
      · split at h
        · rename_i al2 htk
          simp only [Option.some.injEq, Prod.mk.injEq] at h
          obtain ⟨rfl, _⟩ := h
          obtain ⟨h1, h2⟩ := hown c' rfl
          simp only [enc1, Rep]
          refine ⟨hrf hr.1, h1, fun _ => ?_⟩
          cases t with
          | no => simp [takeTk] at htk
          | nil =>
            refine .inl ⟨hr.2.1, ?_, hr.2.2⟩
            rw [h2]
            simp [tkAt]
          | id t0 =>
            have hin : t0 ∈ al := by
              unfold takeTk at htk
              simp only at htk
              split at htk
              · rename_i hc; simpa using hc
              · cases htk
            simp only [tkAt, Option.bind_some] at h2
            rcases hr.2.2 (hal t0 hin) with ⟨a1, a2, a3⟩ | ⟨g, cap, cur, a1, a2, a3, a4⟩
            · exact .inl ⟨a1, h2.trans a2, a3⟩
            · exact .inr ⟨g, cap, cur, a1, h2.trans a2, by rw [hw, hel]; exact a3, a4⟩
        · cases h
      · simp only [Option.some.injEq, Prod.mk.injEq] at h
        obtain ⟨rfl, _⟩ := h
        simp only [enc1, Rep]
        exact ⟨hrf hr.1, trivial⟩
    · cases h
  · rename_i c d
    split at h
    · rename_i y' ha hy'
      simp only [Option.some.injEq, Prod.mk.injEq] at h
      obtain ⟨rfl, _⟩ := h
      obtain ⟨hel', hagg, _⟩ := toK_elR hy' hr
      obtain ⟨vs, rfl⟩ := hagg ha
      simp only [enc1, Rep]
      refine ⟨ha, vs.toList, by simp, by simpa [Value.cells] using hel'.1, fun j e he => ?_⟩
      obtain ⟨u, hu, hf⟩ := hel'.2 j e he
      exact ⟨u, by simpa [Value.cells] using hu, hrf hf⟩
    · cases h
  · split at h
    · rename_i c n c' n' xs hc
      subst hc
      split at h
      · rename_i hn
        have hn := Nat.eq_of_beq_eq_true hn
        subst hn
        simp only [Option.some.injEq, Prod.mk.injEq] at h
        obtain ⟨rfl, _⟩ := h
        simp only [enc1, Rep] at hr ⊢
        obtain ⟨h1, vs, h2, h3, h4⟩ := hr
        exact ⟨h1, vs, h2, h3, fun q y j e hy he => by obtain ⟨u, hu, hf⟩ := h4 q y j e hy he; exact ⟨u, hu, hrf hf⟩⟩
      · cases h
    · cases h
  · cases h
/-- .. all of them -/
theorem decL_rep {X X' : Vx} (hS : ∀ b i, X'.S b i → X.S b i) (hw : X'.w = X.w) (hel : X'.el = X.el) : ∀ {l : List Sg} {al : List Nat} {ds : List D} {x : HV l} {vs : List Value} (i : Nat), decL l al ds = some x → (∀ t, t ∈ al → X.al t) → Reps X ds vs → (∀ p, p ∈ owns i l → p < X'.nt ∧ X'.m.tk p = (asg i l ds p).bind X.m.tk) → Reps X' (encL i l x) vs
  | [], al, ds, x, vs, i, h, _, hr, _ => by
    cases ds with
    | nil => simpa [Reps, encL] using hr
    | cons d ds => simp [decL] at h
  | a :: l, al, ds, x, vs, i, h, hal, hr, hown => by
    obtain ⟨d, ds', y, al', rfl, h1, h2, h3⟩ := decL_cons h
    simp only [Reps] at hr
    obtain ⟨u, us, rfl, hr1, hr2⟩ := hr
    rw [h3 i]
    have hsub := (dec1_sub h1).1
    simp only [Reps]
    refine ⟨u, us, rfl, dec1_rep hS hw hel i h1 hal hr1 (fun c hc => ?_), ?_⟩
    · subst hc
      have := hown i (by simp [owns])
      rwa [asg_head] at this
    · rcases h2 with ⟨rfl, rfl⟩ | ⟨z, hz⟩
      · simpa [Reps] using hr2
      · cases l with
        | nil =>
          cases ds' with
          | nil => simpa [Reps] using hr2
          | cons e es => simp [decL] at hz
        | cons b l' =>
          simp only [hz]
          refine decL_rep hS hw hel (i + 1) hz (fun t ht => hal t (hsub t ht)) hr2 (fun p hp => ?_)
          have hlow : ∀ (l : List Sg) (i p : Nat), p ∈ owns i l → i ≤ p := by
            intro l
            induction l with
            | nil => intro i p hp; simp [owns] at hp
            | cons s l ih =>
              intro i p hp
              cases s <;> first | (have := ih (i + 1) p (by simpa [owns] using hp); omega) | skip
              rename_i c own
              cases own with
              | true =>
                simp only [owns, List.mem_cons] at hp
                rcases hp with rfl | hp
                · exact Nat.le_refl _
                · have := ih (i + 1) p hp; omega
              | false => have := ih (i + 1) p (by simpa [owns] using hp); omega
          have hpi := hlow _ _ _ hp
          have hmem : p ∈ owns i (a :: b :: l') := by
            cases a <;> first | exact hp | skip
            rename_i c own
            cases own with
            | true => exact List.mem_cons_of_mem _ hp
            | false => exact hp
          have := hown p hmem
          rwa [asg_tail _ _ _ _ _ _ (by omega)] at this
end Go.Ax
