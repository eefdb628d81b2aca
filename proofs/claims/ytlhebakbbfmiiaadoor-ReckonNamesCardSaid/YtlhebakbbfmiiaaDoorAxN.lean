/- Ax, part N: new blocks, stores, new rows, append: what becomes of the state. -/
import Derived.Test.YtlhebakbbfmiiaaDoorAxM
namespace Go.Ax
open Go.RowKit
section
variable {cx : Cx} {m m' : Mp} {a : Act} {as : List Act} {s s' : FS} {w w' : World}
/-- the world and the blocks change, the slots do not -/
theorem Rel.step (h : Rel cx m a as s w) (hn : s'.n = s.n) (henv : s'.env = s.env) (hlb : s'.lb = s.lb) (hlt : s'.lt = s.lt) (hfr : s'.fr = s.fr) (hch : Chg (fpOf m s) w w') (nx : Nx (vx cx m s w) (vx cx m' s' w'))
    (blks : ∀ b k, s'.bl b = some k → b < s'.nb ∧ BlkR (vx cx m' s' w') (m'.bl b) k) (als : ∀ t, s'.al t → t < s'.nt)
    (inj : ∀ b b', s'.bl b ≠ none → s'.bl b' ≠ none → m'.bl b = m'.bl b' → b = b') (injt : ∀ t t' g o o', s'.al t → s'.al t' → m'.tk t = some (g, o) → m'.tk t' = some (g, o') → t = t')
    (injbt : ∀ b t g o, s'.bl b ≠ none → s'.al t → m'.tk t = some (g, o) → m'.bl b ≠ g) (own : ∀ b i, fpOf m' s' b i → b < w'.heap.size ∧ (fpOf m s b i ∨ w.heap.size ≤ b)) : Rel cx m' a as s' w' := by
  have hnb : s.nb ≤ s'.nb := nx.nb
  have hnt : s.nt ≤ s'.nt := nx.nt
  refine ⟨h.chg.later (fun k i hi => (h.own k i hi).2) hch, ?_, ?_, by rw [hlb]; exact Nat.le_trans h.lb hnb, by rw [hlt]; exact Nat.le_trans h.lt hnt, blks, als, inj, injt, injbt, fun b i hi => ?_, h.away, h.glb.later nx⟩
  · rw [hn, henv]; exact h.env.later nx
  · rw [hlb, hlt, hfr]; exact h.frs.later nx h.lb h.lt
  · obtain ⟨h1, h2⟩ := own b i hi
    refine ⟨h1, ?_⟩
    rcases h2 with h2 | h2
    · exact (h.own b i h2).2
    · exact .inr (Nat.le_trans h.chg.size h2)
theorem Rel.own_b (h : Rel cx m a as s w) {b : Nat} (hb : s.bl b ≠ none) : m.bl b < w.heap.size := (h.own (m.bl b) 0 (.inl ⟨b, hb, rfl⟩)).1
theorem Rel.own_t (h : Rel cx m a as s w) {t g o : Nat} (ha : s.al t) (ht : m.tk t = some (g, o)) : g < w.heap.size := (h.own g o (.inr ⟨t, o, ha, ht, Nat.le_refl _⟩)).1
/-- A NEW BLOCK -/
theorem Rel.new (h : Rel cx m a as s w) {k : Blk} {vs : List Value} {t : TypeId} (hch : Chg noFp w w') (hsz : w.heap.size < w'.heap.size) (hblk : ∀ x', Nx (vx cx m s w) x' → x'.w = w' → BlkR x' w.heap.size k) (_hv : vs = vs) (_ht : t = t) :
    ∃ m', Rel cx m' a as { s with bl := fun b => if b = s.nb then some k else s.bl b, nb := s.nb + 1 } w' ∧ Rep (vx cx m' { s with bl := fun b => if b = s.nb then some k else s.bl b, nb := s.nb + 1 } w') (.ptr s.nb 0) (.pointer (some ⟨w.heap.size, 0, none⟩)) := by
  have hb : ∀ k, k < w.heap.size → w'.heap[k]? = w.heap[k]? := fun k hk => hch.block k hk (fun _ h => h)
  let m' : Mp := { m with bl := fun b => if b = s.nb then w.heap.size else m.bl b }
  let s' : FS := { s with bl := fun b => if b = s.nb then some k else s.bl b, nb := s.nb + 1 }
  have hlt : ∀ b, s.bl b ≠ none → b < s.nb := fun b hb => by
    cases hs : s.bl b with
    | none => exact absurd hs hb
    | some k => exact (h.blks b k hs).1
  have fp : ∀ b i, fpOf m' s' b i → fpOf m s b i ∨ w.heap.size ≤ b := by
    rintro b i (⟨q, hq, rfl⟩ | ⟨t, o, h1, h2, h3⟩)
    · by_cases hqn : q = s.nb
      · right; simp [m', hqn]
      · left
        have hq' : s.bl q ≠ none := by simpa [s', hqn] using hq
        exact .inl ⟨q, hq', by simp [m', hqn]⟩
    · exact .inl (.inr ⟨t, o, h1, h2, h3⟩)
  have nx : Nx (vx cx m s w) (vx cx m' s' w') := by
    refine ⟨hch.mono (fun _ _ h => h.elim), ?_, rfl, fun b hbn => ?_, Nat.le_succ _, Nat.le_refl _, fun t _ ha => ⟨ha, rfl, fun g o hg => hb g (h.own_t ha hg)⟩⟩
    · rintro b i (hM | hf)
      · exact .inl (.inl hM)
      · rcases fp b i hf with h | h
        · exact .inl (.inr h)
        · exact .inr h
    · have : b < s.nb := hbn
      simp [vx, m', Nat.ne_of_lt this]
  refine ⟨m', h.step rfl rfl rfl rfl rfl (hch.mono (fun _ _ h => h.elim)) nx ?_ h.als ?_ h.injt ?_ ?_, ?_⟩
  · intro b q hq
    by_cases hbn : b = s.nb
    · subst hbn
      have hq' : k = q := by simpa [s'] using hq
      subst hq'
      exact ⟨Nat.lt_succ_self _, by simpa [m'] using hblk _ nx rfl⟩
    · have hq' : s.bl b = some q := by simpa [s', hbn] using hq
      obtain ⟨h1, h2⟩ := h.blks b q hq'
      have e1 : m'.bl b = m.bl b := by simp [m', hbn]
      refine ⟨Nat.lt_succ_of_lt h1, ?_⟩
      rw [e1]
      exact h2.later nx (hb _ (h.own_b (by rw [hq']; simp)))
  · intro b b' h1 h2 he
    by_cases hbn : b = s.nb <;> by_cases hbn' : b' = s.nb
    · rw [hbn, hbn']
    · exfalso
      have h2' : s.bl b' ≠ none := by simpa [s', hbn'] using h2
      have := h.own_b h2'
      simp only [m', hbn, if_true, if_neg hbn'] at he
      omega
    · exfalso
      have h1' : s.bl b ≠ none := by simpa [s', hbn] using h1
      have := h.own_b h1'
      simp only [m', hbn', if_true, if_neg hbn] at he
      omega
    · refine h.inj b b' (by simpa [s', hbn] using h1) (by simpa [s', hbn'] using h2) ?_
      simpa [m', hbn, hbn'] using he
  · intro b t g o h1 h2 h3
    by_cases hbn : b = s.nb
    · have := h.own_t h2 h3
      simp only [m', hbn, if_true]
      omega
    · have h1' : s.bl b ≠ none := by simpa [s', hbn] using h1
      have := h.injbt b t g o h1' h2 h3
      simpa [m', hbn] using this
  · intro b i hf
    refine ⟨?_, fp b i hf⟩
    rcases fp b i hf with hh | hh
    · exact Nat.lt_of_lt_of_le (h.own b i hh).1 hch.size
    · rcases hf with ⟨q, hq, rfl⟩ | ⟨t, o, h1, h2, h3⟩
      · by_cases hqn : q = s.nb
        · simp [m', hqn, hsz]
        · have hq' : s.bl q ≠ none := by simpa [s', hqn] using hq
          have := h.own_b hq'
          simp only [m', if_neg hqn]
          omega
      · exact Nat.lt_of_lt_of_le (h.own_t h1 h2) hch.size
  · simp only [Rep]
    exact ⟨Nat.lt_succ_self _, by simp [vx, m']⟩
/-- A BLOCK IS WRITTEN -/
theorem Rel.write (h : Rel cx m a as s w) {b : Nat} {k0 k : Blk} (hb0 : s.bl b = some k0) (hch : Chg (fun c _ => c = m.bl b) w w') (hblk : ∀ x', Nx (vx cx m s w) x' → x'.w = w' → BlkR x' (m.bl b) k) : Rel cx m a as { s with bl := fun c => if c = b then some k else s.bl c } w' := by
  have hne : s.bl b ≠ none := by rw [hb0]; simp
  have hiff : ∀ c, (if c = b then some k else s.bl c) ≠ none ↔ s.bl c ≠ none := fun c => by
    by_cases hc : c = b
    · subst hc; simp [hne]
    · simp [hc]
  let s' : FS := { s with bl := fun c => if c = b then some k else s.bl c }
  have fp : ∀ c i, fpOf m s' c i ↔ fpOf m s c i := fun c i => by
    constructor
    · rintro (⟨q, hq, rfl⟩ | hh)
      · exact .inl ⟨q, (hiff q).1 hq, rfl⟩
      · exact .inr hh
    · rintro (⟨q, hq, rfl⟩ | hh)
      · exact .inl ⟨q, (hiff q).2 hq, rfl⟩
      · exact .inr hh
  have hother : ∀ c, c < w.heap.size → c ≠ m.bl b → w'.heap[c]? = w.heap[c]? := fun c hc hcb => hch.block c hc (fun _ h => hcb h)
  have hch' : Chg (fpOf m s) w w' := hch.mono fun c i hc => .inl ⟨b, hne, hc.symm⟩
  have nx : Nx (vx cx m s w) (vx cx m s' w') := by
    refine ⟨hch'.mono (fun _ _ h => .inr h), ?_, rfl, fun _ _ => rfl, Nat.le_refl _, Nat.le_refl _, fun t _ ha => ⟨ha, rfl, fun g o hg => hother g (h.own_t ha hg) (fun e => h.injbt b t g o hne ha hg e.symm)⟩⟩
    rintro c i (hM | hf)
    · exact .inl (.inl hM)
    · exact .inl (.inr ((fp c i).1 hf))
  refine h.step rfl rfl rfl rfl rfl hch' nx ?_ h.als (fun c c' h1 h2 => h.inj c c' ((hiff c).1 h1) ((hiff c').1 h2)) h.injt (fun c t g o h1 => h.injbt c t g o ((hiff c).1 h1)) (fun c i hf => ?_)
  · intro c q hq
    by_cases hc : c = b
    · subst hc
      have hq' : k = q := by simpa [s'] using hq
      subst hq'
      exact ⟨(h.blks c k0 hb0).1, hblk _ nx rfl⟩
    · have hq' : s.bl c = some q := by simpa [s', hc] using hq
      obtain ⟨h1, h2⟩ := h.blks c q hq'
      exact ⟨h1, h2.later nx (hother _ (h.own_b (by rw [hq']; simp)) (fun e => hc (h.inj c b (by rw [hq']; simp) hne e)))⟩
  · have := (fp c i).1 hf
    exact ⟨Nat.lt_of_lt_of_le (h.own c i this).1 hch.size, .inl this⟩
/-- A RIGHT TO APPEND IS MADE (t0: the one that it takes the place of) -/
theorem Rel.right (h : Rel cx m a as s w) {t0 : Option Nat} {p : Option (Nat × Nat)} (hch : Chg (fun b i => ∃ t o, t0 = some t ∧ s.al t ∧ m.tk t = some (b, o) ∧ o ≤ i) w w')
    (hp : ∀ g o, p = some (g, o) → g < w'.heap.size ∧ (w.heap.size ≤ g ∨ ∃ t o', t0 = some t ∧ s.al t ∧ m.tk t = some (g, o') ∧ o' ≤ o)) :
    Rel cx { m with tk := fun t => if t = s.nt then p else m.tk t } a as { s with al := fun t => (s.al t ∧ t0 ≠ some t) ∨ t = s.nt, nt := s.nt + 1 } w' ∧ Nx (vx cx m s w) (vx cx { m with tk := fun t => if t = s.nt then p else m.tk t } { s with al := fun t => (s.al t ∧ t0 ≠ some t) ∨ t = s.nt, nt := s.nt + 1 } w') := by
  let m' : Mp := { m with tk := fun t => if t = s.nt then p else m.tk t }
  let s' : FS := { s with al := fun t => (s.al t ∧ t0 ≠ some t) ∨ t = s.nt, nt := s.nt + 1 }
  have hch' : Chg (fpOf m s) w w' := hch.mono fun b i ⟨t, o, _, h1, h2, h3⟩ => .inr ⟨t, o, h1, h2, h3⟩
  have hother : ∀ c, c < w.heap.size → (∀ t o, t0 = some t → s.al t → m.tk t = some (c, o) → False) → w'.heap[c]? = w.heap[c]? := fun c hc hn => hch.block c hc (fun i ⟨t, o, h1, h2, h3, _⟩ => hn t o h1 h2 h3)
  have old : ∀ t, s'.al t → t ≠ s.nt → s.al t ∧ t0 ≠ some t ∧ m'.tk t = m.tk t := fun t ht hne => by
    rcases ht with ht | ht
    · exact ⟨ht.1, ht.2, by simp [m', hne]⟩
    · exact absurd ht hne
  have hnew : m'.tk s.nt = p := by simp [m']
  have fp : ∀ b i, fpOf m' s' b i → fpOf m s b i ∨ w.heap.size ≤ b := by
    rintro b i (⟨q, hq, rfl⟩ | ⟨t, o, h1, h2, h3⟩)
    · exact .inl (.inl ⟨q, hq, rfl⟩)
    · by_cases ht : t = s.nt
      · subst ht
        rw [hnew] at h2
        rcases (hp b o h2).2 with hh | ⟨t, o', _, g1, g2, g3⟩
        · exact .inr hh
        · exact .inl (.inr ⟨t, o', g1, g2, Nat.le_trans g3 h3⟩)
      · obtain ⟨g1, _, g3⟩ := old t h1 ht
        rw [g3] at h2
        exact .inl (.inr ⟨t, o, g1, h2, h3⟩)
  have nx : Nx (vx cx m s w) (vx cx m' s' w') := by
    refine ⟨hch'.mono (fun _ _ h => .inr h), ?_, rfl, fun _ _ => rfl, Nat.le_refl _, Nat.le_succ _, fun t ht ha => ?_⟩
    · rintro b i (hM | hf)
      · exact .inl (.inl hM)
      · rcases fp b i hf with h | h
        · exact .inl (.inr h)
        · exact .inr h
    · have ht : t < s.nt := ht
      obtain ⟨g1, g2, g3⟩ := old t ha (Nat.ne_of_lt ht)
      exact ⟨g1, g3, fun g o hg => hother g (h.own_t g1 hg) (fun t' o' e1 e2 e3 => g2 (by rw [e1, h.injt t' t g o' o e2 g1 e3 hg]))⟩
  refine ⟨h.step rfl rfl rfl rfl rfl hch' nx ?_ ?_ h.inj ?_ ?_ ?_, nx⟩
  · intro b k hk
    obtain ⟨h1, h2⟩ := h.blks b k hk
    have hbn : s.bl b ≠ none := by rw [show s.bl b = some k from hk]; simp
    exact ⟨h1, h2.later nx (hother _ (h.own_b hbn) (fun t o _ e2 e3 => h.injbt b t _ o hbn e2 e3 rfl))⟩
  · rintro t (⟨h1, _⟩ | rfl)
    · exact Nat.lt_succ_of_lt (h.als t h1)
    · exact Nat.lt_succ_self _
  · intro t t' g o o' h1 h2 h3 h4
    by_cases ht : t = s.nt <;> by_cases ht' : t' = s.nt
    · rw [ht, ht']
    · exfalso
      subst ht
      rw [hnew] at h3
      obtain ⟨g1, g2, g3⟩ := old t' h2 ht'
      rw [g3] at h4
      rcases (hp g o h3).2 with hh | ⟨t, o2, e1, e2, e3, _⟩
      · have := h.own_t g1 h4; omega
      · exact g2 (by rw [e1, h.injt t t' g o2 o' e2 g1 e3 h4])
    · exfalso
      subst ht'
      rw [hnew] at h4
      obtain ⟨g1, g2, g3⟩ := old t h1 ht
      rw [g3] at h3
      rcases (hp g o' h4).2 with hh | ⟨t', o2, e1, e2, e3, _⟩
      · have := h.own_t g1 h3; omega
      · exact g2 (by rw [e1, h.injt t' t g o2 o e2 g1 e3 h3])
    · obtain ⟨g1, _, g3⟩ := old t h1 ht
      obtain ⟨k1, _, k3⟩ := old t' h2 ht'
      rw [g3] at h3
      rw [k3] at h4
      exact h.injt t t' g o o' g1 k1 h3 h4
  · intro b t g o h1 h2 h3
    by_cases ht : t = s.nt
    · subst ht
      rw [hnew] at h3
      rcases (hp g o h3).2 with hh | ⟨t, o2, _, e2, e3, _⟩
      · have := h.own_b h1; show m.bl b ≠ g; omega
      · exact h.injbt b t g o2 h1 e2 e3
    · obtain ⟨g1, _, g3⟩ := old t h2 ht
      rw [g3] at h3
      exact h.injbt b t g o h1 g1 h3
  · intro b i hf
    refine ⟨?_, fp b i hf⟩
    rcases hf with ⟨q, hq, rfl⟩ | ⟨t, o, h1, h2, h3⟩
    · exact Nat.lt_of_lt_of_le (h.own_b hq) hch.size
    · by_cases ht : t = s.nt
      · subst ht
        rw [hnew] at h2
        exact (hp b o h2).1
      · obtain ⟨g1, _, g3⟩ := old t h1 ht
        rw [g3] at h2
        exact Nat.lt_of_lt_of_le (h.own_t g1 h2) hch.size
end
end Go.Ax
