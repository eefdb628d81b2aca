/- Ax, part T: the state at a loop's head. -/
import Derived.Test.YtlhebakbbfmiiaaDoorAxS
namespace Go.Ax
open Go.RowKit
def leafSg : Sg → Bool
  | .sv _ | .rw _ _ => false
  | _ => true
def fixB (nb : Nat) : D → Bool
  | .ptr b _ => Nat.blt b nb
  | .fn _ [] => true
  | .fn _ [.ptr b _] => Nat.blt b nb
  | .gp _ => true
  | .nilp => true
  | _ => false
def sigB (s : Sig) : Bool := (s.fix.all fun p => fixB s.nb p.2) && (s.bl.all fun p => Nat.blt p.1 s.nb && (match p.2 with
  | .cells l => l.all leafSg
  | .one s => !leafSg s)) && Nat.ble s.lb s.nb
def Sh1 (s : Sg) (d : D) : Prop := (leafSg s = true → lf d = true) ∧ (leafSg s = false → (∃ c y, d = .sv c y) ∨ ∃ c n xs, d = .rw c n xs)
def ShL : List Sg → List D → Prop
  | [], ds => ds = []
  | s :: l, ds => ∃ d r, ds = d :: r ∧ Sh1 s d ∧ ShL l r
theorem enc1_sh (i : Nat) : ∀ (s : Sg) (y : den s), Sh1 s (enc1 i s y)
  | .int _, _ => ⟨fun _ => rfl, fun h => (by cases h)⟩
  | .bool, _ => ⟨fun _ => rfl, fun h => (by cases h)⟩
  | .str, _ => ⟨fun _ => rfl, fun h => (by cases h)⟩
  | .sl _ true, _ => ⟨fun _ => rfl, fun h => (by cases h)⟩
  | .sl _ false, _ => ⟨fun _ => rfl, fun h => (by cases h)⟩
  | .sv c, y => ⟨fun h => (by cases h), fun _ => .inl ⟨c, y, rfl⟩⟩
  | .rw c n, xs => ⟨fun h => (by cases h), fun _ => .inr ⟨c, n, xs, rfl⟩⟩
theorem encL_sh : ∀ (i : Nat) (l : List Sg) (x : HV l), ShL l (encL i l x)
  | _, [], _ => rfl
  | i, [a], x => ⟨_, [], rfl, enc1_sh i a x, rfl⟩
  | i, a :: b :: l, (x, y) => ⟨_, _, rfl, enc1_sh i a x, encL_sh (i + 1) (b :: l) y⟩
theorem ShL.len : ∀ {l : List Sg} {ds : List D}, ShL l ds → ds.length = l.length
  | [], ds, h => by simp only [ShL] at h; subst h; rfl
  | s :: l, ds, h => by obtain ⟨d, r, rfl, _, h2⟩ := h; simp [ShL.len h2]
theorem ShL.split : ∀ {l m : List Sg} {ds : List D}, ShL (l ++ m) ds → ShL l (ds.take l.length) ∧ ShL m (ds.drop l.length)
  | [], m, ds, h => by simpa [ShL] using h
  | s :: l, m, ds, h => by
    obtain ⟨d, r, rfl, h1, h2⟩ := h
    obtain ⟨h3, h4⟩ := ShL.split h2
    exact ⟨⟨d, _, by simp, h1, h3⟩, by simpa using h4⟩
theorem ShL.lf : ∀ {l : List Sg} {ds : List D}, ShL l ds → l.all leafSg = true → ds.all lf = true
  | [], ds, h, _ => by simp only [ShL] at h; subst h; rfl
  | s :: l, ds, h, hl => by
    obtain ⟨d, r, rfl, h1, h2⟩ := h
    simp only [List.all_cons, Bool.and_eq_true] at hl ⊢
    exact ⟨h1.1 hl.1, h2.lf hl.2⟩
theorem Reps.split {x : Vx} : ∀ {A B : List D} {vs : List Value}, Reps x (A ++ B) vs → ∃ us ws, vs = us ++ ws ∧ Reps x A us ∧ Reps x B ws
  | [], B, vs, h => ⟨[], vs, rfl, by simp [Reps], h⟩
  | d :: A, B, vs, h => by
    simp only [List.cons_append, Reps] at h
    obtain ⟨u, us, rfl, h1, h2⟩ := h
    obtain ⟨p, q, rfl, h3, h4⟩ := Reps.split h2
    exact ⟨u :: p, q, rfl, by simp only [Reps]; exact ⟨u, p, rfl, h1, h3⟩, h4⟩
theorem Reps.take {x : Vx} {ds : List D} {us ws : List Value} (h : Reps x ds (us ++ ws)) : Reps x (ds.take us.length) us ∧ Reps x (ds.drop us.length) ws := by
  have hl := h.len
  simp only [List.length_append] at hl
  rw [← List.take_append_drop us.length ds] at h
  obtain ⟨p, q, he, h1, h2⟩ := Reps.split h
  have hp : p.length = us.length := by rw [h1.len]; simp; omega
  obtain ⟨rfl, rfl⟩ := List.append_inj he hp.symm
  exact ⟨h1, h2⟩
/-! ## slots -/
theorem gather_reps {x : Vx} {n : Nat} {env : Env} {a : Act} (he : EnvR x n (get env) a) : ∀ {vars : List (Nat × Sg)} {A : List D}, gather env vars = some A → ∃ VA : List Value, Reps x A VA ∧ ∀ (i k : Nat) (s : Sg), vars[i]? = some (k, s) → ∃ v, VA[i]? = some v ∧ a.tmps[k]? = some v
  | [], A, h => by simp only [gather, Option.some.injEq] at h; subst h; exact ⟨[], by simp [Reps], by simp⟩
  | (k0, s0) :: vars, A, h => by
    simp only [gather] at h
    split at h
    · rename_i d ds hd hds
      simp only [Option.some.injEq] at h
      subst h
      obtain ⟨VA, h1, h2⟩ := gather_reps he hds
      obtain ⟨v, hv, hr⟩ := he.get k0 d hd
      refine ⟨v :: VA, by simp only [Reps]; exact ⟨v, VA, rfl, hr, h1⟩, fun i k s hi => ?_⟩
      cases i with
      | zero => simp at hi; obtain ⟨rfl, rfl⟩ := hi; exact ⟨v, by simp, hv⟩
      | succ i => obtain ⟨u, hu, ht⟩ := h2 i k s (by simpa using hi); exact ⟨u, by simpa using hu, ht⟩
    · cases h
theorem zipE_spec : ∀ (vars : List (Nat × Sg)) (E : List D), vars.length ≤ E.length → (zipE vars E).2 = E.drop vars.length ∧ ∀ k d, get (zipE vars E).1 k = some d → ∃ (i : Nat) (s : Sg), vars[i]? = some (k, s) ∧ E[i]? = some d
  | [], E, _ => by
    cases E <;> simp [zipE, get]
  | (k0, s0) :: vars, [], h => by simp at h
  | (k0, s0) :: vars, e :: E, h => by
    obtain ⟨h1, h2⟩ := zipE_spec vars E (by simpa using h)
    simp only [zipE]
    refine ⟨by simpa using h1, fun k d hk => ?_⟩
    rw [get_cons] at hk
    by_cases hkk : k = k0
    · subst hkk
      simp at hk
      subst hk
      exact ⟨0, s0, by simp, by simp⟩
    · rw [if_neg hkk] at hk
      obtain ⟨i, s, h3, h4⟩ := h2 k d hk
      exact ⟨i + 1, s, by simpa using h3, by simpa using h4⟩
theorem get_append (e f : Env) (k : Nat) (d : D) (h : get (e ++ f) k = some d) : get e k = some d ∨ get f k = some d := by
  induction e with
  | nil => exact .inr h
  | cons p e ih =>
    obtain ⟨q, v⟩ := p
    rw [List.cons_append, get_cons] at h
    rw [get_cons]
    by_cases hk : k = q
    · simp only [hk, if_true] at h ⊢; exact .inl h
    · simp only [if_neg hk] at h ⊢; exact ih h
theorem fix_get {env : Env} {nb : Nat} : ∀ {fx : List (Nat × D)} {k : Nat} {d : D}, fixOk env fx = true → (fx.all fun p => fixB nb p.2) = true → get fx k = some d → fixB nb d = true ∧ ∃ d', get env k = some d' ∧ sameFix d d' = true
  | [], k, d, _, _, h => by simp [get] at h
  | (q, v) :: fx, k, d, h1, h2, h => by
    simp only [fixOk] at h1
    simp only [List.all_cons, Bool.and_eq_true] at h2
    rw [get_cons] at h
    split at h1
    · rename_i d' hd'
      simp only [Bool.and_eq_true] at h1
      by_cases hk : k = q
      · subst hk
        simp at h
        subst h
        exact ⟨h2.1, d', hd', h1.1⟩
      · rw [if_neg hk] at h
        exact fix_get h1.2 h2.2 h
    · cases h1
theorem sameFix_rep {x x' : Vx} {d d' : D} {v : Value} (hm : x'.m.bl = x.m.bl) (hb : fixB x'.nb d = true) (h : sameFix d d' = true) (hr : Rep x d' v) : Rep x' d v := by
  unfold sameFix at h
  split at h
  · simp only [Bool.and_eq_true] at h
    obtain rfl := Nat.eq_of_beq_eq_true h.1
    obtain rfl := Nat.eq_of_beq_eq_true h.2
    simp only [Rep] at hr ⊢
    exact ⟨by simpa [fixB, Nat.blt_eq] using hb, by rw [hm]; exact hr.2⟩
  · obtain rfl := Nat.eq_of_beq_eq_true h
    simp only [Rep, Reps] at hr ⊢
    exact hr
  · simp only [Bool.and_eq_true] at h
    obtain rfl := Nat.eq_of_beq_eq_true h.1.1
    obtain rfl := Nat.eq_of_beq_eq_true h.1.2
    obtain rfl := Nat.eq_of_beq_eq_true h.2
    simp only [Rep, Reps] at hr ⊢
    obtain ⟨vs, h1, u, us, h2, h3, h4⟩ := hr
    exact ⟨vs, h1, u, us, h2, ⟨by simpa [fixB, Nat.blt_eq] using hb, by rw [hm]; exact h3.2⟩, h4⟩
  · obtain rfl := Nat.eq_of_beq_eq_true h
    simp only [Rep] at hr ⊢
    exact hr
  · simp only [Rep] at hr ⊢
    exact hr
  · cases h
/-! ## blocks -/
theorem blkR_rep {x : Vx} {β : Nat} {k : Blk} (h : BlkR x β k) : ∃ (vs : List Value) (t : TypeId), x.w.heap[β]? = some (.cells vs.toArray t (0, 0)) ∧ Rep x (blkD k) (.agg vs.toArray) := by
  cases k with
  | cells ds => obtain ⟨h1, vs, t, h2, h3⟩ := h; exact ⟨vs, t, h2, by simp only [blkD, Rep]; exact ⟨h1, vs, rfl, h3⟩⟩
  | box c y => obtain ⟨h1, vs, t, h2, h3, h4⟩ := h; exact ⟨vs, t, h2, by simp only [blkD, Rep]; exact ⟨h1, vs, rfl, h3, h4⟩⟩
  | row c n xs => obtain ⟨h1, vs, t, h2, h3, h4⟩ := h; exact ⟨vs, t, h2, by simp only [blkD, Rep]; exact ⟨h1, vs, rfl, h3, h4⟩⟩
theorem rep_blkR {x : Vx} {β : Nat} {d : D} {vs : List Value} {t : TypeId} (hd : (∃ c y, d = .sv c y) ∨ ∃ c n xs, d = .rw c n xs) (hh : x.w.heap[β]? = some (.cells vs.toArray t (0, 0))) (hr : Rep x d (.agg vs.toArray)) : BlkR x β (unD d) := by
  have inj : ∀ us : List Value, (Value.agg vs.toArray) = .agg us.toArray → vs = us := fun us h => by simpa using h
  rcases hd with ⟨c, y, rfl⟩ | ⟨c, n, xs, rfl⟩
  · simp only [Rep] at hr
    obtain ⟨h0, us, h1, h2, h3⟩ := hr
    obtain rfl := inj us h1
    exact ⟨h0, vs, t, hh, h2, h3⟩
  · simp only [Rep] at hr
    obtain ⟨h0, us, h1, h2, h3⟩ := hr
    obtain rfl := inj us h1
    exact ⟨h0, vs, t, hh, h2, h3⟩
theorem gatherB_reps {x : Vx} {m : Nat → Nat} {stbl : List (Nat × Blk)} (hb : ∀ b k, blk stbl b = some k → BlkR x (m b) k) {nb : Nat} : ∀ {bl : List (Nat × Bs)} {B : List D}, gatherB stbl bl = some B → (bl.all fun p => Nat.blt p.1 nb && (match p.2 with | .cells l => l.all leafSg | .one s => !leafSg s)) = true →
    ∃ VB : List Value, Reps x B VB ∧ ∀ (x' : Vx) (E : List D), x'.w = x.w → ShL ((bl.map (·.2.sgs)).flatten) E → Reps x' E VB → ∀ b k, blk (zipB bl E) b = some k → BlkR x' (m b) k ∧ blk stbl b ≠ none ∧ b < nb
  | [], B, h, _ => by
    simp only [gatherB, Option.some.injEq] at h
    subst h
    exact ⟨[], by simp [Reps], fun x' E _ _ _ b k hk => by simp [zipB, blk] at hk⟩
  | (b0, .cells l) :: bl, B, h, hok => by
    simp only [gatherB] at h
    simp only [List.all_cons, Bool.and_eq_true] at hok
    split at h
    · rename_i ds es hds hes
      split at h
      · rename_i hlen
        have hlen := Nat.eq_of_beq_eq_true hlen
        simp only [Option.some.injEq] at h
        subst h
        obtain ⟨VB, h1, h2⟩ := gatherB_reps hb hes hok.2
        obtain ⟨hlf, vs, t, hh, hreps⟩ := hb b0 _ hds
        refine ⟨vs ++ VB, hreps.append h1, fun x' E hw hsh hr b k hk => ?_⟩
        simp only [List.map_cons, List.flatten_cons, Bs.sgs] at hsh
        obtain ⟨s1, s2⟩ := hsh.split
        have hvl : vs.length = l.length := by rw [hreps.len, hlen]
        obtain ⟨r1, r2⟩ := hr.take
        rw [hvl] at r1 r2
        simp only [zipB] at hk
        rw [blk_cons] at hk
        by_cases hbb : b = b0
        · subst hbb
          simp only [if_true, Option.some.injEq] at hk
          subst hk
          exact ⟨⟨s1.lf hok.1.2, vs, t, by rw [hw]; exact hh, r1⟩, by rw [hds]; simp, by simpa [Nat.blt_eq] using hok.1.1⟩
        · rw [if_neg hbb] at hk
          exact h2 x' _ hw s2 r2 b k hk
      · cases h
    · cases h
  | (b0, .one s) :: bl, B, h, hok => by
    simp only [gatherB] at h
    simp only [List.all_cons, Bool.and_eq_true] at hok
    split at h
    · rename_i k0 es hk0 hes
      simp only [Option.some.injEq] at h
      subst h
      obtain ⟨VB, h1, h2⟩ := gatherB_reps hb hes hok.2
      obtain ⟨vs, t, hh, hrep⟩ := blkR_rep (hb b0 _ hk0)
      refine ⟨.agg vs.toArray :: VB, by simp only [Reps]; exact ⟨_, VB, rfl, hrep, h1⟩, fun x' E hw hsh hr b k hk => ?_⟩
      simp only [List.map_cons, List.flatten_cons, Bs.sgs, List.singleton_append] at hsh
      obtain ⟨d, E', rfl, hs1, hs2⟩ := hsh
      simp only [Reps] at hr
      obtain ⟨u, us, hu, hr1, hr2⟩ := hr
      simp only [List.cons.injEq] at hu
      obtain ⟨rfl, rfl⟩ := hu
      simp only [zipB] at hk
      rw [blk_cons] at hk
      by_cases hbb : b = b0
      · subst hbb
        simp only [if_true, Option.some.injEq] at hk
        subst hk
        exact ⟨rep_blkR (hs1.2 (by simpa using hok.1.2)) (by rw [hw]; exact hh) hr1, by rw [hk0]; simp, by simpa [Nat.blt_eq] using hok.1.1⟩
      · rw [if_neg hbb] at hk
        exact h2 x' _ hw hs2 hr2 b k hk
    · cases h
end Go.Ax
