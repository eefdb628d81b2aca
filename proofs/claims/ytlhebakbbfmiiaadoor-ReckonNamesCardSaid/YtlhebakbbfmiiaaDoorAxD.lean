/- Ax, part D: states: what the machine's state says of slots and memory; operands. -/
import Derived.Test.YtlhebakbbfmiiaaDoorAxC
import Derived.Test.YtlhebakbbfmiiaaDoorSxJ
namespace Go.Ax
open Go.RowKit

/-- The fixed things of a run: the program; the world at the call's begin; what was lent for writing; what no fact may lean on; the types of elements. -/
structure Cx where
  P : Program
  w0 : World
  I : Fp
  M : Fp
  el : Ck → TypeId
  gl : Nat → Option Gv
/-- the state as functions -/
structure FS where
  n : Nat
  env : Nat → Option D
  lb : Nat
  lt : Nat
  fr : List Fr
  bl : Nat → Option Blk
  nb : Nat
  al : Nat → Prop
  nt : Nat
def fs (st : St) : FS := ⟨st.n, get st.env, st.lb, st.lt, st.fr, blk st.bl, st.nb, fun t => t ∈ st.tk, st.nt⟩
def fpOf (m : Mp) (s : FS) : Fp := fun b i => (∃ k, s.bl k ≠ none ∧ m.bl k = b) ∨ ∃ t o, s.al t ∧ m.tk t = some (b, o) ∧ o ≤ i
def vx (cx : Cx) (m : Mp) (s : FS) (w : World) : Vx := ⟨m, s.al, fun b i => cx.M b i ∨ fpOf m s b i, w, s.nb, s.nt, cx.el⟩
structure EnvR (x : Vx) (n : Nat) (env : Nat → Option D) (a : Act) : Prop where
  defers : a.defers = []
  size : a.tmps.size = n
  get : ∀ k d, env k = some d → ∃ v, a.tmps[k]? = some v ∧ Rep x d v
def FrsR (x : Vx) : Nat → Nat → List Fr → List Act → Prop
  | _, _, [], as => as = []
  | lb, lt, f :: fs, as => ∃ a r, as = a :: r ∧ f.lb ≤ lb ∧ f.lt ≤ lt ∧ EnvR { x with nb := lb, nt := lt } f.n (get f.env) a ∧ FrsR x f.lb f.lt fs r
def BlkR (x : Vx) (β : Nat) : Blk → Prop
  | .cells ds => ds.all lf = true ∧ ∃ (vs : List Value) (t : TypeId), x.w.heap[β]? = some (.cells vs.toArray t (0, 0)) ∧ Reps x ds vs
  | .box c y => agg? c = true ∧ ∃ (vs : List Value) (t : TypeId), x.w.heap[β]? = some (.cells vs.toArray t (0, 0)) ∧ vs.length = csz c ∧ ∀ (j : Nat) d, (enc c y)[j]? = some d → ∃ u, vs[j]? = some u ∧ RF x.S x.w d u
  | .row c n xs => xs.length = n ∧ ∃ (vs : List Value) (t : TypeId), x.w.heap[β]? = some (.cells vs.toArray t (0, 0)) ∧ vs.length = xs.length * csz c ∧ ∀ i y j d, xs[i]? = some y → (enc c y)[j]? = some d → ∃ u, vs[i * csz c + j]? = some u ∧ RF x.S x.w d u
/-- package-level variables -/
def GlR (x : Vx) (gl : Nat → Option Gv) : Prop := (∀ g c xs, gl g = some (.arr c xs) → ∀ i y, xs[i]? = some y → ∀ w', Chg x.S x.w w' → At w' c y g (i * csz c)) ∧ ∀ g l, gl g = some (.map l) → ∃ r es clk, (∀ w', Chg x.S x.w w' → w'.cell? ⟨g, 0, none⟩ = some (.map (some r)) ∧ w'.heap[r]? = some (.map es clk)) ∧ MapIs l es.toList
/-- THE STATE AND THE WORLD. -/
structure Rel (cx : Cx) (m : Mp) (a : Act) (as : List Act) (s : FS) (w : World) : Prop where
  chg : Chg cx.I cx.w0 w
  env : EnvR (vx cx m s w) s.n s.env a
  frs : FrsR (vx cx m s w) s.lb s.lt s.fr as
  lb : s.lb ≤ s.nb
  lt : s.lt ≤ s.nt
  blks : ∀ b k, s.bl b = some k → b < s.nb ∧ BlkR (vx cx m s w) (m.bl b) k
  als : ∀ t, s.al t → t < s.nt
  inj : ∀ b b', s.bl b ≠ none → s.bl b' ≠ none → m.bl b = m.bl b' → b = b'
  injt : ∀ t t' g o o', s.al t → s.al t' → m.tk t = some (g, o) → m.tk t' = some (g, o') → t = t'
  injbt : ∀ b t g o, s.bl b ≠ none → s.al t → m.tk t = some (g, o) → m.bl b ≠ g
  own : ∀ b i, fpOf m s b i → b < w.heap.size ∧ (cx.I b i ∨ cx.w0.heap.size ≤ b)
  away : ∀ b i j, cx.M b i → b < cx.w0.heap.size ∧ ¬ cx.I b j
  glb : GlR (vx cx m s w) cx.gl
/-! ## going on -/
theorem EnvR.later {x x' : Vx} (h : Nx x x') {n : Nat} {env : Nat → Option D} {a : Act} (hr : EnvR x n env a) : EnvR x' n env a :=
  ⟨hr.defers, hr.size, fun k d hk => by obtain ⟨v, hv, hd⟩ := hr.get k d hk; exact ⟨v, hv, Rep.later h d v hd⟩⟩
theorem Nx.low {x x' : Vx} (h : Nx x x') {lb lt : Nat} (h1 : lb ≤ x.nb) (h2 : lt ≤ x.nt) : Nx { x with nb := lb, nt := lt } { x' with nb := lb, nt := lt } :=
  ⟨h.chg, h.fp, h.el, fun b hb => h.bl b (Nat.lt_of_lt_of_le hb h1), Nat.le_refl _, Nat.le_refl _, fun t ht ha => h.tk t (Nat.lt_of_lt_of_le ht h2) ha⟩
theorem FrsR.later {x x' : Vx} (h : Nx x x') : ∀ {frs : List Fr} {as : List Act} {lb lt : Nat}, lb ≤ x.nb → lt ≤ x.nt → FrsR x lb lt frs as → FrsR x' lb lt frs as
  | [], _, _, _, _, _, hr => hr
  | f :: frs, as, lb, lt, h1, h2, hr => by
    obtain ⟨a, r, e, h3, h4, he, hf⟩ := hr
    exact ⟨a, r, e, h3, h4, he.later (h.low h1 h2), FrsR.later h (Nat.le_trans h3 h1) (Nat.le_trans h4 h2) hf⟩
theorem BlkR.later {x x' : Vx} (h : Nx x x') {β : Nat} (hb : x'.w.heap[β]? = x.w.heap[β]?) : ∀ {k : Blk}, BlkR x β k → BlkR x' β k
  | .cells ds, ⟨hl, vs, t, hh, hr⟩ => ⟨hl, vs, t, by rw [hb]; exact hh, Reps.later h ds vs hr⟩
  | .box c y, ⟨ha, vs, t, hh, hl, hr⟩ => ⟨ha, vs, t, by rw [hb]; exact hh, hl, fun j d hd => by obtain ⟨u, hu, hf⟩ := hr j d hd; exact ⟨u, hu, h.rf hf⟩⟩
  | .row c n xs, ⟨hn, vs, t, hh, hl, hr⟩ => ⟨hn, vs, t, by rw [hb]; exact hh, hl, fun i y j d hy hd => by obtain ⟨u, hu, hf⟩ := hr i y j d hy hd; exact ⟨u, hu, h.rf hf⟩⟩
theorem GlR.later {x x' : Vx} (h : Nx x x') {gl : Nat → Option Gv} (hg : GlR x gl) : GlR x' gl := ⟨fun g c xs hx i y hy w' hw => hg.1 g c xs hx i y hy w' (h.chg.later h.fp hw), fun g l hl => by obtain ⟨r, es, clk, h1, h2⟩ := hg.2 g l hl; exact ⟨r, es, clk, fun w' hw => h1 w' (h.chg.later h.fp hw), h2⟩⟩
theorem Rel.disj {cx : Cx} {m : Mp} {a : Act} {as : List Act} {s : FS} {w : World} (h : Rel cx m a as s w) {b i j : Nat} (hm : cx.M b i) (ho : fpOf m s b j) : False := by
  obtain ⟨h1, h2⟩ := h.away b i j hm
  rcases (h.own b j ho).2 with hi | hi
  · exact h2 hi
  · omega
/-- the world changes, the state does not: no block of the call's own is touched -/
theorem Rel.quiet {cx : Cx} {m : Mp} {a : Act} {as : List Act} {s : FS} {w w' : World} (h : Rel cx m a as s w) (hc : Chg noFp w w') : Rel cx m a as s w' := by
  have hb : ∀ k, k < w.heap.size → w'.heap[k]? = w.heap[k]? := fun k hk => hc.block k hk (fun _ h => h)
  have nx : Nx (vx cx m s w) (vx cx m s w') := ⟨hc.mono (fun _ _ h => h.elim), fun b i hi => .inl hi, rfl, fun _ _ => rfl, Nat.le_refl _, Nat.le_refl _, fun t _ ha => ⟨ha, rfl, fun g o hg => hb g (h.own g o (.inr ⟨t, o, ha, hg, Nat.le_refl _⟩)).1⟩⟩
  refine ⟨h.chg.trans (hc.mono (fun _ _ h => h.elim)), h.env.later nx, h.frs.later nx h.lb h.lt, h.lb, h.lt, fun b k hk => ?_, h.als, h.inj, h.injt, h.injbt, fun b i hi => ?_, h.away, h.glb.later nx⟩
  · obtain ⟨h1, h2⟩ := h.blks b k hk
    exact ⟨h1, h2.later nx (hb _ (h.own (m.bl b) 0 (.inl ⟨b, by rw [hk]; simp, rfl⟩)).1)⟩
  · obtain ⟨h1, h2⟩ := h.own b i hi
    exact ⟨Nat.lt_of_lt_of_le h1 hc.size, h2⟩
/-- a slot is written -/
theorem EnvR.put {x : Vx} {n : Nat} {env : Nat → Option D} {a : Act} (h : EnvR x n env a) {k : Nat} (hk : k < n) {d : D} {v : Value} (hd : Rep x d v) : EnvR x n (fun j => if j = k then some d else env j) (a.put (some k) v) := by
  refine ⟨by simpa [Act.put] using h.defers, by simpa [Act.put] using h.size, fun j e he => ?_⟩
  by_cases hj : j = k
  · subst hj
    simp only [if_true, Option.some.injEq] at he
    subst he
    have : j < a.tmps.size := by rw [h.size]; exact hk
    exact ⟨v, by simp [Act.put, this], hd⟩
  · simp only [if_neg hj] at he
    obtain ⟨u, hu, hr⟩ := h.get j e he
    refine ⟨u, ?_, hr⟩
    simp only [Act.put]
    rw [Array.getElem?_setIfInBounds_ne (Ne.symm hj)]
    exact hu
def FS.put (s : FS) (k : Nat) (d : D) : FS := { s with env := fun j => if j = k then some d else s.env j }
theorem beq_ne {a b : Nat} (h : a ≠ b) : Nat.beq a b = false := by
  cases hb : Nat.beq a b with
  | true => exact absurd (Nat.eq_of_beq_eq_true hb) h
  | false => rfl
theorem get_cons (e : Env) (k j : Nat) (d : D) : get ((k, d) :: e) j = if j = k then some d else get e j := by
  simp only [get]
  by_cases h : j = k
  · subst h; simp
  · have : Nat.beq k j = false := beq_ne (Ne.symm h)
    simp [this, h]
theorem fs_put (st : St) (k : Nat) (d : D) : fs (st.put k d) = (fs st).put k d := by
  simp only [fs, St.put, FS.put, FS.mk.injEq, and_true, true_and]
  funext j
  exact get_cons st.env k j d
theorem Rel.put {cx : Cx} {m : Mp} {a : Act} {as : List Act} {s : FS} {w : World} (h : Rel cx m a as s w) {k : Nat} (hk : k < s.n) {d : D} {v : Value} (hd : Rep (vx cx m s w) d v) : Rel cx m (a.put (some k) v) as (s.put k d) w :=
  ⟨h.chg, h.env.put hk hd, h.frs, h.lb, h.lt, h.blks, h.als, h.inj, h.injt, h.injbt, h.own, h.away, h.glb⟩

/-! ## operands -/
/-- all slots of an activation -/
def full (a : Act) : Sx.Env := (List.range a.tmps.size).map fun k => (k, a.tmps.getD k undef)
theorem full_get {a : Act} {k : Nat} {v : Value} (h : a.tmps[k]? = some v) : Sx.Env.get (full a) k = some v := by
  have hlt : k < a.tmps.size := (Array.getElem?_eq_some_iff.1 h).1
  have key : ∀ (n b : Nat), b ≤ k → k < b + n → Sx.Env.get ((List.range' b n).map fun k => (k, a.tmps.getD k undef)) k = some v := by
    intro n
    induction n with
    | zero => intro b h1 h2; omega
    | succ n ih =>
      intro b h1 h2
      simp only [List.range'_succ, List.map_cons, Sx.Env.get]
      by_cases hb : b = k
      · subst hb; simp [Array.getD_eq_getD_getElem?, h]
      · have : Nat.beq b k = false := beq_ne hb
        simp only [this]
        exact ih (b + 1) (by omega) (by omega)
  have := key a.tmps.size 0 (Nat.zero_le _) (by omega)
  simpa [full, List.range_eq_range'] using this
theorem full_ok {a : Act} (h : a.defers = []) : Sx.EnvOk a.tmps.size (full a) a := by
  refine ⟨h, rfl, fun k v hk => ?_⟩
  have key : ∀ (l : List Nat), Sx.Env.get (l.map fun k => (k, a.tmps.getD k undef)) k = some v → k ∈ l ∧ v = a.tmps.getD k undef := by
    intro l
    induction l with
    | nil => intro h; simp [Sx.Env.get] at h
    | cons b l ih =>
      intro h
      simp only [List.map_cons, Sx.Env.get] at h
      by_cases hb : b = k
      · subst hb
        simp at h
        exact ⟨by simp, by rw [← h]; simp [Array.getD_eq_getD_getElem?]⟩
      · have : Nat.beq b k = false := beq_ne hb
        simp only [this] at h
        obtain ⟨h1, h2⟩ := ih h
        exact ⟨by simp [h1], h2⟩
  obtain ⟨h1, h2⟩ := key _ hk
  simp only [List.mem_range] at h1
  rw [h2]
  simp [Array.getD_eq_getD_getElem?, h1]
section
variable {R : Type} (px : Px R)
def evF (env : Nat → Option D) (t : Nat) : Operand → Option D
  | .tmp i => env i
  | .const v => cst (px.tt t) v
  | .global g => some (.gp g)
  | .func f => some (.fn f [])
theorem ev_eq (st : St) (t : Nat) (x : Operand) : ev px st t x = evF px (get st.env) t x := by cases x <;> rfl
end
theorem strOk_len {s : ByteArray} (h : strOk s = true) : s.data.toList.length ≤ maxLen := by
  have : s.data.toList.length ≤ 1048576 := Nat.le_of_ble_eq_true h
  simp only [maxLen]
  omega
theorem cst1_rep {x : Vx} {z d : D} {v : Value} (h : cst1 z v = some d) : Rep x d v ∧ lf d = true := by
  unfold cst1 at h
  split at h
  · split at h
    · simp only [Option.some.injEq] at h
      subst h
      rename_i hu
      exact ⟨by simp only [Rep]; exact ⟨trivial, hu⟩, rfl⟩
    · cases h
  · simp only [Option.some.injEq] at h; subst h
    exact ⟨by simp only [Rep], rfl⟩
  · split at h
    · rename_i hs
      simp only [Option.some.injEq] at h; subst h
      exact ⟨by simp only [Rep, Array.toArray_toList]; exact ⟨trivial, strOk_len hs⟩, rfl⟩
    · cases h
  all_goals simp only [Option.some.injEq, reduceCtorEq] at h
  all_goals subst h
  · exact ⟨by simp only [Rep]; exact ⟨fun _ _ => .nil _ _ _ _, by simp [TkR]⟩, rfl⟩
  · exact ⟨by simp only [Rep], rfl⟩
  · exact ⟨by simp only [Rep], rfl⟩
theorem cstL_rep {x : Vx} : ∀ {zs ds : List D} {vs : List Value}, cstL zs vs = some ds → Reps x ds vs ∧ ds.all lf = true
  | [], ds, [], h => by simp only [cstL, Option.some.injEq] at h; subst h; simp [Reps]
  | z :: zs, ds, v :: vs, h => by
    simp only [cstL] at h
    split at h
    · rename_i d hd
      split at h
      · rename_i ds' hds
        simp only [Option.some.injEq] at h
        subst h
        have h1 := cst1_rep (x := x) hd
        have h2 := cstL_rep (x := x) hds
        exact ⟨by simp only [Reps]; exact ⟨v, vs, rfl, h1.1, h2.1⟩, by simp [h1.2, h2.2]⟩
      · cases h
    · cases h
  | [], ds, v :: vs, h => by simp [cstL] at h
  | z :: zs, ds, [], h => by simp [cstL] at h
theorem cst_rep {x : Vx} {t : Ty} {v : Value} {d : D} (h : cst t v = some d) : Rep x d v := by
  unfold cst at h
  split at h
  · split at h
    · rename_i hu
      simp only [Option.some.injEq] at h
      subst h
      simp only [Rep]
      exact ⟨trivial, hu⟩
    · cases h
  · simp only [Option.some.injEq] at h; subst h; simp only [Rep]
  · split at h
    · rename_i hs; simp only [Option.some.injEq] at h; subst h; simp only [Rep, Array.toArray_toList]; exact ⟨trivial, strOk_len hs⟩
    · cases h
  · split at h
    · simp only [Option.some.injEq] at h; subst h; simp only [Rep]; exact ⟨fun _ _ => .nil _ _ _ _, by simp [TkR]⟩
    · cases h
  · simp only [Option.some.injEq] at h; subst h; simp only [Rep]
  · simp only [Option.some.injEq] at h; subst h; simp only [Rep]
  · split at h
    · split at h
      · rename_i ds hds
        simp only [Option.some.injEq] at h
        subst h
        have h2 := cstL_rep (x := x) hds
        simp only [Rep]
        exact ⟨h2.2, _, by simp, h2.1⟩
      · cases h
    · cases h
  · cases h
/-- what an operand is -/
theorem EnvR.ev {R : Type} {px : Px R} {x : Vx} {n : Nat} {env : Nat → Option D} {a : Act} (h : EnvR x n env a) {t : Nat} {o : Operand} {d : D} (he : evF px env t o = some d) : ∃ v, Sx.Env.ev (full a) o = some v ∧ a.eval o = v ∧ Rep x d v := by
  cases o with
  | tmp k =>
    obtain ⟨v, hv, hd⟩ := h.get k d he
    exact ⟨v, full_get hv, by simp [Act.eval, Array.getD_eq_getD_getElem?, hv], hd⟩
  | const v => exact ⟨v, rfl, rfl, cst_rep he⟩
  | global g => simp only [evF, Option.some.injEq] at he; subst he; exact ⟨_, rfl, rfl, by simp only [Rep]⟩
  | func f => simp only [evF, Option.some.injEq] at he; subst he; exact ⟨_, rfl, rfl, by simp only [Rep]; exact ⟨[], rfl, by simp [Reps]⟩⟩
end Go.Ax
