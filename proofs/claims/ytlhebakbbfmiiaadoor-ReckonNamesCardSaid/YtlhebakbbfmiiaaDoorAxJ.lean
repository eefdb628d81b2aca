/- Ax, part J: AN OPERATION THAT LEAVES ALL ELSE AS IT IS: what the machine says of it is so. -/
import Derived.Test.YtlhebakbbfmiiaaDoorAxI
namespace Go.Ax
open Go.RowKit
section
variable {R : Type} {px : Px R} {cx : Cx}
/-- does it read blocks of the call's own? -/
def memRd : Op → Bool
  | .load _ _ => true
  | _ => false
/-- what bl says of the blocks that there are holds in s -/
def Agr (bl : Nat → Option Blk) (s : FS) : Prop := ∀ b k, bl b = some k → b < s.nb → s.bl b = some k
theorem loadF_agr {bl : Nat → Option Blk} {s : FS} {m : Mp} {w : World} {t : Ty} {p d : D} {v : Value} (ha : Agr bl s) (h : loadF px bl t p = some d) (hv : Rep (vx cx m s w) p v) : loadF px s.bl t p = some d := by
  cases p with
  | ptr b off =>
    simp only [Rep] at hv
    simp only [loadF] at h ⊢
    cases hb : bl b with
    | none => rw [hb] at h; cases h
    | some k => rw [ha b k hb hv.1, ← hb]; exact h
  | rp b c n i =>
    simp only [Rep] at hv
    simp only [loadF] at h ⊢
    cases hb : bl b with
    | none => rw [hb] at h; cases h
    | some k => rw [ha b k hb hv.1, ← hb]; exact h
  | _ => exact h
/-- In every state that agrees on what the operation looks at it yields d, and changes nothing. -/
def Quiet (cx : Cx) (px : Px R) (o : Oper) (env : Nat → Option D) (bl : Nat → Option Blk) (d : D) : Prop :=
  ∀ (s : FS) (m : Mp) (a : Act) (as : List Act) (w : World), (∀ t x, x ∈ o.op.operands → evF px s.env t x = evF px env t x) → (memRd o.op = true → Agr bl s) → Rel cx m a as s w → ∃ v, (execOp a.eval o).run cx.P w = .ok (.value v) w ∧ Rep (vx cx m s w) d v
theorem isSl_spec {t : Ty} {c : Ck} (h : t.isSl c = true) : t = .sl c := by
  cases t <;> simp [Ty.isSl] at h
  rw [h]
theorem isStr_spec {t : Ty} (h : t.isStr = true) : t = .str := by cases t <;> simp [Ty.isStr] at h; rfl
/-- an operation by a law on what it yields whatever the world -/
theorem quiet_pure {o : Oper} {env : Nat → Option D} {bl : Nat → Option Blk} {d : D} (h : ∀ (s : FS) (m : Mp) (a : Act) (as : List Act) (w : World), (∀ t x, x ∈ o.op.operands → evF px s.env t x = evF px env t x) → (memRd o.op = true → Agr bl s) → Rel cx m a as s w → ∃ v, Sx.Pure cx.P (full a) o.op v ∧ Rep (vx cx m s w) d v) : Quiet cx px o env bl d := by
  intro s m a as w h1 h2 hr
  obtain ⟨v, hp, hv⟩ := h s m a as w h1 h2 hr
  exact ⟨v, hp _ a w o (full_ok hr.env.defers) rfl, hv⟩
theorem chk_some {b : Bool} {x : Option R} {r : R} (h : chk b x = some r) : b = true ∧ x = some r := by
  cases b
  · simp [chk] at h
  · exact ⟨rfl, by simpa [chk] using h⟩
theorem evps_get {env : Nat → Option D} {x : Vx} {n : Nat} {a : Act} (he : EnvR x n env a) {st : St} {t : Nat} : ∀ {ps : List (Nat × Operand)} {l : List (Nat × D)}, evps px st t ps = some l → (∀ u o, o ∈ ps.map (·.2) → evF px env u o = ev px st u o) →
    ∃ vs : List (Nat × Value), ps.map (fun p => (p.1, a.eval p.2)) = vs ∧ vs.length = l.length ∧ ∀ (j : Nat) f d, l[j]? = some (f, d) → ∃ v, vs[j]? = some (f, v) ∧ Rep x d v
  | [], l, h, _ => by simp only [evps, Option.some.injEq] at h; subst h; exact ⟨[], rfl, rfl, by simp⟩
  | (i, o) :: ps, l, h, hx => by
    simp only [evps] at h
    split at h
    · cases h
    · rename_i d hd
      split at h
      · cases h
      · rename_i l' hl
        simp only [Option.some.injEq] at h
        subst h
        obtain ⟨vs, h1, h2, h3⟩ := evps_get he hl (fun u o' ho => hx u o' (by simp [ho]))
        rw [← hx _ o (by simp)] at hd
        obtain ⟨v, _, hv, hr⟩ := he.ev hd
        refine ⟨(i, v) :: vs, by simp [hv, h1], by simp [h2], fun j f d' hj => ?_⟩
        cases j with
        | zero => simp at hj; obtain ⟨rfl, rfl⟩ := hj; exact ⟨v, by simp, hr⟩
        | succ j => obtain ⟨u, hu, hr'⟩ := h3 j f d' (by simpa using hj); exact ⟨u, by simpa using hu, hr'⟩
theorem evs_get {env : Nat → Option D} {x : Vx} {n : Nat} {a : Act} (he : EnvR x n env a) {st : St} : ∀ {xs : List Operand} {ts : List Nat} {ds : List D}, evs px st ts xs = some ds → (∀ u o, o ∈ xs → evF px env u o = ev px st u o) → ∃ vs, Sx.Env.evs (full a) xs = some vs ∧ xs.map a.eval = vs ∧ Reps x ds vs
  | [], ts, ds, h, _ => by simp only [evs, Option.some.injEq] at h; subst h; exact ⟨[], rfl, rfl, by simp [Reps]⟩
  | o :: xs, ts, ds, h, hx => by
    simp only [evs] at h
    split at h
    · cases h
    · rename_i d hd
      split at h
      · cases h
      · rename_i ds' hds
        simp only [Option.some.injEq] at h
        subst h
        obtain ⟨vs, h1, h2, h3⟩ := evs_get he hds (fun u o' ho => hx u o' (by simp [ho]))
        rw [← hx _ o (by simp)] at hd
        obtain ⟨v, h4, h5, h6⟩ := he.ev hd
        refine ⟨v :: vs, by simp [Sx.Env.evs, h4, h1], by simp [h5, h2], ?_⟩
        simp only [Reps]
        exact ⟨v, vs, rfl, h6, h3⟩
theorem evrow_get {env : Nat → Option D} {x : Vx} {n : Nat} {a : Act} (he : EnvR x n env a) {st : St} : ∀ {ps : List (Nat × Operand)} {i : Nat} {ds : List D}, evrow px st i ps = some ds → (∀ u o, o ∈ ps.map (·.2) → evF px env u o = ev px st u o) → ∃ vs, ps.map (·.1) = List.range' i ds.length ∧ Sx.Env.evs (full a) (ps.map (·.2)) = some vs ∧ (ps.map (·.2)).map a.eval = vs ∧ Reps x ds vs
  | [], i, ds, h, _ => by simp only [evrow, Option.some.injEq] at h; subst h; exact ⟨[], rfl, rfl, rfl, by simp [Reps]⟩
  | (k, o) :: ps, i, ds, h, hx => by
    simp only [evrow] at h
    split at h
    · rename_i hk
      have hk := Nat.eq_of_beq_eq_true hk
      subst hk
      split at h
      · cases h
      · rename_i d hd
        split at h
        · cases h
        · rename_i ds' hds
          simp only [Option.some.injEq] at h
          subst h
          obtain ⟨vs, h0, h1, h2, h3⟩ := evrow_get he hds (fun u o' ho => hx u o' (by simp [ho]))
          rw [← hx _ o (by simp)] at hd
          obtain ⟨v, h4, h5, h6⟩ := he.ev hd
          refine ⟨v :: vs, by simp [h0, List.range'_succ], by simp [Sx.Env.evs, h4, h1], by simp [h5, h2], ?_⟩
          simp only [Reps]
          exact ⟨v, vs, rfl, h6, h3⟩
    · cases h
/-- what a struct's literal is -/
theorem fillP_run {x : Vx} {s : Nat} {places : Array (Nat × Nat)} (hpl : ∀ f o u, fldT px s f = some (o, u) → u.known = true → places[f]? = some (o, u.n)) : ∀ {l : List (Nat × D)} {z ds : List D} {zv : List Value} {vs : List (Nat × Value)}, fillP px s z l = some ds → CellsR x z zv → z.all lf = true → vs.length = l.length → (∀ (j : Nat) f d, l[j]? = some (f, d) → ∃ v, vs[j]? = some (f, v) ∧ Rep x d v) →
    ∃ cs, Instr.fill (places[·]?) zv.toArray vs = some cs ∧ CellsR x ds cs.toList ∧ ds.all lf = true
  | [], z, ds, zv, vs, h, hz, hl, hlen, _ => by
    simp only [fillP, Option.some.injEq] at h
    subst h
    have : vs = [] := List.eq_nil_of_length_eq_zero (by simpa using hlen)
    subst this
    exact ⟨zv.toArray, rfl, by simpa using hz, hl⟩
  | (f, d) :: l, z, ds, zv, vs, h, hz, hl, hlen, hv => by
    simp only [fillP] at h
    split at h
    · rename_i o u hf
      split at h
      · rename_i hc
        simp only [Bool.and_eq_true] at hc
        obtain ⟨⟨⟨hc1, hc2⟩, hc3⟩, hc4⟩ := hc
        have hc1 := Nat.eq_of_beq_eq_true hc1
        have hc2 : o + (cells d).length ≤ z.length := by simpa using hc2
        cases vs with
        | nil => simp at hlen
        | cons p vs =>
          obtain ⟨v, hv0, hrep⟩ := hv 0 f d (by simp)
          simp only [List.getElem?_cons_zero, Option.some.injEq] at hv0
          subst hv0
          have hcr := rep_cells hrep hc3
          have hpl0 := hpl f o u hf hc4
          obtain ⟨cs, h1, h2, h3⟩ := fillP_run hpl (vs := vs) (zv := Sx.writeAt zv o v.cells.toList) h (write_cellsR _ _ _ _ _ hz hcr hc2) (write_lf _ _ _ hl hc3) (by simpa using hlen) (fun j f' d' hj => by have := hv (j + 1) f' d' (by simpa using hj); simpa using this)
          refine ⟨cs, ?_, h2, h3⟩
          have hsz : v.cells.size = u.n := by rw [← hc1, ← hcr.1]; simp
          have hle : ¬ (o + v.cells.size > zv.toArray.size) := by
            have h5 : v.cells.size = (cells d).length := by rw [← hcr.1]; simp
            simp only [List.size_toArray, hz.1]
            omega
          simp only [Instr.fill, hpl0, hsz, ne_eq, not_true_eq_false, decide_false, Bool.false_or]
          rw [hsz] at hle
          simp only [decide_eq_true_eq, hle, if_false]
          have hfw := foldl_write v.cells.toList zv o 0
          rw [Nat.add_zero] at hfw
          rw [← h1, ← hfw]
          congr 1
          rw [← Array.foldl_toList]
          simp
      · cases h
    · cases h
end
end Go.Ax
