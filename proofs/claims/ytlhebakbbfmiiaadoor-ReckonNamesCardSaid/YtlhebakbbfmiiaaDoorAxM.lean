/- Ax, part M: regions that draw their order come to what the text's order comes to. -/
import Derived.Test.YtlhebakbbfmiiaaDoorAxL
import Derived.Still
import Derived.Test.YtlhebakbbfmiiaaDoorSxK
namespace Go.Ax
open Go.RowKit

/-- The operation is carried out, and K holds behind it. -/
def Runs (P : Program) (a : Act) (w : World) (o : Oper) (K : Act → World → Prop) : Prop :=
  (∃ v w', (execOp a.eval o).run P w = .ok (.value v) w' ∧ K (a.put o.dst v) w') ∨ (∃ w', (execOp a.eval o).run P w = .ok .skip w' ∧ K (a.put o.dst undef) w') ∨
  ∃ f args w1, (execOp a.eval o).run P w = .ok (.enter f args) w1 ∧ Calls P f args w1 fun en w' => ∃ v, en = .returned v ∧ K (a.put o.dst v) w'
theorem Runs.wp {P : Program} {a : Act} {w : World} {o : Oper} {K : Act → World → Prop} {Q : Exit → Act → World → Prop} (h : Runs P a w o K) : o.wp P a w K Q := by
  unfold Oper.wp
  rcases h with ⟨v, w', h, hk⟩ | ⟨w', h, hk⟩ | ⟨f, args, w1, h, hk⟩
  · rw [h]; exact hk
  · rw [h]; exact hk
  · rw [h]
    simp only [Oper.upon]
    refine hk.mono ?_
    rintro en w' ⟨v, rfl, hk⟩
    exact hk
theorem Runs.mono {P : Program} {a : Act} {w : World} {o : Oper} {K K' : Act → World → Prop} (h : Runs P a w o K) (hk : ∀ a w, K a w → K' a w) : Runs P a w o K' := by
  rcases h with ⟨v, w', h, h1⟩ | ⟨w', h, h1⟩ | ⟨f, args, w1, h, h1⟩
  · exact .inl ⟨v, w', h, hk _ _ h1⟩
  · exact .inr (.inl ⟨w', h, hk _ _ h1⟩)
  · refine .inr (.inr ⟨f, args, w1, h, h1.mono ?_⟩)
    rintro en w' ⟨v, e, h2⟩
    exact ⟨v, e, hk _ _ h2⟩
/-- .. or it is not wanted -/
def Does (P : Program) (ops : Array Oper) (o : Oper) (a : Act) (w : World) (K : Act → World → Prop) : Prop :=
  (Region.wanted o (yielded ops a.tmps) = true ∧ Runs P a w o K) ∨ (Region.wanted o (yielded ops a.tmps) = false ∧ K (a.put o.dst undef) w)
theorem Does.wpOp {P : Program} {ops : Array Oper} {o : Oper} {a : Act} {w : World} {K : Act → World → Prop} {Q : Exit → Act → World → Prop} {i : Nat} (hi : ops[i]? = some o) (h : Does P ops o a w K) : wpOp P ops Q i K a w := by
  unfold Go.wpOp
  simp only [hi]
  rcases h with ⟨h1, h2⟩ | ⟨h1, h2⟩
  · simp only [h1, if_true]
    exact .inl h2.wp
  · simp only [h1, Bool.false_eq_true, if_false]
    exact h2
theorem Does.mono {P : Program} {ops : Array Oper} {o : Oper} {a : Act} {w : World} {K K' : Act → World → Prop} (h : Does P ops o a w K) (hk : ∀ a w, K a w → K' a w) : Does P ops o a w K' :=
  h.imp (fun h => ⟨h.1, h.2.mono hk⟩) (fun h => ⟨h.1, hk _ _ h.2⟩)

/-- does it write memory of the call's own, or make some? -/
def isW (o : Oper) : Bool := match o.op with
  | .store _ _ _ | .alloc _ | .box _ _ => true
  | .call ⟨.builtin .append, _, _⟩ => true
  | _ => false
def tch (o : Oper) : Bool := isW o || memRd o.op
def sameW (s t : FS) : Prop := s.bl = t.bl ∧ s.nb = t.nb ∧ s.al = t.al ∧ s.nt = t.nt
/-- s, with what the operation makes of it; t: the state behind it in the text's order -/
def nextS (o : Oper) (t s : FS) : FS := { s with
  env := match o.dst with
    | some k => fun j => if j = k then t.env k else s.env j
    | none => s.env
  bl := if isW o then t.bl else s.bl
  nb := if isW o then t.nb else s.nb
  al := if isW o then t.al else s.al
  nt := if isW o then t.nt else s.nt }
theorem FS.eq {x y : FS} (h1 : x.n = y.n) (h2 : x.env = y.env) (h3 : x.lb = y.lb) (h4 : x.lt = y.lt) (h5 : x.fr = y.fr) (h6 : x.bl = y.bl) (h7 : x.nb = y.nb) (h8 : x.al = y.al) (h9 : x.nt = y.nt) : x = y := by
  cases x; cases y; simp only at h1 h2 h3 h4 h5 h6 h7 h8 h9; subst_vars; rfl
def isA (o : Oper) : Bool := match o.op with
  | .alloc _ => true
  | _ => false
/-- new blocks alone -/
def GrowA (a c : FS) : Prop := a.nb ≤ c.nb ∧ (∀ b k, a.bl b = some k → c.bl b = some k) ∧ ∀ b k, c.bl b = some k → a.bl b = some k ∨ a.nb ≤ b
/-- do two operations look at, or write, the same memory? A new block is in no reader's way. -/
def clash (p q : Oper) : Bool := (isW p && tch q && !(isA p && !isW q)) || (tch p && isW q && !(isA q && !isW p))
theorem tch_of {o : Oper} (h : isW o = true) : tch o = true := by simp [tch, h]
theorem clash_ww {p q : Oper} (h : clash p q = false) : ¬ (isW p = true ∧ isW q = true) := fun ⟨h1, h2⟩ => by
  simp [clash, h1, h2, tch_of h2] at h
theorem clash_wr {p q : Oper} (h : clash p q = false) (h1 : isW p = true) (h2 : tch q = true) : isA p = true := by
  cases hq : isW q
  · simpa [clash, h1, h2, hq] using h
  · exact absurd ⟨h1, hq⟩ (clash_ww h)
theorem clash_rw {p q : Oper} (h : clash p q = false) (h1 : tch p = true) (h2 : isW q = true) : isA q = true := by
  cases hp : isW p
  · simpa [clash, h1, h2, hp] using h
  · exact absurd ⟨hp, h2⟩ (clash_ww h)
theorem nextS_comm {o p : Oper} {t u s : FS} (hd : ∀ k, o.dst = some k → p.dst ≠ some k) (hw : ¬ (isW o = true ∧ isW p = true)) : nextS o t (nextS p u s) = nextS p u (nextS o t s) := by
  have he : (nextS o t (nextS p u s)).env = (nextS p u (nextS o t s)).env := by
    funext j
    simp only [nextS]
    cases ho : o.dst with
    | none => rfl
    | some k =>
      cases hp : p.dst with
      | none => rfl
      | some q =>
        have hne : k ≠ q := fun e => hd k ho (by rw [hp, e])
        simp only
        by_cases h1 : j = k
        · subst h1; simp [hne]
        · simp [h1]
  cases ho : isW o <;> cases hp : isW p
  · exact FS.eq rfl he rfl rfl rfl (by simp [nextS, ho, hp]) (by simp [nextS, ho, hp]) (by simp [nextS, ho, hp]) (by simp [nextS, ho, hp])
  · exact FS.eq rfl he rfl rfl rfl (by simp [nextS, ho, hp]) (by simp [nextS, ho, hp]) (by simp [nextS, ho, hp]) (by simp [nextS, ho, hp])
  · exact FS.eq rfl he rfl rfl rfl (by simp [nextS, ho, hp]) (by simp [nextS, ho, hp]) (by simp [nextS, ho, hp]) (by simp [nextS, ho, hp])
  · exact absurd ⟨ho, hp⟩ hw
section
variable (ops : Array Oper) (s : Nat → FS)
/-- the state behind those operations of S that stand ahead of t -/
def Fd (S : Nat → Bool) : Nat → FS
  | 0 => s 0
  | t + 1 => match ops[t]? with
    | some o => if S t then nextS o (s (t + 1)) (Fd S t) else Fd S t
    | none => Fd S t
def Chain : Prop := ∀ i o, ops[i]? = some o → s (i + 1) = nextS o (s (i + 1)) (s i)
variable {ops s}
theorem chain_env (hc : Chain ops s) {i : Nat} {o : Oper} (ho : ops[i]? = some o) {k : Nat} (hk : o.dst ≠ some k) : (s (i + 1)).env k = (s i).env k := by
  have := congrArg (fun t => t.env k) (hc i o ho)
  simp only [nextS] at this
  cases hd : o.dst with
  | none => simpa [hd] using this
  | some d =>
    have hne : k ≠ d := fun e => hk (by rw [hd, e])
    simpa [hd, hne] using this
theorem chain_W (hc : Chain ops s) {i : Nat} {o : Oper} (ho : ops[i]? = some o) (hw : isW o = false) : sameW (s (i + 1)) (s i) := by
  have h := hc i o ho
  refine ⟨?_, ?_, ?_, ?_⟩
  · have := congrArg FS.bl h; simpa [nextS, hw] using this
  · have := congrArg FS.nb h; simpa [nextS, hw] using this
  · have := congrArg FS.al h; simpa [nextS, hw] using this
  · have := congrArg FS.nt h; simpa [nextS, hw] using this
theorem fd_env (hc : Chain ops s) {S : Nat → Bool} {k i : Nat} : ∀ t, t ≤ ops.size → (∀ j o, ops[j]? = some o → j < t → o.dst = some k → (S j = true ↔ j < i)) → (Fd ops s S t).env k = (s (min t i)).env k
  | 0, _, _ => by simp [Fd]
  | t + 1, ht, h => by
    have ih := fd_env hc t (by omega) (fun j o ho hj hd => h j o ho (by omega) hd)
    obtain ⟨o, ho⟩ : ∃ o, ops[t]? = some o := ⟨_, Array.getElem?_eq_getElem (by omega)⟩
    simp only [Fd, ho]
    by_cases hd : o.dst = some k
    · have h1 := h t o ho (by omega) hd
      by_cases hS : S t = true
      · have hti := h1.1 hS
        rw [if_pos hS, show min (t + 1) i = t + 1 by omega]
        simp [nextS, hd]
      · have hti : ¬ t < i := fun h2 => hS (h1.2 h2)
        rw [if_neg hS, ih, show min (t + 1) i = min t i by omega]
    · have hsame : (s (min (t + 1) i)).env k = (s (min t i)).env k := by
        by_cases hti : t < i
        · rw [show min (t + 1) i = t + 1 by omega, show min t i = t by omega]
          exact chain_env hc ho hd
        · rw [show min (t + 1) i = min t i by omega]
      by_cases hS : S t = true
      · rw [if_pos hS, hsame, ← ih]
        simp only [nextS]
        cases hd' : o.dst with
        | none => rfl
        | some d =>
          have hne : k ≠ d := fun e => hd (by rw [hd', e])
          simp [hne]
      · rw [if_neg hS, hsame, ih]
theorem sameW.trans {a b c : FS} (h : sameW a b) (k : sameW b c) : sameW a c := ⟨h.1.trans k.1, h.2.1.trans k.2.1, h.2.2.1.trans k.2.2.1, h.2.2.2.trans k.2.2.2⟩
theorem sameW.symm {a b : FS} (h : sameW a b) : sameW b a := ⟨h.1.symm, h.2.1.symm, h.2.2.1.symm, h.2.2.2.symm⟩
theorem fd_W (hc : Chain ops s) {S : Nat → Bool} {i : Nat} : ∀ t, t ≤ ops.size → (∀ j o, ops[j]? = some o → j < t → isW o = true → (S j = true ↔ j < i)) → sameW (Fd ops s S t) (s (min t i))
  | 0, _, _ => by simp [Fd, sameW]
  | t + 1, ht, h => by
    have ih := fd_W hc t (by omega) (fun j o ho hj hd => h j o ho (by omega) hd)
    obtain ⟨o, ho⟩ : ∃ o, ops[t]? = some o := ⟨_, Array.getElem?_eq_getElem (by omega)⟩
    simp only [Fd, ho]
    by_cases hd : isW o = true
    · have h1 := h t o ho (by omega) hd
      by_cases hS : S t = true
      · have hti := h1.1 hS
        rw [if_pos hS, show min (t + 1) i = t + 1 by omega]
        simp [nextS, hd, sameW]
      · have hti : ¬ t < i := fun h2 => hS (h1.2 h2)
        rw [if_neg hS, show min (t + 1) i = min t i by omega]
        exact ih
    · have hd : isW o = false := by simpa using hd
      have hsame : sameW (s (min t i)) (s (min (t + 1) i)) := by
        by_cases hti : t < i
        · rw [show min (t + 1) i = t + 1 by omega, show min t i = t by omega]
          exact (chain_W hc ho hd).symm
        · rw [show min (t + 1) i = min t i by omega]
          exact ⟨rfl, rfl, rfl, rfl⟩
      by_cases hS : S t = true
      · rw [if_pos hS]
        refine sameW.trans ?_ (ih.trans hsame)
        simp [nextS, hd, sameW]
      · rw [if_neg hS]
        exact ih.trans hsame
theorem fd_agr1 (hc : Chain ops s) (hg : ∀ i o, ops[i]? = some o → isA o = true → GrowA (s i) (s (i + 1))) {S : Nat → Bool} {i : Nat} (hna : ∀ j o, ops[j]? = some o → isW o = true → isA o = false → (S j = true ↔ j < i)) : ∀ t, t ≤ ops.size → t ≤ i → Agr (s t).bl (Fd ops s S t) ∧ (Fd ops s S t).nb ≤ (s t).nb
  | 0, _, _ => ⟨fun _ _ h _ => h, Nat.le_refl _⟩
  | t + 1, ht, hi => by
    obtain ⟨ih1, ih2⟩ := fd_agr1 hc hg hna t (by omega) (by omega)
    obtain ⟨o, ho⟩ : ∃ o, ops[t]? = some o := ⟨_, Array.getElem?_eq_getElem (by omega)⟩
    simp only [Fd, ho]
    cases hw : isW o
    · obtain ⟨c1, c2, _, _⟩ := chain_W hc ho hw
      have e : ∀ x : FS, (if S t = true then nextS o (s (t + 1)) x else x).bl = x.bl ∧ (if S t = true then nextS o (s (t + 1)) x else x).nb = x.nb := fun x => by
        split
        · simp [nextS, hw]
        · exact ⟨rfl, rfl⟩
      refine ⟨fun b k hb hlt => ?_, ?_⟩
      · rw [(e _).2] at hlt
        rw [(e _).1]
        exact ih1 b k (by rw [← c1]; exact hb) hlt
      · rw [(e _).2, c2]; exact ih2
    · cases hS : S t
      · simp only [Bool.false_eq_true, if_false]
        have ha : isA o = true := by
          cases ha : isA o
          · have := (hna t o ho hw ha).2 (by omega)
            rw [hS] at this; cases this
          · rfl
        obtain ⟨g1, g2, g3⟩ := hg t o ho ha
        refine ⟨fun b k hb hlt => ?_, by omega⟩
        rcases g3 b k hb with h | h
        · exact ih1 b k h hlt
        · omega
      · simp only [if_true]
        refine ⟨fun b k hb _ => ?_, ?_⟩
        · simpa [nextS, hw] using hb
        · simp [nextS, hw]
theorem fd_agr2 (hc : Chain ops s) (hg : ∀ i o, ops[i]? = some o → isA o = true → GrowA (s i) (s (i + 1))) {S : Nat → Bool} {i : Nat} (his : i ≤ ops.size) (hww : ∀ p q op oq, ops[p]? = some op → ops[q]? = some oq → p < q → isW op = true → isW oq = true → S q = true → S p = true) (hna : ∀ j o, ops[j]? = some o → isW o = true → isA o = false → (S j = true ↔ j < i)) : ∀ n, i + n ≤ ops.size → Agr (s i).bl (Fd ops s S (i + n)) ∧ ((∀ p op, i ≤ p → p < i + n → ops[p]? = some op → isW op = true → S p = true) → ∀ b k, (s i).bl b = some k → (s (i + n)).bl b = some k)
  | 0, _ => ⟨(fd_agr1 hc hg hna i his (Nat.le_refl _)).1, fun _ _ _ h => h⟩
  | n + 1, hn => by
    obtain ⟨ih1, ih2⟩ := fd_agr2 hc hg his hww hna n (by omega)
    obtain ⟨o, ho⟩ : ∃ o, ops[i + n]? = some o := ⟨_, Array.getElem?_eq_getElem (by omega)⟩
    rw [show i + (n + 1) = i + n + 1 by omega]
    simp only [Fd, ho]
    cases hw : isW o
    · obtain ⟨c1, c2, _, _⟩ := chain_W hc ho hw
      have e : ∀ x : FS, (if S (i + n) = true then nextS o (s (i + n + 1)) x else x).bl = x.bl ∧ (if S (i + n) = true then nextS o (s (i + n + 1)) x else x).nb = x.nb := fun x => by
        split
        · simp [nextS, hw]
        · exact ⟨rfl, rfl⟩
      refine ⟨fun b k hb hlt => ?_, fun hall b k hb => ?_⟩
      · rw [(e _).2] at hlt
        rw [(e _).1]
        exact ih1 b k hb hlt
      · rw [c1]; exact ih2 (fun p op h1 h2 => hall p op h1 (by omega)) b k hb
    · cases hS : S (i + n)
      · simp only [Bool.false_eq_true, if_false]
        refine ⟨ih1, fun hall => ?_⟩
        have := hall (i + n) o (by omega) (by omega) ho hw
        rw [hS] at this; cases this
      · have ha : isA o = true := by
          cases ha : isA o
          · have := (hna _ o ho hw ha).1 hS
            omega
          · rfl
        have hext := ih2 fun p op h1 h2 h3 h4 => hww p (i + n) op o h3 ho h2 h4 hw hS
        have hgo := (hg _ o ho ha).2.1
        simp only [if_true]
        refine ⟨fun b k hb _ => ?_, fun _ b k hb => hgo b k (hext b k hb)⟩
        have : (nextS o (s (i + n + 1)) (Fd ops s S (i + n))).bl = (s (i + n + 1)).bl := by simp [nextS, hw]
        rw [this]
        exact hgo b k (hext b k hb)
theorem fd_add {S : Nat → Bool} {i : Nat} {oi : Oper} (hi : ops[i]? = some oi) (hS : S i = false) (hind : ∀ j o, ops[j]? = some o → i < j → S j = true → (∀ k, o.dst = some k → oi.dst ≠ some k) ∧ ¬ (isW o = true ∧ isW oi = true)) : ∀ t, t ≤ ops.size → Fd ops s (fun j => if j = i then true else S j) t = if i < t then nextS oi (s (i + 1)) (Fd ops s S t) else Fd ops s S t
  | 0, _ => by simp [Fd]
  | t + 1, ht => by
    have ih := fd_add hi hS hind t (by omega)
    obtain ⟨o, ho⟩ : ∃ o, ops[t]? = some o := ⟨_, Array.getElem?_eq_getElem (by omega)⟩
    simp only [Fd, ho, ih]
    by_cases hti : t = i
    · subst hti
      rw [hi] at ho
      simp only [Option.some.injEq] at ho
      subst ho
      simp [hS]
    · simp only [if_neg hti]
      by_cases hlt : i < t
      · have hlt' : i < t + 1 := by omega
        simp only [hlt, hlt', if_true]
        by_cases hSt : S t = true
        · simp only [hSt, if_true]
          obtain ⟨h1, h2⟩ := hind t o ho hlt hSt
          exact nextS_comm h1 h2
        · simp only [hSt, Bool.false_eq_true, if_false]
      · have hlt' : ¬ i < t + 1 := by omega
        simp only [hlt, hlt', if_false]
/-- must the operation i have been done ahead of o? -/
def predB (ops : Array Oper) : Nat → Oper → Nat → Bool
  | 0, _, _ => false
  | n + 1, o, i => o.after.any fun e => Region.binds .any e && Nat.ble i e.on && (Nat.beq e.on i || match ops[e.on]? with
    | some p => predB ops n p i
    | none => false)
theorem predB_listed {ops : Array Oper} {listed : Array Bool} (hcl : ∀ j o, ops[j]? = some o → listed.getD j true = true → ∀ e ∈ o.after, Region.binds .any e = true → listed.getD e.on true = true) : ∀ (n : Nat) (o : Oper) (i : Nat), (∀ e ∈ o.after, Region.binds .any e = true → listed.getD e.on true = true) → predB ops n o i = true → listed.getD i true = true
  | 0, _, _, _, h => by simp [predB] at h
  | n + 1, o, i, ho, h => by
    simp only [predB] at h
    obtain ⟨e, he, h3⟩ := Array.any_eq_true'.1 h
    simp only [Bool.and_eq_true, Bool.or_eq_true] at h3
    have hl := ho e he h3.1.1
    rcases h3.2 with h4 | h4
    · rw [← Nat.eq_of_beq_eq_true h4]; exact hl
    · split at h4
      · rename_i p hp
        exact predB_listed hcl n p i (hcl _ _ hp hl) h4
      · cases h4
/-- the region's order may be drawn: each pair is ordered by an edge, or has nothing to do with each other -/
def drawB (ops : Array Oper) : Bool := (List.range ops.size).all fun j => match ops[j]? with
  | none => true
  | some oj => oj.after.all (fun e => !Region.binds .any e || Nat.blt e.on j) && (List.range j).all fun i => match ops[i]? with
    | none => true
    | some oi => predB ops 12 oj i || (oi.apart ops oj && !clash oi oj)
theorem drawB_spec (h : drawB ops = true) {j : Nat} {oj : Oper} (hj : ops[j]? = some oj) : (∀ e ∈ oj.after, Region.binds .any e = true → e.on < j) ∧ ∀ i oi, i < j → ops[i]? = some oi → predB ops 12 oj i = true ∨ (oi.apart ops oj = true ∧ clash oi oj = false) := by
  have hlt : j < ops.size := (Array.getElem?_eq_some_iff.1 hj).1
  simp only [drawB, List.all_eq_true, List.mem_range] at h
  have h1 := h j hlt
  rw [hj] at h1
  simp only [Bool.and_eq_true, List.all_eq_true, List.mem_range] at h1
  refine ⟨fun e he hb => ?_, fun i oi hij hi => ?_⟩
  · have := Array.all_eq_true_iff_forall_mem.1 h1.1 e he
    simpa [hb] using this
  · have := h1.2 i hij
    rw [hi] at this
    simp only [Bool.or_eq_true, Bool.and_eq_true, Bool.not_eq_true'] at this
    exact this
/-- s is as s0 for an operation that writes; for one that reads, where there are blocks already -/
def OkW (o : Oper) (s0 s : FS) : Prop := (isW o = true → sameW s s0) ∧ (memRd o.op = true → Agr s0.bl s)
theorem OkW.self (o : Oper) (s : FS) : OkW o s s := ⟨fun _ => ⟨rfl, rfl, rfl, rfl⟩, fun _ _ _ h _ => h⟩
/-- What an operation does in each state that agrees with s0 on what it looks at: what it does in the text's order. -/
def OpRun (cx : Cx) (ops : Array Oper) (o : Oper) (s0 s1 : FS) : Prop :=
  ∀ (s : FS) (m : Mp) (a : Act) (as : List Act) (w : World), (∀ k, k ∈ o.looksAt ops → s.env k = s0.env k) → OkW o s0 s → s.n = s0.n → Rel cx m a as s w → Does cx.P ops o a w fun a' w' => ∃ m', Rel cx m' a' as (nextS o s1 s) w'
theorem fd_n (hc : Chain ops s) (S : Nat → Bool) : ∀ t, t ≤ ops.size → (Fd ops s S t).n = (s 0).n
  | 0, _ => rfl
  | t + 1, ht => by
    obtain ⟨o, ho⟩ : ∃ o, ops[t]? = some o := ⟨_, Array.getElem?_eq_getElem (by omega)⟩
    simp only [Fd, ho]
    split
    · exact fd_n hc S t (by omega)
    · exact fd_n hc S t (by omega)
theorem chain_n (hc : Chain ops s) : ∀ t, t ≤ ops.size → (s t).n = (s 0).n
  | 0, _ => rfl
  | t + 1, ht => by
    obtain ⟨o, ho⟩ : ∃ o, ops[t]? = some o := ⟨_, Array.getElem?_eq_getElem (by omega)⟩
    have := congrArg FS.n (hc t o ho)
    rw [this]
    exact chain_n hc t (by omega)
theorem fd_all (hc : Chain ops s) : ∀ t, t ≤ ops.size → Fd ops s (fun _ => true) t = s t
  | 0, _ => rfl
  | t + 1, ht => by
    obtain ⟨o, ho⟩ : ∃ o, ops[t]? = some o := ⟨_, Array.getElem?_eq_getElem (by omega)⟩
    simp only [Fd, ho, if_true, fd_all hc t (by omega)]
    exact (hc t o ho).symm
theorem fd_congr {S T : Nat → Bool} : ∀ t, t ≤ ops.size → (∀ j, j < t → S j = T j) → Fd ops s S t = Fd ops s T t
  | 0, _, _ => rfl
  | t + 1, ht, h => by
    simp only [Fd, fd_congr t (by omega) (fun j hj => h j (by omega)), h t (by omega)]
/-- THE THEOREM. -/
theorem any_of_chain {cx : Cx} {as : List Act} {Q : Exit → Act → World → Prop} (hd : drawB ops = true) (hc : Chain ops s) (hrun : ∀ i o, ops[i]? = some o → OpRun cx ops o (s i) (s (i + 1))) (hg : ∀ i o, ops[i]? = some o → isA o = true → GrowA (s i) (s (i + 1))) (hK : ∀ m a w, Rel cx m a as (s ops.size) w → Q .normal a w) :
    ∀ (fuel : Nat) (listed : Array Bool) (a : Act) (w : World), listed.size = ops.size → (∀ j o, ops[j]? = some o → listed.getD j true = true → ∀ e ∈ o.after, Region.binds .any e = true → listed.getD e.on true = true) → ((List.range ops.size).filter fun j => !listed.getD j true).length ≤ fuel → (∃ m, Rel cx m a as (Fd ops s (fun j => listed.getD j true) ops.size) w) → wpAny cx.P .any ops Q fuel listed a w := by
  have hfin : ∀ (listed : Array Bool) (a : Act) (w : World), listed.size = ops.size → Region.ready .any ops listed = [] → (∃ m, Rel cx m a as (Fd ops s (fun j => listed.getD j true) ops.size) w) → Q .normal a w := by
    intro listed a w hsz hr ⟨m, hm⟩
    have hall : ∀ j, j < ops.size → listed.getD j true = true := by
      intro j
      induction j using Nat.strongRecOn with
      | _ j ih =>
        intro hj
        cases hl : listed.getD j true with
        | true => rfl
        | false =>
          exfalso
          obtain ⟨o, ho⟩ : ∃ o, ops[j]? = some o := ⟨_, Array.getElem?_eq_getElem hj⟩
          have : j ∈ Region.ready .any ops listed := mem_ready.2 ⟨hl, o, ho, fun e he hb => by
            have hlt := (drawB_spec hd ho).1 e he hb
            rw [Sx.getD_two (by omega)]
            exact ih e.on hlt (by omega)⟩
          rw [hr] at this
          cases this
    rw [fd_congr (T := fun _ => true) ops.size (Nat.le_refl _) hall, fd_all hc _ (Nat.le_refl _)] at hm
    exact hK m a w hm
  intro fuel
  induction fuel with
  | zero =>
    intro listed a w hsz hcl hlen hrel
    have hready : Region.ready .any ops listed = [] := by
      refine List.eq_nil_iff_forall_not_mem.2 fun j hj => ?_
      obtain ⟨h0, o, ho, _⟩ := mem_ready.1 hj
      have hmem : j ∈ (List.range ops.size).filter fun j => !listed.getD j true := by
        simp only [List.mem_filter, List.mem_range, h0, Bool.not_false, and_true]
        exact (Array.getElem?_eq_some_iff.1 ho).1
      have := List.length_pos_of_mem hmem
      omega
    exact ⟨hready, hfin listed a w hsz hready hrel⟩
  | succ fuel ih =>
    intro listed a w hsz hcl hlen hrel
    refine ⟨fun hr => hfin listed a w hsz hr hrel, fun j hj => ?_⟩
    obtain ⟨hj0, oj, hoj, hall⟩ := mem_ready.1 hj
    have hjs : j < ops.size := (Array.getElem?_eq_some_iff.1 hoj).1
    obtain ⟨m, hm⟩ := hrel
    have hpre : ∀ e ∈ oj.after, Region.binds .any e = true → listed.getD e.on true = true := fun e he hb => by
      have hlt := (drawB_spec hd hoj).1 e he hb
      rw [← Sx.getD_two (by omega)]
      exact hall e he hb
    -- an operation that is listed, or stands ahead of j unlisted, has nothing to do with j, or is ordered
    have hlow : ∀ q oq, ops[q]? = some oq → q < j → listed.getD q true = false → oq.apart ops oj = true ∧ clash oq oj = false := fun q oq hq hqj hl => by
      rcases (drawB_spec hd hoj).2 q oq hqj hq with hp | h
      · rw [predB_listed hcl 12 oj q hpre hp] at hl; cases hl
      · exact h
    have hhigh : ∀ q oq, ops[q]? = some oq → j < q → listed.getD q true = true → oj.apart ops oq = true ∧ clash oj oq = false := fun q oq hq hqj hl => by
      rcases (drawB_spec hd hq).2 j oj hqj hoj with hp | h
      · have := predB_listed hcl 12 oq j (hcl q oq hq hl) hp
        rw [hj0] at this
        cases this
      · exact h
    have henv : ∀ k, k ∈ oj.looksAt ops → (Fd ops s (fun i => listed.getD i true) ops.size).env k = (s j).env k := fun k hk => by
      have := fd_env (s := s) hc (S := fun i => listed.getD i true) (k := k) (i := j) ops.size (Nat.le_refl _) (fun q oq hq _ hdq => by
        rcases Nat.lt_trichotomy q j with hlt | rfl | hgt
        · refine ⟨fun _ => hlt, fun _ => ?_⟩
          cases hl : listed.getD q true with
          | true => rfl
          | false => exact absurd hk ((Oper.apart_spec (hlow q oq hq hlt hl).1).1 k hdq)
        · simp only [hj0]
          simp
        · refine ⟨fun hl => ?_, fun h => by omega⟩
          exact absurd hk ((Oper.apart_spec (hhigh q oq hq hgt hl).1).2.2 k hdq))
      rwa [show min ops.size j = j by omega] at this
    have hW : isW oj = true → sameW (Fd ops s (fun i => listed.getD i true) ops.size) (s j) := fun ht => by
      have := fd_W (s := s) hc (S := fun i => listed.getD i true) (i := j) ops.size (Nat.le_refl _) (fun q oq hq _ hwq => by
        rcases Nat.lt_trichotomy q j with hlt | rfl | hgt
        · refine ⟨fun _ => hlt, fun _ => ?_⟩
          cases hl : listed.getD q true with
          | true => rfl
          | false => exact absurd ⟨hwq, ht⟩ (clash_ww (hlow q oq hq hlt hl).2)
        · simp only [hj0]
          simp
        · refine ⟨fun hl => ?_, fun h => by omega⟩
          exact absurd ⟨ht, hwq⟩ (clash_ww (hhigh q oq hq hgt hl).2))
      rwa [show min ops.size j = j by omega] at this
    have hA : memRd oj.op = true → Agr (s j).bl (Fd ops s (fun i => listed.getD i true) ops.size) := fun hm => by
      have ht : tch oj = true := by simp [tch, hm]
      have := fd_agr2 (s := s) hc hg (S := fun i => listed.getD i true) (i := j) (by omega) (fun p q op oq hp hq hpq hwp hwq hl => by
        rcases (drawB_spec hd hq).2 p op hpq hp with h | h
        · exact predB_listed hcl 12 oq p (hcl q oq hq hl) h
        · exact absurd ⟨hwp, hwq⟩ (clash_ww h.2)) (fun q oq hq hwq hna => by
        rcases Nat.lt_trichotomy q j with hlt | rfl | hgt
        · refine ⟨fun _ => hlt, fun _ => ?_⟩
          cases hl : listed.getD q true with
          | true => rfl
          | false =>
            have := clash_wr (hlow q oq hq hlt hl).2 hwq ht
            rw [hna] at this; cases this
        · simp only [hj0]
          simp
        · refine ⟨fun hl => ?_, fun h => by omega⟩
          have := clash_rw (hhigh q oq hq hgt hl).2 ht hwq
          rw [hna] at this; cases this) (ops.size - j) (by omega)
      rw [show j + (ops.size - j) = ops.size by omega] at this
      exact this.1
    have hdo := hrun j oj hoj _ m a as w henv ⟨hW, hA⟩ ((fd_n hc _ _ (Nat.le_refl _)).trans (chain_n hc j (by omega)).symm) hm
    refine (hdo.mono fun a' w' ⟨m', hm'⟩ => ?_).wpOp hoj
    refine ih _ a' w' (by simp [hsz]) ?_ ?_ ⟨m', ?_⟩
    · intro q oq hq hl e he hb
      by_cases hqj : q = j
      · subst hqj
        rw [hoj] at hq
        simp only [Option.some.injEq] at hq
        subst hq
        have hlt := (drawB_spec hd hoj).1 e he hb
        rw [getD_set_ne true (by omega)]
        exact hpre e he hb
      · rw [getD_set_ne true (Ne.symm hqj)] at hl
        have := hcl q oq hq hl e he hb
        by_cases hej : e.on = j
        · rw [hej]; simp [hsz, hjs]
        · rw [getD_set_ne true (Ne.symm hej)]; exact this
    · have hsub : ((List.range ops.size).filter fun i => !(listed.setIfInBounds j true).getD i true).length + 1 ≤ ((List.range ops.size).filter fun i => !listed.getD i true).length := by
        have heq : ((List.range ops.size).filter fun i => !(listed.setIfInBounds j true).getD i true) = ((List.range ops.size).filter fun i => !listed.getD i true).filter fun i => !Nat.beq i j := by
          rw [List.filter_filter]
          apply List.filter_congr
          intro i hi
          simp only [List.mem_range] at hi
          by_cases hij : i = j
          · subst hij; simp [hsz, hi]
          · rw [getD_set_ne true (Ne.symm hij), beq_ne hij]; simp
        rw [heq]
        have hmem : j ∈ (List.range ops.size).filter fun i => !listed.getD i true := by simp only [List.mem_filter, List.mem_range, hj0]; exact ⟨hjs, rfl⟩
        have : ∀ (l : List Nat), j ∈ l → (l.filter fun i => !Nat.beq i j).length + 1 ≤ l.length := by
          intro l
          induction l with
          | nil => intro h; cases h
          | cons x l ihl =>
            intro h
            by_cases hx : x = j
            · subst hx
              simp only [List.filter_cons, Nat.beq_refl, Bool.not_true, Bool.false_eq_true, if_false, List.length_cons]
              have := List.length_filter_le (fun i => !Nat.beq i x) l
              omega
            · simp only [List.mem_cons] at h
              have := ihl (h.resolve_left (Ne.symm hx))
              simp only [List.filter_cons, beq_ne hx, Bool.not_false, if_true, List.length_cons]
              omega
        exact this _ hmem
      omega
    · have hadd := fd_add (s := s) hoj hj0 (S := fun i => listed.getD i true) (fun q oq hq hgt hl => by
        have h := hhigh q oq hq hgt hl
        refine ⟨fun k hk he => (Oper.apart_spec h.1).2.1 k he hk, fun hh => clash_ww h.2 ⟨hh.2, hh.1⟩⟩) ops.size (Nat.le_refl _)
      rw [if_pos hjs] at hadd
      rw [← hadd] at hm'
      rw [fd_congr (T := fun i => if i = j then true else listed.getD i true) ops.size (Nat.le_refl _) (fun i hi => by
        by_cases hij : i = j
        · subst hij; simp [hsz, hi]
        · rw [getD_set_ne true (Ne.symm hij)]; simp [hij])]
      exact hm'
end
end Go.Ax
