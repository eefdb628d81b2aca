/- Ax, part Q: ALL OPERATIONS: what the machine says of them is so, one after the other, and in regions that draw their order. -/
import Derived.Test.YtlhebakbbfmiiaaDoorAxP
namespace Go.Ax
open Go.RowKit
section
variable {R : Type} {px : Px R} {cx : Cx}
def Same (st st' : St) : Prop := st'.n = st.n ∧ st'.env = st.env ∧ st'.lb = st.lb ∧ st'.lt = st.lt ∧ st'.fr = st.fr
theorem setW_same {st st' : St} (h : Same st st') : setW (fs st') (fs st) = fs st' := by
  obtain ⟨h1, h2, h3, h4, h5⟩ := h
  refine FS.eq ?_ ?_ ?_ ?_ ?_ rfl rfl rfl rfl
  · exact h1.symm
  · simp only [setW, fs, h2]
  · exact h3.symm
  · exact h4.symm
  · exact h5.symm
/-- the same, of just this state -/
structure SEff (cx : Cx) (o : Oper) (st st' : St) (d : D) : Prop where
  same : Same st st'
  run : ∀ (m : Mp) (a : Act) (as : List Act) (w : World), Rel cx m a as (fs st) w → Yv cx.P a w o fun v w' => ∃ m', Rel cx m' a as (fs st') w' ∧ Rep (vx cx m' (fs st') w') d v
theorem Eff.seq {o : Oper} {st st' : St} {d : D} (h : Eff cx px o st st' d) : SEff cx o st st' d :=
  ⟨h.same, fun m a as w hr => by
    have := h.run (fs st) m a as w (fun _ _ _ => rfl) ⟨rfl, rfl, rfl, rfl⟩ hr
    rwa [setW_same h.same] at this⟩
/-- CALLS come to what the machine is told. -/
def CallOk1 (cx : Cx) (g : Nat) (args : List D) (st : St) (K : List D → St → Option R) (r : R) : Prop := Sx.Enters cx.P g ∧ ∀ (m : Mp) (a : Act) (as : List Act) (w : World) (vs : List Value), Rel cx m a as (fs st) w → Reps (vx cx m (fs st) w) args vs → Calls cx.P g vs.toArray w fun en w' => ∃ v, en = .returned v ∧ ∃ rs st' m', K rs st' = some r ∧ Same st st' ∧ Rel cx m' a as (fs st') w' ∧ Rep (vx cx m' (fs st') w') (pack rs) v
def CallOk (cx : Cx) (px : Px R) : Prop := ∀ (g : Nat) (args : List D) (st : St) (K : List D → St → Option R) (r : R), px.call g args st K = some r → CallOk1 cx g args st K r
def CallQOk (cx : Cx) (px : Px R) : Prop := ∀ (g : Nat) (args : List D) (K : List D → Option R) (r : R), px.callQ g args K = some r → ∃ rs, K rs = some r ∧ Sx.Enters cx.P g ∧ ∀ (s : FS) (m : Mp) (a : Act) (as : List Act) (w : World) (vs : List Value), Rel cx m a as s w → Reps (vx cx m s w) args vs → Calls cx.P g vs.toArray w fun en w' => ∃ v, en = .returned v ∧ Rel cx m a as s w' ∧ Rep (vx cx m s w') (pack (rs.map strip)) v
/-- closed facts on a code's operations -/
def opB (o : Oper) : Bool := match o.op with
  | .call ⟨.builtin .len, _, ⟨[_]⟩⟩ => true
  | .call ⟨.builtin .len, _, _⟩ => false
  | .select _ _ => false
  | _ => true
theorem opB_len {o : Oper} (h : opB o = true) : ∀ b xs ts, o.op = .call ⟨.builtin b, xs, ts⟩ → b = .len → ts = #[ts.toList.headD 0] := by
  intro b xs ts ho hb
  subst hb
  unfold opB at h
  rw [ho] at h
  obtain ⟨l⟩ := ts
  match l with
  | [] => simp at h
  | [t] => rfl
  | _ :: _ :: _ => simp at h
theorem enter_run {P : Program} {a : Act} {w : World} {o : Oper} {f : Operand} {xs : Array Operand} {ts : Array TypeId} {g : Nat} {cvs vs : List Value} (ho : o.op = .call ⟨.value f, xs, ts⟩) (hf : a.eval f = .func (.func g) #[] cvs.toArray) (hx : xs.toList.map a.eval = vs) (he : Sx.Enters P g) : (execOp a.eval o).run P w = .ok (.enter g (vs ++ cvs).toArray) w := by
  have h1 := he (vs ++ cvs).toArray w
  have h2 : xs.map a.eval = vs.toArray := by apply Array.ext'; simpa using hx
  simp only [execOp, ho, resolve, hf, Deferred.ofValue, h2, Sem.run_bind, Sem.run_pure, Result.andThen_ok, invoke]
  simpa using h1
theorem step_seq (hp : PxOk cx px) (hc : CallOk cx px) {o : Oper} (hb : opB o = true) {st : St} {K : D → St → Option R} {r : R} (h : step px o st K = some r) : ∀ (m : Mp) (a : Act) (as : List Act) (w : World), Rel cx m a as (fs st) w → Yv cx.P a w o fun v w' => ∃ d st' m', K d st' = some r ∧ Same st st' ∧ Rel cx m' a as (fs st') w' ∧ Rep (vx cx m' (fs st') w') d v := by
  have fin : (∃ d st', K d st' = some r ∧ SEff cx o st st' d) → ∀ (m : Mp) (a : Act) (as : List Act) (w : World), Rel cx m a as (fs st) w → Yv cx.P a w o fun v w' => ∃ d st' m', K d st' = some r ∧ Same st st' ∧ Rel cx m' a as (fs st') w' ∧ Rep (vx cx m' (fs st') w') d v := by
    rintro ⟨d, st', h1, h2⟩ m a as w hr
    rcases h2.run m a as w hr with ⟨v, w', h3, m', h4, h5⟩ | ⟨f, args, w1, h3, h4⟩
    · exact .inl ⟨v, w', h3, d, st', m', h1, h2.same, h4, h5⟩
    · refine .inr ⟨f, args, w1, h3, h4.mono ?_⟩
      rintro en w' ⟨v, e, m', h5, h6⟩
      exact ⟨v, e, d, st', m', h1, h2.same, h5, h6⟩
  have quiet : ∀ {K : D → St → Option R}, (stepQ px o st fun d => K d st) = some r → ∃ d st', K d st' = some r ∧ SEff cx o st st' d := fun h => by
    obtain ⟨d, hk, hq⟩ := stepQ_sem hp (opB_len hb) h
    exact ⟨d, st, hk, (quiet_eff hq).seq⟩
  unfold step at h
  split at h
  · rename_i t ho
    split at h
    · rename_i n c hty
      exact fin ⟨_, _, h, (alloc_eff hp ho (.inl ⟨n, c, hty, rfl⟩)).seq⟩
    · rename_i hna
      split at h
      · rename_i z hz
        refine fin ⟨_, _, h, (alloc_eff hp ho (.inr ⟨z, fun e => ?_, hz, rfl⟩)).seq⟩
        rw [e] at hz
        cases hz
      · cases h
  · rename_i t x ho
    split at h
    · rename_i d hd
      split at h
      · rename_i hl
        exact fin ⟨_, _, h, (box_eff ho hd hl).seq⟩
      · cases h
    · cases h
  · rename_i t len ps ho
    split at h
    · rename_i c hty
      split at h
      · rename_i l hl
        split at h
        · rename_i xs hcd hxs
          simp only [Bool.and_eq_true] at hcd
          exact fin ⟨_, _, h, (bslice_eff hp ho hty hl (Nat.eq_of_beq_eq_true hcd.1) (by simpa using hcd.2) hxs).seq⟩
        · cases h
      · cases h
    · cases h
  · rename_i q t x ho
    split at h
    · rename_i l hx hty
      split at h
      · rename_i hs
        obtain ⟨_, hk⟩ := chk_some h
        exact fin ⟨_, _, hk, (strbytes_eff hp ho hx hty (isStr_spec hs)).seq⟩
      · cases h
    · exact fin (quiet h)
  · rename_i x y t t' ho
    split at h
    · rename_i c s d hty hx hy hbq
      have hbq := Nat.eq_of_beq_eq_true hbq
      subst hbq
      unfold appendK at h
      split at h
      · split at h
        · rename_i c' xs tk hcc
          subst hcc
          split at h
          · cases h
          · rename_i al hal
            split at h
            · cases h
            · rename_i ys hys
              obtain ⟨hl, hk⟩ := chk_some h
              obtain ⟨tk', rfl⟩ := toS_spec hys
              exact fin ⟨_, _, hk, (append_eff hp ho hty hx hy hal (by simpa using hl)).seq⟩
        · cases h
      · cases h
    · cases h
  · rename_i f xs ts ho
    split at h
    · rename_i g caps hf
      split at h
      · rename_i ds hds
        obtain ⟨hent, hrun⟩ := hc g (ds ++ caps) st _ r h
        intro m a as w hr
        have hf' := hf
        rw [ev_eq] at hf'
        obtain ⟨fv, _, h2, h3⟩ := hr.env.ev (env := get st.env) hf'
        simp only [Rep] at h3
        obtain ⟨cvs, rfl, hcaps⟩ := h3
        obtain ⟨vs, _, h5, h6⟩ := evs_get hr.env (env := get st.env) hds (fun u q _ => by rw [ev_eq])
        refine .inr ⟨g, _, w, enter_run ho h2 h5 hent, (hrun m a as w _ hr (h6.append hcaps)).mono ?_⟩
        rintro en w' ⟨v, e, rs, st', m', k1, k2, k3, k4⟩
        exact ⟨v, e, _, st', m', k1, k2, k3, k4⟩
      · cases h
    · cases h
  · exact fin (quiet h)
/-! ## regions, in the text's order -/
theorem guard_wanted {all : Array Oper} {o : Oper} {x : Vx} {n : Nat} {env : Nat → Option D} {a : Act} (he : EnvR x n env a) : (o.guard = none → Region.wanted o (yielded all a.tmps) = true) ∧ ∀ j b g, o.guard = some (j, b) → (all[j]?).bind (·.dst) = some g → (∀ q, env g = some (.bool q) → Region.wanted o (yielded all a.tmps) = (q == b)) ∧ (env g = some .undef → Region.wanted o (yielded all a.tmps) = false) := by
  refine ⟨fun h => by simp [Region.wanted, h], fun j b g hg hj => ⟨fun q hq => ?_, fun hq => ?_⟩⟩
  · obtain ⟨v, hv, hr⟩ := he.get g _ hq
    obtain rfl := Rep.bool hr
    simp only [Region.wanted, hg, yielded, hj, Option.bind_some, hv]
    cases q <;> cases b <;> rfl
  · obtain ⟨v, hv, hr⟩ := he.get g _ hq
    simp only [Rep] at hr
    subst hr
    simp only [Region.wanted, hg, yielded, hj, Option.bind_some, hv]
    cases b <;> rfl
theorem put_self {st : St} {g : Nat} {d : D} (h : get st.env g = some d) : fs (st.put g d) = fs st := by
  rw [fs_put]
  refine FS.eq rfl ?_ rfl rfl rfl rfl rfl rfl rfl
  funext j
  simp only [FS.put, fs]
  by_cases hj : j = g
  · subst hj; simp [h]
  · simp [hj]
/-- one operation of a region, carried out or not -/
def SRun (cx : Cx) (all : Array Oper) (o : Oper) (st st' : St) : Prop := ∀ (m : Mp) (a : Act) (as : List Act) (w : World), Rel cx m a as (fs st) w → Does cx.P all o a w fun a' w' => ∃ m', Rel cx m' a' as (fs st') w'
theorem one_seq (hp : PxOk cx px) (hc : CallOk cx px) {o : Oper} (hb : opB o = true) {st : St} {K : St → Option R} {r : R} (h : one px false o st K = some r) : ∀ (m : Mp) (a : Act) (as : List Act) (w : World), Rel cx m a as (fs st) w → Runs cx.P a w o fun a' w' => ∃ m' st', K st' = some r ∧ (st'.n = st.n ∧ st'.fr = st.fr) ∧ Rel cx m' a' as (fs st') w' := by
  unfold one at h
  split at h
  · rename_i d hd
    split at h
    · rename_i hlt
      have hlt : d < st.n := by simpa [Nat.blt_eq] using hlt
      intro m a as w hr
      refine (step_seq hp hc hb h m a as w hr).runs fun u w' ⟨v, st', m', hk, hsame, h1, h2⟩ => ⟨m', _, hk, ⟨hsame.1, hsame.2.2.2.2⟩, ?_⟩
      rw [fs_put, hd]
      refine h1.put ?_ h2
      show d < st'.n
      rw [hsame.1]
      exact hlt
    · cases h
  · rename_i hd
    obtain ⟨st', hk, he⟩ := stepN_eff (cx := cx) hp h
    intro m a as w hr
    obtain ⟨w', m', h1, h2⟩ := he.run (fs st) m a as w (fun _ _ _ => rfl) ⟨rfl, rfl, rfl, rfl⟩ hr
    rw [setW_same he.same] at h2
    refine .inr (.inl ⟨w', h1, m', st', hk, ⟨he.same.1, he.same.2.2.2.2⟩, ?_⟩)
    rw [hd]
    exact h2
theorem off_rel {o : Oper} {st : St} {m : Mp} {a : Act} {as : List Act} {w : World} (hd : ∀ d, o.dst = some d → d < st.n) (hr : Rel cx m a as (fs st) w) : Rel cx m (a.put o.dst undef) as (fs (off o st)) w := by
  unfold off
  cases hdst : o.dst with
  | none => exact hr
  | some d =>
    rw [fs_put]
    exact hr.put (hd d hdst) (by simp only [Rep]; rfl)
/-- slots are in range -/
def dstB (n : Nat) (o : Oper) : Bool := match o.dst with
  | some d => Nat.blt d n
  | none => true
theorem ops_seq (hp : PxOk cx px) (hc : CallOk cx px) {all : Array Oper} : ∀ {l : List Oper} {st : St} {K : St → Option R} {r : R}, (l.all fun o => opB o && dstB st.n o) = true → ops px false all l st K = some r →
    ∀ {Q : Exit → Act → World → Prop} {m : Mp} {a : Act} {as : List Act} {w : World}, Rel cx m a as (fs st) w → (∀ st' m' a' w', K st' = some r → (st'.n = st.n ∧ st'.fr = st.fr) → Rel cx m' a' as (fs st') w' → Q .normal a' w') → wpList cx.P all Q l a w
  | [], st, K, r, _, h, Q, m, a, as, w, hr, hQ => hQ st m a w h ⟨rfl, rfl⟩ hr
  | o :: l, st, K, r, hl, h, Q, m, a, as, w, hr, hQ => by
    simp only [List.all_cons, Bool.and_eq_true] at hl
    obtain ⟨⟨hb, hdst⟩, hl'⟩ := hl
    have hdlt : ∀ d, o.dst = some d → d < st.n := fun d hd => by simpa [dstB, hd, Nat.blt_eq] using hdst
    have hl2 : ∀ n, n = st.n → (l.all fun o => opB o && dstB n o) = true := fun n e => by subst e; exact hl'
    -- carried out
    have run : ∀ {st1 : St}, fs st1 = fs st → (st1.n = st.n ∧ st1.fr = st.fr) → Region.wanted o (yielded all a.tmps) = true → (one px false o st1 fun st' => ops px false all l st' K) = some r → wpList cx.P all Q (o :: l) a w := by
      intro st1 he hn hw h1
      have hrr := one_seq hp hc hb h1 m a as w (by rw [he]; exact hr)
      simp only [wpList, hw, if_true]
      left
      -- the number of slots stays
      refine Runs.wp (hrr.mono fun a' w' ⟨m', st', hk, hsn, h3⟩ => ?_)
      have hn' : st'.n = st.n := hsn.1.trans hn.1
      exact ops_seq hp hc (hl2 _ hn') hk h3 (fun st2 m2 a2 w2 k1 k2 k3 => hQ st2 m2 a2 w2 k1 ⟨k2.1.trans hn', k2.2.trans (hsn.2.trans hn.2)⟩ k3)
    have skip : ∀ {st1 : St}, fs st1 = fs st → (st1.n = st.n ∧ st1.fr = st.fr) → Region.wanted o (yielded all a.tmps) = false → ops px false all l (off o st1) K = some r → wpList cx.P all Q (o :: l) a w := by
      intro st1 he hn hw h1
      have hn' : (off o st1).n = st.n := by rw [← hn.1]; unfold off; split <;> rfl
      have hf' : (off o st1).fr = st.fr := by rw [← hn.2]; unfold off; split <;> rfl
      have hrel := off_rel (o := o) (st := st1) (fun d hd => by rw [hn.1]; exact hdlt d hd) (by rw [he]; exact hr)
      simp only [wpList, hw, Bool.false_eq_true, if_false]
      exact ops_seq hp hc (hl2 _ hn') h1 hrel (fun st2 m2 a2 w2 k1 k2 k3 => hQ st2 m2 a2 w2 k1 ⟨k2.1.trans hn', k2.2.trans hf'⟩ k3)
    obtain ⟨g1, g2⟩ := guard_wanted (all := all) (o := o) hr.env
    simp only [ops] at h
    split at h
    · rename_i hg
      exact run rfl ⟨rfl, rfl⟩ (g1 hg) h
    · rename_i j b hg
      split at h
      · cases h
      · rename_i g hj
        obtain ⟨g3, g4⟩ := g2 j b g hg hj
        split at h
        · rename_i q hq
          have hw := g3 q hq
          cases q with
          | true =>
            simp only [cond_true] at h
            cases b with
            | true => exact run (put_self hq) ⟨rfl, rfl⟩ hw h
            | false => exact skip (put_self hq) ⟨rfl, rfl⟩ hw h
          | false =>
            simp only [cond_false] at h
            cases b with
            | true => exact skip (put_self hq) ⟨rfl, rfl⟩ hw h
            | false => exact run (put_self hq) ⟨rfl, rfl⟩ hw h
        · rename_i hq
          exact skip rfl ⟨rfl, rfl⟩ (g4 hq) h
        · cases h
end
end Go.Ax
