/- Ax, part W: FUNCTIONS: what a call comes to; calls by what is known of the callee. -/
import Derived.Test.YtlhebakbbfmiiaaDoorAxV
namespace Go.Ax
open Go.RowKit
/-- the view of a callee that is lent nothing -/
def v0 (el : Ck → TypeId) (M : Fp) (w : World) : Vx := ⟨⟨fun _ => 0, fun _ => none⟩, fun _ => False, M, w, 0, 0, el⟩
/-- the view of its results -/
def vr (el : Ck → TypeId) (M : Fp) (m : Mp) (sr : List Sg) (w : World) : Vx := ⟨m, fun t => t ∈ owns 0 sr, fun b i => M b i ∨ ∃ p o, p ∈ owns 0 sr ∧ m.tk p = some (b, o) ∧ o ≤ i, w, 0, sr.length, el⟩
/-- THE CONTRACT: at x the call returns F x. -/
structure FnOk (P : Program) (el : Ck → TypeId) (gl : Nat → Option Gv) (f : FuncId) (sa sr : List Sg) (F : HV sa → Option (HV sr)) : Prop where
  enters : Sx.Enters P f
  run : ∀ x r, F x = some r → ∀ (w : World) (M : Fp) (vs : List Value), (∀ b i, M b i → b < w.heap.size) → GlR (v0 el M w) gl → Reps (v0 el M w) (encL 0 sa x) vs →
    Calls P f vs.toArray w fun en w' => ∃ v m, en = .returned v ∧ Chg noFp w w' ∧ (∀ p g o, p ∈ owns 0 sr → m.tk p = some (g, o) → w.heap.size ≤ g ∧ g < w'.heap.size) ∧ (∀ p q g o o', p ∈ owns 0 sr → q ∈ owns 0 sr → m.tk p = some (g, o) → m.tk q = some (g, o') → p = q) ∧ Rep (vr el M m sr w') (pack (encL 0 sr r)) v
section
variable {R : Type} {px : Px R} {cx : Cx}
/-! ## results -/
theorem results_run (hp : PxOk cx px) {m : Mp} {a : Act} {as : List Act} {st : St} {w : World} (hr : Rel cx m a as (fs st) w) : ∀ {rs : List ResultVar} {ds : List D}, results px st rs = some ds → ∃ vs, Sem.run cx.P (rs.mapM (Sx.rdv a.tmps)) w = Result.ok vs w ∧ Reps (vx cx m (fs st) w) ds vs
  | [], ds, h => by simp only [results, Option.some.injEq] at h; subst h; exact ⟨[], by simp [go_sem], by simp [Reps]⟩
  | .tmp t :: rs, ds, h => by
    simp only [results] at h
    split at h
    · rename_i d ds' hd hds
      simp only [Option.some.injEq] at h
      subst h
      obtain ⟨vs, h1, h2⟩ := results_run hp hr hds
      obtain ⟨v, hv, hrep⟩ := hr.env.get t d hd
      refine ⟨v :: vs, ?_, by simp only [Reps]; exact ⟨v, vs, rfl, hrep, h2⟩⟩
      simp only [List.mapM_cons, Sx.rdv, Sem.run_bind, Sem.run_pure, Result.andThen_ok, Array.getD_eq_getD_getElem?, hv, Option.getD_some, h1]
    · cases h
  | .cell q t :: rs, ds, h => by
    simp only [results] at h
    split at h
    · rename_i p hpq
      split at h
      · rename_i d ds' hk hd hds
        simp only [Option.some.injEq] at h
        subst h
        obtain ⟨vs, h1, h2⟩ := results_run hp hr hds
        obtain ⟨pv, hpv, hrep⟩ := hr.env.get q p hpq
        rw [load_eq] at hd
        obtain ⟨u, h4, h5⟩ := loadF_run (s := fs st) hp hr hk hd hrep
        obtain ⟨ad, rfl⟩ : ∃ ad, pv = .pointer (some ad) := by
          cases p <;> simp only [loadF] at hd <;> first | (cases hd; done) | (simp only [Rep] at hrep; first | exact ⟨_, hrep⟩ | exact ⟨_, hrep.2⟩ | exact ⟨_, hrep.2.1⟩ | (obtain ⟨b, o, e, _⟩ := hrep; exact ⟨_, e⟩))
        refine ⟨u :: vs, ?_, by simp only [Reps]; exact ⟨u, vs, rfl, h5, h2⟩⟩
        simp only [Instr.loadAt, Instr.sureAddr, Sem.run_bind, Sem.run_pure, Result.andThen_ok] at h4
        simp only [List.mapM_cons, Sx.rdv, Sem.run_bind, Sem.run_pure, Result.andThen_ok, Array.getD_eq_getD_getElem?, hpv, Option.getD_some, asAddr, h4, h1]
      · cases h
    · cases h
theorem rep_pack {x : Vx} {ds : List D} {vs : List Value} (h : Reps x ds vs) : Rep x (pack ds) (Sx.resv vs) := by
  match ds, vs, h with
  | [], vs, h => simp only [Reps] at h; subst h; simp only [pack, Sx.resv, Rep]; exact ⟨[], rfl, by simp [Reps]⟩
  | [d], vs, h =>
    simp only [Reps] at h
    obtain ⟨u, us, rfl, h1, rfl⟩ := h
    exact h1
  | d :: e :: ds, vs, h =>
    have hl := h.len
    match vs, hl with
    | u :: w :: us, _ =>
      simp only [pack, Sx.resv, Rep]
      exact ⟨_, rfl, h⟩
theorem pack_rep {x : Vx} {ds : List D} {v : Value} (h : Rep x (pack ds) v) : ∃ vs, v = Sx.resv vs ∧ Reps x ds vs := by
  match ds, h with
  | [], h =>
    simp only [pack, Rep] at h
    obtain ⟨vs, rfl, hr⟩ := h
    simp only [Reps] at hr
    subst hr
    exact ⟨[], rfl, by simp [Reps]⟩
  | [d], h => exact ⟨[v], rfl, by simp only [Reps]; exact ⟨v, [], rfl, h, rfl⟩⟩
  | d :: e :: ds, h =>
    simp only [pack, Rep] at h
    obtain ⟨vs, rfl, hr⟩ := h
    have hl := hr.len
    match vs, hl with
    | u :: w :: us, _ => exact ⟨_, rfl, hr⟩
/-! ## from the machine's run to the contract -/
theorem st0_rel {P : Program} {el : Ck → TypeId} {gl : Nat → Option Gv} {sa : List Sg} (hsa : owns 0 sa = []) {x : HV sa} {n : Nat} (hn : sa.length ≤ n) {w : World} {M : Fp} {vs : List Value} (hM : ∀ b i, M b i → b < w.heap.size) (hgl : GlR (v0 el M w) gl) (hr : Reps (v0 el M w) (encL 0 sa x) vs) :
    Rel ⟨P, w, noFp, M, el, gl⟩ ⟨fun _ => 0, fun _ => none⟩ { tmps := vs.toArray ++ Array.replicate (n - vs.toArray.size) undef, defers := [] } [] (fs (st0 n sa x)) w := by
  have hfp : ∀ b i, fpOf ⟨fun _ => 0, fun _ => none⟩ (fs (st0 n sa x)) b i → False := by
    rintro b i (⟨k, hk, _⟩ | ⟨t, o, _, h2, _⟩)
    · exact hk rfl
    · cases h2
  have hlen : vs.length = sa.length := by rw [hr.len, encL_len]
  have nx : Nx (v0 el M w) (vx ⟨P, w, noFp, M, el, gl⟩ ⟨fun _ => 0, fun _ => none⟩ (fs (st0 n sa x)) w) := ⟨Chg.refl _ _, fun b i hi => hi.elim .inl (fun h => (hfp b i h).elim), rfl, fun b hb => (Nat.not_lt_zero _ hb).elim, Nat.zero_le _, Nat.zero_le _, fun t ht => (Nat.not_lt_zero _ ht).elim⟩
  have hreps := Reps.later nx _ _ hr
  have hget : ∀ (ds : List D) (us : List Value) (i k : Nat) (d : D), Reps (vx ⟨P, w, noFp, M, el, gl⟩ ⟨fun _ => 0, fun _ => none⟩ (fs (st0 n sa x)) w) ds us → get (envOf i ds) k = some d → ∃ v, i ≤ k ∧ us[k - i]? = some v ∧ Rep (vx ⟨P, w, noFp, M, el, gl⟩ ⟨fun _ => 0, fun _ => none⟩ (fs (st0 n sa x)) w) d v := by
    intro ds
    induction ds with
    | nil => intro us i k d _ h; simp [envOf, get] at h
    | cons e ds ih =>
      intro us i k d hr h
      simp only [Reps] at hr
      obtain ⟨u, us, rfl, h1, h2⟩ := hr
      simp only [envOf] at h
      rw [get_cons] at h
      by_cases hk : k = i
      · subst hk
        simp at h
        subst h
        exact ⟨u, Nat.le_refl _, by simp, h1⟩
      · rw [if_neg hk] at h
        obtain ⟨v, h3, h4, h5⟩ := ih us (i + 1) k d h2 h
        refine ⟨v, by omega, ?_, h5⟩
        rw [show k - i = (k - (i + 1)) + 1 by omega]
        simpa using h4
  refine ⟨Chg.refl _ _, ⟨rfl, ?_, fun k d hk => ?_⟩, rfl, Nat.zero_le _, Nat.zero_le _, fun b k hk => ?_, fun t ht => ?_, fun b b' h => (h rfl).elim, fun t t' g o o' _ _ h => (by cases h), fun b t g o h => (h rfl).elim, fun b i hi => (hfp b i hi).elim, fun b i j hm => ⟨hM b i hm, id⟩, ?_⟩
  · show _ = n
    simp
    omega
  · obtain ⟨v, _, h2, h3⟩ := hget _ _ 0 k d hreps hk
    rw [Nat.sub_zero] at h2
    refine ⟨v, ?_, h3⟩
    have hlt : k < vs.length := (List.getElem?_eq_some_iff.1 h2).1
    simp only [Array.getElem?_append, List.size_toArray, hlt, if_true]
    simpa using h2
  · cases hk
  · have : t ∈ owns 0 sa := ht
    rw [hsa] at this
    cases this
  · exact hgl.later nx
theorem fnOk_of {P : Program} {el : Ck → TypeId} {gl : Nat → Option Gv} {f : FuncId} {fn : Func} {c : Code} {sa sr : List Sg} {px : Px (HV sr)} {F : HV sa → Option (HV sr)} (hf : P.funcs[f]? = some fn) (hb : fn.body = some c) (hname : (fn.name == "runtime.NumGoroutine") = false) (hm : P.follows .mixedOrders = true) (hchk : (codeB fn.ntmps c && Nat.ble sa.length fn.ntmps && sameNs (owns 0 sa) []) = true)
    (hpx : ∀ cx : Cx, cx.P = P → cx.el = el → cx.gl = gl → PxOk cx px ∧ CallOk cx px ∧ CallQOk cx px ∧ ∀ b, b ∈ loopsOf c → LoopOk cx px b) (hF : ∀ x, runF px fn sa sr x some = F x) : FnOk P el gl f sa sr F := by
  refine ⟨Sx.enters_of hf (by rw [hb]; rfl) hname, fun x r hx w M vs hM hgl hr => ?_⟩
  simp only [Bool.and_eq_true] at hchk
  have hsa := sameNs_eq hchk.2
  have hn : sa.length ≤ fn.ntmps := by simpa using hchk.1.2
  have hrel := st0_rel (P := P) hsa hn hM hgl hr
  rw [← hF] at hx
  unfold runF at hx
  rw [hb] at hx
  simp only at hx
  obtain ⟨h1, h2, h3, h4⟩ := hpx ⟨P, w, noFp, M, el, gl⟩ rfl rfl rfl
  refine calls_of_wp hf hb (exec_sound h1 h2 h3 hm c _ _ r hchk.1.1 h4 hx _ _ _ [] w hrel ?_)
  intro e st' m' a' w' hk _ hrel'
  cases e with
  | normal => cases hk
  | exit id => cases hk
  | ret =>
    simp only at hk
    split at hk
    · rename_i rs hrs
      split at hk
      · rename_i r' hr'
        simp only [Option.some.injEq] at hk
        subst hk
        obtain ⟨us, hrun, hreps⟩ := results_run h1 hrel' hrs
        obtain ⟨as1, as2⟩ := asg_spec 0 hr'
        let mc : Mp := ⟨fun _ => 0, fun p => (asg 0 sr rs p).bind m'.tk⟩
        have horig : ∀ p g o, mc.tk p = some (g, o) → ∃ t, asg 0 sr rs p = some t ∧ t ∈ st'.tk ∧ m'.tk t = some (g, o) := fun p g o hg => by
          cases ha : asg 0 sr rs p with
          | none => simp only [mc, ha] at hg; cases hg
          | some t => simp only [mc, ha, Option.bind_some] at hg; exact ⟨t, rfl, (as1 p t ha).1, hg⟩
        have hS : ∀ b i, (vr el M mc sr w').S b i → (vx ⟨P, w, noFp, M, el, gl⟩ m' (fs st') w').S b i := by
          rintro b i (h | ⟨p, o, _, h2, h3⟩)
          · exact .inl h
          · obtain ⟨t, _, q2, q3⟩ := horig p b o h2
            exact .inr (.inr ⟨t, o, q2, q3, h3⟩)
        have hfin := decL_rep (X := vx ⟨P, w, noFp, M, el, gl⟩ m' (fs st') w') (X' := vr el M mc sr w') hS rfl rfl 0 hr' (fun t ht => ht) hreps (fun p hp => by
          have := (owns_low _ _ _ hp).2
          exact ⟨by simpa [vr] using this, rfl⟩)
        refine ⟨hrel'.env.defers, Sx.resv us, ?_, Sx.resv us, mc, rfl, hrel'.chg, fun p g o hp hg => ?_, fun p q g o o' _ _ hg hg' => ?_, rep_pack hfin⟩
        · obtain ⟨rl⟩ : ∃ rl, fn.results = List.toArray rl := ⟨fn.results.toList, by simp⟩
          rename_i hrl
          rw [Sx.results_eq, hrl]
          rw [hrl] at hrun
          simp only [List.mapM_toArray, Sem.run_bind, map_eq_pure_bind, Sem.run_pure, hrun, Result.andThen_ok]
          congr 1
          match us with
          | [] => rfl
          | [v] => rfl
          | _ :: _ :: _ => simp [Sx.resv]
        · obtain ⟨t, _, q2, q3⟩ := horig p g o hg
          have := hrel'.own g o (.inr ⟨t, o, q2, q3, Nat.le_refl _⟩)
          exact ⟨this.2.resolve_left id, this.1⟩
        · obtain ⟨t, q1, q2, q3⟩ := horig p g o hg
          obtain ⟨t', p1, p2, p3⟩ := horig q g o' hg'
          have := hrel'.injt t t' g o o' q2 p2 q3 p3
          subst this
          exact as2 p q t q1 p1
      · cases hk
    · cases hk
end
end Go.Ax
