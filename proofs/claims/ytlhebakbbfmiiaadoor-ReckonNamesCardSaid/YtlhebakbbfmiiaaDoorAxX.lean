/- Ax, part X: calls by a contract, and by running the callee's code. -/
import Derived.Test.YtlhebakbbfmiiaaDoorAxW
namespace Go.Ax
open Go.RowKit
section
variable {R : Type} {px : Px R} {cx : Cx}
/-- results, under other names for their rights -/
theorem enc1_shift {x x' : Vx} {n i : Nat} (hS : ∀ b j, x'.S b j → x.S b j) (hw : x'.w = x.w) (hel : x'.el = x.el) : ∀ {s : Sg} {y : den s} {v : Value}, Rep x (enc1 i s y) v → (∀ c, s = .sl c true → x.al i ∧ n + i < x'.nt ∧ x'.m.tk (n + i) = x.m.tk i) → Rep x' (enc1 (n + i) s y) v := by
  have hrf : ∀ {d : D} {v : Value}, RF x.S x.w d v → RF x'.S x'.w d v := fun h => by
    rw [hw]
    exact h.later (Chg.refl _ _) (fun k j hk => .inl (hS k j hk))
  intro s y v h hown
  cases s with
  | int k => simpa [enc1, Rep] using h
  | bool => simpa [enc1, Rep] using h
  | str => simpa [enc1, Rep] using h
  | sl c own =>
    cases own with
    | false => simp only [enc1, Rep] at h ⊢; exact ⟨hrf h.1, trivial⟩
    | true =>
      obtain ⟨h1, h2, h3⟩ := hown c rfl
      simp only [enc1, Rep] at h ⊢
      refine ⟨hrf h.1, h2, fun _ => ?_⟩
      rcases h.2.2 h1 with ⟨a1, a2, a3⟩ | ⟨g, cap, cur, a1, a2, a3, a4⟩
      · exact .inl ⟨a1, h3.trans a2, a3⟩
      · exact .inr ⟨g, cap, cur, a1, h3.trans a2, by rw [hw, hel]; exact a3, a4⟩
  | sv c =>
    simp only [enc1, Rep] at h ⊢
    obtain ⟨h1, vs, h2, h3, h4⟩ := h
    exact ⟨h1, vs, h2, h3, fun j d hd => by obtain ⟨u, hu, hf⟩ := h4 j d hd; exact ⟨u, hu, hrf hf⟩⟩
  | rw c k =>
    simp only [enc1, Rep] at h ⊢
    obtain ⟨h1, vs, h2, h3, h4⟩ := h
    exact ⟨h1, vs, h2, h3, fun q z j d hz hd => by obtain ⟨u, hu, hf⟩ := h4 q z j d hz hd; exact ⟨u, hu, hrf hf⟩⟩
theorem owns_cons {i p : Nat} {a : Sg} {l : List Sg} (h : p ∈ owns (i + 1) l) : p ∈ owns i (a :: l) := by
  cases a with
  | sl c own => cases own with
    | true => exact List.mem_cons_of_mem _ h
    | false => exact h
  | _ => exact h
theorem encL_shift {x x' : Vx} {n : Nat} (hS : ∀ b j, x'.S b j → x.S b j) (hw : x'.w = x.w) (hel : x'.el = x.el) : ∀ {l : List Sg} {y : HV l} {vs : List Value} (i : Nat), Reps x (encL i l y) vs → (∀ p, p ∈ owns i l → x.al p ∧ n + p < x'.nt ∧ x'.m.tk (n + p) = x.m.tk p) → Reps x' (encL (n + i) l y) vs
  | [], y, vs, i, h, _ => by simpa [encL, Reps] using h
  | [a], y, vs, i, h, hown => by
    simp only [encL, Reps] at h ⊢
    obtain ⟨u, us, h1, h2, h3⟩ := h
    exact ⟨u, us, h1, enc1_shift hS hw hel h2 (fun c hc => by subst hc; exact hown i (by simp [owns])), h3⟩
  | a :: b :: l, (y, z), vs, i, h, hown => by
    simp only [encL, Reps] at h ⊢
    obtain ⟨u, us, h1, h2, h3⟩ := h
    refine ⟨u, us, h1, enc1_shift hS hw hel h2 (fun c hc => by subst hc; exact hown i (by simp [owns])), ?_⟩
    have := encL_shift hS hw hel (i + 1) h3 (fun p hp => hown p (owns_cons hp))
    rwa [← Nat.add_assoc] at this
theorem owns_shift : ∀ (l : List Sg) (n i p : Nat), p ∈ owns (n + i) l ↔ ∃ q, q ∈ owns i l ∧ p = n + q
  | [], n, i, p => by simp [owns]
  | s :: l, n, i, p => by
    have ih := owns_shift l n (i + 1) p
    have rest : (owns (n + i) (s :: l) = owns (n + i + 1) l ∧ owns i (s :: l) = owns (i + 1) l) ∨ (owns (n + i) (s :: l) = (n + i) :: owns (n + i + 1) l ∧ owns i (s :: l) = i :: owns (i + 1) l) := by
      cases s with
      | sl c own => cases own with
        | true => exact .inr ⟨rfl, rfl⟩
        | false => exact .inl ⟨rfl, rfl⟩
      | _ => exact .inl ⟨rfl, rfl⟩
    rcases rest with ⟨e1, e2⟩ | ⟨e1, e2⟩
    · rw [e1, e2]; exact ih
    · rw [e1, e2]
      simp only [List.mem_cons]
      constructor
      · rintro (rfl | h)
        · exact ⟨i, .inl rfl, rfl⟩
        · obtain ⟨q, h1, h2⟩ := ih.1 h
          exact ⟨q, .inr h1, h2⟩
      · rintro ⟨q, h1 | h1, h2⟩
        · subst h1; exact .inl h2
        · exact .inr (ih.2 ⟨q, h1, h2⟩)
/-- what the callee may be told -/
theorem callee_pre {m : Mp} {a : Act} {as : List Act} {s : FS} {w : World} (hr : Rel cx m a as s w) : (∀ b i, (vx cx m s w).S b i → b < w.heap.size) ∧ GlR (v0 cx.el (vx cx m s w).S w) cx.gl := by
  refine ⟨fun b i hi => ?_, hr.glb⟩
  rcases hi with h | h
  · have := (hr.away b i 0 h).1
    have := hr.chg.size
    omega
  · exact (hr.own b i h).1
theorem callOr_ok {g : Nat} {sa sr : List Sg} {F : HV sa → Option (HV sr)} (h : FnOk cx.P cx.el cx.gl g sa sr F) (hsa : sameNs (owns 0 sa) [] = true) {args : List D} {st : St} {K : List D → St → Option R} {r : R} (hc : callOr sa sr F args st K = some r) : CallOk1 cx g args st K r := by
  unfold callOr at hc
  split at hc
  · rename_i x hx
    cases hF : F x with
    | none => rw [hF] at hc; cases hc
    | some r0 =>
      rw [hF, Option.bind_some] at hc
      have hsa := sameNs_eq hsa
      refine ⟨h.enters, fun m a as w vs hr hargs => ?_⟩
      obtain ⟨hM, hgl⟩ := callee_pre hr
      have hin : Reps (v0 cx.el (vx cx m (fs st) w).S w) (encL 0 sa x) vs := decL_rep (X := vx cx m (fs st) w) (X' := v0 cx.el (vx cx m (fs st) w).S w) (fun _ _ h => h) rfl rfl 0 hx (fun t ht => ht) hargs (fun p hp => by rw [hsa] at hp; cases hp)
      refine (h.run x r0 hF w _ vs hM hgl hin).mono ?_
      rintro en w' ⟨v, mc, rfl, hch, hfresh, hinj, hrep⟩
      refine ⟨v, rfl, encL st.nt sr r0, { st with tk := owns st.nt sr ++ st.tk, nt := st.nt + sr.length }, ?_⟩
      have hb : ∀ k, k < w.heap.size → w'.heap[k]? = w.heap[k]? := fun k hk => hch.block k hk (fun _ h => h)
      let st' : St := { st with tk := owns st.nt sr ++ st.tk, nt := st.nt + sr.length }
      let m' : Mp := ⟨m.bl, fun t => if t < st.nt then m.tk t else mc.tk (t - st.nt)⟩
      have htok : ∀ t, (fs st').al t → ((fs st).al t ∧ t < st.nt ∧ m'.tk t = m.tk t) ∨ ∃ q, q ∈ owns 0 sr ∧ t = st.nt + q ∧ m'.tk t = mc.tk q := fun t ht => by
        have ht : t ∈ owns st.nt sr ++ st.tk := ht
        simp only [List.mem_append] at ht
        rcases ht with ht | ht
        · have := (owns_shift sr st.nt 0 t).1 (by simpa using ht)
          obtain ⟨q, h1, h2⟩ := this
          refine .inr ⟨q, h1, h2, ?_⟩
          simp only [m', h2]
          rw [if_neg (by omega), show st.nt + q - st.nt = q by omega]
        · have hlt : t < st.nt := hr.als t ht
          exact .inl ⟨ht, hlt, by simp [m', hlt]⟩
      have fp : ∀ b i, fpOf m' (fs st') b i → fpOf m (fs st) b i ∨ ∃ q o, q ∈ owns 0 sr ∧ mc.tk q = some (b, o) ∧ o ≤ i := by
        rintro b i (⟨q, hq, rfl⟩ | ⟨t, o, h1, h2, h3⟩)
        · exact .inl (.inl ⟨q, hq, rfl⟩)
        · rcases htok t h1 with ⟨q1, _, q3⟩ | ⟨q, q1, _, q3⟩
          · rw [q3] at h2; exact .inl (.inr ⟨t, o, q1, h2, h3⟩)
          · rw [q3] at h2; exact .inr ⟨q, o, q1, h2, h3⟩
      have nx : Nx (vx cx m (fs st) w) (vx cx m' (fs st') w') := by
        refine ⟨hch.mono (fun _ _ h => h.elim), ?_, rfl, fun _ _ => rfl, Nat.le_refl _, Nat.le_add_right _ _, fun t ht ha => ?_⟩
        · rintro b i (hM | hf)
          · exact .inl (.inl hM)
          · rcases fp b i hf with h | ⟨q, o, h1, h2, _⟩
            · exact .inl (.inr h)
            · exact .inr (hfresh q b o h1 h2).1
        · have ht : t < st.nt := ht
          rcases htok t ha with ⟨q1, _, q3⟩ | ⟨q, _, q2, _⟩
          · exact ⟨q1, q3, fun g o hg => hb g (hr.own_t q1 hg)⟩
          · omega
      refine ⟨m', hc, ⟨rfl, rfl, rfl, rfl, rfl⟩, hr.step (s' := fs st') rfl rfl rfl rfl rfl (hch.mono (fun _ _ h => h.elim)) nx ?_ ?_ hr.inj ?_ ?_ ?_, ?_⟩
      · intro b k hk
        obtain ⟨h1, h2⟩ := hr.blks b k hk
        exact ⟨h1, h2.later nx (hb _ (hr.own_b (by rw [show (fs st).bl b = some k from hk]; simp)))⟩
      · intro t ht
        rcases htok t ht with ⟨_, q2, _⟩ | ⟨q, q1, q2, _⟩
        · show t < st.nt + sr.length
          omega
        · have := (owns_low _ _ _ q1).2
          show t < st.nt + sr.length
          omega
      · intro t t' g o o' h1 h2 h3 h4
        rcases htok t h1 with ⟨q1, q2, q3⟩ | ⟨q, q1, q2, q3⟩ <;> rcases htok t' h2 with ⟨p1, p2, p3⟩ | ⟨p, p1, p2, p3⟩
        · rw [q3] at h3; rw [p3] at h4; exact hr.injt t t' g o o' q1 p1 h3 h4
        · rw [q3] at h3; rw [p3] at h4
          have := hr.own_t q1 h3
          have := (hfresh p g o' p1 h4).1
          omega
        · rw [q3] at h3; rw [p3] at h4
          have := hr.own_t p1 h4
          have := (hfresh q g o q1 h3).1
          omega
        · rw [q3] at h3; rw [p3] at h4
          rw [q2, p2, hinj q p g o o' q1 p1 h3 h4]
      · intro b t g o h1 h2 h3
        rcases htok t h2 with ⟨q1, _, q3⟩ | ⟨q, q1, _, q3⟩
        · rw [q3] at h3; exact hr.injbt b t g o h1 q1 h3
        · rw [q3] at h3
          have := (hfresh q g o q1 h3).1
          have := hr.own_b h1
          show m.bl b ≠ g
          omega
      · intro b i hf
        rcases fp b i hf with h | ⟨q, o, h1, h2, _⟩
        · exact ⟨Nat.lt_of_lt_of_le (hr.own b i h).1 hch.size, .inl h⟩
        · exact ⟨(hfresh q b o h1 h2).2, .inr (hfresh q b o h1 h2).1⟩
      · obtain ⟨us, rfl, hreps⟩ := pack_rep hrep
        refine rep_pack ?_
        have := encL_shift (x := vr cx.el (vx cx m (fs st) w).S mc sr w') (x' := vx cx m' (fs st') w') (n := st.nt) (by
          rintro b i (h | h)
          · exact .inl (.inl h)
          · rcases fp b i h with h | ⟨q, o, h1, h2, h3⟩
            · exact .inl (.inr h)
            · exact .inr ⟨q, o, h1, h2, h3⟩) rfl rfl 0 hreps (fun p hp => by
          have := (owns_low _ _ _ hp).2
          refine ⟨hp, ?_, ?_⟩
          · show st.nt + p < st.nt + sr.length
            omega
          · show m'.tk (st.nt + p) = mc.tk p
            simp only [m']
            rw [if_neg (by omega), show st.nt + p - st.nt = p by omega])
        rwa [Nat.add_zero] at this
  · cases hc
/-! ## the callee's code, run -/
theorem callIn_ok {pc : Px R} (hp : PxOk cx pc) (hcl : CallOk cx pc) (hcq : CallQOk cx pc) (hm : cx.P.follows .mixedOrders = true) {g : Nat} {fn : Func} {c : Code} (hf : cx.P.funcs[g]? = some fn) (hb : fn.body = some c) (hname : (fn.name == "runtime.NumGoroutine") = false) (hcode : codeB fn.ntmps c = true) (hl : ∀ b, b ∈ loopsOf c → LoopOk cx pc b) {args : List D} (hargs : Nat.ble args.length fn.ntmps = true) {st : St} {K : List D → St → Option R} {r : R} (hc : callIn pc fn args st K = some r) : CallOk1 cx g args st K r := by
  refine ⟨Sx.enters_of hf (by rw [hb]; rfl) hname, fun m a as w vs hr hreps => ?_⟩
  unfold callIn at hc
  rw [hb] at hc
  simp only at hc
  have hlen : vs.length ≤ fn.ntmps := by rw [hreps.len]; simpa using hargs
  have hget : ∀ (ds : List D) (us : List Value) (i k : Nat) (d : D), Reps (vx cx m (fs st) w) ds us → get (envOf i ds) k = some d → ∃ v, i ≤ k ∧ us[k - i]? = some v ∧ Rep (vx cx m (fs st) w) d v := by
    intro ds
    induction ds with
    | nil => intro us i k d _ h; simp [envOf, get] at h
    | cons e ds ih =>
      intro us i k d hr h
      simp only [Reps] at hr
      obtain ⟨u, us, rfl, h1, h2⟩ := hr
      simp only [envOf] at h
      rw [get_cons] at h
      by_cases hk : k = i
      · subst hk
        simp at h
        subst h
        exact ⟨u, Nat.le_refl _, by simp, h1⟩
      · rw [if_neg hk] at h
        obtain ⟨v, h3, h4, h5⟩ := ih us (i + 1) k d h2 h
        refine ⟨v, by omega, ?_, h5⟩
        rw [show k - i = (k - (i + 1)) + 1 by omega]
        simpa using h4
  have hrel : Rel cx m { tmps := vs.toArray ++ Array.replicate (fn.ntmps - vs.toArray.size) undef, defers := [] } (a :: as) (fs { st with n := fn.ntmps, env := envOf 0 args, lb := st.nb, lt := st.nt, fr := ⟨st.n, st.env, st.lb, st.lt⟩ :: st.fr }) w := by
    refine ⟨hr.chg, ⟨rfl, ?_, fun k d hk => ?_⟩, ⟨a, as, rfl, hr.lb, hr.lt, hr.env, hr.frs⟩, Nat.le_refl _, Nat.le_refl _, hr.blks, hr.als, hr.inj, hr.injt, hr.injbt, hr.own, hr.away, hr.glb⟩
    · show _ = fn.ntmps
      simp
      omega
    · obtain ⟨v, _, h2, h3⟩ := hget _ _ 0 k d hreps hk
      rw [Nat.sub_zero] at h2
      refine ⟨v, ?_, h3⟩
      have hlt : k < vs.length := (List.getElem?_eq_some_iff.1 h2).1
      simp only [Array.getElem?_append, List.size_toArray, hlt, if_true]
      simpa using h2
  refine calls_of_wp hf hb (exec_sound hp hcl hcq hm c _ _ r hcode hl hc _ m _ (a :: as) w hrel ?_)
  intro e st' m' a' w' hk hsame hrel'
  cases e with
  | normal => cases hk
  | exit id => cases hk
  | ret =>
    simp only at hk
    have hfr : st'.fr = ⟨st.n, st.env, st.lb, st.lt⟩ :: st.fr := hsame.2
    split at hk
    · rename_i rs f fr hrs hfr'
      rw [hfr] at hfr'
      simp only [List.cons.injEq] at hfr'
      obtain ⟨rfl, rfl⟩ := hfr'
      obtain ⟨us, hrun, hres⟩ := results_run hp hrel' hrs
      have hfrs := hrel'.frs
      have e1 : (fs st').fr = ⟨st.n, st.env, st.lb, st.lt⟩ :: st.fr := hfr
      rw [e1] at hfrs
      obtain ⟨a0, r0, he0, h1, h2, h3, h4⟩ := hfrs
      simp only [List.cons.injEq] at he0
      obtain ⟨rfl, rfl⟩ := he0
      have hx : Nx { vx cx m' (fs st') w' with nb := (fs st').lb, nt := (fs st').lt } (vx cx m' (fs st') w') := ⟨Chg.refl _ _, fun _ _ h => .inl h, rfl, fun _ _ => rfl, hrel'.lb, hrel'.lt, fun t _ ha => ⟨ha, rfl, fun _ _ _ => rfl⟩⟩
      refine ⟨hrel'.env.defers, Sx.resv us, ?_, Sx.resv us, rfl, rs, _, m', hk, ⟨rfl, rfl, rfl, rfl, rfl⟩, ⟨hrel'.chg, h3.later hx, h4, Nat.le_trans h1 hrel'.lb, Nat.le_trans h2 hrel'.lt, hrel'.blks, hrel'.als, hrel'.inj, hrel'.injt, hrel'.injbt, hrel'.own, hrel'.away, hrel'.glb⟩, rep_pack hres⟩
      obtain ⟨rl⟩ : ∃ rl, fn.results = List.toArray rl := ⟨fn.results.toList, by simp⟩
      rename_i hrl
      rw [Sx.results_eq, hrl]
      rw [hrl] at hrun
      simp only [List.mapM_toArray, Sem.run_bind, map_eq_pure_bind, Sem.run_pure, hrun, Result.andThen_ok]
      congr 1
      match us with
      | [] => rfl
      | [v] => rfl
      | _ :: _ :: _ => simp [Sx.resv]
    · cases hk
theorem reps_strip {x x' : Vx} (hS : ∀ b j, x'.S b j → x.S b j) (hw : x'.w = x.w) : ∀ {l : List Sg} {y : HV l} {vs : List Value} (i : Nat), Reps x (encL i l y) vs → Reps x' ((encL i l y).map strip) vs := by
  have hrf : ∀ {d : D} {v : Value}, RF x.S x.w d v → RF x'.S x'.w d v := fun h => by
    rw [hw]
    exact h.later (Chg.refl _ _) (fun k j hk => .inl (hS k j hk))
  have one : ∀ {i : Nat} {s : Sg} {y : den s} {v : Value}, Rep x (enc1 i s y) v → Rep x' (strip (enc1 i s y)) v := by
    intro i s y v h
    cases s with
    | int k => simpa [enc1, strip, Rep] using h
    | bool => simpa [enc1, strip, Rep] using h
    | str => simpa [enc1, strip, Rep] using h
    | sl c own =>
      cases own <;> simp only [enc1, strip, Rep] at h ⊢ <;> exact ⟨hrf h.1, trivial⟩
    | sv c =>
      simp only [enc1, strip, Rep] at h ⊢
      obtain ⟨h1, vs, h2, h3, h4⟩ := h
      exact ⟨h1, vs, h2, h3, fun j d hd => by obtain ⟨u, hu, hf⟩ := h4 j d hd; exact ⟨u, hu, hrf hf⟩⟩
    | rw c k =>
      simp only [enc1, strip, Rep] at h ⊢
      obtain ⟨h1, vs, h2, h3, h4⟩ := h
      exact ⟨h1, vs, h2, h3, fun q z j d hz hd => by obtain ⟨u, hu, hf⟩ := h4 q z j d hz hd; exact ⟨u, hu, hrf hf⟩⟩
  intro l
  induction l with
  | nil => intro y vs i h; simpa [encL, Reps] using h
  | cons a l ih =>
    intro y vs i h
    cases l with
    | nil =>
      simp only [encL, List.map_cons, List.map_nil, Reps] at h ⊢
      obtain ⟨u, us, h1, h2, h3⟩ := h
      exact ⟨u, us, h1, one h2, h3⟩
    | cons b l =>
      obtain ⟨y, z⟩ := y
      simp only [encL, List.map_cons, Reps] at h ⊢
      obtain ⟨u, us, h1, h2, h3⟩ := h
      exact ⟨u, us, h1, one h2, ih (i + 1) h3⟩
theorem callOrQ_ok {g : Nat} {sa sr : List Sg} {F : HV sa → Option (HV sr)} (h : FnOk cx.P cx.el cx.gl g sa sr F) (hsa : sameNs (owns 0 sa) [] = true) {args : List D} {K : List D → Option R} {r : R} (hc : callOrQ sa sr F args K = some r) : ∃ rs, K rs = some r ∧ Sx.Enters cx.P g ∧ ∀ (s : FS) (m : Mp) (a : Act) (as : List Act) (w : World) (vs : List Value), Rel cx m a as s w → Reps (vx cx m s w) args vs → Calls cx.P g vs.toArray w fun en w' => ∃ v, en = .returned v ∧ Rel cx m a as s w' ∧ Rep (vx cx m s w') (pack (rs.map strip)) v := by
  unfold callOrQ at hc
  split at hc
  · rename_i x hx
    cases hF : F x with
    | none => rw [hF] at hc; cases hc
    | some r0 =>
      rw [hF, Option.bind_some] at hc
      have hsa := sameNs_eq hsa
      refine ⟨_, hc, h.enters, fun s m a as w vs hr hargs => ?_⟩
      obtain ⟨hM, hgl⟩ := callee_pre hr
      have hin : Reps (v0 cx.el (vx cx m s w).S w) (encL 0 sa x) vs := decL_rep (X := vx cx m s w) (X' := v0 cx.el (vx cx m s w).S w) (fun _ _ h => h) rfl rfl 0 hx (fun t ht => by cases ht) hargs (fun p hp => by rw [hsa] at hp; cases hp)
      refine (h.run x r0 hF w _ vs hM hgl hin).mono ?_
      rintro en w' ⟨v, mc, rfl, hch, _, _, hrep⟩
      refine ⟨v, rfl, hr.quiet hch, ?_⟩
      obtain ⟨us, rfl, hreps⟩ := pack_rep hrep
      exact rep_pack (reps_strip (x := vr cx.el (vx cx m s w).S mc sr w') (x' := vx cx m s w') (fun b i h => .inl h) rfl 0 hreps)
  · cases hc
end
end Go.Ax
