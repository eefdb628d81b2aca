/- Ax, part R: regions that draw their order. -/
import Derived.Test.YtlhebakbbfmiiaaDoorAxQ
namespace Go.Ax
open Go.RowKit
section
variable {R : Type} {px : Px R} {cx : Cx}
def sW (o : Oper) (t s : FS) : FS := if isW o then setW t s else s
/-- What the operation makes of each state that agrees on what it looks at. -/
structure EffD (cx : Cx) (px : Px R) (o : Oper) (st st' : St) (d : D) : Prop where
  same : Same st st'
  still : isW o = false → fs st' = fs st
  grow : isA o = true → GrowA (fs st) (fs st')
  run : ∀ (s : FS) (m : Mp) (a : Act) (as : List Act) (w : World), (∀ t x, x ∈ o.op.operands → evF px s.env t x = evF px (get st.env) t x) → OkW o (fs st) s → Rel cx m a as s w → Yv cx.P a w o fun v w' => ∃ m', Rel cx m' a as (sW o (fs st') s) w' ∧ Rep (vx cx m' (sW o (fs st') s) w') d v
theorem notA {o : Oper} (h : isW o = false) : isA o = false := by
  cases ha : isA o
  · rfl
  · unfold isA at ha
    split at ha
    · rename_i ho; simp [isW, ho] at h
    · cases ha
theorem eff_w {o : Oper} {st st' : St} {d : D} (hw : isW o = true) (hg : isA o = true → GrowA (fs st) (fs st')) (h : Eff cx px o st st' d) : EffD cx px o st st' d :=
  ⟨h.same, fun e => by (rw [hw] at e; cases e), hg, fun s m a as w hag hW hr => by
    have := h.run s m a as w hag (hW.1 hw) hr
    simpa [sW, hw] using this⟩
theorem eff_q {o : Oper} {st : St} {d : D} (hw : isW o = false) (h : Quiet cx px o (get st.env) (blk st.bl) d) : EffD cx px o st st d :=
  ⟨⟨rfl, rfl, rfl, rfl, rfl⟩, fun _ => rfl, fun ha => (by rw [notA hw] at ha; cases ha), fun s m a as w hag hW hr => by
    obtain ⟨v, h1, h2⟩ := h s m a as w hag hW.2 hr
    exact .inl ⟨v, w, h1, m, by simpa [sW, hw] using hr, by simpa [sW, hw] using h2⟩⟩
theorem stepQ_notW {o : Oper} {st : St} {K : D → Option R} {r : R} (h : stepQ px o st K = some r) : isW o = false := by
  unfold stepQ at h
  split at h <;> rename_i ho <;> first
    | (simp [isW, ho]; done)
    | (cases h; done)
    | skip
  -- a builtin
  rename_i b xs ts
  split at h
  · rename_i ds hds
    split at h
    · rename_i d hd
      simp only [isW, ho]
      unfold builtinQ at hd
      split at hd <;> first | rfl | cases hd
    · cases h
  · cases h
theorem stepD_eff (hp : PxOk cx px) (hcq : CallQOk cx px) {o : Oper} (hb : opB o = true) {st : St} {K : D → St → Option R} {r : R} (h : stepD px o st K = some r) : ∃ d st', K d st' = some r ∧ EffD cx px o st st' d := by
  have quiet : ∀ {K : D → St → Option R}, (stepQ px o st fun d => K d st) = some r → ∃ d st', K d st' = some r ∧ EffD cx px o st st' d := fun h => by
    have hw := stepQ_notW h
    obtain ⟨d, hk, hq⟩ := stepQ_sem hp (opB_len hb) h
    exact ⟨d, st, hk, eff_q hw hq⟩
  unfold stepD at h
  split at h
  · rename_i t len ps ho
    have hw : isW o = false := by simp [isW, ho]
    simp only [step, ho] at h
    split at h
    · rename_i c hty
      split at h
      · rename_i l hl
        split at h
        · rename_i xs hcd hxs
          simp only [Bool.and_eq_true] at hcd
          refine ⟨_, _, h, ⟨rfl, rfl, rfl, rfl, rfl⟩, fun _ => rfl, fun ha => (by rw [notA hw] at ha; cases ha), fun s m a as w hag _ hr => ?_⟩
          obtain ⟨hxl, hlm, us, hrow, hrun⟩ := bslice_core hp ho hty hl (Nat.eq_of_beq_eq_true hcd.1) (by simpa using hcd.2) hxs hag hr
          simp only [sW, hw, Bool.false_eq_true, if_false]
          refine .inl ⟨_, _, hrun, m, hr.quiet (alloc_chg w _).1, ?_⟩
          have := fresh_sl hr (alloc_chg w (.cells us.toArray (cx.el c))).1 hrow ⟨Nat.le_refl _, by rw [hxl]; exact hlm⟩ (fun j u hj => by
            simp only [World.cell?, alloc_heap]
            simpa using hj)
          rw [hxl] at this
          exact this
        · cases h
      · cases h
    · cases h
  · rename_i q t x ho
    have hw : isW o = false := by simp [isW, ho]
    simp only [step, ho] at h
    split at h
    · rename_i l hx hty
      split at h
      · rename_i hs
        obtain ⟨_, hk⟩ := chk_some h
        refine ⟨_, _, hk, ⟨rfl, rfl, rfl, rfl, rfl⟩, fun _ => rfl, fun ha => (by rw [notA hw] at ha; cases ha), fun s m a as w hag _ hr => ?_⟩
        obtain ⟨v, w', h1, h2, h3⟩ := strbytes_core hp ho hx hty (isStr_spec hs) hag hr
        simp only [sW, hw, Bool.false_eq_true, if_false]
        exact .inl ⟨v, w', h1, m, h2, h3⟩
      · cases h
    · obtain ⟨d, hk, hq⟩ := stepQ_sem hp (opB_len hb) h
      refine ⟨_, _, hk, ⟨rfl, rfl, rfl, rfl, rfl⟩, fun _ => rfl, fun ha => (by rw [notA hw] at ha; cases ha), fun s m a as w hag hW hr => ?_⟩
      obtain ⟨v, h1, h2⟩ := hq s m a as w hag (fun hm => by rw [ho] at hm; cases hm) hr
      simp only [sW, hw, Bool.false_eq_true, if_false]
      refine .inl ⟨v, w, h1, m, hr, ?_⟩
      cases d <;> first | exact h2 | (simp only [strip, Rep] at h2 ⊢; exact ⟨h2.1, trivial⟩)
  · rename_i t ho
    have hw : isW o = true := by simp [isW, ho]
    split at h
    · rename_i hfr
      have grow : ∀ k, isA o = true → GrowA (fs st) (fs (newB st k)) := fun k _ => by
        have e : ∀ b, (fs (newB st k)).bl b = if b = st.nb then some k else blk st.bl b := fun b => blk_cons st.bl st.nb b k
        refine ⟨Nat.le_succ _, fun b q hb => ?_, fun b q hb => ?_⟩
        · have hb : blk st.bl b = some q := hb
          rw [e, if_neg (fun h => by rw [h, hfr] at hb; cases hb)]
          exact hb
        · rw [e] at hb
          split at hb
          · rename_i hbb; right; rw [hbb]; exact Nat.le_refl _
          · exact .inl hb
      simp only [step, ho] at h
      split at h
      · rename_i n c hty
        exact ⟨_, _, h, eff_w hw (grow _) (alloc_eff hp ho (.inl ⟨n, c, hty, rfl⟩))⟩
      · split at h
        · rename_i z hz
          refine ⟨_, _, h, eff_w hw (grow _) (alloc_eff hp ho (.inr ⟨z, fun e => ?_, hz, rfl⟩))⟩
          rw [e] at hz
          cases hz
        · cases h
    · cases h
  · rename_i f xs ts ho
    have hw : isW o = false := by simp [isW, ho]
    split at h
    · rename_i g caps hf
      split at h
      · rename_i ds hds
        obtain ⟨rs, hk, hent, hrun⟩ := hcq g (ds ++ caps) _ r h
        refine ⟨_, _, hk, ⟨rfl, rfl, rfl, rfl, rfl⟩, fun _ => rfl, fun ha => (by rw [notA hw] at ha; cases ha), fun s m a as w hag _ hr => ?_⟩
        rw [ev_eq, ← hag _ f (by simp [ho, Op.operands, Call.operands])] at hf
        obtain ⟨fv, _, h2, h3⟩ := hr.env.ev hf
        simp only [Rep] at h3
        obtain ⟨cvs, rfl, hcaps⟩ := h3
        obtain ⟨vs, _, h5, h6⟩ := evs_get hr.env hds (fun u q hq => by rw [ev_eq]; exact hag u q (by rw [ho]; simp [Op.operands, Call.operands]; right; simpa using hq))
        simp only [sW, hw, Bool.false_eq_true, if_false]
        refine .inr ⟨g, _, w, enter_run ho h2 h5 hent, (hrun s m a as w _ hr (h6.append hcaps)).mono ?_⟩
        rintro en w' ⟨v, e1, e2, e3⟩
        exact ⟨v, e1, m, e2, e3⟩
      · cases h
    · cases h
  · rename_i hn1 hn2 hn3 hn4
    unfold step at h
    split at h
    · rename_i t ho
      exact absurd ho (hn3 t)
    · rename_i t x ho
      have hw : isW o = true := by simp [isW, ho]
      split at h
      · rename_i d hd
        split at h
        · rename_i hl
          exact ⟨_, _, h, eff_w hw (fun ha => by simp [isA, ho] at ha) (box_eff ho hd hl)⟩
        · cases h
      · cases h
    · rename_i t len ps ho
      exact absurd ho (hn1 t len ps)
    · rename_i q t x ho
      exact absurd ho (hn2 q t x)
    · rename_i x y t t' ho
      have hw : isW o = true := by simp [isW, ho]
      split at h
      · rename_i c s d hty hx hy hbq
        have hbq := Nat.eq_of_beq_eq_true hbq
        subst hbq
        unfold appendK at h
        split at h
        · split at h
          · rename_i c' xs tk hcc
            subst hcc
            split at h
            · cases h
            · rename_i al hal
              split at h
              · cases h
              · rename_i ys hys
                obtain ⟨hl, hk⟩ := chk_some h
                obtain ⟨tk', rfl⟩ := toS_spec hys
                exact ⟨_, _, hk, eff_w hw (fun ha => by simp [isA, ho] at ha) (append_eff hp ho hty hx hy hal (by simpa using hl))⟩
          · cases h
        · cases h
      · cases h
    · rename_i f xs ts ho
      exact absurd ho (hn4 f xs ts)
    · exact quiet h
/-! ## the chain of states -/
def ChainL (cx : Cx) (all : Array Oper) : List Oper → FS → FS → Prop
  | [], a, b => a = b
  | o :: l, a, b => ∃ c, c = nextS o c a ∧ (isA o = true → GrowA a c) ∧ OpRun cx all o a c ∧ ChainL cx all l c b
theorem chainL_fun {all : Array Oper} : ∀ {l : List Oper} {a b : FS}, ChainL cx all l a b → ∃ s : Nat → FS, s 0 = a ∧ s l.length = b ∧ ∀ i o, l[i]? = some o → s (i + 1) = nextS o (s (i + 1)) (s i) ∧ (isA o = true → GrowA (s i) (s (i + 1))) ∧ OpRun cx all o (s i) (s (i + 1))
  | [], a, b, h => ⟨fun _ => a, rfl, h, by simp⟩
  | o :: l, a, b, ⟨c, h1, h2, h3, h4⟩ => by
    obtain ⟨s, e1, e2, e3⟩ := chainL_fun h4
    refine ⟨fun i => match i with | 0 => a | i + 1 => s i, rfl, e2, fun i o' ho' => ?_⟩
    cases i with
    | zero =>
      simp at ho'
      subst ho'
      simp only [e1]
      exact ⟨h1, h2, h3⟩
    | succ i => exact e3 i o' (by simpa using ho')
theorem ev_looks {all : Array Oper} {o : Oper} {s s0 : FS} (h : ∀ k, k ∈ o.looksAt all → s.env k = s0.env k) : ∀ t x, x ∈ o.op.operands → evF px s.env t x = evF px s0.env t x := by
  intro t x hx
  cases x with
  | tmp k => exact h k (List.mem_append_left _ (List.mem_filterMap.2 ⟨.tmp k, by simpa using hx, rfl⟩))
  | _ => rfl
theorem nextS_put {o : Oper} {st st' : St} {d : D} {k : Nat} (hd : o.dst = some k) (hs : Same st st') (hst : isW o = false → fs st' = fs st) (s : FS) : nextS o (fs (st'.put k d)) s = (sW o (fs st') s).put k d := by
  have _ := hs
  have _ := hst
  rw [fs_put]
  cases hw : isW o
  · have e1 : sW o (fs st') s = s := by simp [sW, hw]
    rw [e1]
    refine FS.eq rfl ?_ rfl rfl rfl (by simp [nextS, hw, FS.put]) (by simp [nextS, hw, FS.put]) (by simp [nextS, hw, FS.put]) (by simp [nextS, hw, FS.put])
    funext j
    simp [nextS, FS.put, hd]
  · have e1 : sW o (fs st') s = setW (fs st') s := by simp [sW, hw]
    rw [e1]
    refine FS.eq rfl ?_ rfl rfl rfl (by simp [nextS, hw, FS.put, setW]) (by simp [nextS, hw, FS.put, setW]) (by simp [nextS, hw, FS.put, setW]) (by simp [nextS, hw, FS.put, setW])
    funext j
    simp [nextS, FS.put, hd, setW]
theorem nextS_off {o : Oper} {st : St} {s : FS} (hW : isW o = true → sameW s (fs st)) : nextS o (fs (off o st)) s = match o.dst with
    | some k => s.put k .undef
    | none => s := by
  have hoff : (fs (off o st)).bl = (fs st).bl ∧ (fs (off o st)).nb = (fs st).nb ∧ (fs (off o st)).al = (fs st).al ∧ (fs (off o st)).nt = (fs st).nt := by
    unfold off
    split <;> exact ⟨rfl, rfl, rfl, rfl⟩
  have hbl : (nextS o (fs (off o st)) s).bl = s.bl ∧ (nextS o (fs (off o st)) s).nb = s.nb ∧ (nextS o (fs (off o st)) s).al = s.al ∧ (nextS o (fs (off o st)) s).nt = s.nt := by
    cases hw : isW o
    · simp [nextS, hw]
    · obtain ⟨h1, h2, h3, h4⟩ := hW hw
      simp only [nextS, hw, if_true, hoff.1, hoff.2.1, hoff.2.2.1, hoff.2.2.2]
      exact ⟨h1.symm, h2.symm, h3.symm, h4.symm⟩
  cases hd : o.dst with
  | none =>
    refine FS.eq rfl (by simp [nextS, hd]) rfl rfl rfl hbl.1 hbl.2.1 hbl.2.2.1 hbl.2.2.2
  | some k =>
    refine FS.eq rfl ?_ rfl rfl rfl hbl.1 hbl.2.1 hbl.2.2.1 hbl.2.2.2
    funext j
    have : (fs (off o st)).env k = some .undef := by
      unfold off
      rw [hd]
      simp only
      rw [fs_put]
      simp [FS.put]
    simp [nextS, FS.put, hd, this]
/-- one operation, carried out -/
theorem oneD_run (hp : PxOk cx px) (hcq : CallQOk cx px) {all : Array Oper} {o : Oper} (hb : opB o = true) {st : St} {K : St → Option R} {r : R} (h : one px true o st K = some r) : ∃ st', K st' = some r ∧ st'.n = st.n ∧ fs st' = nextS o (fs st') (fs st) ∧ (isA o = true → GrowA (fs st) (fs st')) ∧ ∀ (s : FS) (m : Mp) (a : Act) (as : List Act) (w : World), (∀ k, k ∈ o.looksAt all → s.env k = (fs st).env k) → OkW o (fs st) s → s.n = st.n → Rel cx m a as s w → Runs cx.P a w o fun a' w' => ∃ m', Rel cx m' a' as (nextS o (fs st') s) w' := by
  unfold one at h
  split at h
  · rename_i k hd
    split at h
    · rename_i hlt
      have hlt : k < st.n := by simpa [Nat.blt_eq] using hlt
      obtain ⟨d, st', hk, he⟩ := stepD_eff hp hcq hb h
      refine ⟨_, hk, he.same.1, ?_, fun ha => (by rw [fs_put]; exact he.grow ha), fun s m a as w hag hW hn hr => ?_⟩
      · rw [nextS_put hd he.same he.still]
        rw [fs_put]
        congr 1
        unfold sW
        split
        · exact (setW_same he.same).symm
        · rename_i hw
          exact he.still (by simpa using hw)
      · refine (he.run s m a as w (ev_looks hag) hW hr).runs fun v w' ⟨m', h1, h2⟩ => ⟨m', ?_⟩
        rw [nextS_put hd he.same he.still, hd]
        refine h1.put ?_ h2
        have : (sW o (fs st') s).n = s.n := by unfold sW; split <;> rfl
        rw [this, hn]
        exact hlt
    · cases h
  · rename_i hd
    obtain ⟨st', hk, he⟩ := stepN_eff (cx := cx) hp h
    have hw : isW o = true := by
      unfold stepN at h
      split at h
      · rename_i ho; simp [isW, ho]
      · cases h
    have hns : ∀ s, nextS o (fs st') s = setW (fs st') s := fun s => by
      refine FS.eq rfl (by simp [nextS, hd, setW]) rfl rfl rfl ?_ ?_ ?_ ?_ <;> simp [nextS, hw, setW]
    refine ⟨st', hk, he.same.1, ?_, fun ha => ?_, fun s m a as w hag hW hn hr => ?_⟩
    · rw [hns]
      exact (setW_same he.same).symm
    · exfalso
      unfold stepN at h
      split at h
      · rename_i ho; simp [isA, ho] at ha
      · cases h
    · obtain ⟨w', m', h1, h2⟩ := he.run s m a as w (ev_looks hag) (hW.1 hw) hr
      refine .inr (.inl ⟨w', h1, m', ?_⟩)
      rw [hd, hns]
      exact h2
theorem ops_chain (hp : PxOk cx px) (hcq : CallQOk cx px) {all : Array Oper} : ∀ {l : List Oper} {st : St} {K : St → Option R} {r : R}, (l.all fun o => opB o && dstB st.n o) = true → ops px true all l st K = some r → ∃ st', K st' = some r ∧ st'.n = st.n ∧ ChainL cx all l (fs st) (fs st')
  | [], st, K, r, _, h => ⟨st, h, rfl, rfl⟩
  | o :: l, st, K, r, hl, h => by
    simp only [List.all_cons, Bool.and_eq_true] at hl
    obtain ⟨⟨hb, hdst⟩, hl'⟩ := hl
    have hdlt : ∀ d, o.dst = some d → d < st.n := fun d hd => by simpa [dstB, hd, Nat.blt_eq] using hdst
    have hl2 : ∀ n, n = st.n → (l.all fun o => opB o && dstB n o) = true := fun n e => by subst e; exact hl'
    have hguard : ∀ (s : FS) (j : Nat) (b : Bool) (g : Nat), o.guard = some (j, b) → (all[j]?).bind (·.dst) = some g → (∀ k, k ∈ o.looksAt all → s.env k = (fs st).env k) → s.env g = get st.env g := fun s j b g hg hj hag => by
      refine hag g (List.mem_append_right _ ?_)
      rw [hg]
      simp [hj]
    have run : ∀ {st1 : St}, fs st1 = fs st → st1.n = st.n → (∀ (s : FS) (m : Mp) (a : Act) (as : List Act) (w : World), (∀ k, k ∈ o.looksAt all → s.env k = (fs st).env k) → Rel cx m a as s w → Region.wanted o (yielded all a.tmps) = true) → (one px true o st1 fun st' => ops px true all l st' K) = some r → ∃ st', K st' = some r ∧ st'.n = st.n ∧ ChainL cx all (o :: l) (fs st) (fs st') := by
      intro st1 he hn hw h1
      obtain ⟨st2, hk, hsn, hnx, hgr, hrun⟩ := oneD_run (all := all) hp hcq hb h1
      obtain ⟨st3, k1, k2, k3⟩ := ops_chain hp hcq (hl2 _ (hsn.trans hn)) hk
      refine ⟨st3, k1, k2.trans (hsn.trans hn), fs st2, by rw [← he]; exact hnx, by rw [← he]; exact hgr, fun s m a as w hag hW hsn' hr => ?_, k3⟩
      exact .inl ⟨hw s m a as w hag hr, hrun s m a as w (by rw [he]; exact hag) (by rw [he]; exact hW) (hsn'.trans hn.symm) hr⟩
    have skip : ∀ {st1 : St}, fs st1 = fs st → st1.n = st.n → (∀ (s : FS) (m : Mp) (a : Act) (as : List Act) (w : World), (∀ k, k ∈ o.looksAt all → s.env k = (fs st).env k) → Rel cx m a as s w → Region.wanted o (yielded all a.tmps) = false) → ops px true all l (off o st1) K = some r → ∃ st', K st' = some r ∧ st'.n = st.n ∧ ChainL cx all (o :: l) (fs st) (fs st') := by
      intro st1 he hn hw h1
      have hn' : (off o st1).n = st.n := by rw [← hn]; unfold off; split <;> rfl
      obtain ⟨st3, k1, k2, k3⟩ := ops_chain hp hcq (hl2 _ hn') h1
      have hnext : ∀ s : FS, (isW o = true → sameW s (fs st)) → nextS o (fs (off o st1)) s = match o.dst with
          | some k => s.put k .undef
          | none => s := fun s hW => nextS_off (by rw [he]; exact hW)
      refine ⟨st3, k1, k2.trans hn', fs (off o st1), ?_, fun _ => ?_, fun s m a as w hag hW hsn hr => .inr ⟨hw s m a as w hag hr, m, ?_⟩, k3⟩
      · rw [hnext (fs st) (fun _ => ⟨rfl, rfl, rfl, rfl⟩)]
        unfold off
        cases hd : o.dst with
        | none => exact he
        | some k => simp only; rw [fs_put, he]
      · have e1 : (fs (off o st1)).bl = (fs st).bl ∧ (fs (off o st1)).nb = (fs st).nb := by
          rw [← he]; unfold off; split <;> exact ⟨rfl, rfl⟩
        refine ⟨by rw [e1.2]; exact Nat.le_refl _, fun b k hb => by rw [e1.1]; exact hb, fun b k hb => .inl (by rw [← e1.1]; exact hb)⟩
      · rw [hnext s hW.1]
        cases hd : o.dst with
        | none => exact hr
        | some k => exact hr.put (by rw [hsn]; exact hdlt k hd) (by simp only [Rep]; rfl)
    simp only [ops] at h
    split at h
    · rename_i hg
      exact run rfl rfl (fun s m a as w _ hr => (guard_wanted (all := all) (o := o) hr.env).1 hg) h
    · rename_i j b hg
      split at h
      · cases h
      · rename_i g hj
        have g3 : ∀ q, get st.env g = some (.bool q) → ∀ (s : FS) (m : Mp) (a : Act) (as : List Act) (w : World), (∀ k, k ∈ o.looksAt all → s.env k = (fs st).env k) → Rel cx m a as s w → Region.wanted o (yielded all a.tmps) = (q == b) := fun q hq s m a as w hag hr => ((guard_wanted (all := all) (o := o) hr.env).2 j b g hg hj).1 q (by rw [hguard s j b g hg hj hag]; exact hq)
        split at h
        · rename_i q hq
          have hw := g3 q hq
          cases q with
          | true =>
            simp only [cond_true] at h
            cases b with
            | true => exact run (put_self hq) rfl hw h
            | false => exact skip (put_self hq) rfl hw h
          | false =>
            simp only [cond_false] at h
            cases b with
            | true => exact skip (put_self hq) rfl hw h
            | false => exact run (put_self hq) rfl hw h
        · rename_i hq
          exact skip rfl rfl (fun s m a as w hag hr => ((guard_wanted (all := all) (o := o) hr.env).2 j b g hg hj).2 (by rw [hguard s j b g hg hj hag]; exact hq)) h
        · cases h
end
end Go.Ax
