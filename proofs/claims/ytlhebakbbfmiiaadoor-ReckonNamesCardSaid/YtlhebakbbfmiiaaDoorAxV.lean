/- Ax, part V: CODE: what the machine says of it is so. Loops. -/
import Derived.Test.YtlhebakbbfmiiaaDoorAxU
namespace Go.Ax
open Go.RowKit
/-- closed facts on a code -/
def codeB (n : Nat) : Code → Bool
  | .region _ os dr => (os.toList.all fun o => opB o && dstB n o) && (!dr || drawB os)
  | .seq a b => codeB n a && codeB n b
  | .cond _ a b => codeB n a && codeB n b
  | .block _ b => codeB n b
  | .loop b => codeB n b
  | .scope b => codeB n b
  | _ => true
def exitOf : Ex → Exit
  | .normal => .normal
  | .exit id => .exit id
  | .ret => .ret
section
variable {R : Type} {px : Px R} {cx : Cx}
def LoopOk (cx : Cx) (px : Px R) (b : Code) : Prop := ∀ (st : St) (K : Ex → St → Option R) (r : R), px.loop b st K = some r → ∀ (Q : Exit → Act → World → Prop) (m : Mp) (a : Act) (as : List Act) (w : World), codeB st.n b = true → Rel cx m a as (fs st) w → (∀ e st' m' a' w', K e st' = some r → (st'.n = st.n ∧ st'.fr = st.fr) → Rel cx m' a' as (fs st') w' → Q (exitOf e) a' w') → (Code.loop b).wp cx.P Q a w
theorem chain_fr {ops : Array Oper} {s : Nat → FS} (hc : Chain ops s) : ∀ t, t ≤ ops.size → (s t).fr = (s 0).fr
  | 0, _ => rfl
  | t + 1, ht => by
    obtain ⟨o, ho⟩ : ∃ o, ops[t]? = some o := ⟨_, Array.getElem?_eq_getElem (by omega)⟩
    have := congrArg FS.fr (hc t o ho)
    rw [this]
    exact chain_fr hc t (by omega)
theorem fd_none {ops : Array Oper} {s : Nat → FS} : ∀ t, Fd ops s (fun _ => false) t = s 0
  | 0 => rfl
  | t + 1 => by
    simp only [Fd]
    split
    · simp [fd_none t]
    · exact fd_none t
theorem exec_sound (hp : PxOk cx px) (hc : CallOk cx px) (hcq : CallQOk cx px) (hm : cx.P.follows .mixedOrders = true) : ∀ (c : Code) (st : St) (K : Ex → St → Option R) (r : R), codeB st.n c = true → (∀ b, b ∈ loopsOf c → LoopOk cx px b) → exec px c st K = some r →
    ∀ (Q : Exit → Act → World → Prop) (m : Mp) (a : Act) (as : List Act) (w : World), Rel cx m a as (fs st) w → (∀ e st' m' a' w', K e st' = some r → (st'.n = st.n ∧ st'.fr = st.fr) → Rel cx m' a' as (fs st') w' → Q (exitOf e) a' w') → c.wp cx.P Q a w
  | .skip, st, K, r, _, _, h, Q, m, a, as, w, hr, hQ => wp_skip (hQ .normal st m a w h ⟨rfl, rfl⟩ hr)
  | .label l, st, K, r, _, _, h, Q, m, a, as, w, hr, hQ => wp_label (hQ .normal st m a w h ⟨rfl, rfl⟩ hr)
  | .exit id, st, K, r, _, _, h, Q, m, a, as, w, hr, hQ => wp_exit (hQ (.exit id) st m a w h ⟨rfl, rfl⟩ hr)
  | .ret, st, K, r, _, _, h, Q, m, a, as, w, hr, hQ => wp_ret (hQ .ret st m a w h ⟨rfl, rfl⟩ hr)
  | .region id ⟨l⟩ dr, st, K, r, hb, _, h, Q, m, a, as, w, hr, hQ => by
    simp only [codeB, Bool.and_eq_true] at hb
    simp only [exec] at h
    cases dr with
    | false => exact wp_region_lit (ops_seq hp hc hb.1 h hr (fun st' m' a' w' h1 h2 h3 => hQ .normal st' m' a' w' h1 h2 h3))
    | true =>
      obtain ⟨st', h1, h2, h3⟩ := ops_chain hp hcq hb.1 h
      obtain ⟨s, s0, s1, s2⟩ := chainL_fun h3
      have hch : Chain (Array.mk l) s := fun i o ho => (s2 i o (by simpa using ho)).1
      have hsz : (Array.mk l).size = l.length := rfl
      refine wp_region_any hm (any_of_chain (s := s) (as := as) (by simpa using hb.2) hch (fun i o ho => (s2 i o (by simpa using ho)).2.2) (fun i o ho => (s2 i o (by simpa using ho)).2.1) (fun m' a' w' hrel => ?_) _ _ _ _ (by simp) ?_ ?_ ⟨m, ?_⟩)
      · rw [hsz, s1] at hrel
        have hfr : st'.fr = st.fr := by
          have := chain_fr hch l.length (Nat.le_refl _)
          rw [s1, s0] at this
          exact this
        exact hQ .normal st' m' a' w' h1 ⟨h2, hfr⟩ hrel
      · intro j o ho hl
        have hlt : j < l.length := by
          have := (Array.getElem?_eq_some_iff.1 ho).1
          exact this
        simp [hlt] at hl
      · have := List.length_filter_le (fun j => !(Array.replicate (Array.mk l).size false).getD j true) (List.range (Array.mk l).size)
        simpa using this
      · rw [fd_congr (T := fun _ => false) _ (Nat.le_refl _) (fun j hj => by simp at hj; simp [hj]), fd_none, s0]
        exact hr.quiet (Chg.drawn _ _ _)
  | .seq x y, st, K, r, hb, hl, h, Q, m, a, as, w, hr, hQ => by
    simp only [codeB, Bool.and_eq_true] at hb
    simp only [exec] at h
    refine wp_seq (exec_sound hp hc hcq hm x st _ r hb.1 (fun b hb => hl b (by simp [loopsOf, hb])) h _ m a as w hr ?_)
    intro e st' m' a' w' hk hs hrel
    cases e with
    | normal =>
      show y.wp cx.P Q a' w'
      exact exec_sound hp hc hcq hm y st' K r (by rw [hs.1]; exact hb.2) (fun b hb => hl b (by simp [loopsOf, hb])) hk Q m' a' as w' hrel (fun e2 st2 m2 a2 w2 k1 k2 k3 => hQ e2 st2 m2 a2 w2 k1 ⟨k2.1.trans hs.1, k2.2.trans hs.2⟩ k3)
    | exit id => exact hQ (.exit id) st' m' a' w' hk hs hrel
    | ret => exact hQ .ret st' m' a' w' hk hs hrel
  | .cond c x y, st, K, r, hb, hl, h, Q, m, a, as, w, hr, hQ => by
    simp only [codeB, Bool.and_eq_true] at hb
    simp only [exec] at h
    split at h
    · rename_i q hq
      rw [ev_eq] at hq
      obtain ⟨v, _, hv, hrep⟩ := hr.env.ev (env := get st.env) hq
      obtain rfl := Rep.bool hrep
      refine wp_cond_split hv (fun hqt => ?_) (fun hqf => ?_)
      · subst hqt
        exact exec_sound hp hc hcq hm x st K r hb.1 (fun b hb => hl b (by simp [loopsOf, hb])) h Q m a as w hr hQ
      · subst hqf
        exact exec_sound hp hc hcq hm y st K r hb.2 (fun b hb => hl b (by simp [loopsOf, hb])) h Q m a as w hr hQ
    · cases h
  | .block id b, st, K, r, hb, hl, h, Q, m, a, as, w, hr, hQ => by
    simp only [codeB] at hb
    simp only [exec] at h
    refine wp_block (exec_sound hp hc hcq hm b st _ r hb (fun b' hb' => hl b' (by simpa [loopsOf] using hb')) h _ m a as w hr ?_)
    intro e st' m' a' w' hk hs hrel
    cases e with
    | normal => exact hQ .normal st' m' a' w' hk hs hrel
    | ret => exact hQ .ret st' m' a' w' hk hs hrel
    | exit i =>
      show Exit.inBlock id Q (.exit i) a' w'
      simp only at hk
      split at hk
      · rename_i hi
        obtain rfl := Nat.eq_of_beq_eq_true hi
        simp only [Exit.inBlock, if_true]
        exact hQ .normal st' m' a' w' hk hs hrel
      · rename_i hi
        have hne : i ≠ id := Nat.ne_of_beq_eq_false hi
        simp only [Exit.inBlock, if_neg hne]
        exact hQ (.exit i) st' m' a' w' hk hs hrel
  | .loop b, st, K, r, hb, hl, h, Q, m, a, as, w, hr, hQ => hl b (by simp [loopsOf]) st K r h Q m a as w hb hr hQ
  | .scope b, st, K, r, hb, hl, h, Q, m, a, as, w, hr, hQ => by
    simp only [codeB] at hb
    simp only [exec] at h
    refine wp_scope_straight (exec_sound hp hc hcq hm b st K r hb (fun b' hb' => hl b' (by simpa [loopsOf] using hb')) h _ m a as w hr ?_)
    intro e st' m' a' w' hk hs hrel
    have := hQ e st' m' a' w' hk hs hrel
    cases e with
    | normal => show Exit.noGoto Q .normal a' w'; exact this
    | exit i => show Exit.noGoto Q (.exit i) a' w'; exact this
    | ret => show Exit.noGoto Q .ret a' w'; rw [Exit.noGoto_ret]; exact this
  | .rangeFunc _ _ _ _, st, K, r, _, _, h, _, _, _, _, _, _, _ => by simp [exec] at h
  | .goto _, st, K, r, _, _, h, _, _, _, _, _, _, _ => by simp [exec] at h
  | .refuse _, st, K, r, _, _, h, _, _, _, _, _, _, _ => by simp [exec] at h
/-- LOOPS, by their rounds -/
theorem loop_ok (hp : PxOk cx px) (hc : CallOk cx px) (hcq : CallQOk cx px) (hm : cx.P.follows .mixedOrders = true) {b : Code} {k : Nat} {s : Sig} {step : Step (HV s.sgs) R} (hpx : ∀ st K, px.loop b st K = loopOr k s step st K) (hs : sigB s = true) (hround : ∀ fr rec kx v, round px s b fr rec kx v = step rec kx v) (hin : ∀ b', b' ∈ loopsOf b → LoopOk cx px b') : LoopOk cx px b := by
  intro st K r h Q m a as w hb hr hQ
  rw [hpx] at h
  unfold loopOr at h
  split at h
  · rename_i v hv
    have hn : st.n = s.n := by
      unfold decSt at hv
      split at hv
      · rename_i hcnd
        simp only [Bool.and_eq_true] at hcnd
        exact Nat.eq_of_beq_eq_true hcnd.1.1.1.2
      · cases hv
    have key : ∀ (n : Nat) (v : HV s.sgs), iter (fun rec => step rec (fun e v' => K e (encSt s st.fr v'))) n v = some r → ∀ m a w, Rel cx m a as (fs (encSt s st.fr v)) w → Sx.LW cx.P b Q a w := by
      intro n
      induction n with
      | zero => intro v hv; simp [iter] at hv
      | succ n ih =>
        intro v hv m a w hrel
        simp only [iter] at hv
        rw [← hround st.fr] at hv
        have henn : ∀ v, (encSt s st.fr v).n = s.n ∧ (encSt s st.fr v).fr = st.fr := fun v => by unfold encSt; split; exact ⟨rfl, rfl⟩
        refine Sx.LW_round (exec_sound hp hc hcq hm b _ _ r (by rw [(henn v).1, ← hn]; exact hb) hin hv _ m a as w hrel ?_)
        intro e st' m' a' w' hk hsame hrel'
        split at hk
        · rename_i v' hv'
          obtain ⟨m2, hrel2⟩ := hrel'.recode hs hv'
          have hfr : st'.fr = st.fr := hsame.2.trans (henn v).2
          rw [hfr] at hrel2
          cases e with
          | normal => exact ih v' hk m2 a' w' hrel2
          | exit id => exact hQ (.exit id) _ m2 a' w' hk ⟨(henn v').1.trans hn.symm, (henn v').2⟩ hrel2
          | ret => exact hQ .ret _ m2 a' w' hk ⟨(henn v').1.trans hn.symm, (henn v').2⟩ hrel2
        · cases hk
    obtain ⟨m0, hrel0⟩ := hr.recode hs hv
    exact Sx.wp_of_LW (key k v h m0 a w hrel0)
  · cases h
end
end Go.Ax
