/- Ax, part U: the state is laid in anew at a loop's head. -/
import Derived.Test.YtlhebakbbfmiiaaDoorAxT
namespace Go.Ax
open Go.RowKit
theorem frsR_low {x : Vx} : ∀ {frs : List Fr} {as : List Act} {lb lt p q : Nat}, FrsR x lb lt frs as ↔ FrsR { x with nb := p, nt := q } lb lt frs as
  | [], _, _, _, _, _ => Iff.rfl
  | f :: frs, as, lb, lt, p, q => by
    simp only [FrsR]
    constructor
    · rintro ⟨a, r, h1, h2, h3, h4, h5⟩
      exact ⟨a, r, h1, h2, h3, h4, frsR_low.1 h5⟩
    · rintro ⟨a, r, h1, h2, h3, h4, h5⟩
      exact ⟨a, r, h1, h2, h3, h4, frsR_low.2 h5⟩
theorem owns_low : ∀ (l : List Sg) (i p : Nat), p ∈ owns i l → i ≤ p ∧ p < i + l.length
  | [], i, p, hp => by simp [owns] at hp
  | s :: l, i, p, hp => by
    have rec' : p ∈ owns (i + 1) l → i ≤ p ∧ p < i + (s :: l).length := fun h => by
      have := owns_low l (i + 1) p h
      simp only [List.length_cons]
      omega
    cases s with
    | sl c own =>
      cases own with
      | true =>
        simp only [owns, List.mem_cons] at hp
        rcases hp with rfl | hp
        · simp
        · exact rec' hp
      | false => exact rec' (by simpa [owns] using hp)
    | _ => exact rec' (by simpa [owns] using hp)
theorem sameNs_eq : ∀ {l m : List Nat}, sameNs l m = true → l = m
  | [], [], _ => rfl
  | a :: l, b :: m, h => by
    simp only [sameNs, Bool.and_eq_true] at h
    rw [Nat.eq_of_beq_eq_true h.1, sameNs_eq h.2]
  | [], _ :: _, h => by simp [sameNs] at h
  | _ :: _, [], h => by simp [sameNs] at h
theorem encL_len (i : Nat) (l : List Sg) (x : HV l) : (encL i l x).length = l.length := (encL_sh i l x).len
section
variable {cx : Cx}
/-- THE STATE LAID IN ANEW -/
theorem Rel.recode {m : Mp} {a : Act} {as : List Act} {w : World} {sg : Sig} {st : St} {x : HV sg.sgs} (hok : sigB sg = true) (hd : decSt sg st = some x) (hr : Rel cx m a as (fs st) w) : ∃ m', Rel cx m' a as (fs (encSt sg st.fr x)) w := by
  simp only [sigB, Bool.and_eq_true] at hok
  obtain ⟨⟨hok1, hok2⟩, hok3⟩ := hok
  have hok3 : sg.lb ≤ sg.nb := by simpa using hok3
  unfold decSt at hd
  split at hd
  · rename_i A B hA hB hc
    simp only [Bool.and_eq_true] at hc
    obtain ⟨⟨⟨⟨hc1, hc2⟩, hc3⟩, hc4⟩, hc5⟩ := hc
    have hc2 : st.n = sg.n := Nat.eq_of_beq_eq_true hc2
    have hc3 : st.lb = sg.lb := Nat.eq_of_beq_eq_true hc3
    have hc4 : st.lt = sg.lt := Nat.eq_of_beq_eq_true hc4
    have hc5 := sameNs_eq hc5
    obtain ⟨VA, hVA, hVA2⟩ := gather_reps (env := st.env) hr.env hA
    obtain ⟨VB, hVB, hVB2⟩ := gatherB_reps (x := vx cx m (fs st) w) (m := m.bl) (stbl := st.bl) (fun b k hk => (hr.blks b k hk).2) hB hok2
    have hAB := hVA.append hVB
    obtain ⟨as1, as2⟩ := asg_spec sg.lt hd
    have hals : ∀ t, t ∈ (st.tk.filter fun t => !Nat.blt t sg.lt) → t ∈ st.tk ∧ sg.lt ≤ t := fun t ht => by
      simp only [List.mem_filter, Bool.not_eq_true'] at ht
      refine ⟨ht.1, ?_⟩
      rcases Nat.lt_or_ge t sg.lt with h | h
      · have : Nat.blt t sg.lt = true := by simpa [Nat.blt_eq] using h
        rw [this] at ht; cases ht.2
      · exact h
    have htk : ∀ t, t ∈ sg.tk ↔ (t ∈ st.tk ∧ t < sg.lt) := fun t => by
      rw [← hc5]
      simp only [List.mem_filter, Nat.blt_eq]
    -- the new names
    let E := encL sg.lt sg.sgs x
    have hE : E.length = sg.sgs.length := encL_len _ _ _
    have hvl : sg.vars.length ≤ E.length := by rw [hE]; simp [Sig.sgs]
    obtain ⟨z1, z2⟩ := zipE_spec sg.vars E hvl
    let m' : Mp := ⟨m.bl, fun t => if t < sg.lt then m.tk t else (asg sg.lt sg.sgs (A ++ B) t).bind m.tk⟩
    have henc : encSt sg st.fr x = ⟨sg.n, (zipE sg.vars E).1 ++ sg.fix, sg.lb, sg.lt, st.fr, zipB sg.bl (E.drop sg.vars.length), sg.nb, owns sg.lt sg.sgs ++ sg.tk, sg.lt + sg.sgs.length⟩ := by
      unfold encSt
      rw [← z1]
    have hbl : ∀ (X' : Vx), X'.w = w → Reps X' (E.drop sg.vars.length) VB → ∀ b k, blk (zipB sg.bl (E.drop sg.vars.length)) b = some k → BlkR X' (m.bl b) k ∧ blk st.bl b ≠ none ∧ b < sg.nb := fun X' hw hrp b k hk => by
      have hsh := (encL_sh sg.lt sg.sgs x)
      simp only [Sig.sgs] at hsh
      have hs2 := hsh.split.2
      simp only [List.length_map] at hs2
      exact hVB2 X' _ hw hs2 hrp b k hk
    -- rights
    have htoks : ∀ t, t ∈ owns sg.lt sg.sgs ++ sg.tk → t < sg.lt + sg.sgs.length ∧ ((t < sg.lt ∧ t ∈ st.tk ∧ m'.tk t = m.tk t) ∨ (sg.lt ≤ t ∧ t ∈ owns sg.lt sg.sgs ∧ m'.tk t = (asg sg.lt sg.sgs (A ++ B) t).bind m.tk)) := fun t ht => by
      simp only [List.mem_append] at ht
      rcases ht with ht | ht
      · obtain ⟨h1, h2⟩ := owns_low _ _ _ ht
        exact ⟨h2, .inr ⟨h1, ht, by simp [m', Nat.not_lt.2 h1]⟩⟩
      · obtain ⟨h1, h2⟩ := (htk t).1 ht
        exact ⟨by omega, .inl ⟨h2, h1, by simp [m', h2]⟩⟩
    have horig : ∀ t g o, t ∈ owns sg.lt sg.sgs ++ sg.tk → m'.tk t = some (g, o) → ∃ t', t' ∈ st.tk ∧ m.tk t' = some (g, o) ∧ ((t < sg.lt ∧ t' = t) ∨ (sg.lt ≤ t ∧ sg.lt ≤ t' ∧ asg sg.lt sg.sgs (A ++ B) t = some t')) := fun t g o ht hg => by
      rcases (htoks t ht).2 with ⟨h1, h2, h3⟩ | ⟨h1, _, h3⟩
      · rw [h3] at hg; exact ⟨t, h2, hg, .inl ⟨h1, rfl⟩⟩
      · rw [h3] at hg
        cases hasg : asg sg.lt sg.sgs (A ++ B) t with
        | none => rw [hasg] at hg; cases hg
        | some t' =>
          rw [hasg, Option.bind_some] at hg
          obtain ⟨q1, q2⟩ := hals t' (as1 t t' hasg).1
          exact ⟨t', q1, hg, .inr ⟨h1, q2, rfl⟩⟩
    let s' : FS := fs (encSt sg st.fr x)
    have hs'al : ∀ t, s'.al t ↔ t ∈ owns sg.lt sg.sgs ++ sg.tk := fun t => by simp only [s', henc, fs]
    have hs'bl : s'.bl = blk (zipB sg.bl (E.drop sg.vars.length)) := by simp only [s', henc, fs]
    -- the footprint has not grown
    have hpre : ∀ b, s'.bl b ≠ none → blk st.bl b ≠ none := fun b hb => by
      rw [hs'bl] at hb
      cases hk : blk (zipB sg.bl (E.drop sg.vars.length)) b with
      | none => exact absurd hk hb
      | some k =>
        -- the key is one of the signature's
        have : ∀ (bl : List (Nat × Bs)) (B : List D) (E : List D) (b : Nat) (k : Blk), gatherB st.bl bl = some B → blk (zipB bl E) b = some k → blk st.bl b ≠ none := by
          intro bl
          induction bl with
          | nil => intro B E b k _ hk; simp [zipB, blk] at hk
          | cons p bl ih =>
            intro B E b k hg hk
            obtain ⟨b0, bs⟩ := p
            cases bs with
            | cells l =>
              simp only [gatherB] at hg
              split at hg
              · rename_i ds es hds hes
                simp only [zipB] at hk
                rw [blk_cons] at hk
                by_cases hbb : b = b0
                · rw [hbb, hds]; simp
                · rw [if_neg hbb] at hk; exact ih _ _ b k hes hk
              · cases hg
            | one s =>
              simp only [gatherB] at hg
              split at hg
              · rename_i k0 es hk0 hes
                cases E with
                | nil =>
                  simp only [zipB] at hk
                  rw [blk_cons] at hk
                  by_cases hbb : b = b0
                  · rw [hbb, hk0]; simp
                  · rw [if_neg hbb] at hk; exact ih _ _ b k hes hk
                | cons e E =>
                  simp only [zipB] at hk
                  rw [blk_cons] at hk
                  by_cases hbb : b = b0
                  · rw [hbb, hk0]; simp
                  · rw [if_neg hbb] at hk; exact ih _ _ b k hes hk
              · cases hg
        exact this sg.bl B _ b k hB hk
    have hfp : ∀ b i, fpOf m' s' b i → fpOf m (fs st) b i := by
      rintro b i (⟨q, hq, rfl⟩ | ⟨t, o, h1, h2, h3⟩)
      · exact .inl ⟨q, hpre q hq, rfl⟩
      · obtain ⟨t', q1, q2, _⟩ := horig t b o ((hs'al t).1 h1) h2
        exact .inr ⟨t', o, q1, q2, h3⟩
    have hS : ∀ b i, (vx cx m' s' w).S b i → (vx cx m (fs st) w).S b i := by
      rintro b i (h | h)
      · exact .inl h
      · exact .inr (hfp b i h)
    have hnt : (vx cx m' s' w).nt = sg.lt + sg.sgs.length := by simp only [vx, s', henc, fs]
    have hreps : Reps (vx cx m' s' w) E (VA ++ VB) := decL_rep (X := vx cx m (fs st) w) (X' := vx cx m' s' w) hS rfl rfl sg.lt hd (fun t ht => (hals t ht).1) hAB (fun p hp => by
      obtain ⟨q1, q2⟩ := owns_low _ _ _ hp
      refine ⟨by rw [hnt]; exact q2, ?_⟩
      simp [vx, m', Nat.not_lt.2 q1])
    have hVAl : VA.length = sg.vars.length := by
      have h1 := hVA.len
      have : A.length = sg.vars.length := by
        have : ∀ (vars : List (Nat × Sg)) (A : List D), gather st.env vars = some A → A.length = vars.length := by
          intro vars
          induction vars with
          | nil => intro A h; simp only [gather, Option.some.injEq] at h; subst h; rfl
          | cons p vars ih =>
            intro A h
            simp only [gather] at h
            split at h
            · rename_i d ds _ hds
              simp only [Option.some.injEq] at h
              subst h
              simp [ih ds hds]
            · cases h
        exact this _ _ hA
      omega
    obtain ⟨r1, r2⟩ := hreps.take
    rw [hVAl] at r1 r2
    refine ⟨m', ?_⟩
    show Rel cx m' a as s' w
    have hlb' : s'.lb = sg.lb := by simp only [s', henc, fs]
    have hlt' : s'.lt = sg.lt := by simp only [s', henc, fs]
    have hfr' : s'.fr = st.fr := by simp only [s', henc, fs]
    have hnb' : s'.nb = sg.nb := by simp only [s', henc, fs]
    have hnt' : s'.nt = sg.lt + sg.sgs.length := hnt
    refine ⟨hr.chg, ⟨hr.env.defers, ?_, fun k d hk => ?_⟩, ?_, ?_, ?_, fun b k hk => ?_, fun t ht => ?_, fun b b' h1 h2 => hr.inj b b' (hpre b h1) (hpre b' h2), ?_, ?_, fun b i hi => hr.own b i (hfp b i hi), hr.away, ?_⟩
    · have : s'.n = sg.n := by simp only [s', henc, fs]
      rw [this, ← hc2]
      exact hr.env.size
    · have hk' : get ((zipE sg.vars E).1 ++ sg.fix) k = some d := by simpa only [s', henc, fs] using hk
      rcases get_append _ _ _ _ hk' with h | h
      · obtain ⟨i, s, h1, h2⟩ := z2 k d h
        obtain ⟨v, h3, h4⟩ := hVA2 i k s h1
        have hlt : i < VA.length := (List.getElem?_eq_some_iff.1 h3).1
        obtain ⟨u, hu, hru⟩ := hreps.get h2
        rw [List.getElem?_append_left hlt, h3] at hu
        simp only [Option.some.injEq] at hu
        subst hu
        exact ⟨v, h4, hru⟩
      · obtain ⟨h1, d', h2, h3⟩ := fix_get hc1 hok1 h
        obtain ⟨v, h4, h5⟩ := hr.env.get k d' h2
        exact ⟨v, h4, sameFix_rep (x := vx cx m (fs st) w) rfl (by simpa only [vx, hnb'] using h1) h3 h5⟩
    · rw [hlb', hlt', hfr']
      have h0 := hr.frs
      have e1 : (fs st).lb = sg.lb := hc3
      have e2 : (fs st).lt = sg.lt := hc4
      rw [e1, e2] at h0
      have h1 := (frsR_low (p := sg.lb) (q := sg.lt)).1 h0
      refine (frsR_low (p := sg.lb) (q := sg.lt)).2 (FrsR.later (x := { vx cx m (fs st) w with nb := sg.lb, nt := sg.lt }) ?_ (Nat.le_refl _) (Nat.le_refl _) h1)
      refine ⟨Chg.refl _ _, fun b i hi => .inl (hS b i hi), rfl, fun _ _ => rfl, Nat.le_refl _, Nat.le_refl _, fun t ht ha => ?_⟩
      have ht : t < sg.lt := ht
      rcases (htoks t ((hs'al t).1 ha)).2 with ⟨_, q2, q3⟩ | ⟨q1, _, _⟩
      · exact ⟨q2, q3, fun _ _ _ => rfl⟩
      · omega
    · rw [hlb', hnb']; exact hok3
    · rw [hlt', hnt']; omega
    · rw [hs'bl] at hk
      obtain ⟨q1, _, q3⟩ := hbl (vx cx m' s' w) rfl r2 b k hk
      exact ⟨by rw [hnb']; exact q3, q1⟩
    · rw [hnt']; exact (htoks t ((hs'al t).1 ht)).1
    · intro t t' g o o' h1 h2 h3 h4
      obtain ⟨u, q1, q2, q3⟩ := horig t g o ((hs'al t).1 h1) h3
      obtain ⟨u', p1, p2, p3⟩ := horig t' g o' ((hs'al t').1 h2) h4
      have huu := hr.injt u u' g o o' q1 p1 q2 p2
      subst huu
      rcases q3 with ⟨a1, a2⟩ | ⟨a1, a2, a3⟩ <;> rcases p3 with ⟨b1, b2⟩ | ⟨b1, b2, b3⟩
      · omega
      · omega
      · omega
      · exact as2 t t' u a3 b3
    · intro b t g o h1 h2 h3
      obtain ⟨u, q1, q2, _⟩ := horig t g o ((hs'al t).1 h2) h3
      exact hr.injbt b u g o (hpre b h1) q1 q2
    · exact ⟨fun g c xs hx i y hy w' hw => hr.glb.1 g c xs hx i y hy w' (hw.mono hS), fun g l hl => by obtain ⟨r, es, clk, q1, q2⟩ := hr.glb.2 g l hl; exact ⟨r, es, clk, fun w' hw => q1 w' (hw.mono hS), q2⟩⟩
  · cases hd
end
end Go.Ax
