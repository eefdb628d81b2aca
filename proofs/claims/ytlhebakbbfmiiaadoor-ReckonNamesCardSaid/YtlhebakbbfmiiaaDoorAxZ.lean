/- Ax, part Z: what the printed texts lean on: loops by their first region; callees run in place; fuel; contracts by what a function is in the end. -/
import Derived.Test.YtlhebakbbfmiiaaDoorAxY
namespace Go.Ax
open Go.RowKit
abbrev FT (sa sr : List Sg) := HV sa → Option (HV sr)
abbrev LoopF (R : Type) := St → (Ex → St → Option R) → Option R
def loopT {R : Type} (l : List (Nat × LoopF R)) (b : Code) : LoopF R := match tbl l (firstReg b) with
  | some f => f
  | none => fun _ _ => none
def lpC (b : Code) (i : Nat) : Code := (loopsOf b).getD i .skip
def nLoops (fn : Func) : Nat := match fn.body with
  | some c => (loopsOf c).length
  | none => 0
def codeF (fn : Func) : Bool := match fn.body with
  | some c => codeB fn.ntmps c
  | none => false
theorem all0 {p : Nat → Prop} : ∀ i, i < 0 → p i := fun _ h => absurd h (Nat.not_lt_zero _)
theorem allS {p : Nat → Prop} {n : Nat} (h : ∀ i, i < n → p i) (hn : p n) : ∀ i, i < n + 1 → p i := fun i hi => by
  rcases Nat.lt_succ_iff_lt_or_eq.1 hi with h1 | h1
  · exact h i h1
  · rw [h1]; exact hn
theorem mem_getD {l : List Code} {b : Code} (h : b ∈ l) : ∃ i, i < l.length ∧ l.getD i .skip = b := by
  obtain ⟨i, hi, rfl⟩ := List.getElem_of_mem h
  exact ⟨i, hi, by simp [List.getD_eq_getElem?_getD, hi]⟩
section
variable {R : Type} {px : Px R} {cx : Cx}
theorem loops_of {fn : Func} {c : Code} {n : Nat} (hb : fn.body = some c) (hn : nLoops fn = n) (h : ∀ i, i < n → LoopOk cx px (lp fn i)) : ∀ b, b ∈ loopsOf c → LoopOk cx px b := by
  intro b hm
  obtain ⟨i, hi, rfl⟩ := mem_getD hm
  have := h i (by rw [← hn]; unfold nLoops; rw [hb]; exact hi)
  unfold lp at this
  rw [hb] at this
  exact this
theorem loops_in {b : Code} {n : Nat} (hn : (loopsOf b).length = n) (h : ∀ i, i < n → LoopOk cx px (lpC b i)) : ∀ b', b' ∈ loopsOf b → LoopOk cx px b' := by
  intro b' hm
  obtain ⟨i, hi, rfl⟩ := mem_getD hm
  exact h i (by rw [← hn]; exact hi)
/-- the next names may be greater -/
theorem Rel.raise {m : Mp} {a : Act} {as : List Act} {st : St} {w : World} {nb nt : Nat} (hb : st.nb ≤ nb) (ht : st.nt ≤ nt) (hr : Rel cx m a as (fs st) w) : Rel cx m a as (fs { st with nb := nb, nt := nt }) w := by
  have nx : Nx (vx cx m (fs st) w) (vx cx m (fs { st with nb := nb, nt := nt }) w) := ⟨Chg.refl _ _, fun _ _ h => .inl h, rfl, fun _ _ => rfl, hb, ht, fun t _ ha => ⟨ha, rfl, fun _ _ _ => rfl⟩⟩
  refine ⟨hr.chg, hr.env.later nx, hr.frs.later nx hr.lb hr.lt, Nat.le_trans hr.lb hb, Nat.le_trans hr.lt ht, fun b k hk => ?_, fun t h => Nat.lt_of_lt_of_le (hr.als t h) ht, hr.inj, hr.injt, hr.injbt, hr.own, hr.away, hr.glb.later nx⟩
  obtain ⟨h1, h2⟩ := hr.blks b k hk
  exact ⟨Nat.lt_of_lt_of_le h1 hb, h2.later nx rfl⟩
/-- the callee's code, run in place; its own names begin at nb, nt -/
def callRun (nb nt : Nat) (pc : Px R) (fn : Func) (args : List D) (st : St) (K : List D → St → Option R) : Option R := match Nat.ble args.length fn.ntmps && Nat.ble st.nb nb && Nat.ble st.nt nt with
  | true => callIn pc fn args { st with nb := nb, nt := nt } K
  | false => none
theorem reps_raise {m : Mp} {st : St} {w : World} {nb nt : Nat} (hb : st.nb ≤ nb) (ht : st.nt ≤ nt) {ds : List D} {vs : List Value} (h : Reps (vx cx m (fs st) w) ds vs) : Reps (vx cx m (fs { st with nb := nb, nt := nt }) w) ds vs := by
  have nx : Nx (vx cx m (fs st) w) (vx cx m (fs { st with nb := nb, nt := nt }) w) := ⟨Chg.refl _ _, fun _ _ h => .inl h, rfl, fun _ _ => rfl, hb, ht, fun t _ ha => ⟨ha, rfl, fun _ _ _ => rfl⟩⟩
  exact Reps.later nx _ _ h
theorem cf_run {nb nt : Nat} {pc : Px R} {g : Nat} {fn : Func} {c : Code} {n : Nat} (hp : PxOk cx pc) (hcl : CallOk cx pc) (hcq : CallQOk cx pc) (hm : cx.P.follows .mixedOrders = true) (hf : cx.P.funcs[g]? = some fn) (hb : fn.body = some c) (hname : (fn.name == "runtime.NumGoroutine") = false) (hcode : codeF fn = true) (hn : nLoops fn = n) (hl : ∀ i, i < n → LoopOk cx pc (lp fn i)) : CFOk cx g (callRun nb nt pc fn) := by
  intro args st K r hc
  unfold callRun at hc
  split at hc
  · rename_i hargs
    simp only [Bool.and_eq_true] at hargs
    have h1 : st.nb ≤ nb := Nat.le_of_ble_eq_true hargs.1.2
    have h2 : st.nt ≤ nt := Nat.le_of_ble_eq_true hargs.2
    obtain ⟨q1, q2⟩ := callIn_ok hp hcl hcq hm hf hb hname (by unfold codeF at hcode; rw [hb] at hcode; exact hcode) (loops_of hb hn hl) hargs.1.1 hc
    refine ⟨q1, fun m a as w vs hr hreps => ?_⟩
    exact (q2 m a as w vs (hr.raise h1 h2) (reps_raise h1 h2 hreps)).mono fun en w' ⟨v, e1, rs, st', m', e2, e3, e4, e5⟩ => ⟨v, e1, rs, st', m', e2, e3, e4, e5⟩
  · cases hc
end
/-- THE CONTRACT of a printed body -/
theorem fnOk_run {P : Program} {el : Ck → TypeId} {gl : Nat → Option Gv} {f : FuncId} {fn : Func} {c : Code} {sa sr : List Sg} {px : Px (HV sr)} {F : FT sa sr} {n : Nat} (hf : P.funcs[f]? = some fn) (hb : fn.body = some c) (hname : (fn.name == "runtime.NumGoroutine") = false) (hm : P.follows .mixedOrders = true) (hchk : (codeF fn && Nat.ble sa.length fn.ntmps && sameNs (owns 0 sa) []) = true) (hn : nLoops fn = n)
    (hpx : ∀ cx : Cx, cx.P = P → cx.el = el → cx.gl = gl → PxOk cx px ∧ CallOk cx px ∧ CallQOk cx px ∧ ∀ i, i < n → LoopOk cx px (lp fn i)) (hF : ∀ x, runF px fn sa sr x some = F x) : FnOk P el gl f sa sr F := by
  refine fnOk_of hf hb hname hm ?_ (fun cx h1 h2 h3 => ?_) hF
  · unfold codeF at hchk; rw [hb] at hchk; exact hchk
  · obtain ⟨q1, q2, q3, q4⟩ := hpx cx h1 h2 h3
    exact ⟨q1, q2, q3, loops_of hb hn q4⟩
section
variable {P : Program} {el : Ck → TypeId} {gl : Nat → Option Gv} {f : FuncId} {sa sr : List Sg}
/-- what a function is in the end -/
theorem FnOk.lim {ι : Type} {F : ι → FT sa sr} {G : FT sa sr} (he : Sx.Enters P f) (h : ∀ i, FnOk P el gl f sa sr (F i)) (hG : ∀ x r, G x = some r → ∃ i, F i x = some r) : FnOk P el gl f sa sr G :=
  ⟨he, fun x r hx => by obtain ⟨i, hi⟩ := hG x r hx; exact (h i).run x r hi⟩
theorem FnOk.weaken {F G : FT sa sr} (h : FnOk P el gl f sa sr F) (hG : ∀ x r, G x = some r → F x = some r) : FnOk P el gl f sa sr G :=
  ⟨h.enters, fun x r hx => h.run x r (hG x r hx)⟩
theorem FnOk.none (he : Sx.Enters P f) : FnOk P el gl f sa sr (fun _ => .none) := ⟨he, fun _ _ h => by cases h⟩
/-- a function that calls itself -/
theorem FnOk.rec' {body : FT sa sr → FT sa sr} (he : Sx.Enters P f) (h : ∀ rf, FnOk P el gl f sa sr rf → FnOk P el gl f sa sr (body rf)) : ∀ n, FnOk P el gl f sa sr (iter body n)
  | 0 => FnOk.none he
  | n + 1 => h _ (FnOk.rec' he h n)
end
end Go.Ax
