/- Ax, part K: the operations that leave all else as it is, one by one. -/
import Derived.Test.YtlhebakbbfmiiaaDoorAxJ
namespace Go.Ax
open Go.RowKit
section
variable {R : Type} {px : Px R} {cx : Cx}
theorem fldT_spec (hp : PxOk cx px) {s f o : Nat} {u : Ty} (h : fldT px s f = some (o, u)) : ∃ c l z fds fd, px.tt s = .st c l z ∧ cx.P.underlying s = some (.struct fds) ∧ fds[f]? = some fd ∧ px.tt fd.type = u ∧ fd.offset = o ∧ Sx.fldOff cx.P s f = some o := by
  unfold fldT at h
  split at h
  · rename_i c l z hty
    split at h
    · rename_i o' u' hl
      simp only [Option.some.injEq, Prod.mk.injEq] at h
      obtain ⟨rfl, rfl⟩ := h
      obtain ⟨fds, hu, hfl, _⟩ := tyOk_st (hp.tt s) hty
      obtain ⟨fd, h1, h2, h3, h4⟩ := fldsB_get hfl hl
      rw [Nat.zero_add] at h4
      exact ⟨c, l, z, fds, fd, hty, hu, by simpa using h1, by rw [h2], h3, h4⟩
    · cases h
  · cases h
theorem u8_bat (l : Str) (i : Int) : u8ok .u8 (bat l i) = true := u8_mk (by
  have := (l.getD i.toNat 0).toNat_lt
  simp only [bat]
  omega)
theorem upto_spec {i j : Int} {n : Nat} (h : upto i j n = true) : 0 ≤ i ∧ i ≤ j ∧ j ≤ (n : Int) := by
  simpa [upto, and_assoc] using h
theorem inb_spec {i : Int} {n : Nat} (h : inb i n = true) : 0 ≤ i ∧ i < (n : Int) := by simpa [inb] using h
/-- what an optional operand is -/
theorem evo_get {env : Nat → Option D} {x : Vx} {n : Nat} {a : Act} (he : EnvR x n env a) {st : St} {o : Option Operand} {d : Option D} (h : evo px st o = some d) (hx : ∀ u y, o = some y → evF px env u y = ev px st u y) : (o = none ∧ d = none) ∨ ∃ y e v, o = some y ∧ d = some e ∧ Sx.Env.ev (full a) y = some v ∧ Rep x e v := by
  cases o with
  | none => simp only [evo, Option.some.injEq] at h; exact .inl ⟨rfl, h.symm⟩
  | some y =>
    simp only [evo] at h
    split at h
    · rename_i e he'
      simp only [Option.some.injEq] at h
      rw [← hx _ y rfl] at he'
      obtain ⟨v, h1, _, h3⟩ := he.ev he'
      exact .inr ⟨y, e, v, rfl, h.symm, h1, h3⟩
    · cases h
/-- pieces of texts -/
theorem sliceS_run {K : D → Option R} {r : R} {l : Str} {lo hi : Option D} (h : sliceS l lo hi K = some r) : ∃ d, K d = some r ∧ ∀ {P : Program} {e : Sx.Env} {t : Nat} {x : Operand} {olo ohi : Option Operand} {vx : Vx}, Sx.tyS P t = true → Sx.Env.ev e x = some (Sx.S l) → l.length ≤ maxLen → ((olo = none ∧ lo = none) ∨ ∃ y d v, olo = some y ∧ lo = some d ∧ Sx.Env.ev e y = some v ∧ Rep vx d v) → ((ohi = none ∧ hi = none) ∨ ∃ y d v, ohi = some y ∧ hi = some d ∧ Sx.Env.ev e y = some v ∧ Rep vx d v) → ∃ v, Sx.Pure P e (.slice t x olo ohi none) v ∧ Rep vx d v := by
  unfold sliceS at h
  split at h
  · rename_i k i
    obtain ⟨hb, hk⟩ := chk_some h
    refine ⟨_, hk, fun {P e t x olo ohi vx} ht hx hml h1 h2 => ?_⟩
    rcases h1 with ⟨_, h1⟩ | ⟨y, d, v, rfl, h1, hy, hr⟩
    · cases h1
    rcases h2 with ⟨rfl, _⟩ | ⟨y', d', v', _, h2, _⟩
    · simp only [Option.some.injEq] at h1
      subst h1
      obtain rfl := Rep.int hr
      have := upto_spec hb
      exact ⟨_, Sx.p_cutlo ht hx hy ⟨this.1, this.2.1⟩, rep_str (by simp; omega)⟩
    · cases h2
  · rename_i k j
    obtain ⟨hb, hk⟩ := chk_some h
    refine ⟨_, hk, fun {P e t x olo ohi vx} ht hx hml h1 h2 => ?_⟩
    rcases h2 with ⟨_, h2⟩ | ⟨y, d, v, rfl, h2, hy, hr⟩
    · cases h2
    rcases h1 with ⟨rfl, _⟩ | ⟨y', d', v', _, h1, _⟩
    · simp only [Option.some.injEq] at h2
      subst h2
      obtain rfl := Rep.int hr
      have := upto_spec hb
      exact ⟨_, Sx.p_cuthi ht hx hy ⟨this.2.1, this.2.2⟩, rep_str (by simp; omega)⟩
    · cases h1
  · rename_i k i k' j
    obtain ⟨hb, hk⟩ := chk_some h
    refine ⟨_, hk, fun {P e t x olo ohi vx} ht hx hml h1 h2 => ?_⟩
    rcases h1 with ⟨_, h1⟩ | ⟨y, d, v, rfl, h1, hy, hr⟩
    · cases h1
    rcases h2 with ⟨_, h2⟩ | ⟨y', d', v', rfl, h2, hy', hr'⟩
    · cases h2
    simp only [Option.some.injEq] at h1 h2
    subst h1
    subst h2
    obtain rfl := Rep.int hr
    obtain rfl := Rep.int hr'
    exact ⟨_, Sx.p_cut ht hx hy hy' (upto_spec hb), rep_str (by simp [cut]; omega)⟩
  · cases h
theorem p_slice_run {P : Program} {e : Sx.Env} {t : Nat} {x : Operand} {olo ohi : Option Operand} {v u : Value} {vlo vhi : Option Value} (hx : Sx.Env.ev e x = some v) (h1 : (olo = none ∧ vlo = none) ∨ ∃ y q, olo = some y ∧ vlo = some q ∧ Sx.Env.ev e y = some q) (h2 : (ohi = none ∧ vhi = none) ∨ ∃ y q, ohi = some y ∧ vhi = some q ∧ Sx.Env.ev e y = some q) (hr : ∀ w, (Instr.sliceAt t v vlo vhi none).run P w = .ok u w) : Sx.Pure P e (.slice t x olo ohi none) u := fun n a w o he ho => by
  have e1 : olo.map a.eval = vlo := by
    rcases h1 with ⟨rfl, rfl⟩ | ⟨y, q, rfl, rfl, hy⟩
    · rfl
    · simp [he.ev hy]
  have e2 : ohi.map a.eval = vhi := by
    rcases h2 with ⟨rfl, rfl⟩ | ⟨y, q, rfl, rfl, hy⟩
    · rfl
    · simp [he.ev hy]
  simp only [execOp, ho, Sem.run_bind, he.ev hx, e1, e2, Option.map_none, hr w, Result.andThen_ok, Sem.run_pure]
/-- pieces of slices -/
theorem sliceL_run {K : D → Option R} {r : R} {c : Ck} {l : List (El c)} {lo hi : Option D} (h : sliceL c l lo hi K = some r) : ∃ d, K d = some r ∧ ∀ {P : Program} {el : Ck → TypeId} {tt : Nat → Ty} {e : Sx.Env} {t : Nat} {x : Operand} {olo ohi : Option Operand} {vx : Vx} {v : Value} {tk : Tk}, tyOk P el tt t = true → tt t = .sl c → Rep vx (.sl c l tk) v → Sx.Env.ev e x = some v → ((olo = none ∧ lo = none) ∨ ∃ y d v, olo = some y ∧ lo = some d ∧ Sx.Env.ev e y = some v ∧ Rep vx d v) → ((ohi = none ∧ hi = none) ∨ ∃ y d v, ohi = some y ∧ hi = some d ∧ Sx.Env.ev e y = some v ∧ Rep vx d v) → ∃ u, Sx.Pure P e (.slice t x olo ohi none) u ∧ Rep vx d u := by
  have key : ∀ (i j : Nat), i ≤ j → j ≤ l.length → ∀ {P : Program} {el : Ck → TypeId} {tt : Nat → Ty} {e : Sx.Env} {t : Nat} {x : Operand} {olo ohi : Option Operand} {vx : Vx} {v : Value} {tk : Tk} {vlo vhi : Option Value}, tyOk P el tt t = true → tt t = .sl c → Rep vx (.sl c l tk) v → Sx.Env.ev e x = some v → ((olo = none ∧ vlo = none) ∨ ∃ y q, olo = some y ∧ vlo = some q ∧ Sx.Env.ev e y = some q) → ((ohi = none ∧ vhi = none) ∨ ∃ y q, ohi = some y ∧ vhi = some q ∧ Sx.Env.ev e y = some q) → (∀ cap w, l.length ≤ cap ∨ l = [] → (Instr.sliceBounds true l.length cap vlo vhi none).run P w = .ok (i, j, cap) w) → ∃ u, Sx.Pure P e (.slice t x olo ohi none) u ∧ Rep vx (.sl c ((l.drop i).take (j - i)) .no) u := by
    intro i j hij hjl P el tt e t x olo ohi vx v tk vlo vhi ht hty hv hx h1 h2 hb
    simp only [Rep] at hv
    obtain ⟨a, cap, rfl, hf⟩ := slice_form hv.1
    obtain ⟨by_, hT, _, _⟩ := tyOk_sl ht hty
    obtain ⟨hu, i0, z, hi0, hz, hsz, _⟩ := hT
    have hsz' : Sx.tySz P (el c) = some (csz c) := by simp [Sx.tySz, hi0, hsz]
    have hcap : l.length ≤ cap ∨ l = [] := by
      rcases hf with rfl | ⟨_, _, _, h, _⟩
      · exact .inr rfl
      · exact .inl h.1
    refine ⟨_, p_slice_run hx h1 h2 (fun w => run_sliceSl (c := c) hu hsz' (hb cap w hcap) rfl), ?_⟩
    simp only [Rep]
    exact ⟨slice_piece hf hij hjl, trivial⟩
  have opt : ∀ {e : Sx.Env} {vx : Vx} {o : Option Operand} {d : Option D}, ((o = none ∧ d = none) ∨ ∃ y q v, o = some y ∧ d = some q ∧ Sx.Env.ev e y = some v ∧ Rep vx q v) → ∀ {k : IntKind} {n : Int}, d = some (.int k n) → ∃ y q, o = some y ∧ some (Value.int k n) = some q ∧ Sx.Env.ev e y = some q := by
    rintro e vx o d (⟨_, rfl⟩ | ⟨y, q, v, rfl, rfl, hy, hr⟩) k n hd
    · cases hd
    · simp only [Option.some.injEq] at hd
      subst hd
      obtain rfl := Rep.int hr
      exact ⟨y, _, rfl, rfl, hy⟩
  have optn : ∀ {e : Sx.Env} {vx : Vx} {o : Option Operand} {d : Option D}, ((o = none ∧ d = none) ∨ ∃ y q v, o = some y ∧ d = some q ∧ Sx.Env.ev e y = some v ∧ Rep vx q v) → d = none → o = none := by
    rintro e vx o d (⟨rfl, rfl⟩ | ⟨y, q, v, rfl, rfl, hy, hr⟩) hd
    · rfl
    · cases hd
  unfold sliceL at h
  split at h
  · refine ⟨_, h, fun {P el tt e t x olo ohi vx v tk} ht hty hv hx h1 h2 => ?_⟩
    have := key 0 l.length (Nat.zero_le _) (Nat.le_refl _) ht hty hv hx (.inl ⟨optn h1 rfl, rfl⟩) (.inl ⟨optn h2 rfl, rfl⟩) (fun cap w _ => bnd_none)
    simpa using this
  · rename_i k i
    obtain ⟨hb, hk⟩ := chk_some h
    have hb := upto_spec hb
    refine ⟨_, hk, fun {P el tt e t x olo ohi vx v tk} ht hty hv hx h1 h2 => ?_⟩
    have := key i.toNat l.length (by omega) (Nat.le_refl _) ht hty hv hx (.inr (opt h1 rfl)) (.inl ⟨optn h2 rfl, rfl⟩) (fun cap w _ => bnd_lo ⟨hb.1, hb.2.1⟩)
    rwa [List.take_of_length_le (by simp)] at this
  · rename_i k j
    obtain ⟨hb, hk⟩ := chk_some h
    have hb := upto_spec hb
    refine ⟨_, hk, fun {P el tt e t x olo ohi vx v tk} ht hty hv hx h1 h2 => ?_⟩
    have := key 0 j.toNat (Nat.zero_le _) (by omega) ht hty hv hx (.inl ⟨optn h1 rfl, rfl⟩) (.inr (opt h2 rfl)) (fun cap w hc => bnd_hi (by rcases hc with hc | rfl <;> simp at * <;> omega))
    simpa using this
  · rename_i k i k' j
    obtain ⟨hb, hk⟩ := chk_some h
    have hb := upto_spec hb
    refine ⟨_, hk, fun {P el tt e t x olo ohi vx v tk} ht hty hv hx h1 h2 => ?_⟩
    exact key i.toNat j.toNat (by omega) (by omega) ht hty hv hx (.inr (opt h1 rfl)) (.inr (opt h2 rfl)) (fun cap w hc => bnd_both (by rcases hc with hc | rfl <;> simp at * <;> omega))
  · cases h
end
end Go.Ax
