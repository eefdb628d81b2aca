/- Ax, part F: elements and their cells; loads; structs; pieces of slices; conversions. -/
import Derived.Test.YtlhebakbbfmiiaaDoorAxE
namespace Go.Ax
open Go.RowKit

/-! ## elements -/
/-- the same datum, but for a right to append -/
def Wk (d e : D) : Prop := d = e ∨ (∃ c xs t, d = .sl c xs t ∧ e = .sl c xs .no) ∨ ∃ n, d = .int .u8 n ∧ e = .int .u8 ((UInt8.ofNat n.toNat).toNat : Int)
def WkL : List D → List D → Prop
  | [], [] => True
  | d :: ds, e :: es => Wk d e ∧ WkL ds es
  | _, _ => False
theorem wk_refl (d : D) : Wk d d := .inl rfl
theorem wk_sl (c : Ck) (xs : List (El c)) (t : Tk) : Wk (.sl c xs t) (.sl c xs .no) := .inr (.inl ⟨c, xs, t, rfl, rfl⟩)
theorem wk_u8 (n : Int) : Wk (.int .u8 n) (.int .u8 ((UInt8.ofNat n.toNat).toNat : Int)) := .inr (.inr ⟨n, rfl, rfl⟩)
theorem dec_wk {c : Ck} {ds : List D} {y : El c} (h : dec c ds = some y) : WkL ds (enc c y) := by
  unfold dec at h
  split at h <;> simp only [Option.some.injEq, reduceCtorEq] at h <;> subst h <;> simp only [enc, WkL, Xpr.kind, Xpr.v, Xpr.name, Xpr.l] <;> (repeat' apply And.intro) <;> first
    | exact wk_refl _
    | exact wk_sl _ _ _
    | exact wk_u8 _
    | trivial
theorem WkL.get : ∀ {ds es : List D}, WkL ds es → ∀ {j : Nat} {e : D}, es[j]? = some e → ∃ d, ds[j]? = some d ∧ Wk d e
  | [], [], h, j, e, he => by simp at he
  | d :: ds, e0 :: es, h, j, e, he => by
    simp only [WkL] at h
    cases j with
    | zero => simp at he; subst he; exact ⟨d, by simp, h.1⟩
    | succ j => obtain ⟨d', h3, h4⟩ := WkL.get h.2 (by simpa using he); exact ⟨d', by simpa using h3, h4⟩
  | [], _ :: _, h, _, _, _ => by simp [WkL] at h
  | _ :: _, [], h, _, _, _ => by simp [WkL] at h
theorem WkL.len : ∀ {ds es : List D}, WkL ds es → ds.length = es.length
  | [], [], _ => rfl
  | d :: ds, e0 :: es, h => by
    simp only [WkL] at h
    simp [WkL.len h.2]
  | [], _ :: _, h => by simp [WkL] at h
  | _ :: _, [], h => by simp [WkL] at h
theorem rep_rf {x : Vx} {d e : D} {v : Value} (h : Rep x d v) (hw : Wk d e) (hl : ∃ (c : Ck) (y : El c) (j : Nat), (enc c y)[j]? = some e) : RF x.S x.w e v := by
  have hfz : ∀ d', (∃ k n, d' = .int k n) ∨ (∃ b, d' = .bool b) ∨ (∃ l, d' = .str l) ∨ (∃ c xs, d' = .sl c xs .no) → Rep x d' v → RF x.S x.w d' v := by
    rintro d' (⟨k, n, rfl⟩ | ⟨b, rfl⟩ | ⟨l, rfl⟩ | ⟨c, xs, rfl⟩) hr w' hw'
    · simp only [Rep] at hr; rw [hr.1]; exact .int k n hr.2
    · simp only [Rep] at hr; rw [hr]; exact .bool b
    · simp only [Rep] at hr; rw [hr.1]; exact .str l hr.2
    · simp only [Rep] at hr; exact hr.1 w' hw'
  rcases hw with rfl | ⟨c, xs, t, rfl, rfl⟩ | ⟨n, rfl, rfl⟩
  · refine hfz d ?_ h
    obtain ⟨c, y, j, hj⟩ := hl
    cases c <;> simp only [enc] at hj <;> (rcases j with _ | _ | _ | _ | _ | _ | j <;> simp at hj <;> subst hj <;> simp)
  · simp only [Rep] at h
    exact h.1
  · simp only [Rep] at h
    obtain ⟨rfl, hu⟩ := h
    have := u8_bound hu
    have e1 : ((UInt8.ofNat n.toNat).toNat : Int) = n := by
      have : (UInt8.ofNat n.toNat).toNat = n.toNat % 256 := UInt8.toNat_ofNat'
      rw [this]
      omega
    intro w' _
    rw [e1]
    exact .int _ _ hu
/-- the cells that an element is -/
def ElR (x : Vx) (c : Ck) (y : El c) (vs : List Value) : Prop := vs.length = csz c ∧ ∀ (j : Nat) d, (enc c y)[j]? = some d → ∃ u, vs[j]? = some u ∧ RF x.S x.w d u
theorem reps_elR {x : Vx} {c : Ck} {ds : List D} {y : El c} {vs : List Value} (h : dec c ds = some y) (hr : Reps x ds vs) : ElR x c y vs := by
  have hw := dec_wk h
  refine ⟨by rw [hr.len, hw.len, enc_len], fun j d hd => ?_⟩
  obtain ⟨d', h1, h2⟩ := hw.get hd
  obtain ⟨u, h3, h4⟩ := hr.get h1
  exact ⟨u, h3, rep_rf h4 h2 ⟨c, y, j, hd⟩⟩
theorem fv_one {w : World} {d : D} {v : Value} (h : FV w d v) : Sx.one v = true := by cases h <;> rfl
theorem ElR.one {x : Vx} {c : Ck} {y : El c} {vs : List Value} (h : ElR x c y vs) : ∀ v, v ∈ vs → Sx.one v = true := by
  intro v hv
  obtain ⟨j, hj, rfl⟩ := List.mem_iff_getElem.1 hv
  have hlt : j < (enc c y).length := by rw [enc_len, ← h.1]; exact hj
  obtain ⟨u, hu, hf⟩ := h.2 j _ (List.getElem?_eq_getElem hlt)
  rw [List.getElem?_eq_getElem hj] at hu
  simp only [Option.some.injEq] at hu
  rw [hu]
  exact fv_one hf.here
theorem rep_one {x : Vx} {d : D} {v : Value} (h : Rep x d v) (hl : lf d = true) : Sx.one v = true := by
  cases d <;> simp only [Rep] at h <;> simp only [lf, Bool.false_eq_true] at hl <;> first
    | (subst h; rfl)
    | (obtain ⟨rfl, _⟩ := h; rfl)
    | (obtain ⟨_, rfl⟩ := h; rfl)
    | (obtain ⟨_, _, rfl, _⟩ := h; rfl)
    | (obtain ⟨_, rfl, _⟩ := h; rfl)
    | (obtain ⟨_, _, _, rfl, _⟩ := h; rfl)
    | exact fv_one h.1.here
    | exact h.elim
theorem enc_not {c : Ck} {y : El c} {j : Nat} {d : D} (h : (enc c y)[j]? = some d) : lf d = true ∧ ∀ c' xs t, d = .sl c' xs t → t = .no := by
  cases c <;> simp only [enc] at h <;> (rcases j with _ | _ | _ | _ | _ | _ | j <;> simp at h <;> subst h <;> simp [lf])
  all_goals (intros; subst_vars; simp_all)
theorem rf_rep {x : Vx} {d : D} {v : Value} (h : RF x.S x.w d v) (ht : ∀ c xs t, d = .sl c xs t → t = .no) : Rep x d v := by
  have hh := h.here
  cases hh with
  | int k n hu => exact rep_int hu
  | bool b => exact rep_bool b
  | str l hl => exact rep_str hl
  | nil c t a cap => obtain rfl := ht _ _ _ rfl; simp only [Rep]; exact ⟨h, trivial⟩
  | sl c xs t b o cap u hle hm hc h' => obtain rfl := ht _ _ _ rfl; simp only [Rep]; exact ⟨h, trivial⟩
/-- an element, as a value -/
theorem elR_ofK {x : Vx} {c : Ck} {y : El c} {vs : List Value} (h : ElR x c y vs) : (agg? c = true → Rep x (ofK c y) (.agg vs.toArray)) ∧ (agg? c = false → ∃ v, vs = [v] ∧ Rep x (ofK c y) v) := by
  constructor
  · intro ha
    simp only [ofK, ha, Rep]
    exact ⟨trivial, vs, rfl, h.1, h.2⟩
  · intro ha
    have h1 : csz c = 1 := by cases c <;> simp [agg?] at ha <;> rfl
    obtain ⟨hl, h2⟩ := h
    rw [h1] at hl
    obtain ⟨v, rfl⟩ := List.length_eq_one_iff.1 hl
    refine ⟨v, rfl, ?_⟩
    have he : ∃ d, enc c y = [d] := List.length_eq_one_iff.1 (by rw [enc_len, h1])
    obtain ⟨d, hd⟩ := he
    simp only [ofK, ha, hd]
    obtain ⟨u, hu, hf⟩ := h2 0 d (by simp [hd])
    simp at hu
    subst hu
    exact rf_rep hf (enc_not (c := c) (y := y) (j := 0) (by simp [hd])).2
/-- a value that is an element has its cells -/
theorem toK_elR {x : Vx} {c : Ck} {d : D} {y : El c} {v : Value} (h : toK c d = some y) (hr : Rep x d v) : ElR x c y v.cells.toList ∧ (agg? c = true → ∃ vs, v = .agg vs) ∧ (agg? c = false → Sx.one v = true) := by
  unfold toK at h
  split at h
  · split at h
    · rename_i c' y' hc
      subst hc
      simp only [Option.some.injEq] at h
      subst h
      simp only [Rep] at hr
      obtain ⟨ha, vs, rfl, hl, hr⟩ := hr
      exact ⟨⟨by simpa [Value.cells] using hl, by simpa [Value.cells] using hr⟩, fun _ => ⟨_, rfl⟩, fun h0 => by rw [ha] at h0; cases h0⟩
    · cases h
  · split at h
    · rename_i ds ha
      simp only [Rep] at hr
      obtain ⟨_, vs, rfl, hr⟩ := hr
      exact ⟨by simpa [Value.cells] using reps_elR h hr, fun _ => ⟨_, rfl⟩, fun h0 => by rw [ha] at h0; cases h0⟩
    · cases h
  · rename_i hn1 hn2
    split at h
    · cases h
    · rename_i ha
      have hlf : lf d = true := by
        have hw := dec_wk h
        have h1 : csz c = 1 := by cases c <;> simp [agg?] at ha <;> rfl
        obtain ⟨e, he⟩ := List.length_eq_one_iff.1 ((enc_len c y).trans h1)
        rw [he] at hw
        simp only [WkL] at hw
        replace hw := hw.1
        have hel := (enc_not (c := c) (y := y) (j := 0) (d := e) (by simp [he])).1
        rcases hw with rfl | ⟨_, _, _, rfl, _⟩ | ⟨_, rfl, _⟩
        · exact hel
        · rfl
        · rfl
      have hone := rep_one hr hlf
      have hc : v.cells.toList = [v] := by rw [Sx.one_cells hone]
      rw [hc]
      refine ⟨reps_elR h (by simp only [Reps]; exact ⟨v, [], rfl, hr, rfl⟩), fun h0 => ?_, fun _ => hone⟩
      rw [ha] at h0
      cases h0
theorem At.elR {S : Fp} {x : Vx} {c : Ck} {y : El c} {b o : Nat} (hS : x.S = S) (h : ∀ w', Chg S x.w w' → At w' c y b o) : ∃ vs, ElR x c y vs ∧ ∀ (j : Nat) u, vs[j]? = some u → x.w.cell? ⟨b, o + j, none⟩ = some u := by
  subst hS
  have h0 := h x.w (Chg.refl _ _)
  have key : ∀ (n : Nat), n ≤ csz c → ∃ vs : List Value, vs.length = n ∧ ∀ (j : Nat) u, vs[j]? = some u → x.w.cell? ⟨b, o + j, none⟩ = some u := by
    intro n
    induction n with
    | zero => intro _; exact ⟨[], rfl, by simp⟩
    | succ n ih =>
      intro hn
      obtain ⟨vs, hl, hv⟩ := ih (by omega)
      obtain ⟨u, hu, _⟩ := h0 n _ (List.getElem?_eq_getElem (by rw [enc_len]; omega))
      refine ⟨vs ++ [u], by simp [hl], fun j u' hj => ?_⟩
      rw [List.getElem?_append] at hj
      split at hj
      · exact hv j u' hj
      · rename_i hlt
        have : j = n := by
          rcases Nat.lt_or_ge (j - vs.length) 1 with h | h
          · omega
          · simp [List.getElem?_eq_none (l := [u]) (by simpa using h)] at hj
        subst this
        rw [hl] at hj
        simp at hj
        subst hj
        exact hu
  obtain ⟨vs, hl, hv⟩ := key (csz c) (Nat.le_refl _)
  refine ⟨vs, ⟨hl, fun j d hd => ?_⟩, hv⟩
  have hlt : j < vs.length := by rw [hl, ← enc_len c y]; exact (List.getElem?_eq_some_iff.1 hd).1
  refine ⟨vs[j], List.getElem?_eq_getElem hlt, fun w' hw' => ?_⟩
  obtain ⟨u, hu, hf⟩ := h w' hw' j d hd
  obtain ⟨u0, hu0, _⟩ := h0 j d hd
  have h1 := hv j _ (List.getElem?_eq_getElem hlt)
  -- the cell is frozen: the same value in w'
  by_cases hS : x.S b (o + j)
  · exfalso
    -- a cell that may be written: a change of it would break At
    have hc : Chg x.S x.w (x.w.setCell ⟨b, o + j, none⟩ .nilFunc) := by
      refine ⟨rfl, rfl, rfl, by simp [World.setCell], fun k _ hn => Below.heap_setCell _ _ _ _ (fun e => hn (o + j) (by rw [e]; exact hS)), fun b' i v hv' hn => ?_⟩
      by_cases hb : b' = b
      · subst hb
        have hi : i ≠ o + j := fun e => hn (e ▸ hS)
        simp only [World.cell?, World.setCell, Array.getElem?_modify, if_true] at hv' ⊢
        cases hh : x.w.heap[b']? with
        | none => simp [hh] at hv'
        | some ob =>
          cases ob <;> simp [hh] at hv' ⊢
          rw [Array.getElem?_setIfInBounds_ne (Ne.symm hi)]
          exact hv'
      · rw [World.cell?_of_block (a := ⟨b', i, none⟩) (Below.heap_setCell _ _ _ _ hb)]
        exact hv'
    obtain ⟨u2, hu2, hf2⟩ := h _ hc j d hd
    have hset : (x.w.setCell ⟨b, o + j, none⟩ .nilFunc).cell? ⟨b, o + j, none⟩ = some .nilFunc := by
      simp only [World.cell?, World.setCell, Array.getElem?_modify, if_true] at h1 ⊢
      cases hh : x.w.heap[b]? with
      | none => simp [hh] at h1
      | some ob =>
        cases ob <;> simp [hh] at h1 ⊢
        have := (Array.getElem?_eq_some_iff.1 h1).1
        simp [this]
    rw [hset] at hu2
    simp only [Option.some.injEq] at hu2
    subst hu2
    cases hf2
  · have := hw'.cell b (o + j) _ h1 hS
    rw [this] at hu
    simp only [Option.some.injEq] at hu
    rw [hu]
    exact hf
end Go.Ax
