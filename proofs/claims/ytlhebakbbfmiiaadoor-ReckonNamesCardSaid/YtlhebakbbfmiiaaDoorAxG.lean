/- Ax, part G: loads, fields, elements, pieces, conversions, literals of structs. -/
import Derived.Test.YtlhebakbbfmiiaaDoorAxF
namespace Go.Ax
open Go.RowKit

/-! ## cells of a value -/
def CellsR (x : Vx) (ds : List D) (vs : List Value) : Prop := vs.length = ds.length ∧ ∀ (j : Nat) d, ds[j]? = some d → ∃ u, vs[j]? = some u ∧ Rep x d u
theorem reps_cellsR {x : Vx} {ds : List D} {vs : List Value} (h : Reps x ds vs) : CellsR x ds vs := ⟨h.len, fun _ _ hd => h.get hd⟩
theorem CellsR.reps {x : Vx} {ds : List D} {vs : List Value} (h : CellsR x ds vs) : Reps x ds vs :=
  Reps.mk h.1 fun i d v hd hv => by
    obtain ⟨u, hu, hr⟩ := h.2 i d hd
    rw [hv] at hu
    simp only [Option.some.injEq] at hu
    rw [hu]
    exact hr
theorem elR_cellsR {x : Vx} {c : Ck} {y : El c} {vs : List Value} (h : ElR x c y vs) : CellsR x (enc c y) vs :=
  ⟨by rw [h.1, enc_len], fun j d hd => by obtain ⟨u, hu, hf⟩ := h.2 j d hd; exact ⟨u, hu, rf_rep hf (enc_not hd).2⟩⟩
theorem enc_lf (c : Ck) (y : El c) : (enc c y).all lf = true := by
  rw [List.all_eq_true]
  intro d hd
  obtain ⟨j, hj, rfl⟩ := List.mem_iff_getElem.1 hd
  exact (enc_not (List.getElem?_eq_getElem hj)).1
theorem rep_cells {x : Vx} {d : D} {v : Value} (h : Rep x d v) (hl : lfs d = true) : CellsR x (cells d) v.cells.toList := by
  have leaf : lf d = true → cells d = [d] → CellsR x (cells d) v.cells.toList := fun h1 h2 => by
    rw [h2, Sx.one_cells (rep_one h h1)]
    exact ⟨rfl, fun j e he => by
      cases j with
      | zero => simp at he; subst he; exact ⟨v, by simp, h⟩
      | succ j => simp at he⟩
  cases d with
  | sv c y =>
    simp only [Rep] at h
    obtain ⟨_, vs, rfl, hl, hr⟩ := h
    simpa [Value.cells, cells] using elR_cellsR (x := x) (c := c) (y := y) (vs := vs) ⟨hl, hr⟩
  | agg ds =>
    simp only [Rep] at h
    obtain ⟨_, vs, rfl, hr⟩ := h
    simpa [Value.cells, cells] using reps_cellsR hr
  | rw c n xs => simp [lfs, cells, lf] at hl
  | tup ds => simp [lfs, cells, lf] at hl
  | undef => simp [lfs, cells, lf] at hl
  | _ => exact leaf rfl rfl
theorem cells_one {x : Vx} {ds : List D} {vs : List Value} (h : CellsR x ds vs) (hl : ds.all lf = true) : ∀ v, v ∈ vs → Sx.one v = true := by
  intro v hv
  obtain ⟨j, hj, rfl⟩ := List.mem_iff_getElem.1 hv
  have hlt : j < ds.length := by rw [← h.1]; exact hj
  obtain ⟨u, hu, hr⟩ := h.2 j _ (List.getElem?_eq_getElem hlt)
  rw [List.getElem?_eq_getElem hj] at hu
  simp only [Option.some.injEq] at hu
  rw [hu]
  exact rep_one hr (List.all_eq_true.1 hl _ (List.getElem_mem hlt))
theorem CellsR.sub {x : Vx} {ds : List D} {vs : List Value} (h : CellsR x ds vs) (o n : Nat) : CellsR x ((ds.drop o).take n) ((vs.drop o).take n) := by
  refine ⟨by simp [h.1], fun j d hd => ?_⟩
  rw [List.getElem?_take] at hd
  split at hd
  · rename_i hj
    rw [List.getElem?_drop] at hd
    obtain ⟨u, hu, hr⟩ := h.2 _ d hd
    exact ⟨u, by rw [List.getElem?_take, if_pos hj, List.getElem?_drop]; exact hu, hr⟩
  · cases hd
theorem all_sub {ds : List D} (h : ds.all lf = true) (o n : Nat) : ((ds.drop o).take n).all lf = true := by
  rw [List.all_eq_true] at h ⊢
  exact fun d hd => h d (List.mem_of_mem_drop (List.mem_of_mem_take hd))
/-- a part of a row of cells -/
theorem part_rep {x : Vx} {t : Ty} {ds : List D} {off : Nat} {d : D} {vs : List Value} (h : part t ds off = some d) (hc : CellsR x ds vs) (hl : ds.all lf = true) :
    (t.agg? = true → off + t.n ≤ vs.length ∧ Rep x d (.agg ((vs.drop off).take t.n).toArray)) ∧ (t.agg? = false → ∃ u, vs[off]? = some u ∧ Rep x d u) := by
  unfold part at h
  constructor
  · intro ha
    rw [ha] at h
    simp only at h
    split at h
    · rename_i hle
      simp only [Option.some.injEq] at h
      subst h
      refine ⟨by rw [hc.1]; simpa using hle, ?_⟩
      simp only [Rep]
      exact ⟨all_sub hl _ _, _, rfl, (hc.sub off t.n).reps⟩
    · cases h
  · intro ha
    rw [ha] at h
    exact hc.2 off d h

/-! ## loads -/
section
variable {P : Program} {el : Ck → TypeId} {tt : Nat → Ty} {t : Nat} {w : World}
theorem ld_agg (h : tyOk P el tt t = true) (hn : tt t ≠ .no) (ha : (tt t).agg? = true) {b o : Nat} {vs : List Value} (hl : vs.length = (tt t).n) (hc : ∀ (j : Nat) v, vs[j]? = some v → w.cell? ⟨b, o + j, none⟩ = some v) : (loadVar t ⟨b, o, none⟩).run P w = .ok (.agg vs.toArray) w := by
  obtain ⟨h1, h2, h3⟩ := tyOk_base h hn
  exact Sx.run_loadVarn (by simp [h1, h2, ha]) (by rw [h3, hl]) hc
theorem ld_leaf (h : tyOk P el tt t = true) (hn : tt t ≠ .no) (ha : (tt t).agg? = false) {b o : Nat} {v : Value} (hc : w.cell? ⟨b, o, none⟩ = some v) : (loadVar t ⟨b, o, none⟩).run P w = .ok v w := by
  obtain ⟨h1, h2, _⟩ := tyOk_base h hn
  exact Sx.run_loadVar1 (by simp [h1, h2, ha]) hc
/-- a part of a row of cells, from memory -/
theorem ld_part {x : Vx} (h : tyOk P el tt t = true) (hn : tt t ≠ .no) {ds : List D} {off : Nat} {d : D} {vs : List Value} {b o : Nat} (hp : part (tt t) ds off = some d) (hc : CellsR x ds vs) (hl : ds.all lf = true) (hm : ∀ (j : Nat) v, vs[j]? = some v → w.cell? ⟨b, o + j, none⟩ = some v) : ∃ v, (loadVar t ⟨b, o + off, none⟩).run P w = .ok v w ∧ Rep x d v := by
  obtain ⟨h1, h2⟩ := part_rep hp hc hl
  cases ha : (tt t).agg? with
  | true =>
    obtain ⟨h3, h4⟩ := h1 ha
    refine ⟨_, ld_agg h hn ha (vs := (vs.drop off).take (tt t).n) (by simp; omega) fun j v hj => ?_, h4⟩
    rw [List.getElem?_take] at hj
    split at hj
    · rw [List.getElem?_drop] at hj
      have := hm _ v hj
      rwa [← Nat.add_assoc] at this
    · cases hj
  | false =>
    obtain ⟨u, hu, hr⟩ := h2 ha
    exact ⟨u, ld_leaf h hn ha (hm off u hu), hr⟩
/-- an element, from memory -/
theorem ld_el {x : Vx} (h : tyOk P el tt t = true) (hn : tt t ≠ .no) {c : Ck} {y : El c} {vs : List Value} {b o : Nat} (hsz : (tt t).n = csz c) (hag : (tt t).agg? = agg? c) (he : ElR x c y vs) (hm : ∀ (j : Nat) v, vs[j]? = some v → w.cell? ⟨b, o + j, none⟩ = some v) : ∃ v, (loadVar t ⟨b, o, none⟩).run P w = .ok v w ∧ Rep x (ofK c y) v := by
  obtain ⟨h1, h2⟩ := elR_ofK he
  cases ha : agg? c with
  | true => exact ⟨_, ld_agg h hn (by rw [hag, ha]) (by rw [he.1, hsz]) hm, h1 ha⟩
  | false =>
    obtain ⟨v, rfl, hr⟩ := h2 ha
    exact ⟨v, ld_leaf h hn (by rw [hag, ha]) (by simpa using hm 0 v (by simp)), hr⟩
end
section
variable {R : Type} {px : Px R} {cx : Cx} {m : Mp} {a : Act} {as : List Act} {s : FS} {w : World}
theorem known_ne {t : Ty} (h : t.known = true) : t ≠ .no ∧ t ≠ .map := by cases t <;> simp [Ty.known] at h <;> simp
def loadF (_px : Px R) (bl : Nat → Option Blk) (t : Ty) : D → Option D
  | .ep c x off => match Nat.beq off 0 && Nat.beq t.n (csz c) && (t.agg? == agg? c) with
    | true => some (ofK c x)
    | false => part t (enc c x) off
  | .ptr b off => match bl b with
    | some (.cells ds) => part t ds off
    | some (.box c x) => match Nat.beq off 0 && Nat.beq t.n (csz c) && (t.agg? == agg? c) with
      | true => some (ofK c x)
      | false => part t (enc c x) off
    | _ => none
  | .rp b c0 n0 i => match bl b with
    | some (.row c n xs) => match Nat.beq t.n (csz c) && (t.agg? == agg? c) && decide (c0 = c) && Nat.beq n0 n with
      | true => some (ofK c (at' c xs i))
      | false => none
    | _ => none
  | _ => none
theorem load_eq (st : St) (t : Ty) (d : D) : load px st t d = loadF px (blk st.bl) t d := by cases d <;> rfl
theorem at'_get {c : Ck} {xs : List (El c)} {i : Int} (h : 0 ≤ i ∧ i < (xs.length : Int)) : xs[i.toNat]? = some (at' c xs i) := by
  have : i.toNat < xs.length := by omega
  simp [at', this]
theorem blk_cells {vs : List Value} {t : TypeId} {b : Nat} (h : w.heap[b]? = some (.cells vs.toArray t (0, 0))) : ∀ (j : Nat) v, vs[j]? = some v → w.cell? ⟨b, 0 + j, none⟩ = some v := fun j v hv => by
  simp only [World.cell?, h]
  simpa using hv
/-- LOADS -/
theorem loadF_run (hp : PxOk cx px) (hr : Rel cx m a as s w) {t : Nat} (hk : (px.tt t).known = true) {p d : D} {v : Value} (h : loadF px s.bl (px.tt t) p = some d) (hv : Rep (vx cx m s w) p v) : ∃ u, (Instr.loadAt t v).run cx.P w = .ok u w ∧ Rep (vx cx m s w) d u := by
  have ht := hp.tt t
  obtain ⟨hn, hg⟩ := known_ne hk
  have done : ∀ b o, v = .pointer (some ⟨b, o, none⟩) → (∃ u, (loadVar t ⟨b, o, none⟩).run cx.P w = .ok u w ∧ Rep (vx cx m s w) d u) → ∃ u, (Instr.loadAt t v).run cx.P w = .ok u w ∧ Rep (vx cx m s w) d u := by
    rintro b o rfl ⟨u, h1, h2⟩
    exact ⟨u, by simp only [Instr.loadAt, Instr.sureAddr, Sem.run_bind, Sem.run_pure, Result.andThen_ok, h1], h2⟩
  unfold loadF at h
  split at h
  · rename_i c y off
    simp only [Rep] at hv
    obtain ⟨b, o, hv, hat⟩ := hv
    obtain ⟨vs, hel, hm⟩ := At.elR rfl hat
    refine done b (o + off) hv ?_
    split at h
    · rename_i hb
      simp only [Bool.and_eq_true, beq_iff_eq] at hb
      simp only [Option.some.injEq] at h
      subst h
      have h0 : off = 0 := Nat.eq_of_beq_eq_true hb.1.1
      subst h0
      exact ld_el ht hn (Nat.eq_of_beq_eq_true hb.1.2) hb.2 hel hm
    · exact ld_part ht hn h (elR_cellsR hel) (enc_lf c y) hm
  · rename_i b off
    simp only [Rep] at hv
    split at h
    · rename_i ds hb
      obtain ⟨_, hl, vs, ty, hh, hreps⟩ := hr.blks b _ hb
      have := ld_part (x := vx cx m s w) (w := w) (b := m.bl b) (o := 0) ht hn h (reps_cellsR hreps) hl (blk_cells hh)
      rw [Nat.zero_add] at this
      exact done _ _ hv.2 this
    · rename_i c y hb
      obtain ⟨_, _, vs, ty, hh, hlen, hel⟩ := hr.blks b _ hb
      have hel : ElR (vx cx m s w) c y vs := ⟨hlen, hel⟩
      refine done _ _ hv.2 ?_
      split at h
      · rename_i hbq
        simp only [Bool.and_eq_true, beq_iff_eq] at hbq
        simp only [Option.some.injEq] at h
        subst h
        have h0 : off = 0 := Nat.eq_of_beq_eq_true hbq.1.1
        subst h0
        exact ld_el ht hn (Nat.eq_of_beq_eq_true hbq.1.2) hbq.2 hel (blk_cells hh)
      · have := ld_part (x := vx cx m s w) (w := w) (b := m.bl b) (o := 0) ht hn h (elR_cellsR hel) (enc_lf c y) (blk_cells hh)
        rw [Nat.zero_add] at this
        exact this
    · cases h
  · rename_i b c0 n0 i
    simp only [Rep] at hv
    split at h
    · rename_i c n xs hb
      split at h
      · rename_i hk
        simp only [Bool.and_eq_true, beq_iff_eq, decide_eq_true_eq] at hk
        obtain ⟨⟨⟨h1, h2⟩, rfl⟩, h4⟩ := hk
        have h4 := Nat.eq_of_beq_eq_true h4
        subst h4
        simp only [Option.some.injEq] at h
        subst h
        obtain ⟨_, hnl, vs, ty, hh, hlen, hreps⟩ := hr.blks b _ hb
        have hi : 0 ≤ i ∧ i < (xs.length : Int) := by rw [hnl]; exact hv.2.2
        have hget := at'_get hi
        refine done _ _ hv.2.1 (ld_el ht hn (vs := (vs.drop (i.toNat * csz c0)).take (csz c0)) (Nat.eq_of_beq_eq_true h1) h2 ⟨?_, fun j d hd => ?_⟩ fun j v hj => ?_)
        · have : i.toNat * csz c0 + csz c0 ≤ xs.length * csz c0 := by
            rw [← Nat.succ_mul]
            exact Nat.mul_le_mul_right _ (by omega)
          simp only [List.length_take, List.length_drop, hlen]
          omega
        · obtain ⟨u, hu, hf⟩ := hreps _ _ j d hget hd
          have hj : j < csz c0 := by rw [← enc_len c0 (at' c0 xs i)]; exact (List.getElem?_eq_some_iff.1 hd).1
          exact ⟨u, by rw [List.getElem?_take, if_pos hj, List.getElem?_drop]; exact hu, hf⟩
        · rw [List.getElem?_take] at hj
          split at hj
          · rw [List.getElem?_drop] at hj
            have := blk_cells hh _ v hj
            rwa [Nat.zero_add] at this
          · cases hj
      · cases h
    · cases h
  · cases h
end
end Go.Ax
