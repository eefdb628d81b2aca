/- Ax, part I: fields, elements, pieces, conversions, literals of structs, lengths. -/
import Derived.Test.YtlhebakbbfmiiaaDoorAxH
namespace Go.Ax
open Go.RowKit
section
variable {P : Program} {el : Ck → TypeId} {tt : Nat → Ty} {e : Sx.Env} {t : Nat} {x y : Operand} {vx : Vx}

/-! ## lengths, least, greatest -/
theorem p_min {k : IntKind} {a b : Int} {ts : Array TypeId} (hx : Sx.Env.ev e x = some (.int k a)) (hy : Sx.Env.ev e y = some (.int k b)) : Sx.Pure P e (.call ⟨.builtin .min, #[x, y], ts⟩) (.int k (min2 a b)) := fun n a' w o he ho => by
  simp only [execOp, ho, Sem.run_pure, Sem.run_bind, List.map_toArray, List.map_cons, List.map_nil, he.ev hx, he.ev hy, resolve, invoke, builtin, Builtin.min_, Builtin.min2, List.foldlM, Result.andThen_ok, min2]
theorem p_max {k : IntKind} {a b : Int} {ts : Array TypeId} (hx : Sx.Env.ev e x = some (.int k a)) (hy : Sx.Env.ev e y = some (.int k b)) : Sx.Pure P e (.call ⟨.builtin .max, #[x, y], ts⟩) (.int k (max2 a b)) := fun n a' w o he ho => by
  simp only [execOp, ho, Sem.run_pure, Sem.run_bind, List.map_toArray, List.map_cons, List.map_nil, he.ev hx, he.ev hy, resolve, invoke, builtin, Builtin.max_, Builtin.max2, List.foldlM, Result.andThen_ok, max2]
/-! ## elements of slices -/
theorem slice_form {S : Fp} {w : World} {c : Ck} {xs : List (El c)} {v : Value} (h : RF S w (.sl c xs .no) v) : ∃ a cap, v = .slice a xs.length cap ∧ (xs = [] ∨ ∃ b o, a = some ⟨b, o, none⟩ ∧ (xs.length ≤ cap ∧ cap ≤ maxLen) ∧ ∀ i y, xs[i]? = some y → ∀ w', Chg S w w' → At w' c y b (o + i * csz c)) := by
  obtain ⟨a, cap, rfl, h0⟩ := h.here.slice
  refine ⟨a, cap, rfl, ?_⟩
  rcases h0 with h0 | ⟨b, o, rfl, hle, _⟩
  · exact .inl h0
  · refine .inr ⟨b, o, rfl, hle, fun i y hy w' hw => ?_⟩
    obtain ⟨a', cap', e1, h1⟩ := (h w' hw).slice
    simp only [Value.slice.injEq] at e1
    obtain ⟨e2, _, e3⟩ := e1
    rcases h1 with rfl | ⟨b', o', e4, _, h2⟩
    · simp at hy
    · rw [← e2] at e4
      simp only [Option.some.injEq, Addr.mk.injEq, and_true] at e4
      obtain ⟨rfl, rfl⟩ := e4
      exact h2 i y hy
theorem slice_mk {S : Fp} {w : World} {c : Ck} {xs : List (El c)} {a : Option Addr} {cap n : Nat} (hn : n = xs.length) (h : xs = [] ∨ ∃ b o, a = some ⟨b, o, none⟩ ∧ (xs.length ≤ cap ∧ cap ≤ maxLen) ∧ ∀ i y, xs[i]? = some y → ∀ w', Chg S w w' → At w' c y b (o + i * csz c)) : RF S w (.sl c xs .no) (.slice a n cap) := fun w' hw => by
  subst hn
  refine .mkSlice' rfl (h.imp id ?_)
  rintro ⟨b, o, h1, h2, h3⟩
  exact ⟨b, o, h1, h2, fun i y hy => h3 i y hy w' hw⟩
theorem ia_run {c : Ck} {xs : List (El c)} {tk : Tk} {k : IntKind} {i : Int} {v : Value} (ht : tyOk P el tt t = true) (hty : tt t = .sl c) (hv : Rep vx (.sl c xs tk) v) (hx : Sx.Env.ev e x = some v) (hy : Sx.Env.ev e y = some (.int k i)) (hi : inb i xs.length = true) : ∃ u, Sx.Pure P e (.indexAddr t x y) u ∧ Rep vx (.ep c (at' c xs i) 0) u := by
  simp only [inb, Bool.and_eq_true, decide_eq_true_eq] at hi
  simp only [Rep] at hv
  obtain ⟨a, cap, rfl, h⟩ := slice_form hv.1
  obtain ⟨by_, hT, _, _⟩ := tyOk_sl ht hty
  rcases h with rfl | ⟨b, o, rfl, hle, hat⟩
  · simp at hi; omega
  · obtain ⟨hu, i0, z, hi0, hz, hsz, _⟩ := hT
    have helsz : (Sx.elSz P t == some (csz c)) = true := by simp [Sx.elSz, hu, Sx.tySz, hi0, hsz]
    refine ⟨_, Sx.p_ia helsz hx hy hi, ?_⟩
    simp only [Rep]
    exact ⟨b, o + i.toNat * csz c, rfl, fun w' hw => hat _ _ (at'_get hi) w' hw⟩
theorem run_ix_arr {n : Nat} {u : TypeId} {b o sz : Nat} {k : IntKind} {i : Int} {w : World} (hu : P.underlying t = some (.array n u)) (hsz : Sx.tySz P u = some sz) (hi : 0 ≤ i ∧ i < (n : Int)) : (Instr.indexAt t (.pointer (some ⟨b, o, none⟩)) (.int k i)).run P w = .ok (.pointer (some ⟨b, o + i.toNat * sz, none⟩)) w := by
  simp only [Instr.indexAt, asIntOf, Instr.sureAddr, Sem.run_bind, Sem.run_pure, Result.andThen_ok, run_underlying hu, if_pos hi, Sx.run_sizeOf hsz, Sx.add_mk]
/-! ## pieces of slices -/
theorem run_sliceSl {c : Ck} {u : TypeId} {a : Option Addr} {n cap sz : Nat} {lo hi : Option Value} {l h : Nat} {w : World} (hu : P.underlying t = some (.slice u)) (hsz : Sx.tySz P u = some sz) (hb : (Instr.sliceBounds true n cap lo hi none).run P w = .ok (l, h, cap) w) (_hc : c = c) :
    (Instr.sliceAt t (.slice a n cap) lo hi none).run P w = .ok (.slice (if cap = l then a else a.map (·.add (l * sz))) (h - l) (cap - l)) w := by
  simp only [Instr.sliceAt, Instr.slice, Sem.run_bind, run_underlying hu, Result.andThen_ok, hb, Sx.run_sizeOf hsz, Sem.run_pure]
theorem slice_piece {S : Fp} {w : World} {c : Ck} {xs : List (El c)} {a : Option Addr} {cap l h : Nat} (hxs : xs = [] ∨ ∃ b o, a = some ⟨b, o, none⟩ ∧ (xs.length ≤ cap ∧ cap ≤ maxLen) ∧ ∀ i y, xs[i]? = some y → ∀ w', Chg S w w' → At w' c y b (o + i * csz c)) (h1 : l ≤ h) (h2 : h ≤ xs.length) : RF S w (.sl c ((xs.drop l).take (h - l)) .no) (.slice (if cap = l then a else a.map (·.add (l * csz c))) (h - l) (cap - l)) := by
  refine slice_mk (by simp; omega) ?_
  by_cases h0 : (xs.drop l).take (h - l) = []
  · exact .inl h0
  · right
    have hlt : l < h := by
      rcases Nat.lt_or_ge l h with h' | h'
      · exact h'
      · exfalso; apply h0; rw [show h - l = 0 by omega]; simp
    rcases hxs with rfl | ⟨b, o, rfl, hle, hat⟩
    · simp at h2; omega
    · refine ⟨b, o + l * csz c, ?_, by simp; omega, fun i y hy w' hw => ?_⟩
      · rw [if_neg (by omega)]
        simp [Sx.add_mk]
      · rw [List.getElem?_take] at hy
        split at hy
        · rw [List.getElem?_drop] at hy
          have := hat (l + i) y hy w' hw
          rwa [Nat.add_mul, ← Nat.add_assoc] at this
        · cases hy
theorem bnd_both {n cap : Nat} {ik jk : IntKind} {i j : Int} {w : World} (h : 0 ≤ i ∧ i ≤ j ∧ j ≤ (cap : Int)) : (Instr.sliceBounds true n cap (some (.int ik i)) (some (.int jk j)) none).run P w = .ok (i.toNat, j.toNat, cap) w := by
  have h1 : 0 ≤ j ∧ j ≤ (cap : Int) := by omega
  have h2 : 0 ≤ i ∧ i ≤ (j.toNat : Int) := by omega
  simp only [Instr.sliceBounds, Instr.sliceBound, asIntOf, Sem.run_bind, Sem.run_pure, Result.andThen_ok, if_pos h1, if_pos h2]
theorem bnd_lo {n cap : Nat} {ik : IntKind} {i : Int} {w : World} (h : 0 ≤ i ∧ i ≤ (n : Int)) : (Instr.sliceBounds true n cap (some (.int ik i)) none none).run P w = .ok (i.toNat, n, cap) w := by
  simp only [Instr.sliceBounds, Instr.sliceBound, asIntOf, Sem.run_bind, Sem.run_pure, Result.andThen_ok, if_pos h]
theorem bnd_hi {n cap : Nat} {jk : IntKind} {j : Int} {w : World} (h : 0 ≤ j ∧ j ≤ (cap : Int)) : (Instr.sliceBounds true n cap none (some (.int jk j)) none).run P w = .ok (0, j.toNat, cap) w := by
  simp only [Instr.sliceBounds, Instr.sliceBound, asIntOf, Sem.run_bind, Sem.run_pure, Result.andThen_ok, if_pos h]
theorem bnd_none {n cap : Nat} {w : World} : (Instr.sliceBounds true n cap none none none).run P w = .ok (0, n, cap) w := by
  simp only [Instr.sliceBounds, Sem.run_bind, Sem.run_pure, Result.andThen_ok]
theorem bnd_noneS {n : Nat} {w : World} : (Instr.sliceBounds false n n none none none).run P w = .ok (0, n, n) w := by
  simp only [Instr.sliceBounds, Sem.run_bind, Sem.run_pure, Result.andThen_ok]
/-! ## conversions -/
theorem fv_u8 {w : World} {b : UInt8} {u : Value} (h : FV w (.int .u8 (b.toNat : Int)) u) : u = .int .u8 (b.toNat : Int) := by cases h; rfl
theorem bytes_cells {w : World} {xs : List UInt8} {b o : Nat} (h : ∀ (i : Nat) (y : El .byte), xs[i]? = some y → At w .byte y b (o + i * csz .byte)) : ∀ (j : Nat) (hj : j < xs.length), w.cell? ⟨b, o + j, none⟩ = some (.int .u8 (xs[j].toNat : Int)) := by
  intro j hj
  obtain ⟨u, hu, hf⟩ := h j xs[j] (List.getElem?_eq_getElem hj) 0 _ rfl
  rw [fv_u8 hf] at hu
  simpa [csz] using hu
theorem p_bytes_str {s : Nat} {xs : List UInt8} {tk : Tk} {v : Value} (hs : tyOk P el tt s = true) (ht : tyOk P el tt t = true) (hss : tt s = .sl .byte) (htt : tt t = .str) (hv : Rep vx (.sl .byte xs tk) v) (n : Nat) (a : Act) (o : Oper) (he : Sx.EnvOk n e a) (hx : Sx.Env.ev e x = some v) (ho : o.op = .convert s t x) : (execOp a.eval o).run P vx.w = .ok (.value (Sx.S xs)) vx.w := by
  simp only [Rep] at hv
  obtain ⟨ad, cap, rfl, h⟩ := slice_form hv.1
  obtain ⟨by_, hT, _, h8⟩ := tyOk_sl hs hss
  have hu := hT.und
  have hu8 := Sx.tyI_spec (h8 rfl)
  have hts := Sx.tyS_spec (tyOk_str ht htt)
  have hr : (convert s t (.slice ad xs.length cap)).run P vx.w = .ok (Sx.S xs) vx.w := by
    rcases h with rfl | ⟨b, off, rfl, _, hat⟩
    · cases ad with
      | none =>
        simp only [convert, Sem.run_bind, run_underlying hu, run_underlying hts, run_underlying hu8, Result.andThen_ok, Conv.bytesToString, Sem.run_pure]
        rfl
      | some a0 => exact run_convert_bytes_back vx.w s t (el .byte) a0 cap [] hu hu8 hts (fun j hj => by simp at hj)
    · refine run_convert_bytes_back vx.w s t (el .byte) ⟨b, off, none⟩ cap xs hu hu8 hts fun j hj => ?_
      rw [Sx.add_mk]
      exact bytes_cells (fun i y hy => hat i y hy _ (Chg.refl _ _)) j hj
  simp only [execOp, ho, Sem.run_bind, he.ev hx, hr, Result.andThen_ok, Sem.run_pure]
theorem p_str_str {s : Nat} {l : Str} (hs : Sx.tySome P s = true) (ht : Sx.tyS P t = true) (hx : Sx.Env.ev e x = some (Sx.S l)) : Sx.Pure P e (.convert s t x) (Sx.S l) := fun n a w o he ho => by
  obtain ⟨d, hd⟩ := Sx.tySome_spec hs
  have htt := Sx.tyS_spec ht
  simp only [execOp, ho, Sem.run_bind, he.ev hx, convert, run_underlying hd, run_underlying htt, Result.andThen_ok, Sem.run_pure]
/-! ## fields -/
theorem run_part {t : Nat} {ds : List D} {off : Nat} {d : D} {vs : List Value} {w : World} (h : tyOk P el tt t = true) (hn : tt t ≠ .no) (hp : part (tt t) ds off = some d) (hc : CellsR vx ds vs) (hl : ds.all lf = true) : ∃ u, (Go.part t vs.toArray off).run P w = .ok u w ∧ Rep vx d u := by
  obtain ⟨h1, h2, h3⟩ := tyOk_base h hn
  obtain ⟨g1, g2⟩ := part_rep hp hc hl
  cases ha : (tt t).agg? with
  | true =>
    obtain ⟨g3, g4⟩ := g1 ha
    refine ⟨_, ?_, g4⟩
    have : (isAgg t).run P w = .ok true w := Sx.run_isAgg (by simp [h1, h2, ha]) w
    simp only [Go.part, Sem.run_bind, this, Result.andThen_ok, if_true, Sx.run_sizeOf h3, Sem.run_pure]
    congr 2
    apply Array.ext'
    simp [List.take_drop]
  | false =>
    obtain ⟨u, hu, hr⟩ := g2 ha
    refine ⟨u, ?_, hr⟩
    have : (isAgg t).run P w = .ok false w := Sx.run_isAgg (by simp [h1, h2, ha]) w
    have hu' : vs.toArray[off]? = some u := by simpa using hu
    simp only [Go.part, Sem.run_bind, this, Result.andThen_ok, Bool.false_eq_true, if_false, hu', Sem.run_pure]
/-! ## literals of structs -/
theorem write_len : ∀ (vs ds : List D) (o : Nat), (write ds o vs).length = ds.length
  | [], _, _ => rfl
  | v :: vs, ds, o => by simp [write, write_len vs]
theorem write_cellsR : ∀ (es : List D) (us : List Value) (ds : List D) (vs : List Value) (o : Nat), CellsR vx ds vs → CellsR vx es us → o + es.length ≤ ds.length → CellsR vx (write ds o es) (Sx.writeAt vs o us)
  | [], us, ds, vs, o, h, k, _ => by
    have : us = [] := List.eq_nil_of_length_eq_zero k.1
    subst this
    exact h
  | d :: es, us, ds, vs, o, h, k, hl => by
    cases us with
    | nil => have := k.1; simp at this
    | cons u us =>
      have hd : Rep vx d u := by
        obtain ⟨u', hu', hr⟩ := k.2 0 d (by simp)
        simp at hu'; subst hu'; exact hr
      simp only [write, Sx.writeAt]
      simp only [List.length_cons] at hl
      refine write_cellsR es us (ds.set o d) (vs.set o u) (o + 1) ⟨by simp [h.1], fun j e he => ?_⟩ ⟨by have := k.1; simpa using this, fun j e he => by have := k.2 (j + 1) e (by simpa using he); simpa using this⟩ (by simp; omega)
      by_cases hj : o = j
      · subst hj
        have h1 : o < ds.length := by omega
        have h2 : o < vs.length := by rw [h.1]; omega
        simp [h1] at he
        subst he
        exact ⟨u, by simp [h2], hd⟩
      · rw [List.getElem?_set_ne hj] at he
        rw [List.getElem?_set_ne hj]
        exact h.2 j e he
theorem write_lf : ∀ (es ds : List D) (o : Nat), ds.all lf = true → es.all lf = true → (write ds o es).all lf = true
  | [], _, _, h, _ => h
  | d :: es, ds, o, h, k => by
    simp only [List.all_cons, Bool.and_eq_true] at k
    refine write_lf es (ds.set o d) (o + 1) ?_ k.2
    rw [List.all_eq_true] at h ⊢
    intro x hx
    rcases List.mem_or_eq_of_mem_set hx with h1 | h1
    · exact h x h1
    · rw [h1]; exact k.1
theorem foldl_write : ∀ (us cs : List Value) (off i : Nat), (us.zipIdx i).foldl (fun (cs : Array Value) p => cs.setIfInBounds (off + p.2) p.1) cs.toArray = (Sx.writeAt cs (off + i) us).toArray
  | [], _, _, _ => rfl
  | u :: us, cs, off, i => by
    simp only [List.zipIdx_cons, List.foldl_cons, Sx.writeAt, List.setIfInBounds_toArray]
    rw [foldl_write us (cs.set (off + i) u) off (i + 1)]
    rfl
end
end Go.Ax
