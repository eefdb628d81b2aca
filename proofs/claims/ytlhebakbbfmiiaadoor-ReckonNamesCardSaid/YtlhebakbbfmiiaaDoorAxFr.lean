/- Ax, part Fr: THE FRAME: arguments that read as data are arguments of the machine; what is left behind a call. -/
import Derived.Test.YtlhebakbbfmiiaaDoorAxBd
import Derived.ChangeArms
import Derived.WideShapes
import Derived.Carry
import Derived.ChangeShapes
import Derived.Lib.LaidTab
namespace Go.Ax
open Go.RowKit Go.ChangeShapes
/-! ## shapes -/
def shp : D → D → Bool
  | .int k _, .int k' _ => decide (k = k')
  | .bool _, .bool _ => true
  | .str _, .str _ => true
  | .sl c _ _, .sl c' _ _ => decide (c = c')
  | _, _ => false
def shpL : List D → List D → Bool
  | [], [] => true
  | a :: l, b :: m => shp a b && shpL l m
  | _, _ => false
theorem shp_tr {a b c : D} (h : shp a b = true) (k : shp a c = true) : shp b c = true := by
  cases a <;> cases b <;> simp [shp] at h <;> cases c <;> simp [shp] at k <;> subst_vars <;> simp [shp]
theorem shpL_tr : ∀ {a b c : List D}, shpL a b = true → shpL a c = true → shpL b c = true
  | [], [], [], _, _ => rfl
  | x :: a, y :: b, z :: c, h, k => by
    simp only [shpL, Bool.and_eq_true] at h k ⊢
    exact ⟨shp_tr h.1 k.1, shpL_tr h.2 k.2⟩
  | [], _ :: _, _, h, _ => by simp [shpL] at h
  | _ :: _, [], _, h, _ => by simp [shpL] at h
  | [], [], _ :: _, _, k => by simp [shpL] at k
  | _ :: _, _ :: _, [], _, k => by simp [shpL] at k
theorem shpL_len : ∀ {a b : List D}, shpL a b = true → a.length = b.length
  | [], [], _ => rfl
  | _ :: a, _ :: b, h => by
    simp only [shpL, Bool.and_eq_true] at h
    simp [shpL_len h.2]
  | [], _ :: _, h => by simp [shpL] at h
  | _ :: _, [], h => by simp [shpL] at h
theorem shpL_append : ∀ {a b c d : List D}, shpL a b = true → shpL c d = true → shpL (a ++ c) (b ++ d) = true
  | [], [], _, _, _, k => k
  | _ :: a, _ :: b, _, _, h, k => by
    simp only [shpL, Bool.and_eq_true, List.cons_append] at h ⊢
    exact ⟨h.1, shpL_append h.2 k⟩
  | [], _ :: _, _, _, h, _ => by simp [shpL] at h
  | _ :: _, [], _, _, h, _ => by simp [shpL] at h
theorem shp_int {k : IntKind} {n : Int} {d : D} (h : shp (.int k n) d = true) : ∃ m, d = .int k m := by
  cases d <;> simp [shp] at h
  subst h
  exact ⟨_, rfl⟩
theorem shp_bool {b : Bool} {d : D} (h : shp (.bool b) d = true) : ∃ m, d = .bool m := by
  cases d <;> simp [shp] at h
  exact ⟨_, rfl⟩
theorem shp_str {s : Str} {d : D} (h : shp (.str s) d = true) : ∃ m, d = .str m := by
  cases d <;> simp [shp] at h
  exact ⟨_, rfl⟩
theorem shp_sl {c : Ck} {xs : List (El c)} {t : Tk} {d : D} (h : shp (.sl c xs t) d = true) : ∃ ys u, d = .sl c ys u := by
  cases d <;> simp [shp] at h
  subst h
  exact ⟨_, _, rfl⟩
theorem shpL_cons {a : D} {l ds : List D} (h : shpL (a :: l) ds = true) : ∃ b m, ds = b :: m ∧ shp a b = true ∧ shpL l m = true := by
  cases ds with
  | nil => simp [shpL] at h
  | cons b m =>
    simp only [shpL, Bool.and_eq_true] at h
    exact ⟨b, m, rfl, h.1, h.2⟩
theorem shpL_nil {ds : List D} (h : shpL [] ds = true) : ds = [] := by
  cases ds with
  | nil => rfl
  | cons b m => simp [shpL] at h
theorem dec_shape {c : Ck} {z ds : List D} (h : (dec c z).isSome = true) (hs : shpL z ds = true) : ∃ y, dec c ds = some y := by
  obtain ⟨y0, h⟩ := Option.isSome_iff_exists.1 h
  unfold dec at h
  split at h
  all_goals first
    | (cases h; done)
    | skip
  all_goals
    clear h
    repeat (
      obtain ⟨b, m, e, h1, hs'⟩ := shpL_cons hs
      clear hs
      have hs := hs'
      clear hs'
      subst e
      first
        | (obtain ⟨_, e⟩ := shp_int h1; subst e)
        | (obtain ⟨_, e⟩ := shp_bool h1; subst e)
        | (obtain ⟨_, e⟩ := shp_str h1; subst e)
        | (obtain ⟨_, _, e⟩ := shp_sl h1; subst e))
    have e := shpL_nil hs
    subst e
    exact ⟨_, rfl⟩
/-! ## types that are read -/
def zc (t : Ty) : List D := match t.zero with
  | some z => cells z
  | none => []
def contig (tt : Nat → Ty) (rd : List Nat) : Nat → List (Nat × Nat) → List D → Bool
  | _, [], z => z.isEmpty
  | o, (o', u) :: fs, z => Nat.beq o' o && rd.contains u && Nat.ble (zc (tt u)).length z.length && shpL (zc (tt u)) (z.take (zc (tt u)).length) && contig tt rd (o + (zc (tt u)).length) fs (z.drop (zc (tt u)).length)
def rdLoc (el : Ck → TypeId) (tt : Nat → Ty) (rd : List Nat) (t : Nat) : Bool := match tt t with
  | .int _ | .bool | .str => true
  | .sl c => rd.contains (el c) && (dec c (zc (tt (el c)))).isSome
  | .st _ fs z => contig tt rd 0 fs z
  | _ => false
def rdB (el : Ck → TypeId) (tt : Nat → Ty) (rd : List Nat) : Bool := rd.all fun t => rdLoc el tt rd t && Nat.beq (zc (tt t)).length (tt t).n
theorem choose_list {α : Type} {p : Nat → α → Prop} : ∀ (n : Nat), (∀ i, i < n → ∃ y, p i y) → ∃ ys : List α, ys.length = n ∧ ∀ i y, ys[i]? = some y → p i y
  | 0, _ => ⟨[], rfl, by simp⟩
  | n + 1, h => by
    obtain ⟨ys, h1, h2⟩ := choose_list n (fun i hi => h i (by omega))
    obtain ⟨y, hy⟩ := h n (by omega)
    refine ⟨ys ++ [y], by simp [h1], fun i z hz => ?_⟩
    rcases Nat.lt_trichotomy i n with hi | rfl | hi
    · rw [List.getElem?_append_left (by omega)] at hz
      exact h2 i z hz
    · rw [List.getElem?_append_right (by omega), h1] at hz
      simp at hz
      subst hz
      exact hy
    · rw [List.getElem?_eq_none (by simp; omega)] at hz
      cases hz
section
variable {H : Type} {enc' : TypeId × Value → H} {P : Program} {el : Ck → TypeId} {tt : Nat → Ty} {rd : List Nat} {w : World} {sp : Nat → Bool} {held : Bool}
theorem cellsOf_sz {t : TypeId} {n : Nat} (h : Sx.tySz P t = some n) : P.cellsOf t = n := by
  unfold Sx.tySz at h
  simp [Program.cellsOf, h]
theorem cells?_get {a : Addr} {n : Nat} {vs : List Value} (h : w.cells? 0 a n = some vs) : vs.length = n ∧ ∀ j u, vs[j]? = some u → w.cell? (a.add j) = some u := by
  unfold World.cells? at h
  simp only [Nat.zero_le, if_true] at h
  refine ⟨by simpa using Lib.mapM_length h, fun j u hj => ?_⟩
  have hlt : j < n := by
    have := Lib.mapM_length h
    have h2 := (List.getElem?_eq_some_iff.1 hj).1
    simp at this
    omega
  obtain ⟨u', hu, hf⟩ := Lib.mapM_at h j j (by simp [hlt])
  rw [hj] at hu
  simp only [Option.some.injEq] at hu
  subst hu
  exact hf
theorem cell?_spot {a : Addr} {u : Value} (h : w.cell? a = some u) : a.spot = none := by
  unfold World.cell? at h
  split at h
  · split at h
    · cases h
    · rename_i hs
      cases hq : a.spot with
      | none => rfl
      | some q => rw [hq] at hs; simp at hs
  · cases h
/-- data that are read are cells of the machine -/
theorem trod_ds (hT : ∀ t, tyOk P el tt t = true) (hrd : rdB el tt rd = true) : ∀ (fuel : Nat) (t : TypeId) (cs : List Value) (x : DataW H × List MemPlace), rd.contains t = true → DataW.trod enc' P w 0 sp held fuel t cs = some x → ∃ ds, shpL (zc (tt t)) ds = true ∧ Reps (v0 el noFp w) ds cs
  | 0, t, cs, x, _, h => by simp [DataW.trod] at h
  | fuel + 1, t, cs, x, hc, h => by
    have hloc := List.all_eq_true.1 hrd t (by simpa using hc)
    simp only [Bool.and_eq_true] at hloc
    obtain ⟨hloc, hzl⟩ := hloc
    have hzl := Nat.eq_of_beq_eq_true hzl
    unfold rdLoc at hloc
    split at hloc
    · rename_i k hty
      have hu := Sx.tyI_spec (tyOk_int (hT t) hty)
      obtain ⟨n, rfl, _, hw⟩ := DataW.trod_int hu h
      refine ⟨[.int k n], by (rw [hty]; show (decide (k = k) && true) = true; simp), ?_⟩
      simp only [Reps, Rep]
      exact ⟨_, _, rfl, ⟨rfl, hw⟩, rfl⟩
    · rename_i hty
      have hu := Sx.tyB_spec (tyOk_bool (hT t) hty)
      obtain ⟨b, rfl, _⟩ := DataW.trod_bool hu h
      refine ⟨[.bool b], by rw [hty]; rfl, ?_⟩
      simp only [Reps, Rep]
      exact ⟨_, _, rfl, rfl, rfl⟩
    · rename_i hty
      have hu := Sx.tyS_spec (tyOk_str (hT t) hty)
      obtain ⟨s, rfl, _, hs⟩ := DataW.trod_string hu h
      refine ⟨[.str s.data.toList], by rw [hty]; rfl, ?_⟩
      simp only [Reps, Rep]
      exact ⟨_, _, rfl, ⟨(by rw [Array.toArray_toList]), (by rw [Array.length_toList]; exact hs)⟩, rfl⟩
    · rename_i c hty
      simp only [Bool.and_eq_true] at hloc
      obtain ⟨hel, hdec⟩ := hloc
      obtain ⟨by_, hE, _, _⟩ := tyOk_sl (hT t) hty
      have hu := hE.und
      obtain ⟨_, i0, z, hi0, hz, hsz, _⟩ := hE
      have hco : P.cellsOf (el c) = csz c := cellsOf_sz (by simp [Sx.tySz, hi0, hsz])
      rcases DataW.trod_slice hu h with ⟨rfl, _⟩ | ⟨a, len, cap, elems, rest, n, hf, rfl, _, _, hle, hmax, hlen, hel2, _⟩
      · refine ⟨[.sl c [] .no], by (rw [hty]; show (decide (c = c) && true) = true; simp), ?_⟩
        simp only [Reps, Rep]
        exact ⟨_, _, rfl, ⟨fun _ _ => .nil _ _ _ _, trivial⟩, rfl⟩
      · have hf : fuel = n := by omega
        subst hf
        have each : ∀ i, i < len → ∃ y : El c, ∃ vs : List Value, w.cells? 0 (a.add (i * csz c)) (csz c) = some vs ∧ ElR (v0 el noFp w) c y vs := fun i hi => by
          have h1 := hel2 i hi
          have hsome : ∃ e, elems[i]? = some e := ⟨_, List.getElem?_eq_getElem (by omega)⟩
          obtain ⟨e, he⟩ := hsome
          rw [he] at h1
          obtain ⟨vs, hv, ht⟩ := Option.bind_eq_some_iff.1 h1
          rw [hco] at hv
          obtain ⟨ds, hs, hr⟩ := trod_ds hT hrd fuel (el c) vs e hel ht
          obtain ⟨y, hy⟩ := dec_shape hdec hs
          exact ⟨y, vs, hv, reps_elR hy hr⟩
        obtain ⟨ys, hyl, hys⟩ := choose_list len each
        refine ⟨[.sl c ys .no], by (rw [hty]; show (decide (c = c) && true) = true; simp), ?_⟩
        simp only [Reps, Rep]
        refine ⟨_, _, rfl, ⟨slice_mk hyl.symm ?_, trivial⟩, rfl⟩
        by_cases h0 : ys = []
        · exact .inl h0
        · right
          have hsn : a.spot = none := by
            have hlt : 0 < ys.length := List.length_pos_iff.2 h0
            obtain ⟨vs, hv, hE⟩ := hys 0 _ (List.getElem?_eq_getElem hlt)
            obtain ⟨h1, h2⟩ := cells?_get hv
            have hp := csz_pos c
            have := h2 0 _ (List.getElem?_eq_getElem (by omega))
            simp only [Nat.zero_mul, Addr.add, if_true] at this
            exact cell?_spot this
          obtain ⟨b, o, s⟩ := a
          simp only at hsn
          subst hsn
          refine ⟨b, o, rfl, ⟨by omega, hmax⟩, fun i y hy w' hw j d hd => ?_⟩
          obtain ⟨vs, hv, hE⟩ := hys i y hy
          obtain ⟨_, h2⟩ := cells?_get hv
          obtain ⟨u, hu', hf⟩ := hE.2 j d hd
          have hcell := h2 j u hu'
          rw [Sx.add_mk, Sx.add_mk] at hcell
          exact ⟨u, hw.cell b _ u hcell (fun h => h), hf w' hw⟩
    · rename_i cc fs z hty
      have hbase := tyOk_base (hT t) (by rw [hty]; simp)
      have hsz : P.cellsOf t = z.length := by
        have := cellsOf_sz hbase.2.2
        rw [this, hty]
        rfl
      have hok := hT t
      unfold tyOk at hok
      rw [hty] at hok
      simp only [Bool.and_eq_true] at hok
      have hfl := hok.2
      split at hfl
      · rename_i fds hu
        simp only [Bool.and_eq_true] at hfl
        have hfl := hfl.1
        obtain ⟨xs, n, hf, _, hcl, hxl, hfx⟩ := DataW.trod_struct hu h
        have hf : fuel = n := by omega
        subst hf
        have key : ∀ (l : List (Nat × Nat)) (i o : Nat) (z' : List D), fs.drop i = l → contig tt rd o l z' = true → o + z'.length = cs.length → ∃ ds, shpL z' ds = true ∧ Reps (v0 el noFp w) ds (cs.drop o) := by
          intro l
          induction l with
          | nil =>
            intro i o z' _ hct ho
            simp only [contig, List.isEmpty_iff] at hct
            subst hct
            refine ⟨[], rfl, ?_⟩
            rw [List.drop_eq_nil_of_le (by simp at ho; omega)]
            simp [Reps]
          | cons q l ih =>
            intro i o z' hd hct ho
            obtain ⟨o', u⟩ := q
            simp only [contig, Bool.and_eq_true] at hct
            obtain ⟨⟨⟨⟨ho', hcu⟩, hle⟩, hsh⟩, hct⟩ := hct
            have ho' := Nat.eq_of_beq_eq_true ho'
            subst ho'
            have hle := Nat.le_of_ble_eq_true hle
            have hget : fs[i]? = some (o', u) := by
              have := congrArg (·[0]?) hd
              simpa [List.getElem?_drop] using this
            obtain ⟨fd, g1, g2, g3, _⟩ := fldsB_get hfl hget
            have g1' : fds[i]? = some fd := by simpa using g1
            have h1 := hfx i fd g1'
            rw [g2, g3] at h1
            have hxi : ∃ e, xs[i]? = some e := ⟨_, List.getElem?_eq_getElem (by
              have := (Array.getElem?_eq_some_iff.1 g1').1
              omega)⟩
            obtain ⟨e, he⟩ := hxi
            rw [he] at h1
            have hlu := List.all_eq_true.1 hrd u (by simpa using hcu)
            simp only [Bool.and_eq_true] at hlu
            have hnu := Nat.eq_of_beq_eq_true hlu.2
            have hneu : tt u ≠ .no := by
              intro e
              have := hlu.1
              unfold rdLoc at this
              rw [e] at this
              cases this
            have hcou : P.cellsOf u = (zc (tt u)).length := by rw [cellsOf_sz (tyOk_base (hT u) hneu).2.2, hnu]
            rw [hcou] at h1
            obtain ⟨ds1, s1, r1⟩ := trod_ds hT hrd fuel u _ e hcu h1
            obtain ⟨ds2, s2, r2⟩ := ih (i + 1) (o' + (zc (tt u)).length) _ (by rw [← List.drop_drop, hd]; rfl) hct (by simp; omega)
            refine ⟨ds1 ++ ds2, ?_, ?_⟩
            · rw [← List.take_append_drop (zc (tt u)).length z']
              exact shpL_append (shpL_tr hsh s1) s2
            · have := r1.append r2
              rwa [← List.drop_drop, List.take_append_drop] at this
        obtain ⟨ds, h1, h2⟩ := key fs 0 0 z rfl hloc (by rw [hcl, hsz]; omega)
        exact ⟨ds, by simpa [hty, zc, Ty.zero, cells] using h1, by simpa using h2⟩
      · cases hfl
    · cases hloc
/-! ## arguments -/
def sgOk (tt : Nat → Ty) (rd : List Nat) (t : Nat) (s : Sg) : Bool := rd.contains t && match tt t, s with
  | .int k, .int k' => decide (k = k')
  | .bool, .bool => true
  | .str, .str => true
  | .sl c, .sl c' false => decide (c = c')
  | .st (some c) _ _, .sv c' => decide (c = c') && agg? c && (dec c (zc (tt t))).isSome
  | _, _ => false
theorem arg_rep (hT : ∀ t, tyOk P el tt t = true) (hrd : rdB el tt rd = true) {t : TypeId} {s : Sg} (hs : sgOk tt rd t s = true) {r : Reach} {b0 : Nat} {v : Value} {d : DataW H} {ps : List MemPlace} (hval : Value.okWide P w r b0 t v) (h : DataW.Trod enc' P w 0 sp held t v d ps) (i : Nat) : ∃ y : den s, Rep (v0 el noFp w) (enc1 i s y) v := by
  obtain ⟨fuel, h⟩ := h
  simp only [sgOk, Bool.and_eq_true] at hs
  obtain ⟨hc, hs⟩ := hs
  obtain ⟨ds, hsh, hr⟩ := trod_ds hT hrd fuel t _ _ hc h
  split at hs
  · rename_i k k' hty
    simp only [decide_eq_true_eq] at hs
    subst hs
    obtain ⟨n, rfl⟩ := WideShapes.okWide_int (Sx.tyI_spec (tyOk_int (hT t) hty)) hval
    simp only [hty, zc, Ty.zero, cells] at hsh
    obtain ⟨b, m, rfl, h1, h2⟩ := shpL_cons hsh
    obtain rfl := shpL_nil h2
    obtain ⟨n', rfl⟩ := shp_int h1
    simp only [Value.cells, Reps] at hr
    obtain ⟨u, us, e, hr, _⟩ := hr
    simp only [List.cons.injEq] at e
    obtain ⟨rfl, _⟩ := e
    exact ⟨n', hr⟩
  · rename_i hty
    obtain ⟨n, rfl⟩ := WideShapes.okWide_bool (Sx.tyB_spec (tyOk_bool (hT t) hty)) hval
    exact ⟨n, by simp only [enc1, Rep]⟩
  · rename_i hty
    obtain ⟨n, rfl⟩ := WideShapes.okWide_string (Sx.tyS_spec (tyOk_str (hT t) hty)) hval
    simp only [hty, zc, Ty.zero, cells] at hsh
    obtain ⟨b, m, rfl, h1, h2⟩ := shpL_cons hsh
    obtain rfl := shpL_nil h2
    obtain ⟨n', rfl⟩ := shp_str h1
    simp only [Value.cells, Reps] at hr
    obtain ⟨u, us, e, hr, _⟩ := hr
    simp only [List.cons.injEq] at e
    obtain ⟨rfl, _⟩ := e
    exact ⟨n', hr⟩
  · rename_i c c' hty
    simp only [decide_eq_true_eq] at hs
    subst hs
    obtain ⟨by_, hE, _, _⟩ := tyOk_sl (hT t) hty
    have hv : v.cells.toList = [v] := by
      have hu := hE.und
      simp only [Value.okWide, hu, Cell.okWide] at hval
      cases v <;> first | rfl | (simp [Cell.ok, hu] at hval; done) | (exfalso; simp_all [Cell.ok])
    rw [hv] at hr
    simp only [hty, zc, Ty.zero, cells] at hsh
    obtain ⟨b, m, rfl, h1, h2⟩ := shpL_cons hsh
    obtain rfl := shpL_nil h2
    obtain ⟨ys, u, rfl⟩ := shp_sl h1
    simp only [Reps] at hr
    obtain ⟨u', us, e, hr, _⟩ := hr
    simp only [List.cons.injEq] at e
    obtain ⟨rfl, _⟩ := e
    refine ⟨ys, ?_⟩
    simp only [enc1, Rep] at hr ⊢
    exact ⟨hr.1, trivial⟩
  · rename_i c fs z c' hty
    simp only [Bool.and_eq_true, decide_eq_true_eq] at hs
    obtain ⟨⟨rfl, ha⟩, hdec⟩ := hs
    obtain ⟨y, hy⟩ := dec_shape hdec hsh
    have hE := reps_elR hy hr
    have hv : ∃ cs, v = .agg cs := by
      have hok := hT t
      unfold tyOk at hok
      rw [hty] at hok
      simp only [Bool.and_eq_true] at hok
      have hfl := hok.2
      split at hfl
      · rename_i fds hu
        simp only [Value.okWide, hu] at hval
        obtain ⟨cs, h1, _⟩ := hval
        exact ⟨cs, h1⟩
      · cases hfl
    obtain ⟨cs, rfl⟩ := hv
    refine ⟨y, ?_⟩
    simp only [enc1, Rep]
    exact ⟨ha, cs.toList, by simp, by simpa [Value.cells] using hE.1, by simpa [Value.cells] using hE.2⟩
  · cases hs
def sgsOk (tt : Nat → Ty) (rd : List Nat) : List TypeId → List Sg → Bool
  | [], [] => true
  | t :: ts, s :: ss => sgOk tt rd t s && sgsOk tt rd ts ss
  | _, _ => false
theorem args_rep (hT : ∀ t, tyOk P el tt t = true) (hrd : rdB el tt rd = true) {r : Reach} {b0 : Nat} : ∀ {ts : List TypeId} {sa : List Sg} {vs : List Value} {ds : List (DataW H)} {ps : List MemPlace} (i : Nat), sgsOk tt rd ts sa = true → (∀ (j : Nat) t v, ts[j]? = some t → vs[j]? = some v → Value.okWide P w r b0 t v) → DataW.TrodAll enc' P w 0 sp held ts vs ds ps → ∃ x : HV sa, Reps (v0 el noFp w) (encL i sa x) vs
  | [], [], vs, ds, ps, i, _, _, h => by
    cases vs with
    | nil => exact ⟨(), by simp [encL, Reps]⟩
    | cons v vs => cases ds <;> simp [DataW.TrodAll] at h
  | t :: ts, [], _, _, _, _, hs, _, _ => by simp [sgsOk] at hs
  | [], s :: ss, _, _, _, _, hs, _, _ => by simp [sgsOk] at hs
  | t :: ts, s :: ss, vs, ds, ps, i, hs, hval, h => by
    simp only [sgsOk, Bool.and_eq_true] at hs
    obtain ⟨v, vs', d, ds', p, q, rfl, rfl, rfl, hd, hrest⟩ := trodAll_cons h
    obtain ⟨y, hy⟩ := arg_rep hT hrd hs.1 (hval 0 t v rfl rfl) hd i
    obtain ⟨z, hz⟩ := args_rep hT hrd (i + 1) hs.2 (fun j t' v' h1 h2 => hval (j + 1) t' v' (by simpa using h1) (by simpa using h2)) hrest
    cases ss with
    | nil =>
      refine ⟨y, ?_⟩
      simp only [encL, Reps] at hz ⊢
      exact ⟨v, vs', rfl, hy, hz⟩
    | cons s' ss =>
      refine ⟨(y, z), ?_⟩
      simp only [encL, Reps]
      exact ⟨v, vs', rfl, hy, hz⟩
/-- the arguments read behind the call as they did -/
theorem args_stay (hl : laidOutB P = true) {W W' : World} (hb : Below W.heap.size W W') : ∀ {ts : List TypeId} {vs : List Value} {ds : List (DataW H)} {ps : List MemPlace}, (∀ t, t ∈ ts → P.readableRec t = true ∧ t < P.types.size) → (∀ x ∈ ps, x.block < W.heap.size) → DataW.TrodAll enc' P W 0 (fun _ => true) true ts vs ds ps → DataW.TrodAll enc' P W' 0 (fun b => decide (b < W.heap.size)) true ts vs ds ps
  | [], vs, ds, ps, _, _, h => by
    cases vs <;> cases ds <;> simp [DataW.TrodAll] at h ⊢
    exact h
  | t :: ts, vs, ds, ps, ht, hlt, h => by
    obtain ⟨v, vs', d, ds', p, q, rfl, rfl, rfl, hd, hrest⟩ := trodAll_cons h
    obtain ⟨h1, h2⟩ := ht t (by simp)
    exact ⟨p, q, Below.trod hl h1 h2 hd hb (fun x hx => hlt x (by simp [hx])), args_stay hl hb (fun t' h' => ht t' (by simp [h'])) (fun x hx => hlt x (by simp [hx])) hrest, rfl⟩
end
end Go.Ax
