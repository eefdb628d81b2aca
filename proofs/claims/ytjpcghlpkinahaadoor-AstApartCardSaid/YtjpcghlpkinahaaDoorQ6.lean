/- Texts of the proof, one behind the other: AxFr, Mu, Ub, Tl, Tm, AxFs, FrG. -/
import Derived.Test.YtjpcghlpkinahaaDoorQ5
import Derived.ChangeArms
import Derived.WideShapes
import Derived.Carry
import Derived.ChangeShapes
import Derived.Lib.LaidTab
import Derived.SizedLaws
import Derived.Test.YtjpcghlpkinahaaDoorRows
import Derived.ProofKit
import Derived.ChangeMaps5
import Derived.ChangeAnyMap
import Derived.Test.YtjpcghlpkinahaaDoorCards
import Derived.Test.YtjpcghlpkinahaaDoorTie
import Derived.OpenShut
import Derived.Deep.DeepHandedRow
import Derived.Shelf.Vars
/- Ax, part Fr: THE FRAME: arguments that read as data are arguments of the machine; what is left behind a call. -/
namespace Go.Ax
open Go.RowKit Go.ChangeShapes
/-! ## shapes -/
def shp : D → D → Bool
  | .int k _, .int k' _ => decide (k = k')
  | .bool _, .bool _ => true
  | .str _, .str _ => true
  | .sl c _ _, .sl c' _ _ => decide (c = c')
  | _, _ => false
def shpL : List D → List D → Bool
  | [], [] => true
  | a :: l, b :: m => shp a b && shpL l m
  | _, _ => false
theorem shp_tr {a b c : D} (h : shp a b = true) (k : shp a c = true) : shp b c = true := by
  cases a <;> cases b <;> simp [shp] at h <;> cases c <;> simp [shp] at k <;> subst_vars <;> simp [shp]
theorem shpL_tr : ∀ {a b c : List D}, shpL a b = true → shpL a c = true → shpL b c = true
  | [], [], [], _, _ => rfl
  | x :: a, y :: b, z :: c, h, k => by
    simp only [shpL, Bool.and_eq_true] at h k ⊢
    exact ⟨shp_tr h.1 k.1, shpL_tr h.2 k.2⟩
  | [], _ :: _, _, h, _ => by simp [shpL] at h
  | _ :: _, [], _, h, _ => by simp [shpL] at h
  | [], [], _ :: _, _, k => by simp [shpL] at k
  | _ :: _, _ :: _, [], _, k => by simp [shpL] at k
theorem shpL_len : ∀ {a b : List D}, shpL a b = true → a.length = b.length
  | [], [], _ => rfl
  | _ :: a, _ :: b, h => by
    simp only [shpL, Bool.and_eq_true] at h
    simp [shpL_len h.2]
  | [], _ :: _, h => by simp [shpL] at h
  | _ :: _, [], h => by simp [shpL] at h
theorem shpL_append : ∀ {a b c d : List D}, shpL a b = true → shpL c d = true → shpL (a ++ c) (b ++ d) = true
  | [], [], _, _, _, k => k
  | _ :: a, _ :: b, _, _, h, k => by
    simp only [shpL, Bool.and_eq_true, List.cons_append] at h ⊢
    exact ⟨h.1, shpL_append h.2 k⟩
  | [], _ :: _, _, _, h, _ => by simp [shpL] at h
  | _ :: _, [], _, _, h, _ => by simp [shpL] at h
theorem shp_int {k : IntKind} {n : Int} {d : D} (h : shp (.int k n) d = true) : ∃ m, d = .int k m := by
  cases d <;> simp [shp] at h
  subst h
  exact ⟨_, rfl⟩
theorem shp_bool {b : Bool} {d : D} (h : shp (.bool b) d = true) : ∃ m, d = .bool m := by
  cases d <;> simp [shp] at h
  exact ⟨_, rfl⟩
theorem shp_str {s : Str} {d : D} (h : shp (.str s) d = true) : ∃ m, d = .str m := by
  cases d <;> simp [shp] at h
  exact ⟨_, rfl⟩
theorem shp_sl {c : Ck} {xs : List (El c)} {t : Tk} {d : D} (h : shp (.sl c xs t) d = true) : ∃ ys u, d = .sl c ys u := by
  cases d <;> simp [shp] at h
  subst h
  exact ⟨_, _, rfl⟩
theorem shpL_cons {a : D} {l ds : List D} (h : shpL (a :: l) ds = true) : ∃ b m, ds = b :: m ∧ shp a b = true ∧ shpL l m = true := by
  cases ds with
  | nil => simp [shpL] at h
  | cons b m =>
    simp only [shpL, Bool.and_eq_true] at h
    exact ⟨b, m, rfl, h.1, h.2⟩
theorem shpL_nil {ds : List D} (h : shpL [] ds = true) : ds = [] := by
  cases ds with
  | nil => rfl
  | cons b m => simp [shpL] at h
theorem dec_shape {c : Ck} {z ds : List D} (h : (dec c z).isSome = true) (hs : shpL z ds = true) : ∃ y, dec c ds = some y := by
  obtain ⟨y0, h⟩ := Option.isSome_iff_exists.1 h
  unfold dec at h
  split at h
  all_goals first
    | (cases h; done)
    | skip
  all_goals
    clear h
    repeat (
      obtain ⟨b, m, e, h1, hs'⟩ := shpL_cons hs
      clear hs
      have hs := hs'
      clear hs'
      subst e
      first
        | (obtain ⟨_, e⟩ := shp_int h1; subst e)
        | (obtain ⟨_, e⟩ := shp_bool h1; subst e)
        | (obtain ⟨_, e⟩ := shp_str h1; subst e)
        | (obtain ⟨_, _, e⟩ := shp_sl h1; subst e))
    have e := shpL_nil hs
    subst e
    exact ⟨_, rfl⟩
/-! ## what is read has texts of no more than so many bytes -/
def R47 : Nat := 140737488351232
/-- the bounds: R.1 of texts, R.2 of lists -/
def SmVal (R : Nat × Nat) (v : Val) : Prop := v.s.length ≤ R.1
inductive SmExpr (R : Nat × Nat) : Xpr → Prop
  | mk (k : Int) (v : Val) (nm : Str) (l : List Xpr) : SmVal R v → nm.length ≤ R.1 → l.length ≤ R.2 → (∀ e, e ∈ l → SmExpr R e) → SmExpr R (.mk k v nm l)
structure SmStm (R : Nat × Nat) (s : Stm) : Prop where
  name : s.name.length ≤ R.1
  on : s.on.length ≤ R.1
  cols : s.cols.length ≤ R.2 ∧ ∀ c, c ∈ s.cols → c.name.length ≤ R.1 ∧ c.ref.length ≤ R.1
  names : s.names.length ≤ R.2 ∧ ∀ x, x ∈ s.names → x.length ≤ R.1
  l : s.l.length ≤ R.2 ∧ ∀ x, x ∈ s.l → SmExpr R x
  rows : s.rows.length ≤ R.2 ∧ ∀ r, r ∈ s.rows → r.length ≤ R.2 ∧ ∀ x, x ∈ r → SmExpr R x
  sets : s.sets.length ≤ R.2 ∧ ∀ x, x ∈ s.sets → x.name.length ≤ R.1 ∧ SmExpr R x.e
  whr : SmExpr R s.whr
  order : s.order.length ≤ R.2 ∧ ∀ x, x ∈ s.order → x.length ≤ R.1
  desc : s.desc.length ≤ R.2
def SmK (R : Nat × Nat) : (c : Ck) → El c → Prop
  | .str, s => s.length ≤ R.1
  | .val, v => SmVal R v
  | .tok, t => t.s.length ≤ R.1
  | .col, c => c.name.length ≤ R.1 ∧ c.ref.length ≤ R.1
  | .expr, e => SmExpr R e
  | .vals, l => l.length ≤ R.2 ∧ ∀ x, x ∈ l → SmVal R x
  | .exprs, l => l.length ≤ R.2 ∧ ∀ x, x ∈ l → SmExpr R x
  | .strs, l => l.length ≤ R.2 ∧ ∀ x, x ∈ l → x.length ≤ R.1
  | .set, s => s.name.length ≤ R.1 ∧ SmExpr R s.e
  | .stmt, s => SmStm R s
  | _, _ => True
def SmD (R : Nat × Nat) : D → Prop
  | .str l => l.length ≤ R.1
  | .sl c xs _ => xs.length ≤ R.2 ∧ ∀ x, x ∈ xs → SmK R c x
  | _ => True
def SmS (R : Nat × Nat) : (s : Sg) → den s → Prop
  | .str, s => s.length ≤ R.1
  | .sl c _, xs => xs.length ≤ R.2 ∧ ∀ x, x ∈ xs → SmK R c x
  | .sv c, x => SmK R c x
  | _, _ => True
def SmL (R : Nat × Nat) : (l : List Sg) → HV l → Prop
  | [], _ => True
  | [a], x => SmS R a x
  | a :: b :: l, (x, y) => SmS R a x ∧ SmL R (b :: l) y
theorem smK_of {R : Nat × Nat} {c : Ck} {ds : List D} {y : El c} (h : dec c ds = some y) (hd : ∀ d, d ∈ ds → SmD R d) : SmK R c y := by
  unfold dec at h
  split at h <;> simp only [Option.some.injEq, reduceCtorEq] at h <;> subst h <;> simp only [List.mem_cons, List.not_mem_nil, or_false, forall_eq_or_imp, forall_eq, SmD] at hd <;> simp only [SmK, SmVal] <;> first
    | trivial
    | exact hd
    | exact hd.2.2
    | exact hd.2.2.1
    | exact ⟨hd.1, hd.2.2.2.2⟩
    | exact .mk _ _ _ _ hd.2.2.2.1 hd.2.2.2.2.1 hd.2.2.2.2.2.1 hd.2.2.2.2.2.2
    | exact ⟨hd.1, .mk _ _ _ _ hd.2.2.2.2.1 hd.2.2.2.2.2.1 hd.2.2.2.2.2.2.1 hd.2.2.2.2.2.2.2⟩
    | (obtain ⟨_, h1, h2, h3, h4, h5, h6, h7, _, _, _, _, w1, w2, w3, h8, h9, _⟩ := hd
       exact ⟨h1, h2, h3, h4, h5, h6, h7, .mk _ _ _ _ w1 w2 w3.1 w3.2, h8, h9.1⟩)
theorem weightsAll_in {H : Type} {P : Program} {e : TypeId} : ∀ {l : List (DataW H)} {d : DataW H}, d ∈ l → ∀ n ∈ d.weights P e, n ∈ DataW.weightsAll P e l
  | [], _, h, _, _ => by cases h
  | x :: l, d, h, n, hn => by
    simp only [DataW.weightsAll, List.mem_append]
    rcases List.mem_cons.1 h with rfl | h
    · exact .inl hn
    · exact .inr (weightsAll_in h n hn)
/-- a measure on what is read: what it says of a whole it says of its parts; texts and lists are within R -/
structure Msr {H : Type} (P : Program) (R : Nat × Nat) (M : TypeId → DataW H → Prop) : Prop where
  str : ∀ (t : TypeId) (s : List UInt8), M t (.lit (.string s)) → s.length ≤ R.1
  sl : ∀ (t e : TypeId) (l r : List (DataW H)), P.underlying t = some (.slice e) → 1 ≤ P.bytesOf e → M t (.slice l r) → l.length ≤ 9223372036854775807 → l.length ≤ R.2 ∧ ∀ d, d ∈ l → M e d
  agg : ∀ (t : TypeId) (fds : Array Field) (l : List (DataW H)) (i : Nat) (fd : Field) (d : DataW H), P.underlying t = some (.struct fds) → M t (.agg l) → fds[i]? = some fd → l[i]? = some d → M fd.type d
theorem msr_weights {H : Type} (P : Program) : Msr (H := H) P (R47, R47) fun t d => ∀ n, n ∈ d.weights P t → n ≤ R47 where
  str := fun t s h => h _ (by simp [DataW.weights])
  sl := fun t e l r hu hz h _ => ⟨by
    have h1 := h ((l.length + r.length) * P.bytesOf e) (by simp only [DataW.weights, hu, List.mem_cons, true_or])
    have h2 : (l.length + r.length) * 1 ≤ (l.length + r.length) * P.bytesOf e := Nat.mul_le_mul_left _ hz
    omega, fun d hd n hn => h n (by
    simp only [DataW.weights, hu, List.mem_cons, List.mem_append]
    exact .inr (.inl (weightsAll_in hd n hn)))⟩
  agg := fun t fds l i fd d hu h hf hd n hn => h n (by
    simp only [DataW.weights, hu]
    exact DataW.weights_mem_each (j := i) (t := fd.type) (d := d) (by simp [hf]) hd n hn)
/-! ## types that are read -/
def zc (t : Ty) : List D := match t.zero with
  | some z => cells z
  | none => []
def contig (tt : Nat → Ty) (rd : List Nat) : Nat → List (Nat × Nat) → List D → Bool
  | _, [], z => z.isEmpty
  | o, (o', u) :: fs, z => Nat.beq o' o && rd.contains u && Nat.ble (zc (tt u)).length z.length && shpL (zc (tt u)) (z.take (zc (tt u)).length) && contig tt rd (o + (zc (tt u)).length) fs (z.drop (zc (tt u)).length)
def rdLoc (el : Ck → TypeId) (tt : Nat → Ty) (rd : List Nat) (t : Nat) : Bool := match tt t with
  | .int _ | .bool | .str => true
  | .sl c => rd.contains (el c) && (dec c (zc (tt (el c)))).isSome
  | .st _ fs z => contig tt rd 0 fs z
  | _ => false
def rdB (el : Ck → TypeId) (tt : Nat → Ty) (rd : List Nat) : Bool := rd.all fun t => rdLoc el tt rd t && Nat.beq (zc (tt t)).length (tt t).n
/-- no element of a list that is read is of no bytes -/
def szB (P : Program) (el : Ck → TypeId) (tt : Nat → Ty) (rd : List Nat) : Bool := rd.all fun t => match tt t with
  | .sl c => Nat.ble 1 (P.bytesOf (el c))
  | _ => true
theorem choose_list {α : Type} {p : Nat → α → Prop} : ∀ (n : Nat), (∀ i, i < n → ∃ y, p i y) → ∃ ys : List α, ys.length = n ∧ ∀ i y, ys[i]? = some y → p i y
  | 0, _ => ⟨[], rfl, by simp⟩
  | n + 1, h => by
    obtain ⟨ys, h1, h2⟩ := choose_list n (fun i hi => h i (by omega))
    obtain ⟨y, hy⟩ := h n (by omega)
    refine ⟨ys ++ [y], by simp [h1], fun i z hz => ?_⟩
    rcases Nat.lt_trichotomy i n with hi | rfl | hi
    · rw [List.getElem?_append_left (by omega)] at hz
      exact h2 i z hz
    · rw [List.getElem?_append_right (by omega), h1] at hz
      simp at hz
      subst hz
      exact hy
    · rw [List.getElem?_eq_none (by simp; omega)] at hz
      cases hz
section
variable {H : Type} {enc' : TypeId × Value → H} {P : Program} {el : Ck → TypeId} {tt : Nat → Ty} {rd : List Nat} {w : World} {sp : Nat → Bool} {held : Bool}
theorem cellsOf_sz {t : TypeId} {n : Nat} (h : Sx.tySz P t = some n) : P.cellsOf t = n := by
  unfold Sx.tySz at h
  simp [Program.cellsOf, h]
theorem cells?_get {a : Addr} {n : Nat} {vs : List Value} (h : w.cells? 0 a n = some vs) : vs.length = n ∧ ∀ j u, vs[j]? = some u → w.cell? (a.add j) = some u := by
  unfold World.cells? at h
  simp only [Nat.zero_le, if_true] at h
  refine ⟨by simpa using Lib.mapM_length h, fun j u hj => ?_⟩
  have hlt : j < n := by
    have := Lib.mapM_length h
    have h2 := (List.getElem?_eq_some_iff.1 hj).1
    simp at this
    omega
  obtain ⟨u', hu, hf⟩ := Lib.mapM_at h j j (by simp [hlt])
  rw [hj] at hu
  simp only [Option.some.injEq] at hu
  subst hu
  exact hf
theorem cell?_spot {a : Addr} {u : Value} (h : w.cell? a = some u) : a.spot = none := by
  unfold World.cell? at h
  split at h
  · split at h
    · cases h
    · rename_i hs
      cases hq : a.spot with
      | none => rfl
      | some q => rw [hq] at hs; simp at hs
  · cases h
/-- data that are read are cells of the machine -/
theorem trod_ds {R : Nat × Nat} {M : TypeId → DataW H → Prop} (hM : Msr P R M) (hT : ∀ t, tyOk P el tt t = true) (hrd : rdB el tt rd = true) (hsb : szB P el tt rd = true) : ∀ (fuel : Nat) (t : TypeId) (cs : List Value) (x : DataW H × List MemPlace), rd.contains t = true → DataW.trod enc' P w 0 sp held fuel t cs = some x → ∃ ds, shpL (zc (tt t)) ds = true ∧ Reps (v0 el noFp w) ds cs ∧ (M t x.1 → ∀ d, d ∈ ds → SmD R d)
  | 0, t, cs, x, _, h => by simp [DataW.trod] at h
  | fuel + 1, t, cs, x, hc, h => by
    have hloc := List.all_eq_true.1 hrd t (by simpa using hc)
    simp only [Bool.and_eq_true] at hloc
    obtain ⟨hloc, hzl⟩ := hloc
    have hzl := Nat.eq_of_beq_eq_true hzl
    have hszB := List.all_eq_true.1 hsb t (by simpa using hc)
    unfold rdLoc at hloc
    split at hloc
    · rename_i k hty
      have hu := Sx.tyI_spec (tyOk_int (hT t) hty)
      obtain ⟨n, rfl, _, hw⟩ := DataW.trod_int hu h
      refine ⟨[.int k n], by (rw [hty]; show (decide (k = k) && true) = true; simp), ?_, fun _ d hd => by simp only [List.mem_singleton] at hd; subst hd; trivial⟩
      simp only [Reps, Rep]
      exact ⟨_, _, rfl, ⟨rfl, hw⟩, rfl⟩
    · rename_i hty
      have hu := Sx.tyB_spec (tyOk_bool (hT t) hty)
      obtain ⟨b, rfl, _⟩ := DataW.trod_bool hu h
      refine ⟨[.bool b], by rw [hty]; rfl, ?_, fun _ d hd => by simp only [List.mem_singleton] at hd; subst hd; trivial⟩
      simp only [Reps, Rep]
      exact ⟨_, _, rfl, rfl, rfl⟩
    · rename_i hty
      have hu := Sx.tyS_spec (tyOk_str (hT t) hty)
      obtain ⟨s, rfl, rfl, hs⟩ := DataW.trod_string hu h
      refine ⟨[.str s.data.toList], by rw [hty]; rfl, ?_, fun hwt d hd => by
        simp only [List.mem_singleton] at hd
        subst hd
        exact hM.str _ _ hwt⟩
      simp only [Reps, Rep]
      exact ⟨_, _, rfl, ⟨(by rw [Array.toArray_toList]), (by rw [Array.length_toList]; exact hs)⟩, rfl⟩
    · rename_i c hty
      simp only [Bool.and_eq_true] at hloc
      obtain ⟨hel, hdec⟩ := hloc
      have hbz : 1 ≤ P.bytesOf (el c) := by
        rw [hty] at hszB
        exact Nat.le_of_ble_eq_true hszB
      obtain ⟨by_, hE, _, _⟩ := tyOk_sl (hT t) hty
      have hu := hE.und
      obtain ⟨_, i0, z, hi0, hz, hsz, _⟩ := hE
      have hco : P.cellsOf (el c) = csz c := cellsOf_sz (by simp [Sx.tySz, hi0, hsz])
      rcases DataW.trod_slice hu h with ⟨rfl, _⟩ | ⟨a, len, cap, elems, rest, n, hf, rfl, rfl, _, hle, hmax, hlen, hel2, _⟩
      · refine ⟨[.sl c [] .no], by (rw [hty]; show (decide (c = c) && true) = true; simp), ?_, fun _ d hd => by
          simp only [List.mem_singleton] at hd
          subst hd
          exact ⟨Nat.zero_le _, fun x hx => by cases hx⟩⟩
        simp only [Reps, Rep]
        exact ⟨_, _, rfl, ⟨fun _ _ => .nil _ _ _ _, trivial⟩, rfl⟩
      · have hf : fuel = n := by omega
        subst hf
        have each : ∀ i, i < len → ∃ y : El c, (∃ vs : List Value, w.cells? 0 (a.add (i * csz c)) (csz c) = some vs ∧ ElR (v0 el noFp w) c y vs) ∧ (M t (DataW.slice (elems.map (·.1)) (rest.map (·.1))) → SmK R c y) := fun i hi => by
          have h1 := hel2 i hi
          have hsome : ∃ e, elems[i]? = some e := ⟨_, List.getElem?_eq_getElem (by omega)⟩
          obtain ⟨e, he⟩ := hsome
          rw [he] at h1
          obtain ⟨vs, hv, ht⟩ := Option.bind_eq_some_iff.1 h1
          rw [hco] at hv
          obtain ⟨ds, hs, hr, hsm⟩ := trod_ds hM hT hrd hsb fuel (el c) vs e hel ht
          obtain ⟨y, hy⟩ := dec_shape hdec hs
          exact ⟨y, ⟨vs, hv, reps_elR hy hr⟩, fun hwt => smK_of hy (hsm ((hM.sl _ _ _ _ hu hbz hwt (by have : maxLen = 9223372036854775807 := rfl; simp only [List.length_map]; omega)).2 e.1 (List.mem_map.2 ⟨e, List.mem_of_getElem? he, rfl⟩)))⟩
        obtain ⟨ys, hyl, hys'⟩ := choose_list len each
        have hys := fun i y hy => (hys' i y hy).1
        refine ⟨[.sl c ys .no], by (rw [hty]; show (decide (c = c) && true) = true; simp), ?_, fun hwt d hd => by
          simp only [List.mem_singleton] at hd
          subst hd
          refine ⟨?_, fun y hy => ?_⟩
          · have := (hM.sl _ _ _ _ hu hbz hwt (by have : maxLen = 9223372036854775807 := rfl; simp only [List.length_map]; omega)).1
            simp only [List.length_map] at this
            omega
          · obtain ⟨i, hi, rfl⟩ := List.getElem_of_mem hy
            exact (hys' i _ (List.getElem?_eq_getElem hi)).2 hwt⟩
        simp only [Reps, Rep]
        refine ⟨_, _, rfl, ⟨slice_mk hyl.symm ?_, trivial⟩, rfl⟩
        by_cases h0 : ys = []
        · exact .inl h0
        · right
          have hsn : a.spot = none := by
            have hlt : 0 < ys.length := List.length_pos_iff.2 h0
            obtain ⟨vs, hv, hE⟩ := hys 0 _ (List.getElem?_eq_getElem hlt)
            obtain ⟨h1, h2⟩ := cells?_get hv
            have hp := csz_pos c
            have := h2 0 _ (List.getElem?_eq_getElem (by omega))
            simp only [Nat.zero_mul, Addr.add, if_true] at this
            exact cell?_spot this
          obtain ⟨b, o, s⟩ := a
          simp only at hsn
          subst hsn
          refine ⟨b, o, rfl, ⟨by omega, hmax⟩, fun i y hy w' hw j d hd => ?_⟩
          obtain ⟨vs, hv, hE⟩ := hys i y hy
          obtain ⟨_, h2⟩ := cells?_get hv
          obtain ⟨u, hu', hf⟩ := hE.2 j d hd
          have hcell := h2 j u hu'
          rw [Sx.add_mk, Sx.add_mk] at hcell
          exact ⟨u, hw.cell b _ u hcell (fun h => h), hf w' hw⟩
    · rename_i cc fs z hty
      have hbase := tyOk_base (hT t) (by rw [hty]; simp)
      have hsz : P.cellsOf t = z.length := by
        have := cellsOf_sz hbase.2.2
        rw [this, hty]
        rfl
      have hok := hT t
      unfold tyOk at hok
      rw [hty] at hok
      simp only [Bool.and_eq_true] at hok
      have hfl := hok.2
      split at hfl
      · rename_i fds hu
        simp only [Bool.and_eq_true] at hfl
        have hfl := hfl.1
        obtain ⟨xs, n, hf, rfl, hcl, hxl, hfx⟩ := DataW.trod_struct hu h
        have hf : fuel = n := by omega
        subst hf
        have key : ∀ (l : List (Nat × Nat)) (i o : Nat) (z' : List D), fs.drop i = l → contig tt rd o l z' = true → o + z'.length = cs.length → ∃ ds, shpL z' ds = true ∧ Reps (v0 el noFp w) ds (cs.drop o) ∧ (M t (DataW.agg (xs.map (·.1))) → ∀ d, d ∈ ds → SmD R d) := by
          intro l
          induction l with
          | nil =>
            intro i o z' _ hct ho
            simp only [contig, List.isEmpty_iff] at hct
            subst hct
            refine ⟨[], rfl, ?_, fun _ d hd => by cases hd⟩
            rw [List.drop_eq_nil_of_le (by simp at ho; omega)]
            simp [Reps]
          | cons q l ih =>
            intro i o z' hd hct ho
            obtain ⟨o', u⟩ := q
            simp only [contig, Bool.and_eq_true] at hct
            obtain ⟨⟨⟨⟨ho', hcu⟩, hle⟩, hsh⟩, hct⟩ := hct
            have ho' := Nat.eq_of_beq_eq_true ho'
            subst ho'
            have hle := Nat.le_of_ble_eq_true hle
            have hget : fs[i]? = some (o', u) := by
              have := congrArg (·[0]?) hd
              simpa [List.getElem?_drop] using this
            obtain ⟨fd, g1, g2, g3, _⟩ := fldsB_get hfl hget
            have g1' : fds[i]? = some fd := by simpa using g1
            have h1 := hfx i fd g1'
            rw [g2, g3] at h1
            have hxi : ∃ e, xs[i]? = some e := ⟨_, List.getElem?_eq_getElem (by
              have := (Array.getElem?_eq_some_iff.1 g1').1
              omega)⟩
            obtain ⟨e, he⟩ := hxi
            rw [he] at h1
            have hlu := List.all_eq_true.1 hrd u (by simpa using hcu)
            simp only [Bool.and_eq_true] at hlu
            have hnu := Nat.eq_of_beq_eq_true hlu.2
            have hneu : tt u ≠ .no := by
              intro e
              have := hlu.1
              unfold rdLoc at this
              rw [e] at this
              cases this
            have hcou : P.cellsOf u = (zc (tt u)).length := by rw [cellsOf_sz (tyOk_base (hT u) hneu).2.2, hnu]
            rw [hcou] at h1
            obtain ⟨ds1, s1, r1, m1⟩ := trod_ds hM hT hrd hsb fuel u _ e hcu h1
            obtain ⟨ds2, s2, r2, m2⟩ := ih (i + 1) (o' + (zc (tt u)).length) _ (by rw [← List.drop_drop, hd]; rfl) hct (by simp; omega)
            refine ⟨ds1 ++ ds2, ?_, ?_, fun hwt d hd => by
              rcases List.mem_append.1 hd with hd | hd
              · refine m1 ?_ d hd
                rw [← g2]
                exact hM.agg _ _ _ i fd e.1 hu hwt g1' (by rw [List.getElem?_map, he]; rfl)
              · exact m2 hwt d hd⟩
            · rw [← List.take_append_drop (zc (tt u)).length z']
              exact shpL_append (shpL_tr hsh s1) s2
            · have := r1.append r2
              rwa [← List.drop_drop, List.take_append_drop] at this
        obtain ⟨ds, h1, h2, h3⟩ := key fs 0 0 z rfl hloc (by rw [hcl, hsz]; omega)
        exact ⟨ds, by simpa [hty, zc, Ty.zero, cells] using h1, by simpa using h2, h3⟩
      · cases hfl
    · cases hloc
/-! ## arguments -/
def sgOk (tt : Nat → Ty) (rd : List Nat) (t : Nat) (s : Sg) : Bool := rd.contains t && match tt t, s with
  | .int k, .int k' => decide (k = k')
  | .bool, .bool => true
  | .str, .str => true
  | .sl c, .sl c' false => decide (c = c')
  | .st (some c) _ _, .sv c' => decide (c = c') && agg? c && (dec c (zc (tt t))).isSome
  | _, _ => false
theorem arg_rep {R : Nat × Nat} {M : TypeId → DataW H → Prop} (hM : Msr P R M) (hT : ∀ t, tyOk P el tt t = true) (hrd : rdB el tt rd = true) (hsb : szB P el tt rd = true) {t : TypeId} {s : Sg} (hs : sgOk tt rd t s = true) {r : Reach} {b0 : Nat} {v : Value} {d : DataW H} {ps : List MemPlace} (hval : Value.okWide P w r b0 t v) (h : DataW.Trod enc' P w 0 sp held t v d ps) (i : Nat) : ∃ y : den s, Rep (v0 el noFp w) (enc1 i s y) v ∧ (M t d → SmS R s y) := by
  obtain ⟨fuel, h⟩ := h
  simp only [sgOk, Bool.and_eq_true] at hs
  obtain ⟨hc, hs⟩ := hs
  obtain ⟨ds, hsh, hr, hsm⟩ := trod_ds hM hT hrd hsb fuel t _ _ hc h
  have hsm : M t d → ∀ d, d ∈ ds → SmD R d := hsm
  split at hs
  · rename_i k k' hty
    simp only [decide_eq_true_eq] at hs
    subst hs
    obtain ⟨n, rfl⟩ := WideShapes.okWide_int (Sx.tyI_spec (tyOk_int (hT t) hty)) hval
    simp only [hty, zc, Ty.zero, cells] at hsh
    obtain ⟨b, m, rfl, h1, h2⟩ := shpL_cons hsh
    obtain rfl := shpL_nil h2
    obtain ⟨n', rfl⟩ := shp_int h1
    simp only [Value.cells, Reps] at hr
    obtain ⟨u, us, e, hr, _⟩ := hr
    simp only [List.cons.injEq] at e
    obtain ⟨rfl, _⟩ := e
    exact ⟨n', hr, fun _ => trivial⟩
  · rename_i hty
    obtain ⟨n, rfl⟩ := WideShapes.okWide_bool (Sx.tyB_spec (tyOk_bool (hT t) hty)) hval
    exact ⟨n, by simp only [enc1, Rep], fun _ => trivial⟩
  · rename_i hty
    obtain ⟨n, rfl⟩ := WideShapes.okWide_string (Sx.tyS_spec (tyOk_str (hT t) hty)) hval
    simp only [hty, zc, Ty.zero, cells] at hsh
    obtain ⟨b, m, rfl, h1, h2⟩ := shpL_cons hsh
    obtain rfl := shpL_nil h2
    obtain ⟨n', rfl⟩ := shp_str h1
    simp only [Value.cells, Reps] at hr
    obtain ⟨u, us, e, hr, _⟩ := hr
    simp only [List.cons.injEq] at e
    obtain ⟨rfl, _⟩ := e
    exact ⟨n', hr, fun hwt => hsm hwt (.str n') (by simp)⟩
  · rename_i c c' hty
    simp only [decide_eq_true_eq] at hs
    subst hs
    obtain ⟨by_, hE, _, _⟩ := tyOk_sl (hT t) hty
    have hv : v.cells.toList = [v] := by
      have hu := hE.und
      simp only [Value.okWide, hu, Cell.okWide] at hval
      cases v <;> first | rfl | (simp [Cell.ok, hu] at hval; done) | (exfalso; simp_all [Cell.ok])
    rw [hv] at hr
    simp only [hty, zc, Ty.zero, cells] at hsh
    obtain ⟨b, m, rfl, h1, h2⟩ := shpL_cons hsh
    obtain rfl := shpL_nil h2
    obtain ⟨ys, u, rfl⟩ := shp_sl h1
    simp only [Reps] at hr
    obtain ⟨u', us, e, hr, _⟩ := hr
    simp only [List.cons.injEq] at e
    obtain ⟨rfl, _⟩ := e
    refine ⟨ys, ?_, fun hwt => hsm hwt (.sl c ys u) (by simp)⟩
    simp only [enc1, Rep] at hr ⊢
    exact ⟨hr.1, trivial⟩
  · rename_i c fs z c' hty
    simp only [Bool.and_eq_true, decide_eq_true_eq] at hs
    obtain ⟨⟨rfl, ha⟩, hdec⟩ := hs
    obtain ⟨y, hy⟩ := dec_shape hdec hsh
    have hE := reps_elR hy hr
    have hv : ∃ cs, v = .agg cs := by
      have hok := hT t
      unfold tyOk at hok
      rw [hty] at hok
      simp only [Bool.and_eq_true] at hok
      have hfl := hok.2
      split at hfl
      · rename_i fds hu
        simp only [Value.okWide, hu] at hval
        obtain ⟨cs, h1, _⟩ := hval
        exact ⟨cs, h1⟩
      · cases hfl
    obtain ⟨cs, rfl⟩ := hv
    refine ⟨y, ?_, fun hwt => smK_of hy (hsm hwt)⟩
    simp only [enc1, Rep]
    exact ⟨ha, cs.toList, by simp, by simpa [Value.cells] using hE.1, by simpa [Value.cells] using hE.2⟩
  · cases hs
def sgsOk (tt : Nat → Ty) (rd : List Nat) : List TypeId → List Sg → Bool
  | [], [] => true
  | t :: ts, s :: ss => sgOk tt rd t s && sgsOk tt rd ts ss
  | _, _ => false
theorem args_rep {R : Nat × Nat} {M : TypeId → DataW H → Prop} (hM : Msr P R M) (hT : ∀ t, tyOk P el tt t = true) (hrd : rdB el tt rd = true) (hsb : szB P el tt rd = true) {r : Reach} {b0 : Nat} : ∀ {ts : List TypeId} {sa : List Sg} {vs : List Value} {ds : List (DataW H)} {ps : List MemPlace} (i : Nat), sgsOk tt rd ts sa = true → (∀ (j : Nat) t v, ts[j]? = some t → vs[j]? = some v → Value.okWide P w r b0 t v) → DataW.TrodAll enc' P w 0 sp held ts vs ds ps → ∃ x : HV sa, Reps (v0 el noFp w) (encL i sa x) vs ∧ ((∀ (i : Nat) (t : TypeId) (d : DataW H), ts[i]? = some t → ds[i]? = some d → M t d) → SmL R sa x)
  | [], [], vs, ds, ps, i, _, _, h => by
    cases vs with
    | nil => exact ⟨(), by simp [encL, Reps], fun _ => trivial⟩
    | cons v vs => cases ds <;> simp [DataW.TrodAll] at h
  | t :: ts, [], _, _, _, _, hs, _, _ => by simp [sgsOk] at hs
  | [], s :: ss, _, _, _, _, hs, _, _ => by simp [sgsOk] at hs
  | t :: ts, s :: ss, vs, ds, ps, i, hs, hval, h => by
    simp only [sgsOk, Bool.and_eq_true] at hs
    obtain ⟨v, vs', d, ds', p, q, rfl, rfl, rfl, hd, hrest⟩ := trodAll_cons h
    obtain ⟨y, hy, hsy⟩ := arg_rep hM hT hrd hsb hs.1 (hval 0 t v rfl rfl) hd i
    obtain ⟨z, hz, hsz⟩ := args_rep hM hT hrd hsb (i + 1) hs.2 (fun j t' v' h1 h2 => hval (j + 1) t' v' (by simpa using h1) (by simpa using h2)) hrest
    cases ss with
    | nil =>
      refine ⟨y, ?_, fun hwt => hsy (hwt 0 t d rfl rfl)⟩
      simp only [encL, Reps] at hz ⊢
      exact ⟨v, vs', rfl, hy, hz⟩
    | cons s' ss =>
      refine ⟨(y, z), ?_, fun hwt => ⟨hsy (hwt 0 t d rfl rfl), hsz fun j t' d' h1 h2 => hwt (j + 1) t' d' (by simpa using h1) (by simpa using h2)⟩⟩
      simp only [encL, Reps]
      exact ⟨v, vs', rfl, hy, hz⟩
/-- the arguments read behind the call as they did -/
theorem args_stay (hl : laidOutB P = true) {W W' : World} (hb : Below W.heap.size W W') : ∀ {ts : List TypeId} {vs : List Value} {ds : List (DataW H)} {ps : List MemPlace}, (∀ t, t ∈ ts → P.readableRec t = true ∧ t < P.types.size) → (∀ x ∈ ps, x.block < W.heap.size) → DataW.TrodAll enc' P W 0 (fun _ => true) true ts vs ds ps → DataW.TrodAll enc' P W' 0 (fun b => decide (b < W.heap.size)) true ts vs ds ps
  | [], vs, ds, ps, _, _, h => by
    cases vs <;> cases ds <;> simp [DataW.TrodAll] at h ⊢
    exact h
  | t :: ts, vs, ds, ps, ht, hlt, h => by
    obtain ⟨v, vs', d, ds', p, q, rfl, rfl, rfl, hd, hrest⟩ := trodAll_cons h
    obtain ⟨h1, h2⟩ := ht t (by simp)
    exact ⟨p, q, Below.trod hl h1 h2 hd hb (fun x hx => hlt x (by simp [hx])), args_stay hl hb (fun t' h' => ht t' (by simp [h'])) (fun x hx => hlt x (by simp [hx])) hrest, rfl⟩
end
end Go.Ax

/- The document's count of how much there is in an expression, in a statement; what it bounds. -/
namespace Go.Proofs.YtjpcghlpkinahaaDoor
open Go.Ax
/-! ## an expression that is not much has few parts -/
def B0 : Int := 20000000000000
mutual
theorem much_size {R : Nat × Nat} (hR : R.1 ≤ R47) : ∀ (n : Nat) (e : Xpr) (most : Int), esize e ≤ n → SmExpr R e → 1 ≤ most → most ≤ 600 → 1 ≤ much1 e most ∧ much1 e most ≤ most + B0 ∧ (much1 e most < most → (esize e : Int) ≤ 2 * much1 e most - 1)
  | 0, e, _, h, _, _, _ => by have := esize_pos e; omega
  | n + 1, .mk k v nm l, most, h, hs, h1, h4 => by
    cases hs with
    | mk _ _ _ _ s1 s2 _ s3 =>
      simp only [SmVal, R47] at s1 s2 hR
      have e1 : wr .i64 ((v.s.length : Int) + (nm.length : Int)) = ((v.s.length + nm.length : Nat) : Int) := by rw [wr_id (by simp only [inI]; omega)]; omega
      have e2 : Int.tdiv ((v.s.length + nm.length : Nat) : Int) 30 = (((v.s.length + nm.length) / 30 : Nat) : Int) := rfl
      have e3 : wr .i64 (((v.s.length + nm.length) / 30 : Nat) : Int) = (((v.s.length + nm.length) / 30 : Nat) : Int) := wr_id (by simp only [inI]; omega)
      have e4 : wr .i64 (1 + (((v.s.length + nm.length) / 30 : Nat) : Int)) = 1 + (((v.s.length + nm.length) / 30 : Nat) : Int) := wr_id (by simp only [inI]; omega)
      have hz : esize (.mk k v nm l) = 1 + esizes l := esize_eq _
      simp only [much1, e1, e2, e3, e4]
      obtain ⟨q1, q2, q3⟩ := muchL_size hR n l most (1 + (((v.s.length + nm.length) / 30 : Nat) : Int)) (by omega) s3 h4 (by omega) (by simp only [B0]; omega)
      exact ⟨by omega, q2, fun h => by have := q3 h; omega⟩
theorem muchL_size {R : Nat × Nat} (hR : R.1 ≤ R47) : ∀ (n : Nat) (l : List Xpr) (most m : Int), esizes l ≤ n → (∀ x, x ∈ l → SmExpr R x) → most ≤ 600 → 1 ≤ m → m ≤ most + B0 → m ≤ muchL l most m ∧ muchL l most m ≤ most + B0 ∧ (muchL l most m < most → 2 * m + (esizes l : Int) ≤ 2 * muchL l most m)
  | n, [], most, m, _, _, _, h1, h2 => by simp only [muchL, esizes]; omega
  | n, x :: l, most, m, h, hs, h4, h1, h2 => by
    simp only [muchL]
    by_cases hm : m < most
    · rw [decide_eq_true hm, cond_t]
      have hx := esize_pos x
      simp only [esizes] at h
      have w1 : wr .i64 (most - m) = most - m := wr_id (by simp only [inI]; omega)
      obtain ⟨a1, a2, a3⟩ := much_size hR n x (most - m) (by omega) (hs x (.head _)) (by omega) (by omega)
      have w2 : wr .i64 (m + much1 x (most - m)) = m + much1 x (most - m) := wr_id (by simp only [inI, B0] at *; omega)
      obtain ⟨b1, b2, b3⟩ := muchL_size hR n l most (m + much1 x (most - m)) (by omega) (fun y hy => hs y (.tail _ hy)) h4 (by omega) (by omega)
      rw [w1, w2]
      refine ⟨by omega, b2, fun hlt => ?_⟩
      have c1 := b3 hlt
      have c2 := a3 (by omega)
      simp only [esizes]
      omega
    · rw [decide_eq_false hm, cond_f]
      exact ⟨Int.le_refl _, h2, fun h => absurd h hm⟩
end
theorem much_le {R : Nat × Nat} (hR : R.1 ≤ R47) {e : Xpr} {most : Int} (hs : SmExpr R e) (h1 : 1 ≤ most) (h6 : most ≤ 600) (h : much1 e most < most) : esize e ≤ 1200 := by
  have := (much_size hR (esize e) e most (Nat.le_refl _) hs h1 h6).2.2 h
  omega
/-! ## a statement -/
def bare (l : List Xpr) : Xpr := .mk 0 ⟨0, 0, []⟩ [] l
theorem sm_bare {R : Nat × Nat} {l : List Xpr} (h : l.length ≤ R.2 ∧ ∀ x, x ∈ l → SmExpr R x) : SmExpr R (bare l) := .mk _ _ _ _ (by simp [SmVal]) (by simp) h.1 h.2
def rmR : List (List Xpr) → Int → Int → Int
  | [], _, n => n
  | r :: l, most, n => cond (decide (n < most)) (rmR l most (wr .i64 (n + much1 (bare r) most))) n
def rmS : List SetE → Int → Int → Int
  | [], _, n => n
  | x :: l, most, n => cond (decide (n < most)) (rmS l most (wr .i64 (n + much1 x.e most))) n
def rmN : List Str → Int → Int → Int
  | [], _, n => n
  | x :: l, most, n => cond (decide (n < most)) (rmN l most (wr .i64 (n + wr .i64 (Int.tdiv (x.length : Int) 30)))) n
def n0 (s : Stm) (most : Int) : Int := wr .i64 (wr .i64 (wr .i64 (wr .i64 (wr .i64 (wr .i64 ((s.cols.length : Int) + (s.names.length : Int)) + (s.order.length : Int)) + (s.desc.length : Int)) + wr .i64 (Int.tdiv (wr .i64 ((s.name.length : Int) + (s.on.length : Int))) 30)) + much1 s.whr most) + much1 (bare s.l) most)
/-! ## exchequer/exchequerref13.MuchStmt -/
def rmuch_2_sg : Sig := ⟨110, [(1, .int .i64), (5, .int .i64), (8, .int .i64)], [(2, .ptr 0 0)], [(0, .one (.sv .stmt))], 1, 0, 0, [], []⟩
abbrev rmuch_2_V := Int × Int × Int × Stm
def rmuch_2 {R : Type} (rec : rmuch_2_V → Option R) (kx : Ex → rmuch_2_V → Option R) (v : rmuch_2_V) : Option R := match v with
 | (v14, v15, v16, w2) =>
  cond (decide (v16 < (w2.names.length : Int))) (
   cond (decide (v15 < v14)) (
    chk (inb v16 w2.names.length) (
     rec (v14, (wr .i64 (v15 + (wr .i64 (Int.tdiv ((at' .str w2.names v16).length : Int) 30)))), (wr .i64 (v16 + 1)), w2))) (
    kx (.exit 4) (v14, v15, v16, w2))) (
   kx (.exit 4) (v14, v15, v16, w2))
def rmuch_1_sg : Sig := ⟨110, [(1, .int .i64), (5, .int .i64), (7, .int .i64)], [(2, .ptr 0 0)], [(0, .one (.sv .stmt))], 1, 0, 0, [], []⟩
abbrev rmuch_1_V := Int × Int × Int × Stm
def rmuch_1 {R : Type} (rec : rmuch_1_V → Option R) (kx : Ex → rmuch_1_V → Option R) (v : rmuch_1_V) : Option R := match v with
 | (v7, v8, v9, w1) =>
  cond (decide (v9 < (w1.sets.length : Int))) (
   cond (decide (v8 < v7)) (
    chk (inb v9 w1.sets.length) (
     rec (v7, (wr .i64 (v8 + (much1 (xeta ((at' .set w1.sets v9).e)) v7))), (wr .i64 (v9 + 1)), w1))) (
    kx (.exit 2) (v7, v8, v9, w1))) (
   kx (.exit 2) (v7, v8, v9, w1))
def rmuch_0_sg : Sig := ⟨110, [(1, .int .i64), (5, .int .i64), (6, .int .i64)], [(2, .ptr 0 0)], [(0, .one (.sv .stmt))], 1, 0, 0, [], []⟩
abbrev rmuch_0_V := Int × Int × Int × Stm
def rmuch_0 {R : Type} (rec : rmuch_0_V → Option R) (kx : Ex → rmuch_0_V → Option R) (v : rmuch_0_V) : Option R := match v with
 | (v, v1, v2, w) =>
  cond (decide (v2 < (w.rows.length : Int))) (
   cond (decide (v1 < v)) (
    chk (inb v2 w.rows.length) (
     rec (v, (wr .i64 (v1 + (much1 (Xpr.mk 0 ⟨0, 0, []⟩ [] (at' .exprs w.rows v2)) v))), (wr .i64 (v2 + 1)), w))) (
    kx (.exit 0) (v, v1, v2, w))) (
   kx (.exit 0) (v, v1, v2, w))
def rmuch_px (R : Type) (k : Nat) : Px R := ⟨ttOf ttL, glT, callT [(18, callOr [.sv .expr, .int .i64] [.int .i64] much1_F)], callQT [(18, callOrQ [.sv .expr, .int .i64] [.int .i64] much1_F)], loopT [(3, loopOr k rmuch_0_sg (rmuch_0)), (7, loopOr k rmuch_1_sg (rmuch_1)), (11, loopOr k rmuch_2_sg (rmuch_2))]⟩
theorem rmuch_0_eq (R : Type) (k : Nat) : ∀ (fr : List Fr) (rec : rmuch_0_V → Option R) (kx : Ex → rmuch_0_V → Option R) (v : rmuch_0_V), round (rmuch_px R k) rmuch_0_sg (lp Tryd.f19 0) fr rec kx v = rmuch_0 rec kx v
  | fr, rec, kx, (v, v1, v2, w) => by kernel_rfl
theorem rmuch_1_eq (R : Type) (k : Nat) : ∀ (fr : List Fr) (rec : rmuch_1_V → Option R) (kx : Ex → rmuch_1_V → Option R) (v : rmuch_1_V), round (rmuch_px R k) rmuch_1_sg (lp Tryd.f19 1) fr rec kx v = rmuch_1 rec kx v
  | fr, rec, kx, (v7, v8, v9, w1) => by kernel_rfl
theorem rmuch_2_eq (R : Type) (k : Nat) : ∀ (fr : List Fr) (rec : rmuch_2_V → Option R) (kx : Ex → rmuch_2_V → Option R) (v : rmuch_2_V), round (rmuch_px R k) rmuch_2_sg (lp Tryd.f19 2) fr rec kx v = rmuch_2 rec kx v
  | fr, rec, kx, (v14, v15, v16, w2) => by kernel_rfl
def rmuch_body (k : Nat) (x : HV [.sv .stmt, .int .i64]) : Option (HV [.int .i64]) := match x with
 | (s, most) =>
  iter (fun rec => rmuch_0 rec (fun e vz => match vz with | (v3, v4, _, v6) => match e with
   | .exit 0 =>
    iter (fun rec => rmuch_1 rec (fun e vz => match vz with | (v10, v11, _, v13) => match e with
     | .exit 2 =>
      iter (fun rec => rmuch_2 rec (fun e vz => match vz with | (_, v18, _, _) => match e with
       | .exit 4 =>
        some v18
       | _ => none)) k (v10, v11, 0, v13)
     | _ => none)) k (v3, v4, 0, v6)
   | _ => none)) k (most, (wr .i64 ((wr .i64 ((wr .i64 ((wr .i64 ((wr .i64 ((wr .i64 ((s.cols.length : Int) + (s.names.length : Int))) + (s.order.length : Int))) + (s.desc.length : Int))) + (wr .i64 (Int.tdiv (wr .i64 ((s.name.length : Int) + (s.on.length : Int))) 30)))) + (much1 (xeta s.whr) most))) + (much1 (Xpr.mk 0 ⟨0, 0, []⟩ [] s.l) most))), 0, s)
theorem rmuch_eq (k : Nat) : ∀ (x : HV [.sv .stmt, .int .i64]), runF (rmuch_px _ k) Tryd.f19 [.sv .stmt, .int .i64] [.int .i64] x some = rmuch_body k x
  | (s, most) => by kernel_rfl
theorem rmuch_run (k : Nat) : FnOk Tryd.prog elT glT 19 [.sv .stmt, .int .i64] [.int .i64] (rmuch_body k) := by
  refine fnOk_run Tryd.func19 rfl (by kernel_rfl) follows (by kernel_rfl) (n := 3) (by kernel_rfl) (px := rmuch_px _ k) (fun cx hP hel hgl => ?_) (rmuch_eq k)
  have hp0 : PxOk cx (rmuch_px (HV [.int .i64]) k) := ⟨fun t => by rw [hP, hel]; exact tt_ok ttL_ok t, by rw [hgl]; rfl⟩
  have hc0 : CallOk cx (rmuch_px (HV [.int .i64]) k) := callT_ok rfl (cfs_cons (cf_or (by rw [hP, hel, hgl]; exact much1_ok) (by kernel_rfl)) cfs_nil)
  have hq0 : CallQOk cx (rmuch_px (HV [.int .i64]) k) := callQT_ok rfl (cqfs_cons (cqf_or (by rw [hP, hel, hgl]; exact much1_ok) (by kernel_rfl)) cqfs_nil)
  have hlrmuch_0 : LoopOk cx (rmuch_px (HV [.int .i64]) k) (lp Tryd.f19 0) := loop_ok hp0 hc0 hq0 (by rw [hP]; exact follows) (k := k) (s := rmuch_0_sg) (step := rmuch_0) (fun _ _ => by kernel_rfl) (by kernel_rfl) (rmuch_0_eq _ k) (loops_in (n := 0) (by kernel_rfl) all0)
  have hlrmuch_1 : LoopOk cx (rmuch_px (HV [.int .i64]) k) (lp Tryd.f19 1) := loop_ok hp0 hc0 hq0 (by rw [hP]; exact follows) (k := k) (s := rmuch_1_sg) (step := rmuch_1) (fun _ _ => by kernel_rfl) (by kernel_rfl) (rmuch_1_eq _ k) (loops_in (n := 0) (by kernel_rfl) all0)
  have hlrmuch_2 : LoopOk cx (rmuch_px (HV [.int .i64]) k) (lp Tryd.f19 2) := loop_ok hp0 hc0 hq0 (by rw [hP]; exact follows) (k := k) (s := rmuch_2_sg) (step := rmuch_2) (fun _ _ => by kernel_rfl) (by kernel_rfl) (rmuch_2_eq _ k) (loops_in (n := 0) (by kernel_rfl) all0)
  exact ⟨hp0, hc0, hq0, (allS (allS (allS all0 hlrmuch_0) hlrmuch_1) hlrmuch_2)⟩
def rmuch (s : Stm) (most : Int) : Int := rmN s.names most (rmS s.sets most (rmR s.rows most (n0 s most)))
def rmuch_F : FT [.sv .stmt, .int .i64] [.int .i64] := fun x => some (rmuch x.1 x.2)
theorem rmuch_0_loop {R : Type} {kx : Ex → rmuch_0_V → Option R} {s : Stm} {most : Int} {c : Int → Option R} (hn : ln s.rows.length) (h2 : ∀ n i, kx (.exit 0) (most, n, i, s) = c n) (k : Nat) (hk : s.rows.length < k) (n : Int) :
    iter (fun rec => rmuch_0 rec kx) k (most, n, 0, s) = c (rmR s.rows most n) := by
  refine (iter_ind s.rows.length (fun i n => (most, n, (i : Int), s)) (fun _ _ => True) (fun i n => c (rmR (s.rows.drop i) most n)) (fun i hi n _ rec hr => ?_) (fun n _ rec => ?_) k 0 n (Nat.zero_le _) (by omega) trivial).trans (by rw [List.drop_zero])
  · have hr := hr (wr .i64 (n + much1 (bare s.rows[i]) most)) trivial
    simp only [rmuch_0, lt_t hi, cond_t, inb_t hi, chk, at_nat (c := .exprs) hi, wr_succ hi hn, drop_cons hi, rmR, h2]
    cases decide (n < most) with
    | false => rfl
    | true => exact hr
  · simp only [rmuch_0, lt_n, cond_f, h2]
    rw [List.drop_eq_nil_of_le (Nat.le_refl _)]
    rfl
theorem rmuch_1_loop {R : Type} {kx : Ex → rmuch_1_V → Option R} {s : Stm} {most : Int} {c : Int → Option R} (hn : ln s.sets.length) (h2 : ∀ n i, kx (.exit 2) (most, n, i, s) = c n) (k : Nat) (hk : s.sets.length < k) (n : Int) :
    iter (fun rec => rmuch_1 rec kx) k (most, n, 0, s) = c (rmS s.sets most n) := by
  refine (iter_ind s.sets.length (fun i n => (most, n, (i : Int), s)) (fun _ _ => True) (fun i n => c (rmS (s.sets.drop i) most n)) (fun i hi n _ rec hr => ?_) (fun n _ rec => ?_) k 0 n (Nat.zero_le _) (by omega) trivial).trans (by rw [List.drop_zero])
  · have hr := hr (wr .i64 (n + much1 s.sets[i].e most)) trivial
    simp only [rmuch_1, lt_t hi, cond_t, inb_t hi, chk, at_nat (c := .set) hi, wr_succ hi hn, drop_cons hi, rmS, h2, xeta_eq]
    cases decide (n < most) with
    | false => rfl
    | true => exact hr
  · simp only [rmuch_1, lt_n, cond_f, h2]
    rw [List.drop_eq_nil_of_le (Nat.le_refl _)]
    rfl
theorem rmuch_2_loop {R : Type} {kx : Ex → rmuch_2_V → Option R} {s : Stm} {most : Int} {c : Int → Option R} (hn : ln s.names.length) (h2 : ∀ n i, kx (.exit 4) (most, n, i, s) = c n) (k : Nat) (hk : s.names.length < k) (n : Int) :
    iter (fun rec => rmuch_2 rec kx) k (most, n, 0, s) = c (rmN s.names most n) := by
  refine (iter_ind s.names.length (fun i n => (most, n, (i : Int), s)) (fun _ _ => True) (fun i n => c (rmN (s.names.drop i) most n)) (fun i hi n _ rec hr => ?_) (fun n _ rec => ?_) k 0 n (Nat.zero_le _) (by omega) trivial).trans (by rw [List.drop_zero])
  · have hr := hr (wr .i64 (n + wr .i64 (Int.tdiv (s.names[i].length : Int) 30))) trivial
    simp only [rmuch_2, lt_t hi, cond_t, inb_t hi, chk, at_nat (c := .str) hi, wr_succ hi hn, drop_cons hi, rmN, h2]
    cases decide (n < most) with
    | false => rfl
    | true => exact hr
  · simp only [rmuch_2, lt_n, cond_f, h2]
    rw [List.drop_eq_nil_of_le (Nat.le_refl _)]
    rfl
theorem rmuch_ok : FnOk Tryd.prog elT glT 19 [.sv .stmt, .int .i64] [.int .i64] rmuch_F := .fin 0 rmuch_run fun (s, most) r hb hx => ⟨s.rows.length + s.sets.length + s.names.length + 1, by
  have hb := hb.1
  simp only [rmuch_F, Option.some.injEq] at hx
  rw [← hx]
  simp only [rmuch_body, xeta_eq]
  refine (rmuch_0_loop (c := fun n => some (rmN s.names most (rmS s.sets most n))) hb.rows.1 (fun n i => ?_) _ (by omega) _).trans rfl
  refine (rmuch_1_loop (c := fun n => some (rmN s.names most n)) hb.sets.1 (fun n i => ?_) _ (by omega) _).trans rfl
  exact rmuch_2_loop (c := some) hb.names.1 (fun n i => rfl) _ (by omega) _⟩
/-! ## what that bounds -/
theorem rmR_fact {R : Nat × Nat} (hR : R.1 ≤ R47) : ∀ (l : List (List Xpr)) (n : Int), 0 ≤ n → n ≤ 1000000000000000 → (∀ r, r ∈ l → r.length ≤ R.2 ∧ ∀ x, x ∈ r → SmExpr R x) → n ≤ rmR l 600 n ∧ rmR l 600 n ≤ 1000000000000000 ∧ (rmR l 600 n < 600 → n + (l.length : Int) ≤ rmR l 600 n ∧ ∀ r, r ∈ l → esizes r ≤ 1200)
  | [], n, _, h, _ => ⟨Int.le_refl _, h, fun _ => ⟨by simp [rmR], fun r hr => by cases hr⟩⟩
  | r :: l, n, h0, h1, hs => by
    simp only [rmR]
    by_cases hn : n < 600
    · have hm := much_size hR (esize (bare r)) (bare r) 600 (Nat.le_refl _) (sm_bare (hs r List.mem_cons_self)) (by omega) (by omega)
      simp only [B0] at hm
      have w : wr .i64 (n + much1 (bare r) 600) = n + much1 (bare r) 600 := wr_id (by simp only [inI]; omega)
      rw [decide_eq_true hn, cond_t, w]
      have ih := rmR_fact hR l (n + much1 (bare r) 600) (by omega) (by omega) (fun q hq => hs q (List.mem_cons_of_mem _ hq))
      refine ⟨by omega, ih.2.1, fun h => ?_⟩
      obtain ⟨h3, h4⟩ := ih.2.2 h
      refine ⟨by simp only [List.length_cons]; omega, fun q hq => ?_⟩
      rcases List.mem_cons.1 hq with rfl | hq
      · have hz : esize (bare q) = 1 + esizes q := esize_eq _
        have := hm.2.2 (by omega)
        omega
      · exact h4 q hq
    · rw [decide_eq_false hn, cond_f]
      exact ⟨Int.le_refl _, h1, fun h => absurd h hn⟩
theorem rmS_fact {R : Nat × Nat} (hR : R.1 ≤ R47) : ∀ (l : List SetE) (n : Int), 0 ≤ n → n ≤ 1000000000000000 → (∀ x, x ∈ l → SmExpr R x.e) → n ≤ rmS l 600 n ∧ rmS l 600 n ≤ 1000000000000000 ∧ (rmS l 600 n < 600 → n + (l.length : Int) ≤ rmS l 600 n ∧ ∀ x, x ∈ l → esize x.e ≤ 1200)
  | [], n, _, h, _ => ⟨Int.le_refl _, h, fun _ => ⟨by simp [rmS], fun r hr => by cases hr⟩⟩
  | x :: l, n, h0, h1, hs => by
    simp only [rmS]
    by_cases hn : n < 600
    · have hm := much_size hR (esize x.e) x.e 600 (Nat.le_refl _) (hs x List.mem_cons_self) (by omega) (by omega)
      simp only [B0] at hm
      have w : wr .i64 (n + much1 x.e 600) = n + much1 x.e 600 := wr_id (by simp only [inI]; omega)
      rw [decide_eq_true hn, cond_t, w]
      have ih := rmS_fact hR l (n + much1 x.e 600) (by omega) (by omega) (fun q hq => hs q (List.mem_cons_of_mem _ hq))
      refine ⟨by omega, ih.2.1, fun h => ?_⟩
      obtain ⟨h3, h4⟩ := ih.2.2 h
      refine ⟨by simp only [List.length_cons]; omega, fun q hq => ?_⟩
      rcases List.mem_cons.1 hq with rfl | hq
      · have := hm.2.2 (by omega)
        omega
      · exact h4 q hq
    · rw [decide_eq_false hn, cond_f]
      exact ⟨Int.le_refl _, h1, fun h => absurd h hn⟩
theorem rmN_fact : ∀ (l : List Str) (n : Int), 0 ≤ n → n ≤ 1000000000000000 → (∀ x, x ∈ l → x.length ≤ R47) → n ≤ rmN l 600 n
  | [], n, _, _, _ => Int.le_refl _
  | x :: l, n, h0, h1, hs => by
    simp only [rmN]
    by_cases hn : n < 600
    · have hx := hs x List.mem_cons_self
      simp only [R47] at hx
      have e2 : Int.tdiv (x.length : Int) 30 = ((x.length / 30 : Nat) : Int) := rfl
      have e3 : wr .i64 ((x.length / 30 : Nat) : Int) = ((x.length / 30 : Nat) : Int) := wr_id (by simp only [inI]; omega)
      have w : wr .i64 (n + ((x.length / 30 : Nat) : Int)) = n + ((x.length / 30 : Nat) : Int) := wr_id (by simp only [inI]; omega)
      rw [decide_eq_true hn, cond_t, e2, e3, w]
      have ih := rmN_fact l (n + ((x.length / 30 : Nat) : Int)) (by omega) (by omega) (fun q hq => hs q (List.mem_cons_of_mem _ hq))
      omega
    · rw [decide_eq_false hn, cond_f]
      exact Int.le_refl _
/-- a statement that is not much -/
structure Few (s : Stm) : Prop where
  cols : s.cols.length ≤ 600
  names : s.names.length ≤ 600
  order : s.order.length ≤ 600
  desc : s.desc.length ≤ 600
  name : s.name.length + s.on.length ≤ 20000
  whr : esize s.whr ≤ 1200
  l : esizes s.l ≤ 1200
  rows : s.rows.length ≤ 600 ∧ ∀ r, r ∈ s.rows → esizes r ≤ 1200
  sets : s.sets.length ≤ 600 ∧ ∀ x, x ∈ s.sets → esize x.e ≤ 1200
theorem rmuch_few {s : Stm} (hs : SmStm (R47, R47) s) (h : rmuch s 600 < 600) : Few s := by
  have hw := much_size (R := (R47, R47)) (Nat.le_refl _) (esize s.whr) s.whr 600 (Nat.le_refl _) hs.whr (by omega) (by omega)
  have hl := much_size (R := (R47, R47)) (Nat.le_refl _) (esize (bare s.l)) (bare s.l) 600 (Nat.le_refl _) (sm_bare hs.l) (by omega) (by omega)
  have hz : esize (bare s.l) = 1 + esizes s.l := esize_eq _
  have c1 := hs.cols.1
  have c2 := hs.names.1
  have c3 := hs.order.1
  have c4 := hs.desc
  have c5 := hs.name
  have c6 := hs.on
  simp only [R47] at c1 c2 c3 c4 c5 c6
  simp only [B0] at hw hl
  have e1 : wr .i64 ((s.cols.length : Int) + (s.names.length : Int)) = (s.cols.length : Int) + (s.names.length : Int) := wr_id (by simp only [inI]; omega)
  have e2 : wr .i64 ((s.cols.length : Int) + (s.names.length : Int) + (s.order.length : Int)) = (s.cols.length : Int) + (s.names.length : Int) + (s.order.length : Int) := wr_id (by simp only [inI]; omega)
  have e3 : wr .i64 ((s.cols.length : Int) + (s.names.length : Int) + (s.order.length : Int) + (s.desc.length : Int)) = (s.cols.length : Int) + (s.names.length : Int) + (s.order.length : Int) + (s.desc.length : Int) := wr_id (by simp only [inI]; omega)
  have e4 : wr .i64 ((s.name.length : Int) + (s.on.length : Int)) = ((s.name.length + s.on.length : Nat) : Int) := by rw [wr_id (by simp only [inI]; omega)]; omega
  have e5 : Int.tdiv ((s.name.length + s.on.length : Nat) : Int) 30 = (((s.name.length + s.on.length) / 30 : Nat) : Int) := rfl
  have e6 : wr .i64 (((s.name.length + s.on.length) / 30 : Nat) : Int) = (((s.name.length + s.on.length) / 30 : Nat) : Int) := wr_id (by simp only [inI]; omega)
  have e7 : wr .i64 ((s.cols.length : Int) + (s.names.length : Int) + (s.order.length : Int) + (s.desc.length : Int) + (((s.name.length + s.on.length) / 30 : Nat) : Int)) = (s.cols.length : Int) + (s.names.length : Int) + (s.order.length : Int) + (s.desc.length : Int) + (((s.name.length + s.on.length) / 30 : Nat) : Int) := wr_id (by simp only [inI]; omega)
  have e8 : wr .i64 ((s.cols.length : Int) + (s.names.length : Int) + (s.order.length : Int) + (s.desc.length : Int) + (((s.name.length + s.on.length) / 30 : Nat) : Int) + much1 s.whr 600) = (s.cols.length : Int) + (s.names.length : Int) + (s.order.length : Int) + (s.desc.length : Int) + (((s.name.length + s.on.length) / 30 : Nat) : Int) + much1 s.whr 600 := wr_id (by simp only [inI]; omega)
  have e9 : wr .i64 ((s.cols.length : Int) + (s.names.length : Int) + (s.order.length : Int) + (s.desc.length : Int) + (((s.name.length + s.on.length) / 30 : Nat) : Int) + much1 s.whr 600 + much1 (bare s.l) 600) = (s.cols.length : Int) + (s.names.length : Int) + (s.order.length : Int) + (s.desc.length : Int) + (((s.name.length + s.on.length) / 30 : Nat) : Int) + much1 s.whr 600 + much1 (bare s.l) 600 := wr_id (by simp only [inI]; omega)
  have e0 : n0 s 600 = (s.cols.length : Int) + (s.names.length : Int) + (s.order.length : Int) + (s.desc.length : Int) + (((s.name.length + s.on.length) / 30 : Nat) : Int) + much1 s.whr 600 + much1 (bare s.l) 600 := by
    simp only [n0, e1, e2, e3, e4, e5, e6, e7, e8, e9]
  have hr := rmR_fact (R := (R47, R47)) (Nat.le_refl _) s.rows (n0 s 600) (by omega) (by omega) hs.rows.2
  have hst := rmS_fact (R := (R47, R47)) (Nat.le_refl _) s.sets (rmR s.rows 600 (n0 s 600)) (by omega) (by omega) (fun x hx => (hs.sets.2 x hx).2)
  have hn := rmN_fact s.names (rmS s.sets 600 (rmR s.rows 600 (n0 s 600))) (by omega) (by omega) hs.names.2
  simp only [rmuch] at h
  have hst2 := hst.2.2 (by omega)
  have hr2 := hr.2.2 (by omega)
  have hw2 := hw.2.2 (by omega)
  have hl2 := hl.2.2 (by omega)
  exact ⟨by omega, by omega, by omega, by omega, by omega, by omega, by omega, ⟨by omega, hr2.2⟩, ⟨by omega, hst2.2⟩⟩
end Go.Proofs.YtjpcghlpkinahaaDoor

/- How many values and letters are read (the rows' own count): a measure on what is read. -/
namespace Go.Proofs.YtjpcghlpkinahaaDoor
open Go.Ax
theorem bulk_pos {H : Type} (d : DataW H) : 1 ≤ Rows.uptoBulk d := by
  cases d with
  | lit l => cases l <;> simp [Rows.uptoBulk]
  | _ => simp [Rows.uptoBulk]
theorem bulk_in {H : Type} : ∀ {l : List (DataW H)} {d : DataW H}, d ∈ l → Rows.uptoBulk d ≤ Rows.uptoBulkAll l
  | [], _, h => by cases h
  | x :: l, d, h => by
    simp only [Rows.uptoBulkAll]
    rcases List.mem_cons.1 h with rfl | h
    · omega
    · have := bulk_in h
      omega
theorem bulks_len {H : Type} : ∀ (l : List (DataW H)), l.length ≤ Rows.uptoBulkAll l
  | [] => by simp [Rows.uptoBulkAll]
  | x :: l => by
    have := bulk_pos x
    have := bulks_len l
    simp only [Rows.uptoBulkAll, List.length_cons]
    omega
theorem msr_bulk {H : Type} (P : Program) (R : Nat) : Msr (H := H) P (R, R) fun _ d => Rows.uptoBulk d ≤ R where
  str := fun t s h => by
    simp only [Rows.uptoBulk] at h
    omega
  sl := fun t e l r hu _ h hl => by
    simp only [Rows.uptoBulk] at h
    have := bulks_len l
    exact ⟨by omega, fun d hd => by
      have := bulk_in hd
      omega⟩
  agg := fun t fds l i fd d hu h hf hd => by
    simp only [Rows.uptoBulk] at h
    have := bulk_in (List.mem_of_getElem? hd)
    omega
/-- the condition of the second form, argument by argument -/
theorem up_args {H : Type} {ds : List (DataW H)} (h : Rows.uptoSmall H ds = true) {i : Nat} {d : DataW H} (hd : ds[i]? = some d) : Rows.uptoBulk d ≤ 1048576 := by
  have h : Rows.uptoBulkAll ds ≤ 1048576 := of_decide_eq_true h
  have := bulk_in (List.mem_of_getElem? hd)
  omega
end Go.Proofs.YtjpcghlpkinahaaDoor

/- How long texts of expressions are. -/
namespace Go.Proofs.YtjpcghlpkinahaaDoor
open Go.Ax
theorem numT_len {n : Int} (h : inI n) : (numT n).length ≤ 21 := by
  have hd : (digs n.natAbs).length ≤ 20 := digs_len 20 _ (by
    simp only [inI] at h
    have : pw 20 = 100000000000000000000 := by kernel_rfl
    omega)
  have ht : (if n = 0 then ([48] : Str) else txt (digs n.natAbs)).length ≤ 20 := by
    split
    · simp
    · rw [txt_len]; exact hd
  unfold numT
  simp only
  split
  · simp only [List.length_cons]; omega
  · omega
theorem value_len {v : Val} (h : vright v = true) (hn : inI v.n) : (vprint v).length ≤ 2003 := by
  simp only [vprint, h, cond_t]
  split
  · split <;> simp
  · split
    · have := numT_len hn
      omega
    · split
      · rename_i h4
        have h1 := right_len h (.inl h4)
        have h2 := quo_len v.s
        simp only [List.length_cons, List.length_append, List.length_nil]; omega
      · split
        · rename_i h5
          have h1 := right_len h (.inr h5)
          have h2 := hexs_len v.s
          simp only [List.length_cons, List.length_append, List.length_nil]; omega
        · simp
theorem name_len {s : Str} (h : lname s = true) : s.length ≤ 30 := by
  have h : Lp.nameF s = true := h
  simp only [Lp.nameF, Bool.and_eq_true, decide_eq_true_eq] at h
  omega
theorem name_ne {s : Str} (h : lname s = true) : s ≠ [] := by
  rintro rfl
  cases h
theorem sgn_len {k : Int} (h : isOp k) : (sgn k).length ≤ 3 := by
  simp only [isOp] at h
  have : k = 4 ∨ k = 5 ∨ k = 6 ∨ k = 7 ∨ k = 8 ∨ k = 9 ∨ k = 10 ∨ k = 11 ∨ k = 12 ∨ k = 13 ∨ k = 14 := by omega
  rcases this with rfl | rfl | rfl | rfl | rfl | rfl | rfl | rfl | rfl | rfl | rfl <;> decide
theorem esize_one (k : Int) (v : Val) (s : Str) (x : Xpr) : esize (.mk k v s [x]) = 2 + esize x := by
  simp only [esize, esizes]; omega
theorem esize_two (k : Int) (v : Val) (s : Str) (x y : Xpr) : esize (.mk k v s [x, y]) = 3 + (esize x + esize y) := by
  simp only [esize, esizes]; omega
theorem etx_len : ∀ (n : Nat) (e : Xpr) (m : Int), esize e ≤ n → eright e m = true → BdExpr e → (etx e).length ≤ 4000 * esize e
  | 0, e, _, h, _, _ => by have := esize_pos e; omega
  | n + 1, e, m, h, hr, hb => by
    have ih : ∀ x, x ∈ e.l → (etx x).length ≤ 4000 * esize x := fun x hx => by
      obtain ⟨m', hm⟩ := right_sub hr hx
      refine etx_len n x m' ?_ hm ((bd_ls hb).2 x hx)
      have := esize_mem hx
      rw [esize_eq] at h
      omega
    have sh := shape_of hr
    cases sh with
    | atom _ hk =>
      obtain ⟨_, ho, _⟩ := eright_parts hr
      have hp := esize_pos e
      rw [etx_un]
      rcases hk with k1 | k2
      · rw [if_pos k1]
        have := value_len (eok_val ho k1).1 (bd_v hb).1.2.1
        omega
      · rw [if_neg (by omega), if_pos k2]
        have := name_len (eok_name ho k2).1
        omega
    | not x =>
      have := ih x List.mem_cons_self
      rw [etx_not, esize_one]
      simp only [List.length_cons, List.length_append, List.length_nil]
      omega
    | neg x =>
      have := ih x List.mem_cons_self
      rw [etx_neg, esize_one]
      simp only [List.length_cons, List.length_append, List.length_nil]
      omega
    | isn x =>
      have := ih x List.mem_cons_self
      rw [etx_isn, esize_one]
      simp only [List.length_cons, List.length_append, List.length_nil]
      omega
    | op k x y hk =>
      have h1 := ih x List.mem_cons_self
      have h2 := ih y (by simp [Xpr.l])
      have h3 := sgn_len hk
      rw [etx_op hk, esize_two]
      simp only [List.length_cons, List.length_append, List.length_nil]
      omega
theorem rx_len {e : Xpr} {m : Int} (hr : eright e m = true) (hb : BdExpr e) : (etx e).length ≤ 4000 * esize e := etx_len (esize e) e m (Nat.le_refl _) hr hb
theorem etx_ne {e : Xpr} {m : Int} (hr : eright e m = true) : etx e ≠ [] := by
  have sh := shape_of hr
  cases sh with
  | atom _ hk =>
    obtain ⟨_, ho, _⟩ := eright_parts hr
    rw [etx_un]
    rcases hk with k1 | k2
    · rw [if_pos k1]
      exact print_ne (eok_val ho k1).1
    · rw [if_neg (by omega), if_pos k2]
      exact name_ne (eok_name ho k2).1
  | not x => rw [etx_not]; simp
  | neg x => rw [etx_neg]; simp
  | isn x => rw [etx_isn]; simp
  | op k x y hk => rw [etx_op hk]; simp
/-! ## the text of an expression that is not much -/
theorem text_ok {e : Xpr} (hr : eright e 30 = true) (hb : BdExpr e) (hz : esize e ≤ 10000) : atext e = some (etx e, 0) := by
  have hl := rx_len hr hb
  simp only [atext, hr, right_ok hr, cond_t]
  rw [app_some (by simp only [List.length_nil]; omega)]
  rfl
theorem text_no {e : Xpr} (hr : eright e 30 = false) : atext e = some ([], 2) := by
  simp only [atext, hr, cond_f]
theorem aexpr_is (e : Xpr) : aexpr e = cond (eright e 30) 0 2 := by
  simp only [aexpr]
  cases eright e 30 <;> rfl
end Go.Proofs.YtjpcghlpkinahaaDoor

/- How long texts of statements are; the text of a statement that is not much. -/
namespace Go.Proofs.YtjpcghlpkinahaaDoor
open Go.Ax
theorem tail_len {α : Type} (f : α → Str) (B : Nat) : ∀ l : List α, (∀ x, x ∈ l → (f x).length ≤ B) → (tailT f l).length ≤ l.length * (B + 2)
  | [], _ => by simp [tailT]
  | x :: l, h => by
    have h1 := h x List.mem_cons_self
    have h2 := tail_len f B l fun y hy => h y (List.mem_cons_of_mem _ hy)
    simp only [tailT, List.length_append, List.length_cons, List.length_nil]
    rw [Nat.add_mul]
    omega
theorem list_len {α : Type} (f : α → Str) (B : Nat) (l : List α) (h : ∀ x, x ∈ l → (f x).length ≤ B) : (listT f l).length ≤ l.length * (B + 2) := by
  have := tail_len f B l h
  cases l with
  | nil => simp [listT]
  | cons x l =>
    simp only [tailT, listT, List.length_append, List.length_cons, List.length_nil] at this ⊢
    omega
theorem tail_xlen : ∀ l : List Xpr, (∀ x, x ∈ l → RX x) → (tailT etx l).length ≤ 4002 * esizes l
  | [], _ => by simp [tailT]
  | x :: l, h => by
    have hx := h x List.mem_cons_self
    have h1 := rx_len hx.1 hx.2
    have h2 := tail_xlen l fun y hy => h y (List.mem_cons_of_mem _ hy)
    simp only [tailT, esizes, List.length_append, List.length_cons, List.length_nil]
    omega
theorem list_xlen (l : List Xpr) (h : ∀ x, x ∈ l → RX x) : (listT etx l).length ≤ 4002 * esizes l := by
  have := tail_xlen l h
  cases l with
  | nil => simp [listT]
  | cons x l =>
    simp only [tailT, listT, List.length_append, List.length_cons, List.length_nil] at this ⊢
    omega
theorem chk_len : ∀ l : List Xpr, (∀ x, x ∈ l → RX x) → ((l.map chkT).flatten).length ≤ 4010 * esizes l
  | [], _ => by simp
  | x :: l, h => by
    have hx := h x List.mem_cons_self
    have h1 := rx_len hx.1 hx.2
    have h2 := chk_len l fun y hy => h y (List.mem_cons_of_mem _ hy)
    have h3 : (chkT x).length ≤ 4000 * esize x + 10 := by
      simp only [chkT]
      cases decide (parts x.kind = 0) <;> simp only [cond_t, cond_f, List.length_append, List.length_cons, List.length_nil] <;> omega
    simp only [List.map_cons, List.flatten_cons, List.length_append, esizes]
    omega
theorem nmT_len {l : List Str} (h : l.length ≤ 600) (hn : ∀ x, x ∈ l → lname x = true) : (nmT l).length ≤ 20000 := by
  have := list_len (fun x : Str => x) 30 l fun x hx => name_len (hn x hx)
  simp only [nmT, join_list, List.length_append, List.length_cons, List.length_nil]
  omega
theorem okNm_of {l : List Str} (h : l.length ≤ 600) (hn : ∀ x, x ∈ l → lname x = true) : okNm l = true := by
  have := list_len (fun x : Str => x) 30 l fun x hx => name_len (hn x hx)
  simp only [okNm, join_list, Bool.and_eq_true, decide_eq_true_eq]
  omega
theorem kinds_len (k : Int) : (at' .str kindsL k).length ≤ 5 := by
  have h : ∀ i, (kindsL.getD i ([] : Str)).length ≤ 5 := fun i => by
    match i with
    | 0 | 1 | 2 | 3 | 4 | 5 => decide
    | i + 6 => simp [kindsL]
  exact h _
theorem colT_len {c : Col} (h : CX c) : (colT c).length ≤ 100 := by
  obtain ⟨h1, h2⟩ := h
  simp only [colOk, Bool.and_eq_true, Bool.or_eq_true, decide_eq_true_eq] at h1
  have h3 := name_len h2
  have h4 := kinds_len c.kind
  have h5 : (cond c.notNull [32, 78, 79, 84, 32, 78, 85, 76, 76] ([] : Str)).length ≤ 9 := by cases c.notNull <;> simp
  have h6 : (cond c.unique [32, 85, 78, 73, 81, 85, 69] ([] : Str)).length ≤ 7 := by cases c.unique <;> simp
  have h7 : (cond (decide (c.ref = [])) [] ([32, 82, 69, 70, 69, 82, 69, 78, 67, 69, 83, 32] ++ c.ref)).length ≤ 42 := by
    rcases h1.2 with h | h
    · rw [decide_eq_true h]; simp
    · have := name_len h
      cases decide (c.ref = []) <;> simp only [cond_t, cond_f, List.length_append, List.length_cons, List.length_nil] <;> omega
  simp only [colT, List.length_append, List.length_cons, List.length_nil]
  omega
theorem whT_len {s : Stm} (h : WX s) (hf : esize s.whr ≤ 1200) : (whT s).length ≤ 5000000 := by
  simp only [whT]
  cases hs : s.has with
  | false => simp
  | true =>
    have hx := wx_rx h hs
    have := rx_len hx.1 hx.2
    simp only [cond_t, List.length_append, List.length_cons, List.length_nil]
    omega
theorem okW_of {s : Stm} (h : WX s) : okW s = true := by
  simp only [okW]
  cases hs : s.has with
  | false => rfl
  | true => exact right_ok (wx_rx h hs).1
theorem all_ok {l : List Xpr} (h : ∀ x, x ∈ l → RX x) : l.all okx = true := List.all_eq_true.2 fun x hx => right_ok (h x hx).1
theorem limT_len {s : Stm} (h : inI s.most) : (limT s).length ≤ 40 := by
  simp only [limT]
  cases decide (0 ≤ s.most) with
  | false => simp
  | true =>
    have := numT_len h
    have e : vprint ⟨3, s.most, []⟩ = numT s.most := rfl
    rw [e]
    simp only [cond_t, List.length_append, List.length_cons, List.length_nil]
    omega
theorem print_ok {s : Stm} (h : checkB s = true) (hb : BdStm s) (hf : Few s) : okP s = true ∧ (printT s).length ≤ 10000000000 := by
  obtain ⟨⟨s1, s2⟩, s3⟩ := check_kind h
  have ln := name_len s1
  rcases s3 with ⟨k, a1, a2, a3, a4, a5⟩ | k | ⟨k, a1, a2, a3⟩ | ⟨k, a1, a2⟩ | ⟨k, a1, a2, a3⟩ | ⟨k, a1⟩ | ⟨k, a1, a2, a3, a4, a5⟩
  · have hx := rx_all a5 hb.l
    refine ⟨?_, ?_⟩
    · simp only [okP, if_pos k, okT, Bool.and_eq_true]
      refine ⟨⟨List.all_eq_true.2 fun c hc => ?_, okNm_of hf.names a4⟩, all_ok hx⟩
      have h1 := (a1 c hc).1
      simp only [colOk, Bool.and_eq_true, decide_eq_true_eq] at h1
      simp only [inb, Bool.and_eq_true, decide_eq_true_eq]
      omega
    · have l1 := list_len colT 100 s.cols fun c hc => colT_len (a1 c hc)
      have l2 := nmT_len hf.names a4
      have l3 := chk_len s.l hx
      have f1 := hf.cols
      have f2 := hf.l
      simp only [printT, if_pos k, tableT, List.length_append, List.length_cons, List.length_nil]
      omega
  · refine ⟨?_, ?_⟩
    · simp only [okP, if_neg (show ¬ s.kind = 1 by omega), if_pos k]
    · rcases k with k | k <;> simp only [printT, k] <;> simp <;> omega
  · have l1 := name_len a1
    have l2 := nmT_len hf.names a3
    refine ⟨?_, ?_⟩
    · simp only [okP, if_neg (show ¬ s.kind = 1 by omega), if_neg (show ¬ (s.kind = 2 ∨ s.kind = 4) by omega), if_pos k, okNm_of hf.names a3]
    · simp only [printT, if_neg (show ¬ s.kind = 1 by omega), if_neg (show ¬ s.kind = 2 by omega), if_pos k, List.length_append, List.length_cons, List.length_nil]
      omega
  · have hx : ∀ r, r ∈ s.rows → ∀ x, x ∈ r → RX x := fun r hr => rx_all (a2 r hr).2 (hb.rows.2 r hr)
    refine ⟨?_, ?_⟩
    · simp only [okP, if_neg (show ¬ s.kind = 1 by omega), if_neg (show ¬ (s.kind = 2 ∨ s.kind = 4) by omega), if_neg (show ¬ s.kind = 3 by omega), if_pos k]
      exact List.all_eq_true.2 fun r hr => all_ok (hx r hr)
    · have l1 := list_len rowT 5000000 s.rows fun r hr => by
        have := list_xlen r (hx r hr)
        have := hf.rows.2 r hr
        simp only [rowT, List.length_append, List.length_cons, List.length_nil]
        omega
      have f1 := hf.rows.1
      simp only [printT, if_neg (show ¬ s.kind = 1 by omega), if_neg (show ¬ s.kind = 2 by omega), if_neg (show ¬ s.kind = 3 by omega), if_neg (show ¬ s.kind = 4 by omega), if_pos k, List.length_append, List.length_cons, List.length_nil]
      omega
  · have hw : WX s := ⟨a3, hb.whr⟩
    refine ⟨?_, ?_⟩
    · simp only [okP, if_neg (show ¬ s.kind = 1 by omega), if_neg (show ¬ (s.kind = 2 ∨ s.kind = 4) by omega), if_neg (show ¬ s.kind = 3 by omega), if_neg (show ¬ s.kind = 5 by omega), if_pos k, okW_of hw, Bool.and_true]
      exact List.all_eq_true.2 fun x hx => right_ok (a2 x hx).1
    · have l1 := list_len setT 5000000 s.sets fun x hx => by
        have := rx_len (a2 x hx).1 (hb.sets.2 x hx).2
        have := name_len (a2 x hx).2
        have := hf.sets.2 x hx
        simp only [setT, List.length_append, List.length_cons, List.length_nil]
        omega
      have l2 := whT_len hw hf.whr
      have f1 := hf.sets.1
      simp only [printT, if_neg (show ¬ s.kind = 1 by omega), if_neg (show ¬ s.kind = 2 by omega), if_neg (show ¬ s.kind = 3 by omega), if_neg (show ¬ s.kind = 4 by omega), if_neg (show ¬ s.kind = 5 by omega), if_pos k, List.length_append, List.length_cons, List.length_nil]
      omega
  · have hw : WX s := ⟨a1, hb.whr⟩
    refine ⟨?_, ?_⟩
    · simp only [okP, if_neg (show ¬ s.kind = 1 by omega), if_neg (show ¬ (s.kind = 2 ∨ s.kind = 4) by omega), if_neg (show ¬ s.kind = 3 by omega), if_neg (show ¬ s.kind = 5 by omega), if_neg (show ¬ s.kind = 6 by omega), if_pos k, okW_of hw]
    · have l2 := whT_len hw hf.whr
      simp only [printT, if_neg (show ¬ s.kind = 1 by omega), if_neg (show ¬ s.kind = 2 by omega), if_neg (show ¬ s.kind = 3 by omega), if_neg (show ¬ s.kind = 4 by omega), if_neg (show ¬ s.kind = 5 by omega), if_neg (show ¬ s.kind = 6 by omega), if_pos k, List.length_append, List.length_cons, List.length_nil]
      omega
  · have hw : WX s := ⟨a2, hb.whr⟩
    have hx := rx_all a1 hb.l
    refine ⟨?_, ?_⟩
    · simp only [okP, k, okS, okW_of hw, all_ok hx, a4]
      rfl
    · have l1 := list_xlen s.l hx
      have l2 := whT_len hw hf.whr
      have l3 := list_len ordT 40 (s.order.zip s.desc) fun p hp => by
        have := name_len (a3 p.1 (List.of_mem_zip hp).1)
        have h6 : (cond p.2 [32, 68, 69, 83, 67] ([] : Str)).length ≤ 5 := by cases p.2 <;> simp
        simp only [ordT, List.length_append]
        omega
      have l4 := limT_len hb.most
      have l5 : (obT s).length ≤ 10 := by
        simp only [obT]
        cases decide (0 < (s.order.length : Int)) <;> simp
      have l6 : (cond (decide ((s.l.length : Int) = 0)) [42] ([] : Str)).length ≤ 1 := by cases decide ((s.l.length : Int) = 0) <;> simp
      have f1 := hf.order
      have f2 := hf.l
      rw [List.length_zip] at l3
      simp only [printT, if_neg (show ¬ s.kind = 1 by omega), if_neg (show ¬ s.kind = 2 by omega), if_neg (show ¬ s.kind = 3 by omega), if_neg (show ¬ s.kind = 4 by omega), if_neg (show ¬ s.kind = 5 by omega), if_neg (show ¬ s.kind = 6 by omega), if_neg (show ¬ s.kind = 7 by omega), selT, List.length_append, List.length_cons, List.length_nil]
      omega
theorem acheck_is {s : Stm} (hf : Few s) : acheck s = some (cond (checkB s) 0 2) := if_pos ⟨by have := hf.cols; omega, by have := hf.sets.1; omega⟩
theorem aprint_ok' {s : Stm} (h : checkB s = true) (hb : BdStm s) (hf : Few s) : aprint s = some (printT s, 0) := by
  obtain ⟨h1, h2⟩ := print_ok h hb hf
  simp only [aprint, acheck_is hf, h, h1, Option.bind_some]
  rw [app_some (by simp only [List.length_nil]; omega)]
  rfl
theorem aprint_no {s : Stm} (h : checkB s = false) (hf : Few s) : aprint s = some ([], 2) := by
  simp only [aprint, acheck_is hf, h, Option.bind_some]
  rfl
theorem head_ne {s : Stm} (h : checkB s = true) : printT s ≠ [] := fun e => by
  obtain ⟨_, s3⟩ := check_kind h
  have hk : s.kind = 1 ∨ s.kind = 2 ∨ s.kind = 3 ∨ s.kind = 4 ∨ s.kind = 5 ∨ s.kind = 6 ∨ s.kind = 7 ∨ s.kind = 8 := by
    rcases s3 with ⟨k, _⟩ | k | ⟨k, _⟩ | ⟨k, _⟩ | ⟨k, _⟩ | ⟨k, _⟩ | ⟨k, _⟩ <;> omega
  rcases hk with k | k | k | k | k | k | k | k <;> simp [printT, tableT, selT, k] at e
end Go.Proofs.YtjpcghlpkinahaaDoor

/- Ax, part Fs: a package-level map from numbers to texts, as the rows' list lays it; what is left behind a law's call. -/
namespace Go.Ax
open Go.RowKit Go.ChangeShapes Go.WideShapes
section
variable {H : Type} {enc' : TypeId × Value → H} {P : Program} {w : World} {base : Nat} {sp : Nat → Bool} {held : Bool}
theorem map_of_trod {t k e : TypeId} {fuel : Nat} {cs : List Value} {ps : List MemPlace} (ht : P.underlying t = some (.map k e)) (hk : P.underlying k = some (.int .i64)) (he : P.underlying e = some .string) {l : List (Int × Str)} (hl : ∀ p, p ∈ l → mget l p.1 = p.2) (hno : ∀ n, (∀ p, p ∈ l → p.1 ≠ n) → mget l n = []) (h : DataW.trod enc' P w base sp held fuel t cs = some (.map (l.map fun p => (.int .i64 p.1, .lit (.string p.2))), ps)) : ∃ b es clk, cs = [.map (some b)] ∧ w.heap[b]? = some (.map es clk) ∧ MapIs l es.toList := by
  rcases open_anymap ht h with ⟨_, hx⟩ | ⟨b, es, clock, _, rfl, hb, _, _, _⟩
  · cases hx
  cases fuel with
  | zero => simp [DataW.trod] at h
  | succ n =>
    simp only [DataW.trod, ht, hb] at h
    · split at h
      · obtain ⟨entries, hm, hs⟩ := Option.bind_eq_some_iff.1 h
        split at hs
        · simp only [Option.some.injEq, Prod.mk.injEq, DataW.map.injEq] at hs
          obtain ⟨hs, _⟩ := hs
          have hperm := sorted_perm (entries.map (·.1))
          rw [hs] at hperm
          have hx : ∀ (x : MapEntry) (y : (Lit × DataW H) × List MemPlace), ((keyOf P k x.key).bind fun key => if x.val.formed P e = true then (DataW.trod enc' P w base sp held n e x.val.cells.toList).map fun y => ((key, y.1), y.2) else none) = some y → ∃ (m : Int) (s : ByteArray), x.key = .int .i64 m ∧ x.val = .string s ∧ s.size ≤ maxLen ∧ y.1 = (.int .i64 m, .lit (.string s.data.toList)) := by
            intro x y hy
            obtain ⟨key, hk1, hy⟩ := Option.bind_eq_some_iff.1 hy
            split at hy
            · rename_i hfm
              obtain ⟨z, hz, rfl⟩ := Option.map_eq_some_iff.1 hy
              obtain ⟨s, hs1, rfl, hs3⟩ := DataW.trod_string he hz
              have hv : x.val = .string s := by
                cases hxv : x.val <;> rw [hxv] at hs1 hfm <;> simp [Value.cells] at hs1
                · rw [hs1]
                · simp [Value.formed, he] at hfm
              have hkk : ∃ m, x.key = .int .i64 m ∧ key = .int .i64 m := by
                simp only [keyOf, hk] at hk1
                cases hxk : x.key <;> rw [hxk] at hk1 <;> simp [mapKey, hk] at hk1
                obtain ⟨⟨h1, _⟩, h2⟩ := hk1
                subst h1
                exact ⟨_, rfl, h2.symm⟩
              obtain ⟨m, h1, rfl⟩ := hkk
              exact ⟨m, s, h1, hv, hs3, rfl⟩
            · cases hy
          have hin : ∀ x, x ∈ es.toList → ∃ (m : Int) (s : ByteArray), x.key = .int .i64 m ∧ x.val = .string s ∧ s.size ≤ maxLen ∧ (m, s.data.toList) ∈ l := fun x hxm => by
            obtain ⟨i, hi, rfl⟩ := List.getElem_of_mem hxm
            obtain ⟨y, hy, hf⟩ := Lib.mapM_at hm i _ (List.getElem?_eq_getElem hi)
            obtain ⟨m, s, h1, h2, h3, h4⟩ := hx _ y hf
            refine ⟨m, s, h1, h2, h3, ?_⟩
            have : y.1 ∈ entries.map (·.1) := List.mem_map.2 ⟨y, List.mem_of_getElem? hy, rfl⟩
            have := hperm.symm.subset this
            rw [h4] at this
            obtain ⟨p, hp, e⟩ := List.mem_map.1 this
            simp only [Prod.mk.injEq, Lit.int.injEq, true_and, DataW.lit.injEq, Lit.string.injEq] at e
            obtain ⟨e1, e2⟩ := e
            rw [← e1, ← e2]
            exact hp
          have hout : ∀ p, p ∈ l → ∃ x, x ∈ es.toList ∧ x.key = .int .i64 p.1 := fun p hp => by
            have h1 : (Lit.int .i64 p.1, DataW.lit (H := H) (.string p.2)) ∈ entries.map (·.1) := hperm.subset (List.mem_map.2 ⟨p, hp, rfl⟩)
            obtain ⟨y, hy, e⟩ := List.mem_map.1 h1
            obtain ⟨x, hxm, hf⟩ := mapM_mem hm y hy
            obtain ⟨m, s, h2, _, _, h4⟩ := hx x y hf
            rw [e] at h4
            simp only [Prod.mk.injEq, Lit.int.injEq, true_and] at h4
            exact ⟨x, hxm, by rw [h2, h4.1]⟩
          refine ⟨b, es, clock, rfl, hb, fun n => ?_⟩
          have hik : MapKept.IsKey (.int .i64) (.int .i64 n) := by simp [MapKept.IsKey]
          rcases MapKept.findNow_spec hik es.toList 0 (fun x hxm => by obtain ⟨m, s, h1, _⟩ := hin x hxm; rw [h1]; simp [MapKept.IsKey]) with ⟨h1, h2⟩ | ⟨j, x, h1, h2, h3⟩
          · have : mget l n = [] := hno n fun p hp e => by
              obtain ⟨x, hxm, hk⟩ := hout p hp
              exact h2 x hxm (by rw [hk, e])
            exact ⟨by rw [this]; simp, .inl ⟨h1, this⟩⟩
          · obtain ⟨m, s, g1, g2, g3, g4⟩ := hin x (List.mem_of_getElem? h2)
            have hmn : m = n := by
              rw [g1] at h3
              simpa using h3
            subst hmn
            have hg := hl _ g4
            simp only at hg
            refine ⟨by rw [hg, Array.length_toList]; exact g3, .inr ⟨0 + j, ?_⟩⟩
            rw [h1, g2, hg, Array.toArray_toList]
        · cases hs
      · cases h
end
/-- a world that is none's footprint: facts on what lies in it -/
theorem glR_map {el : Ck → TypeId} {w : World} {g : Nat} {l : List (Int × Str)} {b : Nat} {es : Array MapEntry} {clk : Nat} (h1 : w.cell? ⟨g, 0, none⟩ = some (.map (some b))) (h2 : w.heap[b]? = some (.map es clk)) (h3 : MapIs l es.toList) : GlR (v0 el noFp w) (tbl [(g, .map l)]) := by
  refine ⟨fun g' c xs hg => ?_, fun g' l' hg => ?_, fun g' k hg => ?_⟩
  · simp only [tbl] at hg
    split at hg <;> cases hg
  · simp only [tbl] at hg
    split at hg
    · rename_i hgg
      have hgg := Nat.eq_of_beq_eq_true hgg
      subst hgg
      simp only [Option.some.injEq, Gv.map.injEq] at hg
      subst hg
      have hlt : b < w.heap.size := (Array.getElem?_eq_some_iff.1 h2).1
      exact ⟨b, es, clk, fun w' hw => ⟨hw.cell g 0 _ h1 (fun h => h), by rw [hw.block b hlt (fun _ h => h)]; exact h2⟩, h3⟩
    · cases hg
  · simp only [tbl] at hg
    split at hg <;> cases hg
theorem weights_app {H : Type} {P : Program} : ∀ {ts us : List TypeId} {ds gs : List (DataW H)} {n : Nat}, ds.length ≤ ts.length → n ∈ DataW.weightsEach P ts ds → n ∈ DataW.weightsEach P (ts ++ us) (ds ++ gs)
  | [], us, ds, gs, n, _, h => by cases ds <;> simp [DataW.weightsEach] at h
  | t :: ts, us, [], gs, n, _, h => by simp [DataW.weightsEach] at h
  | t :: ts, us, d :: ds, gs, n, hl, h => by
    simp only [DataW.weightsEach, List.cons_append, List.mem_append] at h ⊢
    rcases h with h | h
    · exact .inl h
    · exact .inr (weights_app (by simpa using hl) h)
theorem sizes_of {H : Type} {P : Program} {ts us : List TypeId} {ds gs : List (DataW H)} (h : (DataW.weightsEach P (ts ++ us) (ds ++ gs)).all (· ≤ reachBytes) = true) (hl : ds.length ≤ ts.length) : ∀ (i : Nat) (t : TypeId) (d : DataW H), ts[i]? = some t → ds[i]? = some d → ∀ n, n ∈ d.weights P t → n ≤ R47 := fun i t d ht hd n hn => by
  have := List.all_eq_true.1 h n (weights_app hl (DataW.weights_mem_each ht hd n hn))
  show n ≤ reachBytes
  exact of_decide_eq_true this
theorem trodAll_len {H : Type} {enc' : TypeId × Value → H} {P : Program} {w : World} {base : Nat} {sp : Nat → Bool} {held : Bool} : ∀ {ts : List TypeId} {vs : List Value} {ds : List (DataW H)} {ps : List MemPlace}, DataW.TrodAll enc' P w base sp held ts vs ds ps → ds.length = ts.length := by
  intro ts
  induction ts with
  | nil => intro vs ds ps h; cases vs <;> cases ds <;> simp [DataW.TrodAll] at h ⊢
  | cons t ts ih =>
    intro vs ds ps h
    obtain ⟨v, vs', d, ds', p, q, rfl, rfl, rfl, hd, hrest⟩ := trodAll_cons h
    simp [ih hrest]
end Go.Ax

/- The frame of this seat's laws: what the rows' list and the world's shape give of the package-level variables, a world for the witness, what is left behind the call. -/
namespace Go.Proofs.YtjpcghlpkinahaaDoor
open Go.Ax Go.ChangeShapes Go.WideShapes Go.ChangeAt Go.RowKit Go.ChangeMaps
theorem own : ownKnob Tryd.prog.godebug = none := by kernel_rfl
def rdL : List Nat := [3, 4, 9, 5, 28, 40, 65, 79, 46, 38, 41, 23, 44, 82, 43, 42]
theorem rdL_ok : rdB elT (ttOf ttL) rdL = true := by kernel_rfl
theorem szL_ok : szB Tryd.prog elT (ttOf ttL) rdL = true := by kernel_rfl
theorem laidOut : laidOutB Tryd.prog = true := by kernel_rfl
/-- one package-level variable -/
def GlE (x : Vx) (g : Nat) : Gv → Prop
  | .arr c xs => ∀ i y, xs[i]? = some y → ∀ w', Chg x.S x.w w' → At w' c y g (i * csz c)
  | .map l => ∃ r es clk, (∀ w', Chg x.S x.w w' → w'.cell? ⟨g, 0, none⟩ = some (.map (some r)) ∧ w'.heap[r]? = some (.map es clk)) ∧ MapIs l es.toList
  | .num k => ∃ n, ∀ w', Chg x.S x.w w' → w'.cell? ⟨g, 0, none⟩ = some (.int k n)
theorem tbl_mem {α : Type} : ∀ {L : List (Nat × α)} {g : Nat} {v : α}, tbl L g = some v → (g, v) ∈ L
  | [], _, _, h => by simp [tbl] at h
  | (k, u) :: L, g, v, h => by
    simp only [tbl] at h
    split at h
    · rename_i hk
      have hk := Nat.eq_of_beq_eq_true hk
      subst hk
      simp only [Option.some.injEq] at h
      subst h
      exact List.mem_cons_self
    · exact List.mem_cons_of_mem _ (tbl_mem h)
theorem glR_tbl {x : Vx} {L : List (Nat × Gv)} (h : ∀ p, p ∈ L → GlE x p.1 p.2) : GlR x (tbl L) :=
  ⟨fun _ _ _ hg => h _ (tbl_mem hg), fun _ _ hg => h _ (tbl_mem hg), fun _ _ hg => h _ (tbl_mem hg)⟩
/-- a variable of the rows' list -/
theorem laid_mem {P : Program} {w : World} : ∀ {l : List (String × DataW Unit)} {ps : List MemPlace}, DataW.LaidVars P w l ps → ∀ x, x ∈ l → ∃ g t cs fuel p, P.globalNamed x.1 = some g ∧ (P.globals[g]?).map (·.type) = some t ∧ w.var? P x.1 = some cs ∧ DataW.trod (fun _ => ()) P w 0 (fun _ => true) false fuel t cs.toList = some (x.2, p)
  | [], _, _, x, hx => by cases hx
  | (n, d) :: r, ps, h, x, hx => by
    obtain ⟨g, t, cs, fuel, p, q, h1, h2, h3, h4, h5, _⟩ := h
    rcases List.mem_cons.1 hx with rfl | hx
    · exact ⟨g, t, cs, fuel, p, h1, h2, h3, h4⟩
    · exact laid_mem h5 x hx
/-- an array of texts that reads as a list holds it, cell for cell -/
theorem cells_of_texts {H : Type} {enc : TypeId × Value → H} {P : Program} {w : World} {base : Nat} {sp : Nat → Bool} {held : Bool} {fuel : Nat} {t e : TypeId} {n : Nat} {cs : List Value} {zs : List (List UInt8)} {p : List MemPlace}
    (ht : P.underlying t = some (.array n e)) (he : P.underlying e = some .string) (hce : P.cellsOf e = 1)
    (h : DataW.trod enc P w base sp held fuel t cs = some (.agg (zs.map fun z => .lit (.string z)), p)) : ∀ (i : Nat) (z : Str), zs[i]? = some z → cs[i]? = some (.string ⟨z.toArray⟩) := by
  cases fuel with
  | zero => simp [DataW.trod] at h
  | succ fuel =>
    simp only [DataW.trod, ht, hce, Nat.mul_one] at h
    split at h
    · rename_i hl
      obtain ⟨xs, hm, hx⟩ := Option.map_eq_some_iff.1 h
      have hxs : xs.map (·.1) = zs.map fun z => (DataW.lit (.string z) : DataW H) := by
        have := congrArg Prod.fst hx
        simpa using this
      have hxl : xs.length = n := by simpa using Lib.mapM_length hm
      have hzl : zs.length = n := by
        have := congrArg List.length hxs
        simp at this
        omega
      intro i z hz
      have hi : i < n := by
        have := (List.getElem?_eq_some_iff.1 hz).1
        omega
      obtain ⟨b, hb, hf⟩ := Lib.mapM_at hm i i (by simp [hi])
      obtain ⟨z', hc, h3, _⟩ := DataW.trod_string he hf
      have h1 : cs[i]? = some (.string z') := by
        have := congrArg (·[0]?) hc
        simpa [List.getElem?_take, List.getElem?_drop] using this
      have h2 : (xs.map (·.1))[i]? = some b.1 := by simp [hb]
      rw [hxs] at h2
      simp only [List.getElem?_map, hz, Option.map_some, Option.some.injEq] at h2
      rw [h3] at h2
      simp only [DataW.lit.injEq, Lit.string.injEq] at h2
      rw [h1, h2]
    · cases h
theorem glE_texts {W : World} {l : List (String × DataW Unit)} (h : laidMet Tryd.prog l W) {nm : String} {g t e : Nat} {n : Nat} {zs : List Str} (hin : (nm, DataW.agg (zs.map fun z => .lit (.string z))) ∈ l) (hg : Tryd.prog.globalNamed nm = some g) (hgt : (Tryd.prog.globals[g]?).map (·.type) = some t)
    (ht : Tryd.prog.underlying t = some (.array n e)) (he : Tryd.prog.underlying e = some .string) (hce : Tryd.prog.cellsOf e = 1) (hz : (zs.all fun z => Nat.ble z.length maxLen) = true) : GlE (v0 elT noFp W) g (.arr .str zs) := by
  obtain ⟨ps, hl, _⟩ := h
  obtain ⟨g', t', cs, fuel, p, h1, h2, h3, h4⟩ := laid_mem hl _ hin
  obtain rfl := Option.some.inj (hg.symm.trans h1)
  obtain rfl := Option.some.inj (hgt.symm.trans h2)
  have hc := cells_of_texts ht he hce h4
  intro i y hy w' hw j d hd
  have hj : j = 0 ∧ d = .str y := by
    cases j with
    | zero => simpa [enc] using hd.symm
    | succ j => simp [enc] at hd
  obtain ⟨rfl, rfl⟩ := hj
  have h5 := World.var?_cell h1 h3 i
  rw [← Array.getElem?_toList, hc i y hy] at h5
  have hm := List.all_eq_true.1 hz y (List.mem_of_getElem? hy)
  have e1 : i * csz .str + 0 = i := by simp [csz]
  exact ⟨_, by rw [e1]; exact hw.cell _ _ _ h5 (fun h => h), .str y (Nat.le_of_ble_eq_true hm)⟩
theorem mget_in : ∀ p, p ∈ signsL → mget signsL p.1 = p.2 := by decide
theorem mget_no (l : List (Int × Str)) : ∀ n, (∀ p, p ∈ l → p.1 ≠ n) → mget l n = [] := by
  induction l with
  | nil => intro n _; rfl
  | cons p l ih =>
    intro n h
    obtain ⟨k, s⟩ := p
    have h1 : k ≠ n := h (k, s) (by simp)
    simp only [mget, decide_eq_false h1]
    exact ih n fun p hp => h p (by simp [hp])
theorem glE_signs {W : World} {l : List (String × DataW Unit)} (h : laidMet Tryd.prog l W) (hin : ("exchequer/ast.signs", Rows.laid_exchequer_ast_signs) ∈ l) : GlE (v0 elT noFp W) 1 (.map signsL) := by
  obtain ⟨ps, hl, _⟩ := h
  obtain ⟨g', t', cs, fuel, p, hg', ht', hvar, hd⟩ := laid_mem hl _ hin
  obtain rfl := Option.some.inj ((show Tryd.prog.globalNamed "exchequer/ast.signs" = some 1 by kernel_rfl).symm.trans hg')
  obtain rfl := Option.some.inj ((show (Tryd.prog.globals[1]?).map (·.type) = some 128 by kernel_rfl).symm.trans ht')
  obtain ⟨b, es, clk, h1, h2, h3⟩ := map_of_trod (l := signsL) (t := 128) (k := 3) (e := 9) (by kernel_rfl) (by kernel_rfl) (by kernel_rfl) mget_in (mget_no signsL) hd
  have hc := World.var?_cell hg' hvar 0
  have h1' : cs = #[.map (some b)] := by
    apply Array.ext'
    exact h1
  rw [h1'] at hc
  have hc : W.cell? ⟨1, 0, none⟩ = some (.map (some b)) := hc
  have hlt : b < W.heap.size := (Array.getElem?_eq_some_iff.1 h2).1
  exact ⟨b, es, clk, fun w' hw => ⟨hw.cell _ 0 _ hc (fun h => h), by rw [hw.block b hlt (fun _ h => h)]; exact h2⟩, h3⟩
theorem glE_max {W : World} (h : W.ShapedOpen Tryd.prog) : GlE (v0 elT noFp W) 3 (.num .i64) := by
  obtain ⟨m, hm⟩ := Go.Proofs.cell_of_shapedOpen_int (zero := #[.int .i64 0]) (t := 3) (g := 3) h (of_decide_eq_true (by kernel_rfl)) (by kernel_rfl) rfl (by kernel_rfl) (by kernel_rfl) Tryd.underlying3
  exact ⟨m, fun w' hw => hw.cell _ 0 _ hm (fun h => h)⟩
/-- what a law's row has to list -/
def Lists (l : List (String × DataW Unit)) : Prop := (l.all fun x => x.2.handleName?.isNone) = true
  ∧ ("exchequer/ast.signs", Rows.laid_exchequer_ast_signs) ∈ l
  ∧ ("exchequer/ast.kinds", Rows.laid_exchequer_ast_kinds) ∈ l
  ∧ True
theorem all_glR {W : World} {l : List (String × DataW Unit)} (hl : Lists l) (hL : laidMetH Tryd.prog l W) (hS : W.ShapedOpen Tryd.prog) : GlR (v0 elT noFp W) glT := by
  have hL' : laidMet Tryd.prog l W := by
    have hf : (l.filter fun x => x.2.handleName?.isSome) = [] := List.filter_eq_nil_iff.2 fun x hx => by
      have := List.all_eq_true.1 hl.1 x hx
      rw [Option.isNone_iff_eq_none] at this
      simp [this]
    unfold laidMetH at hL
    rw [hf] at hL
    exact hL
  replace hl := hl.2
  clear hL
  have _ := hS
  refine glR_tbl fun p hp => ?_
  have hsigns := glE_signs hL' hl.1
  replace hl := hl.2
  have hkinds : GlE (v0 elT noFp W) 2 (.arr .str kindsL) := glE_texts (n := 6) (t := 145) (e := 9) hL' hl.1 (by kernel_rfl) (by kernel_rfl) (by kernel_rfl) (by kernel_rfl) (by kernel_rfl) (by kernel_rfl)
  replace hl := hl.2
  have hmax := glE_max hS
  simp only [List.mem_cons, List.not_mem_nil, or_false] at hp
  repeat' (first | (rcases hp with rfl | hp) | subst hp)
  all_goals assumption
/-- a world in which the tables lie -/
def numOf : DataW Unit → Value
  | .lit (.int k n) => .int k n
  | .lit (.string s) => .string ⟨s.toArray⟩
  | _ => .int .u8 0
def rowOf : DataW Unit → List Value
  | .agg l => l.map numOf
  | _ => []
def rowsOf : DataW Unit → List Value
  | .agg l => l.flatMap rowOf
  | _ => []
def putRow (vs : List Value) : Obj → Obj
  | .cells _ t frozen => .cells vs.toArray t frozen
  | o => o
noncomputable def laidHeap (h : Array Obj) : Array Obj :=
  let h := h.modify 2 (putRow (rowOf Rows.laid_exchequer_ast_kinds))
  let h := (h.modify 4 (putRow (rowOf Rows.laid_unicode_utf8_first))).modify 5 (putRow (rowsOf Rows.laid_unicode_utf8_acceptRanges))
  let h := (h.modify 1 (putRow [.map (some h.size)])).push (.map ((signsL.zip (List.range 11)).map fun p => (⟨.int .i64 p.1.1, .string ⟨p.1.2.toArray⟩, p.2⟩ : MapEntry)).toArray 11)
  h
noncomputable def laidWorld (os : Os) : World :=
  { World.holding Tryd.prog os ⟨#[], #[], []⟩ with heap := laidHeap (World.holding Tryd.prog os ⟨#[], #[], []⟩).heap }
set_option maxRecDepth 100000 in
theorem law_frame {H : Type} {R : Nat × Nat} {M : TypeId → DataW H → Prop} (hM : Msr Tryd.prog R M) {enc : TypeId × Value → H} {f : FuncId} {fn : Func} {sa : List Sg} {F : FT sa [.bool]} {s : ChangeSpec} (hok : FnOk Tryd.prog elT glT f sa [.bool] F) (hF : ∀ x, BdL sa x → SmL R sa x → F x = some true)
    (hr : fn.resultTypes = #[4]) (hv : s.vars = []) (hf : ∀ ds, ds.length = fn.params.toList.length → (s.fn H ds).results = [.lit (.bool true)] ∧ (s.fn H ds).args = ds ∧ (s.fn H ds).vars = [])
    (hsg : sgsOk (ttOf ttL) rdL fn.params.toList sa = true) (hread : (fn.params.toList.all fun t => Tryd.prog.readableRec t && Nat.blt t Tryd.prog.types.size) = true)
    {W : World} {base : Nat} {args : Array Value} {ds gs : List (DataW H)} {before : List MemPlace} (hval : ∀ (j : Nat) t v, fn.params[j]? = some t → args[j]? = some v → Value.okWide Tryd.prog W .any base t v)
    (hW : DataW.Whole enc Tryd.prog fn.params.toList s.vars false W args.toList ds gs before) (hgl : GlR (v0 elT noFp W) glT) (hsz : ds.length = fn.params.toList.length → ∀ (i : Nat) (t : TypeId) (d : DataW H), fn.params.toList[i]? = some t → ds[i]? = some d → M t d) :
    Calls Tryd.prog f args W fun e W' => ∃ v, e = .returned v ∧ s.post enc Tryd.prog fn false true false false W args v W' := by
  have hW' := hW
  have hlt := hW.lt
  obtain ⟨p, q, hA, hV, rfl, hfz, hnd⟩ := hW
  rw [hv] at hV
  obtain ⟨rfl, rfl⟩ := trodVars_none hV
  have hlen := trodAll_len hA
  obtain ⟨x, hx, hsm⟩ := args_rep hM (fun t => tt_ok ttL_ok t) rdL_ok szL_ok 0 hsg (fun j t v h1 h2 => hval j t v (by simpa using h1) (by simpa using h2)) hA
  have hcall := hok.calls (hF x (reps_bd hx) (hsm (hsz hlen))) hgl hx
  have e1 : args.toList.toArray = args := by simp
  rw [e1] at hcall
  refine hcall.mono fun en W' => ?_
  rintro ⟨rfl, hb⟩
  refine ⟨_, rfl, ?_⟩
  obtain ⟨h1, h2, h3⟩ := hf ds hlen
  have e2 : ds ++ ([] : List (DataW H)) = ds := by simp
  refine ⟨ds, [], _, [], p, [], hW', ?_, ?_, ?_, hb.frame _, fun h => by cases h⟩
  · rw [e2, h1, hr]
    exact trodAll_cons_mk (shut_bool Tryd.underlying4 _) trodAll_mk0
  · rw [e2, h2]
    refine args_stay laidOut hb (fun t ht => ?_) (fun x hx => hlt x (by simp [hx])) hA
    have := List.all_eq_true.1 hread t ht
    simp only [Bool.and_eq_true] at this
    exact ⟨this.1, by simpa [Nat.blt_eq] using this.2⟩
  · rw [e2, h3, hv]; exact rfl
end Go.Proofs.YtjpcghlpkinahaaDoor
