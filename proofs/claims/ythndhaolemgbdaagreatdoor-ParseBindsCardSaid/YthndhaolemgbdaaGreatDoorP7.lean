/- Texts of the proof, one behind the other: AxFr, Ub, AxFs, FrG. -/
import Derived.Test.YthndhaolemgbdaaGreatDoorP6
import Derived.ChangeArms
import Derived.WideShapes
import Derived.Carry
import Derived.ChangeShapes
import Derived.Lib.LaidTab
import Derived.SizedLaws
import Derived.Test.YthndhaolemgbdaaGreatDoorRows
import Derived.ProofKit
import Derived.ChangeMaps5
import Derived.ChangeAnyMap
import Derived.Test.YthndhaolemgbdaaGreatDoorCards
import Derived.Test.YthndhaolemgbdaaGreatDoorTie
import Derived.OpenShut
import Derived.Deep.DeepHandedRow
import Derived.Shelf.Vars
/- Ax, part Fr: THE FRAME: arguments that read as data are arguments of the machine; what is left behind a call. -/
namespace Go.Ax
open Go.RowKit Go.ChangeShapes
/-! ## shapes -/
def shp : D → D → Bool
  | .int k _, .int k' _ => decide (k = k')
  | .bool _, .bool _ => true
  | .str _, .str _ => true
  | .sl c _ _, .sl c' _ _ => decide (c = c')
  | _, _ => false
def shpL : List D → List D → Bool
  | [], [] => true
  | a :: l, b :: m => shp a b && shpL l m
  | _, _ => false
theorem shp_tr {a b c : D} (h : shp a b = true) (k : shp a c = true) : shp b c = true := by
  cases a <;> cases b <;> simp [shp] at h <;> cases c <;> simp [shp] at k <;> subst_vars <;> simp [shp]
theorem shpL_tr : ∀ {a b c : List D}, shpL a b = true → shpL a c = true → shpL b c = true
  | [], [], [], _, _ => rfl
  | x :: a, y :: b, z :: c, h, k => by
    simp only [shpL, Bool.and_eq_true] at h k ⊢
    exact ⟨shp_tr h.1 k.1, shpL_tr h.2 k.2⟩
  | [], _ :: _, _, h, _ => by simp [shpL] at h
  | _ :: _, [], _, h, _ => by simp [shpL] at h
  | [], [], _ :: _, _, k => by simp [shpL] at k
  | _ :: _, _ :: _, [], _, k => by simp [shpL] at k
theorem shpL_append : ∀ {a b c d : List D}, shpL a b = true → shpL c d = true → shpL (a ++ c) (b ++ d) = true
  | [], [], _, _, _, k => k
  | _ :: a, _ :: b, _, _, h, k => by
    simp only [shpL, Bool.and_eq_true, List.cons_append] at h ⊢
    exact ⟨h.1, shpL_append h.2 k⟩
  | [], _ :: _, _, _, h, _ => by simp [shpL] at h
  | _ :: _, [], _, _, h, _ => by simp [shpL] at h
theorem shp_int {k : IntKind} {n : Int} {d : D} (h : shp (.int k n) d = true) : ∃ m, d = .int k m := by
  cases d <;> simp [shp] at h
  subst h
  exact ⟨_, rfl⟩
theorem shp_bool {b : Bool} {d : D} (h : shp (.bool b) d = true) : ∃ m, d = .bool m := by
  cases d <;> simp [shp] at h
  exact ⟨_, rfl⟩
theorem shp_str {s : Str} {d : D} (h : shp (.str s) d = true) : ∃ m, d = .str m := by
  cases d <;> simp [shp] at h
  exact ⟨_, rfl⟩
theorem shp_sl {c : Ck} {xs : List (El c)} {t : Tk} {d : D} (h : shp (.sl c xs t) d = true) : ∃ ys u, d = .sl c ys u := by
  cases d <;> simp [shp] at h
  subst h
  exact ⟨_, _, rfl⟩
theorem shpL_cons {a : D} {l ds : List D} (h : shpL (a :: l) ds = true) : ∃ b m, ds = b :: m ∧ shp a b = true ∧ shpL l m = true := by
  cases ds with
  | nil => simp [shpL] at h
  | cons b m =>
    simp only [shpL, Bool.and_eq_true] at h
    exact ⟨b, m, rfl, h.1, h.2⟩
theorem shpL_nil {ds : List D} (h : shpL [] ds = true) : ds = [] := by
  cases ds with
  | nil => rfl
  | cons b m => simp [shpL] at h
theorem dec_shape {c : Ck} {z ds : List D} (h : (dec c z).isSome = true) (hs : shpL z ds = true) : ∃ y, dec c ds = some y := by
  obtain ⟨y0, h⟩ := Option.isSome_iff_exists.1 h
  unfold dec at h
  split at h
  all_goals first
    | (cases h; done)
    | skip
  all_goals
    clear h
    repeat (
      obtain ⟨b, m, e, h1, hs'⟩ := shpL_cons hs
      clear hs
      have hs := hs'
      clear hs'
      subst e
      first
        | (obtain ⟨_, e⟩ := shp_int h1; subst e)
        | (obtain ⟨_, e⟩ := shp_bool h1; subst e)
        | (obtain ⟨_, e⟩ := shp_str h1; subst e)
        | (obtain ⟨_, _, e⟩ := shp_sl h1; subst e))
    have e := shpL_nil hs
    subst e
    exact ⟨_, rfl⟩
/-! ## what is read has texts of no more than so many bytes -/
def R47 : Nat := 140737488351232
/-- the bounds: R.1 of texts, R.2 of lists -/
def SmVal (R : Nat × Nat) (v : Val) : Prop := v.s.length ≤ R.1
inductive SmExpr (R : Nat × Nat) : Xpr → Prop
  | mk (k : Int) (v : Val) (nm : Str) (l : List Xpr) : SmVal R v → nm.length ≤ R.1 → l.length ≤ R.2 → (∀ e, e ∈ l → SmExpr R e) → SmExpr R (.mk k v nm l)
structure SmStm (R : Nat × Nat) (s : Stm) : Prop where
  name : s.name.length ≤ R.1
  on : s.on.length ≤ R.1
  cols : s.cols.length ≤ R.2 ∧ ∀ c, c ∈ s.cols → c.name.length ≤ R.1 ∧ c.ref.length ≤ R.1
  names : s.names.length ≤ R.2 ∧ ∀ x, x ∈ s.names → x.length ≤ R.1
  l : s.l.length ≤ R.2 ∧ ∀ x, x ∈ s.l → SmExpr R x
  rows : s.rows.length ≤ R.2 ∧ ∀ r, r ∈ s.rows → r.length ≤ R.2 ∧ ∀ x, x ∈ r → SmExpr R x
  sets : s.sets.length ≤ R.2 ∧ ∀ x, x ∈ s.sets → x.name.length ≤ R.1 ∧ SmExpr R x.e
  whr : SmExpr R s.whr
  order : s.order.length ≤ R.2 ∧ ∀ x, x ∈ s.order → x.length ≤ R.1
  desc : s.desc.length ≤ R.2
def SmIdx (R : Nat × Nat) (x : Idx) : Prop := x.name.length ≤ R.1 ∧ x.cols.length ≤ R.2 ∧ ∀ s, s ∈ x.cols → s.length ≤ R.1
structure SmTbl (R : Nat × Nat) (t : Tbl) : Prop where
  name : t.name.length ≤ R.1
  cols : t.cols.length ≤ R.2 ∧ ∀ c, c ∈ t.cols → c.name.length ≤ R.1 ∧ c.ref.length ≤ R.1
  key : t.key.length ≤ R.2 ∧ ∀ x, x ∈ t.key → x.length ≤ R.1
  checks : t.checks.length ≤ R.2 ∧ ∀ x, x ∈ t.checks → SmExpr R x
  idx : t.idx.length ≤ R.2 ∧ ∀ x, x ∈ t.idx → SmIdx R x
def SmK (R : Nat × Nat) : (c : Ck) → El c → Prop
  | .str, s => s.length ≤ R.1
  | .val, v => SmVal R v
  | .tok, t => t.s.length ≤ R.1
  | .col, c => c.name.length ≤ R.1 ∧ c.ref.length ≤ R.1
  | .expr, e => SmExpr R e
  | .vals, l => l.length ≤ R.2 ∧ ∀ x, x ∈ l → SmVal R x
  | .exprs, l => l.length ≤ R.2 ∧ ∀ x, x ∈ l → SmExpr R x
  | .strs, l => l.length ≤ R.2 ∧ ∀ x, x ∈ l → x.length ≤ R.1
  | .set, s => s.name.length ≤ R.1 ∧ SmExpr R s.e
  | .stmt, s => SmStm R s
  | .idx, x => SmIdx R x
  | .tbl, t => SmTbl R t
  | _, _ => True
def SmD (R : Nat × Nat) : D → Prop
  | .str l => l.length ≤ R.1
  | .sl c xs _ => xs.length ≤ R.2 ∧ ∀ x, x ∈ xs → SmK R c x
  | _ => True
def SmS (R : Nat × Nat) : (s : Sg) → den s → Prop
  | .str, s => s.length ≤ R.1
  | .sl c _, xs => xs.length ≤ R.2 ∧ ∀ x, x ∈ xs → SmK R c x
  | .sv c, x => SmK R c x
  | _, _ => True
def SmL (R : Nat × Nat) : (l : List Sg) → HV l → Prop
  | [], _ => True
  | [a], x => SmS R a x
  | a :: b :: l, (x, y) => SmS R a x ∧ SmL R (b :: l) y
theorem smK_of {R : Nat × Nat} {c : Ck} {ds : List D} {y : El c} (h : dec c ds = some y) (hd : ∀ d, d ∈ ds → SmD R d) : SmK R c y := by
  unfold dec at h
  split at h <;> simp only [Option.some.injEq, reduceCtorEq] at h <;> subst h <;> simp only [List.mem_cons, List.not_mem_nil, or_false, forall_eq_or_imp, forall_eq, SmD] at hd <;> simp only [SmK, SmVal] <;> first
    | trivial
    | exact hd
    | exact hd.2.2
    | exact hd.2.2.1
    | exact ⟨hd.1, hd.2.2.2.2⟩
    | exact .mk _ _ _ _ hd.2.2.2.1 hd.2.2.2.2.1 hd.2.2.2.2.2.1 hd.2.2.2.2.2.2
    | exact ⟨hd.1, .mk _ _ _ _ hd.2.2.2.2.1 hd.2.2.2.2.2.1 hd.2.2.2.2.2.2.1 hd.2.2.2.2.2.2.2⟩
    | exact ⟨hd.1, hd.2.1, hd.2.2.1, hd.2.2.2.1, hd.2.2.2.2⟩
    | (obtain ⟨_, h1, h2, h3, h4, h5, h6, h7, _, _, _, _, w1, w2, w3, h8, h9, _⟩ := hd
       exact ⟨h1, h2, h3, h4, h5, h6, h7, .mk _ _ _ _ w1 w2 w3.1 w3.2, h8, h9.1⟩)
theorem weightsAll_in {H : Type} {P : Program} {e : TypeId} : ∀ {l : List (DataW H)} {d : DataW H}, d ∈ l → ∀ n ∈ d.weights P e, n ∈ DataW.weightsAll P e l
  | [], _, h, _, _ => by cases h
  | x :: l, d, h, n, hn => by
    simp only [DataW.weightsAll, List.mem_append]
    rcases List.mem_cons.1 h with rfl | h
    · exact .inl hn
    · exact .inr (weightsAll_in h n hn)
/-- a measure on what is read: what it says of a whole it says of its parts; texts and lists are within R -/
structure Msr {H : Type} (P : Program) (R : Nat × Nat) (M : TypeId → DataW H → Prop) : Prop where
  str : ∀ (t : TypeId) (s : List UInt8), M t (.lit (.string s)) → s.length ≤ R.1
  sl : ∀ (t e : TypeId) (l r : List (DataW H)), P.underlying t = some (.slice e) → 1 ≤ P.bytesOf e → M t (.slice l r) → l.length ≤ 9223372036854775807 → l.length ≤ R.2 ∧ ∀ d, d ∈ l → M e d
  agg : ∀ (t : TypeId) (fds : Array Field) (l : List (DataW H)) (i : Nat) (fd : Field) (d : DataW H), P.underlying t = some (.struct fds) → M t (.agg l) → fds[i]? = some fd → l[i]? = some d → M fd.type d
theorem msr_weights {H : Type} (P : Program) : Msr (H := H) P (R47, R47) fun t d => ∀ n, n ∈ d.weights P t → n ≤ R47 where
  str := fun t s h => h _ (by simp [DataW.weights])
  sl := fun t e l r hu hz h _ => ⟨by
    have h1 := h ((l.length + r.length) * P.bytesOf e) (by simp only [DataW.weights, hu, List.mem_cons, true_or])
    have h2 : (l.length + r.length) * 1 ≤ (l.length + r.length) * P.bytesOf e := Nat.mul_le_mul_left _ hz
    omega, fun d hd n hn => h n (by
    simp only [DataW.weights, hu, List.mem_cons, List.mem_append]
    exact .inr (.inl (weightsAll_in hd n hn)))⟩
  agg := fun t fds l i fd d hu h hf hd n hn => h n (by
    simp only [DataW.weights, hu]
    exact DataW.weights_mem_each (j := i) (t := fd.type) (d := d) (by simp [hf]) hd n hn)
/-! ## types that are read -/
def zc (t : Ty) : List D := match t.zero with
  | some z => cells z
  | none => []
def contig (tt : Nat → Ty) (rd : List Nat) : Nat → List (Nat × Nat) → List D → Bool
  | _, [], z => z.isEmpty
  | o, (o', u) :: fs, z => Nat.beq o' o && rd.contains u && Nat.ble (zc (tt u)).length z.length && shpL (zc (tt u)) (z.take (zc (tt u)).length) && contig tt rd (o + (zc (tt u)).length) fs (z.drop (zc (tt u)).length)
def rdLoc (el : Ck → TypeId) (tt : Nat → Ty) (rd : List Nat) (t : Nat) : Bool := match tt t with
  | .int _ | .bool | .str => true
  | .sl c => rd.contains (el c) && (dec c (zc (tt (el c)))).isSome
  | .st _ fs z => contig tt rd 0 fs z
  | _ => false
def rdB (el : Ck → TypeId) (tt : Nat → Ty) (rd : List Nat) : Bool := rd.all fun t => rdLoc el tt rd t && Nat.beq (zc (tt t)).length (tt t).n
/-- no element of a list that is read is of no bytes -/
def szB (P : Program) (el : Ck → TypeId) (tt : Nat → Ty) (rd : List Nat) : Bool := rd.all fun t => match tt t with
  | .sl c => Nat.ble 1 (P.bytesOf (el c))
  | _ => true
theorem choose_list {α : Type} {p : Nat → α → Prop} : ∀ (n : Nat), (∀ i, i < n → ∃ y, p i y) → ∃ ys : List α, ys.length = n ∧ ∀ i y, ys[i]? = some y → p i y
  | 0, _ => ⟨[], rfl, by simp⟩
  | n + 1, h => by
    obtain ⟨ys, h1, h2⟩ := choose_list n (fun i hi => h i (by omega))
    obtain ⟨y, hy⟩ := h n (by omega)
    refine ⟨ys ++ [y], by simp [h1], fun i z hz => ?_⟩
    rcases Nat.lt_trichotomy i n with hi | rfl | hi
    · rw [List.getElem?_append_left (by omega)] at hz
      exact h2 i z hz
    · rw [List.getElem?_append_right (by omega), h1] at hz
      simp at hz
      subst hz
      exact hy
    · rw [List.getElem?_eq_none (by simp; omega)] at hz
      cases hz
section
variable {H : Type} {enc' : TypeId × Value → H} {P : Program} {el : Ck → TypeId} {tt : Nat → Ty} {rd : List Nat} {w : World} {sp : Nat → Bool} {held : Bool}
theorem cellsOf_sz {t : TypeId} {n : Nat} (h : Sx.tySz P t = some n) : P.cellsOf t = n := by
  unfold Sx.tySz at h
  simp [Program.cellsOf, h]
theorem cells?_get {a : Addr} {n : Nat} {vs : List Value} (h : w.cells? 0 a n = some vs) : vs.length = n ∧ ∀ j u, vs[j]? = some u → w.cell? (a.add j) = some u := by
  unfold World.cells? at h
  simp only [Nat.zero_le, if_true] at h
  refine ⟨by simpa using Lib.mapM_length h, fun j u hj => ?_⟩
  have hlt : j < n := by
    have := Lib.mapM_length h
    have h2 := (List.getElem?_eq_some_iff.1 hj).1
    simp at this
    omega
  obtain ⟨u', hu, hf⟩ := Lib.mapM_at h j j (by simp [hlt])
  rw [hj] at hu
  simp only [Option.some.injEq] at hu
  subst hu
  exact hf
theorem cell?_spot {a : Addr} {u : Value} (h : w.cell? a = some u) : a.spot = none := by
  unfold World.cell? at h
  split at h
  · split at h
    · cases h
    · rename_i hs
      cases hq : a.spot with
      | none => rfl
      | some q => rw [hq] at hs; simp at hs
  · cases h
/-- data that are read are cells of the machine -/
theorem trod_ds {R : Nat × Nat} {M : TypeId → DataW H → Prop} (hM : Msr P R M) (hT : ∀ t, tyOk P el tt t = true) (hrd : rdB el tt rd = true) (hsb : szB P el tt rd = true) : ∀ (fuel : Nat) (t : TypeId) (cs : List Value) (x : DataW H × List MemPlace), rd.contains t = true → DataW.trod enc' P w 0 sp held fuel t cs = some x → ∃ ds, shpL (zc (tt t)) ds = true ∧ Reps (v0 el noFp w) ds cs ∧ (M t x.1 → ∀ d, d ∈ ds → SmD R d)
  | 0, t, cs, x, _, h => by simp [DataW.trod] at h
  | fuel + 1, t, cs, x, hc, h => by
    have hloc := List.all_eq_true.1 hrd t (by simpa using hc)
    simp only [Bool.and_eq_true] at hloc
    obtain ⟨hloc, hzl⟩ := hloc
    have hzl := Nat.eq_of_beq_eq_true hzl
    have hszB := List.all_eq_true.1 hsb t (by simpa using hc)
    unfold rdLoc at hloc
    split at hloc
    · rename_i k hty
      have hu := Sx.tyI_spec (tyOk_int (hT t) hty)
      obtain ⟨n, rfl, _, hw⟩ := DataW.trod_int hu h
      refine ⟨[.int k n], by (rw [hty]; show (decide (k = k) && true) = true; simp), ?_, fun _ d hd => by simp only [List.mem_singleton] at hd; subst hd; trivial⟩
      simp only [Reps, Rep]
      exact ⟨_, _, rfl, ⟨rfl, hw⟩, rfl⟩
    · rename_i hty
      have hu := Sx.tyB_spec (tyOk_bool (hT t) hty)
      obtain ⟨b, rfl, _⟩ := DataW.trod_bool hu h
      refine ⟨[.bool b], by rw [hty]; rfl, ?_, fun _ d hd => by simp only [List.mem_singleton] at hd; subst hd; trivial⟩
      simp only [Reps, Rep]
      exact ⟨_, _, rfl, rfl, rfl⟩
    · rename_i hty
      have hu := Sx.tyS_spec (tyOk_str (hT t) hty)
      obtain ⟨s, rfl, rfl, hs⟩ := DataW.trod_string hu h
      refine ⟨[.str s.data.toList], by rw [hty]; rfl, ?_, fun hwt d hd => by
        simp only [List.mem_singleton] at hd
        subst hd
        exact hM.str _ _ hwt⟩
      simp only [Reps, Rep]
      exact ⟨_, _, rfl, ⟨(by rw [Array.toArray_toList]), (by rw [Array.length_toList]; exact hs)⟩, rfl⟩
    · rename_i c hty
      simp only [Bool.and_eq_true] at hloc
      obtain ⟨hel, hdec⟩ := hloc
      have hbz : 1 ≤ P.bytesOf (el c) := by
        rw [hty] at hszB
        exact Nat.le_of_ble_eq_true hszB
      obtain ⟨by_, hE, _, _⟩ := tyOk_sl (hT t) hty
      have hu := hE.und
      obtain ⟨_, i0, z, hi0, hz, hsz, _⟩ := hE
      have hco : P.cellsOf (el c) = csz c := cellsOf_sz (by simp [Sx.tySz, hi0, hsz])
      rcases DataW.trod_slice hu h with ⟨rfl, _⟩ | ⟨a, len, cap, elems, rest, n, hf, rfl, rfl, _, hle, hmax, hlen, hel2, _⟩
      · refine ⟨[.sl c [] .no], by (rw [hty]; show (decide (c = c) && true) = true; simp), ?_, fun _ d hd => by
          simp only [List.mem_singleton] at hd
          subst hd
          exact ⟨Nat.zero_le _, fun x hx => by cases hx⟩⟩
        simp only [Reps, Rep]
        exact ⟨_, _, rfl, ⟨fun _ _ => .nil _ _ _ _, trivial⟩, rfl⟩
      · have hf : fuel = n := by omega
        subst hf
        have each : ∀ i, i < len → ∃ y : El c, (∃ vs : List Value, w.cells? 0 (a.add (i * csz c)) (csz c) = some vs ∧ ElR (v0 el noFp w) c y vs) ∧ (M t (DataW.slice (elems.map (·.1)) (rest.map (·.1))) → SmK R c y) := fun i hi => by
          have h1 := hel2 i hi
          have hsome : ∃ e, elems[i]? = some e := ⟨_, List.getElem?_eq_getElem (by omega)⟩
          obtain ⟨e, he⟩ := hsome
          rw [he] at h1
          obtain ⟨vs, hv, ht⟩ := Option.bind_eq_some_iff.1 h1
          rw [hco] at hv
          obtain ⟨ds, hs, hr, hsm⟩ := trod_ds hM hT hrd hsb fuel (el c) vs e hel ht
          obtain ⟨y, hy⟩ := dec_shape hdec hs
          exact ⟨y, ⟨vs, hv, reps_elR hy hr⟩, fun hwt => smK_of hy (hsm ((hM.sl _ _ _ _ hu hbz hwt (by have : maxLen = 9223372036854775807 := rfl; simp only [List.length_map]; omega)).2 e.1 (List.mem_map.2 ⟨e, List.mem_of_getElem? he, rfl⟩)))⟩
        obtain ⟨ys, hyl, hys'⟩ := choose_list len each
        have hys := fun i y hy => (hys' i y hy).1
        refine ⟨[.sl c ys .no], by (rw [hty]; show (decide (c = c) && true) = true; simp), ?_, fun hwt d hd => by
          simp only [List.mem_singleton] at hd
          subst hd
          refine ⟨?_, fun y hy => ?_⟩
          · have := (hM.sl _ _ _ _ hu hbz hwt (by have : maxLen = 9223372036854775807 := rfl; simp only [List.length_map]; omega)).1
            simp only [List.length_map] at this
            omega
          · obtain ⟨i, hi, rfl⟩ := List.getElem_of_mem hy
            exact (hys' i _ (List.getElem?_eq_getElem hi)).2 hwt⟩
        simp only [Reps, Rep]
        refine ⟨_, _, rfl, ⟨slice_mk hyl.symm ?_, trivial⟩, rfl⟩
        by_cases h0 : ys = []
        · exact .inl h0
        · right
          have hsn : a.spot = none := by
            have hlt : 0 < ys.length := List.length_pos_iff.2 h0
            obtain ⟨vs, hv, hE⟩ := hys 0 _ (List.getElem?_eq_getElem hlt)
            obtain ⟨h1, h2⟩ := cells?_get hv
            have hp := csz_pos c
            have := h2 0 _ (List.getElem?_eq_getElem (by omega))
            simp only [Nat.zero_mul, Addr.add, if_true] at this
            exact cell?_spot this
          obtain ⟨b, o, s⟩ := a
          simp only at hsn
          subst hsn
          refine ⟨b, o, rfl, ⟨by omega, hmax⟩, fun i y hy w' hw j d hd => ?_⟩
          obtain ⟨vs, hv, hE⟩ := hys i y hy
          obtain ⟨_, h2⟩ := cells?_get hv
          obtain ⟨u, hu', hf⟩ := hE.2 j d hd
          have hcell := h2 j u hu'
          rw [Sx.add_mk, Sx.add_mk] at hcell
          exact ⟨u, hw.cell b _ u hcell (fun h => h), hf w' hw⟩
    · rename_i cc fs z hty
      have hbase := tyOk_base (hT t) (by rw [hty]; simp)
      have hsz : P.cellsOf t = z.length := by
        have := cellsOf_sz hbase.2.2
        rw [this, hty]
        rfl
      have hok := hT t
      unfold tyOk at hok
      rw [hty] at hok
      simp only [Bool.and_eq_true] at hok
      have hfl := hok.2
      split at hfl
      · rename_i fds hu
        simp only [Bool.and_eq_true] at hfl
        have hfl := hfl.1
        obtain ⟨xs, n, hf, rfl, hcl, hxl, hfx⟩ := DataW.trod_struct hu h
        have hf : fuel = n := by omega
        subst hf
        have key : ∀ (l : List (Nat × Nat)) (i o : Nat) (z' : List D), fs.drop i = l → contig tt rd o l z' = true → o + z'.length = cs.length → ∃ ds, shpL z' ds = true ∧ Reps (v0 el noFp w) ds (cs.drop o) ∧ (M t (DataW.agg (xs.map (·.1))) → ∀ d, d ∈ ds → SmD R d) := by
          intro l
          induction l with
          | nil =>
            intro i o z' _ hct ho
            simp only [contig, List.isEmpty_iff] at hct
            subst hct
            refine ⟨[], rfl, ?_, fun _ d hd => by cases hd⟩
            rw [List.drop_eq_nil_of_le (by simp at ho; omega)]
            simp [Reps]
          | cons q l ih =>
            intro i o z' hd hct ho
            obtain ⟨o', u⟩ := q
            simp only [contig, Bool.and_eq_true] at hct
            obtain ⟨⟨⟨⟨ho', hcu⟩, hle⟩, hsh⟩, hct⟩ := hct
            have ho' := Nat.eq_of_beq_eq_true ho'
            subst ho'
            have hle := Nat.le_of_ble_eq_true hle
            have hget : fs[i]? = some (o', u) := by
              have := congrArg (·[0]?) hd
              simpa [List.getElem?_drop] using this
            obtain ⟨fd, g1, g2, g3, _⟩ := fldsB_get hfl hget
            have g1' : fds[i]? = some fd := by simpa using g1
            have h1 := hfx i fd g1'
            rw [g2, g3] at h1
            have hxi : ∃ e, xs[i]? = some e := ⟨_, List.getElem?_eq_getElem (by
              have := (Array.getElem?_eq_some_iff.1 g1').1
              omega)⟩
            obtain ⟨e, he⟩ := hxi
            rw [he] at h1
            have hlu := List.all_eq_true.1 hrd u (by simpa using hcu)
            simp only [Bool.and_eq_true] at hlu
            have hnu := Nat.eq_of_beq_eq_true hlu.2
            have hneu : tt u ≠ .no := by
              intro e
              have := hlu.1
              unfold rdLoc at this
              rw [e] at this
              cases this
            have hcou : P.cellsOf u = (zc (tt u)).length := by rw [cellsOf_sz (tyOk_base (hT u) hneu).2.2, hnu]
            rw [hcou] at h1
            obtain ⟨ds1, s1, r1, m1⟩ := trod_ds hM hT hrd hsb fuel u _ e hcu h1
            obtain ⟨ds2, s2, r2, m2⟩ := ih (i + 1) (o' + (zc (tt u)).length) _ (by rw [← List.drop_drop, hd]; rfl) hct (by simp; omega)
            refine ⟨ds1 ++ ds2, ?_, ?_, fun hwt d hd => by
              rcases List.mem_append.1 hd with hd | hd
              · refine m1 ?_ d hd
                rw [← g2]
                exact hM.agg _ _ _ i fd e.1 hu hwt g1' (by rw [List.getElem?_map, he]; rfl)
              · exact m2 hwt d hd⟩
            · rw [← List.take_append_drop (zc (tt u)).length z']
              exact shpL_append (shpL_tr hsh s1) s2
            · have := r1.append r2
              rwa [← List.drop_drop, List.take_append_drop] at this
        obtain ⟨ds, h1, h2, h3⟩ := key fs 0 0 z rfl hloc (by rw [hcl, hsz]; omega)
        exact ⟨ds, by simpa [hty, zc, Ty.zero, cells] using h1, by simpa using h2, h3⟩
      · cases hfl
    · cases hloc
/-! ## arguments -/
def sgOk (tt : Nat → Ty) (rd : List Nat) (t : Nat) (s : Sg) : Bool := rd.contains t && match tt t, s with
  | .int k, .int k' => decide (k = k')
  | .bool, .bool => true
  | .str, .str => true
  | .sl c, .sl c' false => decide (c = c')
  | .st (some c) _ _, .sv c' => decide (c = c') && agg? c && (dec c (zc (tt t))).isSome
  | _, _ => false
theorem arg_rep {R : Nat × Nat} {M : TypeId → DataW H → Prop} (hM : Msr P R M) (hT : ∀ t, tyOk P el tt t = true) (hrd : rdB el tt rd = true) (hsb : szB P el tt rd = true) {t : TypeId} {s : Sg} (hs : sgOk tt rd t s = true) {r : Reach} {b0 : Nat} {v : Value} {d : DataW H} {ps : List MemPlace} (hval : Value.okWide P w r b0 t v) (h : DataW.Trod enc' P w 0 sp held t v d ps) (i : Nat) : ∃ y : den s, Rep (v0 el noFp w) (enc1 i s y) v ∧ (M t d → SmS R s y) := by
  obtain ⟨fuel, h⟩ := h
  simp only [sgOk, Bool.and_eq_true] at hs
  obtain ⟨hc, hs⟩ := hs
  obtain ⟨ds, hsh, hr, hsm⟩ := trod_ds hM hT hrd hsb fuel t _ _ hc h
  have hsm : M t d → ∀ d, d ∈ ds → SmD R d := hsm
  split at hs
  · rename_i k k' hty
    simp only [decide_eq_true_eq] at hs
    subst hs
    obtain ⟨n, rfl⟩ := WideShapes.okWide_int (Sx.tyI_spec (tyOk_int (hT t) hty)) hval
    simp only [hty, zc, Ty.zero, cells] at hsh
    obtain ⟨b, m, rfl, h1, h2⟩ := shpL_cons hsh
    obtain rfl := shpL_nil h2
    obtain ⟨n', rfl⟩ := shp_int h1
    simp only [Value.cells, Reps] at hr
    obtain ⟨u, us, e, hr, _⟩ := hr
    simp only [List.cons.injEq] at e
    obtain ⟨rfl, _⟩ := e
    exact ⟨n', hr, fun _ => trivial⟩
  · rename_i hty
    obtain ⟨n, rfl⟩ := WideShapes.okWide_bool (Sx.tyB_spec (tyOk_bool (hT t) hty)) hval
    exact ⟨n, by simp only [enc1, Rep], fun _ => trivial⟩
  · rename_i hty
    obtain ⟨n, rfl⟩ := WideShapes.okWide_string (Sx.tyS_spec (tyOk_str (hT t) hty)) hval
    simp only [hty, zc, Ty.zero, cells] at hsh
    obtain ⟨b, m, rfl, h1, h2⟩ := shpL_cons hsh
    obtain rfl := shpL_nil h2
    obtain ⟨n', rfl⟩ := shp_str h1
    simp only [Value.cells, Reps] at hr
    obtain ⟨u, us, e, hr, _⟩ := hr
    simp only [List.cons.injEq] at e
    obtain ⟨rfl, _⟩ := e
    exact ⟨n', hr, fun hwt => hsm hwt (.str n') (by simp)⟩
  · rename_i c c' hty
    simp only [decide_eq_true_eq] at hs
    subst hs
    obtain ⟨by_, hE, _, _⟩ := tyOk_sl (hT t) hty
    have hv : v.cells.toList = [v] := by
      have hu := hE.und
      simp only [Value.okWide, hu, Cell.okWide] at hval
      cases v <;> first | rfl | (simp [Cell.ok, hu] at hval; done) | (exfalso; simp_all [Cell.ok])
    rw [hv] at hr
    simp only [hty, zc, Ty.zero, cells] at hsh
    obtain ⟨b, m, rfl, h1, h2⟩ := shpL_cons hsh
    obtain rfl := shpL_nil h2
    obtain ⟨ys, u, rfl⟩ := shp_sl h1
    simp only [Reps] at hr
    obtain ⟨u', us, e, hr, _⟩ := hr
    simp only [List.cons.injEq] at e
    obtain ⟨rfl, _⟩ := e
    refine ⟨ys, ?_, fun hwt => hsm hwt (.sl c ys u) (by simp)⟩
    simp only [enc1, Rep] at hr ⊢
    exact ⟨hr.1, trivial⟩
  · rename_i c fs z c' hty
    simp only [Bool.and_eq_true, decide_eq_true_eq] at hs
    obtain ⟨⟨rfl, ha⟩, hdec⟩ := hs
    obtain ⟨y, hy⟩ := dec_shape hdec hsh
    have hE := reps_elR hy hr
    have hv : ∃ cs, v = .agg cs := by
      have hok := hT t
      unfold tyOk at hok
      rw [hty] at hok
      simp only [Bool.and_eq_true] at hok
      have hfl := hok.2
      split at hfl
      · rename_i fds hu
        simp only [Value.okWide, hu] at hval
        obtain ⟨cs, h1, _⟩ := hval
        exact ⟨cs, h1⟩
      · cases hfl
    obtain ⟨cs, rfl⟩ := hv
    refine ⟨y, ?_, fun hwt => smK_of hy (hsm hwt)⟩
    simp only [enc1, Rep]
    exact ⟨ha, cs.toList, by simp, by simpa [Value.cells] using hE.1, by simpa [Value.cells] using hE.2⟩
  · cases hs
def sgsOk (tt : Nat → Ty) (rd : List Nat) : List TypeId → List Sg → Bool
  | [], [] => true
  | t :: ts, s :: ss => sgOk tt rd t s && sgsOk tt rd ts ss
  | _, _ => false
theorem args_rep {R : Nat × Nat} {M : TypeId → DataW H → Prop} (hM : Msr P R M) (hT : ∀ t, tyOk P el tt t = true) (hrd : rdB el tt rd = true) (hsb : szB P el tt rd = true) {r : Reach} {b0 : Nat} : ∀ {ts : List TypeId} {sa : List Sg} {vs : List Value} {ds : List (DataW H)} {ps : List MemPlace} (i : Nat), sgsOk tt rd ts sa = true → (∀ (j : Nat) t v, ts[j]? = some t → vs[j]? = some v → Value.okWide P w r b0 t v) → DataW.TrodAll enc' P w 0 sp held ts vs ds ps → ∃ x : HV sa, Reps (v0 el noFp w) (encL i sa x) vs ∧ ((∀ (i : Nat) (t : TypeId) (d : DataW H), ts[i]? = some t → ds[i]? = some d → M t d) → SmL R sa x)
  | [], [], vs, ds, ps, i, _, _, h => by
    cases vs with
    | nil => exact ⟨(), by simp [encL, Reps], fun _ => trivial⟩
    | cons v vs => cases ds <;> simp [DataW.TrodAll] at h
  | t :: ts, [], _, _, _, _, hs, _, _ => by simp [sgsOk] at hs
  | [], s :: ss, _, _, _, _, hs, _, _ => by simp [sgsOk] at hs
  | t :: ts, s :: ss, vs, ds, ps, i, hs, hval, h => by
    simp only [sgsOk, Bool.and_eq_true] at hs
    obtain ⟨v, vs', d, ds', p, q, rfl, rfl, rfl, hd, hrest⟩ := trodAll_cons h
    obtain ⟨y, hy, hsy⟩ := arg_rep hM hT hrd hsb hs.1 (hval 0 t v rfl rfl) hd i
    obtain ⟨z, hz, hsz⟩ := args_rep hM hT hrd hsb (i + 1) hs.2 (fun j t' v' h1 h2 => hval (j + 1) t' v' (by simpa using h1) (by simpa using h2)) hrest
    cases ss with
    | nil =>
      refine ⟨y, ?_, fun hwt => hsy (hwt 0 t d rfl rfl)⟩
      simp only [encL, Reps] at hz ⊢
      exact ⟨v, vs', rfl, hy, hz⟩
    | cons s' ss =>
      refine ⟨(y, z), ?_, fun hwt => ⟨hsy (hwt 0 t d rfl rfl), hsz fun j t' d' h1 h2 => hwt (j + 1) t' d' (by simpa using h1) (by simpa using h2)⟩⟩
      simp only [encL, Reps]
      exact ⟨v, vs', rfl, hy, hz⟩
/-- the arguments read behind the call as they did -/
theorem args_stay (hl : laidOutB P = true) {W W' : World} (hb : Below W.heap.size W W') : ∀ {ts : List TypeId} {vs : List Value} {ds : List (DataW H)} {ps : List MemPlace}, (∀ t, t ∈ ts → P.readableRec t = true ∧ t < P.types.size) → (∀ x ∈ ps, x.block < W.heap.size) → DataW.TrodAll enc' P W 0 (fun _ => true) true ts vs ds ps → DataW.TrodAll enc' P W' 0 (fun b => decide (b < W.heap.size)) true ts vs ds ps
  | [], vs, ds, ps, _, _, h => by
    cases vs <;> cases ds <;> simp [DataW.TrodAll] at h ⊢
    exact h
  | t :: ts, vs, ds, ps, ht, hlt, h => by
    obtain ⟨v, vs', d, ds', p, q, rfl, rfl, rfl, hd, hrest⟩ := trodAll_cons h
    obtain ⟨h1, h2⟩ := ht t (by simp)
    exact ⟨p, q, Below.trod hl h1 h2 hd hb (fun x hx => hlt x (by simp [hx])), args_stay hl hb (fun t' h' => ht t' (by simp [h'])) (fun x hx => hlt x (by simp [hx])) hrest, rfl⟩
end
end Go.Ax

/- How many values and letters are read (the rows' own count): a measure on what is read. -/
namespace Go.Proofs.YthndhaolemgbdaaGreatDoor
open Go.Ax
end Go.Proofs.YthndhaolemgbdaaGreatDoor

/- Ax, part Fs: a package-level map from numbers to texts, as the rows' list lays it; what is left behind a law's call. -/
namespace Go.Ax
open Go.RowKit Go.ChangeShapes Go.WideShapes
section
variable {H : Type} {enc' : TypeId × Value → H} {P : Program} {w : World} {base : Nat} {sp : Nat → Bool} {held : Bool}
theorem map_of_trod {t k e : TypeId} {fuel : Nat} {cs : List Value} {ps : List MemPlace} (ht : P.underlying t = some (.map k e)) (hk : P.underlying k = some (.int .i64)) (he : P.underlying e = some .string) {l : List (Int × Str)} (hl : ∀ p, p ∈ l → mget l p.1 = p.2) (hno : ∀ n, (∀ p, p ∈ l → p.1 ≠ n) → mget l n = []) (h : DataW.trod enc' P w base sp held fuel t cs = some (.map (l.map fun p => (.int .i64 p.1, .lit (.string p.2))), ps)) : ∃ b es clk, cs = [.map (some b)] ∧ w.heap[b]? = some (.map es clk) ∧ MapIs l es.toList := by
  rcases open_anymap ht h with ⟨_, hx⟩ | ⟨b, es, clock, _, rfl, hb, _, _, _⟩
  · cases hx
  cases fuel with
  | zero => simp [DataW.trod] at h
  | succ n =>
    simp only [DataW.trod, ht, hb] at h
    · split at h
      · obtain ⟨entries, hm, hs⟩ := Option.bind_eq_some_iff.1 h
        split at hs
        · simp only [Option.some.injEq, Prod.mk.injEq, DataW.map.injEq] at hs
          obtain ⟨hs, _⟩ := hs
          have hperm := sorted_perm (entries.map (·.1))
          rw [hs] at hperm
          have hx : ∀ (x : MapEntry) (y : (Lit × DataW H) × List MemPlace), ((keyOf P k x.key).bind fun key => if x.val.formed P e = true then (DataW.trod enc' P w base sp held n e x.val.cells.toList).map fun y => ((key, y.1), y.2) else none) = some y → ∃ (m : Int) (s : ByteArray), x.key = .int .i64 m ∧ x.val = .string s ∧ s.size ≤ maxLen ∧ y.1 = (.int .i64 m, .lit (.string s.data.toList)) := by
            intro x y hy
            obtain ⟨key, hk1, hy⟩ := Option.bind_eq_some_iff.1 hy
            split at hy
            · rename_i hfm
              obtain ⟨z, hz, rfl⟩ := Option.map_eq_some_iff.1 hy
              obtain ⟨s, hs1, rfl, hs3⟩ := DataW.trod_string he hz
              have hv : x.val = .string s := by
                cases hxv : x.val <;> rw [hxv] at hs1 hfm <;> simp [Value.cells] at hs1
                · rw [hs1]
                · simp [Value.formed, he] at hfm
              have hkk : ∃ m, x.key = .int .i64 m ∧ key = .int .i64 m := by
                simp only [keyOf, hk] at hk1
                cases hxk : x.key <;> rw [hxk] at hk1 <;> simp [mapKey, hk] at hk1
                obtain ⟨⟨h1, _⟩, h2⟩ := hk1
                subst h1
                exact ⟨_, rfl, h2.symm⟩
              obtain ⟨m, h1, rfl⟩ := hkk
              exact ⟨m, s, h1, hv, hs3, rfl⟩
            · cases hy
          have hin : ∀ x, x ∈ es.toList → ∃ (m : Int) (s : ByteArray), x.key = .int .i64 m ∧ x.val = .string s ∧ s.size ≤ maxLen ∧ (m, s.data.toList) ∈ l := fun x hxm => by
            obtain ⟨i, hi, rfl⟩ := List.getElem_of_mem hxm
            obtain ⟨y, hy, hf⟩ := Lib.mapM_at hm i _ (List.getElem?_eq_getElem hi)
            obtain ⟨m, s, h1, h2, h3, h4⟩ := hx _ y hf
            refine ⟨m, s, h1, h2, h3, ?_⟩
            have : y.1 ∈ entries.map (·.1) := List.mem_map.2 ⟨y, List.mem_of_getElem? hy, rfl⟩
            have := hperm.symm.subset this
            rw [h4] at this
            obtain ⟨p, hp, e⟩ := List.mem_map.1 this
            simp only [Prod.mk.injEq, Lit.int.injEq, true_and, DataW.lit.injEq, Lit.string.injEq] at e
            obtain ⟨e1, e2⟩ := e
            rw [← e1, ← e2]
            exact hp
          have hout : ∀ p, p ∈ l → ∃ x, x ∈ es.toList ∧ x.key = .int .i64 p.1 := fun p hp => by
            have h1 : (Lit.int .i64 p.1, DataW.lit (H := H) (.string p.2)) ∈ entries.map (·.1) := hperm.subset (List.mem_map.2 ⟨p, hp, rfl⟩)
            obtain ⟨y, hy, e⟩ := List.mem_map.1 h1
            obtain ⟨x, hxm, hf⟩ := mapM_mem hm y hy
            obtain ⟨m, s, h2, _, _, h4⟩ := hx x y hf
            rw [e] at h4
            simp only [Prod.mk.injEq, Lit.int.injEq, true_and] at h4
            exact ⟨x, hxm, by rw [h2, h4.1]⟩
          refine ⟨b, es, clock, rfl, hb, fun n => ?_⟩
          have hik : MapKept.IsKey (.int .i64) (.int .i64 n) := by simp [MapKept.IsKey]
          rcases MapKept.findNow_spec hik es.toList 0 (fun x hxm => by obtain ⟨m, s, h1, _⟩ := hin x hxm; rw [h1]; simp [MapKept.IsKey]) with ⟨h1, h2⟩ | ⟨j, x, h1, h2, h3⟩
          · have : mget l n = [] := hno n fun p hp e => by
              obtain ⟨x, hxm, hk⟩ := hout p hp
              exact h2 x hxm (by rw [hk, e])
            exact ⟨by rw [this]; simp, .inl ⟨h1, this⟩⟩
          · obtain ⟨m, s, g1, g2, g3, g4⟩ := hin x (List.mem_of_getElem? h2)
            have hmn : m = n := by
              rw [g1] at h3
              simpa using h3
            subst hmn
            have hg := hl _ g4
            simp only at hg
            refine ⟨by rw [hg, Array.length_toList]; exact g3, .inr ⟨0 + j, ?_⟩⟩
            rw [h1, g2, hg, Array.toArray_toList]
        · cases hs
      · cases h
end
theorem weights_app {H : Type} {P : Program} : ∀ {ts us : List TypeId} {ds gs : List (DataW H)} {n : Nat}, ds.length ≤ ts.length → n ∈ DataW.weightsEach P ts ds → n ∈ DataW.weightsEach P (ts ++ us) (ds ++ gs)
  | [], us, ds, gs, n, _, h => by cases ds <;> simp [DataW.weightsEach] at h
  | t :: ts, us, [], gs, n, _, h => by simp [DataW.weightsEach] at h
  | t :: ts, us, d :: ds, gs, n, hl, h => by
    simp only [DataW.weightsEach, List.cons_append, List.mem_append] at h ⊢
    rcases h with h | h
    · exact .inl h
    · exact .inr (weights_app (by simpa using hl) h)
theorem sizes_of {H : Type} {P : Program} {ts us : List TypeId} {ds gs : List (DataW H)} (h : (DataW.weightsEach P (ts ++ us) (ds ++ gs)).all (· ≤ reachBytes) = true) (hl : ds.length ≤ ts.length) : ∀ (i : Nat) (t : TypeId) (d : DataW H), ts[i]? = some t → ds[i]? = some d → ∀ n, n ∈ d.weights P t → n ≤ R47 := fun i t d ht hd n hn => by
  have := List.all_eq_true.1 h n (weights_app hl (DataW.weights_mem_each ht hd n hn))
  show n ≤ reachBytes
  exact of_decide_eq_true this
theorem trodAll_len {H : Type} {enc' : TypeId × Value → H} {P : Program} {w : World} {base : Nat} {sp : Nat → Bool} {held : Bool} : ∀ {ts : List TypeId} {vs : List Value} {ds : List (DataW H)} {ps : List MemPlace}, DataW.TrodAll enc' P w base sp held ts vs ds ps → ds.length = ts.length := by
  intro ts
  induction ts with
  | nil => intro vs ds ps h; cases vs <;> cases ds <;> simp [DataW.TrodAll] at h ⊢
  | cons t ts ih =>
    intro vs ds ps h
    obtain ⟨v, vs', d, ds', p, q, rfl, rfl, rfl, hd, hrest⟩ := trodAll_cons h
    simp [ih hrest]
end Go.Ax

/- The frame of this seat's laws: what the rows' list and the world's shape give of the package-level variables, a world for the witness, what is left behind the call. -/
namespace Go.Proofs.YthndhaolemgbdaaGreatDoor
open Go.Ax Go.ChangeShapes Go.WideShapes Go.ChangeAt Go.RowKit Go.ChangeMaps
theorem own : ownKnob Tryz.prog.godebug = none := by kernel_rfl
def rdL : List Nat := [3, 4, 9, 5, 23, 26, 111, 89, 44, 24, 39, 34, 42, 78, 41, 40, 63, 67]
theorem rdL_ok : rdB elT (ttOf ttL) rdL = true := by kernel_rfl
theorem szL_ok : szB Tryz.prog elT (ttOf ttL) rdL = true := by kernel_rfl
theorem laidOut : laidOutB Tryz.prog = true := by kernel_rfl
/-- one package-level variable -/
def GlE (x : Vx) (g : Nat) : Gv → Prop
  | .arr c xs => ∀ i y, xs[i]? = some y → ∀ w', Chg x.S x.w w' → At w' c y g (i * csz c)
  | .map l => ∃ r es clk, (∀ w', Chg x.S x.w w' → w'.cell? ⟨g, 0, none⟩ = some (.map (some r)) ∧ w'.heap[r]? = some (.map es clk)) ∧ MapIs l es.toList
  | .num k => ∃ n, ∀ w', Chg x.S x.w w' → w'.cell? ⟨g, 0, none⟩ = some (.int k n)
theorem tbl_mem {α : Type} : ∀ {L : List (Nat × α)} {g : Nat} {v : α}, tbl L g = some v → (g, v) ∈ L
  | [], _, _, h => by simp [tbl] at h
  | (k, u) :: L, g, v, h => by
    simp only [tbl] at h
    split at h
    · rename_i hk
      have hk := Nat.eq_of_beq_eq_true hk
      subst hk
      simp only [Option.some.injEq] at h
      subst h
      exact List.mem_cons_self
    · exact List.mem_cons_of_mem _ (tbl_mem h)
theorem glR_tbl {x : Vx} {L : List (Nat × Gv)} (h : ∀ p, p ∈ L → GlE x p.1 p.2) : GlR x (tbl L) :=
  ⟨fun _ _ _ hg => h _ (tbl_mem hg), fun _ _ hg => h _ (tbl_mem hg), fun _ _ hg => h _ (tbl_mem hg)⟩
/-- a variable of the rows' list -/
theorem laid_mem {P : Program} {w : World} : ∀ {l : List (String × DataW Unit)} {ps : List MemPlace}, DataW.LaidVars P w l ps → ∀ x, x ∈ l → ∃ g t cs fuel p, P.globalNamed x.1 = some g ∧ (P.globals[g]?).map (·.type) = some t ∧ w.var? P x.1 = some cs ∧ DataW.trod (fun _ => ()) P w 0 (fun _ => true) false fuel t cs.toList = some (x.2, p)
  | [], _, _, x, hx => by cases hx
  | (n, d) :: r, ps, h, x, hx => by
    obtain ⟨g, t, cs, fuel, p, q, h1, h2, h3, h4, h5, _⟩ := h
    rcases List.mem_cons.1 hx with rfl | hx
    · exact ⟨g, t, cs, fuel, p, h1, h2, h3, h4⟩
    · exact laid_mem h5 x hx
/-- an array of texts that reads as a list holds it, cell for cell -/
theorem cells_of_texts {H : Type} {enc : TypeId × Value → H} {P : Program} {w : World} {base : Nat} {sp : Nat → Bool} {held : Bool} {fuel : Nat} {t e : TypeId} {n : Nat} {cs : List Value} {zs : List (List UInt8)} {p : List MemPlace}
    (ht : P.underlying t = some (.array n e)) (he : P.underlying e = some .string) (hce : P.cellsOf e = 1)
    (h : DataW.trod enc P w base sp held fuel t cs = some (.agg (zs.map fun z => .lit (.string z)), p)) : ∀ (i : Nat) (z : Str), zs[i]? = some z → cs[i]? = some (.string ⟨z.toArray⟩) := by
  cases fuel with
  | zero => simp [DataW.trod] at h
  | succ fuel =>
    simp only [DataW.trod, ht, hce, Nat.mul_one] at h
    split at h
    · rename_i hl
      obtain ⟨xs, hm, hx⟩ := Option.map_eq_some_iff.1 h
      have hxs : xs.map (·.1) = zs.map fun z => (DataW.lit (.string z) : DataW H) := by
        have := congrArg Prod.fst hx
        simpa using this
      have hxl : xs.length = n := by simpa using Lib.mapM_length hm
      have hzl : zs.length = n := by
        have := congrArg List.length hxs
        simp at this
        omega
      intro i z hz
      have hi : i < n := by
        have := (List.getElem?_eq_some_iff.1 hz).1
        omega
      obtain ⟨b, hb, hf⟩ := Lib.mapM_at hm i i (by simp [hi])
      obtain ⟨z', hc, h3, _⟩ := DataW.trod_string he hf
      have h1 : cs[i]? = some (.string z') := by
        have := congrArg (·[0]?) hc
        simpa [List.getElem?_take, List.getElem?_drop] using this
      have h2 : (xs.map (·.1))[i]? = some b.1 := by simp [hb]
      rw [hxs] at h2
      simp only [List.getElem?_map, hz, Option.map_some, Option.some.injEq] at h2
      rw [h3] at h2
      simp only [DataW.lit.injEq, Lit.string.injEq] at h2
      rw [h1, h2]
    · cases h
theorem glE_texts {W : World} {l : List (String × DataW Unit)} (h : laidMet Tryz.prog l W) {nm : String} {g t e : Nat} {n : Nat} {zs : List Str} (hin : (nm, DataW.agg (zs.map fun z => .lit (.string z))) ∈ l) (hg : Tryz.prog.globalNamed nm = some g) (hgt : (Tryz.prog.globals[g]?).map (·.type) = some t)
    (ht : Tryz.prog.underlying t = some (.array n e)) (he : Tryz.prog.underlying e = some .string) (hce : Tryz.prog.cellsOf e = 1) (hz : (zs.all fun z => Nat.ble z.length maxLen) = true) : GlE (v0 elT noFp W) g (.arr .str zs) := by
  obtain ⟨ps, hl, _⟩ := h
  obtain ⟨g', t', cs, fuel, p, h1, h2, h3, h4⟩ := laid_mem hl _ hin
  obtain rfl := Option.some.inj (hg.symm.trans h1)
  obtain rfl := Option.some.inj (hgt.symm.trans h2)
  have hc := cells_of_texts ht he hce h4
  intro i y hy w' hw j d hd
  have hj : j = 0 ∧ d = .str y := by
    cases j with
    | zero => simpa [enc] using hd.symm
    | succ j => simp [enc] at hd
  obtain ⟨rfl, rfl⟩ := hj
  have h5 := World.var?_cell h1 h3 i
  rw [← Array.getElem?_toList, hc i y hy] at h5
  have hm := List.all_eq_true.1 hz y (List.mem_of_getElem? hy)
  have e1 : i * csz .str + 0 = i := by simp [csz]
  exact ⟨_, by rw [e1]; exact hw.cell _ _ _ h5 (fun h => h), .str y (Nat.le_of_ble_eq_true hm)⟩
theorem mget_in : ∀ p, p ∈ signsL → mget signsL p.1 = p.2 := by decide
theorem mget_no (l : List (Int × Str)) : ∀ n, (∀ p, p ∈ l → p.1 ≠ n) → mget l n = [] := by
  induction l with
  | nil => intro n _; rfl
  | cons p l ih =>
    intro n h
    obtain ⟨k, s⟩ := p
    have h1 : k ≠ n := h (k, s) (by simp)
    simp only [mget, decide_eq_false h1]
    exact ih n fun p hp => h p (by simp [hp])
theorem glE_signs {W : World} {l : List (String × DataW Unit)} (h : laidMet Tryz.prog l W) (hin : ("exchequer/ast.signs", Rows.laid_exchequer_ast_signs) ∈ l) : GlE (v0 elT noFp W) 0 (.map signsL) := by
  obtain ⟨ps, hl, _⟩ := h
  obtain ⟨g', t', cs, fuel, p, hg', ht', hvar, hd⟩ := laid_mem hl _ hin
  obtain rfl := Option.some.inj ((show Tryz.prog.globalNamed "exchequer/ast.signs" = some 0 by kernel_rfl).symm.trans hg')
  obtain rfl := Option.some.inj ((show (Tryz.prog.globals[0]?).map (·.type) = some 147 by kernel_rfl).symm.trans ht')
  obtain ⟨b, es, clk, h1, h2, h3⟩ := map_of_trod (l := signsL) (t := 147) (k := 3) (e := 9) (by kernel_rfl) (by kernel_rfl) (by kernel_rfl) mget_in (mget_no signsL) hd
  have hc := World.var?_cell hg' hvar 0
  have h1' : cs = #[.map (some b)] := by
    apply Array.ext'
    exact h1
  rw [h1'] at hc
  have hc : W.cell? ⟨0, 0, none⟩ = some (.map (some b)) := hc
  have hlt : b < W.heap.size := (Array.getElem?_eq_some_iff.1 h2).1
  exact ⟨b, es, clk, fun w' hw => ⟨hw.cell _ 0 _ hc (fun h => h), by rw [hw.block b hlt (fun _ h => h)]; exact h2⟩, h3⟩
theorem glE_max {W : World} (h : W.ShapedOpen Tryz.prog) : GlE (v0 elT noFp W) 3 (.num .i64) := by
  obtain ⟨m, hm⟩ := Go.Proofs.cell_of_shapedOpen_int (zero := #[.int .i64 0]) (t := 3) (g := 3) h (of_decide_eq_true (by kernel_rfl)) (by kernel_rfl) rfl (by kernel_rfl) (by kernel_rfl) Tryz.underlying3
  exact ⟨m, fun w' hw => hw.cell _ 0 _ hm (fun h => h)⟩
/-- what a law's row has to list -/
def Lists (l : List (String × DataW Unit)) : Prop := (l.all fun x => x.2.handleName?.isNone) = true
  ∧ ("exchequer/lex.words", Rows.laid_exchequer_lex_words) ∈ l
  ∧ ("exchequer/ast.signs", Rows.laid_exchequer_ast_signs) ∈ l
  ∧ ("exchequer/ast.kinds", Rows.laid_exchequer_ast_kinds) ∈ l
  ∧ True
theorem all_glR {W : World} {l : List (String × DataW Unit)} (hl : Lists l) (hL : laidMetH Tryz.prog l W) (hS : W.ShapedOpen Tryz.prog) : GlR (v0 elT noFp W) glT := by
  have hL' : laidMet Tryz.prog l W := by
    have hf : (l.filter fun x => x.2.handleName?.isSome) = [] := List.filter_eq_nil_iff.2 fun x hx => by
      have := List.all_eq_true.1 hl.1 x hx
      rw [Option.isNone_iff_eq_none] at this
      simp [this]
    unfold laidMetH at hL
    rw [hf] at hL
    exact hL
  replace hl := hl.2
  clear hL
  have _ := hS
  refine glR_tbl fun p hp => ?_
  have hwords : GlE (v0 elT noFp W) 2 (.arr .str wordsL) := glE_texts (n := 36) (t := 221) (e := 9) hL' hl.1 (by kernel_rfl) (by kernel_rfl) (by kernel_rfl) (by kernel_rfl) (by kernel_rfl) (by kernel_rfl)
  replace hl := hl.2
  have hsigns := glE_signs hL' hl.1
  replace hl := hl.2
  have hkinds : GlE (v0 elT noFp W) 1 (.arr .str kindsL) := glE_texts (n := 6) (t := 191) (e := 9) hL' hl.1 (by kernel_rfl) (by kernel_rfl) (by kernel_rfl) (by kernel_rfl) (by kernel_rfl) (by kernel_rfl)
  replace hl := hl.2
  have hmax := glE_max hS
  simp only [List.mem_cons, List.not_mem_nil, or_false] at hp
  repeat' (first | (rcases hp with rfl | hp) | subst hp)
  all_goals assumption
/-- a world in which the tables lie -/
def numOf : DataW Unit → Value
  | .lit (.int k n) => .int k n
  | .lit (.string s) => .string ⟨s.toArray⟩
  | _ => .int .u8 0
def rowOf : DataW Unit → List Value
  | .agg l => l.map numOf
  | _ => []
def rowsOf : DataW Unit → List Value
  | .agg l => l.flatMap rowOf
  | _ => []
def putRow (vs : List Value) : Obj → Obj
  | .cells _ t frozen => .cells vs.toArray t frozen
  | o => o
noncomputable def laidHeap (h : Array Obj) : Array Obj :=
  let h := h.modify 2 (putRow (rowOf Rows.laid_exchequer_lex_words))
  let h := h.modify 1 (putRow (rowOf Rows.laid_exchequer_ast_kinds))
  let h := (h.modify 4 (putRow (rowOf Rows.laid_unicode_utf8_first))).modify 5 (putRow (rowsOf Rows.laid_unicode_utf8_acceptRanges))
  let h := (h.modify 0 (putRow [.map (some h.size)])).push (.map ((signsL.zip (List.range 11)).map fun p => (⟨.int .i64 p.1.1, .string ⟨p.1.2.toArray⟩, p.2⟩ : MapEntry)).toArray 11)
  h
noncomputable def laidWorld (os : Os) : World :=
  { World.holding Tryz.prog os ⟨#[], #[], []⟩ with heap := laidHeap (World.holding Tryz.prog os ⟨#[], #[], []⟩).heap }
set_option maxRecDepth 100000 in
theorem law_frame {H : Type} {R : Nat × Nat} {M : TypeId → DataW H → Prop} (hM : Msr Tryz.prog R M) {enc : TypeId × Value → H} {f : FuncId} {fn : Func} {sa : List Sg} {F : FT sa [.bool]} {s : ChangeSpec} (hok : FnOk Tryz.prog elT glT f sa [.bool] F) (hF : ∀ x, BdL sa x → SmL R sa x → F x = some true)
    (hr : fn.resultTypes = #[4]) (hv : s.vars = []) (hf : ∀ ds, ds.length = fn.params.toList.length → (s.fn H ds).results = [.lit (.bool true)] ∧ (s.fn H ds).args = ds ∧ (s.fn H ds).vars = [])
    (hsg : sgsOk (ttOf ttL) rdL fn.params.toList sa = true) (hread : (fn.params.toList.all fun t => Tryz.prog.readableRec t && Nat.blt t Tryz.prog.types.size) = true)
    {W : World} {base : Nat} {args : Array Value} {ds gs : List (DataW H)} {before : List MemPlace} (hval : ∀ (j : Nat) t v, fn.params[j]? = some t → args[j]? = some v → Value.okWide Tryz.prog W .any base t v)
    (hW : DataW.Whole enc Tryz.prog fn.params.toList s.vars false W args.toList ds gs before) (hgl : GlR (v0 elT noFp W) glT) (hsz : ds.length = fn.params.toList.length → ∀ (i : Nat) (t : TypeId) (d : DataW H), fn.params.toList[i]? = some t → ds[i]? = some d → M t d) :
    Calls Tryz.prog f args W fun e W' => ∃ v, e = .returned v ∧ s.post enc Tryz.prog fn false true false false W args v W' := by
  have hW' := hW
  have hlt := hW.lt
  obtain ⟨p, q, hA, hV, rfl, hfz, hnd⟩ := hW
  rw [hv] at hV
  obtain ⟨rfl, rfl⟩ := trodVars_none hV
  have hlen := trodAll_len hA
  obtain ⟨x, hx, hsm⟩ := args_rep hM (fun t => tt_ok ttL_ok t) rdL_ok szL_ok 0 hsg (fun j t v h1 h2 => hval j t v (by simpa using h1) (by simpa using h2)) hA
  have hcall := hok.calls (hF x (reps_bd hx) (hsm (hsz hlen))) hgl hx
  have e1 : args.toList.toArray = args := by simp
  rw [e1] at hcall
  refine hcall.mono fun en W' => ?_
  rintro ⟨rfl, hb⟩
  refine ⟨_, rfl, ?_⟩
  obtain ⟨h1, h2, h3⟩ := hf ds hlen
  have e2 : ds ++ ([] : List (DataW H)) = ds := by simp
  refine ⟨ds, [], _, [], p, [], hW', ?_, ?_, ?_, hb.frame _, fun h => by cases h⟩
  · rw [e2, h1, hr]
    exact trodAll_cons_mk (shut_bool Tryz.underlying4 _) trodAll_mk0
  · rw [e2, h2]
    refine args_stay laidOut hb (fun t ht => ?_) (fun x hx => hlt x (by simp [hx])) hA
    have := List.all_eq_true.1 hread t ht
    simp only [Bool.and_eq_true] at this
    exact ⟨this.1, by simpa [Nat.blt_eq] using this.2⟩
  · rw [e2, h3, hv]; exact rfl
end Go.Proofs.YthndhaolemgbdaaGreatDoor
