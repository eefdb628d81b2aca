/- Texts of the proof, one behind the other: AxFr, Mu, Tl, Tm, Rq, Rr, Rs, Ub, Rt, AxFs, FrG. -/
import Derived.Test.YthndhaolemgbdaaGreatDoorA5
import Derived.ChangeArms
import Derived.WideShapes
import Derived.Carry
import Derived.ChangeShapes
import Derived.Lib.LaidTab
import Derived.SizedLaws
import Derived.Test.YthndhaolemgbdaaGreatDoorRows
import Derived.ProofKit
import Derived.ChangeMaps5
import Derived.ChangeAnyMap
import Derived.Test.YthndhaolemgbdaaGreatDoorCards
import Derived.Test.YthndhaolemgbdaaGreatDoorTie
import Derived.OpenShut
import Derived.Deep.DeepHandedRow
import Derived.Shelf.Vars
/- Ax, part Fr: THE FRAME: arguments that read as data are arguments of the machine; what is left behind a call. -/
namespace Go.Ax
open Go.RowKit Go.ChangeShapes
/-! ## shapes -/
def shp : D → D → Bool
  | .int k _, .int k' _ => decide (k = k')
  | .bool _, .bool _ => true
  | .str _, .str _ => true
  | .sl c _ _, .sl c' _ _ => decide (c = c')
  | _, _ => false
def shpL : List D → List D → Bool
  | [], [] => true
  | a :: l, b :: m => shp a b && shpL l m
  | _, _ => false
theorem shp_tr {a b c : D} (h : shp a b = true) (k : shp a c = true) : shp b c = true := by
  cases a <;> cases b <;> simp [shp] at h <;> cases c <;> simp [shp] at k <;> subst_vars <;> simp [shp]
theorem shpL_tr : ∀ {a b c : List D}, shpL a b = true → shpL a c = true → shpL b c = true
  | [], [], [], _, _ => rfl
  | x :: a, y :: b, z :: c, h, k => by
    simp only [shpL, Bool.and_eq_true] at h k ⊢
    exact ⟨shp_tr h.1 k.1, shpL_tr h.2 k.2⟩
  | [], _ :: _, _, h, _ => by simp [shpL] at h
  | _ :: _, [], _, h, _ => by simp [shpL] at h
  | [], [], _ :: _, _, k => by simp [shpL] at k
  | _ :: _, _ :: _, [], _, k => by simp [shpL] at k
theorem shpL_append : ∀ {a b c d : List D}, shpL a b = true → shpL c d = true → shpL (a ++ c) (b ++ d) = true
  | [], [], _, _, _, k => k
  | _ :: a, _ :: b, _, _, h, k => by
    simp only [shpL, Bool.and_eq_true, List.cons_append] at h ⊢
    exact ⟨h.1, shpL_append h.2 k⟩
  | [], _ :: _, _, _, h, _ => by simp [shpL] at h
  | _ :: _, [], _, _, h, _ => by simp [shpL] at h
theorem shp_int {k : IntKind} {n : Int} {d : D} (h : shp (.int k n) d = true) : ∃ m, d = .int k m := by
  cases d <;> simp [shp] at h
  subst h
  exact ⟨_, rfl⟩
theorem shp_bool {b : Bool} {d : D} (h : shp (.bool b) d = true) : ∃ m, d = .bool m := by
  cases d <;> simp [shp] at h
  exact ⟨_, rfl⟩
theorem shp_str {s : Str} {d : D} (h : shp (.str s) d = true) : ∃ m, d = .str m := by
  cases d <;> simp [shp] at h
  exact ⟨_, rfl⟩
theorem shp_sl {c : Ck} {xs : List (El c)} {t : Tk} {d : D} (h : shp (.sl c xs t) d = true) : ∃ ys u, d = .sl c ys u := by
  cases d <;> simp [shp] at h
  subst h
  exact ⟨_, _, rfl⟩
theorem shpL_cons {a : D} {l ds : List D} (h : shpL (a :: l) ds = true) : ∃ b m, ds = b :: m ∧ shp a b = true ∧ shpL l m = true := by
  cases ds with
  | nil => simp [shpL] at h
  | cons b m =>
    simp only [shpL, Bool.and_eq_true] at h
    exact ⟨b, m, rfl, h.1, h.2⟩
theorem shpL_nil {ds : List D} (h : shpL [] ds = true) : ds = [] := by
  cases ds with
  | nil => rfl
  | cons b m => simp [shpL] at h
theorem dec_shape {c : Ck} {z ds : List D} (h : (dec c z).isSome = true) (hs : shpL z ds = true) : ∃ y, dec c ds = some y := by
  obtain ⟨y0, h⟩ := Option.isSome_iff_exists.1 h
  unfold dec at h
  split at h
  all_goals first
    | (cases h; done)
    | skip
  all_goals
    clear h
    repeat (
      obtain ⟨b, m, e, h1, hs'⟩ := shpL_cons hs
      clear hs
      have hs := hs'
      clear hs'
      subst e
      first
        | (obtain ⟨_, e⟩ := shp_int h1; subst e)
        | (obtain ⟨_, e⟩ := shp_bool h1; subst e)
        | (obtain ⟨_, e⟩ := shp_str h1; subst e)
        | (obtain ⟨_, _, e⟩ := shp_sl h1; subst e))
    have e := shpL_nil hs
    subst e
    exact ⟨_, rfl⟩
/-! ## what is read has texts of no more than so many bytes -/
def R47 : Nat := 140737488351232
/-- the bounds: R.1 of texts, R.2 of lists -/
def SmVal (R : Nat × Nat) (v : Val) : Prop := v.s.length ≤ R.1
inductive SmExpr (R : Nat × Nat) : Xpr → Prop
  | mk (k : Int) (v : Val) (nm : Str) (l : List Xpr) : SmVal R v → nm.length ≤ R.1 → l.length ≤ R.2 → (∀ e, e ∈ l → SmExpr R e) → SmExpr R (.mk k v nm l)
structure SmStm (R : Nat × Nat) (s : Stm) : Prop where
  name : s.name.length ≤ R.1
  on : s.on.length ≤ R.1
  cols : s.cols.length ≤ R.2 ∧ ∀ c, c ∈ s.cols → c.name.length ≤ R.1 ∧ c.ref.length ≤ R.1
  names : s.names.length ≤ R.2 ∧ ∀ x, x ∈ s.names → x.length ≤ R.1
  l : s.l.length ≤ R.2 ∧ ∀ x, x ∈ s.l → SmExpr R x
  rows : s.rows.length ≤ R.2 ∧ ∀ r, r ∈ s.rows → r.length ≤ R.2 ∧ ∀ x, x ∈ r → SmExpr R x
  sets : s.sets.length ≤ R.2 ∧ ∀ x, x ∈ s.sets → x.name.length ≤ R.1 ∧ SmExpr R x.e
  whr : SmExpr R s.whr
  order : s.order.length ≤ R.2 ∧ ∀ x, x ∈ s.order → x.length ≤ R.1
  desc : s.desc.length ≤ R.2
def SmIdx (R : Nat × Nat) (x : Idx) : Prop := x.name.length ≤ R.1 ∧ x.cols.length ≤ R.2 ∧ ∀ s, s ∈ x.cols → s.length ≤ R.1
structure SmTbl (R : Nat × Nat) (t : Tbl) : Prop where
  name : t.name.length ≤ R.1
  cols : t.cols.length ≤ R.2 ∧ ∀ c, c ∈ t.cols → c.name.length ≤ R.1 ∧ c.ref.length ≤ R.1
  key : t.key.length ≤ R.2 ∧ ∀ x, x ∈ t.key → x.length ≤ R.1
  checks : t.checks.length ≤ R.2 ∧ ∀ x, x ∈ t.checks → SmExpr R x
  idx : t.idx.length ≤ R.2 ∧ ∀ x, x ∈ t.idx → SmIdx R x
def SmK (R : Nat × Nat) : (c : Ck) → El c → Prop
  | .str, s => s.length ≤ R.1
  | .val, v => SmVal R v
  | .tok, t => t.s.length ≤ R.1
  | .col, c => c.name.length ≤ R.1 ∧ c.ref.length ≤ R.1
  | .expr, e => SmExpr R e
  | .vals, l => l.length ≤ R.2 ∧ ∀ x, x ∈ l → SmVal R x
  | .exprs, l => l.length ≤ R.2 ∧ ∀ x, x ∈ l → SmExpr R x
  | .strs, l => l.length ≤ R.2 ∧ ∀ x, x ∈ l → x.length ≤ R.1
  | .set, s => s.name.length ≤ R.1 ∧ SmExpr R s.e
  | .stmt, s => SmStm R s
  | .idx, x => SmIdx R x
  | .tbl, t => SmTbl R t
  | _, _ => True
def SmD (R : Nat × Nat) : D → Prop
  | .str l => l.length ≤ R.1
  | .sl c xs _ => xs.length ≤ R.2 ∧ ∀ x, x ∈ xs → SmK R c x
  | _ => True
def SmS (R : Nat × Nat) : (s : Sg) → den s → Prop
  | .str, s => s.length ≤ R.1
  | .sl c _, xs => xs.length ≤ R.2 ∧ ∀ x, x ∈ xs → SmK R c x
  | .sv c, x => SmK R c x
  | _, _ => True
def SmL (R : Nat × Nat) : (l : List Sg) → HV l → Prop
  | [], _ => True
  | [a], x => SmS R a x
  | a :: b :: l, (x, y) => SmS R a x ∧ SmL R (b :: l) y
theorem smK_of {R : Nat × Nat} {c : Ck} {ds : List D} {y : El c} (h : dec c ds = some y) (hd : ∀ d, d ∈ ds → SmD R d) : SmK R c y := by
  unfold dec at h
  split at h <;> simp only [Option.some.injEq, reduceCtorEq] at h <;> subst h <;> simp only [List.mem_cons, List.not_mem_nil, or_false, forall_eq_or_imp, forall_eq, SmD] at hd <;> simp only [SmK, SmVal] <;> first
    | trivial
    | exact hd
    | exact hd.2.2
    | exact hd.2.2.1
    | exact ⟨hd.1, hd.2.2.2.2⟩
    | exact .mk _ _ _ _ hd.2.2.2.1 hd.2.2.2.2.1 hd.2.2.2.2.2.1 hd.2.2.2.2.2.2
    | exact ⟨hd.1, .mk _ _ _ _ hd.2.2.2.2.1 hd.2.2.2.2.2.1 hd.2.2.2.2.2.2.1 hd.2.2.2.2.2.2.2⟩
    | exact ⟨hd.1, hd.2.1, hd.2.2.1, hd.2.2.2.1, hd.2.2.2.2⟩
    | (obtain ⟨_, h1, h2, h3, h4, h5, h6, h7, _, _, _, _, w1, w2, w3, h8, h9, _⟩ := hd
       exact ⟨h1, h2, h3, h4, h5, h6, h7, .mk _ _ _ _ w1 w2 w3.1 w3.2, h8, h9.1⟩)
theorem weightsAll_in {H : Type} {P : Program} {e : TypeId} : ∀ {l : List (DataW H)} {d : DataW H}, d ∈ l → ∀ n ∈ d.weights P e, n ∈ DataW.weightsAll P e l
  | [], _, h, _, _ => by cases h
  | x :: l, d, h, n, hn => by
    simp only [DataW.weightsAll, List.mem_append]
    rcases List.mem_cons.1 h with rfl | h
    · exact .inl hn
    · exact .inr (weightsAll_in h n hn)
/-- a measure on what is read: what it says of a whole it says of its parts; texts and lists are within R -/
structure Msr {H : Type} (P : Program) (R : Nat × Nat) (M : TypeId → DataW H → Prop) : Prop where
  str : ∀ (t : TypeId) (s : List UInt8), M t (.lit (.string s)) → s.length ≤ R.1
  sl : ∀ (t e : TypeId) (l r : List (DataW H)), P.underlying t = some (.slice e) → 1 ≤ P.bytesOf e → M t (.slice l r) → l.length ≤ 9223372036854775807 → l.length ≤ R.2 ∧ ∀ d, d ∈ l → M e d
  agg : ∀ (t : TypeId) (fds : Array Field) (l : List (DataW H)) (i : Nat) (fd : Field) (d : DataW H), P.underlying t = some (.struct fds) → M t (.agg l) → fds[i]? = some fd → l[i]? = some d → M fd.type d
theorem msr_weights {H : Type} (P : Program) : Msr (H := H) P (R47, R47) fun t d => ∀ n, n ∈ d.weights P t → n ≤ R47 where
  str := fun t s h => h _ (by simp [DataW.weights])
  sl := fun t e l r hu hz h _ => ⟨by
    have h1 := h ((l.length + r.length) * P.bytesOf e) (by simp only [DataW.weights, hu, List.mem_cons, true_or])
    have h2 : (l.length + r.length) * 1 ≤ (l.length + r.length) * P.bytesOf e := Nat.mul_le_mul_left _ hz
    omega, fun d hd n hn => h n (by
    simp only [DataW.weights, hu, List.mem_cons, List.mem_append]
    exact .inr (.inl (weightsAll_in hd n hn)))⟩
  agg := fun t fds l i fd d hu h hf hd n hn => h n (by
    simp only [DataW.weights, hu]
    exact DataW.weights_mem_each (j := i) (t := fd.type) (d := d) (by simp [hf]) hd n hn)
/-! ## types that are read -/
def zc (t : Ty) : List D := match t.zero with
  | some z => cells z
  | none => []
def contig (tt : Nat → Ty) (rd : List Nat) : Nat → List (Nat × Nat) → List D → Bool
  | _, [], z => z.isEmpty
  | o, (o', u) :: fs, z => Nat.beq o' o && rd.contains u && Nat.ble (zc (tt u)).length z.length && shpL (zc (tt u)) (z.take (zc (tt u)).length) && contig tt rd (o + (zc (tt u)).length) fs (z.drop (zc (tt u)).length)
def rdLoc (el : Ck → TypeId) (tt : Nat → Ty) (rd : List Nat) (t : Nat) : Bool := match tt t with
  | .int _ | .bool | .str => true
  | .sl c => rd.contains (el c) && (dec c (zc (tt (el c)))).isSome
  | .st _ fs z => contig tt rd 0 fs z
  | _ => false
def rdB (el : Ck → TypeId) (tt : Nat → Ty) (rd : List Nat) : Bool := rd.all fun t => rdLoc el tt rd t && Nat.beq (zc (tt t)).length (tt t).n
/-- no element of a list that is read is of no bytes -/
def szB (P : Program) (el : Ck → TypeId) (tt : Nat → Ty) (rd : List Nat) : Bool := rd.all fun t => match tt t with
  | .sl c => Nat.ble 1 (P.bytesOf (el c))
  | _ => true
theorem choose_list {α : Type} {p : Nat → α → Prop} : ∀ (n : Nat), (∀ i, i < n → ∃ y, p i y) → ∃ ys : List α, ys.length = n ∧ ∀ i y, ys[i]? = some y → p i y
  | 0, _ => ⟨[], rfl, by simp⟩
  | n + 1, h => by
    obtain ⟨ys, h1, h2⟩ := choose_list n (fun i hi => h i (by omega))
    obtain ⟨y, hy⟩ := h n (by omega)
    refine ⟨ys ++ [y], by simp [h1], fun i z hz => ?_⟩
    rcases Nat.lt_trichotomy i n with hi | rfl | hi
    · rw [List.getElem?_append_left (by omega)] at hz
      exact h2 i z hz
    · rw [List.getElem?_append_right (by omega), h1] at hz
      simp at hz
      subst hz
      exact hy
    · rw [List.getElem?_eq_none (by simp; omega)] at hz
      cases hz
section
variable {H : Type} {enc' : TypeId × Value → H} {P : Program} {el : Ck → TypeId} {tt : Nat → Ty} {rd : List Nat} {w : World} {sp : Nat → Bool} {held : Bool}
theorem cellsOf_sz {t : TypeId} {n : Nat} (h : Sx.tySz P t = some n) : P.cellsOf t = n := by
  unfold Sx.tySz at h
  simp [Program.cellsOf, h]
theorem cells?_get {a : Addr} {n : Nat} {vs : List Value} (h : w.cells? 0 a n = some vs) : vs.length = n ∧ ∀ j u, vs[j]? = some u → w.cell? (a.add j) = some u := by
  unfold World.cells? at h
  simp only [Nat.zero_le, if_true] at h
  refine ⟨by simpa using Lib.mapM_length h, fun j u hj => ?_⟩
  have hlt : j < n := by
    have := Lib.mapM_length h
    have h2 := (List.getElem?_eq_some_iff.1 hj).1
    simp at this
    omega
  obtain ⟨u', hu, hf⟩ := Lib.mapM_at h j j (by simp [hlt])
  rw [hj] at hu
  simp only [Option.some.injEq] at hu
  subst hu
  exact hf
theorem cell?_spot {a : Addr} {u : Value} (h : w.cell? a = some u) : a.spot = none := by
  unfold World.cell? at h
  split at h
  · split at h
    · cases h
    · rename_i hs
      cases hq : a.spot with
      | none => rfl
      | some q => rw [hq] at hs; simp at hs
  · cases h
/-- data that are read are cells of the machine -/
theorem trod_ds {R : Nat × Nat} {M : TypeId → DataW H → Prop} (hM : Msr P R M) (hT : ∀ t, tyOk P el tt t = true) (hrd : rdB el tt rd = true) (hsb : szB P el tt rd = true) : ∀ (fuel : Nat) (t : TypeId) (cs : List Value) (x : DataW H × List MemPlace), rd.contains t = true → DataW.trod enc' P w 0 sp held fuel t cs = some x → ∃ ds, shpL (zc (tt t)) ds = true ∧ Reps (v0 el noFp w) ds cs ∧ (M t x.1 → ∀ d, d ∈ ds → SmD R d)
  | 0, t, cs, x, _, h => by simp [DataW.trod] at h
  | fuel + 1, t, cs, x, hc, h => by
    have hloc := List.all_eq_true.1 hrd t (by simpa using hc)
    simp only [Bool.and_eq_true] at hloc
    obtain ⟨hloc, hzl⟩ := hloc
    have hzl := Nat.eq_of_beq_eq_true hzl
    have hszB := List.all_eq_true.1 hsb t (by simpa using hc)
    unfold rdLoc at hloc
    split at hloc
    · rename_i k hty
      have hu := Sx.tyI_spec (tyOk_int (hT t) hty)
      obtain ⟨n, rfl, _, hw⟩ := DataW.trod_int hu h
      refine ⟨[.int k n], by (rw [hty]; show (decide (k = k) && true) = true; simp), ?_, fun _ d hd => by simp only [List.mem_singleton] at hd; subst hd; trivial⟩
      simp only [Reps, Rep]
      exact ⟨_, _, rfl, ⟨rfl, hw⟩, rfl⟩
    · rename_i hty
      have hu := Sx.tyB_spec (tyOk_bool (hT t) hty)
      obtain ⟨b, rfl, _⟩ := DataW.trod_bool hu h
      refine ⟨[.bool b], by rw [hty]; rfl, ?_, fun _ d hd => by simp only [List.mem_singleton] at hd; subst hd; trivial⟩
      simp only [Reps, Rep]
      exact ⟨_, _, rfl, rfl, rfl⟩
    · rename_i hty
      have hu := Sx.tyS_spec (tyOk_str (hT t) hty)
      obtain ⟨s, rfl, rfl, hs⟩ := DataW.trod_string hu h
      refine ⟨[.str s.data.toList], by rw [hty]; rfl, ?_, fun hwt d hd => by
        simp only [List.mem_singleton] at hd
        subst hd
        exact hM.str _ _ hwt⟩
      simp only [Reps, Rep]
      exact ⟨_, _, rfl, ⟨(by rw [Array.toArray_toList]), (by rw [Array.length_toList]; exact hs)⟩, rfl⟩
    · rename_i c hty
      simp only [Bool.and_eq_true] at hloc
      obtain ⟨hel, hdec⟩ := hloc
      have hbz : 1 ≤ P.bytesOf (el c) := by
        rw [hty] at hszB
        exact Nat.le_of_ble_eq_true hszB
      obtain ⟨by_, hE, _, _⟩ := tyOk_sl (hT t) hty
      have hu := hE.und
      obtain ⟨_, i0, z, hi0, hz, hsz, _⟩ := hE
      have hco : P.cellsOf (el c) = csz c := cellsOf_sz (by simp [Sx.tySz, hi0, hsz])
      rcases DataW.trod_slice hu h with ⟨rfl, _⟩ | ⟨a, len, cap, elems, rest, n, hf, rfl, rfl, _, hle, hmax, hlen, hel2, _⟩
      · refine ⟨[.sl c [] .no], by (rw [hty]; show (decide (c = c) && true) = true; simp), ?_, fun _ d hd => by
          simp only [List.mem_singleton] at hd
          subst hd
          exact ⟨Nat.zero_le _, fun x hx => by cases hx⟩⟩
        simp only [Reps, Rep]
        exact ⟨_, _, rfl, ⟨fun _ _ => .nil _ _ _ _, trivial⟩, rfl⟩
      · have hf : fuel = n := by omega
        subst hf
        have each : ∀ i, i < len → ∃ y : El c, (∃ vs : List Value, w.cells? 0 (a.add (i * csz c)) (csz c) = some vs ∧ ElR (v0 el noFp w) c y vs) ∧ (M t (DataW.slice (elems.map (·.1)) (rest.map (·.1))) → SmK R c y) := fun i hi => by
          have h1 := hel2 i hi
          have hsome : ∃ e, elems[i]? = some e := ⟨_, List.getElem?_eq_getElem (by omega)⟩
          obtain ⟨e, he⟩ := hsome
          rw [he] at h1
          obtain ⟨vs, hv, ht⟩ := Option.bind_eq_some_iff.1 h1
          rw [hco] at hv
          obtain ⟨ds, hs, hr, hsm⟩ := trod_ds hM hT hrd hsb fuel (el c) vs e hel ht
          obtain ⟨y, hy⟩ := dec_shape hdec hs
          exact ⟨y, ⟨vs, hv, reps_elR hy hr⟩, fun hwt => smK_of hy (hsm ((hM.sl _ _ _ _ hu hbz hwt (by have : maxLen = 9223372036854775807 := rfl; simp only [List.length_map]; omega)).2 e.1 (List.mem_map.2 ⟨e, List.mem_of_getElem? he, rfl⟩)))⟩
        obtain ⟨ys, hyl, hys'⟩ := choose_list len each
        have hys := fun i y hy => (hys' i y hy).1
        refine ⟨[.sl c ys .no], by (rw [hty]; show (decide (c = c) && true) = true; simp), ?_, fun hwt d hd => by
          simp only [List.mem_singleton] at hd
          subst hd
          refine ⟨?_, fun y hy => ?_⟩
          · have := (hM.sl _ _ _ _ hu hbz hwt (by have : maxLen = 9223372036854775807 := rfl; simp only [List.length_map]; omega)).1
            simp only [List.length_map] at this
            omega
          · obtain ⟨i, hi, rfl⟩ := List.getElem_of_mem hy
            exact (hys' i _ (List.getElem?_eq_getElem hi)).2 hwt⟩
        simp only [Reps, Rep]
        refine ⟨_, _, rfl, ⟨slice_mk hyl.symm ?_, trivial⟩, rfl⟩
        by_cases h0 : ys = []
        · exact .inl h0
        · right
          have hsn : a.spot = none := by
            have hlt : 0 < ys.length := List.length_pos_iff.2 h0
            obtain ⟨vs, hv, hE⟩ := hys 0 _ (List.getElem?_eq_getElem hlt)
            obtain ⟨h1, h2⟩ := cells?_get hv
            have hp := csz_pos c
            have := h2 0 _ (List.getElem?_eq_getElem (by omega))
            simp only [Nat.zero_mul, Addr.add, if_true] at this
            exact cell?_spot this
          obtain ⟨b, o, s⟩ := a
          simp only at hsn
          subst hsn
          refine ⟨b, o, rfl, ⟨by omega, hmax⟩, fun i y hy w' hw j d hd => ?_⟩
          obtain ⟨vs, hv, hE⟩ := hys i y hy
          obtain ⟨_, h2⟩ := cells?_get hv
          obtain ⟨u, hu', hf⟩ := hE.2 j d hd
          have hcell := h2 j u hu'
          rw [Sx.add_mk, Sx.add_mk] at hcell
          exact ⟨u, hw.cell b _ u hcell (fun h => h), hf w' hw⟩
    · rename_i cc fs z hty
      have hbase := tyOk_base (hT t) (by rw [hty]; simp)
      have hsz : P.cellsOf t = z.length := by
        have := cellsOf_sz hbase.2.2
        rw [this, hty]
        rfl
      have hok := hT t
      unfold tyOk at hok
      rw [hty] at hok
      simp only [Bool.and_eq_true] at hok
      have hfl := hok.2
      split at hfl
      · rename_i fds hu
        simp only [Bool.and_eq_true] at hfl
        have hfl := hfl.1
        obtain ⟨xs, n, hf, rfl, hcl, hxl, hfx⟩ := DataW.trod_struct hu h
        have hf : fuel = n := by omega
        subst hf
        have key : ∀ (l : List (Nat × Nat)) (i o : Nat) (z' : List D), fs.drop i = l → contig tt rd o l z' = true → o + z'.length = cs.length → ∃ ds, shpL z' ds = true ∧ Reps (v0 el noFp w) ds (cs.drop o) ∧ (M t (DataW.agg (xs.map (·.1))) → ∀ d, d ∈ ds → SmD R d) := by
          intro l
          induction l with
          | nil =>
            intro i o z' _ hct ho
            simp only [contig, List.isEmpty_iff] at hct
            subst hct
            refine ⟨[], rfl, ?_, fun _ d hd => by cases hd⟩
            rw [List.drop_eq_nil_of_le (by simp at ho; omega)]
            simp [Reps]
          | cons q l ih =>
            intro i o z' hd hct ho
            obtain ⟨o', u⟩ := q
            simp only [contig, Bool.and_eq_true] at hct
            obtain ⟨⟨⟨⟨ho', hcu⟩, hle⟩, hsh⟩, hct⟩ := hct
            have ho' := Nat.eq_of_beq_eq_true ho'
            subst ho'
            have hle := Nat.le_of_ble_eq_true hle
            have hget : fs[i]? = some (o', u) := by
              have := congrArg (·[0]?) hd
              simpa [List.getElem?_drop] using this
            obtain ⟨fd, g1, g2, g3, _⟩ := fldsB_get hfl hget
            have g1' : fds[i]? = some fd := by simpa using g1
            have h1 := hfx i fd g1'
            rw [g2, g3] at h1
            have hxi : ∃ e, xs[i]? = some e := ⟨_, List.getElem?_eq_getElem (by
              have := (Array.getElem?_eq_some_iff.1 g1').1
              omega)⟩
            obtain ⟨e, he⟩ := hxi
            rw [he] at h1
            have hlu := List.all_eq_true.1 hrd u (by simpa using hcu)
            simp only [Bool.and_eq_true] at hlu
            have hnu := Nat.eq_of_beq_eq_true hlu.2
            have hneu : tt u ≠ .no := by
              intro e
              have := hlu.1
              unfold rdLoc at this
              rw [e] at this
              cases this
            have hcou : P.cellsOf u = (zc (tt u)).length := by rw [cellsOf_sz (tyOk_base (hT u) hneu).2.2, hnu]
            rw [hcou] at h1
            obtain ⟨ds1, s1, r1, m1⟩ := trod_ds hM hT hrd hsb fuel u _ e hcu h1
            obtain ⟨ds2, s2, r2, m2⟩ := ih (i + 1) (o' + (zc (tt u)).length) _ (by rw [← List.drop_drop, hd]; rfl) hct (by simp; omega)
            refine ⟨ds1 ++ ds2, ?_, ?_, fun hwt d hd => by
              rcases List.mem_append.1 hd with hd | hd
              · refine m1 ?_ d hd
                rw [← g2]
                exact hM.agg _ _ _ i fd e.1 hu hwt g1' (by rw [List.getElem?_map, he]; rfl)
              · exact m2 hwt d hd⟩
            · rw [← List.take_append_drop (zc (tt u)).length z']
              exact shpL_append (shpL_tr hsh s1) s2
            · have := r1.append r2
              rwa [← List.drop_drop, List.take_append_drop] at this
        obtain ⟨ds, h1, h2, h3⟩ := key fs 0 0 z rfl hloc (by rw [hcl, hsz]; omega)
        exact ⟨ds, by simpa [hty, zc, Ty.zero, cells] using h1, by simpa using h2, h3⟩
      · cases hfl
    · cases hloc
/-! ## arguments -/
def sgOk (tt : Nat → Ty) (rd : List Nat) (t : Nat) (s : Sg) : Bool := rd.contains t && match tt t, s with
  | .int k, .int k' => decide (k = k')
  | .bool, .bool => true
  | .str, .str => true
  | .sl c, .sl c' false => decide (c = c')
  | .st (some c) _ _, .sv c' => decide (c = c') && agg? c && (dec c (zc (tt t))).isSome
  | _, _ => false
theorem arg_rep {R : Nat × Nat} {M : TypeId → DataW H → Prop} (hM : Msr P R M) (hT : ∀ t, tyOk P el tt t = true) (hrd : rdB el tt rd = true) (hsb : szB P el tt rd = true) {t : TypeId} {s : Sg} (hs : sgOk tt rd t s = true) {r : Reach} {b0 : Nat} {v : Value} {d : DataW H} {ps : List MemPlace} (hval : Value.okWide P w r b0 t v) (h : DataW.Trod enc' P w 0 sp held t v d ps) (i : Nat) : ∃ y : den s, Rep (v0 el noFp w) (enc1 i s y) v ∧ (M t d → SmS R s y) := by
  obtain ⟨fuel, h⟩ := h
  simp only [sgOk, Bool.and_eq_true] at hs
  obtain ⟨hc, hs⟩ := hs
  obtain ⟨ds, hsh, hr, hsm⟩ := trod_ds hM hT hrd hsb fuel t _ _ hc h
  have hsm : M t d → ∀ d, d ∈ ds → SmD R d := hsm
  split at hs
  · rename_i k k' hty
    simp only [decide_eq_true_eq] at hs
    subst hs
    obtain ⟨n, rfl⟩ := WideShapes.okWide_int (Sx.tyI_spec (tyOk_int (hT t) hty)) hval
    simp only [hty, zc, Ty.zero, cells] at hsh
    obtain ⟨b, m, rfl, h1, h2⟩ := shpL_cons hsh
    obtain rfl := shpL_nil h2
    obtain ⟨n', rfl⟩ := shp_int h1
    simp only [Value.cells, Reps] at hr
    obtain ⟨u, us, e, hr, _⟩ := hr
    simp only [List.cons.injEq] at e
    obtain ⟨rfl, _⟩ := e
    exact ⟨n', hr, fun _ => trivial⟩
  · rename_i hty
    obtain ⟨n, rfl⟩ := WideShapes.okWide_bool (Sx.tyB_spec (tyOk_bool (hT t) hty)) hval
    exact ⟨n, by simp only [enc1, Rep], fun _ => trivial⟩
  · rename_i hty
    obtain ⟨n, rfl⟩ := WideShapes.okWide_string (Sx.tyS_spec (tyOk_str (hT t) hty)) hval
    simp only [hty, zc, Ty.zero, cells] at hsh
    obtain ⟨b, m, rfl, h1, h2⟩ := shpL_cons hsh
    obtain rfl := shpL_nil h2
    obtain ⟨n', rfl⟩ := shp_str h1
    simp only [Value.cells, Reps] at hr
    obtain ⟨u, us, e, hr, _⟩ := hr
    simp only [List.cons.injEq] at e
    obtain ⟨rfl, _⟩ := e
    exact ⟨n', hr, fun hwt => hsm hwt (.str n') (by simp)⟩
  · rename_i c c' hty
    simp only [decide_eq_true_eq] at hs
    subst hs
    obtain ⟨by_, hE, _, _⟩ := tyOk_sl (hT t) hty
    have hv : v.cells.toList = [v] := by
      have hu := hE.und
      simp only [Value.okWide, hu, Cell.okWide] at hval
      cases v <;> first | rfl | (simp [Cell.ok, hu] at hval; done) | (exfalso; simp_all [Cell.ok])
    rw [hv] at hr
    simp only [hty, zc, Ty.zero, cells] at hsh
    obtain ⟨b, m, rfl, h1, h2⟩ := shpL_cons hsh
    obtain rfl := shpL_nil h2
    obtain ⟨ys, u, rfl⟩ := shp_sl h1
    simp only [Reps] at hr
    obtain ⟨u', us, e, hr, _⟩ := hr
    simp only [List.cons.injEq] at e
    obtain ⟨rfl, _⟩ := e
    refine ⟨ys, ?_, fun hwt => hsm hwt (.sl c ys u) (by simp)⟩
    simp only [enc1, Rep] at hr ⊢
    exact ⟨hr.1, trivial⟩
  · rename_i c fs z c' hty
    simp only [Bool.and_eq_true, decide_eq_true_eq] at hs
    obtain ⟨⟨rfl, ha⟩, hdec⟩ := hs
    obtain ⟨y, hy⟩ := dec_shape hdec hsh
    have hE := reps_elR hy hr
    have hv : ∃ cs, v = .agg cs := by
      have hok := hT t
      unfold tyOk at hok
      rw [hty] at hok
      simp only [Bool.and_eq_true] at hok
      have hfl := hok.2
      split at hfl
      · rename_i fds hu
        simp only [Value.okWide, hu] at hval
        obtain ⟨cs, h1, _⟩ := hval
        exact ⟨cs, h1⟩
      · cases hfl
    obtain ⟨cs, rfl⟩ := hv
    refine ⟨y, ?_, fun hwt => smK_of hy (hsm hwt)⟩
    simp only [enc1, Rep]
    exact ⟨ha, cs.toList, by simp, by simpa [Value.cells] using hE.1, by simpa [Value.cells] using hE.2⟩
  · cases hs
def sgsOk (tt : Nat → Ty) (rd : List Nat) : List TypeId → List Sg → Bool
  | [], [] => true
  | t :: ts, s :: ss => sgOk tt rd t s && sgsOk tt rd ts ss
  | _, _ => false
theorem args_rep {R : Nat × Nat} {M : TypeId → DataW H → Prop} (hM : Msr P R M) (hT : ∀ t, tyOk P el tt t = true) (hrd : rdB el tt rd = true) (hsb : szB P el tt rd = true) {r : Reach} {b0 : Nat} : ∀ {ts : List TypeId} {sa : List Sg} {vs : List Value} {ds : List (DataW H)} {ps : List MemPlace} (i : Nat), sgsOk tt rd ts sa = true → (∀ (j : Nat) t v, ts[j]? = some t → vs[j]? = some v → Value.okWide P w r b0 t v) → DataW.TrodAll enc' P w 0 sp held ts vs ds ps → ∃ x : HV sa, Reps (v0 el noFp w) (encL i sa x) vs ∧ ((∀ (i : Nat) (t : TypeId) (d : DataW H), ts[i]? = some t → ds[i]? = some d → M t d) → SmL R sa x)
  | [], [], vs, ds, ps, i, _, _, h => by
    cases vs with
    | nil => exact ⟨(), by simp [encL, Reps], fun _ => trivial⟩
    | cons v vs => cases ds <;> simp [DataW.TrodAll] at h
  | t :: ts, [], _, _, _, _, hs, _, _ => by simp [sgsOk] at hs
  | [], s :: ss, _, _, _, _, hs, _, _ => by simp [sgsOk] at hs
  | t :: ts, s :: ss, vs, ds, ps, i, hs, hval, h => by
    simp only [sgsOk, Bool.and_eq_true] at hs
    obtain ⟨v, vs', d, ds', p, q, rfl, rfl, rfl, hd, hrest⟩ := trodAll_cons h
    obtain ⟨y, hy, hsy⟩ := arg_rep hM hT hrd hsb hs.1 (hval 0 t v rfl rfl) hd i
    obtain ⟨z, hz, hsz⟩ := args_rep hM hT hrd hsb (i + 1) hs.2 (fun j t' v' h1 h2 => hval (j + 1) t' v' (by simpa using h1) (by simpa using h2)) hrest
    cases ss with
    | nil =>
      refine ⟨y, ?_, fun hwt => hsy (hwt 0 t d rfl rfl)⟩
      simp only [encL, Reps] at hz ⊢
      exact ⟨v, vs', rfl, hy, hz⟩
    | cons s' ss =>
      refine ⟨(y, z), ?_, fun hwt => ⟨hsy (hwt 0 t d rfl rfl), hsz fun j t' d' h1 h2 => hwt (j + 1) t' d' (by simpa using h1) (by simpa using h2)⟩⟩
      simp only [encL, Reps]
      exact ⟨v, vs', rfl, hy, hz⟩
/-- the arguments read behind the call as they did -/
theorem args_stay (hl : laidOutB P = true) {W W' : World} (hb : Below W.heap.size W W') : ∀ {ts : List TypeId} {vs : List Value} {ds : List (DataW H)} {ps : List MemPlace}, (∀ t, t ∈ ts → P.readableRec t = true ∧ t < P.types.size) → (∀ x ∈ ps, x.block < W.heap.size) → DataW.TrodAll enc' P W 0 (fun _ => true) true ts vs ds ps → DataW.TrodAll enc' P W' 0 (fun b => decide (b < W.heap.size)) true ts vs ds ps
  | [], vs, ds, ps, _, _, h => by
    cases vs <;> cases ds <;> simp [DataW.TrodAll] at h ⊢
    exact h
  | t :: ts, vs, ds, ps, ht, hlt, h => by
    obtain ⟨v, vs', d, ds', p, q, rfl, rfl, rfl, hd, hrest⟩ := trodAll_cons h
    obtain ⟨h1, h2⟩ := ht t (by simp)
    exact ⟨p, q, Below.trod hl h1 h2 hd hb (fun x hx => hlt x (by simp [hx])), args_stay hl hb (fun t' h' => ht t' (by simp [h'])) (fun x hx => hlt x (by simp [hx])) hrest, rfl⟩
end
end Go.Ax

/- The document's count of how much there is in an expression, in a statement; what it bounds. -/
namespace Go.Proofs.YthndhaolemgbdaaGreatDoor
open Go.Ax
/-! ## an expression that is not much has few parts -/
def B0 : Int := 20000000000000
mutual
theorem much_size {R : Nat × Nat} (hR : R.1 ≤ R47) : ∀ (n : Nat) (e : Xpr) (most : Int), esize e ≤ n → SmExpr R e → 1 ≤ most → most ≤ 600 → 1 ≤ much1 e most ∧ much1 e most ≤ most + B0 ∧ (much1 e most < most → (esize e : Int) ≤ 2 * much1 e most - 1)
  | 0, e, _, h, _, _, _ => by have := esize_pos e; omega
  | n + 1, .mk k v nm l, most, h, hs, h1, h4 => by
    cases hs with
    | mk _ _ _ _ s1 s2 _ s3 =>
      simp only [SmVal, R47] at s1 s2 hR
      have e1 : wr .i64 ((v.s.length : Int) + (nm.length : Int)) = ((v.s.length + nm.length : Nat) : Int) := by rw [wr_id (by simp only [inI]; omega)]; omega
      have e2 : Int.tdiv ((v.s.length + nm.length : Nat) : Int) 30 = (((v.s.length + nm.length) / 30 : Nat) : Int) := rfl
      have e3 : wr .i64 (((v.s.length + nm.length) / 30 : Nat) : Int) = (((v.s.length + nm.length) / 30 : Nat) : Int) := wr_id (by simp only [inI]; omega)
      have e4 : wr .i64 (1 + (((v.s.length + nm.length) / 30 : Nat) : Int)) = 1 + (((v.s.length + nm.length) / 30 : Nat) : Int) := wr_id (by simp only [inI]; omega)
      have hz : esize (.mk k v nm l) = 1 + esizes l := esize_eq _
      simp only [much1, e1, e2, e3, e4]
      obtain ⟨q1, q2, q3⟩ := muchL_size hR n l most (1 + (((v.s.length + nm.length) / 30 : Nat) : Int)) (by omega) s3 h4 (by omega) (by simp only [B0]; omega)
      exact ⟨by omega, q2, fun h => by have := q3 h; omega⟩
theorem muchL_size {R : Nat × Nat} (hR : R.1 ≤ R47) : ∀ (n : Nat) (l : List Xpr) (most m : Int), esizes l ≤ n → (∀ x, x ∈ l → SmExpr R x) → most ≤ 600 → 1 ≤ m → m ≤ most + B0 → m ≤ muchL l most m ∧ muchL l most m ≤ most + B0 ∧ (muchL l most m < most → 2 * m + (esizes l : Int) ≤ 2 * muchL l most m)
  | n, [], most, m, _, _, _, h1, h2 => by simp only [muchL, esizes]; omega
  | n, x :: l, most, m, h, hs, h4, h1, h2 => by
    simp only [muchL]
    by_cases hm : m < most
    · rw [decide_eq_true hm, cond_t]
      have hx := esize_pos x
      simp only [esizes] at h
      have w1 : wr .i64 (most - m) = most - m := wr_id (by simp only [inI]; omega)
      obtain ⟨a1, a2, a3⟩ := much_size hR n x (most - m) (by omega) (hs x (.head _)) (by omega) (by omega)
      have w2 : wr .i64 (m + much1 x (most - m)) = m + much1 x (most - m) := wr_id (by simp only [inI, B0] at *; omega)
      obtain ⟨b1, b2, b3⟩ := muchL_size hR n l most (m + much1 x (most - m)) (by omega) (fun y hy => hs y (.tail _ hy)) h4 (by omega) (by omega)
      rw [w1, w2]
      refine ⟨by omega, b2, fun hlt => ?_⟩
      have c1 := b3 hlt
      have c2 := a3 (by omega)
      simp only [esizes]
      omega
    · rw [decide_eq_false hm, cond_f]
      exact ⟨Int.le_refl _, h2, fun h => absurd h hm⟩
end
/-! ## a statement -/
def bare (l : List Xpr) : Xpr := .mk 0 ⟨0, 0, []⟩ [] l
theorem sm_bare {R : Nat × Nat} {l : List Xpr} (h : l.length ≤ R.2 ∧ ∀ x, x ∈ l → SmExpr R x) : SmExpr R (bare l) := .mk _ _ _ _ (by simp [SmVal]) (by simp) h.1 h.2
def rmR : List (List Xpr) → Int → Int → Int
  | [], _, n => n
  | r :: l, most, n => cond (decide (n < most)) (rmR l most (wr .i64 (n + much1 (bare r) most))) n
def rmS : List SetE → Int → Int → Int
  | [], _, n => n
  | x :: l, most, n => cond (decide (n < most)) (rmS l most (wr .i64 (n + much1 x.e most))) n
def rmN : List Str → Int → Int → Int
  | [], _, n => n
  | x :: l, most, n => cond (decide (n < most)) (rmN l most (wr .i64 (n + wr .i64 (Int.tdiv (x.length : Int) 30)))) n
def n0 (s : Stm) (most : Int) : Int := wr .i64 (wr .i64 (wr .i64 (wr .i64 (wr .i64 (wr .i64 ((s.cols.length : Int) + (s.names.length : Int)) + (s.order.length : Int)) + (s.desc.length : Int)) + wr .i64 (Int.tdiv (wr .i64 ((s.name.length : Int) + (s.on.length : Int))) 30)) + much1 s.whr most) + much1 (bare s.l) most)
/-! ## exchequer/exchequerref13.MuchStmt -/
def rmuch_2_sg : Sig := ⟨110, [(1, .int .i64), (5, .int .i64), (8, .int .i64)], [(2, .ptr 0 0)], [(0, .one (.sv .stmt))], 1, 0, 0, [], []⟩
abbrev rmuch_2_V := Int × Int × Int × Stm
def rmuch_2 {R : Type} (rec : rmuch_2_V → Option R) (kx : Ex → rmuch_2_V → Option R) (v : rmuch_2_V) : Option R := match v with
 | (v14, v15, v16, w2) =>
  cond (decide (v16 < (w2.names.length : Int))) (
   cond (decide (v15 < v14)) (
    chk (inb v16 w2.names.length) (
     rec (v14, (wr .i64 (v15 + (wr .i64 (Int.tdiv ((at' .str w2.names v16).length : Int) 30)))), (wr .i64 (v16 + 1)), w2))) (
    kx (.exit 4) (v14, v15, v16, w2))) (
   kx (.exit 4) (v14, v15, v16, w2))
def rmuch_1_sg : Sig := ⟨110, [(1, .int .i64), (5, .int .i64), (7, .int .i64)], [(2, .ptr 0 0)], [(0, .one (.sv .stmt))], 1, 0, 0, [], []⟩
abbrev rmuch_1_V := Int × Int × Int × Stm
def rmuch_1 {R : Type} (rec : rmuch_1_V → Option R) (kx : Ex → rmuch_1_V → Option R) (v : rmuch_1_V) : Option R := match v with
 | (v7, v8, v9, w1) =>
  cond (decide (v9 < (w1.sets.length : Int))) (
   cond (decide (v8 < v7)) (
    chk (inb v9 w1.sets.length) (
     rec (v7, (wr .i64 (v8 + (much1 (xeta ((at' .set w1.sets v9).e)) v7))), (wr .i64 (v9 + 1)), w1))) (
    kx (.exit 2) (v7, v8, v9, w1))) (
   kx (.exit 2) (v7, v8, v9, w1))
def rmuch_0_sg : Sig := ⟨110, [(1, .int .i64), (5, .int .i64), (6, .int .i64)], [(2, .ptr 0 0)], [(0, .one (.sv .stmt))], 1, 0, 0, [], []⟩
abbrev rmuch_0_V := Int × Int × Int × Stm
def rmuch_0 {R : Type} (rec : rmuch_0_V → Option R) (kx : Ex → rmuch_0_V → Option R) (v : rmuch_0_V) : Option R := match v with
 | (v, v1, v2, w) =>
  cond (decide (v2 < (w.rows.length : Int))) (
   cond (decide (v1 < v)) (
    chk (inb v2 w.rows.length) (
     rec (v, (wr .i64 (v1 + (much1 (Xpr.mk 0 ⟨0, 0, []⟩ [] (at' .exprs w.rows v2)) v))), (wr .i64 (v2 + 1)), w))) (
    kx (.exit 0) (v, v1, v2, w))) (
   kx (.exit 0) (v, v1, v2, w))
def rmuch_px (R : Type) (k : Nat) : Px R := ⟨ttOf ttL, glT, callT [(12, callOr [.sv .expr, .int .i64] [.int .i64] much1_F)], callQT [(12, callOrQ [.sv .expr, .int .i64] [.int .i64] much1_F)], loopT [(3, loopOr k rmuch_0_sg (rmuch_0)), (7, loopOr k rmuch_1_sg (rmuch_1)), (11, loopOr k rmuch_2_sg (rmuch_2))]⟩
theorem rmuch_0_eq (R : Type) (k : Nat) : ∀ (fr : List Fr) (rec : rmuch_0_V → Option R) (kx : Ex → rmuch_0_V → Option R) (v : rmuch_0_V), round (rmuch_px R k) rmuch_0_sg (lp Tryz.f22 0) fr rec kx v = rmuch_0 rec kx v
  | fr, rec, kx, (v, v1, v2, w) => by kernel_rfl
theorem rmuch_1_eq (R : Type) (k : Nat) : ∀ (fr : List Fr) (rec : rmuch_1_V → Option R) (kx : Ex → rmuch_1_V → Option R) (v : rmuch_1_V), round (rmuch_px R k) rmuch_1_sg (lp Tryz.f22 1) fr rec kx v = rmuch_1 rec kx v
  | fr, rec, kx, (v7, v8, v9, w1) => by kernel_rfl
theorem rmuch_2_eq (R : Type) (k : Nat) : ∀ (fr : List Fr) (rec : rmuch_2_V → Option R) (kx : Ex → rmuch_2_V → Option R) (v : rmuch_2_V), round (rmuch_px R k) rmuch_2_sg (lp Tryz.f22 2) fr rec kx v = rmuch_2 rec kx v
  | fr, rec, kx, (v14, v15, v16, w2) => by kernel_rfl
def rmuch_body (k : Nat) (x : HV [.sv .stmt, .int .i64]) : Option (HV [.int .i64]) := match x with
 | (s, most) =>
  iter (fun rec => rmuch_0 rec (fun e vz => match vz with | (v3, v4, _, v6) => match e with
   | .exit 0 =>
    iter (fun rec => rmuch_1 rec (fun e vz => match vz with | (v10, v11, _, v13) => match e with
     | .exit 2 =>
      iter (fun rec => rmuch_2 rec (fun e vz => match vz with | (_, v18, _, _) => match e with
       | .exit 4 =>
        some v18
       | _ => none)) k (v10, v11, 0, v13)
     | _ => none)) k (v3, v4, 0, v6)
   | _ => none)) k (most, (wr .i64 ((wr .i64 ((wr .i64 ((wr .i64 ((wr .i64 ((wr .i64 ((s.cols.length : Int) + (s.names.length : Int))) + (s.order.length : Int))) + (s.desc.length : Int))) + (wr .i64 (Int.tdiv (wr .i64 ((s.name.length : Int) + (s.on.length : Int))) 30)))) + (much1 (xeta s.whr) most))) + (much1 (Xpr.mk 0 ⟨0, 0, []⟩ [] s.l) most))), 0, s)
theorem rmuch_eq (k : Nat) : ∀ (x : HV [.sv .stmt, .int .i64]), runF (rmuch_px _ k) Tryz.f22 [.sv .stmt, .int .i64] [.int .i64] x some = rmuch_body k x
  | (s, most) => by kernel_rfl
theorem rmuch_run (k : Nat) : FnOk Tryz.prog elT glT 22 [.sv .stmt, .int .i64] [.int .i64] (rmuch_body k) := by
  refine fnOk_run Tryz.func22 rfl (by kernel_rfl) follows (by kernel_rfl) (n := 3) (by kernel_rfl) (px := rmuch_px _ k) (fun cx hP hel hgl => ?_) (rmuch_eq k)
  have hp0 : PxOk cx (rmuch_px (HV [.int .i64]) k) := ⟨fun t => by rw [hP, hel]; exact tt_ok ttL_ok t, by rw [hgl]; rfl⟩
  have hc0 : CallOk cx (rmuch_px (HV [.int .i64]) k) := callT_ok rfl (cfs_cons (cf_or (by rw [hP, hel, hgl]; exact much1_ok) (by kernel_rfl)) cfs_nil)
  have hq0 : CallQOk cx (rmuch_px (HV [.int .i64]) k) := callQT_ok rfl (cqfs_cons (cqf_or (by rw [hP, hel, hgl]; exact much1_ok) (by kernel_rfl)) cqfs_nil)
  have hlrmuch_0 : LoopOk cx (rmuch_px (HV [.int .i64]) k) (lp Tryz.f22 0) := loop_ok hp0 hc0 hq0 (by rw [hP]; exact follows) (k := k) (s := rmuch_0_sg) (step := rmuch_0) (fun _ _ => by kernel_rfl) (by kernel_rfl) (rmuch_0_eq _ k) (loops_in (n := 0) (by kernel_rfl) all0)
  have hlrmuch_1 : LoopOk cx (rmuch_px (HV [.int .i64]) k) (lp Tryz.f22 1) := loop_ok hp0 hc0 hq0 (by rw [hP]; exact follows) (k := k) (s := rmuch_1_sg) (step := rmuch_1) (fun _ _ => by kernel_rfl) (by kernel_rfl) (rmuch_1_eq _ k) (loops_in (n := 0) (by kernel_rfl) all0)
  have hlrmuch_2 : LoopOk cx (rmuch_px (HV [.int .i64]) k) (lp Tryz.f22 2) := loop_ok hp0 hc0 hq0 (by rw [hP]; exact follows) (k := k) (s := rmuch_2_sg) (step := rmuch_2) (fun _ _ => by kernel_rfl) (by kernel_rfl) (rmuch_2_eq _ k) (loops_in (n := 0) (by kernel_rfl) all0)
  exact ⟨hp0, hc0, hq0, (allS (allS (allS all0 hlrmuch_0) hlrmuch_1) hlrmuch_2)⟩
def rmuch (s : Stm) (most : Int) : Int := rmN s.names most (rmS s.sets most (rmR s.rows most (n0 s most)))
def rmuch_F : FT [.sv .stmt, .int .i64] [.int .i64] := fun x => some (rmuch x.1 x.2)
theorem rmuch_0_loop {R : Type} {kx : Ex → rmuch_0_V → Option R} {s : Stm} {most : Int} {c : Int → Option R} (hn : ln s.rows.length) (h2 : ∀ n i, kx (.exit 0) (most, n, i, s) = c n) (k : Nat) (hk : s.rows.length < k) (n : Int) :
    iter (fun rec => rmuch_0 rec kx) k (most, n, 0, s) = c (rmR s.rows most n) := by
  refine (iter_ind s.rows.length (fun i n => (most, n, (i : Int), s)) (fun _ _ => True) (fun i n => c (rmR (s.rows.drop i) most n)) (fun i hi n _ rec hr => ?_) (fun n _ rec => ?_) k 0 n (Nat.zero_le _) (by omega) trivial).trans (by rw [List.drop_zero])
  · have hr := hr (wr .i64 (n + much1 (bare s.rows[i]) most)) trivial
    simp only [rmuch_0, lt_t hi, cond_t, inb_t hi, chk, at_nat (c := .exprs) hi, wr_succ hi hn, drop_cons hi, rmR, h2]
    cases decide (n < most) with
    | false => rfl
    | true => exact hr
  · simp only [rmuch_0, lt_n, cond_f, h2]
    rw [List.drop_eq_nil_of_le (Nat.le_refl _)]
    rfl
theorem rmuch_1_loop {R : Type} {kx : Ex → rmuch_1_V → Option R} {s : Stm} {most : Int} {c : Int → Option R} (hn : ln s.sets.length) (h2 : ∀ n i, kx (.exit 2) (most, n, i, s) = c n) (k : Nat) (hk : s.sets.length < k) (n : Int) :
    iter (fun rec => rmuch_1 rec kx) k (most, n, 0, s) = c (rmS s.sets most n) := by
  refine (iter_ind s.sets.length (fun i n => (most, n, (i : Int), s)) (fun _ _ => True) (fun i n => c (rmS (s.sets.drop i) most n)) (fun i hi n _ rec hr => ?_) (fun n _ rec => ?_) k 0 n (Nat.zero_le _) (by omega) trivial).trans (by rw [List.drop_zero])
  · have hr := hr (wr .i64 (n + much1 s.sets[i].e most)) trivial
    simp only [rmuch_1, lt_t hi, cond_t, inb_t hi, chk, at_nat (c := .set) hi, wr_succ hi hn, drop_cons hi, rmS, h2, xeta_eq]
    cases decide (n < most) with
    | false => rfl
    | true => exact hr
  · simp only [rmuch_1, lt_n, cond_f, h2]
    rw [List.drop_eq_nil_of_le (Nat.le_refl _)]
    rfl
theorem rmuch_2_loop {R : Type} {kx : Ex → rmuch_2_V → Option R} {s : Stm} {most : Int} {c : Int → Option R} (hn : ln s.names.length) (h2 : ∀ n i, kx (.exit 4) (most, n, i, s) = c n) (k : Nat) (hk : s.names.length < k) (n : Int) :
    iter (fun rec => rmuch_2 rec kx) k (most, n, 0, s) = c (rmN s.names most n) := by
  refine (iter_ind s.names.length (fun i n => (most, n, (i : Int), s)) (fun _ _ => True) (fun i n => c (rmN (s.names.drop i) most n)) (fun i hi n _ rec hr => ?_) (fun n _ rec => ?_) k 0 n (Nat.zero_le _) (by omega) trivial).trans (by rw [List.drop_zero])
  · have hr := hr (wr .i64 (n + wr .i64 (Int.tdiv (s.names[i].length : Int) 30))) trivial
    simp only [rmuch_2, lt_t hi, cond_t, inb_t hi, chk, at_nat (c := .str) hi, wr_succ hi hn, drop_cons hi, rmN, h2]
    cases decide (n < most) with
    | false => rfl
    | true => exact hr
  · simp only [rmuch_2, lt_n, cond_f, h2]
    rw [List.drop_eq_nil_of_le (Nat.le_refl _)]
    rfl
theorem rmuch_ok : FnOk Tryz.prog elT glT 22 [.sv .stmt, .int .i64] [.int .i64] rmuch_F := .fin 0 rmuch_run fun (s, most) r hb hx => ⟨s.rows.length + s.sets.length + s.names.length + 1, by
  have hb := hb.1
  simp only [rmuch_F, Option.some.injEq] at hx
  rw [← hx]
  simp only [rmuch_body, xeta_eq]
  refine (rmuch_0_loop (c := fun n => some (rmN s.names most (rmS s.sets most n))) hb.rows.1 (fun n i => ?_) _ (by omega) _).trans rfl
  refine (rmuch_1_loop (c := fun n => some (rmN s.names most n)) hb.sets.1 (fun n i => ?_) _ (by omega) _).trans rfl
  exact rmuch_2_loop (c := some) hb.names.1 (fun n i => rfl) _ (by omega) _⟩
/-! ## what that bounds -/
theorem rmR_fact {R : Nat × Nat} (hR : R.1 ≤ R47) : ∀ (l : List (List Xpr)) (n : Int), 0 ≤ n → n ≤ 1000000000000000 → (∀ r, r ∈ l → r.length ≤ R.2 ∧ ∀ x, x ∈ r → SmExpr R x) → n ≤ rmR l 600 n ∧ rmR l 600 n ≤ 1000000000000000 ∧ (rmR l 600 n < 600 → n + (l.length : Int) ≤ rmR l 600 n ∧ ∀ r, r ∈ l → esizes r ≤ 1200)
  | [], n, _, h, _ => ⟨Int.le_refl _, h, fun _ => ⟨by simp [rmR], fun r hr => by cases hr⟩⟩
  | r :: l, n, h0, h1, hs => by
    simp only [rmR]
    by_cases hn : n < 600
    · have hm := much_size hR (esize (bare r)) (bare r) 600 (Nat.le_refl _) (sm_bare (hs r List.mem_cons_self)) (by omega) (by omega)
      simp only [B0] at hm
      have w : wr .i64 (n + much1 (bare r) 600) = n + much1 (bare r) 600 := wr_id (by simp only [inI]; omega)
      rw [decide_eq_true hn, cond_t, w]
      have ih := rmR_fact hR l (n + much1 (bare r) 600) (by omega) (by omega) (fun q hq => hs q (List.mem_cons_of_mem _ hq))
      refine ⟨by omega, ih.2.1, fun h => ?_⟩
      obtain ⟨h3, h4⟩ := ih.2.2 h
      refine ⟨by simp only [List.length_cons]; omega, fun q hq => ?_⟩
      rcases List.mem_cons.1 hq with rfl | hq
      · have hz : esize (bare q) = 1 + esizes q := esize_eq _
        have := hm.2.2 (by omega)
        omega
      · exact h4 q hq
    · rw [decide_eq_false hn, cond_f]
      exact ⟨Int.le_refl _, h1, fun h => absurd h hn⟩
theorem rmS_fact {R : Nat × Nat} (hR : R.1 ≤ R47) : ∀ (l : List SetE) (n : Int), 0 ≤ n → n ≤ 1000000000000000 → (∀ x, x ∈ l → SmExpr R x.e) → n ≤ rmS l 600 n ∧ rmS l 600 n ≤ 1000000000000000 ∧ (rmS l 600 n < 600 → n + (l.length : Int) ≤ rmS l 600 n ∧ ∀ x, x ∈ l → esize x.e ≤ 1200)
  | [], n, _, h, _ => ⟨Int.le_refl _, h, fun _ => ⟨by simp [rmS], fun r hr => by cases hr⟩⟩
  | x :: l, n, h0, h1, hs => by
    simp only [rmS]
    by_cases hn : n < 600
    · have hm := much_size hR (esize x.e) x.e 600 (Nat.le_refl _) (hs x List.mem_cons_self) (by omega) (by omega)
      simp only [B0] at hm
      have w : wr .i64 (n + much1 x.e 600) = n + much1 x.e 600 := wr_id (by simp only [inI]; omega)
      rw [decide_eq_true hn, cond_t, w]
      have ih := rmS_fact hR l (n + much1 x.e 600) (by omega) (by omega) (fun q hq => hs q (List.mem_cons_of_mem _ hq))
      refine ⟨by omega, ih.2.1, fun h => ?_⟩
      obtain ⟨h3, h4⟩ := ih.2.2 h
      refine ⟨by simp only [List.length_cons]; omega, fun q hq => ?_⟩
      rcases List.mem_cons.1 hq with rfl | hq
      · have := hm.2.2 (by omega)
        omega
      · exact h4 q hq
    · rw [decide_eq_false hn, cond_f]
      exact ⟨Int.le_refl _, h1, fun h => absurd h hn⟩
theorem rmN_fact : ∀ (l : List Str) (n : Int), 0 ≤ n → n ≤ 1000000000000000 → (∀ x, x ∈ l → x.length ≤ R47) → n ≤ rmN l 600 n
  | [], n, _, _, _ => Int.le_refl _
  | x :: l, n, h0, h1, hs => by
    simp only [rmN]
    by_cases hn : n < 600
    · have hx := hs x List.mem_cons_self
      simp only [R47] at hx
      have e2 : Int.tdiv (x.length : Int) 30 = ((x.length / 30 : Nat) : Int) := rfl
      have e3 : wr .i64 ((x.length / 30 : Nat) : Int) = ((x.length / 30 : Nat) : Int) := wr_id (by simp only [inI]; omega)
      have w : wr .i64 (n + ((x.length / 30 : Nat) : Int)) = n + ((x.length / 30 : Nat) : Int) := wr_id (by simp only [inI]; omega)
      rw [decide_eq_true hn, cond_t, e2, e3, w]
      have ih := rmN_fact l (n + ((x.length / 30 : Nat) : Int)) (by omega) (by omega) (fun q hq => hs q (List.mem_cons_of_mem _ hq))
      omega
    · rw [decide_eq_false hn, cond_f]
      exact Int.le_refl _
/-- a statement that is not much -/
structure Few (s : Stm) : Prop where
  cols : s.cols.length ≤ 600
  names : s.names.length ≤ 600
  order : s.order.length ≤ 600
  desc : s.desc.length ≤ 600
  name : s.name.length + s.on.length ≤ 20000
  whr : esize s.whr ≤ 1200
  l : esizes s.l ≤ 1200
  rows : s.rows.length ≤ 600 ∧ ∀ r, r ∈ s.rows → esizes r ≤ 1200
  sets : s.sets.length ≤ 600 ∧ ∀ x, x ∈ s.sets → esize x.e ≤ 1200
theorem rmuch_few {s : Stm} (hs : SmStm (R47, R47) s) (h : rmuch s 600 < 600) : Few s := by
  have hw := much_size (R := (R47, R47)) (Nat.le_refl _) (esize s.whr) s.whr 600 (Nat.le_refl _) hs.whr (by omega) (by omega)
  have hl := much_size (R := (R47, R47)) (Nat.le_refl _) (esize (bare s.l)) (bare s.l) 600 (Nat.le_refl _) (sm_bare hs.l) (by omega) (by omega)
  have hz : esize (bare s.l) = 1 + esizes s.l := esize_eq _
  have c1 := hs.cols.1
  have c2 := hs.names.1
  have c3 := hs.order.1
  have c4 := hs.desc
  have c5 := hs.name
  have c6 := hs.on
  simp only [R47] at c1 c2 c3 c4 c5 c6
  simp only [B0] at hw hl
  have e1 : wr .i64 ((s.cols.length : Int) + (s.names.length : Int)) = (s.cols.length : Int) + (s.names.length : Int) := wr_id (by simp only [inI]; omega)
  have e2 : wr .i64 ((s.cols.length : Int) + (s.names.length : Int) + (s.order.length : Int)) = (s.cols.length : Int) + (s.names.length : Int) + (s.order.length : Int) := wr_id (by simp only [inI]; omega)
  have e3 : wr .i64 ((s.cols.length : Int) + (s.names.length : Int) + (s.order.length : Int) + (s.desc.length : Int)) = (s.cols.length : Int) + (s.names.length : Int) + (s.order.length : Int) + (s.desc.length : Int) := wr_id (by simp only [inI]; omega)
  have e4 : wr .i64 ((s.name.length : Int) + (s.on.length : Int)) = ((s.name.length + s.on.length : Nat) : Int) := by rw [wr_id (by simp only [inI]; omega)]; omega
  have e5 : Int.tdiv ((s.name.length + s.on.length : Nat) : Int) 30 = (((s.name.length + s.on.length) / 30 : Nat) : Int) := rfl
  have e6 : wr .i64 (((s.name.length + s.on.length) / 30 : Nat) : Int) = (((s.name.length + s.on.length) / 30 : Nat) : Int) := wr_id (by simp only [inI]; omega)
  have e7 : wr .i64 ((s.cols.length : Int) + (s.names.length : Int) + (s.order.length : Int) + (s.desc.length : Int) + (((s.name.length + s.on.length) / 30 : Nat) : Int)) = (s.cols.length : Int) + (s.names.length : Int) + (s.order.length : Int) + (s.desc.length : Int) + (((s.name.length + s.on.length) / 30 : Nat) : Int) := wr_id (by simp only [inI]; omega)
  have e8 : wr .i64 ((s.cols.length : Int) + (s.names.length : Int) + (s.order.length : Int) + (s.desc.length : Int) + (((s.name.length + s.on.length) / 30 : Nat) : Int) + much1 s.whr 600) = (s.cols.length : Int) + (s.names.length : Int) + (s.order.length : Int) + (s.desc.length : Int) + (((s.name.length + s.on.length) / 30 : Nat) : Int) + much1 s.whr 600 := wr_id (by simp only [inI]; omega)
  have e9 : wr .i64 ((s.cols.length : Int) + (s.names.length : Int) + (s.order.length : Int) + (s.desc.length : Int) + (((s.name.length + s.on.length) / 30 : Nat) : Int) + much1 s.whr 600 + much1 (bare s.l) 600) = (s.cols.length : Int) + (s.names.length : Int) + (s.order.length : Int) + (s.desc.length : Int) + (((s.name.length + s.on.length) / 30 : Nat) : Int) + much1 s.whr 600 + much1 (bare s.l) 600 := wr_id (by simp only [inI]; omega)
  have e0 : n0 s 600 = (s.cols.length : Int) + (s.names.length : Int) + (s.order.length : Int) + (s.desc.length : Int) + (((s.name.length + s.on.length) / 30 : Nat) : Int) + much1 s.whr 600 + much1 (bare s.l) 600 := by
    simp only [n0, e1, e2, e3, e4, e5, e6, e7, e8, e9]
  have hr := rmR_fact (R := (R47, R47)) (Nat.le_refl _) s.rows (n0 s 600) (by omega) (by omega) hs.rows.2
  have hst := rmS_fact (R := (R47, R47)) (Nat.le_refl _) s.sets (rmR s.rows 600 (n0 s 600)) (by omega) (by omega) (fun x hx => (hs.sets.2 x hx).2)
  have hn := rmN_fact s.names (rmS s.sets 600 (rmR s.rows 600 (n0 s 600))) (by omega) (by omega) hs.names.2
  simp only [rmuch] at h
  have hst2 := hst.2.2 (by omega)
  have hr2 := hr.2.2 (by omega)
  have hw2 := hw.2.2 (by omega)
  have hl2 := hl.2.2 (by omega)
  exact ⟨by omega, by omega, by omega, by omega, by omega, by omega, by omega, ⟨by omega, hr2.2⟩, ⟨by omega, hst2.2⟩⟩
end Go.Proofs.YthndhaolemgbdaaGreatDoor

/- How long texts of expressions are. -/
namespace Go.Proofs.YthndhaolemgbdaaGreatDoor
open Go.Ax
theorem numT_len {n : Int} (h : inI n) : (numT n).length ≤ 21 := by
  have hd : (digs n.natAbs).length ≤ 20 := digs_len 20 _ (by
    simp only [inI] at h
    have : pw 20 = 100000000000000000000 := by kernel_rfl
    omega)
  have ht : (if n = 0 then ([48] : Str) else txt (digs n.natAbs)).length ≤ 20 := by
    split
    · simp
    · rw [txt_len]; exact hd
  unfold numT
  simp only
  split
  · simp only [List.length_cons]; omega
  · omega
theorem value_len {v : Val} (h : vright v = true) (hn : inI v.n) : (vprint v).length ≤ 2003 := by
  simp only [vprint, h, cond_t]
  split
  · split <;> simp
  · split
    · have := numT_len hn
      omega
    · split
      · rename_i h4
        have h1 := right_len h (.inl h4)
        have h2 := quo_len v.s
        simp only [List.length_cons, List.length_append, List.length_nil]; omega
      · split
        · rename_i h5
          have h1 := right_len h (.inr h5)
          have h2 := hexs_len v.s
          simp only [List.length_cons, List.length_append, List.length_nil]; omega
        · simp
theorem name_len {s : Str} (h : lname s = true) : s.length ≤ 30 := by
  have h : Lp.nameF s = true := h
  simp only [Lp.nameF, Bool.and_eq_true, decide_eq_true_eq] at h
  omega
theorem name_ne {s : Str} (h : lname s = true) : s ≠ [] := by
  rintro rfl
  cases h
theorem sgn_len {k : Int} (h : isOp k) : (sgn k).length ≤ 3 := by
  simp only [isOp] at h
  have : k = 4 ∨ k = 5 ∨ k = 6 ∨ k = 7 ∨ k = 8 ∨ k = 9 ∨ k = 10 ∨ k = 11 ∨ k = 12 ∨ k = 13 ∨ k = 14 := by omega
  rcases this with rfl | rfl | rfl | rfl | rfl | rfl | rfl | rfl | rfl | rfl | rfl <;> decide
theorem esize_one (k : Int) (v : Val) (s : Str) (x : Xpr) : esize (.mk k v s [x]) = 2 + esize x := by
  simp only [esize, esizes]; omega
theorem esize_two (k : Int) (v : Val) (s : Str) (x y : Xpr) : esize (.mk k v s [x, y]) = 3 + (esize x + esize y) := by
  simp only [esize, esizes]; omega
theorem etx_len : ∀ (n : Nat) (e : Xpr) (m : Int), esize e ≤ n → eright e m = true → BdExpr e → (etx e).length ≤ 4000 * esize e
  | 0, e, _, h, _, _ => by have := esize_pos e; omega
  | n + 1, e, m, h, hr, hb => by
    have ih : ∀ x, x ∈ e.l → (etx x).length ≤ 4000 * esize x := fun x hx => by
      obtain ⟨m', hm⟩ := right_sub hr hx
      refine etx_len n x m' ?_ hm ((bd_ls hb).2 x hx)
      have := esize_mem hx
      rw [esize_eq] at h
      omega
    have sh := shape_of hr
    cases sh with
    | atom _ hk =>
      obtain ⟨_, ho, _⟩ := eright_parts hr
      have hp := esize_pos e
      rw [etx_un]
      rcases hk with k1 | k2
      · rw [if_pos k1]
        have := value_len (eok_val ho k1).1 (bd_v hb).1.2.1
        omega
      · rw [if_neg (by omega), if_pos k2]
        have := name_len (eok_name ho k2).1
        omega
    | not x =>
      have := ih x List.mem_cons_self
      rw [etx_not, esize_one]
      simp only [List.length_cons, List.length_append, List.length_nil]
      omega
    | neg x =>
      have := ih x List.mem_cons_self
      rw [etx_neg, esize_one]
      simp only [List.length_cons, List.length_append, List.length_nil]
      omega
    | isn x =>
      have := ih x List.mem_cons_self
      rw [etx_isn, esize_one]
      simp only [List.length_cons, List.length_append, List.length_nil]
      omega
    | op k x y hk =>
      have h1 := ih x List.mem_cons_self
      have h2 := ih y (by simp [Xpr.l])
      have h3 := sgn_len hk
      rw [etx_op hk, esize_two]
      simp only [List.length_cons, List.length_append, List.length_nil]
      omega
theorem rx_len {e : Xpr} {m : Int} (hr : eright e m = true) (hb : BdExpr e) : (etx e).length ≤ 4000 * esize e := etx_len (esize e) e m (Nat.le_refl _) hr hb
theorem etx_ne {e : Xpr} {m : Int} (hr : eright e m = true) : etx e ≠ [] := by
  have sh := shape_of hr
  cases sh with
  | atom _ hk =>
    obtain ⟨_, ho, _⟩ := eright_parts hr
    rw [etx_un]
    rcases hk with k1 | k2
    · rw [if_pos k1]
      exact print_ne (eok_val ho k1).1
    · rw [if_neg (by omega), if_pos k2]
      exact name_ne (eok_name ho k2).1
  | not x => rw [etx_not]; simp
  | neg x => rw [etx_neg]; simp
  | isn x => rw [etx_isn]; simp
  | op k x y hk => rw [etx_op hk]; simp
/-! ## the text of an expression that is not much -/
theorem text_ok {e : Xpr} (hr : eright e 30 = true) (hb : BdExpr e) (hz : esize e ≤ 10000) : atext e = some (etx e, 0) := by
  have hl := rx_len hr hb
  simp only [atext, hr, right_ok hr, cond_t]
  rw [app_some (by simp only [List.length_nil]; omega)]
  rfl
theorem text_no {e : Xpr} (hr : eright e 30 = false) : atext e = some ([], 2) := by
  simp only [atext, hr, cond_f]
theorem aexpr_is (e : Xpr) : aexpr e = cond (eright e 30) 0 2 := by
  simp only [aexpr]
  cases eright e 30 <;> rfl
end Go.Proofs.YthndhaolemgbdaaGreatDoor

/- How long texts of statements are; the text of a statement that is not much. -/
namespace Go.Proofs.YthndhaolemgbdaaGreatDoor
open Go.Ax
theorem tail_len {α : Type} (f : α → Str) (B : Nat) : ∀ l : List α, (∀ x, x ∈ l → (f x).length ≤ B) → (tailT f l).length ≤ l.length * (B + 2)
  | [], _ => by simp [tailT]
  | x :: l, h => by
    have h1 := h x List.mem_cons_self
    have h2 := tail_len f B l fun y hy => h y (List.mem_cons_of_mem _ hy)
    simp only [tailT, List.length_append, List.length_cons, List.length_nil]
    rw [Nat.add_mul]
    omega
theorem list_len {α : Type} (f : α → Str) (B : Nat) (l : List α) (h : ∀ x, x ∈ l → (f x).length ≤ B) : (listT f l).length ≤ l.length * (B + 2) := by
  have := tail_len f B l h
  cases l with
  | nil => simp [listT]
  | cons x l =>
    simp only [tailT, listT, List.length_append, List.length_cons, List.length_nil] at this ⊢
    omega
theorem tail_xlen : ∀ l : List Xpr, (∀ x, x ∈ l → RX x) → (tailT etx l).length ≤ 4002 * esizes l
  | [], _ => by simp [tailT]
  | x :: l, h => by
    have hx := h x List.mem_cons_self
    have h1 := rx_len hx.1 hx.2
    have h2 := tail_xlen l fun y hy => h y (List.mem_cons_of_mem _ hy)
    simp only [tailT, esizes, List.length_append, List.length_cons, List.length_nil]
    omega
theorem list_xlen (l : List Xpr) (h : ∀ x, x ∈ l → RX x) : (listT etx l).length ≤ 4002 * esizes l := by
  have := tail_xlen l h
  cases l with
  | nil => simp [listT]
  | cons x l =>
    simp only [tailT, listT, List.length_append, List.length_cons, List.length_nil] at this ⊢
    omega
theorem chk_len : ∀ l : List Xpr, (∀ x, x ∈ l → RX x) → ((l.map chkT).flatten).length ≤ 4010 * esizes l
  | [], _ => by simp
  | x :: l, h => by
    have hx := h x List.mem_cons_self
    have h1 := rx_len hx.1 hx.2
    have h2 := chk_len l fun y hy => h y (List.mem_cons_of_mem _ hy)
    have h3 : (chkT x).length ≤ 4000 * esize x + 10 := by
      simp only [chkT]
      cases decide (parts x.kind = 0) <;> simp only [cond_t, cond_f, List.length_append, List.length_cons, List.length_nil] <;> omega
    simp only [List.map_cons, List.flatten_cons, List.length_append, esizes]
    omega
theorem nmT_len {l : List Str} (h : l.length ≤ 600) (hn : ∀ x, x ∈ l → lname x = true) : (nmT l).length ≤ 20000 := by
  have := list_len (fun x : Str => x) 30 l fun x hx => name_len (hn x hx)
  simp only [nmT, join_list, List.length_append, List.length_cons, List.length_nil]
  omega
theorem okNm_of {l : List Str} (h : l.length ≤ 600) (hn : ∀ x, x ∈ l → lname x = true) : okNm l = true := by
  have := list_len (fun x : Str => x) 30 l fun x hx => name_len (hn x hx)
  simp only [okNm, join_list, Bool.and_eq_true, decide_eq_true_eq]
  omega
theorem kinds_len (k : Int) : (at' .str kindsL k).length ≤ 5 := by
  have h : ∀ i, (kindsL.getD i ([] : Str)).length ≤ 5 := fun i => by
    match i with
    | 0 | 1 | 2 | 3 | 4 | 5 => decide
    | i + 6 => simp [kindsL]
  exact h _
theorem colT_len {c : Col} (h : CX c) : (colT c).length ≤ 100 := by
  obtain ⟨h1, h2⟩ := h
  simp only [colOk, Bool.and_eq_true, Bool.or_eq_true, decide_eq_true_eq] at h1
  have h3 := name_len h2
  have h4 := kinds_len c.kind
  have h5 : (cond c.notNull [32, 78, 79, 84, 32, 78, 85, 76, 76] ([] : Str)).length ≤ 9 := by cases c.notNull <;> simp
  have h6 : (cond c.unique [32, 85, 78, 73, 81, 85, 69] ([] : Str)).length ≤ 7 := by cases c.unique <;> simp
  have h7 : (cond (decide (c.ref = [])) [] ([32, 82, 69, 70, 69, 82, 69, 78, 67, 69, 83, 32] ++ c.ref)).length ≤ 42 := by
    rcases h1.2 with h | h
    · rw [decide_eq_true h]; simp
    · have := name_len h
      cases decide (c.ref = []) <;> simp only [cond_t, cond_f, List.length_append, List.length_cons, List.length_nil] <;> omega
  simp only [colT, List.length_append, List.length_cons, List.length_nil]
  omega
theorem whT_len {s : Stm} (h : WX s) (hf : esize s.whr ≤ 1200) : (whT s).length ≤ 5000000 := by
  simp only [whT]
  cases hs : s.has with
  | false => simp
  | true =>
    have hx := wx_rx h hs
    have := rx_len hx.1 hx.2
    simp only [cond_t, List.length_append, List.length_cons, List.length_nil]
    omega
theorem okW_of {s : Stm} (h : WX s) : okW s = true := by
  simp only [okW]
  cases hs : s.has with
  | false => rfl
  | true => exact right_ok (wx_rx h hs).1
theorem all_ok {l : List Xpr} (h : ∀ x, x ∈ l → RX x) : l.all okx = true := List.all_eq_true.2 fun x hx => right_ok (h x hx).1
theorem limT_len {s : Stm} (h : inI s.most) : (limT s).length ≤ 40 := by
  simp only [limT]
  cases decide (0 ≤ s.most) with
  | false => simp
  | true =>
    have := numT_len h
    have e : vprint ⟨3, s.most, []⟩ = numT s.most := rfl
    rw [e]
    simp only [cond_t, List.length_append, List.length_cons, List.length_nil]
    omega
theorem print_ok {s : Stm} (h : checkB s = true) (hb : BdStm s) (hf : Few s) : okP s = true ∧ (printT s).length ≤ 10000000000 := by
  obtain ⟨⟨s1, s2⟩, s3⟩ := check_kind h
  have ln := name_len s1
  rcases s3 with ⟨k, a1, a2, a3, a4, a5⟩ | k | ⟨k, a1, a2, a3⟩ | ⟨k, a1, a2⟩ | ⟨k, a1, a2, a3⟩ | ⟨k, a1⟩ | ⟨k, a1, a2, a3, a4, a5⟩
  · have hx := rx_all a5 hb.l
    refine ⟨?_, ?_⟩
    · simp only [okP, if_pos k, okT, Bool.and_eq_true]
      refine ⟨⟨List.all_eq_true.2 fun c hc => ?_, okNm_of hf.names a4⟩, all_ok hx⟩
      have h1 := (a1 c hc).1
      simp only [colOk, Bool.and_eq_true, decide_eq_true_eq] at h1
      simp only [inb, Bool.and_eq_true, decide_eq_true_eq]
      omega
    · have l1 := list_len colT 100 s.cols fun c hc => colT_len (a1 c hc)
      have l2 := nmT_len hf.names a4
      have l3 := chk_len s.l hx
      have f1 := hf.cols
      have f2 := hf.l
      simp only [printT, if_pos k, tableT, List.length_append, List.length_cons, List.length_nil]
      omega
  · refine ⟨?_, ?_⟩
    · simp only [okP, if_neg (show ¬ s.kind = 1 by omega), if_pos k]
    · rcases k with k | k <;> simp only [printT, k] <;> simp <;> omega
  · have l1 := name_len a1
    have l2 := nmT_len hf.names a3
    refine ⟨?_, ?_⟩
    · simp only [okP, if_neg (show ¬ s.kind = 1 by omega), if_neg (show ¬ (s.kind = 2 ∨ s.kind = 4) by omega), if_pos k, okNm_of hf.names a3]
    · simp only [printT, if_neg (show ¬ s.kind = 1 by omega), if_neg (show ¬ s.kind = 2 by omega), if_pos k, List.length_append, List.length_cons, List.length_nil]
      omega
  · have hx : ∀ r, r ∈ s.rows → ∀ x, x ∈ r → RX x := fun r hr => rx_all (a2 r hr).2 (hb.rows.2 r hr)
    refine ⟨?_, ?_⟩
    · simp only [okP, if_neg (show ¬ s.kind = 1 by omega), if_neg (show ¬ (s.kind = 2 ∨ s.kind = 4) by omega), if_neg (show ¬ s.kind = 3 by omega), if_pos k]
      exact List.all_eq_true.2 fun r hr => all_ok (hx r hr)
    · have l1 := list_len rowT 5000000 s.rows fun r hr => by
        have := list_xlen r (hx r hr)
        have := hf.rows.2 r hr
        simp only [rowT, List.length_append, List.length_cons, List.length_nil]
        omega
      have f1 := hf.rows.1
      simp only [printT, if_neg (show ¬ s.kind = 1 by omega), if_neg (show ¬ s.kind = 2 by omega), if_neg (show ¬ s.kind = 3 by omega), if_neg (show ¬ s.kind = 4 by omega), if_pos k, List.length_append, List.length_cons, List.length_nil]
      omega
  · have hw : WX s := ⟨a3, hb.whr⟩
    refine ⟨?_, ?_⟩
    · simp only [okP, if_neg (show ¬ s.kind = 1 by omega), if_neg (show ¬ (s.kind = 2 ∨ s.kind = 4) by omega), if_neg (show ¬ s.kind = 3 by omega), if_neg (show ¬ s.kind = 5 by omega), if_pos k, okW_of hw, Bool.and_true]
      exact List.all_eq_true.2 fun x hx => right_ok (a2 x hx).1
    · have l1 := list_len setT 5000000 s.sets fun x hx => by
        have := rx_len (a2 x hx).1 (hb.sets.2 x hx).2
        have := name_len (a2 x hx).2
        have := hf.sets.2 x hx
        simp only [setT, List.length_append, List.length_cons, List.length_nil]
        omega
      have l2 := whT_len hw hf.whr
      have f1 := hf.sets.1
      simp only [printT, if_neg (show ¬ s.kind = 1 by omega), if_neg (show ¬ s.kind = 2 by omega), if_neg (show ¬ s.kind = 3 by omega), if_neg (show ¬ s.kind = 4 by omega), if_neg (show ¬ s.kind = 5 by omega), if_pos k, List.length_append, List.length_cons, List.length_nil]
      omega
  · have hw : WX s := ⟨a1, hb.whr⟩
    refine ⟨?_, ?_⟩
    · simp only [okP, if_neg (show ¬ s.kind = 1 by omega), if_neg (show ¬ (s.kind = 2 ∨ s.kind = 4) by omega), if_neg (show ¬ s.kind = 3 by omega), if_neg (show ¬ s.kind = 5 by omega), if_neg (show ¬ s.kind = 6 by omega), if_pos k, okW_of hw]
    · have l2 := whT_len hw hf.whr
      simp only [printT, if_neg (show ¬ s.kind = 1 by omega), if_neg (show ¬ s.kind = 2 by omega), if_neg (show ¬ s.kind = 3 by omega), if_neg (show ¬ s.kind = 4 by omega), if_neg (show ¬ s.kind = 5 by omega), if_neg (show ¬ s.kind = 6 by omega), if_pos k, List.length_append, List.length_cons, List.length_nil]
      omega
  · have hw : WX s := ⟨a2, hb.whr⟩
    have hx := rx_all a1 hb.l
    refine ⟨?_, ?_⟩
    · simp only [okP, k, okS, okW_of hw, all_ok hx, a4]
      rfl
    · have l1 := list_xlen s.l hx
      have l2 := whT_len hw hf.whr
      have l3 := list_len ordT 40 (s.order.zip s.desc) fun p hp => by
        have := name_len (a3 p.1 (List.of_mem_zip hp).1)
        have h6 : (cond p.2 [32, 68, 69, 83, 67] ([] : Str)).length ≤ 5 := by cases p.2 <;> simp
        simp only [ordT, List.length_append]
        omega
      have l4 := limT_len hb.most
      have l5 : (obT s).length ≤ 10 := by
        simp only [obT]
        cases decide (0 < (s.order.length : Int)) <;> simp
      have l6 : (cond (decide ((s.l.length : Int) = 0)) [42] ([] : Str)).length ≤ 1 := by cases decide ((s.l.length : Int) = 0) <;> simp
      have f1 := hf.order
      have f2 := hf.l
      rw [List.length_zip] at l3
      simp only [printT, if_neg (show ¬ s.kind = 1 by omega), if_neg (show ¬ s.kind = 2 by omega), if_neg (show ¬ s.kind = 3 by omega), if_neg (show ¬ s.kind = 4 by omega), if_neg (show ¬ s.kind = 5 by omega), if_neg (show ¬ s.kind = 6 by omega), if_neg (show ¬ s.kind = 7 by omega), selT, List.length_append, List.length_cons, List.length_nil]
      omega
theorem acheck_is {s : Stm} (hf : Few s) : acheck s = some (cond (checkB s) 0 2) := if_pos ⟨by have := hf.cols; omega, by have := hf.sets.1; omega⟩
theorem aprint_ok' {s : Stm} (h : checkB s = true) (hb : BdStm s) (hf : Few s) : aprint s = some (printT s, 0) := by
  obtain ⟨h1, h2⟩ := print_ok h hb hf
  simp only [aprint, acheck_is hf, h, h1, Option.bind_some]
  rw [app_some (by simp only [List.length_nil]; omega)]
  rfl
theorem aprint_no {s : Stm} (h : checkB s = false) (hf : Few s) : aprint s = some ([], 2) := by
  simp only [aprint, acheck_is hf, h, Option.bind_some]
  rfl
end Go.Proofs.YthndhaolemgbdaaGreatDoor

/- The document's answer: are statements the same; may a statement be. -/
namespace Go.Proofs.YthndhaolemgbdaaGreatDoor
open Go.Ax
/-! ## lists, element for element -/
theorem same_loop {V R α : Type} [DecidableEq α] {step : (V → Option R) → V → Option R} (l m : List α) (hm : l.length = m.length) (st : Nat → V) (no yes : Option R)
    (hs : ∀ i (h : i < l.length) (h2 : i < m.length) rec, step rec (st i) = cond (!decide (l[i] = m[i])) no (rec (st (i + 1)))) (he : ∀ rec, step rec (st l.length) = yes) (k : Nat) (hk : l.length < k) : iter step k (st 0) = cond (decide (l = m)) yes no := by
  refine (iter_ind0 l.length st (fun i => cond (decide (l.drop i = m.drop i)) yes no) (fun i hi rec hr => ?_) (fun rec => ?_) k 0 (Nat.zero_le _) (by omega)).trans (by rw [List.drop_zero, List.drop_zero])
  · have hi2 : i < m.length := by omega
    rw [hs i hi hi2, hr, drop_cons hi, drop_cons hi2]
    by_cases h : l[i] = m[i]
    · rw [decide_eq_true h, h]
      have : decide (m[i] :: l.drop (i + 1) = m[i] :: m.drop (i + 1)) = decide (l.drop (i + 1) = m.drop (i + 1)) := decide_eq_decide.2 ⟨fun e => by injection e, fun e => by rw [e]⟩
      rw [this]
      rfl
    · rw [decide_eq_false h, decide_eq_false (show ¬ l[i] :: l.drop (i + 1) = m[i] :: m.drop (i + 1) from fun e => h (by injection e))]
      rfl
  · rw [he, List.drop_eq_nil_of_le (Nat.le_refl _), List.drop_eq_nil_of_le (by omega)]
    rfl
/-! ## exchequer/exchequerref13.sameNames -/
def rsameN_0_sg : Sig := ⟨26, [(0, .sl .str false), (1, .sl .str false), (4, .bool), (5, .int .i64)], [], [], 0, 0, 0, [], []⟩
abbrev rsameN_0_V := List Str × List Str × Bool × Int
def rsameN_0 {R : Type} (rec : rsameN_0_V → Option R) (kx : Ex → rsameN_0_V → Option R) (v : rsameN_0_V) : Option R := match v with
 | (v, v1, v2, v3) =>
  cond (decide (v3 < (v.length : Int))) (
   chk (inb v3 v.length) (
    chk (inb v3 v1.length) (
     cond (!decide ((at' .str v v3) = (at' .str v1 v3))) (
      kx .ret (v, v1, false, v3)) (
      rec (v, v1, v2, (wr .i64 (v3 + 1))))))) (
   kx (.exit 0) (v, v1, v2, v3))
def rsameN_px (R : Type) (k : Nat) : Px R := ⟨ttOf ttL, glT, callT [], callQT [], loopT [(4, loopOr k rsameN_0_sg (rsameN_0))]⟩
theorem rsameN_0_eq (R : Type) (k : Nat) : ∀ (fr : List Fr) (rec : rsameN_0_V → Option R) (kx : Ex → rsameN_0_V → Option R) (v : rsameN_0_V), round (rsameN_px R k) rsameN_0_sg (lp Tryz.f82 0) fr rec kx v = rsameN_0 rec kx v
  | fr, rec, kx, (v, v1, v2, v3) => by kernel_rfl
def rsameN_body (k : Nat) (x : HV [.sl .str false, .sl .str false]) : Option (HV [.bool]) := match x with
 | (a, b) =>
  cond (!decide ((a.length : Int) = (b.length : Int))) (
   some false) (
   iter (fun rec => rsameN_0 rec (fun e vz => match vz with | (_, _, v6, _) => match e with
    | .ret =>
     some v6
    | .exit 0 =>
     some true
    | _ => none)) k (a, b, false, 0))
theorem rsameN_eq (k : Nat) : ∀ (x : HV [.sl .str false, .sl .str false]), runF (rsameN_px _ k) Tryz.f82 [.sl .str false, .sl .str false] [.bool] x some = rsameN_body k x
  | (a, b) => by kernel_rfl
theorem rsameN_run (k : Nat) : FnOk Tryz.prog elT glT 82 [.sl .str false, .sl .str false] [.bool] (rsameN_body k) := by
  refine fnOk_run Tryz.func82 rfl (by kernel_rfl) follows (by kernel_rfl) (n := 1) (by kernel_rfl) (px := rsameN_px _ k) (fun cx hP hel hgl => ?_) (rsameN_eq k)
  have hp0 : PxOk cx (rsameN_px (HV [.bool]) k) := ⟨fun t => by rw [hP, hel]; exact tt_ok ttL_ok t, by rw [hgl]; rfl⟩
  have hc0 : CallOk cx (rsameN_px (HV [.bool]) k) := callT_ok rfl cfs_nil
  have hq0 : CallQOk cx (rsameN_px (HV [.bool]) k) := callQT_ok rfl cqfs_nil
  have hlrsameN_0 : LoopOk cx (rsameN_px (HV [.bool]) k) (lp Tryz.f82 0) := loop_ok hp0 hc0 hq0 (by rw [hP]; exact follows) (k := k) (s := rsameN_0_sg) (step := rsameN_0) (fun _ _ => by kernel_rfl) (by kernel_rfl) (rsameN_0_eq _ k) (loops_in (n := 0) (by kernel_rfl) all0)
  exact ⟨hp0, hc0, hq0, (allS all0 hlrsameN_0)⟩
def rsameN (a b : List Str) : Bool := decide (a = b)
def rsameN_F : FT [.sl .str false, .sl .str false] [.bool] := fun x => some (rsameN x.1 x.2)
theorem len_ne {α : Type} {a b : List α} (h : ¬ (a.length : Int) = (b.length : Int)) : ¬ a = b := fun e => h (by rw [e])
theorem rsameN_ok : FnOk Tryz.prog elT glT 82 [.sl .str false, .sl .str false] [.bool] rsameN_F := .fin 0 rsameN_run fun (a, b) r hb hx => ⟨a.length + 1, by
  simp only [rsameN_F, rsameN, Option.some.injEq] at hx
  rw [← hx]
  simp only [rsameN_body]
  by_cases hl : (a.length : Int) = (b.length : Int)
  · rw [decide_eq_true hl, Bool.not_true, cond_f]
    refine (same_loop a b (by omega) (fun i => (a, b, false, (i : Int))) (some false) (some true) (fun i h h2 rec => ?_) (fun rec => ?_) (a.length + 1) (by omega)).trans ?_
    · simp only [rsameN_0, lt_t h, cond_t, inb_t h, inb_t h2, chk, at_nat (c := .str) h, at_nat (c := .str) h2, wr_succ h hb.1.1]
    · simp only [rsameN_0, lt_n, cond_f]
    · cases decide (a = b) <;> rfl
  · rw [decide_eq_false hl, decide_eq_false (len_ne hl)]
    rfl⟩
/-! ## exchequer/exchequerref13.SameList -/
def rsameL_px (R : Type) : Px R := ⟨ttOf ttL, glT, callT [(21, callOr [.sv .expr, .sv .expr] [.bool] rsame_F)], callQT [], loopT []⟩
def rsameL_body (x : HV [.sl .expr false, .sl .expr false]) : Option (HV [.bool]) := match x with
 | (a, b) =>
  some (rsame (Xpr.mk 0 ⟨0, 0, []⟩ [] a) (Xpr.mk 0 ⟨0, 0, []⟩ [] b))
theorem rsameL_eq : ∀ (x : HV [.sl .expr false, .sl .expr false]), runF (rsameL_px _) Tryz.f83 [.sl .expr false, .sl .expr false] [.bool] x some = rsameL_body x
  | (a, b) => by kernel_rfl
theorem rsameL_run : FnOk Tryz.prog elT glT 83 [.sl .expr false, .sl .expr false] [.bool] (rsameL_body) := by
  refine fnOk_run Tryz.func83 rfl (by kernel_rfl) follows (by kernel_rfl) (n := 0) (by kernel_rfl) (px := rsameL_px _) (fun cx hP hel hgl => ?_) (rsameL_eq)
  have hp0 : PxOk cx (rsameL_px (HV [.bool])) := ⟨fun t => by rw [hP, hel]; exact tt_ok ttL_ok t, by rw [hgl]; rfl⟩
  have hc0 : CallOk cx (rsameL_px (HV [.bool])) := callT_ok rfl (cfs_cons (cf_or (by rw [hP, hel, hgl]; exact rsame_ok) (by kernel_rfl)) cfs_nil)
  have hq0 : CallQOk cx (rsameL_px (HV [.bool])) := callQT_ok rfl cqfs_nil
  exact ⟨hp0, hc0, hq0, all0⟩
def rsameL (a : List Xpr) (b : List Xpr) : Bool :=
  (rsame (Xpr.mk 0 ⟨0, 0, []⟩ [] a) (Xpr.mk 0 ⟨0, 0, []⟩ [] b))
theorem rsameL_tot (x : HV [.sl .expr false, .sl .expr false]) : rsameL_body x = some (rsameL x.1 x.2) := by
  first
    | exact rfl
    | simp only [rsameL_body, rsameL, cond_some]
def rsameL_F : FT [.sl .expr false, .sl .expr false] [.bool] := fun x => some (rsameL x.1 x.2)
theorem rsameL_ok : FnOk Tryz.prog elT glT 83 [.sl .expr false, .sl .expr false] [.bool] rsameL_F := .fin0 rsameL_run fun x _ _ hx => (rsameL_tot x).trans hx
theorem rsameL_is (a b : List Xpr) : rsameL a b = decide (a = b) := by
  have e : rsameL a b = xsame (.mk 0 ⟨0, 0, []⟩ [] a) (.mk 0 ⟨0, 0, []⟩ [] b) := rfl
  rw [e, xsame_dec]
  exact decide_eq_decide.2 (by simp)
theorem rsame_dec (a b : Xpr) : rsame a b = decide (a = b) := xsame_dec a b
instance : DecidableEq SetE := fun a b => decidable_of_iff (a.name = b.name ∧ a.e = b.e) (by
  cases a; cases b
  simp only [SetE.mk.injEq])
/-! ## exchequer/exchequerref13.SameStmt -/
def rsameS_3_sg : Sig := ⟨199, [(4, .bool), (8, .int .i64)], [(2, .ptr 0 0), (3, .ptr 1 0)], [(0, .one (.sv .stmt)), (1, .one (.sv .stmt))], 2, 0, 0, [], []⟩
abbrev rsameS_3_V := Bool × Int × Stm × Stm
def rsameS_3 {R : Type} (rec : rsameS_3_V → Option R) (kx : Ex → rsameS_3_V → Option R) (v : rsameS_3_V) : Option R := match v with
 | (v18, v19, w6, w7) =>
  cond (decide (v19 < (w6.desc.length : Int))) (
   chk (inb v19 w6.desc.length) (
    chk (inb v19 w7.desc.length) (
     cond (!decide ((at' .bool w6.desc v19) = (at' .bool w7.desc v19))) (
      kx .ret (false, v19, w6, w7)) (
      rec (v18, (wr .i64 (v19 + 1)), w6, w7))))) (
   kx (.exit 6) (v18, v19, w6, w7))
def rsameS_2_sg : Sig := ⟨199, [(4, .bool), (7, .int .i64)], [(2, .ptr 0 0), (3, .ptr 1 0)], [(0, .one (.sv .stmt)), (1, .one (.sv .stmt))], 2, 0, 0, [], []⟩
abbrev rsameS_2_V := Bool × Int × Stm × Stm
def rsameS_2 {R : Type} (rec : rsameS_2_V → Option R) (kx : Ex → rsameS_2_V → Option R) (v : rsameS_2_V) : Option R := match v with
 | (v12, v13, w4, w5) =>
  cond (decide (v13 < (w4.sets.length : Int))) (
   chk (inb v13 w4.sets.length) (
    chk (inb v13 w5.sets.length) (
     cond (!decide (((at' .set w4.sets v13).name) = ((at' .set w5.sets v13).name))) (
      kx .ret (false, v13, w4, w5)) (
      chk (inb v13 w4.sets.length) (
       chk (inb v13 w5.sets.length) (
        cond (!(rsame (xeta ((at' .set w4.sets v13).e)) (xeta ((at' .set w5.sets v13).e)))) (
         kx .ret (false, v13, w4, w5)) (
         rec (v12, (wr .i64 (v13 + 1)), w4, w5)))))))) (
   kx (.exit 4) (v12, v13, w4, w5))
def rsameS_1_sg : Sig := ⟨199, [(4, .bool), (6, .int .i64)], [(2, .ptr 0 0), (3, .ptr 1 0)], [(0, .one (.sv .stmt)), (1, .one (.sv .stmt))], 2, 0, 0, [], []⟩
abbrev rsameS_1_V := Bool × Int × Stm × Stm
def rsameS_1 {R : Type} (rec : rsameS_1_V → Option R) (kx : Ex → rsameS_1_V → Option R) (v : rsameS_1_V) : Option R := match v with
 | (v6, v7, w2, w3) =>
  cond (decide (v7 < (w2.rows.length : Int))) (
   chk (inb v7 w2.rows.length) (
    chk (inb v7 w3.rows.length) (
     cond (!(rsameL (at' .exprs w2.rows v7) (at' .exprs w3.rows v7))) (
      kx .ret (false, v7, w2, w3)) (
      rec (v6, (wr .i64 (v7 + 1)), w2, w3))))) (
   kx (.exit 2) (v6, v7, w2, w3))
def rsameS_0_sg : Sig := ⟨199, [(4, .bool), (5, .int .i64)], [(2, .ptr 0 0), (3, .ptr 1 0)], [(0, .one (.sv .stmt)), (1, .one (.sv .stmt))], 2, 0, 0, [], []⟩
abbrev rsameS_0_V := Bool × Int × Stm × Stm
def rsameS_0 {R : Type} (rec : rsameS_0_V → Option R) (kx : Ex → rsameS_0_V → Option R) (v : rsameS_0_V) : Option R := match v with
 | (v, v1, w, w1) =>
  cond (decide (v1 < (w.cols.length : Int))) (
   chk (inb v1 w.cols.length) (
    chk (inb v1 w1.cols.length) (
     cond (!decide ((at' .col w.cols v1) = (at' .col w1.cols v1))) (
      kx .ret (false, v1, w, w1)) (
      rec (v, (wr .i64 (v1 + 1)), w, w1))))) (
   kx (.exit 0) (v, v1, w, w1))
def rsameS_px (R : Type) (k : Nat) : Px R := ⟨ttOf ttL, glT, callT [(21, callOr [.sv .expr, .sv .expr] [.bool] rsame_F), (82, callOr [.sl .str false, .sl .str false] [.bool] rsameN_F), (83, callOr [.sl .expr false, .sl .expr false] [.bool] rsameL_F)], callQT [], loopT [(6, loopOr k rsameS_0_sg (rsameS_0)), (11, loopOr k rsameS_1_sg (rsameS_1)), (16, loopOr k rsameS_2_sg (rsameS_2)), (21, loopOr k rsameS_3_sg (rsameS_3))]⟩
theorem rsameS_0_eq (R : Type) (k : Nat) : ∀ (fr : List Fr) (rec : rsameS_0_V → Option R) (kx : Ex → rsameS_0_V → Option R) (v : rsameS_0_V), round (rsameS_px R k) rsameS_0_sg (lp Tryz.f28 0) fr rec kx v = rsameS_0 rec kx v
  | fr, rec, kx, (v, v1, w, w1) => by kernel_rfl
theorem rsameS_1_eq (R : Type) (k : Nat) : ∀ (fr : List Fr) (rec : rsameS_1_V → Option R) (kx : Ex → rsameS_1_V → Option R) (v : rsameS_1_V), round (rsameS_px R k) rsameS_1_sg (lp Tryz.f28 1) fr rec kx v = rsameS_1 rec kx v
  | fr, rec, kx, (v6, v7, w2, w3) => by kernel_rfl
theorem rsameS_2_eq (R : Type) (k : Nat) : ∀ (fr : List Fr) (rec : rsameS_2_V → Option R) (kx : Ex → rsameS_2_V → Option R) (v : rsameS_2_V), round (rsameS_px R k) rsameS_2_sg (lp Tryz.f28 2) fr rec kx v = rsameS_2 rec kx v
  | fr, rec, kx, (v12, v13, w4, w5) => by kernel_rfl
theorem rsameS_3_eq (R : Type) (k : Nat) : ∀ (fr : List Fr) (rec : rsameS_3_V → Option R) (kx : Ex → rsameS_3_V → Option R) (v : rsameS_3_V), round (rsameS_px R k) rsameS_3_sg (lp Tryz.f28 3) fr rec kx v = rsameS_3 rec kx v
  | fr, rec, kx, (v18, v19, w6, w7) => by kernel_rfl
def rsameS_body (k : Nat) (x : HV [.sv .stmt, .sv .stmt]) : Option (HV [.bool]) := match x with
 | (a, b) =>
  let j5 := fun (p : Bool) =>
   let j4 := fun (p1 : Bool) =>
    let j3 := fun (p2 : Bool) =>
     let j2 := fun (p3 : Bool) =>
      let j1 := fun (p4 : Bool) =>
       let j := fun (p5 : Bool) =>
        cond (p5) (
         some false) (
         cond (!(rsameN a.order b.order)) (
          some false) (
          cond (!(rsameL a.l b.l)) (
           some false) (
           let j6 := fun (p10 : Bool) =>
            cond (p10) (
             some false) (
             cond (!decide ((a.sets.length : Int) = (b.sets.length : Int))) (
              some false) (
              cond (!decide ((a.desc.length : Int) = (b.desc.length : Int))) (
               some false) (
               iter (fun rec => rsameS_0 rec (fun e vz => match vz with | (v2, _, v4, v5) => match e with
                | .ret =>
                 some v2
                | .exit 0 =>
                 iter (fun rec => rsameS_1 rec (fun e vz => match vz with | (v8, _, v10, v11) => match e with
                  | .ret =>
                   some v8
                  | .exit 2 =>
                   iter (fun rec => rsameS_2 rec (fun e vz => match vz with | (v14, _, v16, v17) => match e with
                    | .ret =>
                     some v14
                    | .exit 4 =>
                     iter (fun rec => rsameS_3 rec (fun e vz => match vz with | (v20, _, _, _) => match e with
                      | .ret =>
                       some v20
                      | .exit 6 =>
                       some true
                      | _ => none)) k (v14, 0, v16, v17)
                    | _ => none)) k (v8, 0, v10, v11)
                  | _ => none)) k (v2, 0, v4, v5)
                | _ => none)) k (false, 0, a, b))))
           cond (!decide ((a.cols.length : Int) = (b.cols.length : Int))) (
            j6 true) (
            j6 (!decide ((a.rows.length : Int) = (b.rows.length : Int)))))))
       cond (p4) (
        j true) (
        j (!(rsameN a.names b.names)))
      cond (p3) (
       j1 true) (
       j1 (!(rsame (xeta a.whr) (xeta b.whr))))
     cond (p2) (
      j2 true) (
      j2 (!decide (a.most = b.most)))
    cond (p1) (
     j3 true) (
     j3 (!decide (a.has = b.has)))
   cond (p) (
    j4 true) (
    j4 (!decide (a.on = b.on)))
  cond (!decide (a.kind = b.kind)) (
   j5 true) (
   j5 (!decide (a.name = b.name)))
theorem rsameS_eq (k : Nat) : ∀ (x : HV [.sv .stmt, .sv .stmt]), runF (rsameS_px _ k) Tryz.f28 [.sv .stmt, .sv .stmt] [.bool] x some = rsameS_body k x
  | (a, b) => by kernel_rfl
theorem rsameS_run (k : Nat) : FnOk Tryz.prog elT glT 28 [.sv .stmt, .sv .stmt] [.bool] (rsameS_body k) := by
  refine fnOk_run Tryz.func28 rfl (by kernel_rfl) follows (by kernel_rfl) (n := 4) (by kernel_rfl) (px := rsameS_px _ k) (fun cx hP hel hgl => ?_) (rsameS_eq k)
  have hp0 : PxOk cx (rsameS_px (HV [.bool]) k) := ⟨fun t => by rw [hP, hel]; exact tt_ok ttL_ok t, by rw [hgl]; rfl⟩
  have hc0 : CallOk cx (rsameS_px (HV [.bool]) k) := callT_ok rfl (cfs_cons (cf_or (by rw [hP, hel, hgl]; exact rsame_ok) (by kernel_rfl)) (cfs_cons (cf_or (by rw [hP, hel, hgl]; exact rsameN_ok) (by kernel_rfl)) (cfs_cons (cf_or (by rw [hP, hel, hgl]; exact rsameL_ok) (by kernel_rfl)) cfs_nil)))
  have hq0 : CallQOk cx (rsameS_px (HV [.bool]) k) := callQT_ok rfl cqfs_nil
  have hlrsameS_0 : LoopOk cx (rsameS_px (HV [.bool]) k) (lp Tryz.f28 0) := loop_ok hp0 hc0 hq0 (by rw [hP]; exact follows) (k := k) (s := rsameS_0_sg) (step := rsameS_0) (fun _ _ => by kernel_rfl) (by kernel_rfl) (rsameS_0_eq _ k) (loops_in (n := 0) (by kernel_rfl) all0)
  have hlrsameS_1 : LoopOk cx (rsameS_px (HV [.bool]) k) (lp Tryz.f28 1) := loop_ok hp0 hc0 hq0 (by rw [hP]; exact follows) (k := k) (s := rsameS_1_sg) (step := rsameS_1) (fun _ _ => by kernel_rfl) (by kernel_rfl) (rsameS_1_eq _ k) (loops_in (n := 0) (by kernel_rfl) all0)
  have hlrsameS_2 : LoopOk cx (rsameS_px (HV [.bool]) k) (lp Tryz.f28 2) := loop_ok hp0 hc0 hq0 (by rw [hP]; exact follows) (k := k) (s := rsameS_2_sg) (step := rsameS_2) (fun _ _ => by kernel_rfl) (by kernel_rfl) (rsameS_2_eq _ k) (loops_in (n := 0) (by kernel_rfl) all0)
  have hlrsameS_3 : LoopOk cx (rsameS_px (HV [.bool]) k) (lp Tryz.f28 3) := loop_ok hp0 hc0 hq0 (by rw [hP]; exact follows) (k := k) (s := rsameS_3_sg) (step := rsameS_3) (fun _ _ => by kernel_rfl) (by kernel_rfl) (rsameS_3_eq _ k) (loops_in (n := 0) (by kernel_rfl) all0)
  exact ⟨hp0, hc0, hq0, (allS (allS (allS (allS all0 hlrsameS_0) hlrsameS_1) hlrsameS_2) hlrsameS_3)⟩
def rsameS (a b : Stm) : Bool := decide (a = b)
def rsameS_F : FT [.sv .stmt, .sv .stmt] [.bool] := fun x => some (rsameS x.1 x.2)
theorem set_same {R : Type} (x y : SetE) (no yes : R) : cond (!decide (x.name = y.name)) no (cond (!decide (x.e = y.e)) no yes) = cond (!decide (x = y)) no yes := by
  have e : decide (x = y) = (decide (x.name = y.name) && decide (x.e = y.e)) := by
    rw [← Bool.decide_and]
    refine decide_eq_decide.2 ?_
    cases x; cases y
    simp only [SetE.mk.injEq]
  rw [e]
  cases decide (x.name = y.name) <;> rfl
theorem stm_ext {a b : Stm} (h1 : a.kind = b.kind) (h2 : a.name = b.name) (h3 : a.on = b.on) (h4 : a.cols = b.cols) (h5 : a.names = b.names) (h6 : a.l = b.l) (h7 : a.rows = b.rows) (h8 : a.sets = b.sets) (h9 : a.has = b.has) (h10 : a.whr = b.whr) (h11 : a.order = b.order) (h12 : a.desc = b.desc) (h13 : a.most = b.most) : a = b := by
  cases a; cases b
  simp only at h1 h2 h3 h4 h5 h6 h7 h8 h9 h10 h11 h12 h13
  simp only [h1, h2, h3, h4, h5, h6, h7, h8, h9, h10, h11, h12, h13]
theorem rsameS_ok : FnOk Tryz.prog elT glT 28 [.sv .stmt, .sv .stmt] [.bool] rsameS_F := .fin 0 rsameS_run fun (a, b) r hb hx => ⟨a.cols.length + a.rows.length + a.sets.length + a.desc.length + 1, by
  simp only [rsameS_F, rsameS, Option.some.injEq] at hx
  rw [← hx]
  have hb := hb.1
  have no : ∀ {p : Prop} [Decidable p], (a = b → p) → ¬ p → decide (a = b) = false := fun h hn => decide_eq_false fun e => hn (h e)
  simp only [rsameS_body, xeta_eq, rsameL_is, rsame_dec, rsameN]
  by_cases h1 : a.kind = b.kind
  case neg => rw [decide_eq_false h1, no (fun e => by rw [e]) h1]; rfl
  rw [decide_eq_true h1]
  by_cases h2 : a.name = b.name
  case neg => rw [decide_eq_false h2, no (fun e => by rw [e]) h2]; rfl
  rw [decide_eq_true h2]
  by_cases h3 : a.on = b.on
  case neg => rw [decide_eq_false h3, no (fun e => by rw [e]) h3]; rfl
  rw [decide_eq_true h3]
  by_cases h9 : a.has = b.has
  case neg => rw [decide_eq_false h9, no (fun e => by rw [e]) h9]; rfl
  rw [decide_eq_true h9]
  by_cases h13 : a.most = b.most
  case neg => rw [decide_eq_false h13, no (fun e => by rw [e]) h13]; rfl
  rw [decide_eq_true h13]
  by_cases h10 : a.whr = b.whr
  case neg => rw [decide_eq_false h10, no (fun e => by rw [e]) h10]; rfl
  rw [decide_eq_true h10]
  by_cases h5 : a.names = b.names
  case neg => rw [decide_eq_false h5, no (fun e => by rw [e]) h5]; rfl
  rw [decide_eq_true h5]
  by_cases h11 : a.order = b.order
  case neg => rw [decide_eq_false h11, no (fun e => by rw [e]) h11]; rfl
  rw [decide_eq_true h11]
  by_cases h6 : a.l = b.l
  case neg => rw [decide_eq_false h6, no (fun e => by rw [e]) h6]; rfl
  rw [decide_eq_true h6]
  by_cases l4 : (a.cols.length : Int) = (b.cols.length : Int)
  case neg => rw [decide_eq_false l4, no (fun e => by rw [e]) l4]; rfl
  rw [decide_eq_true l4]
  by_cases l7 : (a.rows.length : Int) = (b.rows.length : Int)
  case neg => rw [decide_eq_false l7, no (fun e => by rw [e]) l7]; rfl
  rw [decide_eq_true l7]
  by_cases l8 : (a.sets.length : Int) = (b.sets.length : Int)
  case neg => rw [decide_eq_false l8, no (fun e => by rw [e]) l8]; rfl
  rw [decide_eq_true l8]
  by_cases l12 : (a.desc.length : Int) = (b.desc.length : Int)
  case neg => rw [decide_eq_false l12, no (fun e => by rw [e]) l12]; rfl
  rw [decide_eq_true l12]
  simp only [Bool.not_true, cond_f]
  generalize hk : a.cols.length + a.rows.length + a.sets.length + a.desc.length + 1 = k
  refine (same_loop a.cols b.cols (by omega) (fun i => (false, (i : Int), a, b)) (some false) (cond (decide (a.rows = b.rows)) (cond (decide (a.sets = b.sets)) (cond (decide (a.desc = b.desc)) (some true) (some false)) (some false)) (some false)) (fun i h h2 rec => ?_) (fun rec => ?_) k (by omega)).trans ?_
  · simp only [rsameS_0, lt_t h, cond_t, inb_t h, inb_t h2, chk, at_nat (c := .col) h, at_nat (c := .col) h2, wr_succ h hb.cols.1]
  · simp only [rsameS_0, lt_n, cond_f]
    refine (same_loop a.rows b.rows (by omega) (fun i => (false, (i : Int), a, b)) (some false) (cond (decide (a.sets = b.sets)) (cond (decide (a.desc = b.desc)) (some true) (some false)) (some false)) (fun i h h2 rec => ?_) (fun rec => ?_) k (by omega)).trans rfl
    · simp only [rsameS_1, lt_t h, cond_t, inb_t h, inb_t h2, chk, at_nat (c := .exprs) h, at_nat (c := .exprs) h2, wr_succ h hb.rows.1, rsameL_is]
    · simp only [rsameS_1, lt_n, cond_f]
      refine (same_loop a.sets b.sets (by omega) (fun i => (false, (i : Int), a, b)) (some false) (cond (decide (a.desc = b.desc)) (some true) (some false)) (fun i h h2 rec => ?_) (fun rec => ?_) k (by omega)).trans rfl
      · simp only [rsameS_2, lt_t h, cond_t, inb_t h, inb_t h2, chk, at_nat (c := .set) h, at_nat (c := .set) h2, wr_succ h hb.sets.1, xeta_eq, rsame_dec]
        exact set_same _ _ _ _
      · simp only [rsameS_2, lt_n, cond_f]
        refine (same_loop a.desc b.desc (by omega) (fun i => (false, (i : Int), a, b)) (some false) (some true) (fun i h h2 rec => ?_) (fun rec => ?_) k (by omega)).trans rfl
        · simp only [rsameS_3, lt_t h, cond_t, inb_t h, inb_t h2, chk, at_nat (c := .bool) h, at_nat (c := .bool) h2, wr_succ h hb.desc]
        · simp only [rsameS_3, lt_n, cond_f]
  · by_cases h4 : a.cols = b.cols
    case neg => rw [decide_eq_false h4, no (fun e => by rw [e]) h4]; rfl
    by_cases h7 : a.rows = b.rows
    case neg => rw [decide_eq_true h4, decide_eq_false h7, no (fun e => by rw [e]) h7]; rfl
    by_cases h8 : a.sets = b.sets
    case neg => rw [decide_eq_true h4, decide_eq_true h7, decide_eq_false h8, no (fun e => by rw [e]) h8]; rfl
    by_cases h12 : a.desc = b.desc
    case neg => rw [decide_eq_true h4, decide_eq_true h7, decide_eq_true h8, decide_eq_false h12, no (fun e => by rw [e]) h12]; rfl
    rw [decide_eq_true h4, decide_eq_true h7, decide_eq_true h8, decide_eq_true h12, decide_eq_true (stm_ext h1 h2 h3 h4 h5 h6 h7 h8 h9 h10 h11 h12 h13)]
    rfl⟩
/-! ## may all be -/
/-! ## exchequer/exchequerref13.all -/
def rall_0_sg : Sig := ⟨27, [(0, .sl .expr false), (1, .int .i64), (4, .bool), (5, .int .i64)], [], [], 0, 0, 0, [], []⟩
abbrev rall_0_V := List Xpr × Int × Bool × Int
def rall_0 {R : Type} (rec : rall_0_V → Option R) (kx : Ex → rall_0_V → Option R) (v : rall_0_V) : Option R := match v with
 | (v, v1, v2, v3) =>
  cond (decide (v3 < (v.length : Int))) (
   chk (inb v3 v.length) (
    cond (decide (30 < (rdeep (at' .expr v v3)))) (
     kx .ret (v, v1, false, v3)) (
     rec (v, v1, v2, (wr .i64 (v3 + 1)))))) (
   kx (.exit 0) (v, v1, v2, v3))
def rall_px (R : Type) (k : Nat) : Px R := ⟨ttOf ttL, glT, callT [(46, callOr [.sv .expr] [.int .i64] rdeep_F)], callQT [], loopT [(2, loopOr k rall_0_sg (rall_0))]⟩
theorem rall_0_eq (R : Type) (k : Nat) : ∀ (fr : List Fr) (rec : rall_0_V → Option R) (kx : Ex → rall_0_V → Option R) (v : rall_0_V), round (rall_px R k) rall_0_sg (lp Tryz.f74 0) fr rec kx v = rall_0 rec kx v
  | fr, rec, kx, (v, v1, v2, v3) => by kernel_rfl
def rall_body (k : Nat) (x : HV [.sl .expr false, .int .i64]) : Option (HV [.bool]) := match x with
 | (l, least) =>
  iter (fun rec => rall_0 rec (fun e vz => match vz with | (v4, v5, v6, _) => match e with
   | .ret =>
    some v6
   | .exit 0 =>
    cond (decide (v5 ≤ (v4.length : Int))) (
     some (decide ((v4.length : Int) ≤ 100))) (
     some false)
   | _ => none)) k (l, least, false, 0)
theorem rall_eq (k : Nat) : ∀ (x : HV [.sl .expr false, .int .i64]), runF (rall_px _ k) Tryz.f74 [.sl .expr false, .int .i64] [.bool] x some = rall_body k x
  | (l, least) => by kernel_rfl
theorem rall_run (k : Nat) : FnOk Tryz.prog elT glT 74 [.sl .expr false, .int .i64] [.bool] (rall_body k) := by
  refine fnOk_run Tryz.func74 rfl (by kernel_rfl) follows (by kernel_rfl) (n := 1) (by kernel_rfl) (px := rall_px _ k) (fun cx hP hel hgl => ?_) (rall_eq k)
  have hp0 : PxOk cx (rall_px (HV [.bool]) k) := ⟨fun t => by rw [hP, hel]; exact tt_ok ttL_ok t, by rw [hgl]; rfl⟩
  have hc0 : CallOk cx (rall_px (HV [.bool]) k) := callT_ok rfl (cfs_cons (cf_or (by rw [hP, hel, hgl]; exact rdeep_ok) (by kernel_rfl)) cfs_nil)
  have hq0 : CallQOk cx (rall_px (HV [.bool]) k) := callQT_ok rfl cqfs_nil
  have hlrall_0 : LoopOk cx (rall_px (HV [.bool]) k) (lp Tryz.f74 0) := loop_ok hp0 hc0 hq0 (by rw [hP]; exact follows) (k := k) (s := rall_0_sg) (step := rall_0) (fun _ _ => by kernel_rfl) (by kernel_rfl) (rall_0_eq _ k) (loops_in (n := 0) (by kernel_rfl) all0)
  exact ⟨hp0, hc0, hq0, (allS all0 hlrall_0)⟩
def rall (l : List Xpr) (n : Int) : Bool := l.all (fun x => decide (rdeep x ≤ 30)) && decide (n ≤ (l.length : Int)) && decide (l.length ≤ 100)
def rall_F : FT [.sl .expr false, .int .i64] [.bool] := fun x => some (rall x.1 x.2)
theorem len100 (n : Nat) : decide ((n : Int) ≤ 100) = decide (n ≤ 100) := decide_eq_decide.2 (by omega)
theorem rall_ok : FnOk Tryz.prog elT glT 74 [.sl .expr false, .int .i64] [.bool] rall_F := .fin 0 rall_run fun (l, n) r hb hx => ⟨l.length + 1, by
  simp only [rall_F, rall, Option.some.injEq] at hx
  rw [← hx]
  simp only [rall_body]
  refine (iter_ind0 l.length (fun i => (l, n, false, (i : Int))) (fun i => some ((l.drop i).all (fun x => decide (rdeep x ≤ 30)) && decide (n ≤ (l.length : Int)) && decide (l.length ≤ 100))) (fun i hi rec hr => ?_) (fun rec => ?_) (l.length + 1) 0 (Nat.zero_le _) (by omega)).trans (by rw [List.drop_zero])
  · have e : decide (rdeep l[i] ≤ 30) = !decide (30 < rdeep l[i]) := by
      by_cases h : 30 < rdeep l[i]
      · rw [decide_eq_true h, decide_eq_false (by omega)]; rfl
      · rw [decide_eq_false h, decide_eq_true (by omega)]; rfl
    simp only [rall_0, lt_t hi, cond_t, inb_t hi, chk, at_nat (c := .expr) hi, wr_succ hi hb.1.1, hr, drop_cons hi, List.all_cons, e]
    cases decide (30 < rdeep l[i]) <;> rfl
  · simp only [rall_0, lt_n, cond_f, len100]
    rw [List.drop_eq_nil_of_le (Nat.le_refl _)]
    cases decide (n ≤ (l.length : Int)) <;> rfl⟩
theorem rall_is {l : List Xpr} (h : esizes l ≤ 10000) (n : Int) : rall l n = (aexprs l && decide (n ≤ (l.length : Int))) := by
  have e : l.all (fun x => decide (rdeep x ≤ 30)) = l.all (fun x => eright x 30) := by
    rw [Bool.eq_iff_iff, List.all_eq_true, List.all_eq_true]
    refine ⟨fun hx x hm => ?_, fun hx x hm => ?_⟩
    · have := esize_mem hm
      exact (deep_right (esize x) x 30 (Nat.le_refl _) (by omega) (by omega)).2 (of_decide_eq_true (hx x hm))
    · have := esize_mem hm
      exact decide_eq_true ((deep_right (esize x) x 30 (Nat.le_refl _) (by omega) (by omega)).1 (hx x hm))
  simp only [rall, aexprs, e]
  cases l.all (fun x => eright x 30) <;> cases decide (n ≤ (l.length : Int)) <;> cases decide (l.length ≤ 100) <;> rfl
theorem deep_is {e : Xpr} (h : esize e ≤ 10000) : decide (rdeep e ≤ 30) = eright e 30 := by
  rw [Bool.eq_iff_iff, decide_eq_true_eq]
  exact (deep_right (esize e) e 30 (Nat.le_refl _) (by omega) (by omega)).symm
/-! ## exchequer/exchequerref13.once -/
def ronce_1_sg : Sig := ⟨42, [(0, .sl .str false), (1, .int .i64), (4, .bool), (5, .int .i64), (6, .int .i64)], [], [], 0, 0, 0, [], []⟩
abbrev ronce_1_V := List Str × Int × Bool × Int × Int
def ronce_1 {R : Type} (rec : ronce_1_V → Option R) (kx : Ex → ronce_1_V → Option R) (v : ronce_1_V) : Option R := match v with
 | (v4, v5, v6, v7, v8) =>
  cond (decide (v8 < v7)) (
   chk (inb v7 v4.length) (
    chk (inb v8 v4.length) (
     cond (decide ((at' .str v4 v7) = (at' .str v4 v8))) (
      kx .ret (v4, v5, false, v7, v8)) (
      rec (v4, v5, v6, v7, (wr .i64 (v8 + 1))))))) (
   kx (.exit 2) (v4, v5, v6, v7, v8))
def ronce_0_sg : Sig := ⟨42, [(0, .sl .str false), (1, .int .i64), (4, .bool), (5, .int .i64)], [], [], 0, 0, 0, [], []⟩
abbrev ronce_0_V := List Str × Int × Bool × Int
def ronce_0 {R : Type} (k : Nat) (rec : ronce_0_V → Option R) (kx : Ex → ronce_0_V → Option R) (v : ronce_0_V) : Option R := match v with
 | (v, v1, v2, v3) =>
  cond (decide (v3 < (v.length : Int))) (
   chk (inb v3 v.length) (
    cond (!(rname (at' .str v v3))) (
     kx .ret (v, v1, false, v3)) (
     iter (fun rc => ronce_1 rc (fun e vz => match vz with | (v9, v10, v11, v12, _) => match e with
      | .ret =>
       kx .ret (v9, v10, v11, v12)
      | .exit 2 =>
       rec (v9, v10, v11, (wr .i64 (v12 + 1)))
      | _ => none)) k (v, v1, v2, v3, 0)))) (
   kx (.exit 0) (v, v1, v2, v3))
def ronce_px (R : Type) (k : Nat) : Px R := ⟨ttOf ttL, glT, callT [(72, callOr [.str] [.bool] rname_F)], callQT [], loopT [(7, loopOr k ronce_1_sg (ronce_1)), (2, loopOr k ronce_0_sg (ronce_0 k))]⟩
theorem ronce_1_eq (R : Type) (k : Nat) : ∀ (fr : List Fr) (rec : ronce_1_V → Option R) (kx : Ex → ronce_1_V → Option R) (v : ronce_1_V), round (ronce_px R k) ronce_1_sg (lpC (lp Tryz.f73 0) 0) fr rec kx v = ronce_1 rec kx v
  | fr, rec, kx, (v4, v5, v6, v7, v8) => by kernel_rfl
theorem ronce_0_eq (R : Type) (k : Nat) : ∀ (fr : List Fr) (rec : ronce_0_V → Option R) (kx : Ex → ronce_0_V → Option R) (v : ronce_0_V), round (ronce_px R k) ronce_0_sg (lp Tryz.f73 0) fr rec kx v = ronce_0 k rec kx v
  | fr, rec, kx, (v, v1, v2, v3) => by kernel_rfl
def ronce_body (k : Nat) (x : HV [.sl .str false, .int .i64]) : Option (HV [.bool]) := match x with
 | (l, least) =>
  iter (fun rec => ronce_0 k rec (fun e vz => match vz with | (v14, v15, v16, _) => match e with
   | .ret =>
    some v16
   | .exit 0 =>
    cond (decide (v15 ≤ (v14.length : Int))) (
     some (decide ((v14.length : Int) ≤ 100))) (
     some false)
   | _ => none)) k (l, least, false, 0)
theorem ronce_eq (k : Nat) : ∀ (x : HV [.sl .str false, .int .i64]), runF (ronce_px _ k) Tryz.f73 [.sl .str false, .int .i64] [.bool] x some = ronce_body k x
  | (l, least) => by kernel_rfl
theorem ronce_run (k : Nat) : FnOk Tryz.prog elT glT 73 [.sl .str false, .int .i64] [.bool] (ronce_body k) := by
  refine fnOk_run Tryz.func73 rfl (by kernel_rfl) follows (by kernel_rfl) (n := 2) (by kernel_rfl) (px := ronce_px _ k) (fun cx hP hel hgl => ?_) (ronce_eq k)
  have hp0 : PxOk cx (ronce_px (HV [.bool]) k) := ⟨fun t => by rw [hP, hel]; exact tt_ok ttL_ok t, by rw [hgl]; rfl⟩
  have hc0 : CallOk cx (ronce_px (HV [.bool]) k) := callT_ok rfl (cfs_cons (cf_or (by rw [hP, hel, hgl]; exact rname_ok) (by kernel_rfl)) cfs_nil)
  have hq0 : CallQOk cx (ronce_px (HV [.bool]) k) := callQT_ok rfl cqfs_nil
  have hlronce_1 : LoopOk cx (ronce_px (HV [.bool]) k) (lpC (lp Tryz.f73 0) 0) := loop_ok hp0 hc0 hq0 (by rw [hP]; exact follows) (k := k) (s := ronce_1_sg) (step := ronce_1) (fun _ _ => by kernel_rfl) (by kernel_rfl) (ronce_1_eq _ k) (loops_in (n := 0) (by kernel_rfl) all0)
  have hlronce_0 : LoopOk cx (ronce_px (HV [.bool]) k) (lp Tryz.f73 0) := loop_ok hp0 hc0 hq0 (by rw [hP]; exact follows) (k := k) (s := ronce_0_sg) (step := ronce_0 k) (fun _ _ => by kernel_rfl) (by kernel_rfl) (ronce_0_eq _ k) (loops_in (n := 1) (by kernel_rfl) (allS all0 hlronce_1))
  exact ⟨hp0, hc0, hq0, (allS (allS all0 hlronce_0) hlronce_1)⟩
def ronce (l : List Str) (n : Int) : Bool := aonce l && decide (n ≤ (l.length : Int))
def ronce_F : FT [.sl .str false, .int .i64] [.bool] := fun x => some (ronce x.1 x.2)
theorem ronce_1_loop {R : Type} {kx : Ex → ronce_1_V → Option R} {l : List Str} {n : Int} {i : Nat} {c : Bool → Option R} (hn : ln l.length) (hi : i < l.length) (h1 : ∀ j, kx .ret (l, n, false, (i : Int), j) = c true) (h2 : ∀ j, kx (.exit 2) (l, n, false, (i : Int), j) = c false) (k : Nat) (hk : i < k) :
    iter (fun rec => ronce_1 rec kx) k (l, n, false, (i : Int), 0) = c ((l.take i).contains l[i]) := by
  refine (iter_ind0 i (fun j => (l, n, false, (i : Int), (j : Int))) (fun j => c (((l.take i).drop j).contains l[i])) (fun j hj rec hr => ?_) (fun rec => ?_) k 0 (Nat.zero_le _) (by omega)).trans (by rw [List.drop_zero])
  · have hj2 : j < l.length := by omega
    have hj3 : j < (l.take i).length := by rw [List.length_take]; omega
    have e : (l.take i)[j] = l[j] := List.getElem_take
    simp only [ronce_1, lt_t hj, cond_t, inb_t hi, inb_t hj2, chk, at_nat (c := .str) hi, at_nat (c := .str) hj2, wr_succ hj2 hn, hr, h1, drop_cons hj3, List.contains_cons, e]
    by_cases h : l[i] = l[j]
    · rw [decide_eq_true h, h]
      simp
    · have hf : (l[i] == l[j]) = false := beq_eq_false_iff_ne.2 h
      rw [decide_eq_false h, hf]
      rfl
  · simp only [ronce_1, lt_n, cond_f, h2]
    rw [List.drop_eq_nil_of_le (by rw [List.length_take]; omega)]
    rfl
theorem ronce_ok : FnOk Tryz.prog elT glT 73 [.sl .str false, .int .i64] [.bool] ronce_F := .fin 0 ronce_run fun (l, n) r hb hx => ⟨l.length + 1, by
  simp only [ronce_F, ronce, Option.some.injEq] at hx
  rw [← hx]
  simp only [ronce_body]
  refine (iter_ind0 l.length (fun i => (l, n, false, (i : Int))) (fun i => some (onceF (l.take i) (l.drop i) && decide (l.length ≤ 100) && decide (n ≤ (l.length : Int)))) (fun i hi rec hr => ?_) (fun rec => ?_) (l.length + 1) 0 (Nat.zero_le _) (by omega)).trans (by rw [List.drop_zero, List.take_zero]; rfl)
  · simp only [ronce_0, lt_t hi, cond_t, inb_t hi, chk, at_nat (c := .str) hi, rname_lname, drop_cons hi, onceF]
    cases hl : lname l[i] with
    | false => rfl
    | true =>
      rw [Bool.not_true, cond_f]
      refine (ronce_1_loop (c := fun b => cond b (some false) (some (onceF (l.take (i + 1)) (l.drop (i + 1)) && decide (l.length ≤ 100) && decide (n ≤ (l.length : Int))))) hb.1.1 hi (fun _ => ?_) (fun _ => ?_) (l.length + 1) (by omega)).trans ?_
      · rfl
      · show rec (l, n, false, wr .i64 ((i : Int) + 1)) = _
        rw [wr_succ hi hb.1.1, hr]
        rfl
      · rw [take_succ' hi]
        cases (l.take i).contains l[i] <;> rfl
  · simp only [ronce_0, lt_n, cond_f, len100]
    rw [List.drop_eq_nil_of_le (Nat.le_refl _)]
    simp only [onceF]
    cases decide (n ≤ (l.length : Int)) <;> cases decide (l.length ≤ 100) <;> rfl⟩
end Go.Proofs.YthndhaolemgbdaaGreatDoor

/- The document's answer: may a statement be. -/
namespace Go.Proofs.YthndhaolemgbdaaGreatDoor
open Go.Ax
noncomputable section
/-! ## exchequer/exchequerref13.Check -/
def rchk_2_sg : Sig := ⟨259, [(4, .bool), (5, .sl .str true), (9, .int .i64)], [(1, .ptr 0 0), (3, .ptr 1 0)], [(0, .one (.sv .stmt)), (1, .one (.sv .stmt))], 2, 0, 0, [], []⟩
abbrev rchk_2_V := Bool × List Str × Int × Stm × Stm
def rchk_2 {R : Type} (rec : rchk_2_V → Option R) (kx : Ex → rchk_2_V → Option R) (v : rchk_2_V) : Option R := match v with
 | (v14, v15, v16, w4, w5) =>
  cond (decide (v16 < (w4.sets.length : Int))) (
   chk (inb v16 w4.sets.length) (
    chk (decide (v15.length + 1 ≤ maxApp)) (
     cond (v14) (
      chk (inb v16 w4.sets.length) (
       rec (decide ((rdeep (xeta ((at' .set w4.sets v16).e))) ≤ 30), (v15 ++ [((at' .set w4.sets v16).name)]), (wr .i64 (v16 + 1)), w4, w5))) (
      rec (false, (v15 ++ [((at' .set w4.sets v16).name)]), (wr .i64 (v16 + 1)), w4, w5))))) (
   kx (.exit 5) (v14, v15, v16, w4, w5))
def rchk_1_sg : Sig := ⟨259, [(4, .bool), (8, .int .i64)], [(1, .ptr 0 0), (3, .ptr 1 0)], [(0, .one (.sv .stmt)), (1, .one (.sv .stmt))], 2, 0, 0, [], []⟩
abbrev rchk_1_V := Bool × Int × Stm × Stm
def rchk_1 {R : Type} (rec : rchk_1_V → Option R) (kx : Ex → rchk_1_V → Option R) (v : rchk_1_V) : Option R := match v with
 | (v8, v9, w2, w3) =>
  cond (decide (v9 < (w2.rows.length : Int))) (
   cond (v8) (
    chk (inb v9 w2.rows.length) (
     rec ((rall (at' .exprs w2.rows v9) 1), (wr .i64 (v9 + 1)), w2, w3))) (
    rec (false, (wr .i64 (v9 + 1)), w2, w3))) (
   kx (.exit 3) (v8, v9, w2, w3))
def rchk_0_sg : Sig := ⟨259, [(4, .bool), (5, .sl .str true), (6, .int .i64)], [(1, .ptr 0 0), (3, .ptr 1 0)], [(0, .one (.sv .stmt)), (1, .one (.sv .stmt))], 2, 0, 0, [], []⟩
abbrev rchk_0_V := Bool × List Str × Int × Stm × Stm
def rchk_0 {R : Type} (rec : rchk_0_V → Option R) (kx : Ex → rchk_0_V → Option R) (v : rchk_0_V) : Option R := match v with
 | (v, v1, v2, w, w1) =>
  cond (decide (v2 < (w.cols.length : Int))) (
   chk (inb v2 w.cols.length) (
    chk (decide (v1.length + 1 ≤ maxApp)) (
     let j1 := fun (p4 : Bool) =>
      let j := fun (p5 : Bool) =>
       cond (p5) (
        cond (decide (((at' .col w.cols v2).ref) = [])) (
         rec (true, (v1 ++ [((at' .col w.cols v2).name)]), (wr .i64 (v2 + 1)), w, w1)) (
         rec ((rname ((at' .col w.cols v2).ref)), (v1 ++ [((at' .col w.cols v2).name)]), (wr .i64 (v2 + 1)), w, w1))) (
        rec (false, (v1 ++ [((at' .col w.cols v2).name)]), (wr .i64 (v2 + 1)), w, w1))
      cond (p4) (
       j (decide ((at' .col w.cols v2).kind ≤ 5))) (
       j false)
     cond (v) (
      j1 (decide (2 ≤ (at' .col w.cols v2).kind))) (
      j1 false)))) (
   kx (.exit 1) (v, v1, v2, w, w1))
def rchk_px (R : Type) (k : Nat) : Px R := ⟨ttOf ttL, glT, callT [(72, callOr [.str] [.bool] rname_F), (73, callOr [.sl .str false, .int .i64] [.bool] ronce_F), (74, callOr [.sl .expr false, .int .i64] [.bool] rall_F), (46, callOr [.sv .expr] [.int .i64] rdeep_F), (28, callOr [.sv .stmt, .sv .stmt] [.bool] rsameS_F)], callQT [], loopT [(7, loopOr k rchk_0_sg (rchk_0)), (24, loopOr k rchk_1_sg (rchk_1)), (30, loopOr k rchk_2_sg (rchk_2))]⟩
theorem rchk_0_eq (R : Type) (k : Nat) : ∀ (fr : List Fr) (rec : rchk_0_V → Option R) (kx : Ex → rchk_0_V → Option R) (v : rchk_0_V), round (rchk_px R k) rchk_0_sg (lp Tryz.f26 0) fr rec kx v = rchk_0 rec kx v
  | fr, rec, kx, (v, v1, v2, w, w1) => by kernel_rfl
theorem rchk_1_eq (R : Type) (k : Nat) : ∀ (fr : List Fr) (rec : rchk_1_V → Option R) (kx : Ex → rchk_1_V → Option R) (v : rchk_1_V), round (rchk_px R k) rchk_1_sg (lp Tryz.f26 1) fr rec kx v = rchk_1 rec kx v
  | fr, rec, kx, (v8, v9, w2, w3) => by kernel_rfl
theorem rchk_2_eq (R : Type) (k : Nat) : ∀ (fr : List Fr) (rec : rchk_2_V → Option R) (kx : Ex → rchk_2_V → Option R) (v : rchk_2_V), round (rchk_px R k) rchk_2_sg (lp Tryz.f26 2) fr rec kx v = rchk_2 rec kx v
  | fr, rec, kx, (v14, v15, v16, w4, w5) => by kernel_rfl
def rchk_body (k : Nat) (x : HV [.sv .stmt]) : Option (HV [.int .i64]) := match x with
 | s =>
  let j10 : Bool → Option (HV [.int .i64]) := fun (p3 : Bool) =>
   let j9 : Bool → Stm → Stm → Option (HV [.int .i64]) := fun (p30 : Bool) (q : Stm) (q1 : Stm) =>
    let j8 : Bool → Stm → Option (HV [.int .i64]) := fun (p37 : Bool) (q2 : Stm) =>
     cond (!p37) (
      some 2) (
      cond (!(rsameS q2 q)) (
       some 2) (
       some 0))
    let j7 : Bool → Option (HV [.int .i64]) := fun (p35 : Bool) =>
     cond (p35) (
      cond (p30) (
       j8 (decide ((rdeep (xeta q.whr)) ≤ 30)) (Stm.mk q1.kind q1.name q1.on q1.cols q1.names q1.l q1.rows q1.sets true (xeta q.whr) q1.order q1.desc q1.most)) (
       j8 false (Stm.mk q1.kind q1.name q1.on q1.cols q1.names q1.l q1.rows q1.sets true (xeta q.whr) q1.order q1.desc q1.most))) (
      j8 p30 q1)
    let j6 : Bool → Option (HV [.int .i64]) := fun (p31 : Bool) =>
     cond (p31) (
      j7 q.has) (
      cond (decide (q.kind = 8)) (
       j7 q.has) (
       j7 false))
    cond (decide (q.kind = 6)) (
     j6 true) (
     j6 (decide (q.kind = 7)))
   cond (decide (s.kind = 1)) (
    iter (fun rec => rchk_0 rec (fun e vz => match vz with | (v3, v4, _, v6, v7) => match e with
     | .exit 1 =>
      let j2 : Bool → Option (HV [.int .i64]) := fun (p9 : Bool) =>
       cond (p9) (
        cond ((ronce v6.names 1)) (
         j9 (rall v6.l 0) v6 (Stm.mk v7.kind v7.name v7.on v6.cols v6.names v6.l v7.rows v7.sets v7.has (xeta v7.whr) v7.order v7.desc v7.most)) (
         j9 false v6 (Stm.mk v7.kind v7.name v7.on v6.cols v6.names v6.l v7.rows v7.sets v7.has (xeta v7.whr) v7.order v7.desc v7.most))) (
        j9 false v6 (Stm.mk v7.kind v7.name v7.on v6.cols v6.names v6.l v7.rows v7.sets v7.has (xeta v7.whr) v7.order v7.desc v7.most))
      cond (v3) (
       j2 (ronce v4 1)) (
       j2 false)
     | _ => none)) k (p3, [], 0, s, (Stm.mk s.kind s.name [] [] [] [] [] [] false (Xpr.mk 0 ⟨0, 0, []⟩ [] []) [] [] 0))) (
    cond (decide (s.kind = 3)) (
     cond (p3) (
      cond ((rname s.on)) (
       j9 (ronce s.names 1) s (Stm.mk s.kind s.name s.on [] s.names [] [] [] false (Xpr.mk 0 ⟨0, 0, []⟩ [] []) [] [] 0)) (
       j9 false s (Stm.mk s.kind s.name s.on [] s.names [] [] [] false (Xpr.mk 0 ⟨0, 0, []⟩ [] []) [] [] 0))) (
      j9 false s (Stm.mk s.kind s.name s.on [] s.names [] [] [] false (Xpr.mk 0 ⟨0, 0, []⟩ [] []) [] [] 0))) (
     cond (decide (s.kind = 5)) (
      let j3 : Bool → Option (HV [.int .i64]) := fun (p19 : Bool) =>
       iter (fun rec => rchk_1 rec (fun e vz => match vz with | (v10, _, v12, v13) => match e with
        | .exit 3 =>
         j9 v10 v12 v13
        | _ => none)) k (p19, 0, s, (Stm.mk s.kind s.name [] [] [] [] s.rows [] false (Xpr.mk 0 ⟨0, 0, []⟩ [] []) [] [] 0))
      cond (p3) (
       cond (decide (1 ≤ (s.rows.length : Int))) (
        j3 (decide ((s.rows.length : Int) ≤ 100))) (
        j3 false)) (
       j3 false)) (
      cond (decide (s.kind = 6)) (
       iter (fun rec => rchk_2 rec (fun e vz => match vz with | (v17, v18, _, v20, v21) => match e with
        | .exit 5 =>
         cond (v17) (
          j9 (ronce v18 1) v20 v21) (
          j9 false v20 v21)
        | _ => none)) k (p3, [], 0, s, (Stm.mk s.kind s.name [] [] [] [] [] s.sets false (Xpr.mk 0 ⟨0, 0, []⟩ [] []) [] [] 0))) (
       cond (decide (s.kind = 8)) (
        let j5 : Bool → Option (HV [.int .i64]) := fun (p25 : Bool) =>
         let j4 : Bool → Option (HV [.int .i64]) := fun (p26 : Bool) =>
          cond (p26) (
           cond (decide ((s.desc.length : Int) = (s.order.length : Int))) (
            j9 (decide ((-1) ≤ s.most)) s (Stm.mk s.kind s.name [] [] [] s.l [] [] false (Xpr.mk 0 ⟨0, 0, []⟩ [] []) s.order s.desc s.most)) (
            j9 false s (Stm.mk s.kind s.name [] [] [] s.l [] [] false (Xpr.mk 0 ⟨0, 0, []⟩ [] []) s.order s.desc s.most))) (
           j9 false s (Stm.mk s.kind s.name [] [] [] s.l [] [] false (Xpr.mk 0 ⟨0, 0, []⟩ [] []) s.order s.desc s.most))
         cond (p25) (
          j4 (ronce s.order 0)) (
          j4 false)
        cond (p3) (
         j5 (rall s.l 0)) (
         j5 false)) (
        j9 p3 s (Stm.mk s.kind s.name [] [] [] [] [] [] false (Xpr.mk 0 ⟨0, 0, []⟩ [] []) [] [] 0))))))
  cond ((rname s.name)) (
   cond (decide (1 ≤ s.kind)) (
    j10 (decide (s.kind ≤ 8))) (
    j10 false)) (
   j10 false)
theorem rchk_eq (k : Nat) : ∀ (x : HV [.sv .stmt]), runF (rchk_px _ k) Tryz.f26 [.sv .stmt] [.int .i64] x some = rchk_body k x
  | s => by kernel_rfl
theorem rchk_run (k : Nat) : FnOk Tryz.prog elT glT 26 [.sv .stmt] [.int .i64] (rchk_body k) := by
  refine fnOk_run Tryz.func26 rfl (by kernel_rfl) follows (by kernel_rfl) (n := 3) (by kernel_rfl) (px := rchk_px _ k) (fun cx hP hel hgl => ?_) (rchk_eq k)
  have hp0 : PxOk cx (rchk_px (HV [.int .i64]) k) := ⟨fun t => by rw [hP, hel]; exact tt_ok ttL_ok t, by rw [hgl]; rfl⟩
  have hc0 : CallOk cx (rchk_px (HV [.int .i64]) k) := callT_ok rfl (cfs_cons (cf_or (by rw [hP, hel, hgl]; exact rname_ok) (by kernel_rfl)) (cfs_cons (cf_or (by rw [hP, hel, hgl]; exact ronce_ok) (by kernel_rfl)) (cfs_cons (cf_or (by rw [hP, hel, hgl]; exact rall_ok) (by kernel_rfl)) (cfs_cons (cf_or (by rw [hP, hel, hgl]; exact rdeep_ok) (by kernel_rfl)) (cfs_cons (cf_or (by rw [hP, hel, hgl]; exact rsameS_ok) (by kernel_rfl)) cfs_nil)))))
  have hq0 : CallQOk cx (rchk_px (HV [.int .i64]) k) := callQT_ok rfl cqfs_nil
  have hlrchk_0 : LoopOk cx (rchk_px (HV [.int .i64]) k) (lp Tryz.f26 0) := loop_ok hp0 hc0 hq0 (by rw [hP]; exact follows) (k := k) (s := rchk_0_sg) (step := rchk_0) (fun _ _ => by kernel_rfl) (by kernel_rfl) (rchk_0_eq _ k) (loops_in (n := 0) (by kernel_rfl) all0)
  have hlrchk_1 : LoopOk cx (rchk_px (HV [.int .i64]) k) (lp Tryz.f26 1) := loop_ok hp0 hc0 hq0 (by rw [hP]; exact follows) (k := k) (s := rchk_1_sg) (step := rchk_1) (fun _ _ => by kernel_rfl) (by kernel_rfl) (rchk_1_eq _ k) (loops_in (n := 0) (by kernel_rfl) all0)
  have hlrchk_2 : LoopOk cx (rchk_px (HV [.int .i64]) k) (lp Tryz.f26 2) := loop_ok hp0 hc0 hq0 (by rw [hP]; exact follows) (k := k) (s := rchk_2_sg) (step := rchk_2) (fun _ _ => by kernel_rfl) (by kernel_rfl) (rchk_2_eq _ k) (loops_in (n := 0) (by kernel_rfl) all0)
  exact ⟨hp0, hc0, hq0, (allS (allS (allS all0 hlrchk_0) hlrchk_1) hlrchk_2)⟩
noncomputable def rchk (s : Stm) : Option Int := @ite _ (Few s) (Classical.propDecidable _) (some (cond (checkB s) 0 2)) none
def rchk_F : FT [.sv .stmt] [.int .i64] := fun x => rchk x
theorem rchk_0_loop {R : Type} {kx : Ex → rchk_0_V → Option R} {w o : Stm} {c : Bool → List Str → Option R} (hn : w.cols.length ≤ 600) (h2 : ∀ v ns i, kx (.exit 1) (v, ns, i, w, o) = c v ns) (k : Nat) (hk : w.cols.length < k) (v : Bool) :
    iter (fun rec => rchk_0 rec kx) k (v, [], 0, w, o) = c (v && w.cols.all colOk) (w.cols.map (·.name)) := by
  have hl : ln w.cols.length := by simp only [ln]; omega
  refine (iter_ind w.cols.length (fun i v => (v, (w.cols.take i).map (·.name), (i : Int), w, o)) (fun _ _ => True) (fun i v => c (v && (w.cols.drop i).all colOk) (w.cols.map (·.name))) (fun i hi v _ rec hr => ?_) (fun v _ rec => ?_) k 0 v (Nat.zero_le _) (by omega) trivial).trans (by rw [List.drop_zero])
  · have ht : (w.cols.take (i + 1)).map (·.name) = (w.cols.take i).map (·.name) ++ [w.cols[i].name] := by
      rw [List.take_add_one, List.getElem?_eq_getElem hi, List.map_append]
      rfl
    have hlen : ((w.cols.take i).map (·.name)).length + 1 ≤ maxApp := by simp only [List.length_map, List.length_take, maxApp]; omega
    have hr := fun v' => hr v' trivial
    simp only [ht] at hr
    simp only [rchk_0, lt_t hi, cond_t, inb_t hi, chk, at_nat (c := .col) hi, wr_succ hi hl, drop_cons hi, List.all_cons, decide_eq_true hlen, rname_lname, colOk]
    simp only [hr]
    generalize decide (2 ≤ w.cols[i].kind) = q1
    generalize decide (w.cols[i].kind ≤ 5) = q2
    generalize decide (w.cols[i].ref = []) = q3
    generalize lname w.cols[i].ref = q4
    cases v <;> cases q1 <;> cases q2 <;> cases q3 <;> cases q4 <;> rfl
  · simp only [rchk_0, lt_n, cond_f, h2]
    rw [List.drop_eq_nil_of_le (Nat.le_refl _), List.take_length]
    simp
theorem rchk_1_loop {R : Type} {kx : Ex → rchk_1_V → Option R} {w o : Stm} {c : Bool → Option R} (hn : ln w.rows.length) (h2 : ∀ v i, kx (.exit 3) (v, i, w, o) = c v) (k : Nat) (hk : w.rows.length < k) (v : Bool) :
    iter (fun rec => rchk_1 rec kx) k (v, 0, w, o) = c (v && w.rows.all fun r => rall r 1) := by
  refine (iter_ind w.rows.length (fun i v => (v, (i : Int), w, o)) (fun _ _ => True) (fun i v => c (v && (w.rows.drop i).all fun r => rall r 1)) (fun i hi v _ rec hr => ?_) (fun v _ rec => ?_) k 0 v (Nat.zero_le _) (by omega) trivial).trans (by rw [List.drop_zero])
  · have hr := fun v' => hr v' trivial
    simp only [rchk_1, lt_t hi, cond_t, inb_t hi, chk, at_nat (c := .exprs) hi, wr_succ hi hn, drop_cons hi, List.all_cons, hr]
    generalize rall w.rows[i] 1 = q1
    cases v <;> cases q1 <;> rfl
  · simp only [rchk_1, lt_n, cond_f, h2]
    rw [List.drop_eq_nil_of_le (Nat.le_refl _)]
    simp
theorem rchk_2_loop {R : Type} {kx : Ex → rchk_2_V → Option R} {w o : Stm} {c : Bool → List Str → Option R} (hn : w.sets.length ≤ 600) (h2 : ∀ v ns i, kx (.exit 5) (v, ns, i, w, o) = c v ns) (k : Nat) (hk : w.sets.length < k) (v : Bool) :
    iter (fun rec => rchk_2 rec kx) k (v, [], 0, w, o) = c (v && w.sets.all fun x => decide (rdeep x.e ≤ 30)) (w.sets.map (·.name)) := by
  have hl : ln w.sets.length := by simp only [ln]; omega
  refine (iter_ind w.sets.length (fun i v => (v, (w.sets.take i).map (·.name), (i : Int), w, o)) (fun _ _ => True) (fun i v => c (v && (w.sets.drop i).all fun x => decide (rdeep x.e ≤ 30)) (w.sets.map (·.name))) (fun i hi v _ rec hr => ?_) (fun v _ rec => ?_) k 0 v (Nat.zero_le _) (by omega) trivial).trans (by rw [List.drop_zero])
  · have ht : (w.sets.take (i + 1)).map (·.name) = (w.sets.take i).map (·.name) ++ [w.sets[i].name] := by
      rw [List.take_add_one, List.getElem?_eq_getElem hi, List.map_append]
      rfl
    have hlen : ((w.sets.take i).map (·.name)).length + 1 ≤ maxApp := by simp only [List.length_map, List.length_take, maxApp]; omega
    have hr := fun v' => hr v' trivial
    simp only [ht] at hr
    simp only [rchk_2, lt_t hi, cond_t, inb_t hi, chk, at_nat (c := .set) hi, wr_succ hi hl, drop_cons hi, List.all_cons, decide_eq_true hlen, xeta_eq]
    simp only [hr]
    generalize decide (rdeep w.sets[i].e ≤ 30) = q1
    cases v <;> cases q1 <;> rfl
  · simp only [rchk_2, lt_n, cond_f, h2]
    rw [List.drop_eq_nil_of_le (Nat.le_refl _), List.take_length]
    simp
theorem chk_end (s own : Stm) (ok : Bool) : cond (!ok) (some (2 : Int)) (cond (!rsameS own s) (some 2) (some 0)) = some (cond (ok && decide (own = s)) 0 2) := by
  simp only [rsameS]
  cases ok <;> cases decide (own = s) <;> rfl
theorem ronce_1' (l : List Str) : ronce l 1 = (asome (l.length : Int) && aonce l) := by
  rw [asome_is]
  simp only [ronce, aonce]
  rw [show decide ((1 : Int) ≤ (l.length : Int)) = decide (1 ≤ l.length) from decide_eq_decide.2 (by omega)]
  cases onceF [] l <;> cases decide (1 ≤ l.length) <;> cases decide (l.length ≤ 100) <;> rfl
theorem ronce_0' (l : List Str) : ronce l 0 = aonce l := by
  simp only [ronce]
  rw [decide_eq_true (show (0 : Int) ≤ (l.length : Int) by omega), Bool.and_true]
theorem rall_0' {l : List Xpr} (h : esizes l ≤ 10000) : rall l 0 = aexprs l := by
  rw [rall_is h, decide_eq_true (show (0 : Int) ≤ (l.length : Int) by omega), Bool.and_true]
theorem rall_1' {l : List Xpr} (h : esizes l ≤ 10000) : rall l 1 = rowOk l := by
  rw [rall_is h, rowOk]
  by_cases e : l.length = 0
  · rw [decide_eq_true e, decide_eq_false (by omega)]
    cases aexprs l <;> rfl
  · rw [decide_eq_false e, decide_eq_true (by omega)]
    cases aexprs l <;> rfl
theorem all_congr {α : Type} {l : List α} {p q : α → Bool} (h : ∀ x, x ∈ l → p x = q x) : l.all p = l.all q := by
  rw [Bool.eq_iff_iff, List.all_eq_true, List.all_eq_true]
  exact ⟨fun a x hx => by rw [← h x hx]; exact a x hx, fun a x hx => by rw [h x hx]; exact a x hx⟩
theorem own1 {s : Stm} (hk : s.kind = 1) : decide (Stm.mk s.kind s.name [] s.cols s.names s.l [] [] false noX [] [] 0 = s) = decide (arest s = noS) := by
  obtain ⟨k, nm, on, cols, names, l, rows, sets, has, whr, order, desc, most⟩ := s
  simp only at hk
  subst hk
  exact decide_eq_decide.2 ⟨fun h => by simp_all [arest, noS], fun h => by simp_all [arest, noS]⟩
theorem own24 {s : Stm} (hk : s.kind = 2 ∨ s.kind = 4) : decide (Stm.mk s.kind s.name [] [] [] [] [] [] false noX [] [] 0 = s) = decide (arest s = noS) := by
  obtain ⟨k, nm, on, cols, names, l, rows, sets, has, whr, order, desc, most⟩ := s
  simp only at hk
  rcases hk with rfl | rfl <;> exact decide_eq_decide.2 ⟨fun h => by simp_all [arest, noS], fun h => by simp_all [arest, noS]⟩
theorem own3 {s : Stm} (hk : s.kind = 3) : decide (Stm.mk s.kind s.name s.on [] s.names [] [] [] false noX [] [] 0 = s) = decide (arest s = noS) := by
  obtain ⟨k, nm, on, cols, names, l, rows, sets, has, whr, order, desc, most⟩ := s
  simp only at hk
  subst hk
  exact decide_eq_decide.2 ⟨fun h => by simp_all [arest, noS], fun h => by simp_all [arest, noS]⟩
theorem own5 {s : Stm} (hk : s.kind = 5) : decide (Stm.mk s.kind s.name [] [] [] [] s.rows [] false noX [] [] 0 = s) = decide (arest s = noS) := by
  obtain ⟨k, nm, on, cols, names, l, rows, sets, has, whr, order, desc, most⟩ := s
  simp only at hk
  subst hk
  exact decide_eq_decide.2 ⟨fun h => by simp_all [arest, noS], fun h => by simp_all [arest, noS]⟩
theorem own6 {s : Stm} (hk : s.kind = 6) (hh : s.has = true) : decide (Stm.mk s.kind s.name [] [] [] [] [] s.sets true s.whr [] [] 0 = s) = decide (arest s = noS) := by
  obtain ⟨k, nm, on, cols, names, l, rows, sets, has, whr, order, desc, most⟩ := s
  simp only at hk hh
  subst hk hh
  exact decide_eq_decide.2 ⟨fun h => by simp_all [arest, noS], fun h => by simp_all [arest, noS]⟩
theorem own6n {s : Stm} (hk : s.kind = 6) (hh : s.has = false) : decide (Stm.mk s.kind s.name [] [] [] [] [] s.sets false noX [] [] 0 = s) = (decide (arest s = noS) && decide (s.whr = noX)) := by
  obtain ⟨k, nm, on, cols, names, l, rows, sets, has, whr, order, desc, most⟩ := s
  simp only at hk hh
  subst hk hh
  rw [← Bool.decide_and]
  exact decide_eq_decide.2 ⟨fun h => by simp_all [arest, noS], fun h => by simp_all [arest, noS]⟩
theorem own7 {s : Stm} (hk : s.kind = 7) (hh : s.has = true) : decide (Stm.mk s.kind s.name [] [] [] [] [] [] true s.whr [] [] 0 = s) = decide (arest s = noS) := by
  obtain ⟨k, nm, on, cols, names, l, rows, sets, has, whr, order, desc, most⟩ := s
  simp only at hk hh
  subst hk hh
  exact decide_eq_decide.2 ⟨fun h => by simp_all [arest, noS], fun h => by simp_all [arest, noS]⟩
theorem own7n {s : Stm} (hk : s.kind = 7) (hh : s.has = false) : decide (Stm.mk s.kind s.name [] [] [] [] [] [] false noX [] [] 0 = s) = (decide (arest s = noS) && decide (s.whr = noX)) := by
  obtain ⟨k, nm, on, cols, names, l, rows, sets, has, whr, order, desc, most⟩ := s
  simp only at hk hh
  subst hk hh
  rw [← Bool.decide_and]
  exact decide_eq_decide.2 ⟨fun h => by simp_all [arest, noS], fun h => by simp_all [arest, noS]⟩
theorem own8 {s : Stm} (hk : s.kind = 8) (hh : s.has = true) : decide (Stm.mk s.kind s.name [] [] [] s.l [] [] true s.whr s.order s.desc s.most = s) = decide (arest s = noS) := by
  obtain ⟨k, nm, on, cols, names, l, rows, sets, has, whr, order, desc, most⟩ := s
  simp only at hk hh
  subst hk hh
  exact decide_eq_decide.2 ⟨fun h => by simp_all [arest, noS], fun h => by simp_all [arest, noS]⟩
theorem own8n {s : Stm} (hk : s.kind = 8) (hh : s.has = false) : decide (Stm.mk s.kind s.name [] [] [] s.l [] [] false noX s.order s.desc s.most = s) = (decide (arest s = noS) && decide (s.whr = noX)) := by
  obtain ⟨k, nm, on, cols, names, l, rows, sets, has, whr, order, desc, most⟩ := s
  simp only at hk hh
  subst hk hh
  rw [← Bool.decide_and]
  exact decide_eq_decide.2 ⟨fun h => by simp_all [arest, noS], fun h => by simp_all [arest, noS]⟩
/-- what stands at the end: the condition, and that there is no more -/
def nine (p : Bool) (s own : Stm) : Option Int :=
  cond ((decide (s.kind = 6) || decide (s.kind = 7) || decide (s.kind = 8)) && s.has)
    (cond (!(p && decide (rdeep s.whr ≤ 30))) (some 2) (cond (!rsameS ⟨own.kind, own.name, own.on, own.cols, own.names, own.l, own.rows, own.sets, true, s.whr, own.order, own.desc, own.most⟩ s) (some 2) (some 0)))
    (cond (!p) (some 2) (cond (!rsameS own s) (some 2) (some 0)))
theorem nine_no {s : Stm} (h : ¬ (s.kind = 6 ∨ s.kind = 7 ∨ s.kind = 8) ∨ s.has = false) (p : Bool) (own : Stm) : nine p s own = some (cond (p && decide (own = s)) 0 2) := by
  have e : ((decide (s.kind = 6) || decide (s.kind = 7) || decide (s.kind = 8)) && s.has) = false := by
    rcases h with h | h
    · rw [decide_eq_false (show ¬ s.kind = 6 by omega), decide_eq_false (show ¬ s.kind = 7 by omega), decide_eq_false (show ¬ s.kind = 8 by omega)]; rfl
    · rw [h, Bool.and_false]
  simp only [nine, e, cond_f]
  exact chk_end s own p
theorem nine_has {s : Stm} (h : s.kind = 6 ∨ s.kind = 7 ∨ s.kind = 8) (hh : s.has = true) (hf : Few s) (p : Bool) (own : Stm) : nine p s own = some (cond (p && eright s.whr 30 && decide (Stm.mk own.kind own.name own.on own.cols own.names own.l own.rows own.sets true s.whr own.order own.desc own.most = s)) 0 2) := by
  have e : ((decide (s.kind = 6) || decide (s.kind = 7) || decide (s.kind = 8)) && s.has) = true := by
    rw [hh, Bool.and_true]
    rcases h with h | h | h <;> rw [decide_eq_true h] <;> simp
  have hd := deep_is (show esize s.whr ≤ 10000 by have := hf.whr; omega)
  simp only [nine, e, cond_t, hd]
  exact chk_end s _ _
theorem cond_nine (b p : Bool) (s o : Stm) : cond b (nine p s o) (nine false s o) = nine (b && p) s o := by cases b <;> rfl
theorem awhere_t {s : Stm} (h : s.has = true) : awhere s = eright s.whr 30 := by rw [awhere_is, h]; rfl
theorem awhere_f {s : Stm} (h : s.has = false) : awhere s = decide (s.whr = noX) := by rw [awhere_is, h]; rfl
theorem rchk_b (k : Nat) (s : Stm) (hb : BdStm s) (hf : Few s) (hk : fuelS s ≤ k) : rchk_body k s = some (cond (checkB s) 0 2) := by
  simp only [fuelS] at hk
  simp -zeta only [rchk_body, rname_lname]
  extract_lets s0 j9 j3 j4 j5 j10
  subst s0
  have h10 : j10 (lname s.name && decide (1 ≤ s.kind) && decide (s.kind ≤ 8)) = some (cond (checkB s) 0 2) := by
    generalize hp : (lname s.name && decide (1 ≤ s.kind) && decide (s.kind ≤ 8)) = p
    simp -zeta only [j10]
    have h9 : ∀ p q q1, j9 p q q1 = nine p q q1 := fun p q q1 => by
      simp only [j9, nine, xeta_eq]
      generalize decide (q.kind = 6) = b6
      generalize decide (q.kind = 7) = b7
      generalize decide (q.kind = 8) = b8
      generalize q.has = bh
      cases p <;> cases b6 <;> cases b7 <;> cases b8 <;> cases bh <;> rfl
    have h9' : j9 = nine := funext fun p => funext fun q => funext fun q1 => h9 p q q1
    simp -zeta only [j3, j5, j4]
    clear j10 j5 j4 j3
    clear h9
    clear_value j9
    subst h9'
    have hl : rall s.l 0 = aexprs s.l := rall_0' (by have := hf.l; omega)
    have w6 : (s.sets.all fun x => decide (rdeep x.e ≤ 30)) = s.sets.all fun x => eright x.e 30 := all_congr fun x hx => deep_is (by have := hf.sets.2 x hx; omega)
    have w5 : (s.rows.all fun r => rall r 1) = s.rows.all rowOk := all_congr fun r hr => rall_1' (by have := hf.rows.2 r hr; omega)
    have hx : Xpr.mk 0 ⟨0, 0, []⟩ [] [] = noX := rfl
    have pk : ∀ {n : Int}, s.kind = n → 1 ≤ n → n ≤ 8 → p = lname s.name := fun {n} h a b => by
      rw [← hp, decide_eq_true (show 1 ≤ s.kind by omega), decide_eq_true (show s.kind ≤ 8 by omega), Bool.and_true, Bool.and_true]
    by_cases h1 : s.kind = 1
    · rw [decide_eq_true h1, cond_t]
      refine (rchk_0_loop (c := fun v ns => cond v (cond (ronce ns 1) (cond (ronce s.names 1) (nine (rall s.l 0) s (Stm.mk s.kind s.name [] s.cols s.names s.l [] [] false noX [] [] 0)) (nine false s (Stm.mk s.kind s.name [] s.cols s.names s.l [] [] false noX [] [] 0))) (nine false s (Stm.mk s.kind s.name [] s.cols s.names s.l [] [] false noX [] [] 0))) (nine false s (Stm.mk s.kind s.name [] s.cols s.names s.l [] [] false noX [] [] 0))) hf.cols (fun _ _ _ => rfl) k (by omega) p).trans ?_
      simp only [cond_nine, ronce_1', hl]
      rw [nine_no (.inl (by omega)), own1 h1, pk h1 (by omega) (by omega), checkB, if_pos h1]
      simp only [List.length_map]
      congr 2
      ac_rfl
    rw [decide_eq_false h1, cond_f]
    by_cases h3 : s.kind = 3
    · rw [decide_eq_true h3, cond_t]
      simp only [cond_nine, ronce_1', hx]
      rw [nine_no (.inl (by omega)), own3 h3, pk h3 (by omega) (by omega), checkB, if_neg h1, if_pos h3]
      congr 2
      ac_rfl
    rw [decide_eq_false h3, cond_f]
    by_cases h5 : s.kind = 5
    · rw [decide_eq_true h5, cond_t]
      have hit := fun p19 => rchk_1_loop (w := s) (o := Stm.mk s.kind s.name [] [] [] [] s.rows [] false noX [] [] 0) (c := fun v => nine v s (Stm.mk s.kind s.name [] [] [] [] s.rows [] false noX [] [] 0)) (kx := fun e vz => match vz with | (v10, _, v12, v13) => match e with
        | .exit 3 => nine v10 v12 v13
        | _ => none) hb.rows.1 (fun _ _ => rfl) k (by omega) p19
      have e : ∀ p19, iter (fun rec => rchk_1 rec (fun e vz => match vz with | (v10, _, v12, v13) => match e with
        | .exit 3 => nine v10 v12 v13
        | _ => none)) k (p19, 0, s, (Stm.mk s.kind s.name [] [] [] [] s.rows [] false noX [] [] 0)) = nine (p19 && s.rows.all fun r => rall r 1) s (Stm.mk s.kind s.name [] [] [] [] s.rows [] false noX [] [] 0) := hit
      show cond p (cond (decide (1 ≤ (s.rows.length : Int))) (iter _ k (_, 0, s, (Stm.mk s.kind s.name [] [] [] [] s.rows [] false noX [] [] 0))) (iter _ k (_, 0, s, (Stm.mk s.kind s.name [] [] [] [] s.rows [] false noX [] [] 0)))) (iter _ k (_, 0, s, (Stm.mk s.kind s.name [] [] [] [] s.rows [] false noX [] [] 0))) = _
      rw [e, e, Bool.false_and, cond_nine, cond_nine, w5]
      rw [nine_no (.inl (by omega)), own5 h5, pk h5 (by omega) (by omega), checkB, if_neg h1, if_neg h3, if_neg (by omega), if_pos h5, arows, asome_is, len100, show decide ((1 : Int) ≤ (s.rows.length : Int)) = decide (1 ≤ s.rows.length) from decide_eq_decide.2 (by omega)]
      congr 2
      ac_rfl
    rw [decide_eq_false h5, cond_f]
    by_cases h6 : s.kind = 6
    · rw [decide_eq_true h6, cond_t]
      refine (rchk_2_loop (c := fun v ns => cond v (nine (ronce ns 1) s (Stm.mk s.kind s.name [] [] [] [] [] s.sets false noX [] [] 0)) (nine false s (Stm.mk s.kind s.name [] [] [] [] [] s.sets false noX [] [] 0))) hf.sets.1 (fun _ _ _ => rfl) k (by omega) p).trans ?_
      simp only [cond_nine, ronce_1', w6]
      rw [checkB, if_neg h1, if_neg h3, if_neg (by omega), if_neg h5, if_pos h6, pk h6 (by omega) (by omega)]
      simp only [List.length_map]
      cases hh : s.has with
      | true =>
        rw [nine_has (.inl h6) hh hf, own6 h6 hh, awhere_t hh]
        congr 2
        ac_rfl
      | false =>
        rw [nine_no (.inr hh), own6n h6 hh, awhere_f hh]
        congr 2
        ac_rfl
    rw [decide_eq_false h6, cond_f]
    by_cases h8 : s.kind = 8
    · rw [decide_eq_true h8, cond_t]
      simp only [cond_nine, ronce_0', hx, hl]
      have c4 : ∀ (b : Bool) (P Q : Bool), cond b (nine P s (Stm.mk s.kind s.name [] [] [] s.l [] [] false noX s.order s.desc s.most)) (nine (false && Q) s (Stm.mk s.kind s.name [] [] [] s.l [] [] false noX s.order s.desc s.most)) = nine (b && P) s (Stm.mk s.kind s.name [] [] [] s.l [] [] false noX s.order s.desc s.most) := fun b P Q => by cases b <;> rfl
      simp only [c4]
      have e1 : decide ((s.desc.length : Int) = (s.order.length : Int)) = decide (s.desc.length = s.order.length) := decide_eq_decide.2 (by omega)
      rw [checkB, if_neg h1, if_neg h3, if_neg (by omega), if_neg h5, if_neg h6, if_neg (by omega), if_pos h8, pk h8 (by omega) (by omega), e1]
      cases hh : s.has with
      | true =>
        rw [nine_has (.inr (.inr h8)) hh hf, own8 h8 hh, awhere_t hh]
        congr 2
        ac_rfl
      | false =>
        rw [nine_no (.inr hh), own8n h8 hh, awhere_f hh]
        congr 2
        ac_rfl
    rw [decide_eq_false h8, cond_f, hx]
    by_cases h7 : s.kind = 7
    · rw [checkB, if_neg h1, if_neg h3, if_neg (by omega), if_neg h5, if_neg h6, if_pos h7, pk h7 (by omega) (by omega)]
      cases hh : s.has with
      | true =>
        rw [nine_has (.inr (.inl h7)) hh hf, own7 h7 hh, awhere_t hh]
        congr 2
        ac_rfl
      | false =>
        rw [nine_no (.inr hh), own7n h7 hh, awhere_f hh]
        congr 2
        ac_rfl
    rw [nine_no (.inl (by omega)), checkB, if_neg h1, if_neg h3]
    by_cases h24 : s.kind = 2 ∨ s.kind = 4
    · rw [if_pos h24, own24 h24, ← hp, decide_eq_true (show 1 ≤ s.kind by omega), decide_eq_true (show s.kind ≤ 8 by omega)]
      congr 2
      ac_rfl
    · have hp0 : p = false := by
        rw [← hp]
        by_cases q : 1 ≤ s.kind
        · rw [decide_eq_false (show ¬ s.kind ≤ 8 by omega), Bool.and_false]
        · rw [decide_eq_false q, Bool.and_false, Bool.false_and]
      rw [if_neg h24, if_neg h5, if_neg h6, if_neg h7, if_neg h8, hp0, Bool.and_false]
      rfl
  rw [← h10]
  cases lname s.name <;> cases decide (1 ≤ s.kind) <;> cases decide (s.kind ≤ 8) <;> rfl
theorem rchk_ok : FnOk Tryz.prog elT glT 26 [.sv .stmt] [.int .i64] rchk_F := .fin 0 rchk_run fun s r hb hx => ⟨fuelS s, by
  simp only [rchk_F, rchk] at hx
  split at hx
  · rename_i h
    exact (rchk_b (fuelS s) s hb h (Nat.le_refl _)).trans hx
  · cases hx⟩
theorem rchk_is {s : Stm} (h : Few s) : rchk s = some (cond (checkB s) 0 2) := if_pos h
end
end Go.Proofs.YthndhaolemgbdaaGreatDoor

/- The document's answer: texts of expressions and of statements. -/
namespace Go.Proofs.YthndhaolemgbdaaGreatDoor
open Go.Ax
noncomputable section
theorem ms {n : Nat} (h : n ≤ 1000000000000) : decide (n ≤ maxStr) = true := decide_eq_true (by simp only [maxStr]; omega)
/-! ## lists with a comma between -/
/-! ## exchequer/exchequerref13.comma -/
def rcomma_px (R : Type) : Px R := ⟨ttOf ttL, glT, callT [], callQT [], loopT []⟩
def rcomma_body (x : HV [.str, .str]) : Option (HV [.str]) := match x with
 | (s, more) =>
  cond (decide (s = [])) (
   some more) (
   chk (decide (s.length + [44, 32].length ≤ maxStr)) (
    chk (decide ((s ++ [44, 32]).length + more.length ≤ maxStr)) (
     some ((s ++ [44, 32]) ++ more))))
theorem rcomma_eq : ∀ (x : HV [.str, .str]), runF (rcomma_px _) Tryz.f59 [.str, .str] [.str] x some = rcomma_body x
  | (s, more) => by kernel_rfl
theorem rcomma_run : FnOk Tryz.prog elT glT 59 [.str, .str] [.str] (rcomma_body) := by
  refine fnOk_run Tryz.func59 rfl (by kernel_rfl) follows (by kernel_rfl) (n := 0) (by kernel_rfl) (px := rcomma_px _) (fun cx hP hel hgl => ?_) (rcomma_eq)
  have hp0 : PxOk cx (rcomma_px (HV [.str])) := ⟨fun t => by rw [hP, hel]; exact tt_ok ttL_ok t, by rw [hgl]; rfl⟩
  have hc0 : CallOk cx (rcomma_px (HV [.str])) := callT_ok rfl cfs_nil
  have hq0 : CallQOk cx (rcomma_px (HV [.str])) := callQT_ok rfl cqfs_nil
  exact ⟨hp0, hc0, hq0, all0⟩
def rcomma (s more : Str) : Option Str := rcomma_body (s, more)
def rcomma_F : FT [.str, .str] [.str] := fun x => rcomma x.1 x.2
theorem rcomma_ok : FnOk Tryz.prog elT glT 59 [.str, .str] [.str] rcomma_F := .fin0 rcomma_run fun _ _ _ hx => hx
theorem rcomma_is {s m : Str} (h : s.length + m.length ≤ 100000000000) : rcomma s m = some (if s = [] then m else s ++ ([44, 32] ++ m)) := by
  simp only [rcomma, rcomma_body]
  by_cases e : s = []
  · rw [decide_eq_true e, if_pos e]; rfl
  · rw [decide_eq_false e, if_neg e, ms (by simp only [List.length_cons, List.length_nil]; omega), ms (by simp only [List.length_append, List.length_cons, List.length_nil]; omega)]
    simp only [cond_f, chk, cond_t, List.append_assoc]
theorem tailT_app {α : Type} (f : α → Str) : ∀ a b : List α, tailT f (a ++ b) = tailT f a ++ tailT f b
  | [], b => rfl
  | x :: a, b => by simp only [List.cons_append, tailT, tailT_app f a b, List.append_assoc]
theorem listT_app {α : Type} (f : α → Str) {a : List α} (h : a ≠ []) (b : List α) : listT f (a ++ b) = listT f a ++ tailT f b := by
  cases a with
  | nil => exact absurd rfl h
  | cons x a => simp only [List.cons_append, listT, tailT_app, List.append_assoc]
theorem listT_ne {α : Type} {f : α → Str} {l : List α} (hne : ∀ x, x ∈ l → f x ≠ []) : listT f l = [] ↔ l = [] := by
  cases l with
  | nil => simp [listT]
  | cons x l =>
    have := hne x List.mem_cons_self
    simp [listT, this]
theorem listT_one {α : Type} (f : α → Str) (x : α) : listT f [x] = f x := by simp [listT, tailT]
theorem take_s {α : Type} {l : List α} {i : Nat} (hi : i < l.length) : l.take (i + 1) = l.take i ++ [l[i]] := by
  rw [List.take_add_one, List.getElem?_eq_getElem hi]
  rfl
theorem comma_loop {V R α : Type} {step : (V → Option R) → V → Option R} (l : List α) (f : α → Str) (st : Nat → Str → V) (c : Option R) (hne : ∀ x, x ∈ l → f x ≠ []) (hlen : (listT f l).length ≤ 10000000000)
    (hs : ∀ i (hi : i < l.length) (acc : Str) rec, step rec (st i acc) = (rcomma acc (f l[i])).bind fun x => rec (st (i + 1) x)) (he : ∀ rec, step rec (st l.length (listT f l)) = c) (k : Nat) (hk : l.length < k) : iter step k (st 0 []) = c := by
  refine (iter_ind0 l.length (fun i => st i (listT f (l.take i))) (fun _ => c) (fun i hi rec hr => ?_) (fun rec => ?_) k 0 (Nat.zero_le _) (by omega))
  · have hl : listT f l = listT f (l.take (i + 1)) ++ tailT f (l.drop (i + 1)) := by
      rw [← listT_app f (fun e => by
        have := congrArg List.length e
        rw [List.length_take, List.length_nil] at this
        omega), List.take_append_drop]
    have hl2 := congrArg List.length hl
    rw [List.length_append] at hl2
    have ht : listT f (l.take (i + 1)) = if listT f (l.take i) = [] then f l[i] else listT f (l.take i) ++ ([44, 32] ++ f l[i]) := by
      rw [take_s hi]
      by_cases h0 : l.take i = []
      · rw [h0, List.nil_append, listT_one, if_pos (show listT f ([] : List α) = [] from rfl)]
      · rw [listT_app f h0, if_neg (fun e => h0 ((listT_ne fun x hx => hne x (List.mem_of_mem_take hx)).1 e))]
        simp only [tailT, List.append_nil]
    have hlen2 : (listT f (l.take i)).length + (f l[i]).length ≤ 100000000000 := by
      rw [ht] at hl2
      split at hl2
      · rename_i h0
        rw [h0]
        simp only [List.length_nil]
        omega
      · simp only [List.length_append, List.length_cons, List.length_nil] at hl2
        omega
    rw [hs i hi, rcomma_is hlen2, ← ht]
    exact hr
  · show step rec (st l.length (listT f (l.take l.length))) = _
    rw [List.take_length]
    exact he _
/-! ## expressions -/
/-! ## exchequer/exchequerref13.text -/
def rtx_px (R : Type) (rf : FT [.sv .expr] [.str]) : Px R := ⟨ttOf ttL, glT, callT [(99, callOr [.sv .val] [.str] rprint_F), (42, callOr [.sv .expr] [.str] rf)], callQT [(42, callOrQ [.sv .expr] [.str] rf), (36, callOrQ [.int .i64] [.str] rsign_F)], loopT []⟩
def rtx_body (rf : FT [.sv .expr] [.str]) (x : HV [.sv .expr]) : Option (HV [.str]) := match x with
 | e =>
  cond (decide (e.kind = 1)) (
   some (rprint e.v)) (
   cond (decide (e.kind = 2)) (
    some e.name) (
    cond (decide (e.kind = 3)) (
     chk (inb 0 e.l.length) (
      (rf (at' .expr e.l 0)).bind fun x =>
       chk (decide ([40, 78, 79, 84, 32].length + x.length ≤ maxStr)) (
        chk (decide (([40, 78, 79, 84, 32] ++ x).length + [41].length ≤ maxStr)) (
         some (([40, 78, 79, 84, 32] ++ x) ++ [41]))))) (
     cond (decide (e.kind = 15)) (
      chk (inb 0 e.l.length) (
       (rf (at' .expr e.l 0)).bind fun x1 =>
        chk (decide ([40, 45].length + x1.length ≤ maxStr)) (
         chk (decide (([40, 45] ++ x1).length + [41].length ≤ maxStr)) (
          some (([40, 45] ++ x1) ++ [41]))))) (
      cond (decide (e.kind = 16)) (
       chk (inb 0 e.l.length) (
        (rf (at' .expr e.l 0)).bind fun x2 =>
         chk (decide ([40].length + x2.length ≤ maxStr)) (
          chk (decide (([40] ++ x2).length + [32, 73, 83, 32, 78, 85, 76, 76, 41].length ≤ maxStr)) (
           some (([40] ++ x2) ++ [32, 73, 83, 32, 78, 85, 76, 76, 41]))))) (
       chk (inb 0 e.l.length) (
        (rf (at' .expr e.l 0)).bind fun x3 =>
         chk (decide ([40].length + x3.length ≤ maxStr)) (
          chk (decide (([40] ++ x3).length + [32].length ≤ maxStr)) (
           chk (decide ((([40] ++ x3) ++ [32]).length + (rsign e.kind).length ≤ maxStr)) (
            chk (decide (((([40] ++ x3) ++ [32]) ++ (rsign e.kind)).length + [32].length ≤ maxStr)) (
             chk (inb 1 e.l.length) (
              (rf (at' .expr e.l 1)).bind fun x4 =>
               chk (decide ((((([40] ++ x3) ++ [32]) ++ (rsign e.kind)) ++ [32]).length + x4.length ≤ maxStr)) (
                chk (decide (((((([40] ++ x3) ++ [32]) ++ (rsign e.kind)) ++ [32]) ++ x4).length + [41].length ≤ maxStr)) (
                 some (((((([40] ++ x3) ++ [32]) ++ (rsign e.kind)) ++ [32]) ++ x4) ++ [41]))))))))))))))
theorem rtx_eq (rf : FT [.sv .expr] [.str]) : ∀ (x : HV [.sv .expr]), runF (rtx_px _ rf) Tryz.f42 [.sv .expr] [.str] x some = rtx_body rf x
  | e => by kernel_rfl
theorem rtx_run (rf : FT [.sv .expr] [.str]) (hrf : FnOk Tryz.prog elT glT 42 [.sv .expr] [.str] rf) : FnOk Tryz.prog elT glT 42 [.sv .expr] [.str] (rtx_body rf) := by
  refine fnOk_run Tryz.func42 rfl (by kernel_rfl) follows (by kernel_rfl) (n := 0) (by kernel_rfl) (px := rtx_px _ rf) (fun cx hP hel hgl => ?_) (rtx_eq rf)
  have hp0 : PxOk cx (rtx_px (HV [.str]) rf) := ⟨fun t => by rw [hP, hel]; exact tt_ok ttL_ok t, by rw [hgl]; rfl⟩
  have hc0 : CallOk cx (rtx_px (HV [.str]) rf) := callT_ok rfl (cfs_cons (cf_or (by rw [hP, hel, hgl]; exact rprint_ok) (by kernel_rfl)) (cfs_cons (cf_or (by rw [hP, hel, hgl]; exact hrf) (by kernel_rfl)) cfs_nil))
  have hq0 : CallQOk cx (rtx_px (HV [.str]) rf) := callQT_ok rfl (cqfs_cons (cqf_or (by rw [hP, hel, hgl]; exact hrf) (by kernel_rfl)) (cqfs_cons (cqf_or (by rw [hP, hel, hgl]; exact rsign_ok) (by kernel_rfl)) cqfs_nil))
  exact ⟨hp0, hc0, hq0, all0⟩
def rtx (e : Xpr) : Option Str := @ite _ (RX e ∧ esize e ≤ 10000) (Classical.propDecidable _) (some (etx e)) none
def rtx_F : FT [.sv .expr] [.str] := fun x => rtx x
theorem rtx_all : ∀ (n : Nat) (e : Xpr) (m : Int), esize e ≤ n → eright e m = true → BdExpr e → esize e ≤ 10000 → iter rtx_body n e = some (etx e)
  | 0, e, _, h, _, _, _ => by have := esize_pos e; omega
  | n + 1, e, m, h, hr, hb, hz => by
    rw [iter_s]
    have ih : ∀ x, x ∈ e.l → iter rtx_body n x = some (etx x) ∧ (etx x).length ≤ 40000000 := fun x hx => by
      obtain ⟨m', hm⟩ := right_sub hr hx
      have hs := esize_mem hx
      rw [esize_eq] at h hz
      have hbx := (bd_ls hb).2 x hx
      have := rx_len hm hbx
      exact ⟨rtx_all n x m' (by omega) hm hbx (by omega), by omega⟩
    have sh := shape_of hr
    cases sh with
    | atom _ hk =>
      rw [etx_un]
      simp only [rtx_body]
      rcases hk with k | k
      · rw [decide_eq_true k, if_pos k]; rfl
      · rw [decide_eq_false (show ¬ e.kind = 1 by omega), decide_eq_true k, if_neg (by omega), if_pos k]; rfl
    | not x =>
      obtain ⟨h1, h2⟩ := ih x List.mem_cons_self
      have a0 : at' .expr [x] 0 = x := rfl
      have i0 : inb 0 [x].length = true := rfl
      simp only [rtx_body, Xpr.kind, Xpr.l, a0, i0, h1, Option.bind_some, Int.reduceEq, decide_false, decide_true, cond_f, cond_t, chk]
      rw [ms (by simp only [List.length_cons, List.length_nil]; omega), ms (by simp only [List.length_append, List.length_cons, List.length_nil]; omega), etx_not]
      show some _ = some _
      simp
    | neg x =>
      obtain ⟨h1, h2⟩ := ih x List.mem_cons_self
      have a0 : at' .expr [x] 0 = x := rfl
      have i0 : inb 0 [x].length = true := rfl
      simp only [rtx_body, Xpr.kind, Xpr.l, a0, i0, h1, Option.bind_some, Int.reduceEq, decide_false, decide_true, cond_f, cond_t, chk]
      rw [ms (by simp only [List.length_cons, List.length_nil]; omega), ms (by simp only [List.length_append, List.length_cons, List.length_nil]; omega), etx_neg]
      show some _ = some _
      simp
    | isn x =>
      obtain ⟨h1, h2⟩ := ih x List.mem_cons_self
      have a0 : at' .expr [x] 0 = x := rfl
      have i0 : inb 0 [x].length = true := rfl
      simp only [rtx_body, Xpr.kind, Xpr.l, a0, i0, h1, Option.bind_some, Int.reduceEq, decide_false, decide_true, cond_f, cond_t, chk]
      rw [ms (by simp only [List.length_cons, List.length_nil]; omega), ms (by simp only [List.length_append, List.length_cons, List.length_nil]; omega), etx_isn]
      show some _ = some _
      simp
    | op k x y hk =>
      obtain ⟨h1, h2⟩ := ih x List.mem_cons_self
      obtain ⟨h3, h4⟩ := ih y (by simp [Xpr.l])
      have a0 : at' .expr [x, y] 0 = x := rfl
      have a1 : at' .expr [x, y] 1 = y := rfl
      have i0 : inb 0 [x, y].length = true := rfl
      have i1 : inb 1 [x, y].length = true := rfl
      have h5 := sgn_len hk
      have hs : rsign k = sgn k := rsign_sgn k
      have hk2 := hk
      simp only [isOp] at hk2
      have kn : ∀ c : Int, ¬ k = c → decide ((Xpr.mk k ⟨0, 0, []⟩ [] [x, y]).kind = c) = false := fun c h => decide_eq_false h
      simp only [rtx_body]
      rw [kn 1 (by omega), kn 2 (by omega), kn 3 (by omega), kn 15 (by omega), kn 16 (by omega)]
      simp only [Xpr.l, Xpr.kind, a0, a1, h1, h3, hs, i0, i1, Option.bind_some]
      simp only [cond_f, cond_t, chk]
      rw [ms (by simp only [List.length_cons, List.length_nil]; omega), ms (by simp only [List.length_append, List.length_cons, List.length_nil]; omega), ms (by simp only [List.length_append, List.length_cons, List.length_nil]; omega), ms (by simp only [List.length_append, List.length_cons, List.length_nil]; omega), ms (by simp only [List.length_append, List.length_cons, List.length_nil]; omega), ms (by simp only [List.length_append, List.length_cons, List.length_nil]; omega), etx_op hk]
      show some _ = some _
      simp
theorem rtx_ok : FnOk Tryz.prog elT glT 42 [.sv .expr] [.str] rtx_F := by
  refine .fin (ι := Nat) 0 (F := fun n => iter rtx_body n) (fun n => FnOk.rec' (Sx.enters_of Tryz.func42 rfl rfl) (fun rf hrf => rtx_run rf hrf) n) fun e r hb hx => ⟨esize e, ?_⟩
  simp only [rtx_F, rtx] at hx
  split at hx
  · rename_i h
    exact (rtx_all (esize e) e 30 (Nat.le_refl _) h.1.1 h.1.2 h.2).trans hx
  · cases hx
theorem rtx_is {e : Xpr} (h : RX e) (hz : esize e ≤ 10000) : rtx e = some (etx e) := if_pos ⟨h, hz⟩
/-! ## exchequer/exchequerref13.texts -/
def rtexts_0_sg : Sig := ⟨19, [(0, .sl .expr false), (3, .str), (4, .int .i64)], [], [], 0, 0, 0, [], []⟩
abbrev rtexts_0_V := List Xpr × Str × Int
def rtexts_0 {R : Type} (rec : rtexts_0_V → Option R) (kx : Ex → rtexts_0_V → Option R) (v : rtexts_0_V) : Option R := match v with
 | (v, v1, v2) =>
  cond (decide (v2 < (v.length : Int))) (
   chk (inb v2 v.length) (
    (rtx (at' .expr v v2)).bind fun x =>
     (rcomma v1 x).bind fun x1 =>
      rec (v, x1, (wr .i64 (v2 + 1))))) (
   kx (.exit 0) (v, v1, v2))
def rtexts_px (R : Type) (k : Nat) : Px R := ⟨ttOf ttL, glT, callT [(42, callOr [.sv .expr] [.str] rtx_F), (59, callOr [.str, .str] [.str] rcomma_F)], callQT [], loopT [(3, loopOr k rtexts_0_sg (rtexts_0))]⟩
theorem rtexts_0_eq (R : Type) (k : Nat) : ∀ (fr : List Fr) (rec : rtexts_0_V → Option R) (kx : Ex → rtexts_0_V → Option R) (v : rtexts_0_V), round (rtexts_px R k) rtexts_0_sg (lp Tryz.f60 0) fr rec kx v = rtexts_0 rec kx v
  | fr, rec, kx, (v, v1, v2) => by kernel_rfl
def rtexts_body (k : Nat) (x : HV [.sl .expr false]) : Option (HV [.str]) := match x with
 | l =>
  iter (fun rec => rtexts_0 rec (fun e vz => match vz with | (_, v4, _) => match e with
   | .exit 0 =>
    some v4
   | _ => none)) k (l, [], 0)
theorem rtexts_eq (k : Nat) : ∀ (x : HV [.sl .expr false]), runF (rtexts_px _ k) Tryz.f60 [.sl .expr false] [.str] x some = rtexts_body k x
  | l => by kernel_rfl
theorem rtexts_run (k : Nat) : FnOk Tryz.prog elT glT 60 [.sl .expr false] [.str] (rtexts_body k) := by
  refine fnOk_run Tryz.func60 rfl (by kernel_rfl) follows (by kernel_rfl) (n := 1) (by kernel_rfl) (px := rtexts_px _ k) (fun cx hP hel hgl => ?_) (rtexts_eq k)
  have hp0 : PxOk cx (rtexts_px (HV [.str]) k) := ⟨fun t => by rw [hP, hel]; exact tt_ok ttL_ok t, by rw [hgl]; rfl⟩
  have hc0 : CallOk cx (rtexts_px (HV [.str]) k) := callT_ok rfl (cfs_cons (cf_or (by rw [hP, hel, hgl]; exact rtx_ok) (by kernel_rfl)) (cfs_cons (cf_or (by rw [hP, hel, hgl]; exact rcomma_ok) (by kernel_rfl)) cfs_nil))
  have hq0 : CallQOk cx (rtexts_px (HV [.str]) k) := callQT_ok rfl cqfs_nil
  have hlrtexts_0 : LoopOk cx (rtexts_px (HV [.str]) k) (lp Tryz.f60 0) := loop_ok hp0 hc0 hq0 (by rw [hP]; exact follows) (k := k) (s := rtexts_0_sg) (step := rtexts_0) (fun _ _ => by kernel_rfl) (by kernel_rfl) (rtexts_0_eq _ k) (loops_in (n := 0) (by kernel_rfl) all0)
  exact ⟨hp0, hc0, hq0, (allS all0 hlrtexts_0)⟩
def rtexts (l : List Xpr) : Option Str := @ite _ ((∀ x, x ∈ l → RX x) ∧ esizes l ≤ 10000) (Classical.propDecidable _) (some (listT etx l)) none
def rtexts_F : FT [.sl .expr false] [.str] := fun x => rtexts x
theorem rtexts_ok : FnOk Tryz.prog elT glT 60 [.sl .expr false] [.str] rtexts_F := .fin 0 rtexts_run fun l r hb hx => ⟨l.length + 1, by
  simp only [rtexts_F, rtexts] at hx
  split at hx
  · rename_i h
    rw [← hx]
    have hl := list_xlen l h.1
    simp only [rtexts_body]
    refine comma_loop l etx (fun i acc => (l, acc, (i : Int))) (some (listT _ l)) (fun x hx => etx_ne (h.1 x hx).1) (by omega) (fun i hi acc rec => ?_) (fun rec => ?_) (l.length + 1) (by omega)
    · have hx := List.getElem_mem hi
      have hz := esize_mem hx
      simp only [rtexts_0, lt_t hi, cond_t, inb_t hi, chk, at_nat (c := .expr) hi, wr_succ hi hb.1, rtx_is (h.1 _ hx) (by omega), Option.bind_some]
    · simp only [rtexts_0, lt_n, cond_f]
  · cases hx⟩
theorem rtexts_is {l : List Xpr} (h : ∀ x, x ∈ l → RX x) (hz : esizes l ≤ 10000) : rtexts l = some (listT etx l) := if_pos ⟨h, hz⟩
/-! ## exchequer/exchequerref13.names -/
def rnms_0_sg : Sig := ⟨18, [(0, .sl .str false), (3, .str), (4, .int .i64)], [], [], 0, 0, 0, [], []⟩
abbrev rnms_0_V := List Str × Str × Int
def rnms_0 {R : Type} (rec : rnms_0_V → Option R) (kx : Ex → rnms_0_V → Option R) (v : rnms_0_V) : Option R := match v with
 | (v, v1, v2) =>
  cond (decide (v2 < (v.length : Int))) (
   chk (inb v2 v.length) (
    (rcomma v1 (at' .str v v2)).bind fun x =>
     rec (v, x, (wr .i64 (v2 + 1))))) (
   kx (.exit 0) (v, v1, v2))
def rnms_px (R : Type) (k : Nat) : Px R := ⟨ttOf ttL, glT, callT [(59, callOr [.str, .str] [.str] rcomma_F)], callQT [], loopT [(3, loopOr k rnms_0_sg (rnms_0))]⟩
theorem rnms_0_eq (R : Type) (k : Nat) : ∀ (fr : List Fr) (rec : rnms_0_V → Option R) (kx : Ex → rnms_0_V → Option R) (v : rnms_0_V), round (rnms_px R k) rnms_0_sg (lp Tryz.f58 0) fr rec kx v = rnms_0 rec kx v
  | fr, rec, kx, (v, v1, v2) => by kernel_rfl
def rnms_body (k : Nat) (x : HV [.sl .str false]) : Option (HV [.str]) := match x with
 | l =>
  iter (fun rec => rnms_0 rec (fun e vz => match vz with | (_, v4, _) => match e with
   | .exit 0 =>
    some v4
   | _ => none)) k (l, [], 0)
theorem rnms_eq (k : Nat) : ∀ (x : HV [.sl .str false]), runF (rnms_px _ k) Tryz.f58 [.sl .str false] [.str] x some = rnms_body k x
  | l => by kernel_rfl
theorem rnms_run (k : Nat) : FnOk Tryz.prog elT glT 58 [.sl .str false] [.str] (rnms_body k) := by
  refine fnOk_run Tryz.func58 rfl (by kernel_rfl) follows (by kernel_rfl) (n := 1) (by kernel_rfl) (px := rnms_px _ k) (fun cx hP hel hgl => ?_) (rnms_eq k)
  have hp0 : PxOk cx (rnms_px (HV [.str]) k) := ⟨fun t => by rw [hP, hel]; exact tt_ok ttL_ok t, by rw [hgl]; rfl⟩
  have hc0 : CallOk cx (rnms_px (HV [.str]) k) := callT_ok rfl (cfs_cons (cf_or (by rw [hP, hel, hgl]; exact rcomma_ok) (by kernel_rfl)) cfs_nil)
  have hq0 : CallQOk cx (rnms_px (HV [.str]) k) := callQT_ok rfl cqfs_nil
  have hlrnms_0 : LoopOk cx (rnms_px (HV [.str]) k) (lp Tryz.f58 0) := loop_ok hp0 hc0 hq0 (by rw [hP]; exact follows) (k := k) (s := rnms_0_sg) (step := rnms_0) (fun _ _ => by kernel_rfl) (by kernel_rfl) (rnms_0_eq _ k) (loops_in (n := 0) (by kernel_rfl) all0)
  exact ⟨hp0, hc0, hq0, (allS all0 hlrnms_0)⟩
def rnms (l : List Str) : Option Str := @ite _ ((∀ x, x ∈ l → lname x = true) ∧ l.length ≤ 600) (Classical.propDecidable _) (some (Lib.join l [44, 32])) none
def rnms_F : FT [.sl .str false] [.str] := fun x => rnms x
theorem rnms_ok : FnOk Tryz.prog elT glT 58 [.sl .str false] [.str] rnms_F := .fin 0 rnms_run fun l r hb hx => ⟨l.length + 1, by
  simp only [rnms_F, rnms] at hx
  split at hx
  · rename_i h
    rw [← hx, join_list]
    have hl := list_len (fun x : Str => x) 30 l fun x hx => name_len (h.1 x hx)
    simp only [rnms_body]
    refine comma_loop l (fun x => x) (fun i acc => (l, acc, (i : Int))) (some (listT _ l)) (fun x hx => name_ne (h.1 x hx)) (Nat.le_trans hl (by omega)) (fun i hi acc rec => ?_) (fun rec => ?_) (l.length + 1) (by omega)
    · simp only [rnms_0, lt_t hi, cond_t, inb_t hi, chk, at_nat (c := .str) hi, wr_succ hi hb.1]
    · simp only [rnms_0, lt_n, cond_f]
  · cases hx⟩
theorem rnms_is {l : List Str} (h : ∀ x, x ∈ l → lname x = true) (hz : l.length ≤ 600) : rnms l = some (Lib.join l [44, 32]) := if_pos ⟨h, hz⟩
/-! ## exchequer/exchequerref13.Text -/
def rText_px (R : Type) : Px R := ⟨ttOf ttL, glT, callT [(19, callOr [.sv .expr] [.int .i64] rexpr_F), (42, callOr [.sv .expr] [.str] rtx_F)], callQT [], loopT []⟩
def rText_body (x : HV [.sv .expr]) : Option (HV [.str, .int .i64]) := match x with
 | e =>
  cond (!decide ((rexpr e) = 0)) (
   some ([], (rexpr e))) (
   (rtx e).bind fun x =>
    some (x, 0))
theorem rText_eq : ∀ (x : HV [.sv .expr]), runF (rText_px _) Tryz.f15 [.sv .expr] [.str, .int .i64] x some = rText_body x
  | e => by kernel_rfl
theorem rText_run : FnOk Tryz.prog elT glT 15 [.sv .expr] [.str, .int .i64] (rText_body) := by
  refine fnOk_run Tryz.func15 rfl (by kernel_rfl) follows (by kernel_rfl) (n := 0) (by kernel_rfl) (px := rText_px _) (fun cx hP hel hgl => ?_) (rText_eq)
  have hp0 : PxOk cx (rText_px (HV [.str, .int .i64])) := ⟨fun t => by rw [hP, hel]; exact tt_ok ttL_ok t, by rw [hgl]; rfl⟩
  have hc0 : CallOk cx (rText_px (HV [.str, .int .i64])) := callT_ok rfl (cfs_cons (cf_or (by rw [hP, hel, hgl]; exact rexpr_ok) (by kernel_rfl)) (cfs_cons (cf_or (by rw [hP, hel, hgl]; exact rtx_ok) (by kernel_rfl)) cfs_nil))
  have hq0 : CallQOk cx (rText_px (HV [.str, .int .i64])) := callQT_ok rfl cqfs_nil
  exact ⟨hp0, hc0, hq0, all0⟩
def rText (e : Xpr) : Option (Str × Int) := @ite _ (BdExpr e ∧ esize e ≤ 10000) (Classical.propDecidable _) (some (cond (eright e 30) (etx e, 0) ([], 2))) none
def rText_F : FT [.sv .expr] [.str, .int .i64] := fun x => rText x
theorem rexpr_is {e : Xpr} (h : esize e ≤ 10000) : rexpr e = cond (eright e 30) 0 2 := by
  have e1 : rexpr e = cond (decide (30 < rdeep e)) 2 0 := rfl
  have e2 := deep_is h
  rw [e1, ← e2]
  by_cases h2 : 30 < rdeep e
  · rw [decide_eq_true h2, decide_eq_false (by omega)]; rfl
  · rw [decide_eq_false h2, decide_eq_true (by omega)]; rfl
theorem rText_ok : FnOk Tryz.prog elT glT 15 [.sv .expr] [.str, .int .i64] rText_F := .fin0 rText_run fun e r hb hx => by
  simp only [rText_F, rText] at hx
  split at hx
  · rename_i h
    rw [← hx]
    simp only [rText_body, rexpr_is h.2]
    cases hr : eright e 30 with
    | false => rfl
    | true => rw [rtx_is ⟨hr, h.1⟩ h.2]; rfl
  · cases hx
theorem rText_is {e : Xpr} (h : BdExpr e) (hz : esize e ≤ 10000) : rText e = some (cond (eright e 30) (etx e, 0) ([], 2)) := if_pos ⟨h, hz⟩
end
end Go.Proofs.YthndhaolemgbdaaGreatDoor

/- How many values and letters are read (the rows' own count): a measure on what is read. -/
namespace Go.Proofs.YthndhaolemgbdaaGreatDoor
open Go.Ax
end Go.Proofs.YthndhaolemgbdaaGreatDoor

/- The document's answer: texts of statements. -/
namespace Go.Proofs.YthndhaolemgbdaaGreatDoor
open Go.Ax
noncomputable section
theorem flat_loop {V R α : Type} {step : (V → Option R) → V → Option R} (l : List α) (f : α → Str) (st : Nat → Str → V) (c : Option R) (out : Str) (ho : out.length + ((l.map f).flatten).length ≤ 100000000000)
    (hs : ∀ i (hi : i < l.length) (acc : Str) rec, acc.length + (f l[i]).length ≤ 100000000000 → step rec (st i acc) = rec (st (i + 1) (acc ++ f l[i]))) (he : ∀ rec, step rec (st l.length (out ++ (l.map f).flatten)) = c) (k : Nat) (hk : l.length < k) : iter step k (st 0 out) = c := by
  refine (iter_ind l.length st (fun i acc => acc ++ ((l.drop i).map f).flatten = out ++ (l.map f).flatten) (fun _ _ => c) (fun i hi acc ha rec hr => ?_) (fun acc ha rec => ?_) k 0 out (Nat.zero_le _) (by omega) (by rw [List.drop_zero]))
  · rw [drop_cons hi, List.map_cons, List.flatten_cons, ← List.append_assoc] at ha
    have hl := congrArg List.length ha
    rw [List.length_append, List.length_append, List.length_append] at hl
    rw [hs i hi acc rec (by omega), hr _ ha]
  · rw [List.drop_length, List.map_nil, List.flatten_nil, List.append_nil] at ha
    rw [ha]
    exact he _
/-! ## exchequer/exchequerref13.table -/
def rtable_1_sg : Sig := ⟨92, [(3, .str), (8, .int .i64)], [(1, .ptr 0 0)], [(0, .one (.sv .stmt))], 1, 0, 0, [], []⟩
abbrev rtable_1_V := Str × Int × Stm
def rtable_1 {R : Type} (rec : rtable_1_V → Option R) (kx : Ex → rtable_1_V → Option R) (v : rtable_1_V) : Option R := match v with
 | (v7, v8, w1) =>
  cond (decide (v8 < (w1.l.length : Int))) (
   chk (inb v8 w1.l.length) (
    (rtx (at' .expr w1.l v8)).bind fun x4 =>
     chk (inb v8 w1.l.length) (
      cond (decide ((at' .expr w1.l v8).kind ≤ 2)) (
       chk (decide ([40].length + x4.length ≤ maxStr)) (
        chk (decide (([40] ++ x4).length + [41].length ≤ maxStr)) (
         chk (decide (v7.length + [44, 32, 67, 72, 69, 67, 75, 32].length ≤ maxStr)) (
          chk (decide ((v7 ++ [44, 32, 67, 72, 69, 67, 75, 32]).length + (([40] ++ x4) ++ [41]).length ≤ maxStr)) (
           rec (((v7 ++ [44, 32, 67, 72, 69, 67, 75, 32]) ++ (([40] ++ x4) ++ [41])), (wr .i64 (v8 + 1)), w1)))))) (
       chk (decide (v7.length + [44, 32, 67, 72, 69, 67, 75, 32].length ≤ maxStr)) (
        chk (decide ((v7 ++ [44, 32, 67, 72, 69, 67, 75, 32]).length + x4.length ≤ maxStr)) (
         rec (((v7 ++ [44, 32, 67, 72, 69, 67, 75, 32]) ++ x4), (wr .i64 (v8 + 1)), w1))))))) (
   kx (.exit 2) (v7, v8, w1))
def rtable_0_sg : Sig := ⟨92, [(3, .str), (4, .sl .str true), (5, .int .i64)], [(1, .ptr 0 0)], [(0, .one (.sv .stmt))], 1, 0, 0, [], []⟩
abbrev rtable_0_V := Str × List Str × Int × Stm
def rtable_0 {R : Type} (rec : rtable_0_V → Option R) (kx : Ex → rtable_0_V → Option R) (v : rtable_0_V) : Option R := match v with
 | (v, v1, v2, w) =>
  cond (decide (v2 < (w.cols.length : Int))) (
   chk (inb v2 w.cols.length) (
    chk (decide (((at' .col w.cols v2).name).length + [32].length ≤ maxStr)) (
     chk (inb ((at' .col w.cols v2).kind) v1.length) (
      chk (decide ((((at' .col w.cols v2).name) ++ [32]).length + (at' .str v1 ((at' .col w.cols v2).kind)).length ≤ maxStr)) (
       let j1 := fun (p : Str) =>
        let j := fun (p1 : Str) =>
         cond (!decide (((at' .col w.cols v2).ref) = [])) (
          chk (decide (p1.length + [32, 82, 69, 70, 69, 82, 69, 78, 67, 69, 83, 32].length ≤ maxStr)) (
           chk (decide ((p1 ++ [32, 82, 69, 70, 69, 82, 69, 78, 67, 69, 83, 32]).length + ((at' .col w.cols v2).ref).length ≤ maxStr)) (
            (rcomma v ((p1 ++ [32, 82, 69, 70, 69, 82, 69, 78, 67, 69, 83, 32]) ++ ((at' .col w.cols v2).ref))).bind fun x1 =>
             rec (x1, v1, (wr .i64 (v2 + 1)), w)))) (
          (rcomma v p1).bind fun x2 =>
           rec (x2, v1, (wr .i64 (v2 + 1)), w))
        cond ((at' .col w.cols v2).unique) (
         chk (decide (p.length + [32, 85, 78, 73, 81, 85, 69].length ≤ maxStr)) (
          j (p ++ [32, 85, 78, 73, 81, 85, 69]))) (
         j p)
       cond ((at' .col w.cols v2).notNull) (
        chk (decide (((((at' .col w.cols v2).name) ++ [32]) ++ (at' .str v1 ((at' .col w.cols v2).kind))).length + [32, 78, 79, 84, 32, 78, 85, 76, 76].length ≤ maxStr)) (
         j1 (((((at' .col w.cols v2).name) ++ [32]) ++ (at' .str v1 ((at' .col w.cols v2).kind))) ++ [32, 78, 79, 84, 32, 78, 85, 76, 76]))) (
        j1 ((((at' .col w.cols v2).name) ++ [32]) ++ (at' .str v1 ((at' .col w.cols v2).kind))))))))) (
   kx (.exit 0) (v, v1, v2, w))
def rtable_px (R : Type) (k : Nat) : Px R := ⟨ttOf ttL, glT, callT [(59, callOr [.str, .str] [.str] rcomma_F), (58, callOr [.sl .str false] [.str] rnms_F), (42, callOr [.sv .expr] [.str] rtx_F)], callQT [], loopT [(4, loopOr k rtable_0_sg (rtable_0)), (17, loopOr k rtable_1_sg (rtable_1))]⟩
theorem rtable_0_eq (R : Type) (k : Nat) : ∀ (fr : List Fr) (rec : rtable_0_V → Option R) (kx : Ex → rtable_0_V → Option R) (v : rtable_0_V), round (rtable_px R k) rtable_0_sg (lp Tryz.f57 0) fr rec kx v = rtable_0 rec kx v
  | fr, rec, kx, (v, v1, v2, w) => by kernel_rfl
theorem rtable_1_eq (R : Type) (k : Nat) : ∀ (fr : List Fr) (rec : rtable_1_V → Option R) (kx : Ex → rtable_1_V → Option R) (v : rtable_1_V), round (rtable_px R k) rtable_1_sg (lp Tryz.f57 1) fr rec kx v = rtable_1 rec kx v
  | fr, rec, kx, (v7, v8, w1) => by kernel_rfl
def rtable_body (k : Nat) (x : HV [.sv .stmt]) : Option (HV [.str]) := match x with
 | s =>
  iter (fun rec => rtable_0 rec (fun e vz => match vz with | (v3, _, _, v6) => match e with
   | .exit 0 =>
    chk (decide (v3.length + [44, 32, 80, 82, 73, 77, 65, 82, 89, 32, 75, 69, 89, 32, 40].length ≤ maxStr)) (
     (rnms v6.names).bind fun x3 =>
      chk (decide ((v3 ++ [44, 32, 80, 82, 73, 77, 65, 82, 89, 32, 75, 69, 89, 32, 40]).length + x3.length ≤ maxStr)) (
       chk (decide (((v3 ++ [44, 32, 80, 82, 73, 77, 65, 82, 89, 32, 75, 69, 89, 32, 40]) ++ x3).length + [41].length ≤ maxStr)) (
        iter (fun rec => rtable_1 rec (fun e vz => match vz with | (v9, _, v11) => match e with
         | .exit 2 =>
          chk (decide ([67, 82, 69, 65, 84, 69, 32, 84, 65, 66, 76, 69, 32].length + v11.name.length ≤ maxStr)) (
           chk (decide (([67, 82, 69, 65, 84, 69, 32, 84, 65, 66, 76, 69, 32] ++ v11.name).length + [32, 40].length ≤ maxStr)) (
            chk (decide ((([67, 82, 69, 65, 84, 69, 32, 84, 65, 66, 76, 69, 32] ++ v11.name) ++ [32, 40]).length + v9.length ≤ maxStr)) (
             chk (decide (((([67, 82, 69, 65, 84, 69, 32, 84, 65, 66, 76, 69, 32] ++ v11.name) ++ [32, 40]) ++ v9).length + [41].length ≤ maxStr)) (
              some (((([67, 82, 69, 65, 84, 69, 32, 84, 65, 66, 76, 69, 32] ++ v11.name) ++ [32, 40]) ++ v9) ++ [41])))))
         | _ => none)) k ((((v3 ++ [44, 32, 80, 82, 73, 77, 65, 82, 89, 32, 75, 69, 89, 32, 40]) ++ x3) ++ [41]), 0, v6))))
   | _ => none)) k ([], [[], [], [66, 79, 79, 76], [73, 78, 84], [84, 69, 88, 84], [66, 89, 84, 69, 83]], 0, s)
theorem rtable_eq (k : Nat) : ∀ (x : HV [.sv .stmt]), runF (rtable_px _ k) Tryz.f57 [.sv .stmt] [.str] x some = rtable_body k x
  | s => by kernel_rfl
theorem rtable_run (k : Nat) : FnOk Tryz.prog elT glT 57 [.sv .stmt] [.str] (rtable_body k) := by
  refine fnOk_run Tryz.func57 rfl (by kernel_rfl) follows (by kernel_rfl) (n := 2) (by kernel_rfl) (px := rtable_px _ k) (fun cx hP hel hgl => ?_) (rtable_eq k)
  have hp0 : PxOk cx (rtable_px (HV [.str]) k) := ⟨fun t => by rw [hP, hel]; exact tt_ok ttL_ok t, by rw [hgl]; rfl⟩
  have hc0 : CallOk cx (rtable_px (HV [.str]) k) := callT_ok rfl (cfs_cons (cf_or (by rw [hP, hel, hgl]; exact rcomma_ok) (by kernel_rfl)) (cfs_cons (cf_or (by rw [hP, hel, hgl]; exact rnms_ok) (by kernel_rfl)) (cfs_cons (cf_or (by rw [hP, hel, hgl]; exact rtx_ok) (by kernel_rfl)) cfs_nil)))
  have hq0 : CallQOk cx (rtable_px (HV [.str]) k) := callQT_ok rfl cqfs_nil
  have hlrtable_0 : LoopOk cx (rtable_px (HV [.str]) k) (lp Tryz.f57 0) := loop_ok hp0 hc0 hq0 (by rw [hP]; exact follows) (k := k) (s := rtable_0_sg) (step := rtable_0) (fun _ _ => by kernel_rfl) (by kernel_rfl) (rtable_0_eq _ k) (loops_in (n := 0) (by kernel_rfl) all0)
  have hlrtable_1 : LoopOk cx (rtable_px (HV [.str]) k) (lp Tryz.f57 1) := loop_ok hp0 hc0 hq0 (by rw [hP]; exact follows) (k := k) (s := rtable_1_sg) (step := rtable_1) (fun _ _ => by kernel_rfl) (by kernel_rfl) (rtable_1_eq _ k) (loops_in (n := 0) (by kernel_rfl) all0)
  exact ⟨hp0, hc0, hq0, (allS (allS all0 hlrtable_0) hlrtable_1)⟩
def rtable (s : Stm) : Option Str := @ite _ (checkB s = true ∧ s.kind = 1 ∧ Few s) (Classical.propDecidable _) (some (tableT s)) none
def rtable_F : FT [.sv .stmt] [.str] := fun x => rtable x
theorem col_ne {c : Col} : colT c ≠ [] := by simp [colT]
theorem rtable_b (k : Nat) (s : Stm) (hb : BdStm s) (hc : checkB s = true) (h1 : s.kind = 1) (hf : Few s) (hk : fuelS s ≤ k) : rtable_body k s = some (tableT s) := by
  obtain ⟨⟨s1, s2⟩, s3⟩ := check_kind hc
  have hlen := (print_ok hc hb hf).2
  rcases s3 with ⟨_, a1, a2, a3, a4, a5⟩ | k | ⟨k, _⟩ | ⟨k, _⟩ | ⟨k, _⟩ | ⟨k, _⟩ | ⟨k, _⟩
  case inl =>
    have hx := rx_all a5 hb.l
    have f2 := hf.l
    simp only [fuelS] at hk
    simp only [printT, if_pos h1, tableT, nmT, List.length_append, List.length_cons, List.length_nil] at hlen
    simp only [rtable_body]
    refine (comma_loop s.cols colT (fun i acc => (acc, [[], [], [66, 79, 79, 76], [73, 78, 84], [84, 69, 88, 84], [66, 89, 84, 69, 83]], (i : Int), s)) (some (tableT s)) (fun c _ => col_ne) (by omega) (fun i hi acc rec => ?_) (fun rec => ?_) k (by omega))
    · have hcx := a1 _ (List.getElem_mem hi)
      simp only [rtable_0, lt_t hi, cond_t, inb_t hi, chk, at_nat (c := .col) hi, wr_succ hi hb.cols.1]
      generalize s.cols[i] = c at *
      obtain ⟨h2, h3⟩ := hcx
      simp only [colOk, Bool.and_eq_true, Bool.or_eq_true, decide_eq_true_eq] at h2
      have l1 := name_len h3
      have l2 := kinds_len c.kind
      have l3 : c.ref.length ≤ 30 := by
        rcases h2.2 with h | h
        · rw [h]; simp
        · exact name_len h
      have e1 : at' .str [[], [], [66, 79, 79, 76], [73, 78, 84], [84, 69, 88, 84], [66, 89, 84, 69, 83]] c.kind = at' .str kindsL c.kind := rfl
      have e2 : inb c.kind ([[], [], [66, 79, 79, 76], [73, 78, 84], [84, 69, 88, 84], [66, 89, 84, 69, 83]] : List Str).length = true := by
        simp only [inb, Bool.and_eq_true, decide_eq_true_eq, List.length_cons, List.length_nil]
        omega
      rw [e2]
      simp only [e1, cond_t]
      simp (disch := (first | omega | (simp only [List.length_append, List.length_cons, List.length_nil]; omega))) only [ms, cond_t]
      simp only [colT]
      cases c.notNull <;> cases c.unique <;> cases decide (c.ref = []) <;> simp only [cond_t, cond_f, Bool.not_true, Bool.not_false, List.append_nil, List.append_assoc]
    · simp only [rtable_0, lt_n, cond_f, rnms_is a4 hf.names, Option.bind_some]
      simp (disch := (first | omega | (simp only [List.length_append, List.length_cons, List.length_nil]; omega))) only [ms, chk, cond_t]
      refine flat_loop s.l chkT (fun i acc => (acc, (i : Int), s)) (some (tableT s)) _ (by simp only [List.length_append, List.length_cons, List.length_nil]; omega) (fun i hi acc rec ha => ?_) (fun rec => ?_) k (by omega)
      · have hm := List.getElem_mem hi
        have hr := hx _ hm
        have hz := esize_mem hm
        have l1 := rx_len hr.1 hr.2
        simp only [rtable_1, lt_t hi, cond_t, inb_t hi, chk, at_nat (c := .expr) hi, wr_succ hi hb.l.1, rtx_is hr (show esize s.l[i] ≤ 10000 by omega), Option.bind_some]
        have e : decide (s.l[i].kind ≤ 2) = decide (parts s.l[i].kind = 0) := by
          refine decide_eq_decide.2 ⟨fun h => parts0.2 ?_, fun h => ?_⟩
          · have sh := shape_of hr.1
            generalize s.l[i] = q at *
            cases sh with
            | atom _ hk => exact hk
            | not x => simp only [Xpr.kind] at h; omega
            | neg x => simp only [Xpr.kind] at h; omega
            | isn x => simp only [Xpr.kind] at h; omega
            | op k x y hk => simp only [Xpr.kind, isOp] at h hk; omega
          · have := parts0.1 h; omega
        rw [e]
        generalize s.l[i] = q at *
        simp only [chkT] at ha ⊢
        cases hq : decide (parts q.kind = 0) with
        | true =>
          rw [hq] at ha
          simp only [cond_t, List.length_append, List.length_cons, List.length_nil] at ha
          simp (disch := (first | omega | (simp only [List.length_append, List.length_cons, List.length_nil]; omega))) only [ms, cond_t]
          simp only [List.append_assoc]
        | false =>
          rw [hq] at ha
          simp only [cond_f, List.length_append, List.length_cons, List.length_nil] at ha
          simp (disch := (first | omega | (simp only [List.length_append, List.length_cons, List.length_nil]; omega))) only [ms, cond_t, cond_f]
          simp only [List.append_assoc]
      · simp only [rtable_1, lt_n, cond_f]
        simp (disch := (first | omega | (simp only [List.length_append, List.length_cons, List.length_nil]; omega))) only [ms, cond_t]
        simp only [tableT, nmT, List.append_assoc, List.cons_append, List.nil_append]
  all_goals omega
theorem rtable_ok : FnOk Tryz.prog elT glT 57 [.sv .stmt] [.str] rtable_F := .fin 0 rtable_run fun s r hb hx => ⟨fuelS s, by
  simp only [rtable_F, rtable] at hx
  split at hx
  · rename_i h
    exact (rtable_b (fuelS s) s hb h.1 h.2.1 h.2.2 (Nat.le_refl _)).trans hx
  · cases hx⟩
/-! ## exchequer/exchequerref13.Print -/
def rPrint_2_sg : Sig := ⟨173, [(5, .str), (6, .str), (9, .str), (10, .int .i64)], [(1, .ptr 0 0)], [(0, .one (.sv .stmt))], 1, 0, 0, [], []⟩
abbrev rPrint_2_V := Str × Str × Str × Int × Stm
def rPrint_2 {R : Type} (rec : rPrint_2_V → Option R) (kx : Ex → rPrint_2_V → Option R) (v : rPrint_2_V) : Option R := match v with
 | (v12, v13, v14, v15, w2) =>
  cond (decide (v15 < (w2.order.length : Int))) (
   chk (inb v15 w2.order.length) (
    chk (inb v15 w2.desc.length) (
     cond ((at' .bool w2.desc v15)) (
      chk (decide ((at' .str w2.order v15).length + [32, 68, 69, 83, 67].length ≤ maxStr)) (
       (rcomma v13 ((at' .str w2.order v15) ++ [32, 68, 69, 83, 67])).bind fun x10 =>
        rec (v12, x10, v14, (wr .i64 (v15 + 1)), w2))) (
      (rcomma v13 (at' .str w2.order v15)).bind fun x11 =>
       rec (v12, x11, v14, (wr .i64 (v15 + 1)), w2))))) (
   kx (.exit 5) (v12, v13, v14, v15, w2))
def rPrint_1_sg : Sig := ⟨173, [(5, .str), (6, .str), (8, .int .i64)], [(1, .ptr 0 0)], [(0, .one (.sv .stmt))], 1, 0, 0, [], []⟩
abbrev rPrint_1_V := Str × Str × Int × Stm
def rPrint_1 {R : Type} (rec : rPrint_1_V → Option R) (kx : Ex → rPrint_1_V → Option R) (v : rPrint_1_V) : Option R := match v with
 | (v5, v6, v7, w1) =>
  cond (decide (v7 < (w1.sets.length : Int))) (
   chk (inb v7 w1.sets.length) (
    chk (decide (((at' .set w1.sets v7).name).length + [32, 61, 32].length ≤ maxStr)) (
     chk (inb v7 w1.sets.length) (
      (rtx (xeta ((at' .set w1.sets v7).e))).bind fun x6 =>
       chk (decide ((((at' .set w1.sets v7).name) ++ [32, 61, 32]).length + x6.length ≤ maxStr)) (
        (rcomma v6 ((((at' .set w1.sets v7).name) ++ [32, 61, 32]) ++ x6)).bind fun x7 =>
         rec (v5, x7, (wr .i64 (v7 + 1)), w1)))))) (
   kx (.exit 3) (v5, v6, v7, w1))
def rPrint_0_sg : Sig := ⟨173, [(6, .str), (7, .int .i64)], [(1, .ptr 0 0)], [(0, .one (.sv .stmt))], 1, 0, 0, [], []⟩
abbrev rPrint_0_V := Str × Int × Stm
def rPrint_0 {R : Type} (rec : rPrint_0_V → Option R) (kx : Ex → rPrint_0_V → Option R) (v : rPrint_0_V) : Option R := match v with
 | (v, v1, w) =>
  cond (decide (v1 < (w.rows.length : Int))) (
   chk (inb v1 w.rows.length) (
    (rtexts (at' .exprs w.rows v1)).bind fun x4 =>
     chk (decide ([40].length + x4.length ≤ maxStr)) (
      chk (decide (([40] ++ x4).length + [41].length ≤ maxStr)) (
       (rcomma v (([40] ++ x4) ++ [41])).bind fun x5 =>
        rec (x5, (wr .i64 (v1 + 1)), w))))) (
   kx (.exit 1) (v, v1, w))
def rPrint_px (R : Type) (k : Nat) : Px R := ⟨ttOf ttL, glT, callT [(26, callOr [.sv .stmt] [.int .i64] rchk_F), (42, callOr [.sv .expr] [.str] rtx_F), (57, callOr [.sv .stmt] [.str] rtable_F), (60, callOr [.sl .expr false] [.str] rtexts_F), (59, callOr [.str, .str] [.str] rcomma_F), (61, callOr [.int .i64] [.sv .num] rOf_F), (62, callOr [.sv .num] [.str] rtext_F)], callQT [(58, callOrQ [.sl .str false] [.str] rnms_F), (42, callOrQ [.sv .expr] [.str] rtx_F)], loopT [(19, loopOr k rPrint_0_sg (rPrint_0)), (25, loopOr k rPrint_1_sg (rPrint_1)), (35, loopOr k rPrint_2_sg (rPrint_2))]⟩
theorem rPrint_0_eq (R : Type) (k : Nat) : ∀ (fr : List Fr) (rec : rPrint_0_V → Option R) (kx : Ex → rPrint_0_V → Option R) (v : rPrint_0_V), round (rPrint_px R k) rPrint_0_sg (lp Tryz.f24 0) fr rec kx v = rPrint_0 rec kx v
  | fr, rec, kx, (v, v1, w) => by kernel_rfl
theorem rPrint_1_eq (R : Type) (k : Nat) : ∀ (fr : List Fr) (rec : rPrint_1_V → Option R) (kx : Ex → rPrint_1_V → Option R) (v : rPrint_1_V), round (rPrint_px R k) rPrint_1_sg (lp Tryz.f24 1) fr rec kx v = rPrint_1 rec kx v
  | fr, rec, kx, (v5, v6, v7, w1) => by kernel_rfl
theorem rPrint_2_eq (R : Type) (k : Nat) : ∀ (fr : List Fr) (rec : rPrint_2_V → Option R) (kx : Ex → rPrint_2_V → Option R) (v : rPrint_2_V), round (rPrint_px R k) rPrint_2_sg (lp Tryz.f24 2) fr rec kx v = rPrint_2 rec kx v
  | fr, rec, kx, (v12, v13, v14, v15, w2) => by kernel_rfl
def rPrint_body (k : Nat) (x : HV [.sv .stmt]) : Option (HV [.str, .int .i64]) := match x with
 | s =>
  (rchk s).bind fun x =>
   cond (!decide (x = 0)) (
    some ([], x)) (
    let j3 : Str → Option (HV [.str, .int .i64]) := fun (p : Str) =>
     cond (decide (s.kind = 1)) (
      (rtable s).bind fun x2 =>
       some (x2, 0)) (
      cond (decide (s.kind = 2)) (
       chk (decide ([68, 82, 79, 80, 32, 84, 65, 66, 76, 69, 32].length + s.name.length ≤ maxStr)) (
        some (([68, 82, 79, 80, 32, 84, 65, 66, 76, 69, 32] ++ s.name), 0))) (
       cond (decide (s.kind = 3)) (
        chk (decide ([67, 82, 69, 65, 84, 69, 32, 73, 78, 68, 69, 88, 32].length + s.name.length ≤ maxStr)) (
         chk (decide (([67, 82, 69, 65, 84, 69, 32, 73, 78, 68, 69, 88, 32] ++ s.name).length + [32, 79, 78, 32].length ≤ maxStr)) (
          chk (decide ((([67, 82, 69, 65, 84, 69, 32, 73, 78, 68, 69, 88, 32] ++ s.name) ++ [32, 79, 78, 32]).length + s.on.length ≤ maxStr)) (
           chk (decide (((([67, 82, 69, 65, 84, 69, 32, 73, 78, 68, 69, 88, 32] ++ s.name) ++ [32, 79, 78, 32]) ++ s.on).length + [32, 40].length ≤ maxStr)) (
            (rnms s.names).bind fun x3 =>
             chk (decide ((((([67, 82, 69, 65, 84, 69, 32, 73, 78, 68, 69, 88, 32] ++ s.name) ++ [32, 79, 78, 32]) ++ s.on) ++ [32, 40]).length + x3.length ≤ maxStr)) (
              chk (decide (((((([67, 82, 69, 65, 84, 69, 32, 73, 78, 68, 69, 88, 32] ++ s.name) ++ [32, 79, 78, 32]) ++ s.on) ++ [32, 40]) ++ x3).length + [41].length ≤ maxStr)) (
               some ((((((([67, 82, 69, 65, 84, 69, 32, 73, 78, 68, 69, 88, 32] ++ s.name) ++ [32, 79, 78, 32]) ++ s.on) ++ [32, 40]) ++ x3) ++ [41]), 0)))))))) (
        cond (decide (s.kind = 4)) (
         chk (decide ([68, 82, 79, 80, 32, 73, 78, 68, 69, 88, 32].length + s.name.length ≤ maxStr)) (
          some (([68, 82, 79, 80, 32, 73, 78, 68, 69, 88, 32] ++ s.name), 0))) (
         cond (decide (s.kind = 5)) (
          iter (fun rec => rPrint_0 rec (fun e vz => match vz with | (v2, _, v4) => match e with
           | .exit 1 =>
            chk (decide ([73, 78, 83, 69, 82, 84, 32, 73, 78, 84, 79, 32].length + v4.name.length ≤ maxStr)) (
             chk (decide (([73, 78, 83, 69, 82, 84, 32, 73, 78, 84, 79, 32] ++ v4.name).length + [32, 86, 65, 76, 85, 69, 83, 32].length ≤ maxStr)) (
              chk (decide ((([73, 78, 83, 69, 82, 84, 32, 73, 78, 84, 79, 32] ++ v4.name) ++ [32, 86, 65, 76, 85, 69, 83, 32]).length + v2.length ≤ maxStr)) (
               some (((([73, 78, 83, 69, 82, 84, 32, 73, 78, 84, 79, 32] ++ v4.name) ++ [32, 86, 65, 76, 85, 69, 83, 32]) ++ v2), 0))))
           | _ => none)) k ([], 0, s)) (
          cond (decide (s.kind = 6)) (
           iter (fun rec => rPrint_1 rec (fun e vz => match vz with | (v8, v9, _, v11) => match e with
            | .exit 3 =>
             chk (decide ([85, 80, 68, 65, 84, 69, 32].length + v11.name.length ≤ maxStr)) (
              chk (decide (([85, 80, 68, 65, 84, 69, 32] ++ v11.name).length + [32, 83, 69, 84, 32].length ≤ maxStr)) (
               chk (decide ((([85, 80, 68, 65, 84, 69, 32] ++ v11.name) ++ [32, 83, 69, 84, 32]).length + v9.length ≤ maxStr)) (
                chk (decide (((([85, 80, 68, 65, 84, 69, 32] ++ v11.name) ++ [32, 83, 69, 84, 32]) ++ v9).length + v8.length ≤ maxStr)) (
                 some ((((([85, 80, 68, 65, 84, 69, 32] ++ v11.name) ++ [32, 83, 69, 84, 32]) ++ v9) ++ v8), 0)))))
            | _ => none)) k (p, [], 0, s)) (
           cond (decide (s.kind = 7)) (
            chk (decide ([68, 69, 76, 69, 84, 69, 32, 70, 82, 79, 77, 32].length + s.name.length ≤ maxStr)) (
             chk (decide (([68, 69, 76, 69, 84, 69, 32, 70, 82, 79, 77, 32] ++ s.name).length + p.length ≤ maxStr)) (
              some ((([68, 69, 76, 69, 84, 69, 32, 70, 82, 79, 77, 32] ++ s.name) ++ p), 0)))) (
            (rtexts s.l).bind fun x8 =>
             let j2 : Str → Option (HV [.str, .int .i64]) := fun (p1 : Str) =>
              iter (fun rec => rPrint_2 rec (fun e vz => match vz with | (v16, v17, v18, _, v20) => match e with
               | .exit 5 =>
                let j1 : Str → Option (HV [.str, .int .i64]) := fun (p4 : Str) =>
                 let j : Str → Option (HV [.str, .int .i64]) := fun (p5 : Str) =>
                  chk (decide ([83, 69, 76, 69, 67, 84, 32].length + v18.length ≤ maxStr)) (
                   chk (decide (([83, 69, 76, 69, 67, 84, 32] ++ v18).length + [32, 70, 82, 79, 77, 32].length ≤ maxStr)) (
                    chk (decide ((([83, 69, 76, 69, 67, 84, 32] ++ v18) ++ [32, 70, 82, 79, 77, 32]).length + v20.name.length ≤ maxStr)) (
                     chk (decide (((([83, 69, 76, 69, 67, 84, 32] ++ v18) ++ [32, 70, 82, 79, 77, 32]) ++ v20.name).length + v16.length ≤ maxStr)) (
                      chk (decide ((((([83, 69, 76, 69, 67, 84, 32] ++ v18) ++ [32, 70, 82, 79, 77, 32]) ++ v20.name) ++ v16).length + p5.length ≤ maxStr)) (
                       some (((((([83, 69, 76, 69, 67, 84, 32] ++ v18) ++ [32, 70, 82, 79, 77, 32]) ++ v20.name) ++ v16) ++ p5), 0))))))
                 cond (decide (0 ≤ v20.most)) (
                  chk (decide (p4.length + [32, 76, 73, 77, 73, 84, 32].length ≤ maxStr)) (
                   (rtext (rOf v20.most)).bind fun x12 =>
                    chk (decide ((p4 ++ [32, 76, 73, 77, 73, 84, 32]).length + x12.length ≤ maxStr)) (
                     j ((p4 ++ [32, 76, 73, 77, 73, 84, 32]) ++ x12)))) (
                  j p4)
                cond (!decide (v17 = [])) (
                 chk (decide ([32, 79, 82, 68, 69, 82, 32, 66, 89, 32].length + v17.length ≤ maxStr)) (
                  j1 ([32, 79, 82, 68, 69, 82, 32, 66, 89, 32] ++ v17))) (
                 j1 v17)
               | _ => none)) k (p, [], p1, 0, s)
             cond (decide ((s.l.length : Int) = 0)) (
              j2 [42]) (
              j2 x8))))))))
    cond (s.has) (
     (rtx (xeta s.whr)).bind fun x1 =>
      chk (decide ([32, 87, 72, 69, 82, 69, 32].length + x1.length ≤ maxStr)) (
       j3 ([32, 87, 72, 69, 82, 69, 32] ++ x1))) (
     j3 []))
theorem rPrint_eq (k : Nat) : ∀ (x : HV [.sv .stmt]), runF (rPrint_px _ k) Tryz.f24 [.sv .stmt] [.str, .int .i64] x some = rPrint_body k x
  | s => by kernel_rfl
theorem rPrint_run (k : Nat) : FnOk Tryz.prog elT glT 24 [.sv .stmt] [.str, .int .i64] (rPrint_body k) := by
  refine fnOk_run Tryz.func24 rfl (by kernel_rfl) follows (by kernel_rfl) (n := 3) (by kernel_rfl) (px := rPrint_px _ k) (fun cx hP hel hgl => ?_) (rPrint_eq k)
  have hp0 : PxOk cx (rPrint_px (HV [.str, .int .i64]) k) := ⟨fun t => by rw [hP, hel]; exact tt_ok ttL_ok t, by rw [hgl]; rfl⟩
  have hc0 : CallOk cx (rPrint_px (HV [.str, .int .i64]) k) := callT_ok rfl (cfs_cons (cf_or (by rw [hP, hel, hgl]; exact rchk_ok) (by kernel_rfl)) (cfs_cons (cf_or (by rw [hP, hel, hgl]; exact rtx_ok) (by kernel_rfl)) (cfs_cons (cf_or (by rw [hP, hel, hgl]; exact rtable_ok) (by kernel_rfl)) (cfs_cons (cf_or (by rw [hP, hel, hgl]; exact rtexts_ok) (by kernel_rfl)) (cfs_cons (cf_or (by rw [hP, hel, hgl]; exact rcomma_ok) (by kernel_rfl)) (cfs_cons (cf_or (by rw [hP, hel, hgl]; exact rOf_ok) (by kernel_rfl)) (cfs_cons (cf_or (by rw [hP, hel, hgl]; exact rtext_ok) (by kernel_rfl)) cfs_nil)))))))
  have hq0 : CallQOk cx (rPrint_px (HV [.str, .int .i64]) k) := callQT_ok rfl (cqfs_cons (cqf_or (by rw [hP, hel, hgl]; exact rnms_ok) (by kernel_rfl)) (cqfs_cons (cqf_or (by rw [hP, hel, hgl]; exact rtx_ok) (by kernel_rfl)) cqfs_nil))
  have hlrPrint_0 : LoopOk cx (rPrint_px (HV [.str, .int .i64]) k) (lp Tryz.f24 0) := loop_ok hp0 hc0 hq0 (by rw [hP]; exact follows) (k := k) (s := rPrint_0_sg) (step := rPrint_0) (fun _ _ => by kernel_rfl) (by kernel_rfl) (rPrint_0_eq _ k) (loops_in (n := 0) (by kernel_rfl) all0)
  have hlrPrint_1 : LoopOk cx (rPrint_px (HV [.str, .int .i64]) k) (lp Tryz.f24 1) := loop_ok hp0 hc0 hq0 (by rw [hP]; exact follows) (k := k) (s := rPrint_1_sg) (step := rPrint_1) (fun _ _ => by kernel_rfl) (by kernel_rfl) (rPrint_1_eq _ k) (loops_in (n := 0) (by kernel_rfl) all0)
  have hlrPrint_2 : LoopOk cx (rPrint_px (HV [.str, .int .i64]) k) (lp Tryz.f24 2) := loop_ok hp0 hc0 hq0 (by rw [hP]; exact follows) (k := k) (s := rPrint_2_sg) (step := rPrint_2) (fun _ _ => by kernel_rfl) (by kernel_rfl) (rPrint_2_eq _ k) (loops_in (n := 0) (by kernel_rfl) all0)
  exact ⟨hp0, hc0, hq0, (allS (allS (allS all0 hlrPrint_0) hlrPrint_1) hlrPrint_2)⟩
def rPrint (s : Stm) : Option (Str × Int) := @ite _ (Few s) (Classical.propDecidable _) (some (cond (checkB s) (printT s, 0) ([], 2))) none
def rPrint_F : FT [.sv .stmt] [.str, .int .i64] := fun x => rPrint x
theorem rest_has {s : Stm} (h : arest s = noS) (hk : ¬ (s.kind = 6 ∨ s.kind = 7 ∨ s.kind = 8)) : s.has = false := by
  have := congrArg Stm.has h
  rw [show (arest s).has = s.has from by
    unfold arest
    repeat' split
    all_goals first | rfl | omega] at this
  exact this
theorem has_rx {s : Stm} (hc : checkB s = true) (hb : BdStm s) (hh : s.has = true) : RX s.whr := by
  obtain ⟨⟨_, s2⟩, s3⟩ := check_kind hc
  by_cases hk : s.kind = 6 ∨ s.kind = 7 ∨ s.kind = 8
  · refine wx_rx ⟨?_, hb.whr⟩ hh
    rcases s3 with ⟨k, _⟩ | k | ⟨k, _⟩ | ⟨k, _⟩ | ⟨_, _, _, h⟩ | ⟨_, h⟩ | ⟨_, _, h, _⟩
    case inr.inr.inr.inr.inl => exact h
    case inr.inr.inr.inr.inr.inl => exact h
    case inr.inr.inr.inr.inr.inr => exact h
    all_goals omega
  · rw [rest_has s2 hk] at hh
    cases hh
theorem rPrint_b (k : Nat) (s : Stm) (hb : BdStm s) (hf : Few s) (hc : checkB s = true) (hk : fuelS s ≤ k) : rPrint_body k s = some (printT s, 0) := by
  obtain ⟨⟨s1, s2⟩, s3⟩ := check_kind hc
  have hlen := (print_ok hc hb hf).2
  simp only [fuelS] at hk
  have hw : ∀ J : Str → Option (Str × Int), cond s.has ((rtx (xeta s.whr)).bind fun x => chk (decide (([32, 87, 72, 69, 82, 69, 32] : Str).length + x.length ≤ maxStr)) (J ([32, 87, 72, 69, 82, 69, 32] ++ x))) (J []) = J (whT s) := fun J => by
    simp only [whT, xeta_eq]
    cases hh : s.has with
    | false => rfl
    | true =>
      have hr := has_rx hc hb hh
      have hz := hf.whr
      have l1 := rx_len hr.1 hr.2
      rw [rtx_is hr (by omega), Option.bind_some, ms (by simp only [List.length_cons, List.length_nil]; omega)]
      rfl
  simp -zeta only [rPrint_body]
  extract_lets s0 j3
  subst s0
  rw [rchk_is hf, hc, Option.bind_some, cond_t, show decide ((0 : Int) = 0) = true from rfl, Bool.not_true, cond_f]
  refine (hw j3).trans ?_
  have hww : (whT s).length ≤ 5000100 := by
    simp only [whT]
    cases hh : s.has with
    | false => simp
    | true =>
      have hr := has_rx hc hb hh
      have hz := hf.whr
      have l1 := rx_len hr.1 hr.2
      simp only [cond_t, List.length_append, List.length_cons, List.length_nil]
      omega
  simp -zeta only [j3]
  clear j3 hw
  by_cases h1 : s.kind = 1
  · have e : printT s = tableT s := if_pos h1
    rw [decide_eq_true h1, cond_t, show rtable s = some (tableT s) from if_pos ⟨hc, h1, hf⟩, e]
    rfl
  rw [decide_eq_false h1, cond_f]
  simp only [printT, if_neg h1] at hlen ⊢
  by_cases h2 : s.kind = 2
  · rw [if_pos h2] at hlen ⊢
    simp only [List.length_append, List.length_cons, List.length_nil] at hlen
    rw [decide_eq_true h2, cond_t]
    simp (disch := (first | omega | (simp only [List.length_append, List.length_cons, List.length_nil]; omega))) only [ms, chk, cond_t]
  rw [if_neg h2] at hlen ⊢
  rw [decide_eq_false h2, cond_f]
  by_cases h3 : s.kind = 3
  · rw [if_pos h3] at hlen ⊢
    obtain ⟨_, _, n1⟩ : lname s.on = true ∧ s.names ≠ [] ∧ ∀ x, x ∈ s.names → lname x = true := by
      rcases s3 with ⟨k, _⟩ | k | ⟨_, h⟩ | ⟨k, _⟩ | ⟨k, _⟩ | ⟨k, _⟩ | ⟨k, _⟩
      case inr.inr.inl => exact h
      all_goals omega
    simp only [nmT, List.length_append, List.length_cons, List.length_nil] at hlen
    rw [decide_eq_true h3, cond_t, rnms_is n1 hf.names, Option.bind_some]
    simp (disch := (first | omega | (simp only [List.length_append, List.length_cons, List.length_nil]; omega))) only [ms, chk, cond_t]
    simp only [nmT, List.append_assoc, List.cons_append, List.nil_append]
  rw [if_neg h3] at hlen ⊢
  rw [decide_eq_false h3, cond_f]
  by_cases h4 : s.kind = 4
  · rw [if_pos h4] at hlen ⊢
    simp only [List.length_append, List.length_cons, List.length_nil] at hlen
    rw [decide_eq_true h4, cond_t]
    simp (disch := (first | omega | (simp only [List.length_append, List.length_cons, List.length_nil]; omega))) only [ms, chk, cond_t]
  rw [if_neg h4] at hlen ⊢
  rw [decide_eq_false h4, cond_f]
  by_cases h5 : s.kind = 5
  · rw [if_pos h5] at hlen ⊢
    simp only [List.length_append, List.length_cons, List.length_nil] at hlen
    rw [decide_eq_true h5, cond_t]
    obtain ⟨_, a2⟩ : s.rows ≠ [] ∧ ∀ r, r ∈ s.rows → r ≠ [] ∧ aexprs r = true := by
      rcases s3 with ⟨k, _⟩ | k | ⟨k, _⟩ | ⟨_, h⟩ | ⟨k, _⟩ | ⟨k, _⟩ | ⟨k, _⟩
      case inr.inr.inr.inl => exact h
      all_goals omega
    refine comma_loop s.rows rowT (fun i acc => (acc, (i : Int), s)) _ (fun r _ => by simp [rowT]) (by omega) (fun i hi acc rec => ?_) (fun rec => ?_) k (by omega)
    · have hm := List.getElem_mem hi
      have hx := rx_all (a2 _ hm).2 (hb.rows.2 _ hm)
      have hz := hf.rows.2 _ hm
      have l1 := list_xlen _ hx
      simp only [rPrint_0, lt_t hi, cond_t, inb_t hi, chk, at_nat (c := .exprs) hi, wr_succ hi hb.rows.1, rtexts_is hx (show esizes s.rows[i] ≤ 10000 by omega), Option.bind_some]
      simp (disch := (first | omega | (simp only [List.length_append, List.length_cons, List.length_nil]; omega))) only [ms, cond_t]
      simp only [rowT, List.append_assoc]
    · simp only [rPrint_0, lt_n, cond_f]
      simp (disch := (first | omega | (simp only [List.length_append, List.length_cons, List.length_nil]; omega))) only [ms, chk, cond_t]
      simp only [List.append_assoc]
  rw [if_neg h5] at hlen ⊢
  rw [decide_eq_false h5, cond_f]
  by_cases h6 : s.kind = 6
  · rw [if_pos h6] at hlen ⊢
    simp only [List.length_append, List.length_cons, List.length_nil] at hlen
    rw [decide_eq_true h6, cond_t]
    obtain ⟨_, a2, _⟩ : s.sets ≠ [] ∧ (∀ x, x ∈ s.sets → eright x.e 30 = true ∧ lname x.name = true) ∧ awhere s = true := by
      rcases s3 with ⟨k, _⟩ | k | ⟨k, _⟩ | ⟨k, _⟩ | ⟨_, h⟩ | ⟨k, _⟩ | ⟨k, _⟩
      case inr.inr.inr.inr.inl => exact h
      all_goals omega
    refine comma_loop s.sets setT (fun i acc => (whT s, acc, (i : Int), s)) _ (fun r _ => by simp [setT]) (by omega) (fun i hi acc rec => ?_) (fun rec => ?_) k (by omega)
    · have hm := List.getElem_mem hi
      have hx : RX s.sets[i].e := ⟨(a2 _ hm).1, (hb.sets.2 _ hm).2⟩
      have hz := hf.sets.2 _ hm
      have l1 := rx_len hx.1 hx.2
      have l2 := name_len (a2 _ hm).2
      simp only [rPrint_1, lt_t hi, cond_t, inb_t hi, chk, at_nat (c := .set) hi, wr_succ hi hb.sets.1, xeta_eq, rtx_is hx (show esize s.sets[i].e ≤ 10000 by omega), Option.bind_some]
      simp (disch := (first | omega | (simp only [List.length_append, List.length_cons, List.length_nil]; omega))) only [ms, cond_t]
      simp only [setT, List.append_assoc]
    · simp only [rPrint_1, lt_n, cond_f]
      simp (disch := (first | omega | (simp only [List.length_append, List.length_cons, List.length_nil]; omega))) only [ms, chk, cond_t]
      simp only [List.append_assoc]
  rw [if_neg h6] at hlen ⊢
  rw [decide_eq_false h6, cond_f]
  by_cases h7 : s.kind = 7
  · rw [if_pos h7] at hlen ⊢
    simp only [List.length_append, List.length_cons, List.length_nil] at hlen
    rw [decide_eq_true h7, cond_t]
    simp (disch := (first | omega | (simp only [List.length_append, List.length_cons, List.length_nil]; omega))) only [ms, chk, cond_t]
  rw [if_neg h7] at hlen ⊢
  rw [decide_eq_false h7, cond_f]
  obtain ⟨h8, a1, a2, a3, a4, a5⟩ : s.kind = 8 ∧ aexprs s.l = true ∧ awhere s = true ∧ (∀ x, x ∈ s.order → lname x = true) ∧ s.desc.length = s.order.length ∧ -1 ≤ s.most := by
    rcases s3 with ⟨k, _⟩ | k | ⟨k, _⟩ | ⟨k, _⟩ | ⟨k, _⟩ | ⟨k, _⟩ | h
    case inr.inr.inr.inr.inr.inr => exact h
    all_goals omega
  have hx := rx_all a1 hb.l
  have hz := hf.l
  have l1 := list_xlen _ hx
  have zl : (s.order.zip s.desc).length = s.order.length := by rw [List.length_zip]; omega
  simp only [selT, List.length_append, List.length_cons, List.length_nil] at hlen
  rw [rtexts_is hx (by omega), Option.bind_some]
  have main : ∀ what : Str, what.length ≤ 5000000 → what = cond (decide ((s.l.length : Int) = 0)) [42] [] ++ listT etx s.l → iter (fun rec => rPrint_2 rec (fun e vz => match vz with | (v16, v17, v18, _, v20) => match e with
      | .exit 5 =>
        let j1 := fun (p4 : Str) =>
          let j := fun (p5 : Str) =>
            chk (decide (([83, 69, 76, 69, 67, 84, 32] : Str).length + v18.length ≤ maxStr)) (
            chk (decide (([83, 69, 76, 69, 67, 84, 32] ++ v18).length + ([32, 70, 82, 79, 77, 32] : Str).length ≤ maxStr)) (
            chk (decide ((([83, 69, 76, 69, 67, 84, 32] ++ v18) ++ [32, 70, 82, 79, 77, 32]).length + v20.name.length ≤ maxStr)) (
            chk (decide (((([83, 69, 76, 69, 67, 84, 32] ++ v18) ++ [32, 70, 82, 79, 77, 32]) ++ v20.name).length + v16.length ≤ maxStr)) (
            chk (decide ((((([83, 69, 76, 69, 67, 84, 32] ++ v18) ++ [32, 70, 82, 79, 77, 32]) ++ v20.name) ++ v16).length + p5.length ≤ maxStr)) (
            some (((((([83, 69, 76, 69, 67, 84, 32] ++ v18) ++ [32, 70, 82, 79, 77, 32]) ++ v20.name) ++ v16) ++ p5), (0 : Int)))))))
          cond (decide (0 ≤ v20.most)) (
            chk (decide (p4.length + ([32, 76, 73, 77, 73, 84, 32] : Str).length ≤ maxStr)) (
            (rtext (rOf v20.most)).bind fun x12 =>
            chk (decide ((p4 ++ [32, 76, 73, 77, 73, 84, 32]).length + x12.length ≤ maxStr)) (
            j ((p4 ++ [32, 76, 73, 77, 73, 84, 32]) ++ x12)))) (
          j p4)
        cond (!decide (v17 = [])) (
          chk (decide (([32, 79, 82, 68, 69, 82, 32, 66, 89, 32] : Str).length + v17.length ≤ maxStr)) (
          j1 ([32, 79, 82, 68, 69, 82, 32, 66, 89, 32] ++ v17))) (
          j1 v17)
      | _ => none)) k (whT s, [], what, 0, s) = some (selT s, 0) := fun what hwl hwe => by
    refine comma_loop (s.order.zip s.desc) ordT (fun i acc => (whT s, acc, what, (i : Int), s)) _ (fun p hp => by
      have := name_ne (a3 p.1 (List.of_mem_zip hp).1)
      simp [ordT, this]) (by omega) (fun i hi acc rec => ?_) (fun rec => ?_) k (by omega)
    · have hi1 : i < s.order.length := by omega
      have hi2 : i < s.desc.length := by omega
      have hg : (s.order.zip s.desc)[i] = (s.order[i], s.desc[i]) := by simp
      have l2 := name_len (a3 _ (List.getElem_mem hi1))
      simp only [rPrint_2, lt_t hi1, cond_t, inb_t hi1, inb_t hi2, chk, at_nat (c := .str) hi1, at_nat (c := .bool) hi2, wr_succ hi1 hb.order.1, hg, ordT]
      cases s.desc[i] with
      | true =>
        simp (disch := (first | omega | (simp only [List.length_append, List.length_cons, List.length_nil]; omega))) only [ms, cond_t]
      | false => simp only [cond_f, List.append_nil]
    · rw [zl]
      simp only [rPrint_2, lt_n, cond_f]
      have el : listT ordT (s.order.zip s.desc) = [] ↔ s.order = [] := by
        rw [listT_ne fun p hp => by
          have := name_ne (a3 p.1 (List.of_mem_zip hp).1)
          simp [ordT, this]]
        constructor
        · intro h
          have := congrArg List.length h
          rw [zl] at this
          exact List.eq_nil_of_length_eq_zero this
        · intro h
          rw [h]; rfl
      have fin : ∀ p4 : Str, p4.length ≤ 10000000020 → (cond (decide (0 ≤ s.most)) (
            chk (decide (p4.length + ([32, 76, 73, 77, 73, 84, 32] : Str).length ≤ maxStr)) (
            (rtext (rOf s.most)).bind fun x12 =>
            chk (decide ((p4 ++ [32, 76, 73, 77, 73, 84, 32]).length + x12.length ≤ maxStr)) (
            chk (decide (([83, 69, 76, 69, 67, 84, 32] : Str).length + what.length ≤ maxStr)) (
            chk (decide (([83, 69, 76, 69, 67, 84, 32] ++ what).length + ([32, 70, 82, 79, 77, 32] : Str).length ≤ maxStr)) (
            chk (decide ((([83, 69, 76, 69, 67, 84, 32] ++ what) ++ [32, 70, 82, 79, 77, 32]).length + s.name.length ≤ maxStr)) (
            chk (decide (((([83, 69, 76, 69, 67, 84, 32] ++ what) ++ [32, 70, 82, 79, 77, 32]) ++ s.name).length + (whT s).length ≤ maxStr)) (
            chk (decide ((((([83, 69, 76, 69, 67, 84, 32] ++ what) ++ [32, 70, 82, 79, 77, 32]) ++ s.name) ++ whT s).length + ((p4 ++ [32, 76, 73, 77, 73, 84, 32]) ++ x12).length ≤ maxStr)) (
            some (((((([83, 69, 76, 69, 67, 84, 32] ++ what) ++ [32, 70, 82, 79, 77, 32]) ++ s.name) ++ whT s) ++ ((p4 ++ [32, 76, 73, 77, 73, 84, 32]) ++ x12)), (0 : Int)))))))))) (
            chk (decide (([83, 69, 76, 69, 67, 84, 32] : Str).length + what.length ≤ maxStr)) (
            chk (decide (([83, 69, 76, 69, 67, 84, 32] ++ what).length + ([32, 70, 82, 79, 77, 32] : Str).length ≤ maxStr)) (
            chk (decide ((([83, 69, 76, 69, 67, 84, 32] ++ what) ++ [32, 70, 82, 79, 77, 32]).length + s.name.length ≤ maxStr)) (
            chk (decide (((([83, 69, 76, 69, 67, 84, 32] ++ what) ++ [32, 70, 82, 79, 77, 32]) ++ s.name).length + (whT s).length ≤ maxStr)) (
            chk (decide ((((([83, 69, 76, 69, 67, 84, 32] ++ what) ++ [32, 70, 82, 79, 77, 32]) ++ s.name) ++ whT s).length + p4.length ≤ maxStr)) (
            some (((((([83, 69, 76, 69, 67, 84, 32] ++ what) ++ [32, 70, 82, 79, 77, 32]) ++ s.name) ++ whT s) ++ p4), (0 : Int))))))))) = some ([83, 69, 76, 69, 67, 84, 32] ++ (what ++ ([32, 70, 82, 79, 77, 32] ++ (s.name ++ (whT s ++ (p4 ++ limT s))))), 0) := fun p4 hp4 => by
        have ln := name_len s1
        have l3 := numT_len hb.most
        have e1 : rtext (rOf s.most) = some (numT s.most) := rtext_Z hb.most
        have e2 : vprint ⟨3, s.most, []⟩ = numT s.most := rfl
        simp only [limT, e1, e2, Option.bind_some]
        cases decide (0 ≤ s.most) with
        | true =>
          simp (disch := (first | omega | (simp only [List.length_append, List.length_cons, List.length_nil]; omega))) only [ms, chk, cond_t]
          simp only [List.append_assoc]
        | false =>
          simp (disch := (first | omega | (simp only [List.length_append, List.length_cons, List.length_nil]; omega))) only [ms, chk, cond_t, cond_f]
          simp only [List.append_assoc, List.append_nil]
      by_cases ho : s.order = []
      · rw [decide_eq_true (el.2 ho), Bool.not_true, cond_f]
        refine (fin _ (by omega)).trans ?_
        have eo : obT s = [] := by simp [obT, ho]
        simp only [selT, eo, hwe, List.append_assoc, List.nil_append]
      · rw [decide_eq_false (fun e => ho (el.1 e)), Bool.not_false, cond_t, ms (by simp only [List.length_cons, List.length_nil]; omega)]
        refine (fin _ (by simp only [List.length_append, List.length_cons, List.length_nil]; omega)).trans ?_
        have eo : obT s = [32, 79, 82, 68, 69, 82, 32, 66, 89, 32] := by
          have : 0 < s.order.length := List.length_pos_iff.2 ho
          simp [obT, this]
        simp only [selT, eo, hwe, List.append_assoc]
  by_cases hl : (s.l.length : Int) = 0
  · have h0 : s.l = [] := List.eq_nil_of_length_eq_zero (by omega)
    rw [decide_eq_true hl, cond_t]
    exact main [42] (by simp) (by rw [decide_eq_true hl, h0]; rfl)
  · rw [decide_eq_false hl, cond_f]
    exact main _ (by omega) (by rw [decide_eq_false hl]; rfl)
theorem rPrint_ok : FnOk Tryz.prog elT glT 24 [.sv .stmt] [.str, .int .i64] rPrint_F := .fin 0 rPrint_run fun s r hb hx => ⟨fuelS s, by
  simp only [rPrint_F, rPrint] at hx
  split at hx
  · rename_i h
    rw [← hx]
    cases hc : checkB s with
    | true => exact rPrint_b (fuelS s) s hb h hc (Nat.le_refl _)
    | false =>
      simp -zeta only [rPrint_body]
      extract_lets s0 j3
      subst s0
      rw [rchk_is h, hc]
      rfl
  · cases hx⟩
theorem rPrint_is {s : Stm} (h : Few s) : rPrint s = some (cond (checkB s) (printT s, 0) ([], 2)) := if_pos h
end
end Go.Proofs.YthndhaolemgbdaaGreatDoor

/- Ax, part Fs: a package-level map from numbers to texts, as the rows' list lays it; what is left behind a law's call. -/
namespace Go.Ax
open Go.RowKit Go.ChangeShapes Go.WideShapes
section
variable {H : Type} {enc' : TypeId × Value → H} {P : Program} {w : World} {base : Nat} {sp : Nat → Bool} {held : Bool}
theorem map_of_trod {t k e : TypeId} {fuel : Nat} {cs : List Value} {ps : List MemPlace} (ht : P.underlying t = some (.map k e)) (hk : P.underlying k = some (.int .i64)) (he : P.underlying e = some .string) {l : List (Int × Str)} (hl : ∀ p, p ∈ l → mget l p.1 = p.2) (hno : ∀ n, (∀ p, p ∈ l → p.1 ≠ n) → mget l n = []) (h : DataW.trod enc' P w base sp held fuel t cs = some (.map (l.map fun p => (.int .i64 p.1, .lit (.string p.2))), ps)) : ∃ b es clk, cs = [.map (some b)] ∧ w.heap[b]? = some (.map es clk) ∧ MapIs l es.toList := by
  rcases open_anymap ht h with ⟨_, hx⟩ | ⟨b, es, clock, _, rfl, hb, _, _, _⟩
  · cases hx
  cases fuel with
  | zero => simp [DataW.trod] at h
  | succ n =>
    simp only [DataW.trod, ht, hb] at h
    · split at h
      · obtain ⟨entries, hm, hs⟩ := Option.bind_eq_some_iff.1 h
        split at hs
        · simp only [Option.some.injEq, Prod.mk.injEq, DataW.map.injEq] at hs
          obtain ⟨hs, _⟩ := hs
          have hperm := sorted_perm (entries.map (·.1))
          rw [hs] at hperm
          have hx : ∀ (x : MapEntry) (y : (Lit × DataW H) × List MemPlace), ((keyOf P k x.key).bind fun key => if x.val.formed P e = true then (DataW.trod enc' P w base sp held n e x.val.cells.toList).map fun y => ((key, y.1), y.2) else none) = some y → ∃ (m : Int) (s : ByteArray), x.key = .int .i64 m ∧ x.val = .string s ∧ s.size ≤ maxLen ∧ y.1 = (.int .i64 m, .lit (.string s.data.toList)) := by
            intro x y hy
            obtain ⟨key, hk1, hy⟩ := Option.bind_eq_some_iff.1 hy
            split at hy
            · rename_i hfm
              obtain ⟨z, hz, rfl⟩ := Option.map_eq_some_iff.1 hy
              obtain ⟨s, hs1, rfl, hs3⟩ := DataW.trod_string he hz
              have hv : x.val = .string s := by
                cases hxv : x.val <;> rw [hxv] at hs1 hfm <;> simp [Value.cells] at hs1
                · rw [hs1]
                · simp [Value.formed, he] at hfm
              have hkk : ∃ m, x.key = .int .i64 m ∧ key = .int .i64 m := by
                simp only [keyOf, hk] at hk1
                cases hxk : x.key <;> rw [hxk] at hk1 <;> simp [mapKey, hk] at hk1
                obtain ⟨⟨h1, _⟩, h2⟩ := hk1
                subst h1
                exact ⟨_, rfl, h2.symm⟩
              obtain ⟨m, h1, rfl⟩ := hkk
              exact ⟨m, s, h1, hv, hs3, rfl⟩
            · cases hy
          have hin : ∀ x, x ∈ es.toList → ∃ (m : Int) (s : ByteArray), x.key = .int .i64 m ∧ x.val = .string s ∧ s.size ≤ maxLen ∧ (m, s.data.toList) ∈ l := fun x hxm => by
            obtain ⟨i, hi, rfl⟩ := List.getElem_of_mem hxm
            obtain ⟨y, hy, hf⟩ := Lib.mapM_at hm i _ (List.getElem?_eq_getElem hi)
            obtain ⟨m, s, h1, h2, h3, h4⟩ := hx _ y hf
            refine ⟨m, s, h1, h2, h3, ?_⟩
            have : y.1 ∈ entries.map (·.1) := List.mem_map.2 ⟨y, List.mem_of_getElem? hy, rfl⟩
            have := hperm.symm.subset this
            rw [h4] at this
            obtain ⟨p, hp, e⟩ := List.mem_map.1 this
            simp only [Prod.mk.injEq, Lit.int.injEq, true_and, DataW.lit.injEq, Lit.string.injEq] at e
            obtain ⟨e1, e2⟩ := e
            rw [← e1, ← e2]
            exact hp
          have hout : ∀ p, p ∈ l → ∃ x, x ∈ es.toList ∧ x.key = .int .i64 p.1 := fun p hp => by
            have h1 : (Lit.int .i64 p.1, DataW.lit (H := H) (.string p.2)) ∈ entries.map (·.1) := hperm.subset (List.mem_map.2 ⟨p, hp, rfl⟩)
            obtain ⟨y, hy, e⟩ := List.mem_map.1 h1
            obtain ⟨x, hxm, hf⟩ := mapM_mem hm y hy
            obtain ⟨m, s, h2, _, _, h4⟩ := hx x y hf
            rw [e] at h4
            simp only [Prod.mk.injEq, Lit.int.injEq, true_and] at h4
            exact ⟨x, hxm, by rw [h2, h4.1]⟩
          refine ⟨b, es, clock, rfl, hb, fun n => ?_⟩
          have hik : MapKept.IsKey (.int .i64) (.int .i64 n) := by simp [MapKept.IsKey]
          rcases MapKept.findNow_spec hik es.toList 0 (fun x hxm => by obtain ⟨m, s, h1, _⟩ := hin x hxm; rw [h1]; simp [MapKept.IsKey]) with ⟨h1, h2⟩ | ⟨j, x, h1, h2, h3⟩
          · have : mget l n = [] := hno n fun p hp e => by
              obtain ⟨x, hxm, hk⟩ := hout p hp
              exact h2 x hxm (by rw [hk, e])
            exact ⟨by rw [this]; simp, .inl ⟨h1, this⟩⟩
          · obtain ⟨m, s, g1, g2, g3, g4⟩ := hin x (List.mem_of_getElem? h2)
            have hmn : m = n := by
              rw [g1] at h3
              simpa using h3
            subst hmn
            have hg := hl _ g4
            simp only at hg
            refine ⟨by rw [hg, Array.length_toList]; exact g3, .inr ⟨0 + j, ?_⟩⟩
            rw [h1, g2, hg, Array.toArray_toList]
        · cases hs
      · cases h
end
theorem weights_app {H : Type} {P : Program} : ∀ {ts us : List TypeId} {ds gs : List (DataW H)} {n : Nat}, ds.length ≤ ts.length → n ∈ DataW.weightsEach P ts ds → n ∈ DataW.weightsEach P (ts ++ us) (ds ++ gs)
  | [], us, ds, gs, n, _, h => by cases ds <;> simp [DataW.weightsEach] at h
  | t :: ts, us, [], gs, n, _, h => by simp [DataW.weightsEach] at h
  | t :: ts, us, d :: ds, gs, n, hl, h => by
    simp only [DataW.weightsEach, List.cons_append, List.mem_append] at h ⊢
    rcases h with h | h
    · exact .inl h
    · exact .inr (weights_app (by simpa using hl) h)
theorem sizes_of {H : Type} {P : Program} {ts us : List TypeId} {ds gs : List (DataW H)} (h : (DataW.weightsEach P (ts ++ us) (ds ++ gs)).all (· ≤ reachBytes) = true) (hl : ds.length ≤ ts.length) : ∀ (i : Nat) (t : TypeId) (d : DataW H), ts[i]? = some t → ds[i]? = some d → ∀ n, n ∈ d.weights P t → n ≤ R47 := fun i t d ht hd n hn => by
  have := List.all_eq_true.1 h n (weights_app hl (DataW.weights_mem_each ht hd n hn))
  show n ≤ reachBytes
  exact of_decide_eq_true this
theorem trodAll_len {H : Type} {enc' : TypeId × Value → H} {P : Program} {w : World} {base : Nat} {sp : Nat → Bool} {held : Bool} : ∀ {ts : List TypeId} {vs : List Value} {ds : List (DataW H)} {ps : List MemPlace}, DataW.TrodAll enc' P w base sp held ts vs ds ps → ds.length = ts.length := by
  intro ts
  induction ts with
  | nil => intro vs ds ps h; cases vs <;> cases ds <;> simp [DataW.TrodAll] at h ⊢
  | cons t ts ih =>
    intro vs ds ps h
    obtain ⟨v, vs', d, ds', p, q, rfl, rfl, rfl, hd, hrest⟩ := trodAll_cons h
    simp [ih hrest]
end Go.Ax

/- The frame of this seat's laws: what the rows' list and the world's shape give of the package-level variables, a world for the witness, what is left behind the call. -/
namespace Go.Proofs.YthndhaolemgbdaaGreatDoor
open Go.Ax Go.ChangeShapes Go.WideShapes Go.ChangeAt Go.RowKit Go.ChangeMaps
theorem own : ownKnob Tryz.prog.godebug = none := by kernel_rfl
def rdL : List Nat := [3, 4, 9, 5, 23, 26, 111, 89, 44, 24, 39, 34, 42, 78, 41, 40, 63, 67]
theorem rdL_ok : rdB elT (ttOf ttL) rdL = true := by kernel_rfl
theorem szL_ok : szB Tryz.prog elT (ttOf ttL) rdL = true := by kernel_rfl
theorem laidOut : laidOutB Tryz.prog = true := by kernel_rfl
/-- one package-level variable -/
def GlE (x : Vx) (g : Nat) : Gv → Prop
  | .arr c xs => ∀ i y, xs[i]? = some y → ∀ w', Chg x.S x.w w' → At w' c y g (i * csz c)
  | .map l => ∃ r es clk, (∀ w', Chg x.S x.w w' → w'.cell? ⟨g, 0, none⟩ = some (.map (some r)) ∧ w'.heap[r]? = some (.map es clk)) ∧ MapIs l es.toList
  | .num k => ∃ n, ∀ w', Chg x.S x.w w' → w'.cell? ⟨g, 0, none⟩ = some (.int k n)
theorem tbl_mem {α : Type} : ∀ {L : List (Nat × α)} {g : Nat} {v : α}, tbl L g = some v → (g, v) ∈ L
  | [], _, _, h => by simp [tbl] at h
  | (k, u) :: L, g, v, h => by
    simp only [tbl] at h
    split at h
    · rename_i hk
      have hk := Nat.eq_of_beq_eq_true hk
      subst hk
      simp only [Option.some.injEq] at h
      subst h
      exact List.mem_cons_self
    · exact List.mem_cons_of_mem _ (tbl_mem h)
theorem glR_tbl {x : Vx} {L : List (Nat × Gv)} (h : ∀ p, p ∈ L → GlE x p.1 p.2) : GlR x (tbl L) :=
  ⟨fun _ _ _ hg => h _ (tbl_mem hg), fun _ _ hg => h _ (tbl_mem hg), fun _ _ hg => h _ (tbl_mem hg)⟩
/-- a variable of the rows' list -/
theorem laid_mem {P : Program} {w : World} : ∀ {l : List (String × DataW Unit)} {ps : List MemPlace}, DataW.LaidVars P w l ps → ∀ x, x ∈ l → ∃ g t cs fuel p, P.globalNamed x.1 = some g ∧ (P.globals[g]?).map (·.type) = some t ∧ w.var? P x.1 = some cs ∧ DataW.trod (fun _ => ()) P w 0 (fun _ => true) false fuel t cs.toList = some (x.2, p)
  | [], _, _, x, hx => by cases hx
  | (n, d) :: r, ps, h, x, hx => by
    obtain ⟨g, t, cs, fuel, p, q, h1, h2, h3, h4, h5, _⟩ := h
    rcases List.mem_cons.1 hx with rfl | hx
    · exact ⟨g, t, cs, fuel, p, h1, h2, h3, h4⟩
    · exact laid_mem h5 x hx
/-- an array of texts that reads as a list holds it, cell for cell -/
theorem cells_of_texts {H : Type} {enc : TypeId × Value → H} {P : Program} {w : World} {base : Nat} {sp : Nat → Bool} {held : Bool} {fuel : Nat} {t e : TypeId} {n : Nat} {cs : List Value} {zs : List (List UInt8)} {p : List MemPlace}
    (ht : P.underlying t = some (.array n e)) (he : P.underlying e = some .string) (hce : P.cellsOf e = 1)
    (h : DataW.trod enc P w base sp held fuel t cs = some (.agg (zs.map fun z => .lit (.string z)), p)) : ∀ (i : Nat) (z : Str), zs[i]? = some z → cs[i]? = some (.string ⟨z.toArray⟩) := by
  cases fuel with
  | zero => simp [DataW.trod] at h
  | succ fuel =>
    simp only [DataW.trod, ht, hce, Nat.mul_one] at h
    split at h
    · rename_i hl
      obtain ⟨xs, hm, hx⟩ := Option.map_eq_some_iff.1 h
      have hxs : xs.map (·.1) = zs.map fun z => (DataW.lit (.string z) : DataW H) := by
        have := congrArg Prod.fst hx
        simpa using this
      have hxl : xs.length = n := by simpa using Lib.mapM_length hm
      have hzl : zs.length = n := by
        have := congrArg List.length hxs
        simp at this
        omega
      intro i z hz
      have hi : i < n := by
        have := (List.getElem?_eq_some_iff.1 hz).1
        omega
      obtain ⟨b, hb, hf⟩ := Lib.mapM_at hm i i (by simp [hi])
      obtain ⟨z', hc, h3, _⟩ := DataW.trod_string he hf
      have h1 : cs[i]? = some (.string z') := by
        have := congrArg (·[0]?) hc
        simpa [List.getElem?_take, List.getElem?_drop] using this
      have h2 : (xs.map (·.1))[i]? = some b.1 := by simp [hb]
      rw [hxs] at h2
      simp only [List.getElem?_map, hz, Option.map_some, Option.some.injEq] at h2
      rw [h3] at h2
      simp only [DataW.lit.injEq, Lit.string.injEq] at h2
      rw [h1, h2]
    · cases h
theorem glE_texts {W : World} {l : List (String × DataW Unit)} (h : laidMet Tryz.prog l W) {nm : String} {g t e : Nat} {n : Nat} {zs : List Str} (hin : (nm, DataW.agg (zs.map fun z => .lit (.string z))) ∈ l) (hg : Tryz.prog.globalNamed nm = some g) (hgt : (Tryz.prog.globals[g]?).map (·.type) = some t)
    (ht : Tryz.prog.underlying t = some (.array n e)) (he : Tryz.prog.underlying e = some .string) (hce : Tryz.prog.cellsOf e = 1) (hz : (zs.all fun z => Nat.ble z.length maxLen) = true) : GlE (v0 elT noFp W) g (.arr .str zs) := by
  obtain ⟨ps, hl, _⟩ := h
  obtain ⟨g', t', cs, fuel, p, h1, h2, h3, h4⟩ := laid_mem hl _ hin
  obtain rfl := Option.some.inj (hg.symm.trans h1)
  obtain rfl := Option.some.inj (hgt.symm.trans h2)
  have hc := cells_of_texts ht he hce h4
  intro i y hy w' hw j d hd
  have hj : j = 0 ∧ d = .str y := by
    cases j with
    | zero => simpa [enc] using hd.symm
    | succ j => simp [enc] at hd
  obtain ⟨rfl, rfl⟩ := hj
  have h5 := World.var?_cell h1 h3 i
  rw [← Array.getElem?_toList, hc i y hy] at h5
  have hm := List.all_eq_true.1 hz y (List.mem_of_getElem? hy)
  have e1 : i * csz .str + 0 = i := by simp [csz]
  exact ⟨_, by rw [e1]; exact hw.cell _ _ _ h5 (fun h => h), .str y (Nat.le_of_ble_eq_true hm)⟩
theorem mget_in : ∀ p, p ∈ signsL → mget signsL p.1 = p.2 := by decide
theorem mget_no (l : List (Int × Str)) : ∀ n, (∀ p, p ∈ l → p.1 ≠ n) → mget l n = [] := by
  induction l with
  | nil => intro n _; rfl
  | cons p l ih =>
    intro n h
    obtain ⟨k, s⟩ := p
    have h1 : k ≠ n := h (k, s) (by simp)
    simp only [mget, decide_eq_false h1]
    exact ih n fun p hp => h p (by simp [hp])
theorem glE_signs {W : World} {l : List (String × DataW Unit)} (h : laidMet Tryz.prog l W) (hin : ("exchequer/ast.signs", Rows.laid_exchequer_ast_signs) ∈ l) : GlE (v0 elT noFp W) 0 (.map signsL) := by
  obtain ⟨ps, hl, _⟩ := h
  obtain ⟨g', t', cs, fuel, p, hg', ht', hvar, hd⟩ := laid_mem hl _ hin
  obtain rfl := Option.some.inj ((show Tryz.prog.globalNamed "exchequer/ast.signs" = some 0 by kernel_rfl).symm.trans hg')
  obtain rfl := Option.some.inj ((show (Tryz.prog.globals[0]?).map (·.type) = some 147 by kernel_rfl).symm.trans ht')
  obtain ⟨b, es, clk, h1, h2, h3⟩ := map_of_trod (l := signsL) (t := 147) (k := 3) (e := 9) (by kernel_rfl) (by kernel_rfl) (by kernel_rfl) mget_in (mget_no signsL) hd
  have hc := World.var?_cell hg' hvar 0
  have h1' : cs = #[.map (some b)] := by
    apply Array.ext'
    exact h1
  rw [h1'] at hc
  have hc : W.cell? ⟨0, 0, none⟩ = some (.map (some b)) := hc
  have hlt : b < W.heap.size := (Array.getElem?_eq_some_iff.1 h2).1
  exact ⟨b, es, clk, fun w' hw => ⟨hw.cell _ 0 _ hc (fun h => h), by rw [hw.block b hlt (fun _ h => h)]; exact h2⟩, h3⟩
theorem glE_max {W : World} (h : W.ShapedOpen Tryz.prog) : GlE (v0 elT noFp W) 3 (.num .i64) := by
  obtain ⟨m, hm⟩ := Go.Proofs.cell_of_shapedOpen_int (zero := #[.int .i64 0]) (t := 3) (g := 3) h (of_decide_eq_true (by kernel_rfl)) (by kernel_rfl) rfl (by kernel_rfl) (by kernel_rfl) Tryz.underlying3
  exact ⟨m, fun w' hw => hw.cell _ 0 _ hm (fun h => h)⟩
/-- what a law's row has to list -/
def Lists (l : List (String × DataW Unit)) : Prop := (l.all fun x => x.2.handleName?.isNone) = true
  ∧ ("exchequer/ast.signs", Rows.laid_exchequer_ast_signs) ∈ l
  ∧ ("exchequer/ast.kinds", Rows.laid_exchequer_ast_kinds) ∈ l
  ∧ True
theorem all_glR {W : World} {l : List (String × DataW Unit)} (hl : Lists l) (hL : laidMetH Tryz.prog l W) (hS : W.ShapedOpen Tryz.prog) : GlR (v0 elT noFp W) glT := by
  have hL' : laidMet Tryz.prog l W := by
    have hf : (l.filter fun x => x.2.handleName?.isSome) = [] := List.filter_eq_nil_iff.2 fun x hx => by
      have := List.all_eq_true.1 hl.1 x hx
      rw [Option.isNone_iff_eq_none] at this
      simp [this]
    unfold laidMetH at hL
    rw [hf] at hL
    exact hL
  replace hl := hl.2
  clear hL
  have _ := hS
  refine glR_tbl fun p hp => ?_
  have hsigns := glE_signs hL' hl.1
  replace hl := hl.2
  have hkinds : GlE (v0 elT noFp W) 1 (.arr .str kindsL) := glE_texts (n := 6) (t := 191) (e := 9) hL' hl.1 (by kernel_rfl) (by kernel_rfl) (by kernel_rfl) (by kernel_rfl) (by kernel_rfl) (by kernel_rfl)
  replace hl := hl.2
  have hmax := glE_max hS
  simp only [List.mem_cons, List.not_mem_nil, or_false] at hp
  repeat' (first | (rcases hp with rfl | hp) | subst hp)
  all_goals assumption
/-- a world in which the tables lie -/
def numOf : DataW Unit → Value
  | .lit (.int k n) => .int k n
  | .lit (.string s) => .string ⟨s.toArray⟩
  | _ => .int .u8 0
def rowOf : DataW Unit → List Value
  | .agg l => l.map numOf
  | _ => []
def rowsOf : DataW Unit → List Value
  | .agg l => l.flatMap rowOf
  | _ => []
def putRow (vs : List Value) : Obj → Obj
  | .cells _ t frozen => .cells vs.toArray t frozen
  | o => o
noncomputable def laidHeap (h : Array Obj) : Array Obj :=
  let h := h.modify 1 (putRow (rowOf Rows.laid_exchequer_ast_kinds))
  let h := (h.modify 4 (putRow (rowOf Rows.laid_unicode_utf8_first))).modify 5 (putRow (rowsOf Rows.laid_unicode_utf8_acceptRanges))
  let h := (h.modify 0 (putRow [.map (some h.size)])).push (.map ((signsL.zip (List.range 11)).map fun p => (⟨.int .i64 p.1.1, .string ⟨p.1.2.toArray⟩, p.2⟩ : MapEntry)).toArray 11)
  h
noncomputable def laidWorld (os : Os) : World :=
  { World.holding Tryz.prog os ⟨#[], #[], []⟩ with heap := laidHeap (World.holding Tryz.prog os ⟨#[], #[], []⟩).heap }
set_option maxRecDepth 100000 in
theorem law_frame {H : Type} {R : Nat × Nat} {M : TypeId → DataW H → Prop} (hM : Msr Tryz.prog R M) {enc : TypeId × Value → H} {f : FuncId} {fn : Func} {sa : List Sg} {F : FT sa [.bool]} {s : ChangeSpec} (hok : FnOk Tryz.prog elT glT f sa [.bool] F) (hF : ∀ x, BdL sa x → SmL R sa x → F x = some true)
    (hr : fn.resultTypes = #[4]) (hv : s.vars = []) (hf : ∀ ds, ds.length = fn.params.toList.length → (s.fn H ds).results = [.lit (.bool true)] ∧ (s.fn H ds).args = ds ∧ (s.fn H ds).vars = [])
    (hsg : sgsOk (ttOf ttL) rdL fn.params.toList sa = true) (hread : (fn.params.toList.all fun t => Tryz.prog.readableRec t && Nat.blt t Tryz.prog.types.size) = true)
    {W : World} {base : Nat} {args : Array Value} {ds gs : List (DataW H)} {before : List MemPlace} (hval : ∀ (j : Nat) t v, fn.params[j]? = some t → args[j]? = some v → Value.okWide Tryz.prog W .any base t v)
    (hW : DataW.Whole enc Tryz.prog fn.params.toList s.vars false W args.toList ds gs before) (hgl : GlR (v0 elT noFp W) glT) (hsz : ds.length = fn.params.toList.length → ∀ (i : Nat) (t : TypeId) (d : DataW H), fn.params.toList[i]? = some t → ds[i]? = some d → M t d) :
    Calls Tryz.prog f args W fun e W' => ∃ v, e = .returned v ∧ s.post enc Tryz.prog fn false true false false W args v W' := by
  have hW' := hW
  have hlt := hW.lt
  obtain ⟨p, q, hA, hV, rfl, hfz, hnd⟩ := hW
  rw [hv] at hV
  obtain ⟨rfl, rfl⟩ := trodVars_none hV
  have hlen := trodAll_len hA
  obtain ⟨x, hx, hsm⟩ := args_rep hM (fun t => tt_ok ttL_ok t) rdL_ok szL_ok 0 hsg (fun j t v h1 h2 => hval j t v (by simpa using h1) (by simpa using h2)) hA
  have hcall := hok.calls (hF x (reps_bd hx) (hsm (hsz hlen))) hgl hx
  have e1 : args.toList.toArray = args := by simp
  rw [e1] at hcall
  refine hcall.mono fun en W' => ?_
  rintro ⟨rfl, hb⟩
  refine ⟨_, rfl, ?_⟩
  obtain ⟨h1, h2, h3⟩ := hf ds hlen
  have e2 : ds ++ ([] : List (DataW H)) = ds := by simp
  refine ⟨ds, [], _, [], p, [], hW', ?_, ?_, ?_, hb.frame _, fun h => by cases h⟩
  · rw [e2, h1, hr]
    exact trodAll_cons_mk (shut_bool Tryz.underlying4 _) trodAll_mk0
  · rw [e2, h2]
    refine args_stay laidOut hb (fun t ht => ?_) (fun x hx => hlt x (by simp [hx])) hA
    have := List.all_eq_true.1 hread t ht
    simp only [Bool.and_eq_true] at this
    exact ⟨this.1, by simpa [Nat.blt_eq] using this.2⟩
  · rw [e2, h3, hv]; exact rfl
end Go.Proofs.YthndhaolemgbdaaGreatDoor
