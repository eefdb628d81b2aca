/- Ax, part H: structs held against each other; fields; elements; pieces; conversions; literals of structs. -/
import Derived.Test.YtlhebakbbfmiiaaDoorAxG
namespace Go.Ax
open Go.RowKit

/-! ## are two structs the same? -/
theorem tyInt_spec {P : Program} {t : TypeId} (h : tyInt P t = true) : ∃ k, P.underlying t = some (.int k) := by
  unfold tyInt at h
  split at h
  · exact ⟨_, by assumption⟩
  · cases h
theorem eqRow_int {P : Program} {xs ys : Array Value} {f : Field} {l : List Field} {k : IntKind} {a b : Int} {r : Bool} (hn : (f.name == "_") = false) (ht : tyInt P f.type = true) (hx : xs[f.offset]? = some (.int k a)) (hy : ys[f.offset]? = some (.int k b)) (hr : Sx.eqRow P xs ys l = some r) : Sx.eqRow P xs ys (f :: l) = some (decide (a = b) && r) := by
  obtain ⟨k', hk⟩ := tyInt_spec ht
  simp only [Sx.eqRow, hn, hk, hx, hy, hr, Sx.sameI]
  rw [show (a == b) = decide (a = b) by rw [Bool.eq_iff_iff]; simp]
  simp
theorem eqRow_str {P : Program} {xs ys : Array Value} {f : Field} {l : List Field} {a b : Str} {r : Bool} (hn : (f.name == "_") = false) (ht : Sx.tyS P f.type = true) (hx : xs[f.offset]? = some (.string ⟨a.toArray⟩)) (hy : ys[f.offset]? = some (.string ⟨b.toArray⟩)) (hr : Sx.eqRow P xs ys l = some r) : Sx.eqRow P xs ys (f :: l) = some (decide (a = b) && r) := by
  simp [Sx.eqRow, hn, Sx.tyS_spec ht, hx, hy, hr]
theorem eqRow_bool {P : Program} {xs ys : Array Value} {f : Field} {l : List Field} {a b : Bool} {r : Bool} (hn : (f.name == "_") = false) (ht : Sx.tyB P f.type = true) (hx : xs[f.offset]? = some (.bool a)) (hy : ys[f.offset]? = some (.bool b)) (hr : Sx.eqRow P xs ys l = some r) : Sx.eqRow P xs ys (f :: l) = some (decide (a = b) && r) := by
  simp only [Sx.eqRow, hn, Sx.tyB_spec ht, hx, hy, hr, Option.map_some]
  rw [show (a == b) = decide (a = b) by rw [Bool.eq_iff_iff]; simp]
/-- two rows of plain cells -/
def eqDs : List D → List D → Option Bool
  | [], [] => some true
  | .int k a :: l, .int k' b :: m => match decide (k = k'), eqDs l m with
    | true, some r => some (decide (a = b) && r)
    | _, _ => none
  | .str a :: l, .str b :: m => match eqDs l m with
    | some r => some (decide (a = b) && r)
    | none => none
  | .bool a :: l, .bool b :: m => match eqDs l m with
    | some r => some (decide (a = b) && r)
    | none => none
  | _, _ => none
def kOf : D → Nat
  | .int _ _ => 0
  | .str _ => 1
  | _ => 2
theorem eqRow_of {P : Program} {x : Vx} {xs ys : Array Value} : ∀ (fds : List Field) (ks : List Nat) (i : Nat) (l m : List D) (r : Bool), fkB P i fds ks = true → ks = l.map kOf → eqDs l m = some r →
    (∀ (j : Nat) d, l[j]? = some d → ∃ v, xs[i + j]? = some v ∧ Rep x d v) → (∀ (j : Nat) d, m[j]? = some d → ∃ v, ys[i + j]? = some v ∧ Rep x d v) → Sx.eqRow P xs ys fds = some r
  | [], [], i, l, m, r, _, hk, he, _, _ => by
    have : l = [] := by cases l <;> simp at hk; rfl
    subst this
    cases m with
    | nil => simp only [eqDs, Option.some.injEq] at he; subst he; rfl
    | cons d m => cases d <;> simp [eqDs] at he
  | f :: fds, k :: ks, i, [], m, r, _, hk, _, _, _ => by simp at hk
  | f :: fds, k :: ks, i, d :: l, [], r, _, _, he, _, _ => by cases d <;> simp [eqDs] at he
  | f :: fds, k :: ks, i, d :: l, e :: m, r, hf, hk, he, hx, hy => by
    simp only [fkB, Bool.and_eq_true, beq_iff_eq, Bool.not_eq_true'] at hf
    obtain ⟨⟨⟨h1, h2⟩, h3⟩, h4⟩ := hf
    simp only [List.map_cons, List.cons.injEq] at hk
    obtain ⟨v, hv, hvr⟩ := hx 0 d (by simp)
    obtain ⟨u, hu, hur⟩ := hy 0 e (by simp)
    rw [Nat.add_zero, ← h2] at hv hu
    have hrec : ∀ r', eqDs l m = some r' → Sx.eqRow P xs ys fds = some r' := fun r' hr' =>
      eqRow_of fds ks (i + 1) l m r' h4 hk.2 hr' (fun j d hd => by have := hx (j + 1) d (by simpa using hd); rwa [show i + (j + 1) = i + 1 + j by omega] at this) (fun j d hd => by have := hy (j + 1) d (by simpa using hd); rwa [show i + (j + 1) = i + 1 + j by omega] at this)
    unfold eqDs at he
    split at he
    · rename_i heq _; cases heq
    · rename_i k1 a l1 k2 b m1 heq1 heq2
      simp only [List.cons.injEq] at heq1 heq2
      obtain ⟨rfl, rfl⟩ := heq1
      obtain ⟨rfl, rfl⟩ := heq2
      split at he
      · rename_i r' hkk hr'
        simp only [decide_eq_true_eq] at hkk
        subst hkk
        simp only [Option.some.injEq] at he
        subst he
        obtain rfl := Rep.int hvr
        obtain rfl := Rep.int hur
        rw [hk.1] at h3
        exact eqRow_int h1 h3 hv hu (hrec _ hr')
      · cases he
    · rename_i a l1 b m1 heq1 heq2
      simp only [List.cons.injEq] at heq1 heq2
      obtain ⟨rfl, rfl⟩ := heq1
      obtain ⟨rfl, rfl⟩ := heq2
      split at he
      · rename_i r' hr'
        simp only [Option.some.injEq] at he
        subst he
        obtain rfl := Rep.str hvr
        obtain rfl := Rep.str hur
        rw [hk.1] at h3
        exact eqRow_str h1 h3 hv hu (hrec _ hr')
      · cases he
    · rename_i a l1 b m1 heq1 heq2
      simp only [List.cons.injEq] at heq1 heq2
      obtain ⟨rfl, rfl⟩ := heq1
      obtain ⟨rfl, rfl⟩ := heq2
      split at he
      · rename_i r' hr'
        simp only [Option.some.injEq] at he
        subst he
        obtain rfl := Rep.bool hvr
        obtain rfl := Rep.bool hur
        rw [hk.1] at h3
        exact eqRow_bool h1 h3 hv hu (hrec _ hr')
      · cases he
    · cases he
  | [], _ :: _, _, _, _, _, h, _, _, _, _ => by simp [fkB] at h
  | _ :: _, [], _, _, _, _, h, _, _, _, _ => by simp [fkB] at h
theorem eqK_ds {c : Ck} {a b : El c} {r : Bool} (h : eqK c a b = some r) : ∃ ks, eqLay c = some ks ∧ ks = (enc c a).map kOf ∧ eqDs (enc c a) (enc c b) = some r := by
  unfold eqK at h
  split at h
  · rename_i a b
    simp only [Option.some.injEq] at h
    subst h
    refine ⟨_, rfl, rfl, ?_⟩
    simp only [enc, eqDs, decide_true, Option.some.injEq, Bool.and_true]
    cases a; cases b; rw [Bool.eq_iff_iff]; simp
  · rename_i a b
    simp only [Option.some.injEq] at h
    subst h
    refine ⟨_, rfl, rfl, ?_⟩
    simp only [enc, eqDs, decide_true, Option.some.injEq, Bool.and_true]
    cases a; cases b; rw [Bool.eq_iff_iff]; simp
  · rename_i a b
    simp only [Option.some.injEq] at h
    subst h
    refine ⟨_, rfl, rfl, ?_⟩
    simp only [enc, eqDs, decide_true, Option.some.injEq, Bool.and_true]
    cases a; cases b; rw [Bool.eq_iff_iff]; simp
  · cases h
theorem eqSt_run {P : Program} {el : Ck → TypeId} {tt : Nat → Ty} {t : Nat} {vx : Vx} {a b : D} {u v : Value} {r : Bool} (ht : tyOk P el tt t = true) (h : eqSt (tt t) a b = some r) (ha : Rep vx a u) (hb : Rep vx b v) : Sx.stOk P t = true ∧ ∃ xs ys, u = .agg xs ∧ v = .agg ys ∧ Sx.eqRow P xs ys (P.fieldsOf t).toList = some r := by
  unfold eqSt at h
  split at h
  · rename_i c l z hty
    split at h
    · rename_i x hx
      split at h
      · rename_i y hy
        obtain ⟨ks, hk1, hk2, hk3⟩ := eqK_ds h
        obtain ⟨fds, hu, _, heq⟩ := tyOk_st ht hty
        obtain ⟨h1, h2⟩ := heq c ks rfl hk1
        have hagg : agg? c = true := by cases c <;> simp [eqLay] at hk1 <;> rfl
        obtain ⟨e1, ea, _⟩ := toK_elR hx ha
        obtain ⟨e2, eb, _⟩ := toK_elR hy hb
        obtain ⟨xs, rfl⟩ := ea hagg
        obtain ⟨ys, rfl⟩ := eb hagg
        refine ⟨h1, xs, ys, rfl, rfl, ?_⟩
        have hfo : P.fieldsOf t = fds := by simp [Program.fieldsOf, hu]
        rw [hfo]
        have g1 := (elR_cellsR e1).2
        have g2 := (elR_cellsR e2).2
        simp only [Value.cells] at g1 g2
        refine eqRow_of (x := vx) fds.toList ks 0 (enc c x) (enc c y) r h2 hk2 hk3 (fun j d hd => ?_) (fun j d hd => ?_)
        · obtain ⟨q, hq, hr⟩ := g1 j d hd; exact ⟨q, by simpa using hq, hr⟩
        · obtain ⟨q, hq, hr⟩ := g2 j d hd; exact ⟨q, by simpa using hq, hr⟩
      · cases h
    · cases h
  · cases h
/-- BINARY OPERATIONS -/
theorem bin_run {P : Program} {el : Ck → TypeId} {tt : Nat → Ty} {e : Sx.Env} {t t' : Nat} {x y : Operand} {op : BinOp} {c : Bool} {a b d : D} {u v : Value} {vx : Vx} (ht : tyOk P el tt t = true) (h : bin op (tt t) a b = some (c, d)) (hc : c = true) (hx : Sx.Env.ev e x = some u) (hy : Sx.Env.ev e y = some v) (ha : Rep vx a u) (hb : Rep vx b v) : ∃ r, Sx.Pure P e (.binOp op t x y t') r ∧ Rep vx d r := by
  unfold bin at h
  split at h
  · rename_i k p
    obtain rfl := Rep.int ha
    split at h
    · rename_i k' q
      obtain rfl := Rep.int hb
      split at h
      · simp only [Option.some.injEq, Prod.mk.injEq] at h
        obtain ⟨h1, rfl⟩ := h
        subst hc
        refine ⟨_, Sx.p_shl hx hy (by simpa using h1), rep_int (u8_wrap _ _)⟩
      · simp only [Option.some.injEq, Prod.mk.injEq] at h
        obtain ⟨h1, rfl⟩ := h
        subst hc
        exact ⟨_, Sx.p_shr hx hy (by simpa using h1), rep_int (u8_shr ha.u8)⟩
      · split at h
        · rename_i hk
          simp only [decide_eq_true_eq] at hk
          subst hk
          exact binI_run h hc hx hy ha.u8 hb.u8
        · cases h
    · cases h
  · rename_i l
    obtain rfl := Rep.str ha
    split at h
    · rename_i m
      obtain rfl := Rep.str hb
      exact binS_run h hc hx hy
    · cases h
  · rename_i p
    obtain rfl := Rep.bool ha
    split at h
    · rename_i q
      obtain rfl := Rep.bool hb
      split at h
      · rename_i hty
        have htt := tyOk_bool ht hty
        split at h <;> simp only [Option.some.injEq, Prod.mk.injEq, reduceCtorEq] at h
        · obtain ⟨_, rfl⟩ := h; exact ⟨_, Sx.p_eqlb htt hx hy, rep_bool _⟩
        · obtain ⟨_, rfl⟩ := h; exact ⟨_, Sx.p_neqb htt hx hy, rep_bool _⟩
      · cases h
    · cases h
  · split at h
    · split at h
      · rename_i r hr
        simp only [Option.some.injEq, Prod.mk.injEq] at h
        obtain ⟨_, rfl⟩ := h
        obtain ⟨h1, xs, ys, rfl, rfl, h2⟩ := eqSt_run ht hr ha hb
        exact ⟨_, Sx.p_eqst h1 hx hy h2, rep_bool _⟩
      · cases h
    · split at h
      · rename_i r hr
        simp only [Option.some.injEq, Prod.mk.injEq] at h
        obtain ⟨_, rfl⟩ := h
        obtain ⟨h1, xs, ys, rfl, rfl, h2⟩ := eqSt_run ht hr ha hb
        exact ⟨_, Sx.p_neqst h1 hx hy h2, rep_bool _⟩
      · cases h
    · cases h
end Go.Ax
