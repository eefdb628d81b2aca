/- Sx, part J: two structs of plain fields, held against each other; elements of slices that are known by a fact. -/
import Derived.Test.YtlhebakbbfmiiaaDoorSxI
import Derived.Laws.StructEq
namespace Go.Sx
open Go.RowKit
def sameI (k1 k2 : IntKind) (a b : Int) (r : Option Bool) : Option Bool := match decide (k1 = k2), r with
  | true, some r => some ((a == b) && r)
  | _, _ => none
/-- are two rows of plain fields the same? -/
def eqRow (P : Program) (xs ys : Array Value) : List Field → Option Bool
  | [] => some true
  | f :: fs => match f.name == "_", P.underlying f.type, xs[f.offset]?, ys[f.offset]? with
    | false, some (.int _), some (.int k1 a), some (.int k2 b) => sameI k1 k2 a b (eqRow P xs ys fs)
    | false, some .string, some (.string a), some (.string b) => (eqRow P xs ys fs).map fun r => (decide (a.data.toList = b.data.toList)) && r
    | false, some .bool, some (.bool a), some (.bool b) => (eqRow P xs ys fs).map fun r => (a == b) && r
    | _, _, _, _ => none
theorem run_part1 {P : Program} {t : TypeId} {d : TypeDesc} {xs : Array Value} {i : Nat} {v : Value} (hu : P.underlying t = some d) (ha : ∀ fs, d ≠ .struct fs) (hb : ∀ n e, d ≠ .array n e) (hv : xs[i]? = some v) (w : World) : (part t xs i).run P w = .ok v w := by
  have h1 : (isAgg t).run P w = .ok false w := by
    simp only [isAgg, Sem.run_bind, run_underlying hu, Result.andThen_ok]
    cases d <;> first | rfl | (exact absurd rfl (ha _)) | (exact absurd rfl (hb _ _))
  simp only [part, Sem.run_bind, h1, Result.andThen_ok, Bool.false_eq_true, if_false, hv, Sem.run_pure]
theorem run_eqRow {P : Program} {xs ys : Array Value} (d : Nat) : ∀ (fs : List Field) (r : Bool), eqRow P xs ys fs = some r → ∀ w, (Op.eqFields (d + 1) xs ys fs).run P w = .ok r w
  | [], r, h, w => by
    simp only [eqRow, Option.some.injEq] at h
    subst h
    simp [Op.eqFields]
  | f :: fs, r, h, w => by
    unfold eqRow at h
    split at h
    · rename_i u k1 a k2 b hn hu hx hy
      cases hr : eqRow P xs ys fs with
      | none => rw [hr] at h; simp only [sameI] at h; split at h <;> first | (simp at *; done) | cases h
      | some r' =>
        rw [hr] at h
        have hk : k1 = k2 := by
          by_cases hk : k1 = k2
          · exact hk
          · simp [sameI, hk] at h
        subst hk
        simp only [sameI, decide_true, Option.some.injEq] at h
        have ih := run_eqRow d fs r' hr w
        have hn' : f.name ≠ "_" := by simpa using hn
        have e1 := run_part1 hu (fun _ => by simp) (fun _ _ => by simp) hx w
        have e2 := run_part1 hu (fun _ => by simp) (fun _ _ => by simp) hy w
        have e3 := run_equalIn_int (P := P) w d f.type k1 _ a b hu
        simp only [Op.eqFields, if_pos hn', Sem.run_bind, e1, e2, e3, Result.andThen_ok, Sem.run_ite]
        rw [← h]
        cases hab : (a == b)
        · simp
        · simp [ih]
    · rename_i a b hn hu hx hy
      cases hr : eqRow P xs ys fs with
      | none => rw [hr] at h; cases h
      | some r' =>
        rw [hr] at h
        simp only [Option.map_some, Option.some.injEq] at h
        have ih := run_eqRow d fs r' hr w
        have hn' : f.name ≠ "_" := by simpa using hn
        have e1 := run_part1 hu (fun _ => by simp) (fun _ _ => by simp) hx w
        have e2 := run_part1 hu (fun _ => by simp) (fun _ _ => by simp) hy w
        have e3 := run_equalIn_string (P := P) w d f.type a b hu
        have e4 : (a.toList == b.toList) = decide (a.data.toList = b.data.toList) := by
          rw [ByteArray.toList_eq, ByteArray.toList_eq]; rw [Bool.eq_iff_iff]; simp
        rw [e4] at e3
        simp only [Op.eqFields, if_pos hn', Sem.run_bind, e1, e2, e3, Result.andThen_ok, Sem.run_ite]
        rw [← h]
        cases hab : decide (a.data.toList = b.data.toList)
        · simp
        · simp [ih]
    · rename_i a b hn hu hx hy
      cases hr : eqRow P xs ys fs with
      | none => rw [hr] at h; cases h
      | some r' =>
        rw [hr] at h
        simp only [Option.map_some, Option.some.injEq] at h
        have ih := run_eqRow d fs r' hr w
        have hn' : f.name ≠ "_" := by simpa using hn
        have e1 := run_part1 hu (fun _ => by simp) (fun _ _ => by simp) hx w
        have e2 := run_part1 hu (fun _ => by simp) (fun _ _ => by simp) hy w
        have e3 := run_equalIn_bool' (P := P) w d f.type a b hu
        simp only [Op.eqFields, if_pos hn', Sem.run_bind, e1, e2, e3, Result.andThen_ok, Sem.run_ite]
        rw [← h]
        cases hab : (a == b)
        · simp
        · simp [ih]
    · cases h
def stOk (P : Program) (t : TypeId) : Bool := (match P.underlying t with | some (.struct _) => true | _ => false) && !P.stoodInHeld t && !P.eqGuardType P.depth t
section
variable {P : Program} {e : Env} {t t' : TypeId} {x y : Operand} {xs ys : Array Value} {r : Bool}
theorem run_eqst (ht : stOk P t = true) (hr : eqRow P xs ys (P.fieldsOf t).toList = some r) (w : World) : (Op.equalIn 10000 t (.agg xs) (.agg ys)).run P w = .ok r w := by
  simp only [stOk, Bool.and_eq_true, Bool.not_eq_true'] at ht
  have hu : P.underlying t = some (.struct (P.fieldsOf t)) := by
    have := ht.1.1
    unfold Program.fieldsOf
    split at this
    · rename_i fs h; rw [h]
    · cases this
  rw [show (10000 : Nat) = 9999 + 1 from rfl, run_equalIn_struct w 9999 t xs ys hu ht.1.2]
  exact run_eqRow 9998 _ r hr w
theorem p_eqst (ht : stOk P t = true) (hx : Env.ev e x = some (.agg xs)) (hy : Env.ev e y = some (.agg ys)) (hr : eqRow P xs ys (P.fieldsOf t).toList = some r) : Pure P e (.binOp .eql t x y t') (.bool r) :=
  p_bin hx hy (fun w => run_eqGuard_agg w _ _ _ _ _ _ (by simp only [stOk, Bool.and_eq_true, Bool.not_eq_true'] at ht; exact ht.2)) fun w => by
    rw [run_eql_struct, run_eqst ht hr]; rfl
theorem p_neqst (ht : stOk P t = true) (hx : Env.ev e x = some (.agg xs)) (hy : Env.ev e y = some (.agg ys)) (hr : eqRow P xs ys (P.fieldsOf t).toList = some r) : Pure P e (.binOp .neq t x y t') (.bool (!r)) :=
  p_bin hx hy (fun w => run_eqGuard_agg w _ _ _ _ _ _ (by simp only [stOk, Bool.and_eq_true, Bool.not_eq_true'] at ht; exact ht.2)) fun w => by
    rw [run_neq_struct, run_eqst ht hr]; rfl
end
theorem g_pull {cx : Cx} {k : List KI} {e : Env} {L : Loc} {F : World → Prop} {Q : Exit → Act → World → Prop} {c : Code} {p : Prop} (hF : ∀ w, F w → p) (h : p → G cx c k e L F Q) : G cx c k e L F Q := .mk fun a w he hs => (h (hF w hs.here)).run a w he hs
theorem con_pull {P : Program} {f : FuncId} {args : List Value} {Lin : Loc} {Pre : World → Prop} {Post : Value → Loc → (World → Prop) → Prop} {p : Prop} (he : Enters P f) (hp : ∀ w, Pre w → p) (h : p → Con P f args Lin Pre Post) : Con P f args Lin Pre Post :=
  ⟨he, fun w M hs => (h (hp w hs.here)).run w M hs⟩
/-! ## slices that are known by a fact -/
/-- what a fact says of a slice's own form -/
theorem RdS.form {v : Value} {sz n : Nat} {xs : List Value} {w : World} (h : RdS v sz n xs w) : ∃ a c, v = .slice a n c ∧ (n = 0 ∨ ∃ b off, a = some ⟨b, off, none⟩) := by
  obtain ⟨_, a, c, rfl, hr⟩ := h
  exact ⟨a, c, rfl, hr.imp id fun ⟨b, off, h, _, _⟩ => ⟨b, off, h⟩⟩
theorem RdS.cell {b off n c sz : Nat} {xs : List Value} {w : World} (h : RdS (.slice (some ⟨b, off, none⟩) n c) sz n xs w) {j : Nat} {u : Value} (hu : xs[j]? = some u) : w.cell? ⟨b, off + j, none⟩ = some u := by
  obtain ⟨hl, a, c', he, hr⟩ := h
  simp only [Value.slice.injEq] at he
  obtain ⟨rfl, _, rfl⟩ := he
  rcases hr with h0 | ⟨b', off', he, _, hr⟩
  · have : j < xs.length := by
      rcases Nat.lt_or_ge j xs.length with h | h
      · exact h
      · simp [List.getElem?_eq_none h] at hu
    rw [hl, h0] at this
    omega
  · simp only [Option.some.injEq, Addr.mk.injEq, and_true] at he
    obtain ⟨rfl, rfl⟩ := he
    exact hr j u hu
theorem RdS.cap {a : Option Addr} {c sz n : Nat} {xs : List Value} {w : World} (h : RdS (.slice a n c) sz n xs w) : n ≤ c := by
  obtain ⟨_, a', c', he, hr⟩ := h
  simp only [Value.slice.injEq] at he
  obtain ⟨rfl, _, rfl⟩ := he
  rcases hr with rfl | ⟨_, _, _, h, _⟩
  · omega
  · exact h
/-- the first k elements -/
theorem RdS.take {a : Option Addr} {c sz n k c' : Nat} {xs : List Value} {w : World} (h : RdS (.slice a n c) sz n xs w) (hk : k ≤ n) (hc : k ≤ c') : RdS (.slice a k c') sz k (xs.take (k * sz)) w := by
  obtain ⟨hl, a', c2, he, hr⟩ := h
  simp only [Value.slice.injEq] at he
  obtain ⟨rfl, _, rfl⟩ := he
  have hm : k * sz ≤ n * sz := Nat.mul_le_mul_right _ hk
  refine ⟨by simp; omega, a, c', rfl, ?_⟩
  rcases hr with rfl | ⟨b, off, rfl, _, hr⟩
  · exact .inl (by omega)
  · refine .inr ⟨b, off, rfl, hc, fun j u hj => hr j u ?_⟩
    rw [List.getElem?_take] at hj
    split at hj
    · exact hj
    · cases hj
/-- s[:k] of a slice -/
theorem p_slhi {P : Program} {e : Env} {t : TypeId} {x z : Operand} {a : Option Addr} {n c : Nat} {jk : IntKind} {j : Int} (sz : Nat) (ht : (elSz P t == some sz) = true) (hx : Env.ev e x = some (.slice a n c)) (hz : Env.ev e z = some (.int jk j)) (h : 0 ≤ j ∧ j ≤ c) :
    Pure P e (.slice t x none (some z) none) (.slice a j.toNat c) := fun n' a' w o he ho => by
  obtain ⟨u, hu, hs⟩ := elSz_spec (n := sz) (by simpa using ht)
  have hr : (Instr.sliceAt t (.slice a n c) none (some (.int jk j)) none).run P w = .ok (.slice a j.toNat c) w := by
    have hm : (if c = 0 then a else a.map (fun x => x.add 0)) = a := by
      split
      · rfl
      · cases a <;> simp [Addr.add]
    simp only [Instr.sliceAt, Instr.slice, Sem.run_bind, run_underlying hu, Result.andThen_ok, Instr.sliceBounds, Instr.sliceBound, asIntOf, Sem.run_pure, if_pos h, run_sizeOf hs, Nat.zero_mul, Nat.sub_zero, hm]
  simp only [execOp, ho, Sem.run_bind, he.ev hx, he.ev hz, Option.map_some, Option.map_none, hr, Result.andThen_ok, Sem.run_pure]
/-- an element of more than one cell -/
theorem ld_el {cx : Cx} {L : Loc} {F : World → Prop} {t : TypeId} {b off n c sz o : Nat} {xs vs : List Value} (hF : ∀ w, F w → RdS (.slice (some ⟨b, off, none⟩) n c) sz n xs w) (ht : (tySome cx.P t && (tyAgg cx.P t == true)) = true) (hz : tySz cx.P t = some vs.length) (j : Nat) (hj : o = off + j) (hu : ∀ i v, vs[i]? = some v → xs[j + i]? = some v) : LdOk cx L F t ⟨b, o, none⟩ (.agg vs.toArray) := by
  subst hj
  refine ld_factn ht hz fun w hw i v hv => ?_
  have := (hF w hw).cell (hu i v hv)
  rwa [show off + (j + i) = off + j + i by omega] at this
/-- a cell of an element -/
theorem ld_el1 {cx : Cx} {L : Loc} {F : World → Prop} {t : TypeId} {b off n c sz o : Nat} {xs : List Value} {u : Value} (hF : ∀ w, F w → RdS (.slice (some ⟨b, off, none⟩) n c) sz n xs w) (ht : (tySome cx.P t && (tyAgg cx.P t == false)) = true) (j : Nat) (hj : o = off + j) (hu : xs[j]? = some u) : LdOk cx L F t ⟨b, o, none⟩ u := by
  subst hj
  exact ld_fact ht fun w hw => (hF w hw).cell hu
end Go.Sx
