/- Sx, part G: literals of slices; texts and bytes; pieces of texts. -/
import Derived.Test.YtlhebakbbfmiiaaDoorSxF
import Derived.Laws.IdiomStrings
namespace Go.Sx
open Go.RowKit

/-- bytes as cells -/
def bys (l : List UInt8) : List Value := l.map fun b => .int .u8 (b.toNat : Int)
theorem bys_length (l : List UInt8) : (bys l).length = l.length := by simp [bys]
theorem bys_append (l m : List UInt8) : bys (l ++ m) = bys l ++ bys m := by simp [bys]
theorem bys_one (l : List UInt8) : (bys l).all one = true := by
  simp [bys, one]
def tyBytes (P : Program) (t : TypeId) : Bool := match P.underlying t with
  | some (.slice u) => tyI P u .u8
  | _ => false
theorem tyBytes_spec {P : Program} {t : TypeId} (h : tyBytes P t = true) : ∃ u, P.underlying t = some (.slice u) ∧ P.underlying u = some (.int .u8) := by
  unfold tyBytes at h
  split at h
  · exact ⟨_, by assumption, tyI_spec h⟩
  · cases h

section
variable {cx : Cx} {k : List KI} {e : Env} {L : Loc} {F : World → Prop} {Q : Exit → Act → World → Prop} {ops : Array Oper} {rest : List Oper}
/-- string(b) -/
theorem o_str {dst : Nat} {x : Operand} {s t ty : TypeId} {pos : String} {after : Array Edge} {g : Option (Nat × Bool)} {v : Value} {n : Nat} {l : List UInt8} (hg : Gd ops e g = some true) (hd : Nat.blt dst cx.n = true) (hs : (tyBytes cx.P s && tyS cx.P t) = true)
    (hx : Env.ev e x = some v) (hsrc : SrcOk cx L F v 1 n (bys l)) (h : O cx ops rest k ((dst, S l) :: e) L F Q) : O cx ops (⟨some dst, .convert s t x, ty, pos, after, g⟩ :: rest) k e L F Q := by
  refine o_run (fun u L' F' => u = S l ∧ L' = L ∧ F' = F) hg hd (fun a w he hst => ⟨S l, w, L, F, ?_, hst, rfl, rfl, rfl⟩) (fun u L' F' ⟨hu, hL, hF⟩ => by rw [hu, hL, hF]; exact h)
  simp only [Bool.and_eq_true] at hs
  obtain ⟨u, hu, hu8⟩ := tyBytes_spec hs.1
  have ht := tyS_spec hs.2
  obtain ⟨hlen, ad, c, rfl, hread⟩ := hsrc w hst
  have hn : n = l.length := by simpa [bys_length] using hlen.symm
  subst hn
  have hr : (convert s t (.slice ad l.length c)).run cx.P w = .ok (S l) w := by
    rcases hread with h0 | ⟨b, off, rfl, _, hc⟩
    · have hl : l = [] := List.eq_nil_of_length_eq_zero h0
      subst hl
      cases ad with
      | none =>
        simp only [convert, Sem.run_bind, run_underlying hu, run_underlying ht, run_underlying hu8, Result.andThen_ok, Conv.bytesToString, Sem.run_pure]
        rfl
      | some a0 => exact run_convert_bytes_back w s t u a0 c [] hu hu8 ht (fun j hj => by simp at hj)
    · refine run_convert_bytes_back w s t u ⟨b, off, none⟩ c l hu hu8 ht fun j hj => ?_
      rw [add_mk]
      exact hc j _ (by simp [bys, hj])
  simp only [execOp, Sem.run_bind, he.ev hx, hr, Result.andThen_ok, Sem.run_pure]

/-! ## pieces of texts -/
theorem extract_mk (l : List UInt8) (a b : Nat) : (ByteArray.mk l.toArray).extract a b = ⟨((l.drop a).take (b - a)).toArray⟩ := by
  apply ByteArray.ext
  simp [ByteArray.data_extract, List.take_drop]
theorem run_sliceStr {P : Program} {t : TypeId} {l : List UInt8} (ht : tyS P t = true) (lo hi : Option Value) (a b : Nat) (w : World) (h : (Instr.sliceBounds false l.length l.length lo hi none).run P w = .ok (a, b, l.length) w) :
    (Instr.sliceAt t (S l) lo hi none).run P w = .ok (S ((l.drop a).take (b - a))) w := by
  have hu := tyS_spec ht
  simp only [Instr.sliceAt, Instr.slice, Sem.run_bind, run_underlying hu, Result.andThen_ok, size_mk, Option.isSome_none, Bool.false_eq_true, if_false, Sem.run_pure, h, extract_mk]
theorem p_cut {P : Program} {t : TypeId} {x y z : Operand} {l : List UInt8} {ik jk : IntKind} {i j : Int} (ht : tyS P t = true) (hx : Env.ev e x = some (S l)) (hy : Env.ev e y = some (.int ik i)) (hz : Env.ev e z = some (.int jk j)) (h : 0 ≤ i ∧ i ≤ j ∧ j ≤ l.length) :
    Pure P e (.slice t x (some y) (some z) none) (S (cut l i j)) := fun n a w o he ho => by
  have hb : (Instr.sliceBounds false l.length l.length (some (.int ik i)) (some (.int jk j)) none).run P w = .ok (i.toNat, j.toNat, l.length) w := by
    have h1 : 0 ≤ j ∧ j ≤ (l.length : Int) := by omega
    have h2 : 0 ≤ i ∧ i ≤ (j.toNat : Int) := by omega
    simp only [Instr.sliceBounds, Instr.sliceBound, asIntOf, Sem.run_bind, Sem.run_pure, Result.andThen_ok, if_pos h1, if_pos h2]
  have hr := run_sliceStr ht _ _ _ _ w hb
  simp only [execOp, ho, Sem.run_bind, he.ev hx, he.ev hy, he.ev hz, Option.map_some, Option.map_none, hr, Result.andThen_ok, Sem.run_pure, cut]
theorem p_cutlo {P : Program} {t : TypeId} {x y : Operand} {l : List UInt8} {ik : IntKind} {i : Int} (ht : tyS P t = true) (hx : Env.ev e x = some (S l)) (hy : Env.ev e y = some (.int ik i)) (h : 0 ≤ i ∧ i ≤ l.length) :
    Pure P e (.slice t x (some y) none none) (S (l.drop i.toNat)) := fun n a w o he ho => by
  have hb : (Instr.sliceBounds false l.length l.length (some (.int ik i)) none none).run P w = .ok (i.toNat, l.length, l.length) w := by
    simp only [Instr.sliceBounds, Instr.sliceBound, asIntOf, Sem.run_bind, Sem.run_pure, Result.andThen_ok, if_pos h]
  have hr := run_sliceStr ht _ _ _ _ w hb
  have e1 : (l.drop i.toNat).take (l.length - i.toNat) = l.drop i.toNat := List.take_of_length_le (by simp)
  simp only [execOp, ho, Sem.run_bind, he.ev hx, he.ev hy, Option.map_some, Option.map_none, hr, Result.andThen_ok, Sem.run_pure, e1]
theorem p_cuthi {P : Program} {t : TypeId} {x z : Operand} {l : List UInt8} {jk : IntKind} {j : Int} (ht : tyS P t = true) (hx : Env.ev e x = some (S l)) (hz : Env.ev e z = some (.int jk j)) (h : 0 ≤ j ∧ j ≤ l.length) :
    Pure P e (.slice t x none (some z) none) (S (l.take j.toNat)) := fun n a w o he ho => by
  have hb : (Instr.sliceBounds false l.length l.length none (some (.int jk j)) none).run P w = .ok (0, j.toNat, l.length) w := by
    simp only [Instr.sliceBounds, Instr.sliceBound, asIntOf, Sem.run_bind, Sem.run_pure, Result.andThen_ok, if_pos h]
  have hr := run_sliceStr ht _ _ _ _ w hb
  simp only [execOp, ho, Sem.run_bind, he.ev hx, he.ev hz, Option.map_some, Option.map_none, hr, Result.andThen_ok, Sem.run_pure, List.drop_zero, Nat.sub_zero]

/-- a piece of an array, or of a slice, by a closed fact -/
theorem p_slicex {P : Program} {t : TypeId} {x : Operand} {v u : Value} (hx : Env.ev e x = some v) (hr : ∀ w, (Instr.sliceAt t v none none none).run P w = .ok u w) : Pure P e (.slice t x none none none) u := fun n a w o he ho => by
  simp only [execOp, ho, Sem.run_bind, he.ev hx, Option.map_none, hr w, Result.andThen_ok, Sem.run_pure]

/-! ## literals of structs -/
def Env.evps (e : Env) : List (Nat × Operand) → Option (List (Nat × Value))
  | [] => some []
  | (i, x) :: xs => match Env.ev e x with
    | none => none
    | some v => match Env.evps e xs with
      | none => none
      | some vs => some ((i, v) :: vs)
theorem EnvOk.evps {n : Nat} {a : Act} (h : EnvOk n e a) : ∀ {xs : List (Nat × Operand)} {vs : List (Nat × Value)}, Env.evps e xs = some vs → xs.map (fun p => (p.1, a.eval p.2)) = vs
  | [], vs, hx => by simp [Env.evps] at hx; simp [hx]
  | (i, x) :: xs, vs, hx => by
    simp only [Env.evps] at hx
    cases hv : Env.ev e x with
    | none => simp [hv] at hx
    | some v =>
      rw [hv] at hx
      cases hr : Env.evps e xs with
      | none => simp [hr] at hx
      | some r =>
        simp [hr] at hx
        subst hx
        simp [h.ev hv, EnvOk.evps h hr]
theorem p_build {P : Program} {t : TypeId} {parts : List (Nat × Operand)} {vs : List (Nat × Value)} {u : Value} (hx : Env.evps e parts = some vs) (hr : ∀ w, (Instr.build t vs.toArray).run P w = .ok u w) : Pure P e (.build t parts.toArray) u := fun n a w o he ho => by
  have h2 := he.evps hx
  have h3 : (parts.toArray.map fun x => match x with | (i, x) => (i, a.eval x)) = vs.toArray := by rw [List.map_toArray]; exact congrArg List.toArray h2
  simp only [execOp, ho, Sem.run_bind, h3, hr w, Result.andThen_ok, Sem.run_pure]

/-! ## literals of slices -/
theorem write_row : ∀ (us : List Value) (pre mid post : List Value), us.length ≤ post.length →
    (us.zipIdx mid.length).foldl (fun (cs : Array Value) (x : Value × Nat) => cs.setIfInBounds (pre.length + x.2) x.1) (pre ++ mid ++ post).toArray = (pre ++ mid ++ us ++ post.drop us.length).toArray
  | [], pre, mid, post, _ => by simp
  | u :: us, pre, mid, [], h => by simp at h
  | u :: us, pre, mid, p :: post, h => by
    have e1 : (pre ++ mid ++ p :: post).toArray.setIfInBounds (pre.length + mid.length) u = (pre ++ (mid ++ [u]) ++ post).toArray := by
      simp only [List.setIfInBounds_toArray]
      congr 1
      rw [← List.length_append, List.set_append_right _ _ (Nat.le_refl _)]
      simp
    have ih := write_row us pre (mid ++ [u]) post (by simpa using h)
    simp only [List.zipIdx_cons, List.foldl_cons, e1]
    rw [show (mid ++ [u]).length = mid.length + 1 by simp] at ih
    rw [ih]
    simp
theorem fill_all (sz : Nat) : ∀ (vs : List Value) (st : Nat) (pre post : List Value), (∀ v, v ∈ vs → v.cells.size = sz) → pre.length = st * sz → vs.length * sz ≤ post.length →
    Instr.fill (fun i => some (i * sz, sz)) (pre ++ post).toArray ((List.range' st vs.length).zip vs) = some (pre ++ vs.flatMap (fun v => v.cells.toList) ++ post.drop (vs.length * sz)).toArray
  | [], st, pre, post, _, _, _ => by simp [Instr.fill]
  | v :: vs, st, pre, post, h1, h2, h3 => by
    have hv := h1 v (by simp)
    simp only [List.length_cons] at h3
    have h3' : sz + vs.length * sz ≤ post.length := by rw [Nat.add_mul] at h3; omega
    have hw := write_row v.cells.toList pre [] post (by simp [hv]; omega)
    have hne : ¬ ((v.cells.size ≠ sz || decide (st * sz + v.cells.size > (pre ++ post).toArray.size)) = true) := by simp [hv]; omega
    have ih := fill_all sz vs (st + 1) (pre ++ v.cells.toList) (post.drop sz) (fun u hu => h1 u (by simp [hu])) (by simp [hv, h2, Nat.add_mul]) (by simp; omega)
    simp only [List.length_cons, List.range'_succ, List.zip_cons_cons, Instr.fill]
    rw [if_neg hne]
    have e2 : (v.cells.zipIdx.foldl (fun (cs : Array Value) (x : Value × Nat) => cs.setIfInBounds (st * sz + x.2) x.1) (pre ++ post).toArray) = (pre ++ v.cells.toList ++ post.drop sz).toArray := by
      rw [← Array.foldl_toList, Array.toList_zipIdx, ← h2]
      simpa [hv] using hw
    rw [e2, ih]
    simp [List.append_assoc, Nat.add_mul, Nat.add_comm]
theorem o_bslice {dst len : Nat} {parts : List (Nat × Operand)} {t u ty : TypeId} {pos : String} {after : Array Edge} {g : Option (Nat × Bool)} {vs : List Value} {sz by_ : Nat} (hg : Gd ops e g = some true) (hd : Nat.blt dst cx.n = true) (hT : ElTy cx.P t u sz by_)
    (hp : parts.map (·.1) = List.range' 0 len) (hx : Env.evs e (parts.map (·.2)) = some vs) (hsz : vs.all (fun v => v.cells.size == sz) = true) (hm : Nat.ble (len * sz) 16777216 = true)
    (h : ∀ b, O cx ops rest k ((dst, .slice (some ⟨b, 0, none⟩) len len) :: e) (.blk b (vs.flatMap fun v => v.cells.toList) u :: L) F Q) :
    O cx ops (⟨some dst, .buildSlice t len parts.toArray, ty, pos, after, g⟩ :: rest) k e L F Q := by
  refine o_run (fun r L' F' => ∃ b, r = .slice (some ⟨b, 0, none⟩) len len ∧ L' = .blk b (vs.flatMap fun v => v.cells.toList) u :: L ∧ F' = F) hg hd (fun a w he hs => ⟨_, _, _, _, ?_, hs.alloc _ u, w.heap.size, rfl, rfl, rfl⟩) (fun r L' F' ⟨b, hr, hL, hF⟩ => by rw [hr, hL, hF]; exact h b)
  obtain ⟨hu, i0, z, hi0, hz, hsize, hby, hzs, hpos⟩ := hT
  have hev := he.evs hx
  have hlen : parts.length = len := by have := congrArg List.length hp; simpa using this
  have hvl : vs.length = len := by rw [← hev]; simpa using hlen
  have hpv : parts.map (fun p => (p.1, a.eval p.2)) = (List.range' 0 vs.length).zip vs := by
    rw [hvl, ← hp, ← hev, List.map_map]
    clear hev hx hlen hp
    induction parts with
    | nil => rfl
    | cons p ps ih => simp at ih ⊢; exact ih
  have hall : ∀ v, v ∈ vs → v.cells.size = sz := by simpa using hsz
  have hm' : ¬ (len * sz > 2 ^ 24) := by have : len * sz ≤ 16777216 := by simpa using hm
                                         omega
  have hzero : (((Array.range (len * sz)).map fun i => z.cells[i % z.cells.size]!)).toList.length = len * sz := by simp
  have hfill := fill_all sz vs 0 [] (((Array.range (len * sz)).map fun i => z.cells[i % z.cells.size]!)).toList hall (by simp) (by rw [hzero, hvl]; exact Nat.le_refl _)
  have hdrop : (((Array.range (len * sz)).map fun i => z.cells[i % z.cells.size]!)).toList.drop (vs.length * sz) = [] := List.drop_eq_nil_of_le (by rw [hzero, hvl]; exact Nat.le_refl _)
  rw [hdrop] at hfill
  simp only [List.nil_append, List.append_nil, Array.toArray_toList] at hfill
  have hzv : (zeroValue u).run cx.P w = .ok z w := by simp [zeroValue, typeInfo, go_sem, hi0, hz]
  have hszr : (sizeOf u).run cx.P w = .ok sz w := by simp [sizeOf, typeInfo, go_sem, hi0, hsize]
  have hpl : parts.toArray.map (fun p => (p.1, a.eval p.2)) = ((List.range' 0 vs.length).zip vs).toArray := by rw [List.map_toArray, hpv]
  by_cases h0 : len * sz = 0
  · have hv0 : vs = [] := by
      apply List.eq_nil_of_length_eq_zero
      rw [hvl]
      rcases Nat.mul_eq_zero.1 h0 with h | h
      · exact h
      · omega
    subst hv0
    have h24 : ¬ ((0 : Nat) > 2 ^ 24) := by decide
    simp only [execOp, Instr.buildSlice, Sem.run_bind, run_underlying hu, Result.andThen_ok, hszr, h0, if_neg h24, if_true, Sem.run_pure]
    have hpl' : parts.toArray.map (fun p => (p.1, a.eval p.2)) = #[] := by rw [hpl]; rfl
    have : (parts.toArray.map fun x => match x with | (i, x) => (i, a.eval x)) = #[] := hpl'
    have hr0 : ∀ f : Nat → Value, (Array.range 0).map f = #[] := fun f => by simp
    simp only [this, Instr.fill, newRow, newObj, Sem.run_bind, Sem.run_pure, Sem.run, Result.andThen_ok, hr0]
    rfl
  · have : (parts.toArray.map fun x => match x with | (i, x) => (i, a.eval x)) = ((List.range' 0 vs.length).zip vs).toArray := hpl
    simp only [execOp, Instr.buildSlice, Sem.run_bind, run_underlying hu, Result.andThen_ok, hszr, if_neg hm', if_neg h0, hzv, Sem.run_pure, this, hfill, newRow, newObj, Sem.run]
    rfl
end
end Go.Sx
