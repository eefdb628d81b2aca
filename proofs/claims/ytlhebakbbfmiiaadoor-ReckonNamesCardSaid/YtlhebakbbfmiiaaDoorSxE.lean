/- Sx, part E: memory: variables of the call's own, their fields, loads and stores. -/
import Derived.Test.YtlhebakbbfmiiaaDoorSxD
namespace Go.Sx
open Go.RowKit

def tyAgg (P : Program) (t : TypeId) : Bool := match P.underlying t with | some (.struct _) | some (.array _ _) => true | _ => false
def tySz (P : Program) (t : TypeId) : Option Nat := (P.info? t).map (·.size)
def tyZero (P : Program) (t : TypeId) : Option (List Value) := ((P.info? t).bind (·.zero)).map fun z => z.cells.toList
theorem run_isAgg {P : Program} {t : TypeId} {b : Bool} (h : (tySome P t && (tyAgg P t == b)) = true) (w : World) : (isAgg t).run P w = .ok b w := by
  simp only [Bool.and_eq_true, beq_iff_eq] at h
  obtain ⟨h1, h2⟩ := h
  obtain ⟨d, hd⟩ := tySome_spec h1
  unfold tyAgg at h2
  rw [hd] at h2
  simp only [isAgg, Sem.run_bind, run_underlying hd, Result.andThen_ok]
  cases d <;> simp at h2 <;> subst h2 <;> simp only [Sem.run_pure]
theorem run_sizeOf {P : Program} {t : TypeId} {n : Nat} (h : tySz P t = some n) (w : World) : (sizeOf t).run P w = .ok n w := by
  unfold tySz at h
  cases hi : P.info? t with
  | none => rw [hi] at h; cases h
  | some i =>
    rw [hi] at h
    simp only [Option.map_some, Option.some.injEq] at h
    simp [sizeOf, typeInfo, go_sem, hi, h]

section
variable {cx : Cx} {k : List KI} {e : Env} {L : Loc} {F : World → Prop} {Q : Exit → Act → World → Prop} {ops : Array Oper} {rest : List Oper}

/-! ## loads -/
/-- The variable at p holds v. -/
def LdOk (cx : Cx) (L : Loc) (F : World → Prop) (t : TypeId) (p : Addr) (v : Value) : Prop := ∀ w, StOk cx L F w → (loadVar t p).run cx.P w = .ok v w
theorem run_load {P : Program} {p : Addr} {v : Value} {w : World} (h : w.cell? p = some v) : (load p).run P w = .ok v w := by
  simp [load, Sem.run, h]
theorem run_loadCellsFrom {P : Program} {w : World} {b off : Nat} : ∀ (vs : List Value) (i : Nat) (acc : Array Value), (∀ j v, vs[j]? = some v → w.cell? ⟨b, off + (i + j), none⟩ = some v) →
    (loadCellsFrom ⟨b, off, none⟩ i vs.length acc).run P w = .ok (acc ++ vs.toArray) w
  | [], i, acc, _ => by simp [loadCellsFrom, Sem.run_pure]
  | v :: vs, i, acc, h => by
    have h0 : w.cell? ((⟨b, off, none⟩ : Addr).add i) = some v := by
      rw [show (⟨b, off, none⟩ : Addr).add i = ⟨b, off + i, none⟩ by unfold Addr.add; split <;> simp_all]
      simpa using h 0 v (by simp)
    have hr := run_loadCellsFrom (P := P) vs (i + 1) (acc.push v) (fun j u hj => by
      have := h (j + 1) u (by simpa using hj)
      rwa [show i + (j + 1) = i + 1 + j by omega] at this)
    simp only [List.length_cons, loadCellsFrom, Sem.run_bind, run_load h0, Result.andThen_ok, hr]
    simp
theorem run_loadVar1 {P : Program} {t : TypeId} {p : Addr} {v : Value} {w : World} (ht : (tySome P t && (tyAgg P t == false)) = true) (h : w.cell? p = some v) : (loadVar t p).run P w = .ok v w := by
  simp only [loadVar, Sem.run_bind, run_isAgg ht, Result.andThen_ok, Bool.false_eq_true, if_false, run_load h]
theorem run_loadVarn {P : Program} {t : TypeId} {b off : Nat} {vs : List Value} {w : World} (ht : (tySome P t && (tyAgg P t == true)) = true) (hz : tySz P t = some vs.length) (h : ∀ j v, vs[j]? = some v → w.cell? ⟨b, off + j, none⟩ = some v) : (loadVar t ⟨b, off, none⟩).run P w = .ok (.agg vs.toArray) w := by
  have hr := run_loadCellsFrom (P := P) (w := w) (b := b) (off := off) vs 0 #[] (fun j v hj => by simpa using h j v hj)
  simp only [loadVar, Sem.run_bind, run_isAgg ht, Result.andThen_ok, if_true, run_sizeOf hz, loadCells, hr, Sem.run_pure]
  simp
theorem blk_cell {w : World} {b : Nat} {cs : List Value} {t : TypeId} (h : (Ent.blk b cs t).ok w) {off : Nat} {v : Value} (hv : cs[off]? = some v) : w.cell? ⟨b, off, none⟩ = some v := by
  have hh : w.heap[b]? = some (.cells cs.toArray t (0, 0)) := h
  simp only [World.cell?, hh]
  simpa using hv
theorem ld_blk {t t' : TypeId} {b off : Nat} {cs : List Value} {v : Value} (i : Nat) (hi : L[i]? = some (.blk b cs t')) (ht : (tySome cx.P t && (tyAgg cx.P t == false)) = true) (hv : cs[off]? = some v) : LdOk cx L F t ⟨b, off, none⟩ v := fun _ hs =>
  run_loadVar1 ht (blk_cell (hs.ok _ (List.mem_of_getElem? hi)) hv)
theorem ld_blkn {t t' : TypeId} {b off n : Nat} {cs : List Value} (i : Nat) (hi : L[i]? = some (.blk b cs t')) (ht : (tySome cx.P t && (tyAgg cx.P t == true)) = true) (hz : tySz cx.P t = some n) (hn : Nat.ble (off + n) cs.length = true) : LdOk cx L F t ⟨b, off, none⟩ (.agg ((cs.drop off).take n).toArray) := fun _ hs => by
  have hle : off + n ≤ cs.length := by simpa using hn
  refine run_loadVarn ht (by rw [hz]; simp; omega) fun j v hj => blk_cell (hs.ok _ (List.mem_of_getElem? hi)) ?_
  rw [List.getElem?_take] at hj
  split at hj
  · simpa [List.getElem?_drop] using hj
  · cases hj
theorem ld_fact {t : TypeId} {p : Addr} {v : Value} (ht : (tySome cx.P t && (tyAgg cx.P t == false)) = true) (h : ∀ w, F w → w.cell? p = some v) : LdOk cx L F t p v := fun w hs => run_loadVar1 ht (h w hs.here)
theorem ld_factn {t : TypeId} {b off : Nat} {vs : List Value} (ht : (tySome cx.P t && (tyAgg cx.P t == true)) = true) (hz : tySz cx.P t = some vs.length) (h : ∀ w, F w → ∀ j v, vs[j]? = some v → w.cell? ⟨b, off + j, none⟩ = some v) : LdOk cx L F t ⟨b, off, none⟩ (.agg vs.toArray) := fun w hs => run_loadVarn ht hz (h w hs.here)
theorem o_load {dst : Nat} {x : Operand} {t ty : TypeId} {pos : String} {after : Array Edge} {g : Option (Nat × Bool)} {p : Addr} {v : Value} (hg : Gd ops e g = some true) (hd : Nat.blt dst cx.n = true) (hx : Env.ev e x = some (.pointer (some p))) (hl : LdOk cx L F t p v)
    (h : O cx ops rest k ((dst, v) :: e) L F Q) : O cx ops (⟨some dst, .load t x, ty, pos, after, g⟩ :: rest) k e L F Q :=
  o_run (fun u L' F' => u = v ∧ L' = L ∧ F' = F) hg hd (fun a w he hs => ⟨v, w, L, F, by
    simp only [execOp, Instr.loadAt, he.ev hx, Instr.sureAddr, Sem.run_bind, Sem.run_pure, Result.andThen_ok, hl w hs], hs, rfl, rfl, rfl⟩) (fun u L' F' ⟨hu, hL, hF⟩ => by rw [hu, hL, hF]; exact h)

/-! ## new variables -/
theorem StOk.alloc {w : World} (h : StOk cx L F w) (cs : List Value) (t : TypeId) : StOk cx (.blk w.heap.size cs t :: L) F (w.alloc (.cells cs.toArray t)) := by
  have hlt := h.lt
  have hc : Chg [] w (w.alloc (.cells cs.toArray t)) := Chg.alloc _ _ _
  refine ⟨h.chg.trans (hc.mono (by simp)), ?_, ?_, ?_, h.away, ?_⟩
  · intro x hx
    simp only [List.mem_cons] at hx
    rcases hx with rfl | hx
    · show (w.heap.push _)[w.heap.size]? = _
      simp
    · exact Ent.ok_chg (h.ok x hx) hc (by simp)
  · rw [fps_cons]
    refine List.nodup_append.2 ⟨by simp [Ent.fp], h.nodup, fun a ha b hb hab => ?_⟩
    simp [Ent.fp] at ha
    have := hlt b hb
    omega
  · intro b hb
    rw [fps_cons] at hb
    simp only [Ent.fp, List.mem_append, List.mem_singleton] at hb
    rcases hb with rfl | hb
    · right; exact h.chg.size
    · exact h.own b hb
  · refine h.rob.fresh (hc.mono (by simp)) fun b hb hn => ?_
    rw [fps_cons] at hb
    simp only [Ent.fp, List.mem_append, List.mem_singleton, not_or] at hb hn
    rcases hb with hb | rfl | hb
    · exact absurd hb hn.1
    · exact Nat.le_refl _
    · exact absurd hb hn.2
theorem o_alloc {dst : Nat} {t ty : TypeId} {pos : String} {after : Array Edge} {g : Option (Nat × Bool)} {zs : List Value} (hg : Gd ops e g = some true) (hd : Nat.blt dst cx.n = true) (hz : tyZero cx.P t = some zs)
    (h : ∀ b, O cx ops rest k ((dst, .pointer (some ⟨b, 0, none⟩)) :: e) (.blk b zs t :: L) F Q) : O cx ops (⟨some dst, .alloc t, ty, pos, after, g⟩ :: rest) k e L F Q := by
  refine o_run (fun u L' F' => ∃ b, u = .pointer (some ⟨b, 0, none⟩) ∧ L' = .blk b zs t :: L ∧ F' = F) hg hd (fun a w he hs => ⟨_, _, _, _, ?_, hs.alloc zs t, w.heap.size, rfl, rfl, rfl⟩) (fun u L' F' ⟨b, hu, hL, hF⟩ => by rw [hu, hL, hF]; exact h b)
  unfold tyZero at hz
  cases hi : cx.P.info? t with
  | none => rw [hi] at hz; cases hz
  | some i =>
    rw [hi] at hz
    cases hzz : i.zero with
    | none => simp [hzz] at hz
    | some z =>
      simp [hzz] at hz
      have : z.cells = zs.toArray := by rw [← hz]
      have hzv : (zeroValue t).run cx.P w = .ok z w := by simp [zeroValue, typeInfo, go_sem, hi, hzz]
      simp only [execOp, Instr.alloc, Sem.run_bind, hzv, newVar, newRow, newObj, Sem.run_pure, Result.andThen_ok, Sem.run, World.alloc, this]
theorem o_box {dst : Nat} {x : Operand} {t ty : TypeId} {pos : String} {after : Array Edge} {g : Option (Nat × Bool)} {v : Value} (hg : Gd ops e g = some true) (hd : Nat.blt dst cx.n = true) (hx : Env.ev e x = some v)
    (h : ∀ b, O cx ops rest k ((dst, .pointer (some ⟨b, 0, none⟩)) :: e) (.blk b v.cells.toList t :: L) F Q) : O cx ops (⟨some dst, .box t x, ty, pos, after, g⟩ :: rest) k e L F Q := by
  refine o_run (fun u L' F' => ∃ b, u = .pointer (some ⟨b, 0, none⟩) ∧ L' = .blk b v.cells.toList t :: L ∧ F' = F) hg hd (fun a w he hs => ⟨_, _, _, _, ?_, hs.alloc v.cells.toList t, w.heap.size, rfl, rfl, rfl⟩) (fun u L' F' ⟨b, hu, hL, hF⟩ => by rw [hu, hL, hF]; exact h b)
  simp only [execOp, Instr.box, he.ev hx, newVar, newRow, newObj, Sem.run_bind, Sem.run_pure, Result.andThen_ok, Sem.run, World.alloc, Array.toArray_toList]

/-! ## addresses -/
/-- where a field lies -/
def fldOff (P : Program) (s : TypeId) (f : Nat) : Option Nat := match P.underlying s with
  | some (.struct fs) => match fs[f]? with
    | some fd => match tySz P fd.type with
      | some sz => if sz = 0 then none else some fd.offset
      | none => none
    | none => none
  | _ => none
theorem add_mk (b off n : Nat) : (⟨b, off, none⟩ : Addr).add n = ⟨b, off + n, none⟩ := by
  unfold Addr.add
  split <;> simp_all
theorem p_fa {P : Program} {s : TypeId} {x : Operand} {f b off fo : Nat} (hf : (fldOff P s f == some fo) = true) (hx : Env.ev e x = some (.pointer (some ⟨b, off, none⟩))) : Pure P e (.fieldAddr s x f) (.pointer (some ⟨b, off + fo, none⟩)) := fun n a w o he ho => by
  have hf' : fldOff P s f = some fo := by simpa using hf
  unfold fldOff at hf'
  split at hf'
  · rename_i fs hu
    split at hf'
    · rename_i fd hfd
      split at hf'
      · rename_i sz hne
        split at hf'
        · cases hf'
        rename_i hnz
        simp only [Option.some.injEq] at hf'
        simp only [execOp, ho, Instr.fieldAt, he.ev hx, run_underlying hu, hfd, Instr.sureAddr, fieldPlace, Sem.run_bind, Sem.run_pure, Result.andThen_ok, run_sizeOf hne, if_neg hnz, add_mk, hf']
      · cases hf'
    · cases hf'
  · cases hf'
theorem p_nil {P : Program} {x : Operand} {p : Addr} (hx : Env.ev e x = some (.pointer (some p))) : Pure P e (.nilCheck x) (.pointer (some p)) := fun n a w o he ho => by
  simp only [execOp, ho, he.ev hx, Sem.run_pure]
/-- the size of a slice's elements -/
def elSz (P : Program) (t : TypeId) : Option Nat := match P.underlying t with
  | some (.slice u) => tySz P u
  | _ => none
theorem elSz_spec {P : Program} {t : TypeId} {n : Nat} (h : elSz P t = some n) : ∃ u, P.underlying t = some (.slice u) ∧ tySz P u = some n := by
  unfold elSz at h
  split at h
  · exact ⟨_, by assumption, h⟩
  · cases h
theorem p_ia {P : Program} {t : TypeId} {x y : Operand} {b off l c sz : Nat} {ik : IntKind} {i : Int} (hz : (elSz P t == some sz) = true) (hx : Env.ev e x = some (.slice (some ⟨b, off, none⟩) l c)) (hy : Env.ev e y = some (.int ik i)) (h : 0 ≤ i ∧ i < l) :
    Pure P e (.indexAddr t x y) (.pointer (some ⟨b, off + i.toNat * sz, none⟩)) := fun n a w o he ho => by
  obtain ⟨u, hu, hsz⟩ := elSz_spec (by simpa using hz)
  simp only [execOp, ho, Instr.indexAt, he.ev hx, he.ev hy, asIntOf, run_underlying hu, Sem.run_bind, Sem.run_pure, Result.andThen_ok, if_pos h, run_sizeOf hsz, add_mk]
/-! ## stores -/
theorem StOk.upd {x x' : Ent} {Lf : Loc} {w w' : World} (h : StOk cx (x :: Lf) F w) (hc : Chg x.fp w w') (hok : x'.ok w') (hnd : x'.fp.Nodup) (hfp : ∀ b, b ∈ x'.fp → b ∈ x.fp ∨ w.heap.size ≤ b) : StOk cx (x' :: Lf) F w' := by
  have hcal := StOk.callee (Lin := [x]) (Lf := Lf) h (Pre := fun _ => True) (fun _ _ => trivial)
  have e1 : fps [x] = x.fp := by simp [fps]
  have e2 : fps [x'] = x'.fp := by simp [fps]
  have h' : StOk ⟨cx.P, 0, w, fps [x], cx.M ++ fps Lf⟩ [x'] (fun _ => True) w' :=
    ⟨by rw [e1]; exact hc, by simpa using hok, by rw [e2]; exact hnd, by rw [e2, e1]; exact hfp, hcal.away, fun _ _ => trivial⟩
  exact (StOk.called (Lin := [x]) (L' := [x']) h rfl h').fact fun _ hw => hw.1
theorem set_split : ∀ {L : Loc} {i : Nat} {x : Ent} (x' : Ent), L[i]? = some x → ∃ A B, L = A ++ x :: B ∧ L.set i x' = A ++ x' :: B
  | [], _, _, _, h => by simp at h
  | y :: L, 0, x, x', h => by simp at h; subst h; exact ⟨[], L, rfl, rfl⟩
  | y :: L, i + 1, x, x', h => by
    obtain ⟨A, B, h1, h2⟩ := set_split (L := L) (i := i) x' (by simpa using h)
    exact ⟨y :: A, B, by rw [h1]; rfl, by simp [h2]⟩
theorem StOk.updAt {x x' : Ent} {w w' : World} (h : StOk cx L F w) (i : Nat) (hi : L[i]? = some x) (hc : Chg x.fp w w') (hok : x'.ok w') (hnd : x'.fp.Nodup) (hfp : ∀ b, b ∈ x'.fp → b ∈ x.fp ∨ w.heap.size ≤ b) : StOk cx (L.set i x') F w' := by
  obtain ⟨A, B, h1, h2⟩ := set_split x' hi
  have p1 : L.Perm (x :: (A ++ B)) := by rw [h1]; exact List.perm_middle
  have p2 : (x' :: (A ++ B)).Perm (L.set i x') := by rw [h2]; exact List.perm_middle.symm
  exact ((h.perm p1).upd hc hok hnd hfp).perm p2
def one : Value → Bool
  | .agg _ => false
  | .tuple _ => false
  | _ => true
theorem one_cells {v : Value} (h : one v = true) : v.cells = #[v] := by cases v <;> first | rfl | cases h
theorem run_store {P : Program} {w : World} {p : Addr} {v u : Value} (hv : one v = true) (hc : w.cell? p = some u) (hf : w.frozen? p = false) : (store p v).run P w = .ok () (w.setCell p v) := by
  cases v <;> first | (cases hv; done) | simp [store, Sem.run, hc, hf]
def writeAt (cs : List Value) (off : Nat) : List Value → List Value
  | [] => cs
  | v :: vs => writeAt (cs.set off v) (off + 1) vs
theorem writeAt_length : ∀ (vs : List Value) (cs : List Value) (off : Nat), (writeAt cs off vs).length = cs.length
  | [], _, _ => rfl
  | v :: vs, cs, off => by simp [writeAt, writeAt_length vs]
def setCells (w : World) (b off : Nat) : List Value → World
  | [] => w
  | v :: vs => setCells (w.setCell ⟨b, off, none⟩ v) b (off + 1) vs
theorem setCell_heap {w : World} {b off : Nat} {cs : List Value} {t : TypeId} {fz : Nat × Nat} {v : Value} (h : w.heap[b]? = some (.cells cs.toArray t fz)) : (w.setCell ⟨b, off, none⟩ v).heap[b]? = some (.cells (cs.set off v).toArray t fz) := by
  simp [World.setCell, Array.getElem?_modify, h]
theorem run_storeCells {P : Program} : ∀ (vs : List Value) (w : World) (b off i : Nat) (cs : List Value) (t : TypeId), w.heap[b]? = some (.cells cs.toArray t (0, 0)) → off + i + vs.length ≤ cs.length → (∀ v, v ∈ vs → one v = true) →
    (storeCells ⟨b, off, none⟩ vs i).run P w = .ok () (setCells w b (off + i) vs) ∧ (setCells w b (off + i) vs).heap[b]? = some (.cells (writeAt cs (off + i) vs).toArray t (0, 0)) ∧ Chg [b] w (setCells w b (off + i) vs)
  | [], w, b, off, i, cs, t, h, _, _ => by simp [storeCells, setCells, writeAt, Sem.run_pure, h, Chg.refl]
  | v :: vs, w, b, off, i, cs, t, h, hl, h1 => by
    simp only [List.length_cons] at hl
    have hc : w.cell? ⟨b, off + i, none⟩ = some (cs[off + i]'(by omega)) := by
      simp only [World.cell?, h]
      simp
    have hf : w.frozen? ⟨b, off + i, none⟩ = false := by simp [World.frozen?, h]
    have hr := run_store (P := P) (h1 v (by simp)) hc hf
    obtain ⟨r1, r2, r3⟩ := run_storeCells vs (w.setCell ⟨b, off + i, none⟩ v) b off (i + 1) (cs.set (off + i) v) t (setCell_heap h) (by simp; omega) (fun u hu => h1 u (by simp [hu]))
    refine ⟨?_, ?_, ?_⟩
    · simp only [storeCells, Sem.run_bind, add_mk, hr, Result.andThen_ok]
      rw [r1]
      rfl
    · exact r2
    · exact (Chg.setCell w (by simp) v).trans r3
theorem o_store {x y : Operand} {t t' ty : TypeId} {pos : String} {after : Array Edge} {g : Option (Nat × Bool)} {b off : Nat} {cs : List Value} {v : Value} (n i : Nat) (hg : Gd ops e g = some true) (hx : Env.ev e x = some (.pointer (some ⟨b, off, none⟩))) (hy : Env.ev e y = some v)
    (hi : L[i]? = some (.blk b cs t')) (hn : v.cells.toList.length = n) (hzn : (tySz cx.P t == some n) = true) (hl : Nat.ble (off + v.cells.toList.length) cs.length = true) (h1' : v.cells.toList.all one = true)
    (h : O cx ops rest k e (L.set i (.blk b (writeAt cs off v.cells.toList) t')) F Q) : O cx ops (⟨none, .store t x y, ty, pos, after, g⟩ :: rest) k e L F Q := by
  refine o_run_none hg (fun a w he hs => ?_) h
  have hok : w.heap[b]? = some (.cells cs.toArray t' (0, 0)) := hs.ok _ (List.mem_of_getElem? hi)
  have hl' : off + v.cells.toList.length ≤ cs.length := by simpa using hl
  have hz' : tySz cx.P t = some v.cells.size := by subst hn; simpa using hzn
  obtain ⟨r1, r2, r3⟩ := run_storeCells (P := cx.P) v.cells.toList w b off 0 cs t' hok (by omega) (List.all_eq_true.1 h1')
  refine ⟨_, ?_, hs.updAt i hi (w' := setCells w b off v.cells.toList) r3 r2 (by simp [Ent.fp]) (fun b' hb' => .inl (by simpa [Ent.fp] using hb'))⟩
  simp only [execOp, Instr.storeAt, he.ev hx, he.ev hy, Instr.sureAddr, storeVar, Sem.run_bind, Sem.run_pure, Result.andThen_ok, run_sizeOf hz', ne_eq, not_true_eq_false, if_false]
  rw [r1]
  simp
/-- the store of one cell -/
theorem o_store1 {x y : Operand} {t t' ty : TypeId} {pos : String} {after : Array Edge} {g : Option (Nat × Bool)} {b off : Nat} {cs : List Value} {v : Value} (i : Nat) (hg : Gd ops e g = some true) (hx : Env.ev e x = some (.pointer (some ⟨b, off, none⟩))) (hy : Env.ev e y = some v)
    (hi : L[i]? = some (.blk b cs t')) (h1 : one v = true) (hz : (tySz cx.P t == some 1) = true) (hl : Nat.ble (off + 1) cs.length = true)
    (h : O cx ops rest k e (L.set i (.blk b (cs.set off v) t')) F Q) : O cx ops (⟨none, .store t x y, ty, pos, after, g⟩ :: rest) k e L F Q := by
  have hc : v.cells.toList = [v] := by rw [one_cells h1]
  refine o_store 1 i hg hx hy hi ?_ hz ?_ ?_ ?_
  · rw [hc]; rfl
  · rw [hc]; exact hl
  · rw [hc]; simpa using h1
  · rw [hc]; exact h
/-! ## results that lie in variables -/
section
variable {P : Program} {n : Nat} {w0 : World} {I M : List Nat} {fn : Func} {Post : Value → Loc → (World → Prop) → Prop} {a1 t2 t3 : Nat} {ty : TypeId} {p : Addr} {v1 v2 v3 : Value}
theorem g_retc1 (hres : fn.results = #[.cell a1 ty]) (h1 : Env.get e a1 = some (.pointer (some p))) (hl : LdOk ⟨P, n, w0, I, M⟩ L F ty p v1) (hp : Rt ⟨P, n, w0, I, M⟩ L F (Post v1)) : G ⟨P, n, w0, I, M⟩ .ret k e L F (bodyPost P fn (RPost P w0 I M Post)) :=
  g_ret_of (rs := [.cell a1 ty]) (vs := [v1]) hres ⟨⟨p, h1, hl⟩, trivial⟩ rfl hp
theorem g_retc2 (hres : fn.results = #[.cell a1 ty, .tmp t2]) (h1 : Env.get e a1 = some (.pointer (some p))) (hl : LdOk ⟨P, n, w0, I, M⟩ L F ty p v1) (h2 : Env.get e t2 = some v2) (hp : Rt ⟨P, n, w0, I, M⟩ L F (Post (.tuple #[v1, v2]))) : G ⟨P, n, w0, I, M⟩ .ret k e L F (bodyPost P fn (RPost P w0 I M Post)) :=
  g_ret_of (rs := [.cell a1 ty, .tmp t2]) (vs := [v1, v2]) hres ⟨⟨p, h1, hl⟩, h2, trivial⟩ rfl hp
theorem g_retc3 (hres : fn.results = #[.cell a1 ty, .tmp t2, .tmp t3]) (h1 : Env.get e a1 = some (.pointer (some p))) (hl : LdOk ⟨P, n, w0, I, M⟩ L F ty p v1) (h2 : Env.get e t2 = some v2) (h3 : Env.get e t3 = some v3) (hp : Rt ⟨P, n, w0, I, M⟩ L F (Post (.tuple #[v1, v2, v3]))) : G ⟨P, n, w0, I, M⟩ .ret k e L F (bodyPost P fn (RPost P w0 I M Post)) :=
  g_ret_of (rs := [.cell a1 ty, .tmp t2, .tmp t3]) (vs := [v1, v2, v3]) hres ⟨⟨p, h1, hl⟩, h2, h3, trivial⟩ rfl hp
end
end
end Go.Sx
