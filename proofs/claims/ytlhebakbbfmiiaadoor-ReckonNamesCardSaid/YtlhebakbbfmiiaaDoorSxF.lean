/- Sx, part F: slices that the call makes: literals, append; texts out of bytes. -/
import Derived.Test.YtlhebakbbfmiiaaDoorSxE
namespace Go.Sx
open Go.RowKit

section
variable {cx : Cx} {k : List KI} {e : Env} {L : Loc} {F : World → Prop} {Q : Exit → Act → World → Prop} {ops : Array Oper} {rest : List Oper}
/-- How a slice reads: n elements of sz cells each, all cells in a row. -/
def RdS (v : Value) (sz n : Nat) (xs : List Value) (w : World) : Prop :=
  xs.length = n * sz ∧ ∃ a c, v = .slice a n c ∧ (n = 0 ∨ ∃ b off, a = some ⟨b, off, none⟩ ∧ n ≤ c ∧ ∀ j u, xs[j]? = some u → w.cell? ⟨b, off + j, none⟩ = some u)
theorem RdS.of_row {v : Value} {t : TypeId} {sz n : Nat} {xs : List Value} {w : World} (h : (Ent.row v t sz n xs).ok w) : RdS v sz n xs w := by
  have hh : w.ownsRow 0 t sz v n xs := h
  refine ⟨hh.1, ?_⟩
  rcases hh.2 with ⟨rfl, rfl⟩ | ⟨g, cap, cur, rfl, hb, hg, hnc, hcm, hcs, htake⟩
  · exact ⟨none, 0, rfl, .inl rfl⟩
  · refine ⟨some ⟨g, 0, none⟩, cap, rfl, .inr ⟨g, 0, rfl, hnc, fun j u hj => ?_⟩⟩
    have := hh.cells (g := g) rfl j u hj
    rwa [add_mk] at this
/-- a literal's block -/
theorem RdS.of_blk {b : Nat} {t : TypeId} {sz n c : Nat} {xs : List Value} {w : World} (h : (Ent.blk b xs t).ok w) (hl : xs.length = n * sz) (hc : n ≤ c) : RdS (.slice (some ⟨b, 0, none⟩) n c) sz n xs w :=
  ⟨hl, _, c, rfl, .inr ⟨b, 0, rfl, hc, fun j u hj => by simpa using blk_cell h hj⟩⟩

/-- THE ELEMENT's ROW OF THE TABLE, as closed facts: slice type t, element type u, size, bytes, a zero. -/
structure ElTy (P : Program) (t u : TypeId) (sz by_ : Nat) : Prop where
  und : P.underlying t = some (.slice u)
  ex : ∃ i z, P.info? u = some i ∧ i.zero = some z ∧ i.size = sz ∧ i.bytes = by_ ∧ z.cells.size = sz ∧ 0 < sz
def elTyB (P : Program) (t u : TypeId) (sz by_ : Nat) : Bool := match P.underlying t with
  | some (.slice u') => u' == u && (match P.info? u with
    | some i => (match i.zero with
      | some z => i.size == sz && i.bytes == by_ && z.cells.size == sz && decide (0 < sz)
      | none => false)
    | none => false)
  | _ => false
theorem elTy_of {P : Program} {t u : TypeId} {sz by_ : Nat} (h : elTyB P t u sz by_ = true) : ElTy P t u sz by_ := by
  unfold elTyB at h
  split at h
  · rename_i u' hu
    simp only [Bool.and_eq_true, beq_iff_eq] at h
    obtain ⟨rfl, h⟩ := h
    split at h
    · rename_i i hi
      split at h
      · rename_i z hz
        simp only [Bool.and_eq_true, beq_iff_eq, decide_eq_true_eq] at h
        exact ⟨hu, i, z, hi, hz, h.1.1.1, h.1.1.2, h.1.2, h.2⟩
      · cases h
    · cases h
  · cases h

/-- a slice that is nil begins a row -/
theorem StOk.newRow {w : World} (h : StOk cx L F w) (t : TypeId) (sz : Nat) : StOk cx (.row (.slice none 0 0) t sz 0 [] :: L) F w := by
  refine ⟨h.chg, ?_, ?_, ?_, h.away, ?_⟩
  · intro x hx
    simp only [List.mem_cons] at hx
    rcases hx with rfl | hx
    · exact World.ownsRow_nil w 0 t sz
    · exact h.ok x hx
  · rw [fps_cons]; simpa [Ent.fp] using h.nodup
  · rw [fps_cons]; simpa [Ent.fp] using h.own
  · refine h.rob.mono ?_
    intro x hx
    rw [fps_cons] at hx
    simpa [Ent.fp] using hx
theorem o_newrow {l : List Oper} (t : TypeId) (sz : Nat) (h : O cx ops l k e (.row (.slice none 0 0) t sz 0 [] :: L) F Q) : O cx ops l k e L F Q := .mk fun a w he hs => h.run a w he (hs.newRow t sz)
theorem g_newrow {c : Code} (t : TypeId) (sz : Nat) (h : G cx c k e (.row (.slice none 0 0) t sz 0 [] :: L) F Q) : G cx c k e L F Q := .mk fun a w he hs => h.run a w he (hs.newRow t sz)
theorem g_newrowl {c : Code} (t : TypeId) (sz : Nat) (h : GL cx c k e (.row (.slice none 0 0) t sz 0 [] :: L) F Q) : GL cx c k e L F Q := .mk fun a w he hs => h.run a w he (hs.newRow t sz)

/-- what the appended slice holds, in any world of the state -/
def SrcOk (cx : Cx) (L : Loc) (F : World → Prop) (v : Value) (sz n : Nat) (xs : List Value) : Prop := ∀ w, StOk cx L F w → RdS v sz n xs w
theorem src_blk {b c n sz : Nat} {xs : List Value} {t : TypeId} (i : Nat) (hi : L[i]? = some (.blk b xs t)) (hl : xs.length = n * sz) (hc : Nat.ble n c = true := by rfl) : SrcOk cx L F (.slice (some ⟨b, 0, none⟩) n c) sz n xs := fun _ hs => RdS.of_blk (hs.ok _ (List.mem_of_getElem? hi)) hl (Nat.le_of_ble_eq_true hc)
theorem src_row {v : Value} {n sz : Nat} {xs : List Value} {t : TypeId} (i : Nat) (hi : L[i]? = some (.row v t sz n xs)) : SrcOk cx L F v sz n xs := fun _ hs => RdS.of_row (hs.ok _ (List.mem_of_getElem? hi))
theorem src_fact {v : Value} {n sz : Nat} {xs : List Value} (h : ∀ w, F w → RdS v sz n xs w) : SrcOk cx L F v sz n xs := fun w hs => h w hs.here
theorem one_oneCell {v : Value} (h : one v = true) : v.oneCell' = true := by cases v <;> first | rfl | cases h

/-- APPEND to a row of the call's own. -/
theorem o_append {dst : Nat} {s x : Operand} {t u ty : TypeId} {pos : String} {after : Array Edge} {g : Option (Nat × Bool)} {v sv : Value} {sz by_ n m : Nat} {xs ys : List Value} (i : Nat) (hg : Gd ops e g = some true) (hd : Nat.blt dst cx.n = true) (hT : ElTy cx.P t u sz by_)
    (hs : Env.ev e s = some v) (hx : Env.ev e x = some sv) (hi : L[i]? = some (.row v u sz n xs)) (hsrc : SrcOk cx L F sv sz m ys) (h1' : ys.all one = true) (hroom : (n + m) * by_ ≤ 140737488355328) (hlen : n + m ≤ 9223372036854775807)
    (h : ∀ v', O cx ops rest k ((dst, v') :: e) (L.set i (.row v' u sz (n + m) (xs ++ ys))) F Q) :
    O cx ops (⟨some dst, .call ⟨.builtin .append, #[s, x], #[t, t]⟩, ty, pos, after, g⟩ :: rest) k e L F Q := by
  refine o_run (fun r L' F' => ∃ v', r = v' ∧ L' = L.set i (.row v' u sz (n + m) (xs ++ ys)) ∧ F' = F) hg hd (fun a w he hst => ?_) (fun r L' F' ⟨v', hr, hL, hF⟩ => by rw [hr, hL, hF]; exact h v')
  have hown : w.ownsRow 0 u sz v n xs := hst.ok _ (List.mem_of_getElem? hi)
  have h1 : ∀ y, y ∈ ys → one y = true := List.all_eq_true.1 h1'
  obtain ⟨hyl, ad, c, rfl, hread⟩ := hsrc w hst
  obtain ⟨hu, i0, z, hi0, hz, hsz, hby, hzs, hpos⟩ := hT
  have hexec : ∀ (r : Value) (w' : World), (Builtin.append_ #[t, t] ty #[v, .slice ad m c]).run cx.P w = .ok r w' → (execOp a.eval ⟨some dst, .call ⟨.builtin .append, #[s, x], #[t, t]⟩, ty, pos, after, g⟩).run cx.P w = .ok (.value r) w' := by
    intro r w' hr
    simp only [execOp, resolve, invoke, builtin, Sem.run_bind, Sem.run_pure, Result.andThen_ok, List.map_toArray, List.map_cons, List.map_nil, he.ev hs, he.ev hx, hr]
  have hfin : ∀ (v' : Value) (w' : World), w'.ownsRow 0 u sz v' (n + m) (xs ++ ys) → w.grownBy w' v.ownBlock → (∀ g, v'.ownBlock = some g → v.ownBlock = some g ∨ w.heap.size ≤ g) → StOk cx (L.set i (.row v' u sz (n + m) (xs ++ ys))) F w' := by
    intro v' w' ho hgr hfp
    have hvb : ∀ (r : Value) (q : Nat), q ∈ (Ent.row r u sz n xs).fp ↔ r.ownBlock = some q := by
      intro r q
      cases r with
      | slice a l c => cases a <;> simp [Ent.fp, Value.ownBlock, eq_comm]
      | _ => simp [Ent.fp, Value.ownBlock]
    have hvb' : ∀ (r : Value) (q : Nat), q ∈ (Ent.row r u sz (n + m) (xs ++ ys)).fp ↔ r.ownBlock = some q := by
      intro r q
      cases r with
      | slice a l c => cases a <;> simp [Ent.fp, Value.ownBlock, eq_comm]
      | _ => simp [Ent.fp, Value.ownBlock]
    refine hst.updAt i hi (Chg.grown hgr fun q hq => (hvb v q).2 hq) ho ?_ fun q hq => ?_
    · cases v' with
      | slice a l c => cases a <;> simp [Ent.fp]
      | _ => simp [Ent.fp]
    · rcases hfp q ((hvb' v' q).1 hq) with h' | h'
      · exact .inl ((hvb v q).2 h')
      · exact .inr h'
  rcases hread with rfl | ⟨b, off, rfl, _, hcells⟩
  · have hy0 : ys = [] := List.eq_nil_of_length_eq_zero (by simpa using hyl)
    subst hy0
    have hr : (Builtin.append_ #[t, t] ty #[v, .slice ad 0 c]).run cx.P w = .ok v w := by
      rcases hown.2 with ⟨rfl, rfl⟩ | ⟨q, cap, cur, rfl, _, hq, hnc, _⟩
      · cases ad <;> simp [Builtin.append_, run_underlying hu, go_sem, sizeOf, typeInfo, hi0, Builtin.lenOf, Builtin.firstCells, loadCells, loadCellsFrom]
      · cases ad <;> simp [Builtin.append_, run_underlying hu, go_sem, sizeOf, typeInfo, hi0, Builtin.lenOf, Builtin.firstCells, loadCells, loadCellsFrom, hnc, storeCells]
    refine ⟨v, w, _, F, hexec v w hr, hfin v w (by simpa using hown) ⟨rfl, rfl, rfl, Nat.le_refl _, fun _ _ _ => rfl⟩ (fun g hg => .inl hg), v, rfl, rfl, rfl⟩
  · have hnews : ∀ j u', ys[j]? = some u' → w.cell? ((⟨b, off, none⟩ : Addr).add j) = some u' := fun j u' hj => by rw [add_mk]; exact hcells j u' hj
    obtain ⟨v', w', hr, ho, hgr, _⟩ := run_append_own (P := cx.P) w 0 t ty u i0 z sz by_ hu hi0 hz hsz hby hzs hpos v n xs hown ⟨b, off, none⟩ m c ys hyl hnews (fun y hy => one_oneCell (h1 y hy)) (by simp only [maxLen]; omega) hroom (Nat.zero_le _)
    refine ⟨v', w', _, F, hexec v' w' hr, hfin v' w' ho hgr ?_, v', rfl, rfl, rfl⟩
    intro g hg
    subst hsz
    subst hby
    rcases hown.2 with ⟨rfl, rfl⟩ | ⟨q, cap, cur, rfl, _, hq, hnc, _, hcs, _⟩
    · by_cases hm : m = 0
      · subst hm
        obtain ⟨v2, w2, hr2, ho2, _, _⟩ := run_append_own (P := cx.P) w w.heap.size t ty u i0 z i0.size i0.bytes hu hi0 hz rfl rfl hzs hpos (.slice none 0 0) 0 xs ⟨hown.1, .inl ⟨rfl, rfl⟩⟩ ⟨b, off, none⟩ 0 c ys hyl hnews (fun y hy => one_oneCell (h1 y hy)) (by simp only [maxLen]; omega) hroom (Nat.le_refl _)
        have := hr.symm.trans hr2
        simp only [Result.ok.injEq] at this
        obtain ⟨rfl, _⟩ := this
        exact .inr (ho2.lt g hg).1
      · have h3 := run_append_nil (P := cx.P) w t ty u i0 z hu hi0 hz ⟨b, off, none⟩ m c ys hyl hnews (by omega) (by omega) (by simp only [Nat.zero_add] at hroom; omega)
        have := hr.symm.trans h3
        simp only [Result.ok.injEq] at this
        obtain ⟨rfl, _⟩ := this
        simp only [Value.ownBlock, Option.some.injEq] at hg
        exact .inr (by omega)
    · by_cases hroom2 : n + m ≤ cap
      · have hfit : n * i0.size + ys.length ≤ cur.size := by rw [hyl, hcs, ← Nat.add_mul]; exact Nat.mul_le_mul_right _ hroom2
        have h3 := run_append_room (P := cx.P) w t ty u i0 hu hi0 q n cap cur hq ⟨b, off, none⟩ m c ys hyl hnews (fun y hy => one_oneCell (h1 y hy)) hroom2 hfit
        have := hr.symm.trans h3
        simp only [Result.ok.injEq] at this
        obtain ⟨rfl, _⟩ := this
        exact .inl hg
      · have holds : ∀ j u', xs[j]? = some u' → w.cell? ((⟨q, 0, none⟩ : Addr).add j) = some u' := hown.cells (g := q) rfl
        have h3 := run_append_grow (P := cx.P) w t ty u i0 z hu hi0 hz ⟨q, 0, none⟩ n cap xs hown.1 holds ⟨b, off, none⟩ m c ys hyl hnews (by omega) (by omega) (growslice_fits (by omega) hroom)
        have := hr.symm.trans h3
        simp only [Result.ok.injEq] at this
        obtain ⟨rfl, _⟩ := this
        simp only [Value.ownBlock, Option.some.injEq] at hg
        exact .inr (by omega)
end
end Go.Sx
