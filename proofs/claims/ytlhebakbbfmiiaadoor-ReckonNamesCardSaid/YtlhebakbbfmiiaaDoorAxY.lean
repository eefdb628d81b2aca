/- Ax, part Y: tables: types, calls, loops; the whole of a function's proof. -/
import Derived.Test.YtlhebakbbfmiiaaDoorAxX
namespace Go.Ax
open Go.RowKit
def tbl {α : Type _} : List (Nat × α) → Nat → Option α
  | [], _ => none
  | (k, v) :: e, n => match Nat.beq k n with
    | true => some v
    | false => tbl e n
theorem tbl_mem {α : Type _} : ∀ {l : List (Nat × α)} {n : Nat} {v : α}, tbl l n = some v → (n, v) ∈ l
  | [], n, v, h => by simp [tbl] at h
  | (k, u) :: l, n, v, h => by
    simp only [tbl] at h
    split at h
    · rename_i hk
      obtain rfl := Nat.eq_of_beq_eq_true hk
      simp only [Option.some.injEq] at h
      subst h
      simp
    · exact List.mem_cons_of_mem _ (tbl_mem h)
def ttOf (l : List (Nat × Ty)) (t : Nat) : Ty := match tbl l t with
  | some ty => ty
  | none => .no
theorem tt_ok {P : Program} {el : Ck → TypeId} {l : List (Nat × Ty)} (h : (l.all fun p => tyOk P el (ttOf l) p.1) = true) (t : Nat) : tyOk P el (ttOf l) t = true := by
  cases ht : tbl l t with
  | none => unfold tyOk; simp only [ttOf, ht]
  | some ty => exact List.all_eq_true.1 h _ (tbl_mem ht)
abbrev CallF (R : Type) := List D → St → (List D → St → Option R) → Option R
abbrev CallQF (R : Type) := List D → (List D → Option R) → Option R
def callT {R : Type} (l : List (Nat × CallF R)) (g : Nat) : CallF R := match tbl l g with
  | some f => f
  | none => fun _ _ _ => none
def callQT {R : Type} (l : List (Nat × CallQF R)) (g : Nat) : CallQF R := match tbl l g with
  | some f => f
  | none => fun _ _ => none
section
variable {R : Type} {cx : Cx}
def CFOk (cx : Cx) (g : Nat) (f : CallF R) : Prop := ∀ args st K r, f args st K = some r → CallOk1 cx g args st K r
def CQFOk (cx : Cx) (g : Nat) (f : CallQF R) : Prop := ∀ (args : List D) (K : List D → Option R) (r : R), f args K = some r → ∃ rs, K rs = some r ∧ Sx.Enters cx.P g ∧ ∀ (s : FS) (m : Mp) (a : Act) (as : List Act) (w : World) (vs : List Value), Rel cx m a as s w → Reps (vx cx m s w) args vs → Calls cx.P g vs.toArray w fun en w' => ∃ v, en = .returned v ∧ Rel cx m a as s w' ∧ Rep (vx cx m s w') (pack (rs.map strip)) v
theorem callT_ok {px : Px R} {l : List (Nat × CallF R)} (hpx : px.call = callT l) (h : ∀ g f, (g, f) ∈ l → CFOk cx g f) : CallOk cx px := by
  intro g args st K r hk
  rw [hpx] at hk
  unfold callT at hk
  cases hf : tbl l g with
  | none => rw [hf] at hk; cases hk
  | some f => rw [hf] at hk; exact h g f (tbl_mem hf) args st K r hk
theorem callQT_ok {px : Px R} {l : List (Nat × CallQF R)} (hpx : px.callQ = callQT l) (h : ∀ g f, (g, f) ∈ l → CQFOk cx g f) : CallQOk cx px := by
  intro g args K r hk
  rw [hpx] at hk
  unfold callQT at hk
  cases hf : tbl l g with
  | none => rw [hf] at hk; cases hk
  | some f => rw [hf] at hk; exact h g f (tbl_mem hf) args K r hk
theorem cf_or {g : Nat} {sa sr : List Sg} {F : HV sa → Option (HV sr)} (h : FnOk cx.P cx.el cx.gl g sa sr F) (hsa : sameNs (owns 0 sa) [] = true) : CFOk (R := R) cx g (callOr sa sr F) := fun _ _ _ _ hc => callOr_ok h hsa hc
theorem cqf_or {g : Nat} {sa sr : List Sg} {F : HV sa → Option (HV sr)} (h : FnOk cx.P cx.el cx.gl g sa sr F) (hsa : sameNs (owns 0 sa) [] = true) : CQFOk (R := R) cx g (callOrQ sa sr F) := fun _ _ _ hc => callOrQ_ok h hsa hc
theorem cfs_nil : ∀ g f, (g, f) ∈ ([] : List (Nat × CallF R)) → CFOk cx g f := fun _ _ h => by cases h
theorem cfs_cons {g : Nat} {f : CallF R} {l : List (Nat × CallF R)} (h : CFOk cx g f) (hl : ∀ g f, (g, f) ∈ l → CFOk cx g f) : ∀ g' f', (g', f') ∈ (g, f) :: l → CFOk cx g' f' := by
  intro g' f' hm
  simp only [List.mem_cons, Prod.mk.injEq] at hm
  rcases hm with ⟨rfl, rfl⟩ | hm
  · exact h
  · exact hl g' f' hm
theorem cqfs_nil : ∀ g f, (g, f) ∈ ([] : List (Nat × CallQF R)) → CQFOk cx g f := fun _ _ h => by cases h
theorem cqfs_cons {g : Nat} {f : CallQF R} {l : List (Nat × CallQF R)} (h : CQFOk cx g f) (hl : ∀ g f, (g, f) ∈ l → CQFOk cx g f) : ∀ g' f', (g', f') ∈ (g, f) :: l → CQFOk cx g' f' := by
  intro g' f' hm
  simp only [List.mem_cons, Prod.mk.injEq] at hm
  rcases hm with ⟨rfl, rfl⟩ | hm
  · exact h
  · exact hl g' f' hm
end
/-- from a contract to the call from outside -/
theorem FnOk.calls {P : Program} {el : Ck → TypeId} {gl : Nat → Option Gv} {f : FuncId} {sa : List Sg} {F : HV sa → Option Bool} (h : FnOk P el gl f sa [.bool] F) {x : HV sa} {r : Bool} (hF : F x = some r) {w : World} {vs : List Value} (hgl : GlR (v0 el noFp w) gl) (hr : Reps (v0 el noFp w) (encL 0 sa x) vs) : Calls P f vs.toArray w fun en w' => en = .returned (.bool r) ∧ Below w.heap.size w w' := by
  refine (h.run x r hF w noFp vs (fun _ _ h => h.elim) hgl hr).mono ?_
  rintro en w' ⟨v, m, rfl, hch, _, _, hrep⟩
  have : v = .bool r := by simpa [pack, encL, enc1, Rep] using hrep
  subst this
  exact ⟨rfl, hch.below⟩
end Go.Ax
