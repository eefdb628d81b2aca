/- The frame of the laws of this seat: what the rows' list gives (the map of signs), a world for the witness, what is left behind the call. -/
import Derived.Test.YtlhebakbbfmiiaaDoorTt
import Derived.Test.YtlhebakbbfmiiaaDoorAxFs
import Derived.Test.YtlhebakbbfmiiaaDoorCards
import Derived.Test.YtlhebakbbfmiiaaDoorTie
import Derived.WalkKit
import Derived.OpenShut
import Derived.Deep.DeepHandedRow
namespace Go.Proofs.YtlhebakbbfmiiaaDoor
open Go.Ax Go.ChangeShapes Go.WideShapes Go.ChangeAt Go.RowKit Go.ChangeMaps
theorem own : ownKnob Tryd.prog.godebug = none := by kernel_rfl
def rdL : List Nat := [3, 4, 9, 5, 23, 26, 54, 28, 24, 27]
theorem rdL_ok : rdB elT (ttOf ttL) rdL = true := by kernel_rfl
theorem laidOut : laidOutB Tryd.prog = true := by kernel_rfl
def signsDatum : DataW Unit := .map (signsL.map fun p => (.int .i64 p.1, .lit (.string p.2)))
theorem mget_in : ∀ p, p ∈ signsL → mget signsL p.1 = p.2 := by decide
theorem mget_no (l : List (Int × Str)) : ∀ n, (∀ p, p ∈ l → p.1 ≠ n) → mget l n = [] := by
  induction l with
  | nil => intro n _; rfl
  | cons p l ih =>
    intro n h
    obtain ⟨k, s⟩ := p
    have h1 : k ≠ n := h (k, s) (by simp)
    simp only [mget, decide_eq_false h1]
    exact ih n fun p hp => h p (by simp [hp])
theorem laid_glR {W : World} (h : laidMetH Tryd.prog [("exchequer/ast.signs", Rows.laid_exchequer_ast_signs)] W) : GlR (v0 elT noFp W) glT := by
  obtain ⟨ps, ⟨g', t', cs, fuel, p, q, hg', ht', hvar, hd, _, _⟩, _⟩ := (show laidMet Tryd.prog [("exchequer/ast.signs", Rows.laid_exchequer_ast_signs)] W from h)
  obtain rfl := Option.some.inj ((show Tryd.prog.globalNamed "exchequer/ast.signs" = some 0 by kernel_rfl).symm.trans hg')
  obtain rfl := Option.some.inj ((show (Tryd.prog.globals[0]?).map (·.type) = some 82 by kernel_rfl).symm.trans ht')
  obtain ⟨b, es, clk, h1, h2, h3⟩ := map_of_trod (l := signsL) (t := 82) (k := 3) (e := 9) (by kernel_rfl) (by kernel_rfl) (by kernel_rfl) mget_in (mget_no signsL) hd
  have hc := World.var?_cell hg' hvar 0
  have h1' : cs = #[.map (some b)] := by
    apply Array.ext'
    exact h1
  rw [h1'] at hc
  exact glR_map hc h2 h3
/-- a world in which the signs lie -/
noncomputable def laidHeap (w : World) : Array Obj :=
  w.heap.modify 0 fun
    | .cells _ t frozen => .cells #[.map (some w.heap.size)] t frozen
    | o => o
def signsEntries : List MapEntry := (signsL.zip (List.range 11)).map fun p => ⟨.int .i64 p.1.1, .string ⟨p.1.2.toArray⟩, p.2⟩
noncomputable def laidWorld (os : Os) : World :=
  { World.holding Tryd.prog os ⟨#[], #[], []⟩ with heap := (laidHeap (World.holding Tryd.prog os ⟨#[], #[], []⟩)).push (.map signsEntries.toArray 11) }
theorem law_frame {H : Type} {enc : TypeId × Value → H} {f : FuncId} {fn : Func} {sa : List Sg} {F : FT sa [.bool]} {s : ChangeSpec} (hok : FnOk Tryd.prog elT glT f sa [.bool] F) (hF : ∀ x, BdL sa x → F x = some true)
    (hr : fn.resultTypes = #[4]) (hv : s.vars = []) (hf : ∀ ds, ds.length = fn.params.toList.length → (s.fn H ds).results = [.lit (.bool true)] ∧ (s.fn H ds).args = ds ∧ (s.fn H ds).vars = [])
    (hsg : sgsOk (ttOf ttL) rdL fn.params.toList sa = true) (hread : (fn.params.toList.all fun t => Tryd.prog.readableRec t && Nat.blt t Tryd.prog.types.size) = true)
    {W : World} {base : Nat} {args : Array Value} {ds gs : List (DataW H)} {before : List MemPlace} (hval : ∀ (j : Nat) t v, fn.params[j]? = some t → args[j]? = some v → Value.okWide Tryd.prog W .any base t v)
    (hW : DataW.Whole enc Tryd.prog fn.params.toList s.vars false W args.toList ds gs before) (hgl : GlR (v0 elT noFp W) glT) :
    Calls Tryd.prog f args W fun e W' => ∃ v, e = .returned v ∧ s.post enc Tryd.prog fn false true false false W args v W' := by
  have hW' := hW
  have hlt := hW.lt
  obtain ⟨p, q, hA, hV, rfl, hfz, hnd⟩ := hW
  rw [hv] at hV
  obtain ⟨rfl, rfl⟩ := trodVars_none hV
  obtain ⟨x, hx⟩ := args_rep (fun t => tt_ok ttL_ok t) rdL_ok 0 hsg (fun j t v h1 h2 => hval j t v (by simpa using h1) (by simpa using h2)) hA
  have hcall := hok.calls (hF x (reps_bd hx)) hgl hx
  have e1 : args.toList.toArray = args := by simp
  rw [e1] at hcall
  refine hcall.mono fun en W' => ?_
  rintro ⟨rfl, hb⟩
  refine ⟨_, rfl, ?_⟩
  have hlen : ds.length = fn.params.toList.length := by
    have : ∀ {ts : List TypeId} {vs : List Value} {ds : List (DataW H)} {ps : List MemPlace}, DataW.TrodAll enc Tryd.prog W 0 (fun _ => true) true ts vs ds ps → ds.length = ts.length := by
      intro ts
      induction ts with
      | nil => intro vs ds ps h; cases vs <;> cases ds <;> simp [DataW.TrodAll] at h ⊢
      | cons t ts ih =>
        intro vs ds ps h
        obtain ⟨v, vs', d, ds', p, q, rfl, rfl, rfl, hd, hrest⟩ := trodAll_cons h
        simp [ih hrest]
    exact this hA
  obtain ⟨h1, h2, h3⟩ := hf ds hlen
  have e2 : ds ++ ([] : List (DataW H)) = ds := by simp
  refine ⟨ds, [], _, [], p, [], hW', ?_, ?_, ?_, hb.frame _, fun h => by cases h⟩
  · rw [e2, h1, hr]
    exact trodAll_cons_mk (shut_bool Tryd.underlying4 _) trodAll_mk0
  · rw [e2, h2]
    refine args_stay laidOut hb (fun t ht => ?_) (fun x hx => hlt x (by simp [hx])) hA
    have := List.all_eq_true.1 hread t ht
    simp only [Bool.and_eq_true] at this
    exact ⟨this.1, by simpa [Nat.blt_eq] using this.2⟩
  · rw [e2, h3, hv]; exact rfl
end Go.Proofs.YtlhebakbbfmiiaaDoor
