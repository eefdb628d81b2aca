/- LexParts: for every text and every number the law answers true; on the condition of the row alone: that lex.words holds what the program's text lays. -/
import Derived.Test.YtjkgindlbecfnaaDoorLwC
import Derived.Test.YtjkgindlbecfnaaDoorFrA
namespace Go.Proofs.YtjkgindlbecfnaaDoor
open Go.Sx Go.ChangeShapes Go.WideShapes Go.ChangeAt Go.RowKit Go.ChangeMaps
theorem lexParts_contract (H : Type) (enc : TypeId × Value → H) (W : World) (base : Nat) (args : Array Value) (ds gs : List (DataW H)) (before : List MemPlace)
    (hval : ∀ (j : Nat) t v, Tryd.f5.params[j]? = some t → args[j]? = some v → Value.okWide Tryd.prog W .any base t v)
    (hW : DataW.Whole enc Tryd.prog Tryd.f5.params.toList Rows.lexPartsSpec.vars false W args.toList ds gs before) (hL : laidMetH Tryd.prog Rows.lexPartsRow.laid W) :
    Calls Tryd.prog 5 args W fun e W' => ∃ v, e = .returned v ∧ Rows.lexPartsSpec.post enc Tryd.prog Tryd.f5 false true false false W args v W' := by
  have hW' := hW
  obtain ⟨p, q, hA0, hV, rfl, hfz, hnd⟩ := hW
  have hA : DataW.TrodAll enc Tryd.prog W 0 (fun _ => true) true Tryd.f5.params.toList args.toList ds p := hA0
  rw [Tryd.params5] at hA hval
  obtain ⟨v0, vs0, d0, ds0, p0, q0, hargs, rfl, rfl, h0, r0⟩ := trodAll_cons hA
  obtain ⟨v2, vs2, d2, ds2, p2, q2, rfl, rfl, rfl, h2, r2⟩ := trodAll_cons r0
  obtain ⟨rfl, rfl, rfl⟩ := trodAll_nil r2
  obtain rfl : args = #[v0, v2] := by cases args; simp_all
  obtain ⟨rfl, rfl⟩ := trodVars_none hV
  obtain ⟨s, rfl, rfl, rfl, hs⟩ := open_string Tryd.underlying9 (hval 0 9 v0 rfl rfl) h0
  obtain ⟨n, rfl, rfl, rfl, hn⟩ := open_int Tryd.underlying3 (hval 1 3 v2 rfl rfl) h2
  clear hA0
  simp only [List.append_nil] at hW'
  have hw := words_of_laid hL
  have walk := (lexParts_con s.data.toList n).calls W (fun w' hb => rds_below hw hb)
  have e1 : [S s.data.toList, .int .i64 n].toArray = #[Value.string s, .int .i64 n] := by simp [S]
  rw [e1] at walk
  refine walk.mono fun e W' => ?_
  rintro ⟨v, L', F', rfl, ⟨rfl, _, _⟩, _, hb⟩
  exact ⟨_, rfl, post_true (by kernel_rfl) rfl (fun gs hg => by subst hg; exact ⟨rfl, rfl, rfl⟩) hW' (trodAll_cons_mk (shut_string Tryd.underlying9 hs) (trodAll_cons_mk (shut_int Tryd.underlying3 hn) trodAll_mk0)) hb⟩
theorem lexParts_laid_met (os : Os) (args : Array Value) : laidMet Tryd.prog Rows.lexPartsRow.laid ((laidWorld os).forCall (fun _ _ => 0) ⟨#[], args, []⟩).memory :=
  laidMet_of_run' 8 (by kernel_rfl) (by kernel_rfl)
theorem lexParts_reads (os : Os) {H : Type} (enc : TypeId × Value → H) : ∃ places, DataW.whole enc Tryd.prog ((laidWorld os).forCall (fun _ _ => 0) ⟨#[], #[S [], .int .i64 0], []⟩).memory Tryd.f5.params.toList Rows.lexPartsSpec.vars false (#[S [], .int .i64 0] : Array Value).toList 8 = some ([.lit (.string []), .lit (.int .i64 0)], [], places) :=
  ⟨[], by kernel_rfl⟩
set_option maxRecDepth 100000 in
theorem lexParts_lifted (os : Os) (started : os.Started) (H : Type) (enc : TypeId × Value → H) (F : Stop.Interp) :
    ReturnsInHanded {} Tryd.checked os 5 .any ((OpenSpec.ofChange Rows.lexPartsSpec).preRow enc Tryd.prog Tryd.f5 Rows.lexPartsRow.domain false Rows.lexPartsRow.laid) (((OpenSpec.ofChange Rows.lexPartsSpec).at F).post enc Tryd.prog Tryd.f5 false true false false) := by
  obtain ⟨places, hx⟩ := lexParts_reads os enc
  refine returnsInHanded_of_row (C := Tryd.checked) (s := OpenSpec.ofChange Rows.lexPartsSpec) own started (by kernel_rfl) Tryd.func5
    (witness_row_at (enc := enc) (C := Tryd.checked) false (laidWorld os) #[S [], .int .i64 0] rfl (by kernel_rfl) (by kernel_rfl) (by kernel_rfl)
      (OpenSpec.preRow_of_cond 8 hx (by kernel_rfl) (fun k hk => by cases hk) (by kernel_rfl) (lexParts_laid_met os _))) ?_
  intro W base args ds gs before hval hW _ _ _ hL _ _
  exact lexParts_contract H enc W base args ds gs before hval hW hL
theorem lexParts_said : Rows.LexPartsSaid :=
  OpenClaim.holds_of_cond 5 Tryd.f5 rfl rfl rfl rfl rfl rfl rfl ⟨rfl, rfl, rfl, rfl, rfl⟩ rfl rfl rfl rfl rfl (by kernel_rfl) Tryd.func5 (by kernel_rfl)
    (of_decide_eq_true (by kernel_rfl)) (by unfold Func.isWrapper; first | (rw [if_pos (by decide +kernel)]; kernel_rfl) | (rw [if_neg (by decide +kernel)]; exact ⟨rfl, rfl⟩))
    (fun os started H enc _ F => by rw [OpenClaim.pre_eq_preRow]; exact lexParts_lifted os started H enc F)
theorem lexParts_plain (f : FuncId) (fn : Func) (hf : Tryd.pinned.checked.prog.funcNamed "exchequer/exchequerlaw12.LexParts" = some f) (hfn : Tryd.pinned.checked.prog.funcs[f]? = some fn) :
    false = Tryd.pinned.checked.prog.looks [] ∧ ∀ (j : Nat) t, fn.params[j]? = some t → Tryd.pinned.checked.prog.wantsStandIn t = false := by
  obtain rfl : f = 5 := Option.some.inj ((show Tryd.prog.funcNamed "exchequer/exchequerlaw12.LexParts" = some 5 by kernel_rfl).symm.trans hf) |>.symm
  obtain rfl : fn = Tryd.f5 := (Option.some.inj (Tryd.func5.symm.trans hfn)).symm
  refine ⟨by kernel_rfl, fun j t ht => ?_⟩
  have hall : (Tryd.f5.params.all fun t => !Tryd.prog.wantsStandIn t) = true := by kernel_rfl
  have := Array.all_eq_true_iff_forall_mem.1 hall t (Array.mem_of_getElem? ht)
  have h2 : Tryd.prog.wantsStandIn t = false := by simpa using this
  exact h2
/-- THE CARD -/
theorem lexParts_card : Rows.LexPartsCardSaid :=
  Claim7.holds_tied_plain_at .later [] _ _ _ _ lexParts_said (fun _ h => by cases h) (by kernel_rfl) (fun _ h => by cases h) lexParts_row_tie rfl ⟨rfl, rfl⟩ (by kernel_rfl) rfl lexParts_plain (by kernel_rfl)
#print axioms lexParts_card
end Go.Proofs.YtjkgindlbecfnaaDoor
