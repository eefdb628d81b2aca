/- ReckonCompares, joined. -/
import Derived.Test.YtlhebakbbfmiiaaDoorLCo
namespace Go.Proofs.YtlhebakbbfmiiaaDoor
open Go.Ax Go.ChangeShapes Go.WideShapes Go.ChangeAt Go.RowKit Go.ChangeMaps
theorem cond_and2 {α : Type} {p q : Prop} [Decidable p] [Decidable q] (h : ¬ (p ∧ q)) (x y : α) : cond (decide p) (cond (decide q) x y) y = y := by
  by_cases hp : p <;> by_cases hq : q <;> simp_all
theorem lCompares_true (a b : Val) (k : Int) (hk : 0 ≤ k ∧ k ≤ 255) : lCompares_body (a, b, k) = some true := by
  have ro : ∀ v : Val, rcheck v = vcheck v := fun _ => rfl
  unfold lCompares_body
  simp only [expr_eta, ro, known_true]
  by_cases h1 : vcheck a = 0
  · by_cases h2 : vcheck b = 0
    · by_cases h3 : a.kind = 3 ∧ a.n < 0
      · simp [h1, h2, h3.1, h3.2]
      · by_cases h4 : b.kind = 3 ∧ b.n < 0
        · by_cases h5 : a.kind = 3 <;> by_cases h6 : a.n < 0 <;> simp [h1, h2, h4.1, h4.2, h5, h6]
        · have ha : ok1 a := ⟨h1, h3⟩
          have hb : ok1 b := ⟨h2, h4⟩
          have q6 := holds_two ha hb (k := 6) (by omega)
          have q8 := holds_two ha hb (k := 8) (by omega)
          have q10 := holds_two ha hb (k := 10) (by omega)
          have e6 := evalX_two ha hb (tmod6 k hk)
          simp only [h1, h2, decide_true, Bool.not_true, cond_f, cond_and2 h3, cond_and2 h4]
          simp only [q6, q8, q10, e6]
          by_cases n1 : a.kind = 1
          · by_cases n2 : b.kind = 1 <;> simp [n1, n2]
          · by_cases n2 : b.kind = 1
            · simp [n1, n2]
            · by_cases n3 : a.kind = b.kind
              · have n3' : ¬ b.kind = 1 := n2
                have w1 : wr .i64 1 = 1 := rfl
                rcases tmod3 k hk with t | t | t
                · have v := evalX_two ha hb (k := 7) (by omega)
                  have w := evalX_not ha hb (k := 6) (by omega) n1 n2 n3
                  rw [if_neg (by simp [n1, n2]), if_pos n3] at v
                  have i3 : inb 0 3 = true := rfl
                  have a7 : at' .int [7, 11, 9] 0 = 7 := rfl
                  have a6 : at' .int [6, 8, 10] 0 = 6 := rfl
                  simp only [t, i3, chk, cond_t, a7, a6, v, w]
                  rcases vcmp_range a b with c | c | c <;> simp [c, n2, n3, stands, w1, truth]
                · have v := evalX_two ha hb (k := 11) (by omega)
                  have w := evalX_not ha hb (k := 8) (by omega) n1 n2 n3
                  rw [if_neg (by simp [n1, n2]), if_pos n3] at v
                  have i3 : inb 1 3 = true := rfl
                  have a7 : at' .int [7, 11, 9] 1 = 11 := rfl
                  have a6 : at' .int [6, 8, 10] 1 = 8 := rfl
                  simp only [t, i3, chk, cond_t, a7, a6, v, w]
                  rcases vcmp_range a b with c | c | c <;> simp [c, n2, n3, stands, w1, truth]
                · have v := evalX_two ha hb (k := 9) (by omega)
                  have w := evalX_not ha hb (k := 10) (by omega) n1 n2 n3
                  rw [if_neg (by simp [n1, n2]), if_pos n3] at v
                  have i3 : inb 2 3 = true := rfl
                  have a7 : at' .int [7, 11, 9] 2 = 9 := rfl
                  have a6 : at' .int [6, 8, 10] 2 = 10 := rfl
                  simp only [t, i3, chk, cond_t, a7, a6, v, w]
                  rcases vcmp_range a b with c | c | c <;> simp [c, n2, n3, stands, w1, truth]
              · simp [n1, n2, n3]
    · simp [h1, h2]
  · simp [h1]
theorem u8_in {k : Int} (h : inK .u8 k) : 0 ≤ k ∧ k ≤ 255 := by
  simp only [inK, IntKind.min, IntKind.max] at h
  exact ⟨h.1, h.2⟩
set_option maxRecDepth 100000 in
theorem reckonCompares_contract (H : Type) (enc : TypeId × Value → H) (W : World) (base : Nat) (args : Array Value) (ds gs : List (DataW H)) (before : List MemPlace)
    (hval : ∀ (j : Nat) t v, Tryd.f6.params[j]? = some t → args[j]? = some v → Value.okWide Tryd.prog W .any base t v)
    (hW : DataW.Whole enc Tryd.prog Tryd.f6.params.toList Rows.reckonComparesSpec.vars false W args.toList ds gs before) (hL : laidMetH Tryd.prog Rows.reckonComparesRow.laid W) :
    Calls Tryd.prog 6 args W fun e W' => ∃ v, e = .returned v ∧ Rows.reckonComparesSpec.post enc Tryd.prog Tryd.f6 false true false false W args v W' :=
  law_frame (fn := Tryd.f6) lCompares_run (fun x h => lCompares_true x.1 x.2.1 x.2.2 (u8_in h.2.2)) (by kernel_rfl) rfl (fun ds h => match ds, h with | [_, _, _], _ => ⟨rfl, rfl, rfl⟩) (by kernel_rfl) (by kernel_rfl) hval hW (laid_glR hL)
theorem reckonCompares_laid_met (os : Os) (args : Array Value) : laidMet Tryd.prog Rows.reckonComparesRow.laid ((laidWorld os).forCall (fun _ _ => 0) ⟨#[], args, []⟩).memory :=
  laidMet_of_run' 8 (by kernel_rfl) (by kernel_rfl)
theorem reckonCompares_reads (os : Os) {H : Type} (enc : TypeId × Value → H) : ∃ places, DataW.whole enc Tryd.prog ((laidWorld os).forCall (fun _ _ => 0) ⟨#[], #[.agg #[.int .i64 0, .int .i64 0, .string ⟨#[]⟩], .agg #[.int .i64 0, .int .i64 0, .string ⟨#[]⟩], .int .u8 0], []⟩).memory Tryd.f6.params.toList Rows.reckonComparesSpec.vars false (#[.agg #[.int .i64 0, .int .i64 0, .string ⟨#[]⟩], .agg #[.int .i64 0, .int .i64 0, .string ⟨#[]⟩], .int .u8 0] : Array Value).toList 8 = some ([.agg [.lit (.int .i64 0), .lit (.int .i64 0), .lit (.string [])], .agg [.lit (.int .i64 0), .lit (.int .i64 0), .lit (.string [])], .lit (.int .u8 0)], [], places) :=
  ⟨[], by kernel_rfl⟩
set_option maxRecDepth 100000 in
theorem reckonCompares_lifted (os : Os) (started : os.Started) (H : Type) (enc : TypeId × Value → H) (F : Stop.Interp) :
    ReturnsInHanded {} Tryd.checked os 6 .any ((OpenSpec.ofChange Rows.reckonComparesSpec).preRow enc Tryd.prog Tryd.f6 Rows.reckonComparesRow.domain false Rows.reckonComparesRow.laid) (((OpenSpec.ofChange Rows.reckonComparesSpec).at F).post enc Tryd.prog Tryd.f6 false true false false) := by
  obtain ⟨places, hx⟩ := reckonCompares_reads os enc
  refine returnsInHanded_of_row (C := Tryd.checked) (s := OpenSpec.ofChange Rows.reckonComparesSpec) own started (by kernel_rfl) Tryd.func6
    (witness_row_at (enc := enc) (C := Tryd.checked) false (laidWorld os) #[.agg #[.int .i64 0, .int .i64 0, .string ⟨#[]⟩], .agg #[.int .i64 0, .int .i64 0, .string ⟨#[]⟩], .int .u8 0] rfl (by kernel_rfl) (by kernel_rfl) (by kernel_rfl)
      (OpenSpec.preRow_of_cond 8 hx (by kernel_rfl) (fun k hk => by cases hk) (by kernel_rfl) (reckonCompares_laid_met os _))) ?_
  intro W base args ds gs before hval hW _ _ _ hL _ _
  exact reckonCompares_contract H enc W base args ds gs before hval hW hL
theorem reckonCompares_said : Rows.ReckonComparesSaid :=
  OpenClaim.holds_of_cond 6 Tryd.f6 rfl rfl rfl rfl rfl rfl rfl ⟨rfl, rfl, rfl, rfl, rfl⟩ rfl rfl rfl rfl rfl (by kernel_rfl) Tryd.func6 (by kernel_rfl)
    (of_decide_eq_true (by kernel_rfl)) (by unfold Func.isWrapper; first | (rw [if_pos (by decide +kernel)]; kernel_rfl) | (rw [if_neg (by decide +kernel)]; exact ⟨rfl, rfl⟩))
    (fun os started H enc _ F => by rw [OpenClaim.pre_eq_preRow]; exact reckonCompares_lifted os started H enc F)
theorem reckonCompares_plain (f : FuncId) (fn : Func) (hf : Tryd.pinned.checked.prog.funcNamed "exchequer/exchequerlaw15.ReckonCompares" = some f) (hfn : Tryd.pinned.checked.prog.funcs[f]? = some fn) :
    false = Tryd.pinned.checked.prog.looks [] ∧ ∀ (j : Nat) t, fn.params[j]? = some t → Tryd.pinned.checked.prog.wantsStandIn t = false := by
  obtain rfl : f = 6 := Option.some.inj ((show Tryd.prog.funcNamed "exchequer/exchequerlaw15.ReckonCompares" = some 6 by kernel_rfl).symm.trans hf) |>.symm
  obtain rfl : fn = Tryd.f6 := (Option.some.inj (Tryd.func6.symm.trans hfn)).symm
  refine ⟨by kernel_rfl, fun j t ht => ?_⟩
  have hall : (Tryd.f6.params.all fun t => !Tryd.prog.wantsStandIn t) = true := by kernel_rfl
  have := Array.all_eq_true_iff_forall_mem.1 hall t (Array.mem_of_getElem? ht)
  have h2 : Tryd.prog.wantsStandIn t = false := by simpa using this
  exact h2
/-- THE CARD -/
theorem reckonCompares_card : Rows.ReckonComparesCardSaid :=
  Claim7.holds_tied_plain_at .later [] _ _ _ _ reckonCompares_said (fun _ h => by cases h) (by kernel_rfl) (fun _ h => by cases h) reckonCompares_row_tie rfl ⟨rfl, rfl⟩ (by kernel_rfl) rfl reckonCompares_plain (by kernel_rfl)
#print axioms reckonCompares_card
end Go.Proofs.YtlhebakbbfmiiaaDoor
