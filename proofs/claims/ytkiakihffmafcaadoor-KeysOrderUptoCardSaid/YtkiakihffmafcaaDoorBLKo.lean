/- KeysOrder: two rows of as many values stand as their bytes do; and neither's bytes begin with the other's, unless they are the same; where the arguments are of bulk at most 1048576; on the condition of the row alone: that the tables of unicode/utf8 hold what the program's text lays. -/
import Derived.Test.YtkiakihffmafcaaDoorB6
namespace Go.Proofs.YtkiakihffmafcaaDoor
open Go.Ax Go.ChangeShapes Go.WideShapes Go.ChangeAt Go.RowKit Go.ChangeMaps
/-! ## exchequer/exchequerlaw04.KeysOrder -/
def lOrder_px (R : Type) : Px R := ⟨ttOf ttL, glT, callT [(9, callOr [.sl .val false] [.bool] long_F), (10, callOr [] [.bool] known_F), (11, callOr [.sl .val false] [.sl .byte true, .int .i64] kenc_F), (18, callOr [.sl .byte false, .sl .byte false] [.int .i64] rcmp4_F), (19, callOr [.sl .byte false, .sl .byte false] [.bool] kbeg_F)], callQT [(16, callOrQ [.sl .val false, .sl .val false] [.int .i64] rrows_F)], loopT []⟩
def lOrder_body (x : HV [.sl .val false, .sl .val false]) : Option (HV [.bool]) := match x with
 | (a, b) =>
  (long a).bind fun x =>
   cond (x) (
    some known) (
    (long b).bind fun x1 =>
     cond (x1) (
      some known) (
      chk (upto 0 (min2 (a.length : Int) (b.length : Int)) a.length) (
       (kenc (a.take ((min2 (a.length : Int) (b.length : Int)) : Int).toNat)).bind fun (x2, x3) =>
        chk (upto 0 (min2 (a.length : Int) (b.length : Int)) b.length) (
         (kenc (b.take ((min2 (a.length : Int) (b.length : Int)) : Int).toNat)).bind fun (x4, x5) =>
          cond (!decide (x3 = 0)) (
           some known) (
           cond (!decide (x5 = 0)) (
            some known) (
            chk (upto 0 (min2 (a.length : Int) (b.length : Int)) a.length) (
             chk (upto 0 (min2 (a.length : Int) (b.length : Int)) b.length) (
              cond (!decide ((rcmp4 x2 x4) = (rrows (a.take ((min2 (a.length : Int) (b.length : Int)) : Int).toNat) (b.take ((min2 (a.length : Int) (b.length : Int)) : Int).toNat)))) (
               some false) (
               cond (decide ((rrows (a.take ((min2 (a.length : Int) (b.length : Int)) : Int).toNat) (b.take ((min2 (a.length : Int) (b.length : Int)) : Int).toNat)) = 0)) (
                some known) (
                cond (!(kbeg x2 x4)) (
                 cond (!(kbeg x4 x2)) (
                  some known) (
                  some false)) (
                 some false)))))))))))
theorem lOrder_eq : ∀ (x : HV [.sl .val false, .sl .val false]), runF (lOrder_px _) Tryd.f6 [.sl .val false, .sl .val false] [.bool] x some = lOrder_body x
  | (a, b) => by kernel_rfl
theorem lOrder_run : FnOk Tryd.prog elT glT 6 [.sl .val false, .sl .val false] [.bool] (lOrder_body) := by
  refine fnOk_run Tryd.func6 rfl (by kernel_rfl) follows (by kernel_rfl) (n := 0) (by kernel_rfl) (px := lOrder_px _) (fun cx hP hel hgl => ?_) (lOrder_eq)
  have hp0 : PxOk cx (lOrder_px (HV [.bool])) := ⟨fun t => by rw [hP, hel]; exact tt_ok ttL_ok t, by rw [hgl]; rfl⟩
  have hc0 : CallOk cx (lOrder_px (HV [.bool])) := callT_ok rfl (cfs_cons (cf_or (by rw [hP, hel, hgl]; exact long_ok) (by kernel_rfl)) (cfs_cons (cf_or (by rw [hP, hel, hgl]; exact known_ok) (by kernel_rfl)) (cfs_cons (cf_or (by rw [hP, hel, hgl]; exact kenc_ok) (by kernel_rfl)) (cfs_cons (cf_or (by rw [hP, hel, hgl]; exact rcmp4_ok) (by kernel_rfl)) (cfs_cons (cf_or (by rw [hP, hel, hgl]; exact kbeg_ok) (by kernel_rfl)) cfs_nil)))))
  have hq0 : CallQOk cx (lOrder_px (HV [.bool])) := callQT_ok rfl (cqfs_cons (cqf_or (by rw [hP, hel, hgl]; exact rrows_ok) (by kernel_rfl)) cqfs_nil)
  exact ⟨hp0, hc0, hq0, all0⟩
theorem min2_nat (n m : Nat) : min2 (n : Int) (m : Int) = ((min n m : Nat) : Int) := by
  simp only [min2]
  split <;> omega
theorem lOrder_true {a b : List Val} (za : vsz a ≤ 4611686018427387904) (zb : vsz b ≤ 4611686018427387904) (na : ∀ v, v ∈ a → inI v.n) (nb : ∀ v, v ∈ b → inI v.n) : lOrder_body (a, b) = some true := by
  simp only [lOrder_body, long_some za, Option.bind_some]
  by_cases h : 3000 < vsz a
  · simp only [decide_eq_true h, cond_t]
  · simp only [decide_eq_false h, cond_f, long_some zb, Option.bind_some]
    by_cases h2 : 3000 < vsz b
    · simp only [decide_eq_true h2, cond_t]
    · have ta := vsz_take a (min a.length b.length)
      have tb := vsz_take b (min a.length b.length)
      have ua := upto_n (Nat.min_le_left a.length b.length)
      have ub := upto_n (Nat.min_le_right a.length b.length)
      simp only [decide_eq_false h2, cond_f, min2_nat, Int.toNat_natCast, ua, ub, chk, cond_t, kenc_some (show vsz (a.take (min a.length b.length)) ≤ 100000 by omega), kenc_some (show vsz (b.take (min a.length b.length)) ≤ 100000 by omega), Option.bind_some]
      have hl : (a.take (min a.length b.length)).length = (b.take (min a.length b.length)).length := by
        rw [List.length_take, List.length_take]; omega
      have n1 := n_take na (min a.length b.length)
      have n2 := n_take nb (min a.length b.length)
      generalize a.take (min a.length b.length) = p at *
      generalize b.take (min a.length b.length) = q at *
      cases hp : p.all vright with
      | false => rfl
      | true =>
        cases hq : q.all vright with
        | false => rfl
        | true =>
          have hc := encs_cmp p q [] [] hl hp hq n1 n2
          rw [List.append_nil, List.append_nil] at hc
          by_cases hpq : p = q
          · subst hpq
            have e1 : scmp (encs p) (encs p) = 0 := (scmp_zero _ _).2 rfl
            have e2 := rrows_self p
            simp only [rcmp4, e1, e2, decide_true, cond_t, cond_f, Bool.not_true]
          · rw [if_neg hpq] at hc
            have hc : scmp (encs p) (encs q) = rrows p q := hc
            have hne : ¬ rrows p q = 0 := lexL_ne hpq
            have f1 : kbeg (encs p) (encs q) = false := decide_eq_false fun ⟨x, hx⟩ => hpq (encs_front hl hp hq n1 n2 (x := []) (y := x) (by rw [List.append_nil]; exact hx.symm))
            have f2 : kbeg (encs q) (encs p) = false := decide_eq_false fun ⟨x, hx⟩ => hpq (encs_front hl hp hq n1 n2 (x := x) (y := []) (by rw [List.append_nil]; exact hx))
            simp only [rcmp4, hc, hne, f1, f2, decide_true, decide_false, cond_t, cond_f, Bool.not_true, Bool.not_false]
theorem lOrder_ok : FnOk Tryd.prog elT glT 6 [.sl .val false, .sl .val false] [.bool] lOrder_body := .fin0 lOrder_run fun _ _ _ hx => hx
set_option maxRecDepth 100000 in
theorem keysOrderUpto_contract (H : Type) (enc : TypeId × Value → H) (W : World) (base : Nat) (args : Array Value) (ds gs : List (DataW H)) (before : List MemPlace)
    (hval : ∀ (j : Nat) t v, Tryd.f6.params[j]? = some t → args[j]? = some v → Value.okWide Tryd.prog W .any base t v)
    (hW : DataW.Whole enc Tryd.prog Tryd.f6.params.toList Rows.keysOrderSpec.vars false W args.toList ds gs before) (hS : W.ShapedOpen Tryd.prog)
    (hsz : Rows.uptoSmall H (ds ++ gs) = true) :
    Calls Tryd.prog 6 args W fun e W' => ∃ v, e = .returned v ∧ Rows.keysOrderSpec.post enc Tryd.prog Tryd.f6 false true false false W args v W' :=
  law_frame (msr_bulk _ 1048576) (fn := Tryd.f6) lOrder_ok (fun (_, _) hb hs => lOrder_true (vsz_up hs.1.1 hs.1.2) (vsz_up hs.2.1 hs.2.2) (val_n hb.1.2) (val_n hb.2.2)) (by kernel_rfl) rfl (fun ds h => match ds, h with | [_, _], _ => ⟨rfl, rfl, rfl⟩) (by kernel_rfl) (by kernel_rfl) hval hW (shape_glR hS) (fun _ i t d _ hd => up_args hsz (by rw [List.getElem?_append_left (List.getElem?_eq_some_iff.1 hd).1]; exact hd))
theorem keysOrderUpto_laid_met (os : Os) (args : Array Value) : laidMet Tryd.prog Rows.keysOrderUptoRow.laid ((laidWorld os).forCall (fun _ _ => 0) ⟨#[], args, []⟩).memory :=
  laidMet_of_run' 8 (by kernel_rfl) (by kernel_rfl)
theorem keysOrderUpto_reads (os : Os) {H : Type} (enc : TypeId × Value → H) : ∃ places, DataW.whole enc Tryd.prog ((laidWorld os).forCall (fun _ _ => 0) ⟨#[], #[.slice none 0 0, .slice none 0 0], []⟩).memory Tryd.f6.params.toList Rows.keysOrderSpec.vars false (#[.slice none 0 0, .slice none 0 0] : Array Value).toList 8 = some ([.nil, .nil], [], places) :=
  ⟨[], by kernel_rfl⟩
set_option maxRecDepth 100000 in
theorem keysOrderUpto_lifted (os : Os) (started : os.Started) (H : Type) (enc : TypeId × Value → H) (F : Stop.Interp) :
    ReturnsInHanded {} Tryd.checked os 6 .any ((Rows.OpenSpec.upto Rows.keysOrderSpec).preRow enc Tryd.prog Tryd.f6 Rows.keysOrderUptoRow.domain false Rows.keysOrderUptoRow.laid) (((Rows.OpenSpec.upto Rows.keysOrderSpec).at F).post enc Tryd.prog Tryd.f6 false true false false) := by
  obtain ⟨places, hx⟩ := keysOrderUpto_reads os enc
  refine returnsInHanded_of_row (C := Tryd.checked) (s := Rows.OpenSpec.upto Rows.keysOrderSpec) own started (by kernel_rfl) Tryd.func6
    (witness_row_at (enc := enc) (C := Tryd.checked) false (laidWorld os) #[.slice none 0 0, .slice none 0 0] rfl (by kernel_rfl) (by kernel_rfl) (by kernel_rfl)
      (OpenSpec.preRow_of_cond 8 hx (by kernel_rfl) (fun k hk => by cases hk; kernel_rfl) (by kernel_rfl) (keysOrderUpto_laid_met os _))) ?_
  intro W base args ds gs before hval hW _ hc _ _ hS _
  exact keysOrderUpto_contract H enc W base args ds gs before hval hW hS (hc _ rfl)
theorem keysOrderUpto_said : Rows.KeysOrderUptoSaid :=
  OpenClaim.holds_of_cond 6 Tryd.f6 rfl rfl rfl rfl rfl rfl rfl ⟨rfl, rfl, rfl, rfl, rfl⟩ rfl rfl rfl rfl rfl (by kernel_rfl) Tryd.func6 (by kernel_rfl)
    (of_decide_eq_true (by kernel_rfl)) (by unfold Func.isWrapper; first | (rw [if_pos (by decide +kernel)]; kernel_rfl) | (rw [if_neg (by decide +kernel)]; exact ⟨rfl, rfl⟩))
    (fun os started H enc _ F => by rw [OpenClaim.pre_eq_preRow]; exact keysOrderUpto_lifted os started H enc F)
theorem keysOrderUpto_plain (f : FuncId) (fn : Func) (hf : Tryd.pinned.checked.prog.funcNamed "exchequer/exchequerlaw04.KeysOrder" = some f) (hfn : Tryd.pinned.checked.prog.funcs[f]? = some fn) :
    false = Tryd.pinned.checked.prog.looks [] ∧ ∀ (j : Nat) t, fn.params[j]? = some t → Tryd.pinned.checked.prog.wantsStandIn t = false := by
  obtain rfl : f = 6 := Option.some.inj ((show Tryd.prog.funcNamed "exchequer/exchequerlaw04.KeysOrder" = some 6 by kernel_rfl).symm.trans hf) |>.symm
  obtain rfl : fn = Tryd.f6 := (Option.some.inj (Tryd.func6.symm.trans hfn)).symm
  refine ⟨by kernel_rfl, fun j t ht => ?_⟩
  have hall : (Tryd.f6.params.all fun t => !Tryd.prog.wantsStandIn t) = true := by kernel_rfl
  have := Array.all_eq_true_iff_forall_mem.1 hall t (Array.mem_of_getElem? ht)
  have h2 : Tryd.prog.wantsStandIn t = false := by simpa using this
  exact h2
/-- THE CARD -/
theorem keysOrderUpto_card : Rows.KeysOrderUptoCardSaid :=
  Claim7.holds_tied_plain_at .later [] _ _ _ _ keysOrderUpto_said (fun _ h => by cases h) (by kernel_rfl) (fun _ h => by cases h) keysOrderUpto_row_tie rfl ⟨rfl, rfl⟩ (by kernel_rfl) rfl keysOrderUpto_plain (by kernel_rfl)
#print axioms keysOrderUpto_card
end Go.Proofs.YtkiakihffmafcaaDoor
