/- KeysJoin: two rows, one behind the other, have the bytes of both, one behind the other; and these are that row; where the arguments are of bulk at most 1048576; on the condition of the row alone: that the tables of unicode/utf8 hold what the program's text lays. -/
import Derived.Test.YtkiakihffmafcaaDoorB6
namespace Go.Proofs.YtkiakihffmafcaaDoor
open Go.Ax Go.ChangeShapes Go.WideShapes Go.ChangeAt Go.RowKit Go.ChangeMaps
/-! ## exchequer/exchequerlaw04.KeysJoin -/
def lJoin_px (R : Type) : Px R := ⟨ttOf ttL, glT, callT [(9, callOr [.sl .val false] [.bool] long_F), (10, callOr [] [.bool] known_F), (11, callOr [.sl .val false] [.sl .byte true, .int .i64] kenc_F), (17, callOr [.sl .byte false] [.sl .byte true] copy_F), (13, callOr [.sl .byte false] [.sl .val true, .int .i64] kdec_F), (15, callOr [.sl .byte false, .sl .byte false] [.bool] same_F), (16, callOr [.sl .val false, .sl .val false] [.int .i64] rrows_F)], callQT [], loopT []⟩
def lJoin_body (x : HV [.sl .val false, .sl .val false]) : Option (HV [.bool]) := match x with
 | (a, b) =>
  (long a).bind fun x =>
   cond (x) (
    some known) (
    (long b).bind fun x1 =>
     cond (x1) (
      some known) (
      chk (decide (0 + a.length ≤ maxApp)) (
       chk (decide (([] ++ a).length + b.length ≤ maxApp)) (
        (kenc a).bind fun (x2, x3) =>
         (kenc b).bind fun (x4, x5) =>
          (kenc (([] ++ a) ++ b)).bind fun (x6, x7) =>
           let j := fun (p3 : Bool) =>
            cond (p3) (
             cond (decide (x7 = 2)) (
              cond (decide ((x6.length : Int) = 0)) (
               some known) (
               some false)) (
              some false)) (
             (copy x2).bind fun x8 =>
              chk (decide (x8.length + x4.length ≤ maxApp)) (
               (kdec (x8 ++ x4)).bind fun (x9, x10) =>
                let j2 := fun (p8 : Bool) =>
                 let j1 := fun (p9 : Bool) =>
                  cond (p9) (
                   cond (decide ((rrows x9 (([] ++ a) ++ b)) = 0)) (
                    some known) (
                    some false)) (
                   some false)
                 cond (p8) (
                  j1 (decide (x10 = 0))) (
                  j1 false)
                cond (decide (x7 = 0)) (
                 j2 (same x6 (x8 ++ x4))) (
                 j2 false)))
           cond (!decide (x3 = 0)) (
            j true) (
            j (!decide (x5 = 0)))))))
theorem lJoin_eq : ∀ (x : HV [.sl .val false, .sl .val false]), runF (lJoin_px _) Tryd.f5 [.sl .val false, .sl .val false] [.bool] x some = lJoin_body x
  | (a, b) => by kernel_rfl
theorem lJoin_run : FnOk Tryd.prog elT glT 5 [.sl .val false, .sl .val false] [.bool] (lJoin_body) := by
  refine fnOk_run Tryd.func5 rfl (by kernel_rfl) follows (by kernel_rfl) (n := 0) (by kernel_rfl) (px := lJoin_px _) (fun cx hP hel hgl => ?_) (lJoin_eq)
  have hp0 : PxOk cx (lJoin_px (HV [.bool])) := ⟨fun t => by rw [hP, hel]; exact tt_ok ttL_ok t, by rw [hgl]; rfl⟩
  have hc0 : CallOk cx (lJoin_px (HV [.bool])) := callT_ok rfl (cfs_cons (cf_or (by rw [hP, hel, hgl]; exact long_ok) (by kernel_rfl)) (cfs_cons (cf_or (by rw [hP, hel, hgl]; exact known_ok) (by kernel_rfl)) (cfs_cons (cf_or (by rw [hP, hel, hgl]; exact kenc_ok) (by kernel_rfl)) (cfs_cons (cf_or (by rw [hP, hel, hgl]; exact copy_ok) (by kernel_rfl)) (cfs_cons (cf_or (by rw [hP, hel, hgl]; exact kdec_ok) (by kernel_rfl)) (cfs_cons (cf_or (by rw [hP, hel, hgl]; exact same_ok) (by kernel_rfl)) (cfs_cons (cf_or (by rw [hP, hel, hgl]; exact rrows_ok) (by kernel_rfl)) cfs_nil)))))))
  have hq0 : CallQOk cx (lJoin_px (HV [.bool])) := callQT_ok rfl cqfs_nil
  exact ⟨hp0, hc0, hq0, all0⟩
theorem lJoin_true {a b : List Val} (za : vsz a ≤ 4611686018427387904) (zb : vsz b ≤ 4611686018427387904) (na : ∀ v, v ∈ a → inI v.n) (nb : ∀ v, v ∈ b → inI v.n) : lJoin_body (a, b) = some true := by
  simp only [lJoin_body, long_some za, Option.bind_some]
  by_cases h : 3000 < vsz a
  · simp only [decide_eq_true h, cond_t]
  · simp only [decide_eq_false h, cond_f, long_some zb, Option.bind_some]
    by_cases h2 : 3000 < vsz b
    · simp only [decide_eq_true h2, cond_t]
    · have ga := vsz_ge a
      have gb := vsz_ge b
      have hz := vsz_append a b
      have c1 : decide (0 + a.length ≤ maxApp) = true := decide_eq_true (by simp only [maxApp]; omega)
      have c2 : decide (a.length + b.length ≤ maxApp) = true := decide_eq_true (by simp only [maxApp]; omega)
      simp only [decide_eq_false h2, cond_f, List.nil_append, c1, c2, chk, cond_t, kenc_some (show vsz a ≤ 100000 by omega), kenc_some (show vsz b ≤ 100000 by omega), kenc_some (show vsz (a ++ b) ≤ 100000 by omega), Option.bind_some, List.all_append]
      cases ha : a.all vright with
      | false => rfl
      | true =>
        cases hb : b.all vright with
        | false => rfl
        | true =>
          have la := not_long h
          have lb := not_long h2
          have c3 : copy (encs a) = some (encs a) := by simp only [copy]; rw [decide_eq_true (show (encs a).length ≤ 100000000 by omega)]; rfl
          have c4 : decide ((encs a).length + (encs b).length ≤ maxApp) = true := decide_eq_true (by simp only [maxApp]; omega)
          have hab : (a ++ b).all vright = true := by rw [List.all_append, ha, hb]; rfl
          have hd : dec (encs a ++ encs b) = (a ++ b, 0) := by
            rw [← encs_append]
            exact dec_enc hab fun v hv => (List.mem_append.1 hv).elim (na v) (nb v)
          have hl : (encs a ++ encs b).length ≤ 1000000 := by rw [List.length_append]; omega
          simp only [Bool.and_self, cond_t, decide_true, Bool.not_true, cond_f, c3, Option.bind_some, c4, kdec_some hl, hd, encs_append, same_self, rrows_self]
theorem lJoin_ok : FnOk Tryd.prog elT glT 5 [.sl .val false, .sl .val false] [.bool] lJoin_body := .fin0 lJoin_run fun _ _ _ hx => hx
set_option maxRecDepth 100000 in
theorem keysJoinUpto_contract (H : Type) (enc : TypeId × Value → H) (W : World) (base : Nat) (args : Array Value) (ds gs : List (DataW H)) (before : List MemPlace)
    (hval : ∀ (j : Nat) t v, Tryd.f5.params[j]? = some t → args[j]? = some v → Value.okWide Tryd.prog W .any base t v)
    (hW : DataW.Whole enc Tryd.prog Tryd.f5.params.toList Rows.keysJoinSpec.vars false W args.toList ds gs before) (hS : W.ShapedOpen Tryd.prog)
    (hsz : Rows.uptoSmall H (ds ++ gs) = true) :
    Calls Tryd.prog 5 args W fun e W' => ∃ v, e = .returned v ∧ Rows.keysJoinSpec.post enc Tryd.prog Tryd.f5 false true false false W args v W' :=
  law_frame (msr_bulk _ 1048576) (fn := Tryd.f5) lJoin_ok (fun (_, _) hb hs => lJoin_true (vsz_up hs.1.1 hs.1.2) (vsz_up hs.2.1 hs.2.2) (val_n hb.1.2) (val_n hb.2.2)) (by kernel_rfl) rfl (fun ds h => match ds, h with | [_, _], _ => ⟨rfl, rfl, rfl⟩) (by kernel_rfl) (by kernel_rfl) hval hW (shape_glR hS) (fun _ i t d _ hd => up_args hsz (by rw [List.getElem?_append_left (List.getElem?_eq_some_iff.1 hd).1]; exact hd))
theorem keysJoinUpto_laid_met (os : Os) (args : Array Value) : laidMet Tryd.prog Rows.keysJoinUptoRow.laid ((laidWorld os).forCall (fun _ _ => 0) ⟨#[], args, []⟩).memory :=
  laidMet_of_run' 8 (by kernel_rfl) (by kernel_rfl)
theorem keysJoinUpto_reads (os : Os) {H : Type} (enc : TypeId × Value → H) : ∃ places, DataW.whole enc Tryd.prog ((laidWorld os).forCall (fun _ _ => 0) ⟨#[], #[.slice none 0 0, .slice none 0 0], []⟩).memory Tryd.f5.params.toList Rows.keysJoinSpec.vars false (#[.slice none 0 0, .slice none 0 0] : Array Value).toList 8 = some ([.nil, .nil], [], places) :=
  ⟨[], by kernel_rfl⟩
set_option maxRecDepth 100000 in
theorem keysJoinUpto_lifted (os : Os) (started : os.Started) (H : Type) (enc : TypeId × Value → H) (F : Stop.Interp) :
    ReturnsInHanded {} Tryd.checked os 5 .any ((Rows.OpenSpec.upto Rows.keysJoinSpec).preRow enc Tryd.prog Tryd.f5 Rows.keysJoinUptoRow.domain false Rows.keysJoinUptoRow.laid) (((Rows.OpenSpec.upto Rows.keysJoinSpec).at F).post enc Tryd.prog Tryd.f5 false true false false) := by
  obtain ⟨places, hx⟩ := keysJoinUpto_reads os enc
  refine returnsInHanded_of_row (C := Tryd.checked) (s := Rows.OpenSpec.upto Rows.keysJoinSpec) own started (by kernel_rfl) Tryd.func5
    (witness_row_at (enc := enc) (C := Tryd.checked) false (laidWorld os) #[.slice none 0 0, .slice none 0 0] rfl (by kernel_rfl) (by kernel_rfl) (by kernel_rfl)
      (OpenSpec.preRow_of_cond 8 hx (by kernel_rfl) (fun k hk => by cases hk; kernel_rfl) (by kernel_rfl) (keysJoinUpto_laid_met os _))) ?_
  intro W base args ds gs before hval hW _ hc _ _ hS _
  exact keysJoinUpto_contract H enc W base args ds gs before hval hW hS (hc _ rfl)
theorem keysJoinUpto_said : Rows.KeysJoinUptoSaid :=
  OpenClaim.holds_of_cond 5 Tryd.f5 rfl rfl rfl rfl rfl rfl rfl ⟨rfl, rfl, rfl, rfl, rfl⟩ rfl rfl rfl rfl rfl (by kernel_rfl) Tryd.func5 (by kernel_rfl)
    (of_decide_eq_true (by kernel_rfl)) (by unfold Func.isWrapper; first | (rw [if_pos (by decide +kernel)]; kernel_rfl) | (rw [if_neg (by decide +kernel)]; exact ⟨rfl, rfl⟩))
    (fun os started H enc _ F => by rw [OpenClaim.pre_eq_preRow]; exact keysJoinUpto_lifted os started H enc F)
theorem keysJoinUpto_plain (f : FuncId) (fn : Func) (hf : Tryd.pinned.checked.prog.funcNamed "exchequer/exchequerlaw04.KeysJoin" = some f) (hfn : Tryd.pinned.checked.prog.funcs[f]? = some fn) :
    false = Tryd.pinned.checked.prog.looks [] ∧ ∀ (j : Nat) t, fn.params[j]? = some t → Tryd.pinned.checked.prog.wantsStandIn t = false := by
  obtain rfl : f = 5 := Option.some.inj ((show Tryd.prog.funcNamed "exchequer/exchequerlaw04.KeysJoin" = some 5 by kernel_rfl).symm.trans hf) |>.symm
  obtain rfl : fn = Tryd.f5 := (Option.some.inj (Tryd.func5.symm.trans hfn)).symm
  refine ⟨by kernel_rfl, fun j t ht => ?_⟩
  have hall : (Tryd.f5.params.all fun t => !Tryd.prog.wantsStandIn t) = true := by kernel_rfl
  have := Array.all_eq_true_iff_forall_mem.1 hall t (Array.mem_of_getElem? ht)
  have h2 : Tryd.prog.wantsStandIn t = false := by simpa using this
  exact h2
/-- THE CARD -/
theorem keysJoinUpto_card : Rows.KeysJoinUptoCardSaid :=
  Claim7.holds_tied_plain_at .later [] _ _ _ _ keysJoinUpto_said (fun _ h => by cases h) (by kernel_rfl) (fun _ h => by cases h) keysJoinUpto_row_tie rfl ⟨rfl, rfl⟩ (by kernel_rfl) rfl keysJoinUpto_plain (by kernel_rfl)
#print axioms keysJoinUpto_card
end Go.Proofs.YtkiakihffmafcaaDoor
