/- KeysWrites: any row has the bytes that the document says, or none; any bytes are the row that it says, or none; where the arguments are of bulk at most 1048576; on the condition of the row alone: that the tables of unicode/utf8 hold what the program's text lays. -/
import Derived.Test.YtkiakihffmafcaaDoorB6
namespace Go.Proofs.YtkiakihffmafcaaDoor
open Go.Ax Go.ChangeShapes Go.WideShapes Go.ChangeAt Go.RowKit Go.ChangeMaps
/-! ## exchequer/exchequerlaw04.KeysWrites -/
def lWrites_px (R : Type) : Px R := ⟨ttOf ttL, glT, callT [(9, callOr [.sl .val false] [.bool] long_F), (10, callOr [] [.bool] known_F), (11, callOr [.sl .val false] [.sl .byte true, .int .i64] kenc_F), (12, callOr [.sl .val false] [.sl .byte true, .int .i64] renc_F), (13, callOr [.sl .byte false] [.sl .val true, .int .i64] kdec_F), (14, callOr [.sl .byte false] [.sl .val true, .int .i64] rdec_F), (15, callOr [.sl .byte false, .sl .byte false] [.bool] same_F), (16, callOr [.sl .val false, .sl .val false] [.int .i64] rrows_F)], callQT [], loopT []⟩
def lWrites_body (x : HV [.sl .val false, .sl .byte false]) : Option (HV [.bool]) := match x with
 | (l, b) =>
  (long l).bind fun x =>
   cond (x) (
    some known) (
    cond (decide (3000 < (b.length : Int))) (
     some known) (
     (kenc l).bind fun (x1, x2) =>
      (renc l).bind fun (x3, x4) =>
       (kdec b).bind fun (x5, x6) =>
        (rdec b).bind fun (x7, x8) =>
         let j1 := fun (p2 : Bool) =>
          let j := fun (p3 : Bool) =>
           cond (p3) (
            cond (decide (x6 = x8)) (
             some known) (
             some false)) (
            some false)
          cond (p2) (
           j (decide ((rrows x5 x7) = 0))) (
           j false)
         cond ((same x1 x3)) (
          j1 (decide (x2 = x4))) (
          j1 false)))
theorem lWrites_eq : ∀ (x : HV [.sl .val false, .sl .byte false]), runF (lWrites_px _) Tryd.f3 [.sl .val false, .sl .byte false] [.bool] x some = lWrites_body x
  | (l, b) => by kernel_rfl
theorem lWrites_run : FnOk Tryd.prog elT glT 3 [.sl .val false, .sl .byte false] [.bool] (lWrites_body) := by
  refine fnOk_run Tryd.func3 rfl (by kernel_rfl) follows (by kernel_rfl) (n := 0) (by kernel_rfl) (px := lWrites_px _) (fun cx hP hel hgl => ?_) (lWrites_eq)
  have hp0 : PxOk cx (lWrites_px (HV [.bool])) := ⟨fun t => by rw [hP, hel]; exact tt_ok ttL_ok t, by rw [hgl]; rfl⟩
  have hc0 : CallOk cx (lWrites_px (HV [.bool])) := callT_ok rfl (cfs_cons (cf_or (by rw [hP, hel, hgl]; exact long_ok) (by kernel_rfl)) (cfs_cons (cf_or (by rw [hP, hel, hgl]; exact known_ok) (by kernel_rfl)) (cfs_cons (cf_or (by rw [hP, hel, hgl]; exact kenc_ok) (by kernel_rfl)) (cfs_cons (cf_or (by rw [hP, hel, hgl]; exact renc_ok) (by kernel_rfl)) (cfs_cons (cf_or (by rw [hP, hel, hgl]; exact kdec_ok) (by kernel_rfl)) (cfs_cons (cf_or (by rw [hP, hel, hgl]; exact rdec_ok) (by kernel_rfl)) (cfs_cons (cf_or (by rw [hP, hel, hgl]; exact same_ok) (by kernel_rfl)) (cfs_cons (cf_or (by rw [hP, hel, hgl]; exact rrows_ok) (by kernel_rfl)) cfs_nil))))))))
  have hq0 : CallQOk cx (lWrites_px (HV [.bool])) := callQT_ok rfl cqfs_nil
  exact ⟨hp0, hc0, hq0, all0⟩
theorem lWrites_true {l : List Val} {b : Str} (hz : vsz l ≤ 4611686018427387904) : lWrites_body (l, b) = some true := by
  simp only [lWrites_body, long_some hz, Option.bind_some]
  by_cases h : 3000 < vsz l
  · simp only [decide_eq_true h, cond_t]
  · by_cases h2 : 3000 < (b.length : Int)
    · simp only [decide_eq_true h2, decide_eq_false h, cond_t, cond_f]
    · simp only [decide_eq_false h2, decide_eq_false h, cond_f, renc, rdec, kenc_some (show vsz l ≤ 100000 by omega), kdec_some (show b.length ≤ 1000000 by omega), Option.bind_some, rrows_self, same_self, decide_true, cond_t]
theorem lWrites_ok : FnOk Tryd.prog elT glT 3 [.sl .val false, .sl .byte false] [.bool] lWrites_body := .fin0 lWrites_run fun _ _ _ hx => hx
set_option maxRecDepth 100000 in
theorem keysWritesUpto_contract (H : Type) (enc : TypeId × Value → H) (W : World) (base : Nat) (args : Array Value) (ds gs : List (DataW H)) (before : List MemPlace)
    (hval : ∀ (j : Nat) t v, Tryd.f3.params[j]? = some t → args[j]? = some v → Value.okWide Tryd.prog W .any base t v)
    (hW : DataW.Whole enc Tryd.prog Tryd.f3.params.toList Rows.keysWritesSpec.vars false W args.toList ds gs before) (hS : W.ShapedOpen Tryd.prog)
    (hsz : Rows.uptoSmall H (ds ++ gs) = true) :
    Calls Tryd.prog 3 args W fun e W' => ∃ v, e = .returned v ∧ Rows.keysWritesSpec.post enc Tryd.prog Tryd.f3 false true false false W args v W' :=
  law_frame (msr_bulk _ 1048576) (fn := Tryd.f3) lWrites_ok (fun (_, _) _ hs => lWrites_true (vsz_up hs.1.1 hs.1.2)) (by kernel_rfl) rfl (fun ds h => match ds, h with | [_, _], _ => ⟨rfl, rfl, rfl⟩) (by kernel_rfl) (by kernel_rfl) hval hW (shape_glR hS) (fun _ i t d _ hd => up_args hsz (by rw [List.getElem?_append_left (List.getElem?_eq_some_iff.1 hd).1]; exact hd))
theorem keysWritesUpto_laid_met (os : Os) (args : Array Value) : laidMet Tryd.prog Rows.keysWritesUptoRow.laid ((laidWorld os).forCall (fun _ _ => 0) ⟨#[], args, []⟩).memory :=
  laidMet_of_run' 8 (by kernel_rfl) (by kernel_rfl)
theorem keysWritesUpto_reads (os : Os) {H : Type} (enc : TypeId × Value → H) : ∃ places, DataW.whole enc Tryd.prog ((laidWorld os).forCall (fun _ _ => 0) ⟨#[], #[.slice none 0 0, .slice none 0 0], []⟩).memory Tryd.f3.params.toList Rows.keysWritesSpec.vars false (#[.slice none 0 0, .slice none 0 0] : Array Value).toList 8 = some ([.nil, .nil], [], places) :=
  ⟨[], by kernel_rfl⟩
set_option maxRecDepth 100000 in
theorem keysWritesUpto_lifted (os : Os) (started : os.Started) (H : Type) (enc : TypeId × Value → H) (F : Stop.Interp) :
    ReturnsInHanded {} Tryd.checked os 3 .any ((Rows.OpenSpec.upto Rows.keysWritesSpec).preRow enc Tryd.prog Tryd.f3 Rows.keysWritesUptoRow.domain false Rows.keysWritesUptoRow.laid) (((Rows.OpenSpec.upto Rows.keysWritesSpec).at F).post enc Tryd.prog Tryd.f3 false true false false) := by
  obtain ⟨places, hx⟩ := keysWritesUpto_reads os enc
  refine returnsInHanded_of_row (C := Tryd.checked) (s := Rows.OpenSpec.upto Rows.keysWritesSpec) own started (by kernel_rfl) Tryd.func3
    (witness_row_at (enc := enc) (C := Tryd.checked) false (laidWorld os) #[.slice none 0 0, .slice none 0 0] rfl (by kernel_rfl) (by kernel_rfl) (by kernel_rfl)
      (OpenSpec.preRow_of_cond 8 hx (by kernel_rfl) (fun k hk => by cases hk; kernel_rfl) (by kernel_rfl) (keysWritesUpto_laid_met os _))) ?_
  intro W base args ds gs before hval hW _ hc _ _ hS _
  exact keysWritesUpto_contract H enc W base args ds gs before hval hW hS (hc _ rfl)
theorem keysWritesUpto_said : Rows.KeysWritesUptoSaid :=
  OpenClaim.holds_of_cond 3 Tryd.f3 rfl rfl rfl rfl rfl rfl rfl ⟨rfl, rfl, rfl, rfl, rfl⟩ rfl rfl rfl rfl rfl (by kernel_rfl) Tryd.func3 (by kernel_rfl)
    (of_decide_eq_true (by kernel_rfl)) (by unfold Func.isWrapper; first | (rw [if_pos (by decide +kernel)]; kernel_rfl) | (rw [if_neg (by decide +kernel)]; exact ⟨rfl, rfl⟩))
    (fun os started H enc _ F => by rw [OpenClaim.pre_eq_preRow]; exact keysWritesUpto_lifted os started H enc F)
theorem keysWritesUpto_plain (f : FuncId) (fn : Func) (hf : Tryd.pinned.checked.prog.funcNamed "exchequer/exchequerlaw04.KeysWrites" = some f) (hfn : Tryd.pinned.checked.prog.funcs[f]? = some fn) :
    false = Tryd.pinned.checked.prog.looks [] ∧ ∀ (j : Nat) t, fn.params[j]? = some t → Tryd.pinned.checked.prog.wantsStandIn t = false := by
  obtain rfl : f = 3 := Option.some.inj ((show Tryd.prog.funcNamed "exchequer/exchequerlaw04.KeysWrites" = some 3 by kernel_rfl).symm.trans hf) |>.symm
  obtain rfl : fn = Tryd.f3 := (Option.some.inj (Tryd.func3.symm.trans hfn)).symm
  refine ⟨by kernel_rfl, fun j t ht => ?_⟩
  have hall : (Tryd.f3.params.all fun t => !Tryd.prog.wantsStandIn t) = true := by kernel_rfl
  have := Array.all_eq_true_iff_forall_mem.1 hall t (Array.mem_of_getElem? ht)
  have h2 : Tryd.prog.wantsStandIn t = false := by simpa using this
  exact h2
/-- THE CARD -/
theorem keysWritesUpto_card : Rows.KeysWritesUptoCardSaid :=
  Claim7.holds_tied_plain_at .later [] _ _ _ _ keysWritesUpto_said (fun _ h => by cases h) (by kernel_rfl) (fun _ h => by cases h) keysWritesUpto_row_tie rfl ⟨rfl, rfl⟩ (by kernel_rfl) rfl keysWritesUpto_plain (by kernel_rfl)
#print axioms keysWritesUpto_card
end Go.Proofs.YtkiakihffmafcaaDoor
