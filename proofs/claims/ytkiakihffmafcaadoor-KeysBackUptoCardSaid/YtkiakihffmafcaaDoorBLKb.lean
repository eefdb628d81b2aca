/- KeysBack: a row's bytes are that row; bytes that are a row are its bytes; cut short within a value they end too soon; where the arguments are of bulk at most 1048576; on the condition of the row alone: that the tables of unicode/utf8 hold what the program's text lays. -/
import Derived.Test.YtkiakihffmafcaaDoorB6
namespace Go.Proofs.YtkiakihffmafcaaDoor
open Go.Ax Go.ChangeShapes Go.WideShapes Go.ChangeAt Go.RowKit Go.ChangeMaps
/-! ## exchequer/exchequerlaw04.KeysBack -/
def lBack_px (R : Type) : Px R := ⟨ttOf ttL, glT, callT [(9, callOr [.sl .val false] [.bool] long_F), (10, callOr [] [.bool] known_F), (11, callOr [.sl .val false] [.sl .byte true, .int .i64] kenc_F), (13, callOr [.sl .byte false] [.sl .val true, .int .i64] kdec_F), (16, callOr [.sl .val false, .sl .val false] [.int .i64] rrows_F), (15, callOr [.sl .byte false, .sl .byte false] [.bool] same_F)], callQT [], loopT []⟩
def lBack_body (x : HV [.sl .val false, .sl .byte false, .int .i64]) : Option (HV [.bool]) := match x with
 | (l, b, cut) =>
  (long l).bind fun x =>
   cond (x) (
    some known) (
    cond (decide (3000 < (b.length : Int))) (
     some known) (
     (kenc l).bind fun (x1, x2) =>
      let j := fun (_ : Unit) =>
       (kdec b).bind fun (x7, x8) =>
        cond (!decide (x8 = 0)) (
         cond (decide ((x7.length : Int) = 0)) (
          some known) (
          some false)) (
         (kenc x7).bind fun (x9, x10) =>
          cond (decide (x10 = 0)) (
           cond ((same x9 b)) (
            some known) (
            some false)) (
           some false))
      cond (decide (x2 = 0)) (
       (kdec x1).bind fun (x3, x4) =>
        cond (!decide (x4 = 0)) (
         some false) (
         cond (!decide ((rrows x3 l) = 0)) (
          some false) (
          chk (!decide ((wr .u64 (wr .i64 ((x1.length : Int) + 1))) = 0)) (
           chk (upto 0 (wr .i64 (Int.tmod (wr .u64 cut) (wr .u64 (wr .i64 ((x1.length : Int) + 1))))) x1.length) (
            (kdec (x1.take ((wr .i64 (Int.tmod (wr .u64 cut) (wr .u64 (wr .i64 ((x1.length : Int) + 1))))) : Int).toNat)).bind fun (x5, x6) =>
             cond (decide (x6 = 11)) (
              some false) (
              cond (decide (x6 = 0)) (
               cond (decide ((l.length : Int) < (x5.length : Int))) (
                some false) (
                chk (upto 0 (x5.length : Int) l.length) (
                 cond (!decide ((rrows x5 (l.take ((x5.length : Int) : Int).toNat)) = 0)) (
                  some false) (
                  j ())))) (
               j ()))))))) (
       j ())))
theorem lBack_eq : ∀ (x : HV [.sl .val false, .sl .byte false, .int .i64]), runF (lBack_px _) Tryd.f4 [.sl .val false, .sl .byte false, .int .i64] [.bool] x some = lBack_body x
  | (l, b, cut) => by kernel_rfl
theorem lBack_run : FnOk Tryd.prog elT glT 4 [.sl .val false, .sl .byte false, .int .i64] [.bool] (lBack_body) := by
  refine fnOk_run Tryd.func4 rfl (by kernel_rfl) follows (by kernel_rfl) (n := 0) (by kernel_rfl) (px := lBack_px _) (fun cx hP hel hgl => ?_) (lBack_eq)
  have hp0 : PxOk cx (lBack_px (HV [.bool])) := ⟨fun t => by rw [hP, hel]; exact tt_ok ttL_ok t, by rw [hgl]; rfl⟩
  have hc0 : CallOk cx (lBack_px (HV [.bool])) := callT_ok rfl (cfs_cons (cf_or (by rw [hP, hel, hgl]; exact long_ok) (by kernel_rfl)) (cfs_cons (cf_or (by rw [hP, hel, hgl]; exact known_ok) (by kernel_rfl)) (cfs_cons (cf_or (by rw [hP, hel, hgl]; exact kenc_ok) (by kernel_rfl)) (cfs_cons (cf_or (by rw [hP, hel, hgl]; exact kdec_ok) (by kernel_rfl)) (cfs_cons (cf_or (by rw [hP, hel, hgl]; exact rrows_ok) (by kernel_rfl)) (cfs_cons (cf_or (by rw [hP, hel, hgl]; exact same_ok) (by kernel_rfl)) cfs_nil))))))
  have hq0 : CallQOk cx (lBack_px (HV [.bool])) := callQT_ok rfl cqfs_nil
  exact ⟨hp0, hc0, hq0, all0⟩
theorem lBack_j {b : Str} (hb : b.length ≤ 3000) : ((kdec b).bind fun (x7, x8) =>
        cond (!decide (x8 = 0)) (
         cond (decide ((x7.length : Int) = 0)) (
          some known) (
          some false)) (
         (kenc x7).bind fun (x9, x10) =>
          cond (decide (x10 = 0)) (
           cond ((same x9 b)) (
            some known) (
            some false)) (
           some false))) = some true := by
  rw [kdec_some (by omega), Option.bind_some]
  rcases decN_back _ _ _ _ (rfl : decN (b.length + 1) [] b = dec b) (Nat.lt_succ_self _) with h | h | ⟨m, h, h1, h2, h3⟩
  · have h : dec b = ([], 10) := h
    rw [h]; rfl
  · have h : dec b = ([], 11) := h
    rw [h]; rfl
  · have h : dec b = ([] ++ m, 0) := h
    rw [h, List.nil_append]
    have hz := vsz_encs h1
    rw [← h3] at hz
    simp only [kenc_some (show vsz m ≤ 100000 by omega), h1, cond_t, Option.bind_some, ← h3, same_self]
    rfl
theorem lBack_true {l : List Val} {b : Str} {z : Int} (hz : vsz l ≤ 4611686018427387904) (hn : ∀ v, v ∈ l → inI v.n) (hc : inI z) : lBack_body (l, b, z) = some true := by
  simp only [lBack_body, long_some hz, Option.bind_some]
  by_cases h : 3000 < vsz l
  · simp only [decide_eq_true h, cond_t]
  · by_cases h2 : 3000 < (b.length : Int)
    · simp only [decide_eq_true h2, decide_eq_false h, cond_t, cond_f]
    · have hj := lBack_j (b := b) (by omega)
      simp only [decide_eq_false h2, decide_eq_false h, cond_f, kenc_some (show vsz l ≤ 100000 by omega), Option.bind_some, hj]
      cases hr : l.all vright with
      | false => rfl
      | true =>
        have hlen := not_long h
        obtain ⟨p1, k, hk, p2⟩ := pick_at hc (show (encs l).length ≤ 1000000 by omega)
        have hd := dec_enc hr hn
        have htk : ((encs l).take k).length ≤ 1000000 := by rw [List.length_take]; omega
        simp only [cond_t, kdec_some (show (encs l).length ≤ 1000000 by omega), hd, Option.bind_some, rrows_self, p1, p2, chk, upto_n hk, Int.toNat_natCast, kdec_some htk, decide_true, Bool.not_true, cond_f]
        rcases decN_cut l (((encs l).take k).length + 1) [] ((encs l).take k) ((encs l).drop k) hr hn (List.take_append_drop _ _) (Nat.lt_succ_self _) with hq | ⟨m, hq, r, hm⟩
        · have hq : dec ((encs l).take k) = ([], 10) := hq
          simp only [hq]
          rfl
        · have hq : dec ((encs l).take k) = (m, 0) := hq
          have e1 : decide ((l.length : Int) < (m.length : Int)) = false := decide_eq_false (by rw [hm, List.length_append]; omega)
          have e2 : upto 0 (m.length : Int) l.length = true := upto_n (by rw [hm, List.length_append]; omega)
          have e3 : l.take m.length = m := by rw [hm]; exact List.take_left
          simp only [hq, e1, e2, e3, rrows_self, cond_f, cond_t]
          rfl
theorem lBack_ok : FnOk Tryd.prog elT glT 4 [.sl .val false, .sl .byte false, .int .i64] [.bool] lBack_body := .fin0 lBack_run fun _ _ _ hx => hx
set_option maxRecDepth 100000 in
theorem keysBackUpto_contract (H : Type) (enc : TypeId × Value → H) (W : World) (base : Nat) (args : Array Value) (ds gs : List (DataW H)) (before : List MemPlace)
    (hval : ∀ (j : Nat) t v, Tryd.f4.params[j]? = some t → args[j]? = some v → Value.okWide Tryd.prog W .any base t v)
    (hW : DataW.Whole enc Tryd.prog Tryd.f4.params.toList Rows.keysBackSpec.vars false W args.toList ds gs before) (hS : W.ShapedOpen Tryd.prog)
    (hsz : Rows.uptoSmall H (ds ++ gs) = true) :
    Calls Tryd.prog 4 args W fun e W' => ∃ v, e = .returned v ∧ Rows.keysBackSpec.post enc Tryd.prog Tryd.f4 false true false false W args v W' :=
  law_frame (msr_bulk _ 1048576) (fn := Tryd.f4) lBack_ok (fun (_, _, _) hb hs => lBack_true (vsz_up hs.1.1 hs.1.2) (val_n hb.1.2) (inK_i64 hb.2.2)) (by kernel_rfl) rfl (fun ds h => match ds, h with | [_, _, _], _ => ⟨rfl, rfl, rfl⟩) (by kernel_rfl) (by kernel_rfl) hval hW (shape_glR hS) (fun _ i t d _ hd => up_args hsz (by rw [List.getElem?_append_left (List.getElem?_eq_some_iff.1 hd).1]; exact hd))
theorem keysBackUpto_laid_met (os : Os) (args : Array Value) : laidMet Tryd.prog Rows.keysBackUptoRow.laid ((laidWorld os).forCall (fun _ _ => 0) ⟨#[], args, []⟩).memory :=
  laidMet_of_run' 8 (by kernel_rfl) (by kernel_rfl)
theorem keysBackUpto_reads (os : Os) {H : Type} (enc : TypeId × Value → H) : ∃ places, DataW.whole enc Tryd.prog ((laidWorld os).forCall (fun _ _ => 0) ⟨#[], #[.slice none 0 0, .slice none 0 0, .int .i64 0], []⟩).memory Tryd.f4.params.toList Rows.keysBackSpec.vars false (#[.slice none 0 0, .slice none 0 0, .int .i64 0] : Array Value).toList 8 = some ([.nil, .nil, .lit (.int .i64 0)], [], places) :=
  ⟨[], by kernel_rfl⟩
set_option maxRecDepth 100000 in
theorem keysBackUpto_lifted (os : Os) (started : os.Started) (H : Type) (enc : TypeId × Value → H) (F : Stop.Interp) :
    ReturnsInHanded {} Tryd.checked os 4 .any ((Rows.OpenSpec.upto Rows.keysBackSpec).preRow enc Tryd.prog Tryd.f4 Rows.keysBackUptoRow.domain false Rows.keysBackUptoRow.laid) (((Rows.OpenSpec.upto Rows.keysBackSpec).at F).post enc Tryd.prog Tryd.f4 false true false false) := by
  obtain ⟨places, hx⟩ := keysBackUpto_reads os enc
  refine returnsInHanded_of_row (C := Tryd.checked) (s := Rows.OpenSpec.upto Rows.keysBackSpec) own started (by kernel_rfl) Tryd.func4
    (witness_row_at (enc := enc) (C := Tryd.checked) false (laidWorld os) #[.slice none 0 0, .slice none 0 0, .int .i64 0] rfl (by kernel_rfl) (by kernel_rfl) (by kernel_rfl)
      (OpenSpec.preRow_of_cond 8 hx (by kernel_rfl) (fun k hk => by cases hk; kernel_rfl) (by kernel_rfl) (keysBackUpto_laid_met os _))) ?_
  intro W base args ds gs before hval hW _ hc _ _ hS _
  exact keysBackUpto_contract H enc W base args ds gs before hval hW hS (hc _ rfl)
theorem keysBackUpto_said : Rows.KeysBackUptoSaid :=
  OpenClaim.holds_of_cond 4 Tryd.f4 rfl rfl rfl rfl rfl rfl rfl ⟨rfl, rfl, rfl, rfl, rfl⟩ rfl rfl rfl rfl rfl (by kernel_rfl) Tryd.func4 (by kernel_rfl)
    (of_decide_eq_true (by kernel_rfl)) (by unfold Func.isWrapper; first | (rw [if_pos (by decide +kernel)]; kernel_rfl) | (rw [if_neg (by decide +kernel)]; exact ⟨rfl, rfl⟩))
    (fun os started H enc _ F => by rw [OpenClaim.pre_eq_preRow]; exact keysBackUpto_lifted os started H enc F)
theorem keysBackUpto_plain (f : FuncId) (fn : Func) (hf : Tryd.pinned.checked.prog.funcNamed "exchequer/exchequerlaw04.KeysBack" = some f) (hfn : Tryd.pinned.checked.prog.funcs[f]? = some fn) :
    false = Tryd.pinned.checked.prog.looks [] ∧ ∀ (j : Nat) t, fn.params[j]? = some t → Tryd.pinned.checked.prog.wantsStandIn t = false := by
  obtain rfl : f = 4 := Option.some.inj ((show Tryd.prog.funcNamed "exchequer/exchequerlaw04.KeysBack" = some 4 by kernel_rfl).symm.trans hf) |>.symm
  obtain rfl : fn = Tryd.f4 := (Option.some.inj (Tryd.func4.symm.trans hfn)).symm
  refine ⟨by kernel_rfl, fun j t ht => ?_⟩
  have hall : (Tryd.f4.params.all fun t => !Tryd.prog.wantsStandIn t) = true := by kernel_rfl
  have := Array.all_eq_true_iff_forall_mem.1 hall t (Array.mem_of_getElem? ht)
  have h2 : Tryd.prog.wantsStandIn t = false := by simpa using this
  exact h2
/-- THE CARD -/
theorem keysBackUpto_card : Rows.KeysBackUptoCardSaid :=
  Claim7.holds_tied_plain_at .later [] _ _ _ _ keysBackUpto_said (fun _ h => by cases h) (by kernel_rfl) (fun _ h => by cases h) keysBackUpto_row_tie rfl ⟨rfl, rfl⟩ (by kernel_rfl) rfl keysBackUpto_plain (by kernel_rfl)
#print axioms keysBackUpto_card
end Go.Proofs.YtkiakihffmafcaaDoor
