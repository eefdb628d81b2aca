/- KeysFront: a row's bytes begin with those of each beginning of it, and lie between these and the least beyond them; a row that begins otherwise does not; where the arguments are of bulk at most 1048576; on the condition of the row alone: that the tables of unicode/utf8 hold what the program's text lays. -/
import Derived.Test.YtkiakihffmafcaaDoorB6
namespace Go.Proofs.YtkiakihffmafcaaDoor
open Go.Ax Go.ChangeShapes Go.WideShapes Go.ChangeAt Go.RowKit Go.ChangeMaps
/-! ## exchequer/exchequerlaw04.KeysFront -/
def lFront_px (R : Type) : Px R := ⟨ttOf ttL, glT, callT [(9, callOr [.sl .val false] [.bool] long_F), (10, callOr [] [.bool] known_F), (11, callOr [.sl .val false] [.sl .byte true, .int .i64] kenc_F), (20, callOr [.sl .byte false] [.sl .byte false] knext_F), (19, callOr [.sl .byte false, .sl .byte false] [.bool] kbeg_F), (23, callOr [.sl .byte false, .sl .byte false] [.int .i64] kcm_F)], callQT [(16, callOrQ [.sl .val false, .sl .val false] [.int .i64] rrows_F)], loopT []⟩
def lFront_body (x : HV [.sl .val false, .sl .val false, .int .i64]) : Option (HV [.bool]) := match x with
 | (a, b, z) =>
  (long a).bind fun x =>
   cond (x) (
    some known) (
    (long b).bind fun x1 =>
     cond (x1) (
      some known) (
      chk (!decide ((wr .u64 (wr .i64 ((a.length : Int) + 1))) = 0)) (
       (kenc a).bind fun (x2, x3) =>
        chk (upto 0 (wr .i64 (Int.tmod (wr .u64 z) (wr .u64 (wr .i64 ((a.length : Int) + 1))))) a.length) (
         (kenc (a.take ((wr .i64 (Int.tmod (wr .u64 z) (wr .u64 (wr .i64 ((a.length : Int) + 1))))) : Int).toNat)).bind fun (x4, x5) =>
          (kenc b).bind fun (x6, x7) =>
           cond (!decide (x3 = 0)) (
            some known) (
            cond (!decide (x5 = 0)) (
             some known) (
             cond (!decide (x7 = 0)) (
              some known) (
              (knext x4).bind fun x8 =>
               let j3 := fun (_ : Unit) =>
                let j2 := fun (p11 : Bool) =>
                 let j1 := fun (p14 : Bool) =>
                  cond (decide (p11 = p14)) (
                   cond (decide (p11 = (kbeg x6 x4))) (
                    some known) (
                    some false)) (
                   some false)
                 cond (decide ((kcm x4 x6) ≤ 0)) (
                  cond (decide ((x8.length : Int) = 0)) (
                   j1 true) (
                   j1 (decide ((kcm x6 x8) < 0)))) (
                  j1 false)
                cond (decide ((wr .i64 (Int.tmod (wr .u64 z) (wr .u64 (wr .i64 ((a.length : Int) + 1))))) ≤ (b.length : Int))) (
                 chk (upto 0 (wr .i64 (Int.tmod (wr .u64 z) (wr .u64 (wr .i64 ((a.length : Int) + 1))))) a.length) (
                  chk (upto 0 (min2 (wr .i64 (Int.tmod (wr .u64 z) (wr .u64 (wr .i64 ((a.length : Int) + 1))))) (b.length : Int)) b.length) (
                   j2 (decide ((rrows (a.take ((wr .i64 (Int.tmod (wr .u64 z) (wr .u64 (wr .i64 ((a.length : Int) + 1))))) : Int).toNat) (b.take ((min2 (wr .i64 (Int.tmod (wr .u64 z) (wr .u64 (wr .i64 ((a.length : Int) + 1))))) (b.length : Int)) : Int).toNat)) = 0))))) (
                 j2 false)
               let j := fun (p6 : Bool) =>
                cond (p6) (
                 some false) (
                 cond (decide (0 < (x8.length : Int))) (
                  cond (decide (0 ≤ (kcm x2 x8))) (
                   some false) (
                   j3 ())) (
                  j3 ()))
               cond (!(kbeg x2 x4)) (
                j true) (
                j (decide (0 < (kcm x4 x2)))))))))))
theorem lFront_eq : ∀ (x : HV [.sl .val false, .sl .val false, .int .i64]), runF (lFront_px _) Tryd.f8 [.sl .val false, .sl .val false, .int .i64] [.bool] x some = lFront_body x
  | (a, b, z) => by kernel_rfl
theorem lFront_run : FnOk Tryd.prog elT glT 8 [.sl .val false, .sl .val false, .int .i64] [.bool] (lFront_body) := by
  refine fnOk_run Tryd.func8 rfl (by kernel_rfl) follows (by kernel_rfl) (n := 0) (by kernel_rfl) (px := lFront_px _) (fun cx hP hel hgl => ?_) (lFront_eq)
  have hp0 : PxOk cx (lFront_px (HV [.bool])) := ⟨fun t => by rw [hP, hel]; exact tt_ok ttL_ok t, by rw [hgl]; rfl⟩
  have hc0 : CallOk cx (lFront_px (HV [.bool])) := callT_ok rfl (cfs_cons (cf_or (by rw [hP, hel, hgl]; exact long_ok) (by kernel_rfl)) (cfs_cons (cf_or (by rw [hP, hel, hgl]; exact known_ok) (by kernel_rfl)) (cfs_cons (cf_or (by rw [hP, hel, hgl]; exact kenc_ok) (by kernel_rfl)) (cfs_cons (cf_or (by rw [hP, hel, hgl]; exact knext_ok) (by kernel_rfl)) (cfs_cons (cf_or (by rw [hP, hel, hgl]; exact kbeg_ok) (by kernel_rfl)) (cfs_cons (cf_or (by rw [hP, hel, hgl]; exact kcm_ok) (by kernel_rfl)) cfs_nil))))))
  have hq0 : CallQOk cx (lFront_px (HV [.bool])) := callQT_ok rfl (cqfs_cons (cqf_or (by rw [hP, hel, hgl]; exact rrows_ok) (by kernel_rfl)) cqfs_nil)
  exact ⟨hp0, hc0, hq0, all0⟩
theorem min2_nat' (n m : Nat) : min2 (n : Int) (m : Int) = ((min n m : Nat) : Int) := by
  simp only [min2]
  split <;> omega
theorem lFront_true {a b : List Val} {z : Int} (za : vsz a ≤ 4611686018427387904) (zb : vsz b ≤ 4611686018427387904) (na : ∀ v, v ∈ a → inI v.n) (nb : ∀ v, v ∈ b → inI v.n) (hc : inI z) : lFront_body (a, b, z) = some true := by
  simp only [lFront_body, long_some za, Option.bind_some]
  by_cases h : 3000 < vsz a
  · simp only [decide_eq_true h, cond_t]
  · simp only [decide_eq_false h, cond_f, long_some zb, Option.bind_some]
    by_cases h2 : 3000 < vsz b
    · simp only [decide_eq_true h2, cond_t]
    · have ga := vsz_ge a
      obtain ⟨p1, k, hk, p2⟩ := pick_at hc (show a.length ≤ 1000000 by omega)
      have ta := vsz_take a k
      simp only [decide_eq_false h2, cond_f, p1, p2, Int.toNat_natCast, upto_n hk, chk, cond_t, kenc_some (show vsz a ≤ 100000 by omega), kenc_some (show vsz b ≤ 100000 by omega), kenc_some (show vsz (a.take k) ≤ 100000 by omega), Option.bind_some]
      cases hp : a.all vright with
      | false => rfl
      | true =>
        have hp2 := all_take hp k
        cases hq : b.all vright with
        | false => simp only [hp2]; rfl
        | true =>
          have lp := encs_len (a.take k)
          simp only [hp2, cond_t, decide_true, Bool.not_true, cond_f, knext_some (show (encs (a.take k)).length ≤ 1000000 by omega), Option.bind_some]
          have hax : encs (a.take k) <+: encs a := (encs_begins hp2 hp (n_take na k) na).2 ⟨a.drop k, List.take_append_drop _ _⟩
          have b1 : kbeg (encs a) (encs (a.take k)) = true := decide_eq_true hax
          obtain ⟨c1, c2⟩ := (nxt_iff _ _).2 hax
          have d1 : kcm (encs (a.take k)) (encs a) = scmp (encs (a.take k)) (encs a) := rfl
          have d2 : ∀ x y, kcm x y = scmp x y := fun _ _ => rfl
          simp only [b1, d2, Bool.not_true, cond_f, decide_eq_false (show ¬ 0 < scmp (encs (a.take k)) (encs a) by omega)]
          have hin : (decide ((k : Int) ≤ (b.length : Int)) && decide (rrows (a.take k) (b.take (min k b.length)) = 0)) = decide (encs (a.take k) <+: encs b) := by
            rw [Bool.eq_iff_iff]
            simp only [Bool.and_eq_true, decide_eq_true_eq]
            rw [encs_begins hp2 hq (n_take na k) nb]
            constructor
            · rintro ⟨e1, e2⟩
              have e3 := (vrows_lin.eq _ _).1 e2
              rw [e3]
              exact List.take_prefix _ _
            · intro e
              have e0 := e.length_le
              rw [List.length_take] at e0
              have e1 : k ≤ b.length := by omega
              refine ⟨by omega, ?_⟩
              have e2 := List.prefix_iff_eq_take.1 e
              rw [List.length_take, Nat.min_eq_left hk] at e2
              rw [Nat.min_eq_left e1, ← e2]
              exact rrows_self _
          have hbt : (decide (scmp (encs (a.take k)) (encs b) ≤ 0) && (decide (((nxt (encs (a.take k))).length : Int) = 0) || decide (scmp (encs b) (nxt (encs (a.take k))) < 0))) = decide (encs (a.take k) <+: encs b) := by
            rw [Bool.eq_iff_iff]
            simp only [Bool.and_eq_true, Bool.or_eq_true, decide_eq_true_eq]
            rw [← nxt_iff]
            have : ((nxt (encs (a.take k))).length : Int) = 0 ↔ nxt (encs (a.take k)) = [] := by
              rw [← List.length_eq_zero_iff]; omega
            rw [this]
          have e2 : kbeg (encs b) (encs (a.take k)) = decide (encs (a.take k) <+: encs b) := rfl
          have e3 : k ≤ b.length → upto 0 (min2 (k : Int) (b.length : Int)) b.length = true := fun _ => by
            rw [min2_nat']
            exact upto_n (Nat.min_le_right _ _)
          have fin : ∀ (i t : Bool), i = decide (encs (a.take k) <+: encs b) → t = decide (encs (a.take k) <+: encs b) → cond (decide (i = t)) (cond (decide (i = kbeg (encs b) (encs (a.take k)))) (some known) (some false)) (some false) = some true := by
            intro i t hi ht
            rw [hi, ht, e2]
            simp
          have j3 : cond (decide ((k : Int) ≤ (b.length : Int))) (cond (upto 0 (min2 (k : Int) (b.length : Int)) b.length) (cond (decide (scmp (encs (a.take k)) (encs b) ≤ 0)) (cond (decide (((nxt (encs (a.take k))).length : Int) = 0)) (cond (decide (decide (rrows (a.take k) (b.take (min2 (k : Int) (b.length : Int)).toNat) = 0) = true)) (cond (decide (decide (rrows (a.take k) (b.take (min2 (k : Int) (b.length : Int)).toNat) = 0) = kbeg (encs b) (encs (a.take k)))) (some known) (some false)) (some false)) (cond (decide (decide (rrows (a.take k) (b.take (min2 (k : Int) (b.length : Int)).toNat) = 0) = decide (scmp (encs b) (nxt (encs (a.take k))) < 0))) (cond (decide (decide (rrows (a.take k) (b.take (min2 (k : Int) (b.length : Int)).toNat) = 0) = kbeg (encs b) (encs (a.take k)))) (some known) (some false)) (some false))) (cond (decide (decide (rrows (a.take k) (b.take (min2 (k : Int) (b.length : Int)).toNat) = 0) = false)) (cond (decide (decide (rrows (a.take k) (b.take (min2 (k : Int) (b.length : Int)).toNat) = 0) = kbeg (encs b) (encs (a.take k)))) (some known) (some false)) (some false))) none) (cond (decide (scmp (encs (a.take k)) (encs b) ≤ 0)) (cond (decide (((nxt (encs (a.take k))).length : Int) = 0)) (cond (decide (false = true)) (cond (decide (false = kbeg (encs b) (encs (a.take k)))) (some known) (some false)) (some false)) (cond (decide (false = decide (scmp (encs b) (nxt (encs (a.take k))) < 0))) (cond (decide (false = kbeg (encs b) (encs (a.take k)))) (some known) (some false)) (some false))) (cond (decide (false = false)) (cond (decide (false = kbeg (encs b) (encs (a.take k)))) (some known) (some false)) (some false))) = some true := by
            rw [min2_nat', Int.toNat_natCast]
            rw [min2_nat'] at e3
            cases hkb : decide ((k : Int) ≤ (b.length : Int)) with
            | true =>
              rw [hkb, Bool.true_and] at hin
              rw [cond_t, e3 (by have := of_decide_eq_true hkb; omega), cond_t]
              cases h1 : decide (scmp (encs (a.take k)) (encs b) ≤ 0) with
              | true =>
                rw [h1, Bool.true_and] at hbt
                rw [cond_t]
                cases h2 : decide (((nxt (encs (a.take k))).length : Int) = 0) with
                | true =>
                  rw [h2, Bool.true_or] at hbt
                  exact fin _ _ hin hbt
                | false =>
                  rw [h2, Bool.false_or] at hbt
                  exact fin _ _ hin hbt
              | false =>
                rw [h1, Bool.false_and] at hbt
                exact fin _ _ hin hbt
            | false =>
              rw [hkb, Bool.false_and] at hin
              rw [cond_f]
              cases h1 : decide (scmp (encs (a.take k)) (encs b) ≤ 0) with
              | true =>
                rw [h1, Bool.true_and] at hbt
                rw [cond_t]
                cases h2 : decide (((nxt (encs (a.take k))).length : Int) = 0) with
                | true =>
                  rw [h2, Bool.true_or] at hbt
                  exact fin _ _ hin hbt
                | false =>
                  rw [h2, Bool.false_or] at hbt
                  exact fin _ _ hin hbt
              | false =>
                rw [h1, Bool.false_and] at hbt
                exact fin _ _ hin hbt
          by_cases h0 : 0 < ((nxt (encs (a.take k))).length : Int)
          · have h1 : ¬ 0 ≤ scmp (encs a) (nxt (encs (a.take k))) := by
              rcases c2 with c2 | c2
              · rw [c2] at h0; simp at h0
              · omega
            simp only [decide_eq_true h0, decide_eq_false h1, cond_t, cond_f]
            exact j3
          · simp only [decide_eq_false h0, cond_f]
            exact j3
theorem lFront_ok : FnOk Tryd.prog elT glT 8 [.sl .val false, .sl .val false, .int .i64] [.bool] lFront_body := .fin0 lFront_run fun _ _ _ hx => hx
set_option maxRecDepth 100000 in
theorem keysFrontUpto_contract (H : Type) (enc : TypeId × Value → H) (W : World) (base : Nat) (args : Array Value) (ds gs : List (DataW H)) (before : List MemPlace)
    (hval : ∀ (j : Nat) t v, Tryd.f8.params[j]? = some t → args[j]? = some v → Value.okWide Tryd.prog W .any base t v)
    (hW : DataW.Whole enc Tryd.prog Tryd.f8.params.toList Rows.keysFrontSpec.vars false W args.toList ds gs before) (hS : W.ShapedOpen Tryd.prog)
    (hsz : Rows.uptoSmall H (ds ++ gs) = true) :
    Calls Tryd.prog 8 args W fun e W' => ∃ v, e = .returned v ∧ Rows.keysFrontSpec.post enc Tryd.prog Tryd.f8 false true false false W args v W' :=
  law_frame (msr_bulk _ 1048576) (fn := Tryd.f8) lFront_ok (fun (_, _, _) hb hs => lFront_true (vsz_up hs.1.1 hs.1.2) (vsz_up hs.2.1.1 hs.2.1.2) (val_n hb.1.2) (val_n hb.2.1.2) (inK_i64 hb.2.2)) (by kernel_rfl) rfl (fun ds h => match ds, h with | [_, _, _], _ => ⟨rfl, rfl, rfl⟩) (by kernel_rfl) (by kernel_rfl) hval hW (shape_glR hS) (fun _ i t d _ hd => up_args hsz (by rw [List.getElem?_append_left (List.getElem?_eq_some_iff.1 hd).1]; exact hd))
theorem keysFrontUpto_laid_met (os : Os) (args : Array Value) : laidMet Tryd.prog Rows.keysFrontUptoRow.laid ((laidWorld os).forCall (fun _ _ => 0) ⟨#[], args, []⟩).memory :=
  laidMet_of_run' 8 (by kernel_rfl) (by kernel_rfl)
theorem keysFrontUpto_reads (os : Os) {H : Type} (enc : TypeId × Value → H) : ∃ places, DataW.whole enc Tryd.prog ((laidWorld os).forCall (fun _ _ => 0) ⟨#[], #[.slice none 0 0, .slice none 0 0, .int .i64 0], []⟩).memory Tryd.f8.params.toList Rows.keysFrontSpec.vars false (#[.slice none 0 0, .slice none 0 0, .int .i64 0] : Array Value).toList 8 = some ([.nil, .nil, .lit (.int .i64 0)], [], places) :=
  ⟨[], by kernel_rfl⟩
set_option maxRecDepth 100000 in
theorem keysFrontUpto_lifted (os : Os) (started : os.Started) (H : Type) (enc : TypeId × Value → H) (F : Stop.Interp) :
    ReturnsInHanded {} Tryd.checked os 8 .any ((Rows.OpenSpec.upto Rows.keysFrontSpec).preRow enc Tryd.prog Tryd.f8 Rows.keysFrontUptoRow.domain false Rows.keysFrontUptoRow.laid) (((Rows.OpenSpec.upto Rows.keysFrontSpec).at F).post enc Tryd.prog Tryd.f8 false true false false) := by
  obtain ⟨places, hx⟩ := keysFrontUpto_reads os enc
  refine returnsInHanded_of_row (C := Tryd.checked) (s := Rows.OpenSpec.upto Rows.keysFrontSpec) own started (by kernel_rfl) Tryd.func8
    (witness_row_at (enc := enc) (C := Tryd.checked) false (laidWorld os) #[.slice none 0 0, .slice none 0 0, .int .i64 0] rfl (by kernel_rfl) (by kernel_rfl) (by kernel_rfl)
      (OpenSpec.preRow_of_cond 8 hx (by kernel_rfl) (fun k hk => by cases hk; kernel_rfl) (by kernel_rfl) (keysFrontUpto_laid_met os _))) ?_
  intro W base args ds gs before hval hW _ hc _ _ hS _
  exact keysFrontUpto_contract H enc W base args ds gs before hval hW hS (hc _ rfl)
theorem keysFrontUpto_said : Rows.KeysFrontUptoSaid :=
  OpenClaim.holds_of_cond 8 Tryd.f8 rfl rfl rfl rfl rfl rfl rfl ⟨rfl, rfl, rfl, rfl, rfl⟩ rfl rfl rfl rfl rfl (by kernel_rfl) Tryd.func8 (by kernel_rfl)
    (of_decide_eq_true (by kernel_rfl)) (by unfold Func.isWrapper; first | (rw [if_pos (by decide +kernel)]; kernel_rfl) | (rw [if_neg (by decide +kernel)]; exact ⟨rfl, rfl⟩))
    (fun os started H enc _ F => by rw [OpenClaim.pre_eq_preRow]; exact keysFrontUpto_lifted os started H enc F)
theorem keysFrontUpto_plain (f : FuncId) (fn : Func) (hf : Tryd.pinned.checked.prog.funcNamed "exchequer/exchequerlaw04.KeysFront" = some f) (hfn : Tryd.pinned.checked.prog.funcs[f]? = some fn) :
    false = Tryd.pinned.checked.prog.looks [] ∧ ∀ (j : Nat) t, fn.params[j]? = some t → Tryd.pinned.checked.prog.wantsStandIn t = false := by
  obtain rfl : f = 8 := Option.some.inj ((show Tryd.prog.funcNamed "exchequer/exchequerlaw04.KeysFront" = some 8 by kernel_rfl).symm.trans hf) |>.symm
  obtain rfl : fn = Tryd.f8 := (Option.some.inj (Tryd.func8.symm.trans hfn)).symm
  refine ⟨by kernel_rfl, fun j t ht => ?_⟩
  have hall : (Tryd.f8.params.all fun t => !Tryd.prog.wantsStandIn t) = true := by kernel_rfl
  have := Array.all_eq_true_iff_forall_mem.1 hall t (Array.mem_of_getElem? ht)
  have h2 : Tryd.prog.wantsStandIn t = false := by simpa using this
  exact h2
/-- THE CARD -/
theorem keysFrontUpto_card : Rows.KeysFrontUptoCardSaid :=
  Claim7.holds_tied_plain_at .later [] _ _ _ _ keysFrontUpto_said (fun _ h => by cases h) (by kernel_rfl) (fun _ h => by cases h) keysFrontUpto_row_tie rfl ⟨rfl, rfl⟩ (by kernel_rfl) rfl keysFrontUpto_plain (by kernel_rfl)
#print axioms keysFrontUpto_card
end Go.Proofs.YtkiakihffmafcaaDoor
