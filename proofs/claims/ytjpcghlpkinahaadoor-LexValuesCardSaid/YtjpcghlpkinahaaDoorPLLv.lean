/- LexValues: of any value's text the tokens are what the chapter says; on the condition of the row alone: that lex.words holds what the program's text lays. -/
import Derived.Test.YtjpcghlpkinahaaDoorP6
namespace Go.Proofs.YtjpcghlpkinahaaDoor
open Go.Ax Go.ChangeShapes Go.WideShapes Go.ChangeAt Go.RowKit Go.ChangeMaps
/-! ## exchequer/exchequerlaw12.LexValues -/
def lVals_px (R : Type) : Px R := ⟨ttOf ttL, glT, callT [(8, callOr [] [.bool] known_F), (15, callOr [.sv .val] [.str] vprint_F), (16, callOr [.str] [.sl .tok true, .int .i64, .int .i64] lall_F), (17, callOr [.sv .val] [.int .i64] vcheck_F)], callQT [], loopT []⟩
def lVals_body (x : HV [.sv .val]) : Option (HV [.bool]) := match x with
 | v =>
  cond (decide (1500 < (v.s.length : Int))) (
   some known) (
   cond (decide ((vprint v) = [])) (
    let j := fun (p : Bool) =>
     cond (p) (
      cond (decide ((((lall (vprint v)).1).length : Int) = 0)) (
       some known) (
       some false)) (
      some false)
    cond (!decide ((vcheck v) = 0)) (
     j (decide ((lall (vprint v)).2.2 = 0))) (
     j false)) (
    let j1 := fun (p6 : Bool) =>
     cond (p6) (
      cond (decide ((lall (vprint v)).2.2 = 11)) (
       some known) (
       some false)) (
      cond (!decide ((lall (vprint v)).2.2 = 0)) (
       some false) (
       cond (decide ((((lall (vprint v)).1).length : Int) = 0)) (
        some false) (
        chk (inb (wr .i64 ((((lall (vprint v)).1).length : Int) - 1)) (((lall (vprint v)).1).length)) (
         let j6 := fun (p11 : Bool) =>
          cond (p11) (
           let j2 := fun (p12 : Bool) =>
            cond (p12) (
             cond (decide (((at' .tok ((lall (vprint v)).1) (wr .i64 ((((lall (vprint v)).1).length : Int) - 1))).s) = (vprint v))) (
              some known) (
              some false)) (
             some false)
           cond (decide ((((lall (vprint v)).1).length : Int) = 1)) (
            j2 (decide ((at' .tok ((lall (vprint v)).1) (wr .i64 ((((lall (vprint v)).1).length : Int) - 1))).kind = 1))) (
            j2 false)) (
           cond (decide (v.kind = 3)) (
            cond (decide (v.n < 0)) (
             let j3 := fun (p17 : Bool) =>
              cond (p17) (
               cond (decide ((at' .tok ((lall (vprint v)).1) (wr .i64 ((((lall (vprint v)).1).length : Int) - 1))).n = (wr .i64 (0 - v.n)))) (
                some known) (
                some false)) (
               some false)
             cond (decide ((((lall (vprint v)).1).length : Int) = 2)) (
              chk (inb 0 (((lall (vprint v)).1).length)) (
               j3 (decide (((at' .tok ((lall (vprint v)).1) 0).s) = [45])))) (
              j3 false)) (
             let j4 := fun (p22 : Bool) =>
              cond (p22) (
               cond (decide ((at' .tok ((lall (vprint v)).1) (wr .i64 ((((lall (vprint v)).1).length : Int) - 1))).n = v.n)) (
                some known) (
                some false)) (
               some false)
             cond (decide ((((lall (vprint v)).1).length : Int) = 1)) (
              j4 (decide ((at' .tok ((lall (vprint v)).1) (wr .i64 ((((lall (vprint v)).1).length : Int) - 1))).kind = 3))) (
              j4 false))) (
            cond (decide (v.kind = 4)) (
             let j5 := fun (p27 : Bool) =>
              cond (p27) (
               cond (decide (((at' .tok ((lall (vprint v)).1) (wr .i64 ((((lall (vprint v)).1).length : Int) - 1))).s) = v.s)) (
                some known) (
                some false)) (
               some false)
             cond (decide ((((lall (vprint v)).1).length : Int) = 1)) (
              j5 (decide ((at' .tok ((lall (vprint v)).1) (wr .i64 ((((lall (vprint v)).1).length : Int) - 1))).kind = 4))) (
              j5 false)) (
             let j7 := fun (p32 : Bool) =>
              cond (p32) (
               cond (decide (((at' .tok ((lall (vprint v)).1) (wr .i64 ((((lall (vprint v)).1).length : Int) - 1))).s) = v.s)) (
                some known) (
                some false)) (
               some false)
             cond (decide ((((lall (vprint v)).1).length : Int) = 1)) (
              j7 (decide ((at' .tok ((lall (vprint v)).1) (wr .i64 ((((lall (vprint v)).1).length : Int) - 1))).kind = 5))) (
              j7 false))))
         cond (decide (v.kind = 1)) (
          j6 (decide (v.kind = 1))) (
          j6 (decide (v.kind = 2)))))))
    cond (decide (v.kind = 3)) (
     j1 (decide (v.n = (-9223372036854775808)))) (
     j1 false)))
theorem lVals_eq : ∀ (x : HV [.sv .val]), runF (lVals_px _) Tryd.f4 [.sv .val] [.bool] x some = lVals_body x
  | v => by kernel_rfl
theorem lVals_run : FnOk Tryd.prog elT glT 4 [.sv .val] [.bool] (lVals_body) := by
  refine fnOk_run Tryd.func4 rfl (by kernel_rfl) follows (by kernel_rfl) (n := 0) (by kernel_rfl) (px := lVals_px _) (fun cx hP hel hgl => ?_) (lVals_eq)
  have hp0 : PxOk cx (lVals_px (HV [.bool])) := ⟨fun t => by rw [hP, hel]; exact tt_ok ttL_ok t, by rw [hgl]; rfl⟩
  have hc0 : CallOk cx (lVals_px (HV [.bool])) := callT_ok rfl (cfs_cons (cf_or (by rw [hP, hel, hgl]; exact known_ok) (by kernel_rfl)) (cfs_cons (cf_or (by rw [hP, hel, hgl]; exact vprint_ok) (by kernel_rfl)) (cfs_cons (cf_or (by rw [hP, hel, hgl]; exact lall_ok) (by kernel_rfl)) (cfs_cons (cf_or (by rw [hP, hel, hgl]; exact vcheck_ok) (by kernel_rfl)) cfs_nil))))
  have hq0 : CallQOk cx (lVals_px (HV [.bool])) := callQT_ok rfl cqfs_nil
  exact ⟨hp0, hc0, hq0, all0⟩
theorem cls_tok {m : Str} {x : Int × Str × Int × Nat} (h : Lp.tokS m = some x) : Lp.clsF (Sx.byt m 0) ≠ 6 := by
  intro h6
  unfold Lp.tokS at h
  by_cases hp : Lp.pre m [120, 39] = true
  · have e := Lp.pre_head hp
    rw [e] at h6
    exact absurd h6 (by decide +kernel)
  · rw [if_neg hp, if_neg (by rw [h6]; decide), if_neg (by rw [h6]; decide), if_neg (by rw [h6]; decide), if_neg (by rw [h6]; decide), if_neg (by rw [h6]; decide)] at h
    cases h
theorem lall_sc {s : Str} {ts : List Go.Ax.Tok} (hl : s.length ≤ 20000) (h : Lp.Sc s 0 ts) : lall s = (ts, 0, 0) := by
  simp only [lall, allP]
  rw [if_neg (by omega), Lp.allF_of_sc h]
theorem lall_er {s : Str} {j : Int} (hl : s.length ≤ 20000) (h : Lp.Er s 0 j) : lall s = ([], j, 11) := by
  simp only [lall, allP]
  rw [if_neg (by omega), Lp.allF_of_er h]
theorem sc_last {s : Str} {p k n : Int} {x : Str} {e : Nat} (h : Lp.tokS s = some (k, x, n, e)) (he : e = s.length) : Lp.Sc s p [⟨k, p, x, n⟩] :=
  .tok (cls_tok h) h (by rw [he, List.drop_length]; exact .nil)
theorem tokS_minus (r : Str) : Lp.tokS (45 :: r) = some (6, [45], 0, 1) := by
  have hp : Lp.pre (45 :: r) [120, 39] = false := by simp [Lp.pre]
  have hc : Lp.clsF (Sx.byt (45 :: r) 0) = 7 := by
    have e : Sx.byt (45 :: r) 0 = 45 := rfl
    rw [e]; decide +kernel
  have h2 : Lp.twoS (45 :: r) = false := by simp [Lp.twoS, Lp.pre]
  unfold Lp.tokS
  rw [hp, if_neg (by simp), if_neg (by rw [hc]; decide), if_neg (by rw [hc]; decide), if_neg (by rw [hc]; decide), if_neg (by rw [hc]; decide), if_pos hc, h2]
  rfl
theorem natT_len {n : Nat} (h : (n : Int) ≤ 9223372036854775808) : (natT n).length ≤ 20 := by
  unfold natT
  split
  · simp
  · rw [txt_len]
    exact digs_len 20 n (by
      have : pw 20 = 100000000000000000000 := by kernel_rfl
      omega)
theorem vprint_len {v : Val} (h : vright v = true) (hn : inI v.n) : (vprint v).length ≤ 3000 := by
  simp only [vprint, h, cond_t]
  split
  · split <;> simp
  · split
    · simp only [inI] at hn
      by_cases h0 : v.n < 0
      · rw [numT_neg h0]
        have := natT_len (n := v.n.natAbs) (by omega)
        simp only [List.length_cons]; omega
      · rw [numT_nat (by omega)]
        have := natT_len (n := v.n.natAbs) (by omega)
        omega
    · split
      · rename_i h4
        have h1 := right_len h (.inl h4)
        have h2 := quo_len v.s
        simp only [List.length_cons, List.length_append, List.length_nil]; omega
      · split
        · rename_i h5
          have h1 := right_len h (.inr h5)
          have h2 := hexs_len v.s
          simp only [List.length_cons, List.length_append, List.length_nil]; omega
        · simp
theorem vprint_none {v : Val} (h : vright v = false) : vprint v = [] := by simp [vprint, h]
theorem vprint_ne {v : Val} (h : vright v = true) : vprint v ≠ [] := by
  simp only [vprint, h, cond_t]
  split
  · split <;> simp
  · split
    · by_cases h0 : v.n < 0
      · rw [numT_neg h0]; simp
      · rw [numT_nat (by omega)]; exact natT_ne _
    · split
      · simp
      · split <;> simp
theorem vcheck_no {v : Val} (h : vright v = false) : decide (vcheck v = 0) = false := by
  simp only [vcheck, h]
  rfl
theorem lVals_true (v : Val) (hb : inI v.n) : lVals_body v = some true := by
  simp only [lVals_body]
  by_cases hbig : 1500 < (v.s.length : Int)
  · rw [decide_eq_true hbig]; rfl
  · rw [decide_eq_false hbig, cond_f]
    cases hr : vright v with
    | false =>
      have e := vprint_none hr
      have hl : lall [] = ([], 0, 0) := lall_sc (by simp) .nil
      rw [e, decide_eq_true rfl, cond_t, vcheck_no hr, hl]
      rfl
    | true =>
      have hlen := vprint_len hr hb
      rw [decide_eq_false (vprint_ne hr), cond_f]
      have one : (v.kind = 3 → 0 ≤ v.n) → lall (vprint v) = ([⟨(vtok v).1, 0, (vtok v).2.1, (vtok v).2.2⟩], 0, 0) := fun h3 => by
        have h := tokS_val (r := []) hr (fun hk => ⟨h3 hk, by simp only [inI] at hb; omega⟩) dlm_nil
        rw [List.append_nil] at h
        exact lall_sc (by omega) (sc_last h rfl)
      have hA : ∀ t : Go.Ax.Tok, at' .tok [t] (wr .i64 (((([t] : List Go.Ax.Tok).length : Nat) : Int) - 1)) = t := fun _ => rfl
      have hB : ∀ t u : Go.Ax.Tok, at' .tok [t, u] (wr .i64 (((([t, u] : List Go.Ax.Tok).length : Nat) : Int) - 1)) = u := fun _ _ => rfl
      have hI : ∀ t : Go.Ax.Tok, inb (wr .i64 (((([t] : List Go.Ax.Tok).length : Nat) : Int) - 1)) ([t] : List Go.Ax.Tok).length = true := fun _ => rfl
      have hJ : ∀ t u : Go.Ax.Tok, inb (wr .i64 (((([t, u] : List Go.Ax.Tok).length : Nat) : Int) - 1)) ([t, u] : List Go.Ax.Tok).length = true := fun _ _ => rfl
      have h1 : ∀ t : Go.Ax.Tok, decide (((([t] : List Go.Ax.Tok).length : Nat) : Int) = 1) = true := fun _ => rfl
      have h0 : ∀ t : Go.Ax.Tok, decide (((([t] : List Go.Ax.Tok).length : Nat) : Int) = 0) = false := fun _ => rfl
      rcases vright_kind hr with hk | hk | hk | hk | hk
      · have e2 : vtok v = (1, vprint v, 0) := by simp [vtok, hk]
        simp only [one (fun h => by omega), e2, hA, hI, h1, h0, hk]
        simp [known, chk]
      · have e2 : vtok v = (1, vprint v, 0) := by simp [vtok, hk]
        simp only [one (fun h => by omega), e2, hA, hI, h1, h0, hk]
        simp [known, chk]
      · by_cases hneg : v.n < 0
        · have ep : vprint v = 45 :: natT v.n.natAbs := by simp only [vprint, hr, hk]; rw [← numT_neg hneg]; rfl
          have ht := tokS_nat (n := v.n.natAbs) dlm_nil
          rw [List.append_nil] at ht
          simp only [inI] at hb
          by_cases hmin : v.n = -9223372036854775808
          · have hl : lall (vprint v) = ([], 1, 11) := by
              refine lall_er (by omega) ?_
              rw [ep]
              refine .tok (cls_tok (tokS_minus _)) (tokS_minus _) ?_
              rw [if_neg (by omega)] at ht
              refine .bad (natT_ne _) ?_ ht
              have hd := natT_di v.n.natAbs
              show Lp.clsF (Sx.byt (natT v.n.natAbs) 0) ≠ 6
              cases hw : natT v.n.natAbs with
              | nil => exact absurd hw (natT_ne _)
              | cons c t =>
                rw [hw] at hd
                simp only [List.all_cons, Bool.and_eq_true] at hd
                have e := Lp.cls_di hd.1
                have e2 : Sx.byt (c :: t) 0 = (c.toNat : Int) := rfl
                rw [e2, e]
                decide
            simp only [hl, hk, hmin]
            simp [known]
          · rw [if_pos (by omega)] at ht
            have hl : lall (vprint v) = ([⟨6, 0, [45], 0⟩, ⟨3, 1, natT v.n.natAbs, (v.n.natAbs : Int)⟩], 0, 0) := by
              refine lall_sc (by omega) ?_
              rw [ep]
              exact .tok (cls_tok (tokS_minus _)) (tokS_minus _) (sc_last ht rfl)
            have ew : wr .i64 (0 - v.n) = (v.n.natAbs : Int) := by rw [wr_id (by simp only [inI]; omega)]; omega
            simp only [hl, hk, hB, hJ, ew]
            simp [known, hmin, hneg]
            rfl
        · have e2 : vtok v = (3, natT v.n.natAbs, v.n) := by simp [vtok, hk]
          have hmin : ¬ v.n = -9223372036854775808 := by omega
          simp only [one (fun _ => by omega), e2, hA, hI, h1, h0, hk]
          simp [known, hneg, hmin, chk]
      · have e2 : vtok v = (4, v.s, 0) := by simp [vtok, hk]
        simp only [one (fun h => by omega), e2, hA, hI, h1, h0, hk]
        simp [known, chk]
      · have e2 : vtok v = (5, v.s, 0) := by simp [vtok, hk]
        simp only [one (fun h => by omega), e2, hA, hI, h1, h0, hk]
        simp [known, chk]
def lVals_F : FT [.sv .val] [.bool] := fun _ => some true
theorem lVals_ok : FnOk Tryd.prog elT glT 4 [.sv .val] [.bool] lVals_F := .fin0 lVals_run fun v _ hb hx => (lVals_true v hb.2.1).trans hx
theorem lexValues_lists : Lists Rows.lexValuesRow.laid := by
  refine ⟨by kernel_rfl, ?_⟩
  simp [Rows.lexValuesRow]
set_option maxRecDepth 100000 in
theorem lexValues_contract (H : Type) (enc : TypeId × Value → H) (W : World) (base : Nat) (args : Array Value) (ds gs : List (DataW H)) (before : List MemPlace)
    (hval : ∀ (j : Nat) t v, Tryd.f4.params[j]? = some t → args[j]? = some v → Value.okWide Tryd.prog W .any base t v)
    (hW : DataW.Whole enc Tryd.prog Tryd.f4.params.toList Rows.lexValuesSpec.vars false W args.toList ds gs before) (hL : laidMetH Tryd.prog Rows.lexValuesRow.laid W) (hS : W.ShapedOpen Tryd.prog)
    (hsz : (DataW.weightsEach Tryd.prog (Tryd.f4.params.toList ++ (OpenSpec.ofChange Rows.lexValuesSpec).bare.plain.varTypes Tryd.prog) (ds ++ gs)).all (· ≤ reachBytes) = true) :
    Calls Tryd.prog 4 args W fun e W' => ∃ v, e = .returned v ∧ Rows.lexValuesSpec.post enc Tryd.prog Tryd.f4 false true false false W args v W' :=
  law_frame (msr_weights _) (fn := Tryd.f4) lVals_ok (fun _ _ _ => rfl) (by kernel_rfl) rfl (fun ds h => match ds, h with | [_], _ => ⟨rfl, rfl, rfl⟩) (by kernel_rfl) (by kernel_rfl) hval hW (all_glR lexValues_lists hL hS) (fun hl => sizes_of hsz (Nat.le_of_eq hl))
theorem lexValues_laid_met (os : Os) (args : Array Value) : laidMet Tryd.prog Rows.lexValuesRow.laid ((laidWorld os).forCall (fun _ _ => 0) ⟨#[], args, []⟩).memory :=
  laidMet_of_run' 8 (by kernel_rfl) (by kernel_rfl)
theorem lexValues_reads (os : Os) {H : Type} (enc : TypeId × Value → H) : ∃ places, DataW.whole enc Tryd.prog ((laidWorld os).forCall (fun _ _ => 0) ⟨#[], #[.agg #[.int .i64 0, .int .i64 0, .string ⟨#[]⟩]], []⟩).memory Tryd.f4.params.toList Rows.lexValuesSpec.vars false (#[.agg #[.int .i64 0, .int .i64 0, .string ⟨#[]⟩]] : Array Value).toList 8 = some ([.agg [.lit (.int .i64 0), .lit (.int .i64 0), .lit (.string [])]], [], places) :=
  ⟨[], by kernel_rfl⟩
set_option maxRecDepth 100000 in
theorem lexValues_lifted (os : Os) (started : os.Started) (H : Type) (enc : TypeId × Value → H) (F : Stop.Interp) :
    ReturnsInHanded {} Tryd.checked os 4 .any ((OpenSpec.ofChange Rows.lexValuesSpec).preRow enc Tryd.prog Tryd.f4 Rows.lexValuesRow.domain false Rows.lexValuesRow.laid) (((OpenSpec.ofChange Rows.lexValuesSpec).at F).post enc Tryd.prog Tryd.f4 false true false false) := by
  obtain ⟨places, hx⟩ := lexValues_reads os enc
  refine returnsInHanded_of_row (C := Tryd.checked) (s := OpenSpec.ofChange Rows.lexValuesSpec) own started (by kernel_rfl) Tryd.func4
    (witness_row_at (enc := enc) (C := Tryd.checked) false (laidWorld os) #[.agg #[.int .i64 0, .int .i64 0, .string ⟨#[]⟩]] rfl (by kernel_rfl) (by kernel_rfl) (by kernel_rfl)
      (OpenSpec.preRow_of_cond 8 hx (by kernel_rfl) (fun k hk => by cases hk) (by kernel_rfl) (lexValues_laid_met os _))) ?_
  intro W base args ds gs before hval hW _ _ hsz hL hS _
  exact lexValues_contract H enc W base args ds gs before hval hW hL hS hsz
theorem lexValues_said : Rows.LexValuesSaid :=
  OpenClaim.holds_of_cond 4 Tryd.f4 rfl rfl rfl rfl rfl rfl rfl ⟨rfl, rfl, rfl, rfl, rfl⟩ rfl rfl rfl rfl rfl (by kernel_rfl) Tryd.func4 (by kernel_rfl)
    (of_decide_eq_true (by kernel_rfl)) (by unfold Func.isWrapper; first | (rw [if_pos (by decide +kernel)]; kernel_rfl) | (rw [if_neg (by decide +kernel)]; exact ⟨rfl, rfl⟩))
    (fun os started H enc _ F => by rw [OpenClaim.pre_eq_preRow]; exact lexValues_lifted os started H enc F)
theorem lexValues_plain (f : FuncId) (fn : Func) (hf : Tryd.pinned.checked.prog.funcNamed "exchequer/exchequerlaw12.LexValues" = some f) (hfn : Tryd.pinned.checked.prog.funcs[f]? = some fn) :
    false = Tryd.pinned.checked.prog.looks [] ∧ ∀ (j : Nat) t, fn.params[j]? = some t → Tryd.pinned.checked.prog.wantsStandIn t = false := by
  obtain rfl : f = 4 := Option.some.inj ((show Tryd.prog.funcNamed "exchequer/exchequerlaw12.LexValues" = some 4 by kernel_rfl).symm.trans hf) |>.symm
  obtain rfl : fn = Tryd.f4 := (Option.some.inj (Tryd.func4.symm.trans hfn)).symm
  refine ⟨by kernel_rfl, fun j t ht => ?_⟩
  have hall : (Tryd.f4.params.all fun t => !Tryd.prog.wantsStandIn t) = true := by kernel_rfl
  have := Array.all_eq_true_iff_forall_mem.1 hall t (Array.mem_of_getElem? ht)
  have h2 : Tryd.prog.wantsStandIn t = false := by simpa using this
  exact h2
/-- THE CARD -/
theorem lexValues_card : Rows.LexValuesCardSaid :=
  Claim7.holds_tied_plain_at .later [] _ _ _ _ lexValues_said (fun _ h => by cases h) (by kernel_rfl) (fun _ h => by cases h) lexValues_row_tie rfl ⟨rfl, rfl⟩ (by kernel_rfl) rfl lexValues_plain (by kernel_rfl)
#print axioms lexValues_card
end Go.Proofs.YtjpcghlpkinahaaDoor
