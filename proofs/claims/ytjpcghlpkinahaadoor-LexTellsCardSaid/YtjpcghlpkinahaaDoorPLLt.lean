/- LexTells: whether any text is a word, or a name, is what the document says; all words are told, in their order, and are none's names; on the condition of the row alone: that lex.words holds what the program's text lays. -/
import Derived.Test.YtjpcghlpkinahaaDoorP6
namespace Go.Proofs.YtjpcghlpkinahaaDoor
open Go.Ax Go.ChangeShapes Go.WideShapes Go.ChangeAt Go.RowKit Go.ChangeMaps
/-! ## exchequer/exchequerlaw12.LexTells -/
def lTells_1_sg : Sig := ⟨99, [(0, .str), (1, .int .u8), (4, .bool), (6, .sl .str true), (7, .int .i64)], [], [(0, .one (.dn .str))], 1, 0, 0, [], [(5, 0, .str)]⟩
abbrev lTells_1_V := Str × Int × Bool × List Str × Int × List Str × Int × Int
def lTells_1 {R : Type} (rec : lTells_1_V → Option R) (kx : Ex → lTells_1_V → Option R) (v : lTells_1_V) : Option R := match v with
 | (v12, v13, v14, v15, v16, w, w1, w2) =>
  cond (decide (v16 < w2)) (
   chk (inO v16 w2) (
    chk (inb (w1 + v16) w.length) (
     chk (inb v16 v15.length) (
      let j1 := fun (p3 : Bool) =>
       cond (p3) (
        kx .ret (v12, v13, false, v15, v16, w, w1, w2)) (
        chk (inO v16 w2) (
         chk (inb (w1 + v16) w.length) (
          cond ((lname (at' .str w (w1 + v16)))) (
           kx .ret (v12, v13, false, v15, v16, w, w1, w2)) (
           rec (v12, v13, v14, v15, (wr .i64 (v16 + 1)), w, w1, w2)))))
      cond (!decide ((at' .str w (w1 + v16)) = (at' .str v15 v16))) (
       j1 true) (
       chk (inO v16 w2) (
        chk (inb (w1 + v16) w.length) (
         j1 (!(lword (at' .str w (w1 + v16))))))))))) (
   kx (.exit 0) (v12, v13, v14, v15, v16, w, w1, w2))
def lTells_0_sg : Sig := ⟨99, [(0, .str), (1, .int .u8), (4, .bool), (5, .sl .str false), (6, .sl .str true), (7, .int .i64)], [], [], 0, 0, 0, [], []⟩
abbrev lTells_0_V := Str × Int × Bool × List Str × List Str × Int
def lTells_0 {R : Type} (rec : lTells_0_V → Option R) (kx : Ex → lTells_0_V → Option R) (v : lTells_0_V) : Option R := match v with
 | (v, v1, v2, v3, v4, v5) =>
  cond (decide (v5 < (v3.length : Int))) (
   chk (inb v5 v3.length) (
    chk (inb v5 v4.length) (
     let j := fun (p : Bool) =>
      cond (p) (
       kx .ret (v, v1, false, v3, v4, v5)) (
       chk (inb v5 v3.length) (
        cond ((lname (at' .str v3 v5))) (
         kx .ret (v, v1, false, v3, v4, v5)) (
         rec (v, v1, v2, v3, v4, (wr .i64 (v5 + 1))))))
     cond (!decide ((at' .str v3 v5) = (at' .str v4 v5))) (
      j true) (
      chk (inb v5 v3.length) (
       j (!(lword (at' .str v3 v5)))))))) (
   kx (.exit 0) (v, v1, v2, v3, v4, v5))
noncomputable def lTells_px (R : Type) (k : Nat) : Px R := ⟨ttOf ttL, glT, callT [(8, callOr [] [.bool] known_F), (9, callThaw [] .str lwords_F), (10, callOr [] [.sl .str true] rwords_F)], callQT [(11, callOrQ [.str] [.bool] lword_F), (12, callOrQ [.str] [.bool] lname_F), (13, callOrQ [.str] [.bool] rword_F), (14, callOrQ [.str] [.bool] rname_F), (8, callOrQ [] [.bool] known_F)], loopT [(8, loopTry k lTells_0_sg (lTells_0) (loopOr k lTells_1_sg (lTells_1)))]⟩
theorem lTells_0_eq (R : Type) (k : Nat) : ∀ (fr : List Fr) (rec : lTells_0_V → Option R) (kx : Ex → lTells_0_V → Option R) (v : lTells_0_V), round (lTells_px R k) lTells_0_sg (lp Tryd.f3 0) fr rec kx v = lTells_0 rec kx v
  | fr, rec, kx, (v, v1, v2, v3, v4, v5) => by kernel_rfl
theorem lTells_1_eq (R : Type) (k : Nat) : ∀ (fr : List Fr) (rec : lTells_1_V → Option R) (kx : Ex → lTells_1_V → Option R) (v : lTells_1_V), round (lTells_px R k) lTells_1_sg (lp Tryd.f3 0) fr rec kx v = lTells_1 rec kx v
  | fr, rec, kx, (v12, v13, v14, v15, v16, w, w1, w2) => by kernel_rfl
def lTells_body (k : Nat) (x : HV [.str, .int .u8]) : Option (HV [.bool]) := match x with
 | (s, i) =>
  cond (decide (3000 < (s.length : Int))) (
   some known) (
   cond (List.isEmpty (lwords )) (
    cond (!decide (0 = (rwords.length : Int))) (
     some false) (
     iter (fun rec => lTells_0 rec (fun e v => match v with | (_, v7, v8, v9, _, _) => match e with
      | .ret =>
       some v8
      | .exit 0 =>
       chk (!decide ((v9.length : Int) = 0)) (
        chk (inb (Int.tmod (wr .i64 v7) (v9.length : Int)) v9.length) (
         none))
      | _ => none)) k (s, i, false, [], rwords, 0))) (
    cond (!decide (((lwords ).length : Int) = (rwords.length : Int))) (
     some false) (
     iter (fun rec => lTells_1 rec (fun e v => match v with | (v17, v18, v19, v20, _, v22, v23, v24) => match e with
      | .ret =>
       some v19
      | .exit 0 =>
       chk (!decide (v24 = 0)) (
        chk (inO (Int.tmod (wr .i64 v18) v24) v24) (
         chk (inb (v23 + (Int.tmod (wr .i64 v18) v24)) v22.length) (
          cond (List.isEmpty (lwords )) (
           let j3 := fun (p6 : Bool) =>
            let j2 := fun (p7 : Bool) =>
             cond (p7) (
              cond (decide ((lname v17) = (rname v17))) (
               some known) (
               some false)) (
              some false)
            cond (p6) (
             j2 (decide ((lword v17) = (rword v17)))) (
             j2 false)
           cond (decide (0 = (v20.length : Int))) (
            chk (!decide ((v20.length : Int) = 0)) (
             chk (inb (Int.tmod (wr .i64 v18) (v20.length : Int)) 0) (
              chk (!decide ((v20.length : Int) = 0)) (
               chk (inb (Int.tmod (wr .i64 v18) (v20.length : Int)) v20.length) (
                j3 (decide ((at' .str [] (Int.tmod (wr .i64 v18) (v20.length : Int))) = (at' .str v20 (Int.tmod (wr .i64 v18) (v20.length : Int)))))))))) (
            j3 false)) (
           let j5 := fun (p12 : Bool) =>
            let j4 := fun (p13 : Bool) =>
             cond (p13) (
              cond (decide ((lname v17) = (rname v17))) (
               some known) (
               some false)) (
              some false)
            cond (p12) (
             j4 (decide ((lword v17) = (rword v17)))) (
             j4 false)
           cond (decide (((lwords ).length : Int) = (v20.length : Int))) (
            chk (!decide ((v20.length : Int) = 0)) (
             chk (inO (Int.tmod (wr .i64 v18) (v20.length : Int)) ((lwords ).length : Int)) (
              chk (inb (0 + (Int.tmod (wr .i64 v18) (v20.length : Int))) ((lwords ).length)) (
               chk (!decide ((v20.length : Int) = 0)) (
                chk (inb (Int.tmod (wr .i64 v18) (v20.length : Int)) v20.length) (
                 j5 (decide ((at' .str (lwords ) (0 + (Int.tmod (wr .i64 v18) (v20.length : Int)))) = (at' .str v20 (Int.tmod (wr .i64 v18) (v20.length : Int))))))))))) (
            j5 false)))))
      | _ => none)) k (s, i, false, rwords, 0, (lwords ), 0, ((lwords ).length : Int)))))
theorem lTells_eq (k : Nat) : ∀ (x : HV [.str, .int .u8]), runF (lTells_px _ k) Tryd.f3 [.str, .int .u8] [.bool] x some = lTells_body k x
  | (s, i) => by kernel_rfl
theorem lTells_run (k : Nat) : FnOk Tryd.prog elT glT 3 [.str, .int .u8] [.bool] (lTells_body k) := by
  refine fnOk_run Tryd.func3 rfl (by kernel_rfl) follows (by kernel_rfl) (n := 1) (by kernel_rfl) (px := lTells_px _ k) (fun cx hP hel hgl => ?_) (lTells_eq k)
  have hp0 : PxOk cx (lTells_px (HV [.bool]) k) := ⟨fun t => by rw [hP, hel]; exact tt_ok ttL_ok t, by rw [hgl]; rfl⟩
  have hc0 : CallOk cx (lTells_px (HV [.bool]) k) := callT_ok rfl (cfs_cons (cf_or (by rw [hP, hel, hgl]; exact known_ok) (by kernel_rfl)) (cfs_cons (cf_thaw (by rw [hP, hel, hgl]; exact lwords_ok) (by kernel_rfl) rfl) (cfs_cons (cf_or (by rw [hP, hel, hgl]; exact rwords_ok) (by kernel_rfl)) cfs_nil)))
  have hq0 : CallQOk cx (lTells_px (HV [.bool]) k) := callQT_ok rfl (cqfs_cons (cqf_or (by rw [hP, hel, hgl]; exact lword_ok) (by kernel_rfl)) (cqfs_cons (cqf_or (by rw [hP, hel, hgl]; exact lname_ok) (by kernel_rfl)) (cqfs_cons (cqf_or (by rw [hP, hel, hgl]; exact rword_ok) (by kernel_rfl)) (cqfs_cons (cqf_or (by rw [hP, hel, hgl]; exact rname_ok) (by kernel_rfl)) (cqfs_cons (cqf_or (by rw [hP, hel, hgl]; exact known_ok) (by kernel_rfl)) cqfs_nil)))))
  have hllTells_0 : LoopOk cx (lTells_px (HV [.bool]) k) (lp Tryd.f3 0) := loop_of (fun _ _ => by kernel_rfl) (loopW_try (loopW_or hp0 hc0 hq0 (by rw [hP]; exact follows) (k := k) (s := lTells_0_sg) (step := lTells_0) (by kernel_rfl) (lTells_0_eq _ k) (loops_in (n := 0) (by kernel_rfl) all0)) (loopW_or hp0 hc0 hq0 (by rw [hP]; exact follows) (k := k) (s := lTells_1_sg) (step := lTells_1) (by kernel_rfl) (lTells_1_eq _ k) (loops_in (n := 0) (by kernel_rfl) all0)))
  exact ⟨hp0, hc0, hq0, (allS all0 hllTells_0)⟩
theorem tells_loop {R : Type} (kx : Ex → lTells_1_V → Option R) (s : Str) (i : Int) : iter (fun rec => lTells_1 rec kx) 37 (s, i, false, rwords, 0, lwords, 0, ((lwords.length : Nat) : Int)) = kx (.exit 0) (s, i, false, wordsL, 36, wordsL, 0, 36) := by kernel_rfl
theorem lTells_true (s : Str) (i : Int) (h : 0 ≤ i ∧ i ≤ 255) : lTells_body 37 (s, i) = some true := by
  simp only [lTells_body]
  by_cases h3 : 3000 < (s.length : Int)
  · rw [decide_eq_true h3]; rfl
  · have e1 : List.isEmpty (α := Str) lwords = false := rfl
    have e2 : decide ((lwords.length : Int) = (rwords.length : Int)) = true := rfl
    rw [decide_eq_false h3, cond_f, e1, cond_f, e2, Bool.not_true, cond_f]
    refine (tells_loop _ s i).trans ?_
    obtain ⟨m, hm, hm2⟩ : ∃ m : Nat, Int.tmod (wr .i64 i) 36 = (m : Int) ∧ m < 36 := by
      obtain ⟨n, rfl⟩ := Int.eq_ofNat_of_zero_le h.1
      refine ⟨n % 36, ?_, by omega⟩
      rw [wr_i (by omega)]
      rfl
    have e3 : ((wordsL.length : Nat) : Int) = 36 := rfl
    have e4 : ((lwords.length : Nat) : Int) = 36 := rfl
    have e5 : inO (m : Int) 36 = true := by simp only [inO, Bool.and_eq_true, decide_eq_true_eq]; omega
    have e6 : inb (m : Int) wordsL.length = true := inb_t (show m < 36 from hm2)
    have e7 : inb (m : Int) lwords.length = true := inb_t (show m < 36 from hm2)
    have e8 : lwords = wordsL := rfl
    simp only [hm, e3, e5, e6, Int.zero_add, cond_f, chk, rname_lname, rword_lword, e8]
    simp [known]
def lTells_F : FT [.str, .int .u8] [.bool] := fun x => cond (decide (0 ≤ x.2) && decide (x.2 ≤ 255)) (some true) none
theorem lTells_ok : FnOk Tryd.prog elT glT 3 [.str, .int .u8] [.bool] lTells_F := .fin 0 lTells_run fun (s, i) r hb hx => ⟨37, by
  have h0 : inK .u8 i := hb.2
  simp only [inK, IntKind.min, IntKind.max] at h0
  have hi : 0 ≤ (i : Int) ∧ (i : Int) ≤ 255 := ⟨h0.1, h0.2⟩
  simp only [lTells_F] at hx
  rw [decide_eq_true hi.1, decide_eq_true hi.2] at hx
  exact (lTells_true s i hi).trans hx⟩
theorem lTells_F_true (x : HV [.str, .int .u8]) (hb : BdL [.str, .int .u8] x) : lTells_F x = some true := by
  have h0 : inK .u8 x.2 := hb.2
  simp only [inK, IntKind.min, IntKind.max] at h0
  have hi : 0 ≤ (x.2 : Int) ∧ (x.2 : Int) ≤ 255 := ⟨h0.1, h0.2⟩
  simp only [lTells_F]
  rw [decide_eq_true hi.1, decide_eq_true hi.2]
  rfl
theorem lexTells_lists : Lists Rows.lexTellsRow.laid := by
  refine ⟨by kernel_rfl, ?_⟩
  simp [Rows.lexTellsRow]
set_option maxRecDepth 100000 in
theorem lexTells_contract (H : Type) (enc : TypeId × Value → H) (W : World) (base : Nat) (args : Array Value) (ds gs : List (DataW H)) (before : List MemPlace)
    (hval : ∀ (j : Nat) t v, Tryd.f3.params[j]? = some t → args[j]? = some v → Value.okWide Tryd.prog W .any base t v)
    (hW : DataW.Whole enc Tryd.prog Tryd.f3.params.toList Rows.lexTellsSpec.vars false W args.toList ds gs before) (hL : laidMetH Tryd.prog Rows.lexTellsRow.laid W) (hS : W.ShapedOpen Tryd.prog)
    (hsz : (DataW.weightsEach Tryd.prog (Tryd.f3.params.toList ++ (OpenSpec.ofChange Rows.lexTellsSpec).bare.plain.varTypes Tryd.prog) (ds ++ gs)).all (· ≤ reachBytes) = true) :
    Calls Tryd.prog 3 args W fun e W' => ∃ v, e = .returned v ∧ Rows.lexTellsSpec.post enc Tryd.prog Tryd.f3 false true false false W args v W' :=
  law_frame (msr_weights _) (fn := Tryd.f3) lTells_ok (fun x hb _ => lTells_F_true x hb) (by kernel_rfl) rfl (fun ds h => match ds, h with | [_, _], _ => ⟨rfl, rfl, rfl⟩) (by kernel_rfl) (by kernel_rfl) hval hW (all_glR lexTells_lists hL hS) (fun hl => sizes_of hsz (Nat.le_of_eq hl))
theorem lexTells_laid_met (os : Os) (args : Array Value) : laidMet Tryd.prog Rows.lexTellsRow.laid ((laidWorld os).forCall (fun _ _ => 0) ⟨#[], args, []⟩).memory :=
  laidMet_of_run' 8 (by kernel_rfl) (by kernel_rfl)
theorem lexTells_reads (os : Os) {H : Type} (enc : TypeId × Value → H) : ∃ places, DataW.whole enc Tryd.prog ((laidWorld os).forCall (fun _ _ => 0) ⟨#[], #[.string ⟨#[]⟩, .int .u8 0], []⟩).memory Tryd.f3.params.toList Rows.lexTellsSpec.vars false (#[.string ⟨#[]⟩, .int .u8 0] : Array Value).toList 8 = some ([.lit (.string []), .lit (.int .u8 0)], [], places) :=
  ⟨[], by kernel_rfl⟩
set_option maxRecDepth 100000 in
theorem lexTells_lifted (os : Os) (started : os.Started) (H : Type) (enc : TypeId × Value → H) (F : Stop.Interp) :
    ReturnsInHanded {} Tryd.checked os 3 .any ((OpenSpec.ofChange Rows.lexTellsSpec).preRow enc Tryd.prog Tryd.f3 Rows.lexTellsRow.domain false Rows.lexTellsRow.laid) (((OpenSpec.ofChange Rows.lexTellsSpec).at F).post enc Tryd.prog Tryd.f3 false true false false) := by
  obtain ⟨places, hx⟩ := lexTells_reads os enc
  refine returnsInHanded_of_row (C := Tryd.checked) (s := OpenSpec.ofChange Rows.lexTellsSpec) own started (by kernel_rfl) Tryd.func3
    (witness_row_at (enc := enc) (C := Tryd.checked) false (laidWorld os) #[.string ⟨#[]⟩, .int .u8 0] rfl (by kernel_rfl) (by kernel_rfl) (by kernel_rfl)
      (OpenSpec.preRow_of_cond 8 hx (by kernel_rfl) (fun k hk => by cases hk) (by kernel_rfl) (lexTells_laid_met os _))) ?_
  intro W base args ds gs before hval hW _ _ hsz hL hS _
  exact lexTells_contract H enc W base args ds gs before hval hW hL hS hsz
theorem lexTells_said : Rows.LexTellsSaid :=
  OpenClaim.holds_of_cond 3 Tryd.f3 rfl rfl rfl rfl rfl rfl rfl ⟨rfl, rfl, rfl, rfl, rfl⟩ rfl rfl rfl rfl rfl (by kernel_rfl) Tryd.func3 (by kernel_rfl)
    (of_decide_eq_true (by kernel_rfl)) (by unfold Func.isWrapper; first | (rw [if_pos (by decide +kernel)]; kernel_rfl) | (rw [if_neg (by decide +kernel)]; exact ⟨rfl, rfl⟩))
    (fun os started H enc _ F => by rw [OpenClaim.pre_eq_preRow]; exact lexTells_lifted os started H enc F)
theorem lexTells_plain (f : FuncId) (fn : Func) (hf : Tryd.pinned.checked.prog.funcNamed "exchequer/exchequerlaw12.LexTells" = some f) (hfn : Tryd.pinned.checked.prog.funcs[f]? = some fn) :
    false = Tryd.pinned.checked.prog.looks [] ∧ ∀ (j : Nat) t, fn.params[j]? = some t → Tryd.pinned.checked.prog.wantsStandIn t = false := by
  obtain rfl : f = 3 := Option.some.inj ((show Tryd.prog.funcNamed "exchequer/exchequerlaw12.LexTells" = some 3 by kernel_rfl).symm.trans hf) |>.symm
  obtain rfl : fn = Tryd.f3 := (Option.some.inj (Tryd.func3.symm.trans hfn)).symm
  refine ⟨by kernel_rfl, fun j t ht => ?_⟩
  have hall : (Tryd.f3.params.all fun t => !Tryd.prog.wantsStandIn t) = true := by kernel_rfl
  have := Array.all_eq_true_iff_forall_mem.1 hall t (Array.mem_of_getElem? ht)
  have h2 : Tryd.prog.wantsStandIn t = false := by simpa using this
  exact h2
/-- THE CARD -/
theorem lexTells_card : Rows.LexTellsCardSaid :=
  Claim7.holds_tied_plain_at .later [] _ _ _ _ lexTells_said (fun _ h => by cases h) (by kernel_rfl) (fun _ h => by cases h) lexTells_row_tie rfl ⟨rfl, rfl⟩ (by kernel_rfl) rfl lexTells_plain (by kernel_rfl)
#print axioms lexTells_card
end Go.Proofs.YtjpcghlpkinahaaDoor
