/- ParseBinds. -/
import Derived.Test.YthndhaolemgbdaaGreatDoorP7
namespace Go.Proofs.YthndhaolemgbdaaGreatDoor
open Go.Ax Go.ChangeShapes Go.WideShapes Go.ChangeAt Go.RowKit Go.ChangeMaps
/-! ## exchequer/exchequerlaw14.ParseBinds -/
def lBinds_px (R : Type) : Px R := ⟨ttOf ttL, glT, callT [(36, callOr [.int .i64] [.str] rsign_F), (32, callOr [.str] [.sv .expr, .int .i64, .int .i64] xexpr_F), (20, callOr [.sv .expr, .sv .expr] [.bool] asame_F), (29, callOr [] [.bool] known14_F)], callQT [], loopT [], tbl []⟩
def lBinds_body (x : HV [.int .u8, .int .u8]) : Option (HV [.bool]) := match x with
 | (a, b) =>
  chk (inb (Int.tmod a 11) 11) (
   chk (inb (Int.tmod b 11) 11) (
    chk (decide ([40, 97, 32].length + (rsign (wr .i64 (4 + (wr .i64 (Int.tmod a 11))))).length ≤ maxStr)) (
     chk (decide (([40, 97, 32] ++ (rsign (wr .i64 (4 + (wr .i64 (Int.tmod a 11)))))).length + [32, 98, 41, 32].length ≤ maxStr)) (
      chk (decide ((([40, 97, 32] ++ (rsign (wr .i64 (4 + (wr .i64 (Int.tmod a 11)))))) ++ [32, 98, 41, 32]).length + (rsign (wr .i64 (4 + (wr .i64 (Int.tmod b 11))))).length ≤ maxStr)) (
       chk (decide (((([40, 97, 32] ++ (rsign (wr .i64 (4 + (wr .i64 (Int.tmod a 11)))))) ++ [32, 98, 41, 32]) ++ (rsign (wr .i64 (4 + (wr .i64 (Int.tmod b 11)))))).length + [32, 99].length ≤ maxStr)) (
        (xexpr (((([40, 97, 32] ++ (rsign (wr .i64 (4 + (wr .i64 (Int.tmod a 11)))))) ++ [32, 98, 41, 32]) ++ (rsign (wr .i64 (4 + (wr .i64 (Int.tmod b 11)))))) ++ [32, 99])).bind fun (x, _, x2) =>
         chk (decide ([97, 32].length + (rsign (wr .i64 (4 + (wr .i64 (Int.tmod a 11))))).length ≤ maxStr)) (
          chk (decide (([97, 32] ++ (rsign (wr .i64 (4 + (wr .i64 (Int.tmod a 11)))))).length + [32, 40, 98, 32].length ≤ maxStr)) (
           chk (decide ((([97, 32] ++ (rsign (wr .i64 (4 + (wr .i64 (Int.tmod a 11)))))) ++ [32, 40, 98, 32]).length + (rsign (wr .i64 (4 + (wr .i64 (Int.tmod b 11))))).length ≤ maxStr)) (
            chk (decide (((([97, 32] ++ (rsign (wr .i64 (4 + (wr .i64 (Int.tmod a 11)))))) ++ [32, 40, 98, 32]) ++ (rsign (wr .i64 (4 + (wr .i64 (Int.tmod b 11)))))).length + [32, 99, 41].length ≤ maxStr)) (
             (xexpr (((([97, 32] ++ (rsign (wr .i64 (4 + (wr .i64 (Int.tmod a 11)))))) ++ [32, 40, 98, 32]) ++ (rsign (wr .i64 (4 + (wr .i64 (Int.tmod b 11)))))) ++ [32, 99, 41])).bind fun (x3, _, x5) =>
              chk (decide ([97, 32].length + (rsign (wr .i64 (4 + (wr .i64 (Int.tmod a 11))))).length ≤ maxStr)) (
               chk (decide (([97, 32] ++ (rsign (wr .i64 (4 + (wr .i64 (Int.tmod a 11)))))).length + [32, 98, 32].length ≤ maxStr)) (
                chk (decide ((([97, 32] ++ (rsign (wr .i64 (4 + (wr .i64 (Int.tmod a 11)))))) ++ [32, 98, 32]).length + (rsign (wr .i64 (4 + (wr .i64 (Int.tmod b 11))))).length ≤ maxStr)) (
                 chk (decide (((([97, 32] ++ (rsign (wr .i64 (4 + (wr .i64 (Int.tmod a 11)))))) ++ [32, 98, 32]) ++ (rsign (wr .i64 (4 + (wr .i64 (Int.tmod b 11)))))).length + [32, 99].length ≤ maxStr)) (
                  (xexpr (((([97, 32] ++ (rsign (wr .i64 (4 + (wr .i64 (Int.tmod a 11)))))) ++ [32, 98, 32]) ++ (rsign (wr .i64 (4 + (wr .i64 (Int.tmod b 11)))))) ++ [32, 99])).bind fun (x6, x7, x8) =>
                   cond (!decide (x2 = 0)) (
                    some false) (
                    cond (!decide (x5 = 0)) (
                     some false) (
                     cond ((asame x x3)) (
                      some false) (
                      let j1 := fun (p5 : Bool) =>
                       cond (p5) (
                        let j := fun (p6 : Bool) =>
                         cond (p6) (
                          (known14).bind fun x9 =>
                           some x9) (
                          some false)
                        cond (decide (x8 = 11)) (
                         j (decide (x7 = (wr .i64 (5 + ((rsign (wr .i64 (4 + (wr .i64 (Int.tmod a 11))))).length : Int)))))) (
                         j false)) (
                        cond (decide ((at' .int [2, 1, 4, 4, 4, 4, 4, 4, 5, 5, 6] (Int.tmod a 11)) < (at' .int [2, 1, 4, 4, 4, 4, 4, 4, 5, 5, 6] (Int.tmod b 11)))) (
                         let j2 := fun (p9 : Bool) =>
                          cond (p9) (
                           (known14).bind fun x10 =>
                            some x10) (
                           some false)
                         cond (decide (x8 = 0)) (
                          j2 (asame x6 x3)) (
                          j2 false)) (
                         let j3 := fun (p12 : Bool) =>
                          cond (p12) (
                           (known14).bind fun x11 =>
                            some x11) (
                           some false)
                         cond (decide (x8 = 0)) (
                          j3 (asame x6 x)) (
                          j3 false)))
                      cond (decide ((at' .int [2, 1, 4, 4, 4, 4, 4, 4, 5, 5, 6] (Int.tmod a 11)) = 4)) (
                       j1 (decide ((at' .int [2, 1, 4, 4, 4, 4, 4, 4, 5, 5, 6] (Int.tmod b 11)) = 4))) (
                       j1 false))))))))))))))))))
theorem lBinds_eq : ∀ (x : HV [.int .u8, .int .u8]), runF (lBinds_px _) Tryz.f10 [.int .u8, .int .u8] [.bool] x some = lBinds_body x
  | (a, b) => by kernel_rfl
theorem lBinds_run : FnOk Tryz.prog elT glT 10 [.int .u8, .int .u8] [.bool] (lBinds_body) := by
  refine fnOk_run Tryz.func10 rfl (by kernel_rfl) follows (by kernel_rfl) (n := 0) (by kernel_rfl) (px := lBinds_px _) (fun cx hP hel hgl => ?_) (lBinds_eq)
  have hp0 : PxOk cx (lBinds_px (HV [.bool])) := ⟨fun t => by rw [hP, hel]; exact tt_ok ttL_ok t, by rw [hgl]; rfl⟩
  have hc0 : CallOk cx (lBinds_px (HV [.bool])) := callT_ok rfl (cfs_cons (cf_or (by rw [hP, hel, hgl]; exact rsign_ok) (by kernel_rfl)) (cfs_cons (cf_or (by rw [hP, hel, hgl]; exact xexpr_ok) (by kernel_rfl)) (cfs_cons (cf_or (by rw [hP, hel, hgl]; exact asame_ok) (by kernel_rfl)) (cfs_cons (cf_or (by rw [hP, hel, hgl]; exact known14_ok) (by kernel_rfl)) cfs_nil))))
  have hq0 : CallQOk cx (lBinds_px (HV [.bool])) := callQT_ok rfl rfl cqfs_nil cwfs_nil
  exact ⟨hp0, hc0, hq0, all0⟩
def lBinds_F : FT [.int .u8, .int .u8] [.bool] := fun x => lBinds_body x
theorem lBinds_ok : FnOk Tryz.prog elT glT 10 [.int .u8, .int .u8] [.bool] (lBinds_F) := lBinds_run
theorem tmod_twice (a : Int) : Int.tmod (Int.tmod a 11) 11 = Int.tmod a 11 := Int.tmod_tmod_of_dvd a (Int.dvd_refl 11)
theorem lBinds_mod (a b : Int) : lBinds_body (a, b) = lBinds_body (Int.tmod a 11, Int.tmod b 11) := by
  simp only [lBinds_body, tmod_twice]
theorem lBinds_all : ((List.range 11).all fun p => (List.range 11).all fun q => decide (lBinds_body ((p : Int), (q : Int)) = some true)) = true := by kernel_rfl
theorem lBinds_pq {p q : Nat} (hp : p < 11) (hq : q < 11) : lBinds_body ((p : Int), (q : Int)) = some true := by
  have h := List.all_eq_true.1 (List.all_eq_true.1 lBinds_all p (List.mem_range.2 hp)) q (List.mem_range.2 hq)
  simpa using h
theorem lBinds_true (x : HV [.int .u8, .int .u8]) (hb : BdL [.int .u8, .int .u8] x) : lBinds_F x = some true := by
  obtain ⟨a, b⟩ := x
  have h0 : inK .u8 a := hb.1
  have h1 : inK .u8 b := hb.2
  simp only [inK, IntKind.min, IntKind.max] at h0 h1
  have ha : 0 ≤ (a : Int) ∧ (a : Int) ≤ 255 := ⟨h0.1, h0.2⟩
  have hc : 0 ≤ (b : Int) ∧ (b : Int) ≤ 255 := ⟨h1.1, h1.2⟩
  show lBinds_body (a, b) = some true
  rw [lBinds_mod]
  have ea : Int.tmod a 11 = ((a % 11).toNat : Int) := by rw [Int.tmod_eq_emod_of_nonneg ha.1]; omega
  have eb : Int.tmod b 11 = ((b % 11).toNat : Int) := by rw [Int.tmod_eq_emod_of_nonneg hc.1]; omega
  rw [ea, eb]
  exact lBinds_pq (by omega) (by omega)
theorem parseBinds_lists : Lists Rows.parseBindsRow.laid := by
  refine ⟨by kernel_rfl, ?_⟩
  simp [Rows.parseBindsRow]
set_option maxRecDepth 100000 in
theorem parseBinds_contract (H : Type) (enc : TypeId × Value → H) (W : World) (base : Nat) (args : Array Value) (ds gs : List (DataW H)) (before : List MemPlace)
    (hval : ∀ (j : Nat) t v, Tryz.f10.params[j]? = some t → args[j]? = some v → Value.okWide Tryz.prog W .any base t v)
    (hW : DataW.Whole enc Tryz.prog Tryz.f10.params.toList Rows.parseBindsSpec.vars false W args.toList ds gs before) (hL : laidMetH Tryz.prog Rows.parseBindsRow.laid W) (hS : W.ShapedOpen Tryz.prog)
    (hsz : (DataW.weightsEach Tryz.prog (Tryz.f10.params.toList ++ (OpenSpec.ofChange Rows.parseBindsSpec).bare.plain.varTypes Tryz.prog) (ds ++ gs)).all (· ≤ reachBytes) = true) :
    Calls Tryz.prog 10 args W fun e W' => ∃ v, e = .returned v ∧ Rows.parseBindsSpec.post enc Tryz.prog Tryz.f10 false true false false W args v W' :=
  law_frame (msr_weights _) (fn := Tryz.f10) lBinds_ok (fun x hb _ => lBinds_true x hb) (by kernel_rfl) rfl (fun ds h => match ds, h with | [_, _], _ => ⟨rfl, rfl, rfl⟩) (by kernel_rfl) (by kernel_rfl) hval hW (all_glR parseBinds_lists hL hS) (fun hl => sizes_of hsz (Nat.le_of_eq hl))
theorem parseBinds_laid_met (os : Os) (args : Array Value) : laidMet Tryz.prog Rows.parseBindsRow.laid ((laidWorld os).forCall (fun _ _ => 0) ⟨#[], args, []⟩).memory :=
  laidMet_of_run' 8 (by kernel_rfl) (by kernel_rfl)
theorem parseBinds_reads (os : Os) {H : Type} (enc : TypeId × Value → H) : ∃ places, DataW.whole enc Tryz.prog ((laidWorld os).forCall (fun _ _ => 0) ⟨#[], #[.int .u8 0, .int .u8 0], []⟩).memory Tryz.f10.params.toList Rows.parseBindsSpec.vars false (#[.int .u8 0, .int .u8 0] : Array Value).toList 8 = some ([.lit (.int .u8 0), .lit (.int .u8 0)], [], places) :=
  ⟨[], by kernel_rfl⟩
set_option maxRecDepth 100000 in
theorem parseBinds_lifted (os : Os) (started : os.Started) (H : Type) (enc : TypeId × Value → H) (F : Stop.Interp) :
    ReturnsInHanded {} Tryz.checked os 10 .any ((OpenSpec.ofChange Rows.parseBindsSpec).preRow enc Tryz.prog Tryz.f10 Rows.parseBindsRow.domain false Rows.parseBindsRow.laid) (((OpenSpec.ofChange Rows.parseBindsSpec).at F).post enc Tryz.prog Tryz.f10 false true false false) := by
  obtain ⟨places, hx⟩ := parseBinds_reads os enc
  refine returnsInHanded_of_row (C := Tryz.checked) (s := OpenSpec.ofChange Rows.parseBindsSpec) own started (by kernel_rfl) Tryz.func10
    (witness_row_at (enc := enc) (C := Tryz.checked) false (laidWorld os) #[.int .u8 0, .int .u8 0] rfl (by kernel_rfl) (by kernel_rfl) (by kernel_rfl)
      (OpenSpec.preRow_of_cond 8 hx (by kernel_rfl) (fun k hk => by cases hk) (by kernel_rfl) (parseBinds_laid_met os _))) ?_
  intro W base args ds gs before hval hW _ _ hsz hL hS _
  exact parseBinds_contract H enc W base args ds gs before hval hW hL hS hsz
theorem parseBinds_said : Rows.ParseBindsSaid :=
  OpenClaim.holds_of_cond 10 Tryz.f10 rfl rfl rfl rfl rfl rfl rfl ⟨rfl, rfl, rfl, rfl, rfl⟩ rfl rfl rfl rfl rfl (by kernel_rfl) Tryz.func10 (by kernel_rfl)
    (of_decide_eq_true (by kernel_rfl)) (by unfold Func.isWrapper; first | (rw [if_pos (by decide +kernel)]; kernel_rfl) | (rw [if_neg (by decide +kernel)]; exact ⟨rfl, rfl⟩))
    (fun os started H enc _ F => by rw [OpenClaim.pre_eq_preRow]; exact parseBinds_lifted os started H enc F)
theorem parseBinds_plain (f : FuncId) (fn : Func) (hf : Tryz.pinned.checked.prog.funcNamed "exchequer/exchequerlaw14.ParseBinds" = some f) (hfn : Tryz.pinned.checked.prog.funcs[f]? = some fn) :
    false = Tryz.pinned.checked.prog.looks [] ∧ ∀ (j : Nat) t, fn.params[j]? = some t → Tryz.pinned.checked.prog.wantsStandIn t = false := by
  obtain rfl : f = 10 := Option.some.inj ((show Tryz.prog.funcNamed "exchequer/exchequerlaw14.ParseBinds" = some 10 by kernel_rfl).symm.trans hf) |>.symm
  obtain rfl : fn = Tryz.f10 := (Option.some.inj (Tryz.func10.symm.trans hfn)).symm
  refine ⟨by kernel_rfl, fun j t ht => ?_⟩
  have hall : (Tryz.f10.params.all fun t => !Tryz.prog.wantsStandIn t) = true := by kernel_rfl
  have := Array.all_eq_true_iff_forall_mem.1 hall t (Array.mem_of_getElem? ht)
  have h2 : Tryz.prog.wantsStandIn t = false := by simpa using this
  exact h2
/-- THE CARD -/
theorem parseBinds_card : Rows.ParseBindsCardSaid :=
  Claim7.holds_tied_plain_at .later [] _ _ _ _ parseBinds_said (fun _ h => by cases h) (by kernel_rfl) (fun _ h => by cases h) parseBinds_row_tie rfl ⟨rfl, rfl⟩ (by kernel_rfl) rfl parseBinds_plain (by kernel_rfl)
#print axioms parseBinds_card
end Go.Proofs.YthndhaolemgbdaaGreatDoor
