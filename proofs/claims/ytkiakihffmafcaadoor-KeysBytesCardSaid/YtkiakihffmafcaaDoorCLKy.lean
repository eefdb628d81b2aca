/- KeysBytes: of any bytes the least ones beyond, whether they begin with others, and how they stand, is what the document says; on the condition of the row alone: that the tables of unicode/utf8 hold what the program's text lays. -/
import Derived.Test.YtkiakihffmafcaaDoorC6
namespace Go.Proofs.YtkiakihffmafcaaDoor
open Go.Ax Go.ChangeShapes Go.WideShapes Go.ChangeAt Go.RowKit Go.ChangeMaps
/-! ## exchequer/exchequerlaw04.KeysBytes -/
def lBytes_1_sg : Sig := ⟨17, [(2, .int .i64)], [], [(40, .one (.dn .byte))], 80, 80, 400, [203], [(0, 40, .byte)]⟩
abbrev lBytes_1_V := Int × List UInt8 × Int × Int
def lBytes_1 {R : Type} (rec : lBytes_1_V → Option R) (kx : Ex → lBytes_1_V → Option R) (v : lBytes_1_V) : Option R := match v with
 | (v3, w3, w4, w5) =>
  cond (decide (v3 < w5)) (
   chk (inO v3 w5) (
    chk (inb (w4 + v3) w3.length) (
     chk (inO v3 w5) (
      chk (inb (w4 + v3) w3.length) (
       rec ((wr .i64 (v3 + 1)), (w3.set ((w4 + v3) : Int).toNat (UInt8.ofNat ((ixor .u8 ((at' .byte w3 (w4 + v3)).toNat : Int) 165) : Int).toNat)), w4, w5)))))) (
   kx (.exit 0) (v3, w3, w4, w5))
def lBytes_0_sg : Sig := ⟨35, [], [], [(40, .one (.dn .byte))], 41, 40, 200, [], [(3, 40, .byte)]⟩
abbrev lBytes_0_V := List UInt8 × Int × Int
def lBytes_0 {R : Type} (rec : lBytes_0_V → Option R) (kx : Ex → lBytes_0_V → Option R) (v : lBytes_0_V) : Option R := match v with
 | (w, w1, w2) =>
  cond (decide (0 < w2)) (
   chk (inO (wr .i64 (w2 - 1)) w2) (
    chk (inb (w1 + (wr .i64 (w2 - 1))) w.length) (
     cond (decide (((at' .byte w (w1 + (wr .i64 (w2 - 1)))).toNat : Int) = 255)) (
      chk (upI 0 (wr .i64 (w2 - 1)) w2) (
       rec (w, w1, (wr .i64 (w2 - 1))))) (
      kx (.exit 0) (w, w1, w2))))) (
   kx (.exit 0) (w, w1, w2))
noncomputable def lBytes_pxi00 (R : Type) (_k : Nat) : Px R := ⟨ttOf ttL, glT, callT [(34, callThaw [.sl .byte false] .byte bclone_F)], callQT [], loopT []⟩
noncomputable def lBytes_pxi0 (R : Type) (k : Nat) : Px R := ⟨ttOf ttL, glT, callT [(34, callThaw [.sl .byte false] .byte bclone_F)], callQT [], loopT [(2, loopPl (lBytes_pxi00 R k) (lp Tryd.f20 0) k lBytes_0_sg (lBytes_0))]⟩
noncomputable def lBytes_pxi10 (R : Type) (_k : Nat) : Px R := ⟨ttOf ttL, glT, callT [], callQT [], loopT []⟩
noncomputable def lBytes_pxi1 (R : Type) (k : Nat) : Px R := ⟨ttOf ttL, glT, callT [], callQT [], loopT [(1, loopPl (lBytes_pxi10 R k) (lp Tryd.f24 0) k lBytes_1_sg (lBytes_1))]⟩
noncomputable def lBytes_px (R : Type) (k : Nat) : Px R := ⟨ttOf ttL, glT, callT [(10, callOr [] [.bool] known_F), (21, callOr [.sl .byte false] [.sl .byte true] rnext_F), (15, callOr [.sl .byte false, .sl .byte false] [.bool] same_F), (19, callOr [.sl .byte false, .sl .byte false] [.bool] kbeg_F), (22, callOr [.sl .byte false, .sl .byte false] [.bool] rbeg_F), (23, callOr [.sl .byte false, .sl .byte false] [.int .i64] kcm_F), (18, callOr [.sl .byte false, .sl .byte false] [.int .i64] rcmp4_F), (20, callRunOr 40 200 (lBytes_pxi0 R k) Tryd.f20 (callOr [.sl .byte false] [.sl .byte false] knext_F)), (24, callRun 80 400 (lBytes_pxi1 R k) Tryd.f24)], callQT [], loopT []⟩
theorem lBytes_0_eq (R : Type) (k : Nat) : ∀ (fr : List Fr) (rec : lBytes_0_V → Option R) (kx : Ex → lBytes_0_V → Option R) (v : lBytes_0_V), round (lBytes_pxi0 R k) lBytes_0_sg (lp Tryd.f20 0) fr rec kx v = lBytes_0 rec kx v
  | fr, rec, kx, (w, w1, w2) => by kernel_rfl
theorem lBytes_1_eq (R : Type) (k : Nat) : ∀ (fr : List Fr) (rec : lBytes_1_V → Option R) (kx : Ex → lBytes_1_V → Option R) (v : lBytes_1_V), round (lBytes_pxi1 R k) lBytes_1_sg (lp Tryd.f24 0) fr rec kx v = lBytes_1 rec kx v
  | fr, rec, kx, (v3, w3, w4, w5) => by kernel_rfl
def lBytes_body (k : Nat) (x : HV [.sl .byte false, .sl .byte false]) : Option (HV [.bool]) := match x with
 | (a, b) =>
  cond (decide (3000 < (a.length : Int))) (
   some known) (
   cond (decide (3000 < (b.length : Int))) (
    some known) (
    (bclone a).bind fun x =>
     cond (List.isEmpty x) (
      (rnext a).bind fun x1 =>
       let j := fun (p4 : Bool) =>
        cond (p4) (
         some false) (
         cond (!decide ((kcm a b) = (rcmp4 a b))) (
          some false) (
          cond (!decide ((kcm b a) = (wr .i64 (0 - (kcm a b))))) (
           some false) (
           (knext a).bind fun x2 =>
            (rnext a).bind fun x3 =>
             cond ((same x2 x3)) (
              some known) (
              some false))))
       cond (!(same [] x1)) (
        j true) (
        j (!decide ((kbeg a b) = (rbeg a b))))) (
      iter (fun rec => lBytes_0 rec (fun e v => match v with | (v, v1, v2) => match e with
       | .exit 0 =>
        cond (decide (0 < v2)) (
         chk (inO (wr .i64 (v2 - 1)) v2) (
          chk (inb (v1 + (wr .i64 (v2 - 1))) v.length) (
           chk (inO (wr .i64 (v2 - 1)) v2) (
            chk (inb (v1 + (wr .i64 (v2 - 1))) v.length) (
             (rnext a).bind fun x4 =>
              chk (decide ((0 : Int) ≤ v1) && decide ((0 : Int) ≤ v2) && decide ((v1 + v2) ≤ ((v.set ((v1 + (wr .i64 (v2 - 1))) : Int).toNat (UInt8.ofNat ((wr .u8 (((at' .byte v (v1 + (wr .i64 (v2 - 1)))).toNat : Int) + 1)) : Int).toNat)).length : Int))) (
               let j1 := fun (p11 : Bool) =>
                cond (p11) (
                 some false) (
                 cond (!decide ((kcm a b) = (rcmp4 a b))) (
                  some false) (
                  cond (!decide ((kcm b a) = (wr .i64 (0 - (kcm a b))))) (
                   some false) (
                   iter (fun rec => lBytes_1 rec (fun e v => match v with | (_, _, _, _) => match e with
                    | .exit 0 =>
                     (knext a).bind fun x5 =>
                      (rnext a).bind fun x6 =>
                       cond ((same x5 x6)) (
                        some known) (
                        some false)
                    | _ => none)) k (0, (v.set ((v1 + (wr .i64 (v2 - 1))) : Int).toNat (UInt8.ofNat ((wr .u8 (((at' .byte v (v1 + (wr .i64 (v2 - 1)))).toNat : Int) + 1)) : Int).toNat)), v1, v2))))
               cond (!(same (cut (v.set ((v1 + (wr .i64 (v2 - 1))) : Int).toNat (UInt8.ofNat ((wr .u8 (((at' .byte v (v1 + (wr .i64 (v2 - 1)))).toNat : Int) + 1)) : Int).toNat)) v1 (v1 + v2)) x4)) (
                j1 true) (
                j1 (!decide ((kbeg a b) = (rbeg a b)))))))))) (
         (rnext a).bind fun x7 =>
          chk (decide ((0 : Int) ≤ v1) && decide ((0 : Int) ≤ v2) && decide ((v1 + v2) ≤ (v.length : Int))) (
           let j2 := fun (p18 : Bool) =>
            cond (p18) (
             some false) (
             cond (!decide ((kcm a b) = (rcmp4 a b))) (
              some false) (
              cond (!decide ((kcm b a) = (wr .i64 (0 - (kcm a b))))) (
               some false) (
               iter (fun rec => lBytes_1 rec (fun e v => match v with | (_, _, _, _) => match e with
                | .exit 0 =>
                 (knext a).bind fun x8 =>
                  (rnext a).bind fun x9 =>
                   cond ((same x8 x9)) (
                    some known) (
                    some false)
                | _ => none)) k (0, v, v1, v2))))
           cond (!(same (cut v v1 (v1 + v2)) x7)) (
            j2 true) (
            j2 (!decide ((kbeg a b) = (rbeg a b))))))
       | _ => none)) k (x, 0, (x.length : Int)))))
theorem lBytes_eq (k : Nat) : ∀ (x : HV [.sl .byte false, .sl .byte false]), runF (lBytes_px _ k) Tryd.f7 [.sl .byte false, .sl .byte false] [.bool] x some = lBytes_body k x
  | (a, b) => by kernel_rfl
theorem lBytes_run (k : Nat) : FnOk Tryd.prog elT glT 7 [.sl .byte false, .sl .byte false] [.bool] (lBytes_body k) := by
  refine fnOk_run Tryd.func7 rfl (by kernel_rfl) follows (by kernel_rfl) (n := 0) (by kernel_rfl) (px := lBytes_px _ k) (fun cx hP hel hgl => ?_) (lBytes_eq k)
  have hp1 : PxOk cx (lBytes_pxi0 (HV [.bool]) k) := ⟨fun t => by rw [hP, hel]; exact tt_ok ttL_ok t, by rw [hgl]; rfl⟩
  have hc1 : CallOk cx (lBytes_pxi0 (HV [.bool]) k) := callT_ok rfl (cfs_cons (cf_thaw (by rw [hP, hel, hgl]; exact bclone_ok) (by kernel_rfl) rfl) cfs_nil)
  have hq1 : CallQOk cx (lBytes_pxi0 (HV [.bool]) k) := callQT_ok rfl cqfs_nil
  have hp10 : PxOk cx (lBytes_pxi00 (HV [.bool]) k) := ⟨fun t => by rw [hP, hel]; exact tt_ok ttL_ok t, by rw [hgl]; rfl⟩
  have hc10 : CallOk cx (lBytes_pxi00 (HV [.bool]) k) := callT_ok rfl (cfs_cons (cf_thaw (by rw [hP, hel, hgl]; exact bclone_ok) (by kernel_rfl) rfl) cfs_nil)
  have hq10 : CallQOk cx (lBytes_pxi00 (HV [.bool]) k) := callQT_ok rfl cqfs_nil
  have hllBytes_0 : LoopOk cx (lBytes_pxi0 (HV [.bool]) k) (lp Tryd.f20 0) := loop_pl_ok hp1 hc1 hq1 (by rw [hP]; exact follows) hp10 hc10 hq10 (fun _ _ _ => rfl) (k := k) (s := lBytes_0_sg) (step := lBytes_0) (fun _ _ => by kernel_rfl) (by kernel_rfl) (lBytes_0_eq _ k) (loops_in (n := 0) (by kernel_rfl) all0)
  have hp2 : PxOk cx (lBytes_pxi1 (HV [.bool]) k) := ⟨fun t => by rw [hP, hel]; exact tt_ok ttL_ok t, by rw [hgl]; rfl⟩
  have hc2 : CallOk cx (lBytes_pxi1 (HV [.bool]) k) := callT_ok rfl cfs_nil
  have hq2 : CallQOk cx (lBytes_pxi1 (HV [.bool]) k) := callQT_ok rfl cqfs_nil
  have hp20 : PxOk cx (lBytes_pxi10 (HV [.bool]) k) := ⟨fun t => by rw [hP, hel]; exact tt_ok ttL_ok t, by rw [hgl]; rfl⟩
  have hc20 : CallOk cx (lBytes_pxi10 (HV [.bool]) k) := callT_ok rfl cfs_nil
  have hq20 : CallQOk cx (lBytes_pxi10 (HV [.bool]) k) := callQT_ok rfl cqfs_nil
  have hllBytes_1 : LoopOk cx (lBytes_pxi1 (HV [.bool]) k) (lp Tryd.f24 0) := loop_pl_ok hp2 hc2 hq2 (by rw [hP]; exact follows) hp20 hc20 hq20 (fun _ _ _ => rfl) (k := k) (s := lBytes_1_sg) (step := lBytes_1) (fun _ _ => by kernel_rfl) (by kernel_rfl) (lBytes_1_eq _ k) (loops_in (n := 0) (by kernel_rfl) all0)
  have hp0 : PxOk cx (lBytes_px (HV [.bool]) k) := ⟨fun t => by rw [hP, hel]; exact tt_ok ttL_ok t, by rw [hgl]; rfl⟩
  have hc0 : CallOk cx (lBytes_px (HV [.bool]) k) := callT_ok rfl (cfs_cons (cf_or (by rw [hP, hel, hgl]; exact known_ok) (by kernel_rfl)) (cfs_cons (cf_or (by rw [hP, hel, hgl]; exact rnext_ok) (by kernel_rfl)) (cfs_cons (cf_or (by rw [hP, hel, hgl]; exact same_ok) (by kernel_rfl)) (cfs_cons (cf_or (by rw [hP, hel, hgl]; exact kbeg_ok) (by kernel_rfl)) (cfs_cons (cf_or (by rw [hP, hel, hgl]; exact rbeg_ok) (by kernel_rfl)) (cfs_cons (cf_or (by rw [hP, hel, hgl]; exact kcm_ok) (by kernel_rfl)) (cfs_cons (cf_or (by rw [hP, hel, hgl]; exact rcmp4_ok) (by kernel_rfl)) (cfs_cons (cf_runOr (cf_run hp1 hc1 hq1 (by rw [hP]; exact follows) (by rw [hP]; exact Tryd.func20) rfl (by kernel_rfl) (by kernel_rfl) (n := 1) (by kernel_rfl) ((allS all0 hllBytes_0))) (cf_or (by rw [hP, hel, hgl]; exact knext_ok) (by kernel_rfl))) (cfs_cons (cf_run hp2 hc2 hq2 (by rw [hP]; exact follows) (by rw [hP]; exact Tryd.func24) rfl (by kernel_rfl) (by kernel_rfl) (n := 1) (by kernel_rfl) ((allS all0 hllBytes_1))) cfs_nil)))))))))
  have hq0 : CallQOk cx (lBytes_px (HV [.bool]) k) := callQT_ok rfl cqfs_nil
  exact ⟨hp0, hc0, hq0, all0⟩
theorem l0_knext {R : Type} (rec : lBytes_0_V → Option R) (kx : Ex → lBytes_0_V → Option R) : lBytes_0 rec kx = knext_0 rec kx := rfl
theorem spoil_loop {R : Type} {kx : Ex → lBytes_1_V → Option R} {c : Option R} {m : Nat} (hm : m ≤ 1000000) (h : ∀ i w, kx (.exit 0) (i, w, 0, (m : Int)) = c) :
    ∀ (k i : Nat) (w : Str), m ≤ w.length → i ≤ m → m - i < k → iter (fun rec => lBytes_1 rec kx) k ((i : Int), w, 0, (m : Int)) = c
  | 0, i, w, _, _, hk => by omega
  | k + 1, i, w, hw, hi, hk => by
    rw [iter_s]
    by_cases hl : i < m
    · have e1 : decide ((i : Int) < (m : Int)) = true := decide_eq_true (by omega)
      have e2 : inO (i : Int) (m : Int) = true := by simp only [inO, Bool.and_eq_true, decide_eq_true_eq]; omega
      have e3 : wr .i64 ((i : Int) + 1) = ((i + 1 : Nat) : Int) := by rw [wr_id (by simp only [inI]; omega)]; rfl
      simp only [lBytes_1, e1, cond_t, e2, chk, Int.zero_add, inb_t (show i < w.length by omega), e3]
      exact spoil_loop hm h k (i + 1) _ (by rw [List.length_set]; exact hw) (by omega) (by omega)
    · simp only [lBytes_1, decide_eq_false (show ¬ (i : Int) < (m : Int) by omega), cond_f]
      exact h _ _
theorem lBytes_true {a b : Str} : ∃ k, lBytes_body k (a, b) = some true := by
  refine ⟨a.length + 1, ?_⟩
  simp only [lBytes_body]
  by_cases h1 : 3000 < (a.length : Int)
  · simp only [decide_eq_true h1, cond_t]
  by_cases h2 : 3000 < (b.length : Int)
  · simp only [decide_eq_true h2, decide_eq_false h1, cond_t, cond_f]
  have hl : a.length ≤ 1000000 := by omega
  have e1 : bclone a = some a := by simp only [bclone]; rw [decide_eq_true (show a.length ≤ 140737488355328 by omega)]; rfl
  have e2 : decide (kcm b a = wr .i64 (0 - kcm a b)) = true := by
    have : kcm b a = wr .i64 (0 - kcm a b) := by
      show scmp b a = wr .i64 (0 - scmp a b)
      rw [wr_opp (scmp_range a b), scmp_anti]
    exact decide_eq_true this
  have e3 : decide (kcm a b = rcmp4 a b) = true := decide_eq_true rfl
  have e4 : decide (kbeg a b = rbeg a b) = true := decide_eq_true rfl
  have e5 : rnext a = some (nxt a) := knext_some hl
  simp only [decide_eq_false h1, decide_eq_false h2, cond_f, e1, Option.bind_some, e2, e3, e4, e5, Bool.not_true, l0_knext, same_self, cond_t]
  by_cases hb0 : a = []
  · subst hb0; rfl
  · have e6 : List.isEmpty a = false := by cases a with
      | nil => exact absurd rfl hb0
      | cons _ _ => rfl
    rw [e6, cond_f]
    refine knext_loop (c := some true) hl (fun m hm hd hcc => ?_) (a.length + 1) a.length (Nat.le_refl _) (by omega) (by simp)
    have sp : ∀ w : Str, m ≤ w.length → iter (fun rec => lBytes_1 rec fun e v => match v with | (_, _, _, _) => match e with
                    | .exit 0 => some true
                    | _ => none) (a.length + 1) (0, w, 0, (m : Int)) = some true := fun w hw => spoil_loop (c := some true) (by omega) (fun _ _ => rfl) (a.length + 1) 0 w hw (Nat.zero_le _) (by omega)
    by_cases h0 : 0 < m
    · have hml : m - 1 < a.length := by omega
      have f0 : wr .i64 ((m : Int) - 1) = ((m - 1 : Nat) : Int) := by rw [wr_id (by simp only [inI]; omega)]; omega
      have f1 : decide ((0 : Int) < (m : Int)) = true := decide_eq_true (by omega)
      have f2 : inO ((m - 1 : Nat) : Int) (m : Int) = true := by simp only [inO, Bool.and_eq_true, decide_eq_true_eq]; omega
      have f3 : ∀ x : UInt8, (decide ((0 : Int) ≤ 0) && decide ((0 : Int) ≤ (m : Int)) && decide ((m : Int) ≤ (((a.set (m - 1) x).length : Nat) : Int))) = true := fun x => by
        simp only [List.length_set, Bool.and_eq_true, decide_eq_true_eq]; omega
      simp only [f1, cond_t, f0, f2, chk, Int.zero_add, inb_t hml, at_nat (c := .byte) hml, Int.toNat_natCast, f3, byte_succ]
      rw [set_cut h0 hm, nxt_at hm hd h0 (hcc hml h0)]
      simp only [same_self, Bool.not_true, cond_f]
      exact sp _ (by rw [List.length_set]; exact hm)
    · have hm0 : m = 0 := by omega
      subst hm0
      have f1 : decide ((0 : Int) < ((0 : Nat) : Int)) = false := rfl
      have f3 : (decide ((0 : Int) ≤ 0) && decide ((0 : Int) ≤ ((0 : Nat) : Int)) && decide ((0 : Int) + ((0 : Nat) : Int) ≤ ((a.length : Nat) : Int))) = true := by simp
      have f4 : cut a 0 (0 + ((0 : Nat) : Int)) = [] := by simp [cut]
      simp only [f1, cond_f, f3, chk, cond_t, f4]
      rw [nxt_zero hd]
      simp only [same_self, Bool.not_true, cond_f]
      exact sp a (Nat.zero_le _)
theorem lBytes_ok : FnOk Tryd.prog elT glT 7 [.sl .byte false, .sl .byte false] [.bool] (fun _ => some true) := .fin 0 lBytes_run fun (a, b) r _ hx => by
  have hx : some true = some r := hx
  rw [← hx]
  exact lBytes_true
set_option maxRecDepth 100000 in
theorem keysBytes_contract (H : Type) (enc : TypeId × Value → H) (W : World) (base : Nat) (args : Array Value) (ds gs : List (DataW H)) (before : List MemPlace)
    (hval : ∀ (j : Nat) t v, Tryd.f7.params[j]? = some t → args[j]? = some v → Value.okWide Tryd.prog W .any base t v)
    (hW : DataW.Whole enc Tryd.prog Tryd.f7.params.toList Rows.keysBytesSpec.vars false W args.toList ds gs before) (hS : W.ShapedOpen Tryd.prog)
    (hsz : (DataW.weightsEach Tryd.prog (Tryd.f7.params.toList ++ (OpenSpec.ofChange Rows.keysBytesSpec).bare.plain.varTypes Tryd.prog) (ds ++ gs)).all (· ≤ reachBytes) = true) :
    Calls Tryd.prog 7 args W fun e W' => ∃ v, e = .returned v ∧ Rows.keysBytesSpec.post enc Tryd.prog Tryd.f7 false true false false W args v W' :=
  law_frame (msr_weights _) (fn := Tryd.f7) lBytes_ok (fun _ _ _ => rfl) (by kernel_rfl) rfl (fun ds h => match ds, h with | [_, _], _ => ⟨rfl, rfl, rfl⟩) (by kernel_rfl) (by kernel_rfl) hval hW (shape_glR hS) (fun hl => sizes_of hsz (Nat.le_of_eq hl))
theorem keysBytes_laid_met (os : Os) (args : Array Value) : laidMet Tryd.prog Rows.keysBytesRow.laid ((laidWorld os).forCall (fun _ _ => 0) ⟨#[], args, []⟩).memory :=
  laidMet_of_run' 8 (by kernel_rfl) (by kernel_rfl)
theorem keysBytes_reads (os : Os) {H : Type} (enc : TypeId × Value → H) : ∃ places, DataW.whole enc Tryd.prog ((laidWorld os).forCall (fun _ _ => 0) ⟨#[], #[.slice none 0 0, .slice none 0 0], []⟩).memory Tryd.f7.params.toList Rows.keysBytesSpec.vars false (#[.slice none 0 0, .slice none 0 0] : Array Value).toList 8 = some ([.nil, .nil], [], places) :=
  ⟨[], by kernel_rfl⟩
set_option maxRecDepth 100000 in
theorem keysBytes_lifted (os : Os) (started : os.Started) (H : Type) (enc : TypeId × Value → H) (F : Stop.Interp) :
    ReturnsInHanded {} Tryd.checked os 7 .any ((OpenSpec.ofChange Rows.keysBytesSpec).preRow enc Tryd.prog Tryd.f7 Rows.keysBytesRow.domain false Rows.keysBytesRow.laid) (((OpenSpec.ofChange Rows.keysBytesSpec).at F).post enc Tryd.prog Tryd.f7 false true false false) := by
  obtain ⟨places, hx⟩ := keysBytes_reads os enc
  refine returnsInHanded_of_row (C := Tryd.checked) (s := OpenSpec.ofChange Rows.keysBytesSpec) own started (by kernel_rfl) Tryd.func7
    (witness_row_at (enc := enc) (C := Tryd.checked) false (laidWorld os) #[.slice none 0 0, .slice none 0 0] rfl (by kernel_rfl) (by kernel_rfl) (by kernel_rfl)
      (OpenSpec.preRow_of_cond 8 hx (by kernel_rfl) (fun k hk => by cases hk) (by kernel_rfl) (keysBytes_laid_met os _))) ?_
  intro W base args ds gs before hval hW _ _ hsz _ hS _
  exact keysBytes_contract H enc W base args ds gs before hval hW hS hsz
theorem keysBytes_said : Rows.KeysBytesSaid :=
  OpenClaim.holds_of_cond 7 Tryd.f7 rfl rfl rfl rfl rfl rfl rfl ⟨rfl, rfl, rfl, rfl, rfl⟩ rfl rfl rfl rfl rfl (by kernel_rfl) Tryd.func7 (by kernel_rfl)
    (of_decide_eq_true (by kernel_rfl)) (by unfold Func.isWrapper; first | (rw [if_pos (by decide +kernel)]; kernel_rfl) | (rw [if_neg (by decide +kernel)]; exact ⟨rfl, rfl⟩))
    (fun os started H enc _ F => by rw [OpenClaim.pre_eq_preRow]; exact keysBytes_lifted os started H enc F)
theorem keysBytes_plain (f : FuncId) (fn : Func) (hf : Tryd.pinned.checked.prog.funcNamed "exchequer/exchequerlaw04.KeysBytes" = some f) (hfn : Tryd.pinned.checked.prog.funcs[f]? = some fn) :
    false = Tryd.pinned.checked.prog.looks [] ∧ ∀ (j : Nat) t, fn.params[j]? = some t → Tryd.pinned.checked.prog.wantsStandIn t = false := by
  obtain rfl : f = 7 := Option.some.inj ((show Tryd.prog.funcNamed "exchequer/exchequerlaw04.KeysBytes" = some 7 by kernel_rfl).symm.trans hf) |>.symm
  obtain rfl : fn = Tryd.f7 := (Option.some.inj (Tryd.func7.symm.trans hfn)).symm
  refine ⟨by kernel_rfl, fun j t ht => ?_⟩
  have hall : (Tryd.f7.params.all fun t => !Tryd.prog.wantsStandIn t) = true := by kernel_rfl
  have := Array.all_eq_true_iff_forall_mem.1 hall t (Array.mem_of_getElem? ht)
  have h2 : Tryd.prog.wantsStandIn t = false := by simpa using this
  exact h2
/-- THE CARD -/
theorem keysBytes_card : Rows.KeysBytesCardSaid :=
  Claim7.holds_tied_plain_at .later [] _ _ _ _ keysBytes_said (fun _ h => by cases h) (by kernel_rfl) (fun _ h => by cases h) keysBytes_row_tie rfl ⟨rfl, rfl⟩ (by kernel_rfl) rfl keysBytes_plain (by kernel_rfl)
#print axioms keysBytes_card
end Go.Proofs.YtkiakihffmafcaaDoor
