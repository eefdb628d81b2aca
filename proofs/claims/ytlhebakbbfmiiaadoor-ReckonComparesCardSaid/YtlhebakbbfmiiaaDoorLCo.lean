/- ReckonCompares: of any two values of one kind, both known, just one of less, the same, and greater is true; each comparison's opposite is its not; with NULL none is known; on the condition of the row alone: that ast.signs holds what the program's text lays. -/
import Derived.Test.YtlhebakbbfmiiaaDoorFf
import Derived.Test.YtlhebakbbfmiiaaDoorFrE
namespace Go.Proofs.YtlhebakbbfmiiaaDoor
open Go.Ax Go.ChangeShapes Go.WideShapes Go.ChangeAt Go.RowKit Go.ChangeMaps
/-! ## exchequer/exchequerlaw15.ReckonCompares -/
def lCompares_px (R : Type) : Px R := ⟨ttOf ttL, glT, callT [(23, callOr [.sv .val] [.int .i64] rcheck_F), (10, callOr [] [.bool] known_F), (20, callOr [.sv .val] [.sv .expr] lvalue_F), (22, callOr [.int .i64, .sv .expr, .sv .expr] [.sv .expr] ltwo_F), (15, callOr [.sv .expr, .sl .col false, .sl .val false] [.bool, .int .i64] holds_F), (13, callOr [.sv .expr, .sl .col false, .sl .val false] [.sv .val, .int .i64] evalX_F), (21, callOr [.int .i64, .sv .expr] [.sv .expr] lone_F)], callQT [], loopT []⟩
def lCompares_body (x : HV [.sv .val, .sv .val, .int .u8]) : Option (HV [.bool]) := match x with
 | (a, b, kind) =>
  let j13 := fun (_ : Unit) =>
   let j3 := fun (p9 : Bool) =>
    cond (p9) (
     let j2 := fun (p10 : Bool) =>
      cond (p10) (
       cond (decide ((holds (ltwo 10 (Xpr.mk ((lvalue a).kind) ⟨((lvalue a).v.kind), ((lvalue a).v.n), ((lvalue a).v.s)⟩ ((lvalue a).name) ((lvalue a).l)) (Xpr.mk ((lvalue b).kind) ⟨((lvalue b).v.kind), ((lvalue b).v.n), ((lvalue b).v.s)⟩ ((lvalue b).name) ((lvalue b).l))) [] []).2 = 151)) (
        some known) (
        some false)) (
       some false)
     cond (decide ((holds (ltwo 8 (Xpr.mk ((lvalue a).kind) ⟨((lvalue a).v.kind), ((lvalue a).v.n), ((lvalue a).v.s)⟩ ((lvalue a).name) ((lvalue a).l)) (Xpr.mk ((lvalue b).kind) ⟨((lvalue b).v.kind), ((lvalue b).v.n), ((lvalue b).v.s)⟩ ((lvalue b).name) ((lvalue b).l))) [] []).2 = 151)) (
      j2 (decide ((holds (ltwo 6 (Xpr.mk ((lvalue a).kind) ⟨((lvalue a).v.kind), ((lvalue a).v.n), ((lvalue a).v.s)⟩ ((lvalue a).name) ((lvalue a).l)) (Xpr.mk ((lvalue b).kind) ⟨((lvalue b).v.kind), ((lvalue b).v.n), ((lvalue b).v.s)⟩ ((lvalue b).name) ((lvalue b).l))) [] []).2 = 151))) (
      j2 false)) (
     cond (!decide ((holds (ltwo 8 (Xpr.mk ((lvalue a).kind) ⟨((lvalue a).v.kind), ((lvalue a).v.n), ((lvalue a).v.s)⟩ ((lvalue a).name) ((lvalue a).l)) (Xpr.mk ((lvalue b).kind) ⟨((lvalue b).v.kind), ((lvalue b).v.n), ((lvalue b).v.s)⟩ ((lvalue b).name) ((lvalue b).l))) [] []).2 = 0)) (
      some false) (
      cond (!decide ((holds (ltwo 6 (Xpr.mk ((lvalue a).kind) ⟨((lvalue a).v.kind), ((lvalue a).v.n), ((lvalue a).v.s)⟩ ((lvalue a).name) ((lvalue a).l)) (Xpr.mk ((lvalue b).kind) ⟨((lvalue b).v.kind), ((lvalue b).v.n), ((lvalue b).v.s)⟩ ((lvalue b).name) ((lvalue b).l))) [] []).2 = 0)) (
       some false) (
       cond (!decide ((holds (ltwo 10 (Xpr.mk ((lvalue a).kind) ⟨((lvalue a).v.kind), ((lvalue a).v.n), ((lvalue a).v.s)⟩ ((lvalue a).name) ((lvalue a).l)) (Xpr.mk ((lvalue b).kind) ⟨((lvalue b).v.kind), ((lvalue b).v.n), ((lvalue b).v.s)⟩ ((lvalue b).name) ((lvalue b).l))) [] []).2 = 0)) (
        some false) (
        let j7 := fun (p20 : Bool) =>
         cond (p20) (
          let j6 := fun (p21 : Bool) =>
           let j5 := fun (p22 : Bool) =>
            let j4 := fun (p23 : Bool) =>
             cond (p23) (
              cond (decide ((evalX (ltwo (wr .i64 (6 + (wr .i64 (Int.tmod kind 6)))) (Xpr.mk ((lvalue a).kind) ⟨((lvalue a).v.kind), ((lvalue a).v.n), ((lvalue a).v.s)⟩ ((lvalue a).name) ((lvalue a).l)) (Xpr.mk ((lvalue b).kind) ⟨((lvalue b).v.kind), ((lvalue b).v.n), ((lvalue b).v.s)⟩ ((lvalue b).name) ((lvalue b).l))) [] []).2 = 0)) (
               some known) (
               some false)) (
              some false)
            cond (p22) (
             j4 (decide (((evalX (ltwo (wr .i64 (6 + (wr .i64 (Int.tmod kind 6)))) (Xpr.mk ((lvalue a).kind) ⟨((lvalue a).v.kind), ((lvalue a).v.n), ((lvalue a).v.s)⟩ ((lvalue a).name) ((lvalue a).l)) (Xpr.mk ((lvalue b).kind) ⟨((lvalue b).v.kind), ((lvalue b).v.n), ((lvalue b).v.s)⟩ ((lvalue b).name) ((lvalue b).l))) [] []).1).kind = 1))) (
             j4 false)
           cond (p21) (
            j5 (!((holds (ltwo 10 (Xpr.mk ((lvalue a).kind) ⟨((lvalue a).v.kind), ((lvalue a).v.n), ((lvalue a).v.s)⟩ ((lvalue a).name) ((lvalue a).l)) (Xpr.mk ((lvalue b).kind) ⟨((lvalue b).v.kind), ((lvalue b).v.n), ((lvalue b).v.s)⟩ ((lvalue b).name) ((lvalue b).l))) [] []).1))) (
            j5 false)
          cond (!((holds (ltwo 8 (Xpr.mk ((lvalue a).kind) ⟨((lvalue a).v.kind), ((lvalue a).v.n), ((lvalue a).v.s)⟩ ((lvalue a).name) ((lvalue a).l)) (Xpr.mk ((lvalue b).kind) ⟨((lvalue b).v.kind), ((lvalue b).v.n), ((lvalue b).v.s)⟩ ((lvalue b).name) ((lvalue b).l))) [] []).1)) (
           j6 (!((holds (ltwo 6 (Xpr.mk ((lvalue a).kind) ⟨((lvalue a).v.kind), ((lvalue a).v.n), ((lvalue a).v.s)⟩ ((lvalue a).name) ((lvalue a).l)) (Xpr.mk ((lvalue b).kind) ⟨((lvalue b).v.kind), ((lvalue b).v.n), ((lvalue b).v.s)⟩ ((lvalue b).name) ((lvalue b).l))) [] []).1))) (
           j6 false)) (
          let j12 := fun (p28 : Int) =>
           let j11 := fun (p29 : Int) =>
            let j10 := fun (p30 : Int) =>
             chk (inb (wr .i64 (Int.tmod kind 3)) 3) (
              chk (inb (wr .i64 (Int.tmod kind 3)) 3) (
               let j9 := fun (p31 : Bool) =>
                let j8 := fun (p32 : Bool) =>
                 cond (p32) (
                  cond (decide (((evalX (ltwo (at' .int [7, 11, 9] (wr .i64 (Int.tmod kind 3))) (Xpr.mk ((lvalue a).kind) ⟨((lvalue a).v.kind), ((lvalue a).v.n), ((lvalue a).v.s)⟩ ((lvalue a).name) ((lvalue a).l)) (Xpr.mk ((lvalue b).kind) ⟨((lvalue b).v.kind), ((lvalue b).v.n), ((lvalue b).v.s)⟩ ((lvalue b).name) ((lvalue b).l))) [] []).1) = ((evalX (lone 3 (ltwo (at' .int [6, 8, 10] (wr .i64 (Int.tmod kind 3))) (Xpr.mk ((lvalue a).kind) ⟨((lvalue a).v.kind), ((lvalue a).v.n), ((lvalue a).v.s)⟩ ((lvalue a).name) ((lvalue a).l)) (Xpr.mk ((lvalue b).kind) ⟨((lvalue b).v.kind), ((lvalue b).v.n), ((lvalue b).v.s)⟩ ((lvalue b).name) ((lvalue b).l)))) [] []).1))) (
                   some known) (
                   some false)) (
                  some false)
                cond (p31) (
                 j8 (decide ((evalX (lone 3 (ltwo (at' .int [6, 8, 10] (wr .i64 (Int.tmod kind 3))) (Xpr.mk ((lvalue a).kind) ⟨((lvalue a).v.kind), ((lvalue a).v.n), ((lvalue a).v.s)⟩ ((lvalue a).name) ((lvalue a).l)) (Xpr.mk ((lvalue b).kind) ⟨((lvalue b).v.kind), ((lvalue b).v.n), ((lvalue b).v.s)⟩ ((lvalue b).name) ((lvalue b).l)))) [] []).2 = 0))) (
                 j8 false)
               cond (decide (p30 = 1)) (
                j9 (decide ((evalX (ltwo (at' .int [7, 11, 9] (wr .i64 (Int.tmod kind 3))) (Xpr.mk ((lvalue a).kind) ⟨((lvalue a).v.kind), ((lvalue a).v.n), ((lvalue a).v.s)⟩ ((lvalue a).name) ((lvalue a).l)) (Xpr.mk ((lvalue b).kind) ⟨((lvalue b).v.kind), ((lvalue b).v.n), ((lvalue b).v.s)⟩ ((lvalue b).name) ((lvalue b).l))) [] []).2 = 0))) (
                j9 false)))
            cond ((holds (ltwo 10 (Xpr.mk ((lvalue a).kind) ⟨((lvalue a).v.kind), ((lvalue a).v.n), ((lvalue a).v.s)⟩ ((lvalue a).name) ((lvalue a).l)) (Xpr.mk ((lvalue b).kind) ⟨((lvalue b).v.kind), ((lvalue b).v.n), ((lvalue b).v.s)⟩ ((lvalue b).name) ((lvalue b).l))) [] []).1) (
             j10 (wr .i64 (p29 + 1))) (
             j10 p29)
           cond ((holds (ltwo 6 (Xpr.mk ((lvalue a).kind) ⟨((lvalue a).v.kind), ((lvalue a).v.n), ((lvalue a).v.s)⟩ ((lvalue a).name) ((lvalue a).l)) (Xpr.mk ((lvalue b).kind) ⟨((lvalue b).v.kind), ((lvalue b).v.n), ((lvalue b).v.s)⟩ ((lvalue b).name) ((lvalue b).l))) [] []).1) (
            j11 (wr .i64 (p28 + 1))) (
            j11 p28)
          cond ((holds (ltwo 8 (Xpr.mk ((lvalue a).kind) ⟨((lvalue a).v.kind), ((lvalue a).v.n), ((lvalue a).v.s)⟩ ((lvalue a).name) ((lvalue a).l)) (Xpr.mk ((lvalue b).kind) ⟨((lvalue b).v.kind), ((lvalue b).v.n), ((lvalue b).v.s)⟩ ((lvalue b).name) ((lvalue b).l))) [] []).1) (
           j12 1) (
           j12 0))
        cond (decide (a.kind = 1)) (
         j7 true) (
         j7 (decide (b.kind = 1)))))))
   cond (!decide (a.kind = b.kind)) (
    cond (!decide (a.kind = 1)) (
     j3 (!decide (b.kind = 1))) (
     j3 false)) (
    j3 false)
  let j1 := fun (p : Bool) =>
   let j := fun (p2 : Bool) =>
    cond (p2) (
     some known) (
     cond (decide (b.kind = 3)) (
      cond (decide (b.n < 0)) (
       some known) (
       j13 ())) (
      j13 ()))
   cond (p) (
    j true) (
    cond (decide (a.kind = 3)) (
     j (decide (a.n < 0))) (
     j false))
  cond (!decide ((rcheck a) = 0)) (
   j1 true) (
   j1 (!decide ((rcheck b) = 0)))
theorem lCompares_eq : ∀ (x : HV [.sv .val, .sv .val, .int .u8]), runF (lCompares_px _) Tryd.f6 [.sv .val, .sv .val, .int .u8] [.bool] x some = lCompares_body x
  | (a, b, kind) => by kernel_rfl
theorem lCompares_run : FnOk Tryd.prog elT glT 6 [.sv .val, .sv .val, .int .u8] [.bool] (lCompares_body) := by
  refine fnOk_run Tryd.func6 rfl (by kernel_rfl) follows (by kernel_rfl) (n := 0) (by kernel_rfl) (px := lCompares_px _) (fun cx hP hel hgl => ?_) (lCompares_eq)
  have hp0 : PxOk cx (lCompares_px (HV [.bool])) := ⟨fun t => by rw [hP, hel]; exact tt_ok ttL_ok t, by rw [hgl]; rfl⟩
  have hc0 : CallOk cx (lCompares_px (HV [.bool])) := callT_ok rfl (cfs_cons (cf_or (by rw [hP, hel, hgl]; exact rcheck_ok) (by kernel_rfl)) (cfs_cons (cf_or (by rw [hP, hel, hgl]; exact known_ok) (by kernel_rfl)) (cfs_cons (cf_or (by rw [hP, hel, hgl]; exact lvalue_ok) (by kernel_rfl)) (cfs_cons (cf_or (by rw [hP, hel, hgl]; exact ltwo_ok) (by kernel_rfl)) (cfs_cons (cf_or (by rw [hP, hel, hgl]; exact holds_ok) (by kernel_rfl)) (cfs_cons (cf_or (by rw [hP, hel, hgl]; exact evalX_ok) (by kernel_rfl)) (cfs_cons (cf_or (by rw [hP, hel, hgl]; exact lone_ok) (by kernel_rfl)) cfs_nil)))))))
  have hq0 : CallQOk cx (lCompares_px (HV [.bool])) := callQT_ok rfl cqfs_nil
  exact ⟨hp0, hc0, hq0, all0⟩
def ok1 (a : Val) : Prop := vcheck a = 0 ∧ ¬ (a.kind = 3 ∧ a.n < 0)
theorem eright_val {a : Val} (h : ok1 a) (m : Int) (hm : m ≠ 0) : eright (lvalue a) m = true := by
  rw [eright_un]
  have e1 : (lvalue a).l = [] := rfl
  have e2 : (lvalue a).kind = 1 := rfl
  have e3 : (lvalue a).v = a := rfl
  have e4 : (lvalue a).name = [] := rfl
  rw [e1, e2, e3, e4]
  have hp : parts 1 = 0 := by decide
  have h1 := h.1
  have h2 : (decide (a.kind = 3) && decide (a.n < 0)) = false := by
    have := h.2
    by_cases h3 : a.kind = 3 <;> by_cases h4 : a.n < 0 <;> simp_all
  simp [hm, hp, eok, h1, h2, erights]
theorem eright_two {a b : Val} (ha : ok1 a) (hb : ok1 b) {k : Int} (hk : 4 ≤ k ∧ k ≤ 14) (m : Int) (hm : m ≠ 0) (hm2 : wr .i64 (m - 1) ≠ 0) : eright (ltwo k (lvalue a) (lvalue b)) m = true := by
  rw [eright_un]
  have e1 : (ltwo k (lvalue a) (lvalue b)).l = [lvalue a, lvalue b] := rfl
  have e2 : (ltwo k (lvalue a) (lvalue b)).kind = k := rfl
  have e3 : (ltwo k (lvalue a) (lvalue b)).v = ⟨0, 0, []⟩ := rfl
  have e4 : (ltwo k (lvalue a) (lvalue b)).name = [] := rfl
  rw [e1, e2, e3, e4]
  have hp : parts k = 2 := by
    rcases parts_spec k with ⟨h, h2⟩ | ⟨h, h2⟩ | ⟨h, _⟩ | h
    · omega
    · omega
    · exact h
    · exfalso
      have : k = 4 ∨ k = 5 ∨ k = 6 ∨ k = 7 ∨ k = 8 ∨ k = 9 ∨ k = 10 ∨ k = 11 ∨ k = 12 ∨ k = 13 ∨ k = 14 := by omega
      rcases this with rfl | rfl | rfl | rfl | rfl | rfl | rfl | rfl | rfl | rfl | rfl <;> exact absurd h (by decide)
  have k1 : ¬ k = 1 := by omega
  have k2 : ¬ k = 2 := by omega
  simp [hm, hp, eok, erights, eright_val ha _ hm2, eright_val hb _ hm2, k1, k2]
theorem kind_two {a b : Val} {k : Int} (hk : 6 ≤ k ∧ k ≤ 11) : kindE (ltwo k (lvalue a) (lvalue b)) [] = if a.kind = b.kind ∨ a.kind = 1 ∨ b.kind = 1 then (2, 0) else (0, 151) := by
  rw [kindE_un]
  have e1 : (ltwo k (lvalue a) (lvalue b)).l = [lvalue a, lvalue b] := rfl
  have ka : ∀ v : Val, kindE (lvalue v) [] = (v.kind, 0) := fun v => rfl
  rw [e1]
  simp only [kindL, kres, ka, if_true]
  have e2 : (ltwo k (lvalue a) (lvalue b)).kind = k := rfl
  simp only [kfin, e2]
  rw [if_neg (by omega), if_neg (by omega), if_neg (by omega), if_neg (by omega), if_neg (by omega)]
theorem eval_two {a b : Val} {k : Int} (hk : 6 ≤ k ∧ k ≤ 11) : evalE (ltwo k (lvalue a) (lvalue b)) [] [] = some (if a.kind = 1 ∨ b.kind = 1 then ⟨1, 0, []⟩ else truth (stands k (vcmp a b)), 0) := by
  rw [evalE_un]
  have e1 : (ltwo k (lvalue a) (lvalue b)).l = [lvalue a, lvalue b] := rfl
  have ka : ∀ v : Val, evalE (lvalue v) [] [] = some (v, 0) := fun v => rfl
  rw [e1]
  simp only [evalL, ka, if_true]
  have hc : chk (decide (([lvalue a, lvalue b] : List Xpr).length ≤ maxApp)) = fun z : Option (Val × Int) => z := rfl
  rw [hc]
  have e2 : (ltwo k (lvalue a) (lvalue b)).kind = k := rfl
  simp only [efin, e2]
  rw [decide_eq_false (show ¬ k = 1 by omega), decide_eq_false (show ¬ k = 2 by omega), decide_eq_false (show ¬ k = 16 by omega), decide_eq_false (show ¬ k = 3 by omega), decide_eq_false (show ¬ k = 15 by omega), decide_eq_false (show ¬ k = 4 by omega), decide_eq_false (show ¬ k = 5 by omega), decide_eq_false (show ¬ 12 ≤ k by omega)]
  have i2 : inb 0 [a, b].length = true := rfl
  have i3 : inb 1 [a, b].length = true := rfl
  have a0 : at' .val [a, b] 0 = a := rfl
  have a1 : at' .val [a, b] 1 = b := rfl
  simp only [cond_f, i2, i3, a0, a1, chk, cond_t, List.any_cons, List.any_nil, Bool.or_false, isNull]
  by_cases h1 : a.kind = 1 <;> by_cases h2 : b.kind = 1 <;> simp [h1, h2]
theorem evalX_two {a b : Val} (ha : ok1 a) (hb : ok1 b) {k : Int} (hk : 6 ≤ k ∧ k ≤ 11) : evalX (ltwo k (lvalue a) (lvalue b)) [] [] = if a.kind = 1 ∨ b.kind = 1 then (⟨1, 0, []⟩, 0) else if a.kind = b.kind then (truth (stands k (vcmp a b)), 0) else (⟨0, 0, []⟩, 151) := by
  have h0 : aexpr (ltwo k (lvalue a) (lvalue b)) = 0 := aexpr_iff.2 (eright_two ha hb (by omega) 30 (by omega) (by decide))
  have hf : rowfits [] [] = true := rfl
  simp only [evalX, h0, hf, kind_two hk, eval_two hk, decide_true, Bool.not_true, cond_f, Option.getD_some]
  by_cases h1 : a.kind = 1
  · simp [h1]
  · by_cases h2 : b.kind = 1
    · simp [h2]
    · by_cases h3 : a.kind = b.kind
      · simp [h3, h2]
      · simp [h1, h2, h3]
theorem evalX_not {a b : Val} (ha : ok1 a) (hb : ok1 b) {k : Int} (hk : 6 ≤ k ∧ k ≤ 11) (h1 : ¬ a.kind = 1) (h2 : ¬ b.kind = 1) (h3 : a.kind = b.kind) : evalX (lone 3 (ltwo k (lvalue a) (lvalue b))) [] [] = (truth (!stands k (vcmp a b)), 0) := by
  have hr : eright (lone 3 (ltwo k (lvalue a) (lvalue b))) 30 = true := by
    rw [eright_un]
    have e1 : (lone 3 (ltwo k (lvalue a) (lvalue b))).l = [ltwo k (lvalue a) (lvalue b)] := rfl
    have e2 : (lone 3 (ltwo k (lvalue a) (lvalue b))).kind = 3 := rfl
    have e3 : (lone 3 (ltwo k (lvalue a) (lvalue b))).v = ⟨0, 0, []⟩ := rfl
    have e4 : (lone 3 (ltwo k (lvalue a) (lvalue b))).name = [] := rfl
    rw [e1, e2, e3, e4]
    have hp : parts 3 = 1 := by decide
    have hx := eright_two ha hb (k := k) (by omega) (wr .i64 (30 - 1)) (by decide) (by decide)
    simp only [hp, eok, erights]
    simp only [show (30:Int) - 1 = 29 from rfl] at hx
    simp [hx]
  have h0 : aexpr (lone 3 (ltwo k (lvalue a) (lvalue b))) = 0 := aexpr_iff.2 hr
  have hf : rowfits [] [] = true := rfl
  have hk2 : kindE (lone 3 (ltwo k (lvalue a) (lvalue b))) [] = (2, 0) := by
    rw [kindE_un]
    have e1 : (lone 3 (ltwo k (lvalue a) (lvalue b))).l = [ltwo k (lvalue a) (lvalue b)] := rfl
    rw [e1]
    simp only [kindL, kind_two hk, if_pos (show a.kind = b.kind ∨ a.kind = 1 ∨ b.kind = 1 from .inl h3), kres, if_true]
    rfl
  have hev : evalE (lone 3 (ltwo k (lvalue a) (lvalue b))) [] [] = some (truth (!stands k (vcmp a b)), 0) := by
    rw [evalE_un]
    have e1 : (lone 3 (ltwo k (lvalue a) (lvalue b))).l = [ltwo k (lvalue a) (lvalue b)] := rfl
    rw [e1]
    simp only [evalL, eval_two hk, if_neg (show ¬ (a.kind = 1 ∨ b.kind = 1) by simp [h1, h2]), if_true]
    cases stands k (vcmp a b) <;> rfl
  simp only [evalX, h0, hf, hk2, hev, decide_true, Bool.not_true, cond_f, Option.getD_some]
theorem holds_two {a b : Val} (ha : ok1 a) (hb : ok1 b) {k : Int} (hk : 6 ≤ k ∧ k ≤ 11) : holds (ltwo k (lvalue a) (lvalue b)) [] [] = if a.kind = 1 ∨ b.kind = 1 then (false, 0) else if a.kind = b.kind then (stands k (vcmp a b), 0) else (false, 151) := by
  simp only [holds, evalX_two ha hb hk, kind_two hk]
  by_cases h1 : a.kind = 1
  · simp [h1, rfits, truth]
  · by_cases h2 : b.kind = 1
    · simp [h2, rfits, truth]
    · by_cases h3 : a.kind = b.kind
      · simp only [h2, h3, or_self, true_or, if_false, if_true]
        cases stands k (vcmp a b) <;> rfl
      · simp [h1, h2, h3]
theorem tmod3 (k : Int) (h : 0 ≤ k ∧ k ≤ 255) : wr .i64 (Int.tmod k 3) = 0 ∨ wr .i64 (Int.tmod k 3) = 1 ∨ wr .i64 (Int.tmod k 3) = 2 := by
  rw [Int.tmod_eq_emod_of_nonneg h.1, wr_id (by simp only [inI]; omega)]
  omega
theorem tmod6 (k : Int) (h : 0 ≤ k ∧ k ≤ 255) : 6 ≤ wr .i64 (6 + wr .i64 (Int.tmod k 6)) ∧ wr .i64 (6 + wr .i64 (Int.tmod k 6)) ≤ 11 := by
  rw [Int.tmod_eq_emod_of_nonneg h.1, wr_id (n := k % 6) (by simp only [inI]; omega), wr_id (by simp only [inI]; omega)]
  omega
theorem vcmp_range (a b : Val) : vcmp a b = -1 ∨ vcmp a b = 0 ∨ vcmp a b = 1 := by
  have h : ∀ x y, vsign x y = -1 ∨ vsign x y = 0 ∨ vsign x y = 1 := fun x y => by
    simp only [vsign, Bool.cond_decide]
    split
    · simp
    · split <;> simp
  simp only [vcmp]
  rcases h a.kind b.kind with h1 | h1 | h1 <;> rw [h1] <;> simp
  rcases h a.n b.n with h2 | h2 | h2 <;> rw [h2] <;> simp
  exact scmp_range _ _
end Go.Proofs.YtlhebakbbfmiiaaDoor
