/- AstDeep: an expression in another one is one deeper, up to as deep as may be; its text is in the other one's; so are its names; on the condition of the row alone: that the package's tables hold what the program's text lays. -/
import Derived.Test.YtjpcghlpkinahaaDoorQ6
namespace Go.Proofs.YtjpcghlpkinahaaDoor
open Go.Ax Go.ChangeShapes Go.WideShapes Go.ChangeAt Go.RowKit Go.ChangeMaps
/-! ## exchequer/exchequerlaw13.AstDeep -/
def lDeep_1_sg : Sig := ⟨131, [(8, .bool), (20, .sl .str true), (21, .int .i64)], [(4, .ptr 0 0), (5, .ptr 1 0), (17, .ptr 3 0), (19, .ptr 4 0)], [(0, .one (.sv .expr)), (1, .one (.sv .expr)), (3, .one (.sv .expr)), (4, .one (.sv .expr))], 5, 0, 0, [], []⟩
abbrev lDeep_1_V := Bool × List Str × Int × Xpr × Xpr × Xpr × Xpr
def lDeep_1 {R : Type} (rec : lDeep_1_V → Option R) (kx : Ex → lDeep_1_V → Option R) (v : lDeep_1_V) : Option R := match v with
 | (v10, v11, v12, w4, w5, w6, w7) =>
  cond (decide (v12 < (v11.length : Int))) (
   (rnames w4).bind fun x7 =>
    chk (inb v12 v11.length) (
     cond (!(rhas x7 (at' .str v11 v12))) (
      (rnames w5).bind fun x8 =>
       chk (inb v12 v11.length) (
        cond (!(rhas x8 (at' .str v11 v12))) (
         kx .ret (false, v11, v12, w4, w5, w6, w7)) (
         rec (v10, v11, (wr .i64 (v12 + 1)), w4, w5, w6, w7)))) (
      rec (v10, v11, (wr .i64 (v12 + 1)), w4, w5, w6, w7)))) (
   kx (.exit 2) (v10, v11, v12, w4, w5, w6, w7))
def lDeep_0_sg : Sig := ⟨131, [(3, .int .u8), (8, .bool), (18, .int .i64)], [(4, .ptr 0 0), (5, .ptr 1 0), (14, .ptr 2 0), (17, .ptr 3 0)], [(0, .one (.sv .expr)), (1, .one (.sv .expr)), (2, .one (.sv .expr)), (3, .one (.sv .expr))], 4, 0, 0, [], []⟩
abbrev lDeep_0_V := Int × Bool × Int × Xpr × Xpr × Xpr × Xpr
def lDeep_0 {R : Type} (rec : lDeep_0_V → Option R) (kx : Ex → lDeep_0_V → Option R) (v : lDeep_0_V) : Option R := match v with
 | (v, v1, v2, w, w1, w2, w3) =>
  cond (decide (v2 < 29)) (
   chk (inb (Int.tmod (wr .i64 v) 3) 3) (
    rec (v, v1, (wr .i64 (v2 + 1)), w, w1, w2, (Xpr.mk (at' .int [3, 15, 16] (Int.tmod (wr .i64 v) 3)) ⟨0, 0, []⟩ [] [w3])))) (
   kx (.exit 0) (v, v1, v2, w, w1, w2, w3))
def lDeep_px (R : Type) (k : Nat) : Px R := ⟨ttOf ttL, glT, callT [(18, callOr [.sv .expr, .int .i64] [.int .i64] much1_F), (20, callOr [] [.bool] known13_F), (21, callOr [.sv .expr] [.str, .int .i64] atext_F), (25, callOr [.int .i64, .sv .expr, .sv .expr] [.sv .expr] ltwo_F), (26, callOr [.int .i64] [.str] rsign_F), (27, callOr [.str] [.sv .expr] lnm_F), (28, callOr [.sv .expr] [.sl .str true] anames_F), (29, callOr [.sl .str false, .str] [.bool] rhas_F), (31, callOr [.sv .expr] [.int .i64] aexpr_F)], callQT [(30, callOrQ [.sv .expr] [.sl .str true] rnames_F), (29, callOrQ [.sl .str false, .str] [.bool] rhas_F)], loopT [(14, loopOr k lDeep_0_sg (lDeep_0)), (20, loopOr k lDeep_1_sg (lDeep_1))]⟩
theorem lDeep_0_eq (R : Type) (k : Nat) : ∀ (fr : List Fr) (rec : lDeep_0_V → Option R) (kx : Ex → lDeep_0_V → Option R) (v : lDeep_0_V), round (lDeep_px R k) lDeep_0_sg (lp Tryd.f6 0) fr rec kx v = lDeep_0 rec kx v
  | fr, rec, kx, (v, v1, v2, w, w1, w2, w3) => by kernel_rfl
theorem lDeep_1_eq (R : Type) (k : Nat) : ∀ (fr : List Fr) (rec : lDeep_1_V → Option R) (kx : Ex → lDeep_1_V → Option R) (v : lDeep_1_V), round (lDeep_px R k) lDeep_1_sg (lp Tryd.f6 1) fr rec kx v = lDeep_1 rec kx v
  | fr, rec, kx, (v10, v11, v12, w4, w5, w6, w7) => by kernel_rfl
def lDeep_body (k : Nat) (x : HV [.sv .expr, .sv .expr, .int .u8, .int .u8]) : Option (HV [.bool]) := match x with
 | (a, b, kind, n) =>
  cond (decide (300 ≤ (much1 a 300))) (
   some known13) (
   cond (decide (300 ≤ (much1 b 300))) (
    some known13) (
    (atext a).bind fun (x, x1) =>
     (atext b).bind fun (x2, x3) =>
      cond (!decide (x1 = 0)) (
       some known13) (
       cond (!decide (x3 = 0)) (
        some known13) (
        (atext (ltwo (wr .i64 (4 + (wr .i64 (Int.tmod kind 11)))) a b)).bind fun (x4, x5) =>
         let j := fun (_ : Unit) =>
          iter (fun rec => lDeep_0 rec (fun e vz => match vz with | (_, v4, _, v6, v7, v8, v9) => match e with
           | .exit 0 =>
            (anames v8).bind fun x6 =>
             iter (fun rec => lDeep_1 rec (fun e vz => match vz with | (v13, _, _, _, _, v18, v19) => match e with
              | .ret =>
               some v13
              | .exit 2 =>
               cond (decide ((aexpr v18) = 0)) (
                cond (decide ((aexpr v19) = 2)) (
                 some known13) (
                 some false)) (
                some false)
              | _ => none)) k (v4, x6, 0, v6, v7, v9, (Xpr.mk 3 ⟨0, 0, []⟩ [] [v9]))
           | _ => none)) k (n, false, 0, a, b, (ltwo (wr .i64 (4 + (wr .i64 (Int.tmod kind 11)))) a b), (lnm [97]))
         cond (decide (x5 = 0)) (
          chk (decide ([40].length + x.length ≤ maxStr)) (
           chk (decide (([40] ++ x).length + [32].length ≤ maxStr)) (
            chk (decide ((([40] ++ x) ++ [32]).length + (rsign (wr .i64 (4 + (wr .i64 (Int.tmod kind 11))))).length ≤ maxStr)) (
             chk (decide (((([40] ++ x) ++ [32]) ++ (rsign (wr .i64 (4 + (wr .i64 (Int.tmod kind 11)))))).length + [32].length ≤ maxStr)) (
              chk (decide ((((([40] ++ x) ++ [32]) ++ (rsign (wr .i64 (4 + (wr .i64 (Int.tmod kind 11)))))) ++ [32]).length + x2.length ≤ maxStr)) (
               chk (decide (((((([40] ++ x) ++ [32]) ++ (rsign (wr .i64 (4 + (wr .i64 (Int.tmod kind 11)))))) ++ [32]) ++ x2).length + [41].length ≤ maxStr)) (
                cond (!decide (x4 = (((((([40] ++ x) ++ [32]) ++ (rsign (wr .i64 (4 + (wr .i64 (Int.tmod kind 11)))))) ++ [32]) ++ x2) ++ [41]))) (
                 some false) (
                 j ())))))))) (
          j ())))))
theorem lDeep_eq (k : Nat) : ∀ (x : HV [.sv .expr, .sv .expr, .int .u8, .int .u8]), runF (lDeep_px _ k) Tryd.f6 [.sv .expr, .sv .expr, .int .u8, .int .u8] [.bool] x some = lDeep_body k x
  | (a, b, kind, n) => by kernel_rfl
theorem lDeep_run (k : Nat) : FnOk Tryd.prog elT glT 6 [.sv .expr, .sv .expr, .int .u8, .int .u8] [.bool] (lDeep_body k) := by
  refine fnOk_run Tryd.func6 rfl (by kernel_rfl) follows (by kernel_rfl) (n := 2) (by kernel_rfl) (px := lDeep_px _ k) (fun cx hP hel hgl => ?_) (lDeep_eq k)
  have hp0 : PxOk cx (lDeep_px (HV [.bool]) k) := ⟨fun t => by rw [hP, hel]; exact tt_ok ttL_ok t, by rw [hgl]; rfl⟩
  have hc0 : CallOk cx (lDeep_px (HV [.bool]) k) := callT_ok rfl (cfs_cons (cf_or (by rw [hP, hel, hgl]; exact much1_ok) (by kernel_rfl)) (cfs_cons (cf_or (by rw [hP, hel, hgl]; exact known13_ok) (by kernel_rfl)) (cfs_cons (cf_or (by rw [hP, hel, hgl]; exact atext_ok) (by kernel_rfl)) (cfs_cons (cf_or (by rw [hP, hel, hgl]; exact ltwo_ok) (by kernel_rfl)) (cfs_cons (cf_or (by rw [hP, hel, hgl]; exact rsign_ok) (by kernel_rfl)) (cfs_cons (cf_or (by rw [hP, hel, hgl]; exact lnm_ok) (by kernel_rfl)) (cfs_cons (cf_or (by rw [hP, hel, hgl]; exact anames_ok) (by kernel_rfl)) (cfs_cons (cf_or (by rw [hP, hel, hgl]; exact rhas_ok) (by kernel_rfl)) (cfs_cons (cf_or (by rw [hP, hel, hgl]; exact aexpr_ok) (by kernel_rfl)) cfs_nil)))))))))
  have hq0 : CallQOk cx (lDeep_px (HV [.bool]) k) := callQT_ok rfl (cqfs_cons (cqf_or (by rw [hP, hel, hgl]; exact rnames_ok) (by kernel_rfl)) (cqfs_cons (cqf_or (by rw [hP, hel, hgl]; exact rhas_ok) (by kernel_rfl)) cqfs_nil))
  have hllDeep_0 : LoopOk cx (lDeep_px (HV [.bool]) k) (lp Tryd.f6 0) := loop_ok hp0 hc0 hq0 (by rw [hP]; exact follows) (k := k) (s := lDeep_0_sg) (step := lDeep_0) (fun _ _ => by kernel_rfl) (by kernel_rfl) (lDeep_0_eq _ k) (loops_in (n := 0) (by kernel_rfl) all0)
  have hllDeep_1 : LoopOk cx (lDeep_px (HV [.bool]) k) (lp Tryd.f6 1) := loop_ok hp0 hc0 hq0 (by rw [hP]; exact follows) (k := k) (s := lDeep_1_sg) (step := lDeep_1) (fun _ _ => by kernel_rfl) (by kernel_rfl) (lDeep_1_eq _ k) (loops_in (n := 0) (by kernel_rfl) all0)
  exact ⟨hp0, hc0, hq0, (allS (allS all0 hllDeep_0) hllDeep_1)⟩
noncomputable def lDeepF (x : HV [.sv .expr, .sv .expr, .int .u8, .int .u8]) : Option (HV [.bool]) := @ite _ (∃ k, lDeep_body k x = some true) (Classical.propDecidable _) (some true) none
theorem lDeep_ok : FnOk Tryd.prog elT glT 6 [.sv .expr, .sv .expr, .int .u8, .int .u8] [.bool] lDeepF := .fin 0 lDeep_run fun x r _ hx => by
  unfold lDeepF at hx
  split at hx
  · rename_i h
    obtain ⟨k, hk⟩ := h
    exact ⟨k, hk.trans hx⟩
  · cases hx
def deepN (c : Int) : Nat → Xpr
  | 0 => .mk 2 ⟨0, 0, []⟩ [97] []
  | i + 1 => .mk c ⟨0, 0, []⟩ [] [deepN c i]
theorem deep_all : ([3, 15, 16].all fun c => decide (aexpr (deepN c 29) = 0) && decide (aexpr (.mk 3 ⟨0, 0, []⟩ [] [deepN c 29]) = 2)) = true := by kernel_rfl
theorem fold_of : ∀ (acc out : List Str) {x : Str}, x ∈ acc.foldl addN out → x ∈ out ∨ x ∈ acc
  | [], _, _, h => .inl h
  | y :: acc, out, x, h => by
    rcases fold_of acc (addN out y) h with h | h
    · simp only [addN] at h
      split at h
      · exact .inl h
      · rcases List.mem_append.1 h with h | h
        · exact .inl h
        · exact .inr (by simp only [List.mem_singleton] at h; simp [h])
    · exact .inr (List.mem_cons_of_mem _ h)
theorem two_names (k : Int) (a b : Xpr) (hk : ¬ k = 2) {x : Str} (h : x ∈ nwalk (.mk k ⟨0, 0, []⟩ [] [a, b]) []) : x ∈ nwalk a [] ∨ x ∈ nwalk b [] := by
  have e : nwalk (.mk k ⟨0, 0, []⟩ [] [a, b]) [] = nwalk b (nwalk a []) := by
    simp only [nwalk, nwalks, if_neg hk]
  have e2 := nwalk_fold b [] (nwalk a [])
  rw [List.foldl_nil] at e2
  rw [e, e2] at h
  exact fold_of _ _ h
theorem lDeep_names {R : Type} {kx : Ex → lDeep_1_V → Option R} {l : List Str} {a b d o : Xpr} {c : Option R} (hn : ln l.length) (ha : rnames a = some (nwalk a [])) (hb : rnames b = some (nwalk b [])) (hl : ∀ x, x ∈ l → x ∈ nwalk a [] ∨ x ∈ nwalk b []) (h2 : ∀ q i, kx (.exit 2) (q, l, i, a, b, d, o) = c) (k : Nat) (hk : l.length < k) : iter (fun rec => lDeep_1 rec kx) k (false, l, 0, a, b, d, o) = c := by
  refine iter_ind0 l.length (fun i => (false, l, (i : Int), a, b, d, o)) (fun _ => c) (fun i hi rec hr => ?_) (fun rec => ?_) k 0 (Nat.zero_le _) (by omega)
  · simp only [lDeep_1, lt_t hi, cond_t, ha, hb, Option.bind_some, inb_t hi, chk, at_nat (c := .str) hi, wr_succ hi hn, hr, rhas]
    rcases hl l[i] (List.getElem_mem hi) with h | h
    · rw [List.contains_iff_mem.2 h]; rfl
    · rw [List.contains_iff_mem.2 h]
      cases (nwalk a []).contains l[i] <;> rfl
  · simp only [lDeep_1, lt_n, cond_f, h2]
theorem lDeep_chain {R : Type} {kx : Ex → lDeep_0_V → Option R} {n m : Int} {q : Bool} {a b x : Xpr} {c : Option R} (hm : Int.tmod (wr .i64 n) 3 = m) (h3 : m = 0 ∨ m = 1 ∨ m = 2) (h2 : kx (.exit 0) (n, q, 29, a, b, x, deepN (at' .int [3, 15, 16] m) 29) = c) (k : Nat) (hk : 29 < k) : iter (fun rec => lDeep_0 rec kx) k (n, q, 0, a, b, x, lnm [97]) = c := by
  have hi3 : inb m 3 = true := by rcases h3 with rfl | rfl | rfl <;> rfl
  refine iter_ind0 29 (fun i => (n, q, (i : Int), a, b, x, deepN (at' .int [3, 15, 16] m) i)) (fun _ => c) (fun i hi rec hr => ?_) (fun rec => ?_) k 0 (Nat.zero_le _) (by omega)
  · have hr : rec (n, q, ((i + 1 : Nat) : Int), a, b, x, .mk (at' .int [3, 15, 16] m) ⟨0, 0, []⟩ [] [deepN (at' .int [3, 15, 16] m) i]) = c := hr
    have h29 : decide ((i : Int) < 29) = true := decide_eq_true (by omega)
    simp only [lDeep_0, h29, cond_t, hm, hi3, chk, wr_succ hi (show ln 29 by simp only [ln]; omega), hr]
  · have h29 : decide (((29 : Nat) : Int) < 29) = false := by decide
    simp only [lDeep_0, h29, cond_f]
    exact h2
theorem inK8 {n : Int} (h : inK .u8 n) : 0 ≤ n ∧ n ≤ 255 := by
  simp only [inK, IntKind.min, IntKind.max] at h
  exact ⟨h.1, h.2⟩
theorem mod3 {n : Int} (h : 0 ≤ n ∧ n ≤ 255) : Int.tmod (wr .i64 n) 3 = 0 ∨ Int.tmod (wr .i64 n) 3 = 1 ∨ Int.tmod (wr .i64 n) 3 = 2 := by
  rw [wr_id (by simp only [inI]; omega), Int.tmod_eq_emod_of_nonneg h.1]
  omega
theorem op11 {n : Int} (h : 0 ≤ n ∧ n ≤ 255) : isOp (wr .i64 (4 + wr .i64 (Int.tmod n 11))) := by
  rw [Int.tmod_eq_emod_of_nonneg h.1, wr_id (n := n % 11) (by simp only [inI]; omega), wr_id (by simp only [inI]; omega)]
  simp only [isOp]
  omega
theorem bd_two {k : Int} {a b : Xpr} (hk : isOp k) (ha : BdExpr a) (hb : BdExpr b) : BdExpr (.mk k ⟨0, 0, []⟩ [] [a, b]) := by
  simp only [isOp] at hk
  exact .mk _ _ _ _ (by simp only [inI]; omega) (by simp [BdVal, inI, ln]) (by simp [ln]) (by simp [ln]) (fun x hx => by
    simp only [List.mem_cons, List.not_mem_nil, or_false] at hx
    rcases hx with rfl | rfl
    · exact ha
    · exact hb)
theorem lDeep_true (a b : Xpr) (kind n : Int) (ba : BdExpr a) (bb : BdExpr b) (hk : 0 ≤ kind ∧ kind ≤ 255) (hn : 0 ≤ n ∧ n ≤ 255) (sa : SmExpr (R47, R47) a) (sb : SmExpr (R47, R47) b) : ∃ k, lDeep_body k (a, b, kind, n) = some true := by
  by_cases ha : 300 ≤ much1 a 300
  · exact ⟨0, by simp only [lDeep_body]; rw [decide_eq_true ha]; rfl⟩
  by_cases hb : 300 ≤ much1 b 300
  · exact ⟨0, by simp only [lDeep_body]; rw [decide_eq_false ha, decide_eq_true hb]; rfl⟩
  have za := (much_size (Nat.le_refl _) (esize a) a 300 (Nat.le_refl _) sa (by omega) (by omega)).2.2 (by omega)
  have zb := (much_size (Nat.le_refl _) (esize b) b 300 (Nat.le_refl _) sb (by omega) (by omega)).2.2 (by omega)
  cases hra : eright a 30 with
  | false => exact ⟨0, by
      simp only [lDeep_body]
      rw [decide_eq_false ha, decide_eq_false hb, text_no hra]
      cases hrb : eright b 30 with
      | false => rw [text_no hrb]; rfl
      | true => rw [text_ok hrb bb (by omega)]; rfl⟩
  | true =>
  cases hrb : eright b 30 with
  | false => exact ⟨0, by
      simp only [lDeep_body]
      rw [decide_eq_false ha, decide_eq_false hb, text_ok hra ba (by omega), text_no hrb]
      rfl⟩
  | true =>
  have la := rx_len hra ba
  have lb := rx_len hrb bb
  have ho := op11 hk
  generalize hkk : wr .i64 (4 + wr .i64 (Int.tmod kind 11)) = kk at *
  have lk := sgn_len ho
  have k2 : ¬ kk = 2 := by simp only [isOp] at ho; omega
  have hx2 : ltwo kk a b = .mk kk ⟨0, 0, []⟩ [] [a, b] := rfl
  have zx : esize (.mk kk ⟨0, 0, []⟩ [] [a, b]) ≤ 1300 := by rw [esize_two]; omega
  have hnx : anames (.mk kk ⟨0, 0, []⟩ [] [a, b]) = some (nwalk (.mk kk ⟨0, 0, []⟩ [] [a, b]) []) := if_pos (by omega)
  have hna : rnames a = some (nwalk a []) := if_pos (by omega)
  have hnb : rnames b = some (nwalk b []) := if_pos (by omega)
  have hln := nwalk_len (.mk kk ⟨0, 0, []⟩ [] [a, b]) []
  simp only [List.length_nil] at hln
  refine ⟨30 + (nwalk (.mk kk ⟨0, 0, []⟩ [] [a, b]) []).length, ?_⟩
  simp only [lDeep_body]
  rw [decide_eq_false ha, decide_eq_false hb, text_ok hra ba (by omega), text_ok hrb bb (by omega), hkk, hx2]
  simp only [cond_f, Option.bind_some, decide_true, Bool.not_true]
  have tail : iter (fun rec => lDeep_0 rec (fun e vz => match vz with | (_, v4, _, v6, v7, v8, v9) => match e with
      | .exit 0 =>
        (anames v8).bind fun x6 =>
          iter (fun rec => lDeep_1 rec (fun e vz => match vz with | (v13, _, _, _, _, v18, v19) => match e with
            | .ret => some v13
            | .exit 2 => cond (decide ((aexpr v18) = 0)) (cond (decide ((aexpr v19) = 2)) (some known13) (some false)) (some false)
            | _ => none)) (30 + (nwalk (.mk kk ⟨0, 0, []⟩ [] [a, b]) []).length) (v4, x6, 0, v6, v7, v9, (Xpr.mk 3 ⟨0, 0, []⟩ [] [v9]))
      | _ => none)) (30 + (nwalk (.mk kk ⟨0, 0, []⟩ [] [a, b]) []).length) (n, false, 0, a, b, .mk kk ⟨0, 0, []⟩ [] [a, b], lnm [97]) = some true := by
    refine lDeep_chain rfl (mod3 hn) ?_ _ (by omega)
    show ((anames (.mk kk ⟨0, 0, []⟩ [] [a, b])).bind fun x6 => _) = _
    rw [hnx, Option.bind_some]
    refine lDeep_names (by simp only [ln]; omega) hna hnb (fun x hx => two_names kk a b k2 hx) (fun q i => ?_) _ (by omega)
    have hc : ∀ c : Int, c = 3 ∨ c = 15 ∨ c = 16 → aexpr (deepN c 29) = 0 ∧ aexpr (.mk 3 ⟨0, 0, []⟩ [] [deepN c 29]) = 2 := fun c h => by
      have := List.all_eq_true.1 deep_all c (by simpa using h)
      simpa using this
    have hm : at' .int [3, 15, 16] (Int.tmod (wr .i64 n) 3) = 3 ∨ at' .int [3, 15, 16] (Int.tmod (wr .i64 n) 3) = 15 ∨ at' .int [3, 15, 16] (Int.tmod (wr .i64 n) 3) = 16 := by
      rcases mod3 hn with h | h | h <;> rw [h]
      · exact .inl rfl
      · exact .inr (.inl rfl)
      · exact .inr (.inr rfl)
    obtain ⟨h1, h2⟩ := hc _ hm
    simp only [h1, h2]
    rfl
  cases hrx : eright (.mk kk ⟨0, 0, []⟩ [] [a, b]) 30 with
  | false =>
    rw [text_no hrx]
    exact tail
  | true =>
    have hs : rsign kk = sgn kk := rsign_sgn kk
    have le : ∀ n : Nat, n ≤ 10000000 → decide (n ≤ maxStr) = true := fun n h => decide_eq_true (by simp only [maxStr]; omega)
    rw [text_ok hrx (bd_two ho ba bb) (by omega), etx_op ho, hs]
    simp only [Option.bind_some]
    rw [le _ (by simp only [List.length_cons, List.length_nil]; omega), le _ (by simp only [List.length_append, List.length_cons, List.length_nil]; omega), le _ (by simp only [List.length_append, List.length_cons, List.length_nil]; omega), le _ (by simp only [List.length_append, List.length_cons, List.length_nil]; omega), le _ (by simp only [List.length_append, List.length_cons, List.length_nil]; omega), le _ (by simp only [List.length_append, List.length_cons, List.length_nil]; omega)]
    rw [decide_eq_true (show 40 :: (etx a ++ 32 :: (sgn kk ++ 32 :: (etx b ++ [41]))) = [40] ++ etx a ++ [32] ++ sgn kk ++ [32] ++ etx b ++ [41] by simp)]
    exact tail
theorem astDeep_lists : Lists Rows.astDeepRow.laid := by
  refine ⟨by kernel_rfl, ?_⟩
  simp [Rows.astDeepRow]
set_option maxRecDepth 100000 in
theorem astDeep_contract (H : Type) (enc : TypeId × Value → H) (W : World) (base : Nat) (args : Array Value) (ds gs : List (DataW H)) (before : List MemPlace)
    (hval : ∀ (j : Nat) t v, Tryd.f6.params[j]? = some t → args[j]? = some v → Value.okWide Tryd.prog W .any base t v)
    (hW : DataW.Whole enc Tryd.prog Tryd.f6.params.toList Rows.astDeepSpec.vars false W args.toList ds gs before) (hL : laidMetH Tryd.prog Rows.astDeepRow.laid W) (hS : W.ShapedOpen Tryd.prog)
    (hsz : (DataW.weightsEach Tryd.prog (Tryd.f6.params.toList ++ (OpenSpec.ofChange Rows.astDeepSpec).bare.plain.varTypes Tryd.prog) (ds ++ gs)).all (· ≤ reachBytes) = true) :
    Calls Tryd.prog 6 args W fun e W' => ∃ v, e = .returned v ∧ Rows.astDeepSpec.post enc Tryd.prog Tryd.f6 false true false false W args v W' :=
  law_frame (msr_weights _) (fn := Tryd.f6) lDeep_ok (fun x hb hs => if_pos (lDeep_true x.1 x.2.1 x.2.2.1 x.2.2.2 hb.1 hb.2.1 (inK8 hb.2.2.1) (inK8 hb.2.2.2) hs.1 hs.2.1)) (by kernel_rfl) rfl (fun ds h => match ds, h with | [_, _, _, _], _ => ⟨rfl, rfl, rfl⟩) (by kernel_rfl) (by kernel_rfl) hval hW (all_glR astDeep_lists hL hS) (fun hl => sizes_of hsz (Nat.le_of_eq hl))
theorem astDeep_laid_met (os : Os) (args : Array Value) : laidMet Tryd.prog Rows.astDeepRow.laid ((laidWorld os).forCall (fun _ _ => 0) ⟨#[], args, []⟩).memory :=
  laidMet_of_run' 8 (by kernel_rfl) (by kernel_rfl)
theorem astDeep_reads (os : Os) {H : Type} (enc : TypeId × Value → H) : ∃ places, DataW.whole enc Tryd.prog ((laidWorld os).forCall (fun _ _ => 0) ⟨#[], #[.agg #[.int .i64 0, .int .i64 0, .int .i64 0, .string ⟨#[]⟩, .string ⟨#[]⟩, .slice none 0 0], .agg #[.int .i64 0, .int .i64 0, .int .i64 0, .string ⟨#[]⟩, .string ⟨#[]⟩, .slice none 0 0], .int .u8 0, .int .u8 0], []⟩).memory Tryd.f6.params.toList Rows.astDeepSpec.vars false (#[.agg #[.int .i64 0, .int .i64 0, .int .i64 0, .string ⟨#[]⟩, .string ⟨#[]⟩, .slice none 0 0], .agg #[.int .i64 0, .int .i64 0, .int .i64 0, .string ⟨#[]⟩, .string ⟨#[]⟩, .slice none 0 0], .int .u8 0, .int .u8 0] : Array Value).toList 8 = some ([.agg [.lit (.int .i64 0), .agg [.lit (.int .i64 0), .lit (.int .i64 0), .lit (.string [])], .lit (.string []), .nil], .agg [.lit (.int .i64 0), .agg [.lit (.int .i64 0), .lit (.int .i64 0), .lit (.string [])], .lit (.string []), .nil], .lit (.int .u8 0), .lit (.int .u8 0)], [], places) :=
  ⟨[], by kernel_rfl⟩
set_option maxRecDepth 100000 in
theorem astDeep_lifted (os : Os) (started : os.Started) (H : Type) (enc : TypeId × Value → H) (F : Stop.Interp) :
    ReturnsInHanded {} Tryd.checked os 6 .any ((OpenSpec.ofChange Rows.astDeepSpec).preRow enc Tryd.prog Tryd.f6 Rows.astDeepRow.domain false Rows.astDeepRow.laid) (((OpenSpec.ofChange Rows.astDeepSpec).at F).post enc Tryd.prog Tryd.f6 false true false false) := by
  obtain ⟨places, hx⟩ := astDeep_reads os enc
  refine returnsInHanded_of_row (C := Tryd.checked) (s := OpenSpec.ofChange Rows.astDeepSpec) own started (by kernel_rfl) Tryd.func6
    (witness_row_at (enc := enc) (C := Tryd.checked) false (laidWorld os) #[.agg #[.int .i64 0, .int .i64 0, .int .i64 0, .string ⟨#[]⟩, .string ⟨#[]⟩, .slice none 0 0], .agg #[.int .i64 0, .int .i64 0, .int .i64 0, .string ⟨#[]⟩, .string ⟨#[]⟩, .slice none 0 0], .int .u8 0, .int .u8 0] rfl (by kernel_rfl) (by kernel_rfl) (by kernel_rfl)
      (OpenSpec.preRow_of_cond 8 hx (by kernel_rfl) (fun k hk => by cases hk) (by kernel_rfl) (astDeep_laid_met os _))) ?_
  intro W base args ds gs before hval hW _ _ hsz hL hS _
  exact astDeep_contract H enc W base args ds gs before hval hW hL hS hsz
theorem astDeep_said : Rows.AstDeepSaid :=
  OpenClaim.holds_of_cond 6 Tryd.f6 rfl rfl rfl rfl rfl rfl rfl ⟨rfl, rfl, rfl, rfl, rfl⟩ rfl rfl rfl rfl rfl (by kernel_rfl) Tryd.func6 (by kernel_rfl)
    (of_decide_eq_true (by kernel_rfl)) (by unfold Func.isWrapper; first | (rw [if_pos (by decide +kernel)]; kernel_rfl) | (rw [if_neg (by decide +kernel)]; exact ⟨rfl, rfl⟩))
    (fun os started H enc _ F => by rw [OpenClaim.pre_eq_preRow]; exact astDeep_lifted os started H enc F)
theorem astDeep_plain (f : FuncId) (fn : Func) (hf : Tryd.pinned.checked.prog.funcNamed "exchequer/exchequerlaw13.AstDeep" = some f) (hfn : Tryd.pinned.checked.prog.funcs[f]? = some fn) :
    false = Tryd.pinned.checked.prog.looks [] ∧ ∀ (j : Nat) t, fn.params[j]? = some t → Tryd.pinned.checked.prog.wantsStandIn t = false := by
  obtain rfl : f = 6 := Option.some.inj ((show Tryd.prog.funcNamed "exchequer/exchequerlaw13.AstDeep" = some 6 by kernel_rfl).symm.trans hf) |>.symm
  obtain rfl : fn = Tryd.f6 := (Option.some.inj (Tryd.func6.symm.trans hfn)).symm
  refine ⟨by kernel_rfl, fun j t ht => ?_⟩
  have hall : (Tryd.f6.params.all fun t => !Tryd.prog.wantsStandIn t) = true := by kernel_rfl
  have := Array.all_eq_true_iff_forall_mem.1 hall t (Array.mem_of_getElem? ht)
  have h2 : Tryd.prog.wantsStandIn t = false := by simpa using this
  exact h2
/-- THE CARD -/
theorem astDeep_card : Rows.AstDeepCardSaid :=
  Claim7.holds_tied_plain_at .later [] _ _ _ _ astDeep_said (fun _ h => by cases h) (by kernel_rfl) (fun _ h => by cases h) astDeep_row_tie rfl ⟨rfl, rfl⟩ (by kernel_rfl) rfl astDeep_plain (by kernel_rfl)
#print axioms astDeep_card
end Go.Proofs.YtjpcghlpkinahaaDoor
