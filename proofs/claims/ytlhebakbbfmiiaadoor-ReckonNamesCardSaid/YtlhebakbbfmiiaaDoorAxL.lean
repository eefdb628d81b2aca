/- Ax, part L: THE OPERATIONS THAT LEAVE ALL ELSE AS IT IS. -/
import Derived.Test.YtlhebakbbfmiiaaDoorAxK
namespace Go.Ax
open Go.RowKit
section
variable {R : Type} {px : Px R} {cx : Cx}
theorem builtinQ_run {P : Program} {el : Ck → TypeId} {tt : Nat → Ty} {e : Sx.Env} {vx : Vx} {b : Builtin} {xs : List Operand} {ts : Array Nat} {ds : List D} {vs : List Value} {d : D} (ht : tyOk P el tt (ts.toList.headD 0) = true) (h : builtinQ (tt (ts.toList.headD 0)) b ds = some d) (hx : Sx.Env.evs e xs = some vs) (hr : Reps vx ds vs) (hts : b = .len → ts = #[ts.toList.headD 0]) : ∃ v, Sx.Pure P e (.call ⟨.builtin b, xs.toArray, ts⟩) v ∧ Rep vx d v := by
  have one : ∀ {d1 : D}, ds = [d1] → ∃ x v, xs = [x] ∧ Sx.Env.ev e x = some v ∧ Rep vx d1 v := by
    rintro d1 rfl
    simp only [Reps] at hr
    obtain ⟨u, us, rfl, h1, rfl⟩ := hr
    cases xs with
    | nil => simp [Sx.Env.evs] at hx
    | cons x xs =>
      simp only [Sx.Env.evs] at hx
      cases hv : Sx.Env.ev e x with
      | none => simp [hv] at hx
      | some v =>
        rw [hv] at hx
        cases hw : Sx.Env.evs e xs with
        | none => simp [hw] at hx
        | some us =>
          simp [hw] at hx
          obtain ⟨rfl, rfl⟩ := hx
          cases xs with
          | nil => exact ⟨x, v, rfl, hv, h1⟩
          | cons y ys =>
            simp only [Sx.Env.evs] at hw
            cases h2 : Sx.Env.ev e y <;> simp [h2] at hw
            cases h3 : Sx.Env.evs e ys <;> simp [h3] at hw
  have two : ∀ {d1 d2 : D}, ds = [d1, d2] → ∃ x y v u, xs = [x, y] ∧ Sx.Env.ev e x = some v ∧ Sx.Env.ev e y = some u ∧ Rep vx d1 v ∧ Rep vx d2 u := by
    rintro d1 d2 rfl
    simp only [Reps] at hr
    obtain ⟨u1, us1, rfl, h1, u2, us2, rfl, h2, rfl⟩ := hr
    cases xs with
    | nil => simp [Sx.Env.evs] at hx
    | cons x xs =>
      simp only [Sx.Env.evs] at hx
      cases hv : Sx.Env.ev e x with
      | none => simp [hv] at hx
      | some v =>
        rw [hv] at hx
        cases xs with
        | nil => simp [Sx.Env.evs] at hx
        | cons y xs =>
          simp only [Sx.Env.evs] at hx
          cases hv2 : Sx.Env.ev e y with
          | none => simp [hv2] at hx
          | some v2 =>
            rw [hv2] at hx
            cases xs with
            | nil =>
              simp [Sx.Env.evs] at hx
              obtain ⟨rfl, rfl⟩ := hx
              exact ⟨x, y, v, v2, rfl, hv, hv2, h1, h2⟩
            | cons z zs =>
              simp only [Sx.Env.evs] at hx
              cases h3 : Sx.Env.ev e z <;> simp [h3] at hx
              cases h4 : Sx.Env.evs e zs <;> simp [h4] at hx
  unfold builtinQ at h
  split at h
  · split at h
    · rename_i hs
      simp only [Option.some.injEq] at h
      subst h
      obtain ⟨x, v, rfl, hv, hr1⟩ := one rfl
      obtain rfl := Rep.str hr1
      rw [hts rfl]
      exact ⟨_, Sx.p_lens (tyOk_str ht (isStr_spec hs)) hv, rep_int (len_ok hr1.strLen)⟩
    · cases h
  · split at h
    · rename_i c l t hs
      simp only [Option.some.injEq] at h
      subst h
      obtain ⟨x, v, rfl, hv, hr1⟩ := one rfl
      simp only [Rep] at hr1
      have hln := hr1.1.here.len
      obtain ⟨a, cap, rfl, _⟩ := slice_form hr1.1
      obtain ⟨by_, hT, _⟩ := tyOk_sl ht (isSl_spec hs)
      rw [hts rfl]
      exact ⟨_, Sx.p_lensl (by unfold Sx.tySl; rw [hT.und]) hv, rep_int (len_ok hln)⟩
    · cases h
  · split at h
    · rename_i k x k' y hk
      simp only [decide_eq_true_eq] at hk
      subst hk
      simp only [Option.some.injEq] at h
      subst h
      obtain ⟨o1, o2, v1, v2, rfl, h1, h2, r1, r2⟩ := two rfl
      obtain rfl := Rep.int r1
      obtain rfl := Rep.int r2
      refine ⟨_, p_min h1 h2, rep_int ?_⟩
      unfold min2
      split
      · exact r2.u8
      · exact r1.u8
    · cases h
  · split at h
    · rename_i k x k' y hk
      simp only [decide_eq_true_eq] at hk
      subst hk
      simp only [Option.some.injEq] at h
      subst h
      obtain ⟨o1, o2, v1, v2, rfl, h1, h2, r1, r2⟩ := two rfl
      obtain rfl := Rep.int r1
      obtain rfl := Rep.int r2
      refine ⟨_, p_max h1 h2, rep_int ?_⟩
      unfold max2
      split
      · exact r2.u8
      · exact r1.u8
    · cases h
  · cases h
theorem un_run {P : Program} {e : Sx.Env} {vx : Vx} {op : UnOp} {t : Nat} {x : Operand} {a d : D} {v : Value} (h : un op a = some d) (hx : Sx.Env.ev e x = some v) (hr : Rep vx a v) : ∃ u, Sx.Pure P e (.unOp op t x) u ∧ Rep vx d u := by
  unfold un at h
  split at h <;> simp only [Option.some.injEq, reduceCtorEq] at h
  · subst h; obtain rfl := Rep.bool hr; exact ⟨_, Sx.p_not hx, rep_bool _⟩
  · subst h; obtain rfl := Rep.int hr; exact ⟨_, Sx.p_neg hx, rep_int (u8_wrap _ _)⟩
  · subst h; obtain rfl := Rep.int hr; exact ⟨_, p_xor1 hx, rep_int (u8_wrap _ _)⟩
theorem decs_get {c : Ck} : ∀ {n : Nat} {ds : List D} {xs : List (El c)}, decs c n ds = some xs → xs.length = n ∧ ∀ (i : Nat) y, xs[i]? = some y → dec c ((ds.drop (i * csz c)).take (csz c)) = some y
  | 0, [], xs, h => by simp only [decs, Option.some.injEq] at h; subst h; exact ⟨rfl, by simp⟩
  | 0, _ :: _, xs, h => by simp [decs] at h
  | n + 1, ds, xs, h => by
    simp only [decs] at h
    split at h
    · rename_i x hx
      split at h
      · rename_i xs' hxs
        simp only [Option.some.injEq] at h
        subst h
        obtain ⟨h1, h2⟩ := decs_get hxs
        refine ⟨by simp [h1], fun i y hy => ?_⟩
        cases i with
        | zero => simp at hy; subst hy; simpa using hx
        | succ i =>
          have := h2 i y (by simpa using hy)
          rw [List.drop_drop] at this
          rw [Nat.succ_mul, Nat.add_comm (i * csz c)]
          exact this
      · cases h
    · cases h
theorem Rep.tup {x : Vx} {ds : List D} {v : Value} (h : Rep x (.tup ds) v) : ∃ vs : List Value, v = .tuple vs.toArray ∧ Reps x ds vs := by simp only [Rep] at h; exact h
theorem mapM_some {α β : Type} (f : α → Option β) (g : α → β) : ∀ (l : List α), (∀ x, x ∈ l → f x = some (g x)) → l.mapM f = some (l.map g)
  | [], _ => rfl
  | x :: l, h => by simp [List.mapM_cons, h x (by simp), mapM_some f g l (fun y hy => h y (by simp [hy]))]
theorem tySz_info {P : Program} {t : TypeId} {n : Nat} (h : Sx.tySz P t = some n) : ∃ i, P.info? t = some i ∧ i.size = n := by
  unfold Sx.tySz at h
  cases hi : P.info? t with
  | none => rw [hi] at h; cases h
  | some i => rw [hi] at h; simp only [Option.map_some, Option.some.injEq] at h; exact ⟨i, rfl, h⟩
theorem tyZero_info {P : Program} {t : TypeId} {zs : List Value} (h : Sx.tyZero P t = some zs) : ∃ i z, P.info? t = some i ∧ i.zero = some z ∧ z.cells = zs.toArray := by
  unfold Sx.tyZero at h
  cases hi : P.info? t with
  | none => rw [hi] at h; cases h
  | some i =>
    rw [hi] at h
    cases hz : i.zero with
    | none => simp [hz] at h
    | some z => simp [hz] at h; exact ⟨i, z, rfl, hz, by rw [← h]⟩
theorem fld_sizes {P : Program} {t : Nat} {fds : Array Field} (hu : P.underlying t = some (.struct fds)) : ∀ (l1 : List Field) (l2 : List (Nat × Nat)) (i : Nat), fldsB P t i l1 l2 = true → (∀ (j : Nat) fd, l1[j]? = some fd → fds[i + j]? = some fd) → ∀ fd, fd ∈ l1 → ∃ n, Sx.tySz P fd.type = some n
  | [], _, _, _, _, fd, hfd => by simp at hfd
  | f :: l1, [], _, hb, _, _, _ => by simp [fldsB] at hb
  | f :: l1, p :: l2, i, hb, hg, fd, hfd => by
    simp only [fldsB, Bool.and_eq_true, beq_iff_eq] at hb
    simp only [List.mem_cons] at hfd
    rcases hfd with rfl | hfd
    · have h0 := hb.1.1.2
      have hg0 := hg 0 fd (by simp)
      rw [Nat.add_zero] at hg0
      unfold Sx.fldOff at h0
      rw [hu] at h0
      simp only [hg0] at h0
      split at h0
      · exact ⟨_, by assumption⟩
      · cases h0
    · exact fld_sizes hu l1 l2 (i + 1) hb.2 (fun j fd' hj => by have := hg (j + 1) fd' (by simpa using hj); rwa [show i + (j + 1) = i + 1 + j by omega] at this) fd hfd
/-- a struct's literal -/
theorem build_st (hp : PxOk cx px) {x : Vx} {t : Nat} {c : Option Ck} {l : List (Nat × Nat)} {z : List D} (hty : px.tt t = .st c l z) {l' : List (Nat × D)} {ds : List D} (hds : fillP px t z l' = some ds) {vs : List (Nat × Value)} (h2 : vs.length = l'.length) (h3 : ∀ (j : Nat) f d, l'[j]? = some (f, d) → ∃ v, vs[j]? = some (f, v) ∧ Rep x d v) : ∃ cs : Array Value, cx.P.built t vs = some cs ∧ Rep x (.agg ds) (.agg cs) := by
  obtain ⟨fds, hu, hfl, _⟩ := tyOk_st (hp.tt t) hty
  obtain ⟨zs, hz1, hz2⟩ := tyOk_zero (hp.tt t) (by rw [hty]; simp) (z := .agg z) (by rw [hty]; rfl)
  obtain ⟨hz3, hz4⟩ := zbL_rep (x := x) hz2
  have hz3 : CellsR x z zs := reps_cellsR hz3
  have hsome := fld_sizes hu fds.toList l 0 hfl (fun j fd hj => by simpa using hj)
  have hpl : fds.toList.mapM (fun f => (cx.P.info? f.type).map fun i => (f.offset, i.size)) = some (fds.toList.map fun f => (f.offset, (Sx.tySz cx.P f.type).getD 0)) := mapM_some _ _ _ fun fd hfd => by
    obtain ⟨n, hn⟩ := hsome fd hfd
    obtain ⟨i, hi, rfl⟩ := tySz_info hn
    simp [hi, Sx.tySz]
  obtain ⟨cs, hf1, hf2, hf3⟩ := fillP_run (px := px) (x := x) (s := t) (places := (fds.toList.map fun f => (f.offset, (Sx.tySz cx.P f.type).getD 0)).toArray) (fun f o' u hf hk => by
    obtain ⟨_, _, _, fds', fd, _, hu', hfd, htt, hoff, _⟩ := fldT_spec hp hf
    rw [hu] at hu'
    simp only [Option.some.injEq, TypeDesc.struct.injEq] at hu'
    subst hu'
    have hsz := (tyOk_base (hp.tt fd.type) (by rw [htt]; exact (known_ne hk).1)).2.2
    have hfd' : fds.toList[f]? = some fd := by simpa using hfd
    have hfd2 : fds[f]? = some fd := hfd
    simp [hfd2, hsz, htt, hoff]) hds hz3 hz4 h2 h3
  obtain ⟨i, zv, hi, hz, hzc⟩ := tyZero_info hz1
  refine ⟨cs, ?_, ?_⟩
  · unfold Program.built
    simp only [hi, hu, hz, hpl, hzc]
    exact hf1
  · simp only [Rep]
    exact ⟨hf3, cs.toList, by simp, hf2.reps⟩
theorem evs_len {e : Sx.Env} : ∀ {xs : List Operand} {vs : List Value}, Sx.Env.evs e xs = some vs → vs.length = xs.length
  | [], vs, h => by simp [Sx.Env.evs] at h; simp [h]
  | x :: xs, vs, h => by
    simp only [Sx.Env.evs] at h
    split at h
    · cases h
    · split at h
      · cases h
      · rename_i r hr
        simp only [Option.some.injEq] at h
        subst h
        simp [evs_len hr]
theorem flat_cells {x : Vx} {c : Ck} : ∀ {l : List D} {vs : List Value}, Reps x l vs → (l.all fun d => lfs d && Nat.beq (cells d).length (csz c)) = true → CellsR x ((l.map cells).flatten) (vs.flatMap fun v => v.cells.toList) ∧ ((l.map cells).flatten).all lf = true ∧ ∀ v, v ∈ vs → v.cells.size = csz c
  | [], vs, hr, _ => by simp only [Reps] at hr; subst hr; exact ⟨⟨rfl, by simp⟩, rfl, by simp⟩
  | d :: l, vs, hr, hl => by
    simp only [Reps] at hr
    obtain ⟨u, us, rfl, h1, h2⟩ := hr
    simp only [List.all_cons, Bool.and_eq_true] at hl
    obtain ⟨i1, i2, i3⟩ := flat_cells h2 (by simpa using hl.2)
    have hc := rep_cells h1 hl.1.1
    have hn := Nat.eq_of_beq_eq_true hl.1.2
    refine ⟨?_, ?_, ?_⟩
    · simp only [List.map_cons, List.flatten_cons, List.flatMap_cons]
      exact reps_cellsR (hc.reps.append i1.reps)
    · simp only [List.map_cons, List.flatten_cons, List.all_append, Bool.and_eq_true]
      exact ⟨hl.1.1, i2⟩
    · intro v hv
      simp only [List.mem_cons] at hv
      rcases hv with rfl | hv
      · have := hc.1; simpa [hn] using this
      · exact i3 v hv
/-- an array's literal -/
theorem build_arr (hp : PxOk cx px) {x : Vx} {t n : Nat} {c : Ck} (hty : px.tt t = .arr n c) {l : List D} {vs : List Value} (hn : l.length = n) (hl : (l.all fun d => lfs d && Nat.beq (cells d).length (csz c)) = true) (hr : Reps x l vs) : ∃ cs : Array Value, cx.P.built t ((List.range' 0 vs.length).zip vs) = some cs ∧ Rep x (.agg ((l.map cells).flatten)) (.agg cs) := by
  obtain ⟨hu, hsz, _, _⟩ := tyOk_arr (hp.tt t) hty
  obtain ⟨zs, hz1, hz2⟩ := tyOk_zero (hp.tt t) (by rw [hty]; simp) (z := .agg ((List.replicate n (enc c (zer c))).flatten)) (by rw [hty]; rfl)
  obtain ⟨i, zv, hi, hz, hzc⟩ := tyZero_info hz1
  obtain ⟨ie, hie, hies⟩ := tySz_info hsz
  obtain ⟨h1, h2, h3⟩ := flat_cells (c := c) hr hl
  have hzl : zs.length = vs.length * csz c := by
    have := (zbL_rep (x := x) hz2).1.len
    rw [this, hr.len, hn]
    simp only [cells, List.length_flatten, List.map_replicate, enc_len, List.sum_replicate_nat]
  have hfill := Sx.fill_all (csz c) vs 0 [] zs h3 (by simp) (by omega)
  refine ⟨(vs.flatMap fun v => v.cells.toList).toArray, ?_, ?_⟩
  · unfold Program.built
    simp only [hi, hu, hz, hie, hzc, hies]
    have hd : zs.drop (vs.length * csz c) = [] := List.drop_eq_nil_of_le (by omega)
    rw [hd] at hfill
    simpa using hfill
  · simp only [Rep]
    exact ⟨h2, _, rfl, h1.reps⟩
theorem zip_row {ps : List (Nat × Operand)} {vs : List Value} {a : Act} (h0 : ps.map (·.1) = List.range' 0 vs.length) (h2 : (ps.map (·.2)).map a.eval = vs) : (ps.map fun p => match p with | (i, x) => (i, a.eval x)) = (List.range' 0 vs.length).zip vs := by
  rw [← h0]
  clear h0
  subst h2
  induction ps with
  | nil => rfl
  | cons p l ih => simp only [List.map_cons, List.zip_cons_cons, ih]
set_option maxHeartbeats 1000000 in
/-- THE THEOREM. -/
theorem stepQ_sem (hp : PxOk cx px) {o : Oper} {st : St} {K : D → Option R} {r : R} (hts : ∀ b xs ts, o.op = .call ⟨.builtin b, xs, ts⟩ → b = .len → ts = #[ts.toList.headD 0]) (h : stepQ px o st K = some r) : ∃ d, K d = some r ∧ Quiet cx px o (get st.env) (blk st.bl) d := by
  unfold stepQ at h
  split at h
  · -- move
    rename_i x ho
    split at h
    · rename_i d hd
      refine ⟨d, h, quiet_pure fun s m a as w hx _ hr => ?_⟩
      rw [ev_eq, ← hx _ x (by simp [ho, Op.operands])] at hd
      obtain ⟨v, h1, _, h3⟩ := hr.env.ev hd
      exact ⟨v, by rw [ho]; exact Sx.p_move h1, h3⟩
    · cases h
  · -- assign
    rename_i x ho
    split at h
    · rename_i d hd
      refine ⟨d, h, quiet_pure fun s m a as w hx _ hr => ?_⟩
      rw [ev_eq, ← hx _ x (by simp [ho, Op.operands])] at hd
      obtain ⟨v, h1, _, h3⟩ := hr.env.ev hd
      exact ⟨v, by rw [ho]; exact Sx.p_assign h1, h3⟩
    · cases h
  · -- pick
    rename_i c x y ho
    split at h
    · rename_i q u v hc hu hv
      refine ⟨cond q u v, by cases q <;> exact h, quiet_pure fun s m a as w hx _ hr => ?_⟩
      rw [ev_eq, ← hx _ c (by simp [ho, Op.operands])] at hc
      rw [ev_eq, ← hx _ x (by simp [ho, Op.operands])] at hu
      rw [ev_eq, ← hx _ y (by simp [ho, Op.operands])] at hv
      obtain ⟨v1, h1, _, h3⟩ := hr.env.ev hc
      obtain ⟨v2, h4, _, h6⟩ := hr.env.ev hu
      obtain ⟨v3, h7, _, h9⟩ := hr.env.ev hv
      obtain rfl := Rep.bool h3
      cases q with
      | true => exact ⟨v2, by rw [ho]; exact Sx.p_pick_t h1 h4, h6⟩
      | false => exact ⟨v3, by rw [ho]; exact Sx.p_pick_f h1 h7, h9⟩
    · cases h
  · -- build
    rename_i t ps ho
    have hmem : ∀ q, q ∈ ps.toList.map (·.2) → q ∈ o.op.operands := fun q hq => by rw [ho]; simpa [Op.operands] using hq
    split at h
    · rename_i c l z hty
      split at h
      · rename_i l' hl
        split at h
        · rename_i ds hds
          refine ⟨_, h, fun s m a as w hx _ hr => ?_⟩
          obtain ⟨vs, h1, h2, h3⟩ := evps_get hr.env hl (fun u q hq => by rw [ev_eq]; exact hx u q (hmem q hq))
          obtain ⟨cs, h4, h5⟩ := build_st hp hty hds h2 h3
          refine ⟨.agg cs, ?_, h5⟩
          have hpl : (ps.map fun p => match p with | (i, x) => (i, a.eval x)) = vs.toArray := by
            apply Array.ext'
            simpa using h1
          simp only [execOp, ho, Sem.run_bind, hpl, run_build w t vs.toArray cs (by simpa using h4), Result.andThen_ok, Sem.run_pure]
        · cases h
      · cases h
    · rename_i n c hty
      split at h
      · rename_i l hl
        split at h
        · rename_i hc
          simp only [Bool.and_eq_true] at hc
          refine ⟨_, h, fun s m a as w hx _ hr => ?_⟩
          obtain ⟨vs, h0, h1, h2, h3⟩ := evrow_get hr.env hl (fun u q hq => by rw [ev_eq]; exact hx u q (hmem q hq))
          obtain ⟨cs, h4, h5⟩ := build_arr hp hty (Nat.eq_of_beq_eq_true hc.1) hc.2 h3
          refine ⟨.agg cs, ?_, h5⟩
          have hpl : (ps.map fun p => match p with | (i, x) => (i, a.eval x)) = ((List.range' 0 vs.length).zip vs).toArray := by
            apply Array.ext'
            rw [Array.toList_map]
            exact zip_row (by rw [h0, h3.len]) h2
          simp only [execOp, ho, Sem.run_bind, hpl, run_build w t ((List.range' 0 vs.length).zip vs).toArray cs h4, Result.andThen_ok, Sem.run_pure]
        · cases h
      · cases h
    · cases h
  · -- load
    rename_i t x ho
    split at h
    · rename_i g hpv
      split at h
      · rename_i l hty hgl
        refine ⟨_, h, fun s m a as w hx _ hr => ?_⟩
        rw [ev_eq, ← hx _ x (by simp [ho, Op.operands])] at hpv
        obtain ⟨v, _, h2, h3⟩ := hr.env.ev hpv
        simp only [Rep] at h3
        subst h3
        obtain ⟨r, es, clk, h4, h5⟩ := hr.glb.2 g l (by rw [← hp.gl]; exact hgl)
        refine ⟨.map (some r), ?_, by simp only [Rep]; exact ⟨r, es, clk, rfl, fun w' hw => (h4 w' hw).2, h5⟩⟩
        simp only [execOp, ho, h2, Instr.loadAt, Instr.sureAddr, Sem.run_bind, Sem.run_pure, Result.andThen_ok, ld_leaf (hp.tt t) (by rw [hty]; simp) (by rw [hty]; rfl) (h4 w (Chg.refl _ _)).1]
      · cases h
    · rename_i p hne hpv
      split at h
      · rename_i d hk hd
        refine ⟨d, h, fun s m a as w hx hb hr => ?_⟩
        rw [ev_eq, ← hx _ x (by simp [ho, Op.operands])] at hpv
        obtain ⟨v, h1, h2, h3⟩ := hr.env.ev hpv
        rw [load_eq] at hd
        have hd := loadF_agr (hb (by rw [ho]; rfl)) hd h3
        obtain ⟨u, h4, h5⟩ := loadF_run hp hr hk hd h3
        refine ⟨u, ?_, h5⟩
        simp only [execOp, ho, h2, Sem.run_bind, h4, Result.andThen_ok, Sem.run_pure]
      · cases h
    · cases h
  · -- nilCheck
    rename_i x ho
    have run : ∀ {d : D} {v : Value} (s : FS) (m : Mp) (a : Act) (w : World), a.eval x = v → Rep (vx cx m s w) d v → ((∃ p, v = .pointer (some p)) ∨ ∃ f cs, v = .func (.func f) #[] cs) → (execOp a.eval o).run cx.P w = .ok (.value v) w := by
      intro d v s m a w hv _ hh
      rcases hh with ⟨p, rfl⟩ | ⟨f, cs, rfl⟩
      · simp only [execOp, ho, hv, Sem.run_pure]
      · simp only [execOp, ho, hv, Sem.run_pure]
    split at h
    · rename_i b o' he
      refine ⟨_, h, fun s m a as w hx _ hr => ?_⟩
      rw [ev_eq, ← hx _ x (by simp [ho, Op.operands])] at he
      obtain ⟨v, _, h2, h3⟩ := hr.env.ev he
      exact ⟨v, run s m a w h2 h3 (.inl (by simp only [Rep] at h3; exact ⟨_, h3.2⟩)), h3⟩
    · rename_i c y o' he
      refine ⟨_, h, fun s m a as w hx _ hr => ?_⟩
      rw [ev_eq, ← hx _ x (by simp [ho, Op.operands])] at he
      obtain ⟨v, _, h2, h3⟩ := hr.env.ev he
      exact ⟨v, run s m a w h2 h3 (.inl (by simp only [Rep] at h3; obtain ⟨b, o2, h4, _⟩ := h3; exact ⟨_, h4⟩)), h3⟩
    · rename_i g he
      refine ⟨_, h, fun s m a as w hx _ hr => ?_⟩
      rw [ev_eq, ← hx _ x (by simp [ho, Op.operands])] at he
      obtain ⟨v, _, h2, h3⟩ := hr.env.ev he
      exact ⟨v, run s m a w h2 h3 (.inl (by simp only [Rep] at h3; exact ⟨_, h3⟩)), h3⟩
    · rename_i b c n i he
      refine ⟨_, h, fun s m a as w hx _ hr => ?_⟩
      rw [ev_eq, ← hx _ x (by simp [ho, Op.operands])] at he
      obtain ⟨v, _, h2, h3⟩ := hr.env.ev he
      exact ⟨v, run s m a w h2 h3 (.inl (by simp only [Rep] at h3; exact ⟨_, h3.2.1⟩)), h3⟩
    · rename_i f cs he
      refine ⟨_, h, fun s m a as w hx _ hr => ?_⟩
      rw [ev_eq, ← hx _ x (by simp [ho, Op.operands])] at he
      obtain ⟨v, _, h2, h3⟩ := hr.env.ev he
      exact ⟨v, run s m a w h2 h3 (.inr (by simp only [Rep] at h3; obtain ⟨vs, h4, _⟩ := h3; exact ⟨_, _, h4⟩)), h3⟩
    · cases h
  · -- binOp
    rename_i op t x y t' ho
    split at h
    · rename_i p q hpx hqy
      split at h
      · rename_i c d hb
        obtain ⟨hc, hk⟩ := chk_some h
        refine ⟨d, hk, quiet_pure fun s m a as w hx _ hr => ?_⟩
        rw [ev_eq, ← hx _ x (by simp [ho, Op.operands])] at hpx
        rw [ev_eq, ← hx _ y (by simp [ho, Op.operands])] at hqy
        obtain ⟨v1, h1, _, h3⟩ := hr.env.ev hpx
        obtain ⟨v2, h4, _, h6⟩ := hr.env.ev hqy
        rw [ho]
        exact bin_run (hp.tt t) hb hc h1 h4 h3 h6
      · cases h
    · cases h
  · -- unOp
    rename_i op t x ho
    split at h
    · rename_i p hpx
      split at h
      · rename_i d hd
        refine ⟨d, h, quiet_pure fun s m a as w hx _ hr => ?_⟩
        rw [ev_eq, ← hx _ x (by simp [ho, Op.operands])] at hpx
        obtain ⟨v1, h1, _, h3⟩ := hr.env.ev hpx
        rw [ho]
        exact un_run hd h1 h3
      · cases h
    · cases h
  · -- convert
    rename_i q t x ho
    split at h
    · rename_i k n k' hpx hty
      split at h
      · rename_i hk
        refine ⟨_, h, quiet_pure fun s m a as w hx _ hr => ?_⟩
        rw [ev_eq, ← hx _ x (by simp [ho, Op.operands])] at hpx
        obtain ⟨v1, h1, _, h3⟩ := hr.env.ev hpx
        obtain rfl := Rep.int h3
        rw [ho]
        exact ⟨_, Sx.p_conv k' (tyOk_base (hp.tt q) (known_ne hk).1).1 (tyOk_int (hp.tt t) hty) h1, rep_int (u8_wrap _ _)⟩
      · cases h
    · rename_i l hpx hty
      split at h
      · rename_i hk
        refine ⟨_, h, quiet_pure fun s m a as w hx _ hr => ?_⟩
        rw [ev_eq, ← hx _ x (by simp [ho, Op.operands])] at hpx
        obtain ⟨v1, h1, _, h3⟩ := hr.env.ev hpx
        obtain rfl := Rep.str h3
        rw [ho]
        exact ⟨_, p_str_str (tyOk_base (hp.tt q) (known_ne hk).1).1 (tyOk_str (hp.tt t) hty) h1, rep_str h3.strLen⟩
      · cases h
    · rename_i xs tk hpx hty
      split at h
      · rename_i hk
        refine ⟨_, h, fun s m a as w hx _ hr => ?_⟩
        rw [ev_eq, ← hx _ x (by simp [ho, Op.operands])] at hpx
        obtain ⟨v1, h1, _, h3⟩ := hr.env.ev hpx
        exact ⟨_, p_bytes_str (vx := vx cx m s w) (hp.tt q) (hp.tt t) (isSl_spec hk) hty h3 _ a o (full_ok hr.env.defers) h1 ho, rep_str (by simp only [Rep] at h3; exact h3.1.here.len)⟩
      · cases h
    · cases h
  · -- slice
    rename_i t x lo hi ho
    split at h
    · rename_i d i j hd hi' hj'
      have hmx : x ∈ o.op.operands := by simp [ho, Op.operands]
      have hml : ∀ y, lo = some y → y ∈ o.op.operands := fun y hy => by simp [ho, Op.operands, hy]
      have hmh : ∀ y, hi = some y → y ∈ o.op.operands := fun y hy => by simp [ho, Op.operands, hy]
      unfold sliceQ at h
      split at h
      · rename_i l
        split at h
        · rename_i hs
          obtain ⟨d', hk, hrun⟩ := sliceS_run h
          refine ⟨d', hk, quiet_pure fun s m a as w hx _ hr => ?_⟩
          rw [ev_eq, ← hx _ x hmx] at hd
          obtain ⟨v1, h1, _, h3⟩ := hr.env.ev hd
          obtain rfl := Rep.str h3
          rw [ho]
          exact hrun (tyOk_str (hp.tt t) (isStr_spec hs)) h1 h3.strLen (evo_get hr.env hi' fun u y hy => by rw [ev_eq]; exact hx u y (hml y hy)) (evo_get hr.env hj' fun u y hy => by rw [ev_eq]; exact hx u y (hmh y hy))
        · cases h
      · rename_i c l tk
        split at h
        · rename_i hs
          obtain ⟨d', hk, hrun⟩ := sliceL_run h
          refine ⟨d', hk, quiet_pure fun s m a as w hx _ hr => ?_⟩
          rw [ev_eq, ← hx _ x hmx] at hd
          obtain ⟨v1, h1, _, h3⟩ := hr.env.ev hd
          rw [ho]
          exact hrun (hp.tt t) (isSl_spec hs) h3 h1 (evo_get hr.env hi' fun u y hy => by rw [ev_eq]; exact hx u y (hml y hy)) (evo_get hr.env hj' fun u y hy => by rw [ev_eq]; exact hx u y (hmh y hy))
        · cases h
      · rename_i g
        split at h
        · rename_i c xs n c' hgl hty
          split at h
          · rename_i hc
            simp only [Bool.and_eq_true, decide_eq_true_eq] at hc
            obtain ⟨⟨hc1, rfl⟩, hc2⟩ := hc
            have hc1 := Nat.eq_of_beq_eq_true hc1
            have hc2 : n ≤ 1048576 := Nat.le_of_ble_eq_true hc2
            refine ⟨_, h, quiet_pure fun s m a as w hx _ hr => ?_⟩
            rw [ev_eq, ← hx _ x hmx] at hd
            obtain ⟨v1, h1, _, h3⟩ := hr.env.ev hd
            simp only [Rep] at h3
            subst h3
            obtain ⟨hu, hsz, _, _⟩ := tyOk_arr (hp.tt t) hty
            have hlo : lo = none := by
              rcases evo_get hr.env hi' (fun u y hy => by rw [ev_eq]; exact hx u y (hml y hy)) with ⟨h, _⟩ | ⟨_, _, _, _, h, _⟩
              · exact h
              · cases h
            have hhi : hi = none := by
              rcases evo_get hr.env hj' (fun u y hy => by rw [ev_eq]; exact hx u y (hmh y hy)) with ⟨h, _⟩ | ⟨_, _, _, _, h, _⟩
              · exact h
              · cases h
            subst hlo
            subst hhi
            rw [ho]
            refine ⟨_, Sx.p_slicex h1 (u := .slice (some ⟨g, 0, none⟩) n n) (fun w => ?_), ?_⟩
            · simp only [Instr.sliceAt, Sem.run_bind, run_underlying hu, Result.andThen_ok, Instr.sureAddr, Sem.run_pure, bnd_noneS, Sx.run_sizeOf hsz, Nat.zero_mul, Nat.sub_zero, Sx.add_mk, Nat.zero_add, ite_self]
            · simp only [Rep]
              refine ⟨slice_mk hc1.symm (.inr ⟨g, 0, rfl, ⟨by omega, by simp only [maxLen]; omega⟩, fun i y hy w' hw => ?_⟩), trivial⟩
              rw [Nat.zero_add]
              exact hr.glb.1 g c xs (by rw [← hp.gl]; exact hgl) i y hy w' hw
          · cases h
        · cases h
      · cases h
    · cases h
  · -- fieldAddr
    rename_i q x f ho
    split at h
    · rename_i b o' fo u hpx hf
      refine ⟨_, h, quiet_pure fun s m a as w hx _ hr => ?_⟩
      rw [ev_eq, ← hx _ x (by simp [ho, Op.operands])] at hpx
      obtain ⟨v1, h1, _, h3⟩ := hr.env.ev hpx
      simp only [Rep] at h3
      obtain ⟨h3a, rfl⟩ := h3
      obtain ⟨_, _, _, _, _, _, _, _, _, _, hfo⟩ := fldT_spec hp hf
      rw [ho]
      refine ⟨_, Sx.p_fa (by simpa using hfo) h1, ?_⟩
      simp only [Rep]
      exact ⟨h3a, trivial⟩
    · rename_i c y o' fo u hpx hf
      refine ⟨_, h, quiet_pure fun s m a as w hx _ hr => ?_⟩
      rw [ev_eq, ← hx _ x (by simp [ho, Op.operands])] at hpx
      obtain ⟨v1, h1, _, h3⟩ := hr.env.ev hpx
      simp only [Rep] at h3
      obtain ⟨b, o2, rfl, hat⟩ := h3
      obtain ⟨_, _, _, _, _, _, _, _, _, _, hfo⟩ := fldT_spec hp hf
      rw [ho]
      refine ⟨_, Sx.p_fa (by simpa using hfo) h1, ?_⟩
      simp only [Rep]
      exact ⟨b, o2, by rw [Nat.add_assoc], hat⟩
    · cases h
  · -- field
    rename_i q x f ho
    split at h
    · rename_i d fo u hpx hf
      split at h
      · rename_i v hc hpart
        simp only [Bool.and_eq_true] at hc
        refine ⟨v, h, fun s m a as w hx _ hr => ?_⟩
        rw [ev_eq, ← hx _ x (by simp [ho, Op.operands])] at hpx
        obtain ⟨v1, _, h2, h3⟩ := hr.env.ev hpx
        obtain ⟨_, _, _, fds, fd, _, hu, hfd, htt, hoff, _⟩ := fldT_spec hp hf
        have hcr := rep_cells h3 hc.1.2
        have hagg : ∃ vs : List Value, v1 = .agg vs.toArray := by
          cases d <;> simp at hc <;> simp only [Rep] at h3
          · obtain ⟨_, vs, rfl, _⟩ := h3; exact ⟨vs, rfl⟩
          · obtain ⟨_, vs, rfl, _⟩ := h3; exact ⟨vs, rfl⟩
        obtain ⟨vs, rfl⟩ := hagg
        subst htt
        have hcr : CellsR (vx cx m s w) (cells d) vs := by simpa [Value.cells] using hcr
        obtain ⟨u', h4, h5⟩ := run_part (w := w) (hp.tt fd.type) (known_ne hc.1.1).1 hpart hcr hc.1.2
        refine ⟨u', ?_, h5⟩
        subst hoff
        simp only [execOp, ho, Instr.field, h2, Sem.run_bind, run_underlying hu, hfd, asAgg, Sem.run_pure, Result.andThen_ok, h4]
      · cases h
    · cases h
  · -- indexAddr
    rename_i t x y ho
    split at h
    · rename_i c xs tk k i hpx hpy
      split at h
      · rename_i hs
        obtain ⟨hc, hk⟩ := chk_some h
        refine ⟨_, hk, quiet_pure fun s m a as w hx _ hr => ?_⟩
        rw [ev_eq, ← hx _ x (by simp [ho, Op.operands])] at hpx
        rw [ev_eq, ← hx _ y (by simp [ho, Op.operands])] at hpy
        obtain ⟨v1, h1, _, h3⟩ := hr.env.ev hpx
        obtain ⟨v2, h4, _, h6⟩ := hr.env.ev hpy
        obtain rfl := Rep.int h6
        rw [ho]
        exact ia_run (hp.tt t) (isSl_spec hs) h3 h1 h4 hc
      · cases h
    · rename_i g k i hpx hpy
      split at h
      · rename_i c xs n c' hgl hty
        split at h
        · rename_i hc
          simp only [Bool.and_eq_true, decide_eq_true_eq] at hc
          obtain ⟨hc1, rfl⟩ := hc
          have hc1 := Nat.eq_of_beq_eq_true hc1
          obtain ⟨hb, hk⟩ := chk_some h
          have hb := inb_spec hb
          refine ⟨_, hk, fun s m a as w hx _ hr => ?_⟩
          rw [ev_eq, ← hx _ x (by simp [ho, Op.operands])] at hpx
          rw [ev_eq, ← hx _ y (by simp [ho, Op.operands])] at hpy
          obtain ⟨v1, _, h2, h3⟩ := hr.env.ev hpx
          obtain ⟨v2, _, h5, h6⟩ := hr.env.ev hpy
          obtain rfl := Rep.int h6
          simp only [Rep] at h3
          subst h3
          obtain ⟨hu, hsz, _, _⟩ := tyOk_arr (hp.tt t) hty
          refine ⟨.pointer (some ⟨g, 0 + i.toNat * csz c, none⟩), ?_, ?_⟩
          · simp only [execOp, ho, h2, h5, Sem.run_bind, run_ix_arr hu hsz hb, Result.andThen_ok, Sem.run_pure]
          · simp only [Rep]
            refine ⟨g, i.toNat * csz c, by simp, fun w' hw => ?_⟩
            exact hr.glb.1 g c xs (by rw [← hp.gl]; exact hgl) _ _ (at'_get (by rw [hc1]; exact hb)) w' hw
        · cases h
      · cases h
    · rename_i b k i hpx hpy
      split at h
      · rename_i c n' xs n c' hbl hty
        split at h
        · rename_i hc
          simp only [Bool.and_eq_true, decide_eq_true_eq] at hc
          obtain ⟨rfl, hc1⟩ := hc
          have hc1 := Nat.eq_of_beq_eq_true hc1
          subst hc1
          obtain ⟨hb, hk⟩ := chk_some h
          have hb := inb_spec hb
          refine ⟨_, hk, fun s m a as w hx _ hr => ?_⟩
          rw [ev_eq, ← hx _ x (by simp [ho, Op.operands])] at hpx
          rw [ev_eq, ← hx _ y (by simp [ho, Op.operands])] at hpy
          obtain ⟨v1, _, h2, h3⟩ := hr.env.ev hpx
          obtain ⟨v2, _, h5, h6⟩ := hr.env.ev hpy
          obtain rfl := Rep.int h6
          simp only [Rep] at h3
          obtain ⟨h3a, rfl⟩ := h3
          obtain ⟨hu, hsz, _, _⟩ := tyOk_arr (hp.tt t) hty
          refine ⟨.pointer (some ⟨m.bl b, 0 + i.toNat * csz c, none⟩), ?_, ?_⟩
          · simp only [execOp, ho, h2, h5, Sem.run_bind, vx, run_ix_arr hu hsz hb, Result.andThen_ok, Sem.run_pure]
          · simp only [Rep]
            exact ⟨h3a, by simp [vx], hb⟩
        · cases h
      · cases h
    · cases h
  · -- index
    rename_i t x y ho
    split at h
    · rename_i l k i hpx hpy
      split at h
      · rename_i hs
        obtain ⟨hc, hk⟩ := chk_some h
        refine ⟨_, hk, quiet_pure fun s m a as w hx _ hr => ?_⟩
        rw [ev_eq, ← hx _ x (by simp [ho, Op.operands])] at hpx
        rw [ev_eq, ← hx _ y (by simp [ho, Op.operands])] at hpy
        obtain ⟨v1, h1, _, h3⟩ := hr.env.ev hpx
        obtain ⟨v2, h4, _, h6⟩ := hr.env.ev hpy
        obtain rfl := Rep.int h6
        obtain rfl := Rep.str h3
        rw [ho]
        exact ⟨_, Sx.p_index (tyOk_str (hp.tt t) (isStr_spec hs)) h1 h4 (inb_spec hc), rep_int (u8_bat _ _)⟩
      · cases h
    · rename_i ds k i hpx hpy
      split at h
      · rename_i n c hty
        split at h
        · rename_i xs hxs
          obtain ⟨hb, hk⟩ := chk_some h
          have hb := inb_spec hb
          refine ⟨_, hk, fun s m a as w hx _ hr => ?_⟩
          rw [ev_eq, ← hx _ x (by simp [ho, Op.operands])] at hpx
          rw [ev_eq, ← hx _ y (by simp [ho, Op.operands])] at hpy
          obtain ⟨v1, _, h2, h3⟩ := hr.env.ev hpx
          obtain ⟨v2, _, h5, h6⟩ := hr.env.ev hpy
          obtain rfl := Rep.int h6
          simp only [Rep] at h3
          obtain ⟨_, vs, rfl, hreps⟩ := h3
          obtain ⟨hu, hsz, hsm, hag⟩ := tyOk_arr (hp.tt t) hty
          obtain ⟨hlen, hget⟩ := decs_get hxs
          have hdec := hget _ _ (at'_get (by rw [hlen]; exact hb))
          have hel := reps_elR hdec ((reps_cellsR hreps).sub (i.toNat * csz c) (csz c)).reps
          obtain ⟨g1, g2⟩ := elR_ofK hel
          cases ha : agg? c with
          | true =>
            refine ⟨_, ?_, g1 ha⟩
            have hia : (isAgg (cx.el c)).run cx.P w = .ok true w := Sx.run_isAgg (by simp [hsm, hag, ha]) w
            simp only [execOp, ho, h2, h5, Instr.index, asIntOf, Sem.run_bind, Sem.run_pure, Result.andThen_ok, run_underlying hu, if_pos hb, Sx.run_sizeOf hsz, Go.part, hia, if_true]
            congr 3
            apply Array.ext'
            simp [List.take_drop]
          | false =>
            obtain ⟨v, hv, hrep⟩ := g2 ha
            refine ⟨v, ?_, hrep⟩
            have hia : (isAgg (cx.el c)).run cx.P w = .ok false w := Sx.run_isAgg (by simp [hsm, hag, ha]) w
            have h1 : csz c = 1 := by cases c <;> simp [agg?] at ha <;> rfl
            have hv' : vs.toArray[i.toNat * csz c]? = some v := by
              have := congrArg (·[0]?) hv
              rw [h1] at this ⊢
              simpa [List.getElem?_take, List.getElem?_drop] using this
            simp only [execOp, ho, h2, h5, Instr.index, asIntOf, Sem.run_bind, Sem.run_pure, Result.andThen_ok, run_underlying hu, if_pos hb, Sx.run_sizeOf hsz, Go.part, hia, Bool.false_eq_true, if_false, hv']
        · cases h
      · cases h
    · cases h
  · -- lookup
    rename_i t x y ho
    split at h
    · rename_i l i hpx hpy hty
      refine ⟨_, h, fun s m a as w hx _ hr => ?_⟩
      rw [ev_eq, ← hx _ x (by simp [ho, Op.operands])] at hpx
      rw [ev_eq, ← hx _ y (by simp [ho, Op.operands])] at hpy
      obtain ⟨v1, _, h2, h3⟩ := hr.env.ev hpx
      obtain ⟨v2, _, h5, h6⟩ := hr.env.ev hpy
      obtain rfl := Rep.int h6
      simp only [Rep] at h3
      obtain ⟨r, es, clk, rfl, h7, h8⟩ := h3
      obtain ⟨kt, e, inf, hu, huk, hi, hz⟩ := tyOk_map (hp.tt t) hty
      have hzv : (zeroValue e).run cx.P w = .ok (Sx.S []) w := by simp [zeroValue, typeInfo, go_sem, hi, hz]
      have hik : MapKept.IsKey (.int .i64) (.int .i64 i) := by simp [MapKept.IsKey]
      obtain ⟨hlen, hf⟩ := h8 i
      refine ⟨Sx.S (mget l i), ?_, rep_str hlen⟩
      have hrun : (Instr.lookup t (.map (some r)) (.int .i64 i) false).run cx.P w = .ok (Sx.S (mget l i)) w := by
        rcases hf with ⟨hf, hm⟩ | ⟨j, hf⟩
        · rw [hm]
          simp [Instr.lookup, run_underlying hu, MapKept.run_getObj_map (h7 w (Chg.refl _ _)), MapKept.run_checkKey huk hik, MapKept.run_findKey huk hf, hzv, Result.andThen]
        · simp [Instr.lookup, run_underlying hu, MapKept.run_getObj_map (h7 w (Chg.refl _ _)), MapKept.run_checkKey huk hik, MapKept.run_findKey huk hf, Result.andThen, Sx.S]
      simp only [execOp, ho, h2, h5, Sem.run_bind, hrun, Result.andThen_ok, Sem.run_pure]
    · cases h
  · -- extract
    rename_i x i ho
    split at h
    · rename_i ds hpx
      split at h
      · rename_i d hd
        refine ⟨d, h, quiet_pure fun s m a as w hx _ hr => ?_⟩
        rw [ev_eq, ← hx _ x (by simp [ho, Op.operands])] at hpx
        obtain ⟨v1, h1, _, h3⟩ := hr.env.ev hpx
        obtain ⟨vs, rfl, hreps⟩ := Rep.tup h3
        obtain ⟨v, hv, hrep⟩ := hreps.get hd
        rw [ho]
        exact ⟨v, Sx.p_extract h1 (by rw [Sx.nth_eq]; exact hv), hrep⟩
      · cases h
    · cases h
  · -- makeFunc
    rename_i f cs ho
    split at h
    · rename_i ds hds
      refine ⟨_, h, fun s m a as w hx _ hr => ?_⟩
      obtain ⟨vs, _, h2, h3⟩ := evs_get hr.env hds (fun u q hq => by rw [ev_eq]; exact hx u q (by simp [ho, Op.operands, hq]))
      refine ⟨.func (.func f) #[] vs.toArray, ?_, by simp only [Rep]; exact ⟨vs, rfl, h3⟩⟩
      have e2 : (Array.mk cs).map a.eval = vs.toArray := by apply Array.ext'; simpa using h2
      have e3 : (Array.mk ([] : List Operand)).map a.eval = #[] := by apply Array.ext'; simp
      simp only [execOp, ho, Instr.makeFunc, Sem.run_bind, Sem.run_pure, Result.andThen_ok, e2, e3]
    · cases h
  · -- a builtin
    rename_i b xs ts ho
    split at h
    · rename_i ds hds
      split at h
      · rename_i d hd
        refine ⟨d, h, quiet_pure fun s m a as w hx _ hr => ?_⟩
        obtain ⟨vs, h1, _, h3⟩ := evs_get hr.env hds (fun u q hq => by rw [ev_eq]; exact hx u q (by rw [ho]; simpa [Op.operands, Call.operands] using hq))
        rw [ho]
        have := builtinQ_run (P := cx.P) (vx := vx cx m s w) (hp.tt _) hd h1 h3 (hts b xs ts ho)
        simpa using this
      · cases h
    · cases h
  · cases h
end
end Go.Ax
