/- Ax, part O: the operations that change the state: new variables, stores, rows, append. -/
import Derived.Test.YtlhebakbbfmiiaaDoorAxN
namespace Go.Ax
open Go.RowKit
section
variable {R : Type} {px : Px R} {cx : Cx}
def setW (t s : FS) : FS := { s with bl := t.bl, nb := t.nb, al := t.al, nt := t.nt }
/-- the operation yields a value, by itself or by a call -/
def Yv (P : Program) (a : Act) (w : World) (o : Oper) (Post : Value → World → Prop) : Prop :=
  (∃ v w', (execOp a.eval o).run P w = .ok (.value v) w' ∧ Post v w') ∨ ∃ f args w1, (execOp a.eval o).run P w = .ok (.enter f args) w1 ∧ Calls P f args w1 fun en w' => ∃ v, en = .returned v ∧ Post v w'
theorem Yv.runs {P : Program} {a : Act} {w : World} {o : Oper} {Post : Value → World → Prop} {K : Act → World → Prop} (h : Yv P a w o Post) (hk : ∀ v w', Post v w' → K (a.put o.dst v) w') : Runs P a w o K := by
  rcases h with ⟨v, w', h1, h2⟩ | ⟨f, args, w1, h1, h2⟩
  · exact .inl ⟨v, w', h1, hk v w' h2⟩
  · refine .inr (.inr ⟨f, args, w1, h1, h2.mono ?_⟩)
    rintro en w' ⟨v, e, h3⟩
    exact ⟨v, e, hk v w' h3⟩
/-- What the operation makes of the state. -/
structure Eff (cx : Cx) (px : Px R) (o : Oper) (st st' : St) (d : D) : Prop where
  same : st'.n = st.n ∧ st'.env = st.env ∧ st'.lb = st.lb ∧ st'.lt = st.lt ∧ st'.fr = st.fr
  run : ∀ (s : FS) (m : Mp) (a : Act) (as : List Act) (w : World), (∀ t x, x ∈ o.op.operands → evF px s.env t x = evF px (get st.env) t x) → sameW s (fs st) → Rel cx m a as s w → Yv cx.P a w o fun v w' => ∃ m', Rel cx m' a as (setW (fs st') s) w' ∧ Rep (vx cx m' (setW (fs st') s) w') d v
theorem setW_self {st s : FS} (h : sameW s st) : setW st s = s := by
  obtain ⟨h1, h2, h3, h4⟩ := h
  simp only [setW, ← h1, ← h2, ← h3, ← h4]
theorem quiet_eff {o : Oper} {st : St} {d : D} (h : Quiet cx px o (get st.env) (blk st.bl) d) : Eff cx px o st st d :=
  ⟨⟨rfl, rfl, rfl, rfl, rfl⟩, fun s m a as w hx hW hr => by
    obtain ⟨v, h1, h2⟩ := h s m a as w hx (fun _ b k hb _ => (congrFun hW.1 b).trans hb) hr
    rw [setW_self hW]
    exact .inl ⟨v, w, h1, m, hr, h2⟩⟩
theorem blk_cons (l : List (Nat × Blk)) (k b : Nat) (v : Blk) : blk ((k, v) :: l) b = if b = k then some v else blk l b := by
  simp only [blk]
  by_cases h : b = k
  · subst h; simp
  · simp [beq_ne (Ne.symm h), h]
theorem blk_setB {b : Nat} {k : Blk} : ∀ (l : List (Nat × Blk)) (c : Nat), blk (setB l b k) c = if c = b then (blk l b).map (fun _ => k) else blk l c
  | [], c => by simp [setB, blk]
  | (q, v) :: l, c => by
    simp only [setB]
    by_cases hq : q = b
    · subst hq
      simp only [Nat.beq_refl]
      rw [blk_cons, blk_cons, blk_cons]
      by_cases hc : c = q
      · simp [hc]
      · simp [hc]
    · simp only [beq_ne hq]
      rw [blk_cons, blk_cons, blk_setB l c, blk_cons]
      by_cases hc : c = q
      · subst hc; simp [hq]
      · by_cases hcb : c = b
        · subst hcb; simp [hc]
        · simp [hc, hcb]
theorem of_sxchg {b : Nat} {w w' : World} (h : Sx.Chg [b] w w') : Chg (fun c _ => c = b) w w' :=
  ⟨h.os, h.tape, h.output, h.size, fun k hk hn => h.block k hk (by simpa using (hn 0)), fun c i v hv hn => by
    rw [World.cell?_of_block (a := ⟨c, i, none⟩) (h.block c (cell_lt hv) (by simpa using hn))]
    exact hv⟩
/-! ## new variables -/
theorem zero_run {P : Program} {t : TypeId} {zs : List Value} (h : Sx.tyZero P t = some zs) (w : World) : ∃ z, (zeroValue t).run P w = .ok z w ∧ z.cells = zs.toArray := by
  obtain ⟨i, z, hi, hz, hc⟩ := tyZero_info h
  exact ⟨z, by simp [zeroValue, typeInfo, go_sem, hi, hz], hc⟩
theorem fs_newB (st : St) (k : Blk) (s : FS) (h : sameW s (fs st)) : setW (fs (newB st k)) s = { s with bl := fun b => if b = s.nb then some k else s.bl b, nb := s.nb + 1 } := by
  obtain ⟨h1, h2, h3, h4⟩ := h
  refine FS.eq rfl rfl rfl rfl rfl ?_ ?_ ?_ ?_
  · funext b
    simp only [setW, fs, newB, blk_cons, h1, h2]
  · simp only [setW, fs, newB, h2]
  · simp only [setW, fs, newB, h3]
  · simp only [setW, fs, newB, h4]
theorem row_zero {x : Vx} {c : Ck} {zs : List Value} : ∀ {n : Nat}, zbL ((List.replicate n (enc c (zer c))).flatten) zs = true → zs.length = n * csz c ∧ ∀ i y j d, (List.replicate n (zer c))[i]? = some y → (enc c y)[j]? = some d → ∃ u, zs[i * csz c + j]? = some u ∧ RF x.S x.w d u := by
  intro n h
  obtain ⟨hr, _⟩ := zbL_rep (x := x) h
  have hlen : zs.length = n * csz c := by
    rw [hr.len]
    simp only [List.length_flatten, List.map_replicate, enc_len, List.sum_replicate_nat]
  refine ⟨hlen, fun i y j d hy hd => ?_⟩
  have hin : i < n := by
    have := (List.getElem?_eq_some_iff.1 hy).1
    simpa using this
  have hyz : y = zer c := by
    rw [List.getElem?_replicate, if_pos hin] at hy
    simpa using hy.symm
  subst hyz
  have hj : j < csz c := by rw [← enc_len c (zer c)]; exact (List.getElem?_eq_some_iff.1 hd).1
  have hget : ∀ (n i : Nat), i < n → ((List.replicate n (enc c (zer c))).flatten)[i * csz c + j]? = some d := by
    intro n
    induction n with
    | zero => intro i h; omega
    | succ n ih =>
      intro i h
      rw [List.replicate_succ, List.flatten_cons]
      cases i with
      | zero => rw [Nat.zero_mul, Nat.zero_add, List.getElem?_append_left (by rw [enc_len]; exact hj)]; exact hd
      | succ i =>
        rw [List.getElem?_append_right (by rw [enc_len, Nat.succ_mul]; omega), enc_len]
        have := ih i (by omega)
        rwa [show (i + 1) * csz c + j - csz c = i * csz c + j by rw [Nat.succ_mul]; omega]
  obtain ⟨u, hu, hrep⟩ := hr.get (hget n i hin)
  exact ⟨u, hu, rep_rf hrep (.inl rfl) ⟨c, zer c, j, hd⟩⟩
theorem alloc_chg (w : World) (o : Obj) : Chg noFp w (w.alloc o) ∧ w.heap.size < (w.alloc o).heap.size := ⟨Chg.alloc _ _ _, by simp⟩
theorem alloc_heap (w : World) (o : Obj) : (w.alloc o).heap[w.heap.size]? = some o := by
  show (w.heap.push o)[w.heap.size]? = _
  simp
theorem alloc_eff (hp : PxOk cx px) {o : Oper} {t : Nat} (ho : o.op = .alloc t) {st : St} {k : Blk} (hk : (∃ n c, px.tt t = .arr n c ∧ k = .row c n (List.replicate n (zer c))) ∨ ∃ z, px.tt t ≠ .no ∧ (px.tt t).zero = some z ∧ k = .cells (cells z)) : Eff cx px o st (newB st k) (.ptr st.nb 0) := by
  refine ⟨⟨rfl, rfl, rfl, rfl, rfl⟩, fun s m a as w hx hW hr => ?_⟩
  have main : ∀ zs, Sx.tyZero cx.P t = some zs → (∀ x', Nx (vx cx m s w) x' → x'.w = w.alloc (.cells zs.toArray t) → BlkR x' w.heap.size k) → Yv cx.P a w o fun v w' => ∃ m', Rel cx m' a as (setW (fs (newB st k)) s) w' ∧ Rep (vx cx m' (setW (fs (newB st k)) s) w') (.ptr st.nb 0) v := by
    intro zs hz hblk
    obtain ⟨z, hzv, hzc⟩ := zero_run hz w
    obtain ⟨m', h1, h2⟩ := hr.new (vs := zs) (t := t) (alloc_chg w _).1 (alloc_chg w _).2 hblk rfl rfl
    refine .inl ⟨.pointer (some ⟨w.heap.size, 0, none⟩), w.alloc (.cells zs.toArray t), ?_, m', ?_, ?_⟩
    · simp only [execOp, ho, Instr.alloc, Sem.run_bind, hzv, newVar, newRow, newObj, Sem.run_pure, Result.andThen_ok, Sem.run, World.alloc, hzc]
    · rw [fs_newB st k s hW]; exact h1
    · rw [fs_newB st k s hW]
      have e1 : st.nb = s.nb := hW.2.1.symm
      rw [e1]
      exact h2
  rcases hk with ⟨n, c, hty, rfl⟩ | ⟨z, hno, hz, rfl⟩
  · obtain ⟨zs, hz1, hz2⟩ := tyOk_zero (hp.tt t) (by rw [hty]; simp) (z := .agg ((List.replicate n (enc c (zer c))).flatten)) (by rw [hty]; rfl)
    refine main zs hz1 fun x' nx hw => ?_
    obtain ⟨h1, h2⟩ := row_zero (x := x') (c := c) (n := n) hz2
    exact ⟨by simp, zs, t, by rw [hw]; exact alloc_heap _ _, by simpa using h1, h2⟩
  · obtain ⟨zs, hz1, hz2⟩ := tyOk_zero (hp.tt t) hno hz
    refine main zs hz1 fun x' nx hw => ?_
    obtain ⟨h1, h2⟩ := zbL_rep (x := x') hz2
    exact ⟨h2, zs, t, by rw [hw]; exact alloc_heap _ _, h1⟩
theorem box_eff {o : Oper} {t : Nat} {x : Operand} (ho : o.op = .box t x) {st : St} {d : D} (hd : ev px st t x = some d) (hl : lfs d = true) : Eff cx px o st (newB st (boxed d)) (.ptr st.nb 0) := by
  refine ⟨⟨rfl, rfl, rfl, rfl, rfl⟩, fun s m a as w hx hW hr => ?_⟩
  rw [ev_eq, ← hx _ x (by simp [ho, Op.operands])] at hd
  obtain ⟨v, _, hv, hrep⟩ := hr.env.ev hd
  have hcr := rep_cells hrep hl
  have hh : (w.alloc (.cells v.cells t)).heap[w.heap.size]? = some (.cells v.cells.toList.toArray t (0, 0)) := by simpa using alloc_heap w (.cells v.cells t)
  obtain ⟨m', h1, h2⟩ := hr.new (k := boxed d) (vs := v.cells.toList) (t := t) (alloc_chg w (.cells v.cells t)).1 (alloc_chg w _).2 (fun x' nx hw => by
    cases d with
    | sv c y =>
      simp only [Rep] at hrep
      obtain ⟨ha, vs, rfl, hlen, hel⟩ := hrep
      exact ⟨ha, vs, t, by rw [hw]; simpa [Value.cells] using hh, hlen, fun j e he => by obtain ⟨u, hu, hf⟩ := hel j e he; exact ⟨u, hu, nx.rf hf⟩⟩
    | _ => exact ⟨hl, v.cells.toList, t, by rw [hw]; exact hh, Reps.later nx _ _ hcr.reps⟩) rfl rfl
  refine .inl ⟨.pointer (some ⟨w.heap.size, 0, none⟩), w.alloc (.cells v.cells t), ?_, m', ?_, ?_⟩
  · simp only [execOp, ho, Instr.box, hv, newVar, newRow, newObj, Sem.run_bind, Sem.run_pure, Result.andThen_ok, Sem.run, World.alloc]
  · rw [fs_newB st _ s hW]; exact h1
  · rw [fs_newB st _ s hW]
    have e1 : st.nb = s.nb := hW.2.1.symm
    rw [e1]
    exact h2
/-! ## stores -/
/-- what a store makes of the state -/
structure EffN (cx : Cx) (px : Px R) (o : Oper) (st st' : St) : Prop where
  same : st'.n = st.n ∧ st'.env = st.env ∧ st'.lb = st.lb ∧ st'.lt = st.lt ∧ st'.fr = st.fr
  run : ∀ (s : FS) (m : Mp) (a : Act) (as : List Act) (w : World), (∀ t x, x ∈ o.op.operands → evF px s.env t x = evF px (get st.env) t x) → sameW s (fs st) → Rel cx m a as s w → ∃ w' m', (execOp a.eval o).run cx.P w = .ok .skip w' ∧ Rel cx m' a as (setW (fs st') s) w'
theorem fs_setB (st : St) (b : Nat) (k k0 : Blk) (s : FS) (h : sameW s (fs st)) (hb : blk st.bl b = some k0) : setW (fs { st with bl := setB st.bl b k }) s = { s with bl := fun c => if c = b then some k else s.bl c } := by
  obtain ⟨h1, h2, h3, h4⟩ := h
  refine FS.eq rfl rfl rfl rfl rfl ?_ h2.symm h3.symm h4.symm
  funext c
  simp only [setW, fs, blk_setB, h1, hb, Option.map_some]
theorem stepN_eff (hp : PxOk cx px) {o : Oper} {st : St} {K : St → Option R} {r : R} (h : stepN px o st K = some r) : ∃ st', K st' = some r ∧ EffN cx px o st st' := by
  unfold stepN at h
  split at h
  · rename_i t x y ho
    have hsz : ∀ n, (px.tt t).n = n → px.tt t ≠ .no → Sx.tySz cx.P t = some n := fun n hn hno => by rw [← hn]; exact (tyOk_base (hp.tt t) hno).2.2
    split at h
    · rename_i b off d hx hy
      split at h
      · rename_i ds hb0
        obtain ⟨k0, hb, hk0⟩ : ∃ k0, blk st.bl b = some k0 ∧ ∀ x β, BlkR x β k0 → ds.all lf = true ∧ ∃ (vs : List Value) (t : TypeId), x.w.heap[β]? = some (.cells vs.toArray t (0, 0)) ∧ Reps x ds vs := by
          split at hb0
          · rename_i ds' hb
            simp only [Option.some.injEq] at hb0
            subst hb0
            exact ⟨_, hb, fun x β h => h⟩
          · rename_i c y hb
            simp only [Option.some.injEq] at hb0
            subst hb0
            refine ⟨_, hb, fun x β h => ?_⟩
            obtain ⟨_, vs, t, hh, hlen, hel⟩ := h
            exact ⟨enc_lf c y, vs, t, hh, (elR_cellsR (x := x) (c := c) (y := y) ⟨hlen, hel⟩).reps⟩
          · cases hb0
        split at h
        · rename_i hc
          simp only [Bool.and_eq_true] at hc
          obtain ⟨⟨⟨hc1, hc2⟩, hc3⟩, hc4⟩ := hc
          have hc1 := Nat.eq_of_beq_eq_true hc1
          have hc2 : off + (cells d).length ≤ ds.length := by simpa using hc2
          refine ⟨_, h, ⟨rfl, rfl, rfl, rfl, rfl⟩, fun s m a as w hag hW hr => ?_⟩
          rw [ev_eq, ← hag _ x (by simp [ho, Op.operands])] at hx
          rw [ev_eq, ← hag _ y (by simp [ho, Op.operands])] at hy
          obtain ⟨v1, _, h2, h3⟩ := hr.env.ev hx
          obtain ⟨v2, _, h5, h6⟩ := hr.env.ev hy
          simp only [Rep] at h3
          obtain ⟨_, rfl⟩ := h3
          have hcr := rep_cells h6 hc3
          have hsb : s.bl b = some k0 := by rw [hW.1]; exact hb
          obtain ⟨hl, vs, ty, hh, hreps⟩ := hk0 _ _ (hr.blks b _ hsb).2
          have hh : w.heap[m.bl b]? = some (.cells vs.toArray ty (0, 0)) := hh
          have hvl : off + v2.cells.toList.length ≤ vs.length := by rw [hcr.1, hreps.len]; exact hc2
          obtain ⟨r1, r2, r3⟩ := Sx.run_storeCells (P := cx.P) v2.cells.toList w (m.bl b) off 0 vs ty hh (by omega) (cells_one hcr hc3)
          have hrel := hr.write (w' := Sx.setCells w (m.bl b) off v2.cells.toList) (k := .cells (write ds off (cells d))) hsb (of_sxchg r3) (fun x' nx hw => by
            refine ⟨write_lf _ _ _ hl hc3, Sx.writeAt vs off v2.cells.toList, ty, by rw [hw]; exact r2, ?_⟩
            exact Reps.later nx _ _ (write_cellsR _ _ _ _ _ (reps_cellsR hreps) hcr hc2).reps)
          refine ⟨_, m, ?_, by rw [fs_setB st b _ _ s hW hb]; exact hrel⟩
          have hz' : Sx.tySz cx.P t = some v2.cells.size := hsz _ (by rw [← hc1, ← hcr.1]; simp) (known_ne hc4).1
          simp only [execOp, ho, Instr.storeAt, h2, h5, vx, Instr.sureAddr, storeVar, Sem.run_bind, Sem.run_pure, Result.andThen_ok, Sx.run_sizeOf hz', ne_eq, not_true_eq_false, if_false]
          rw [r1]
          simp
        · cases h
      · cases h
    · rename_i b c0 n0 i d hx hy
      split at h
      · rename_i c n xs hb
        split at h
        · rename_i y0 hk0 hc
          simp only [Bool.and_eq_true, decide_eq_true_eq] at hc
          obtain ⟨⟨⟨hc1, rfl⟩, hc3⟩, hc4⟩ := hc
          have hc1 := Nat.eq_of_beq_eq_true hc1
          have hc3 := Nat.eq_of_beq_eq_true hc3
          subst hc3
          refine ⟨_, h, ⟨rfl, rfl, rfl, rfl, rfl⟩, fun s m a as w hag hW hr => ?_⟩
          rw [ev_eq, ← hag _ x (by simp [ho, Op.operands])] at hx
          rw [ev_eq, ← hag _ y (by simp [ho, Op.operands])] at hy
          obtain ⟨v1, _, h2, h3⟩ := hr.env.ev hx
          obtain ⟨v2, _, h5, h6⟩ := hr.env.ev hy
          simp only [Rep] at h3
          obtain ⟨_, rfl, hi1, hi2⟩ := h3
          obtain ⟨hel, _, _⟩ := toK_elR hk0 h6
          have hsb : s.bl b = some (.row c0 n0 xs) := by rw [hW.1]; exact hb
          obtain ⟨_, hnl, vs, ty, hh, hlen, hreps⟩ := hr.blks b _ hsb
          have hh : w.heap[m.bl b]? = some (.cells vs.toArray ty (0, 0)) := hh
          have hin : i.toNat < xs.length := by omega
          have hvl : i.toNat * csz c0 + v2.cells.toList.length ≤ vs.length := by
            rw [hel.1, hlen, ← Nat.succ_mul]
            exact Nat.mul_le_mul_right _ (by omega)
          obtain ⟨r1, r2, r3⟩ := Sx.run_storeCells (P := cx.P) v2.cells.toList w (m.bl b) (i.toNat * csz c0) 0 vs ty hh (by omega) hel.one
          have hwget : ∀ (us cs : List Value) (o q : Nat), o + us.length ≤ cs.length → (Sx.writeAt cs o us)[q]? = if o ≤ q ∧ q < o + us.length then us[q - o]? else cs[q]? := by
            intro us
            induction us with
            | nil => intro cs o q _; simp only [Sx.writeAt, List.length_nil, Nat.add_zero]; rw [if_neg (by omega)]
            | cons u us ih =>
              intro cs o q hl
              simp only [List.length_cons] at hl
              simp only [Sx.writeAt]
              rw [ih (cs.set o u) (o + 1) q (by simp; omega)]
              simp only [List.length_cons]
              by_cases hq : q = o
              · subst hq
                rw [if_neg (by omega), if_pos (by omega)]
                simp [show q < cs.length by omega]
              · by_cases hin2 : o + 1 ≤ q ∧ q < o + 1 + us.length
                · rw [if_pos hin2, if_pos (by omega), show q - o = (q - (o + 1)) + 1 by omega]
                  simp
                · rw [if_neg hin2, if_neg (by omega), List.getElem?_set_ne (Ne.symm hq)]
          have hrel := hr.write (w' := Sx.setCells w (m.bl b) (i.toNat * csz c0) v2.cells.toList) (k := .row c0 n0 (xs.set i.toNat y0)) hsb (of_sxchg r3) (fun x' nx hw => by
            refine ⟨by simpa using hnl, Sx.writeAt vs (i.toNat * csz c0) v2.cells.toList, ty, by rw [hw]; exact r2, by rw [Sx.writeAt_length]; simpa using hlen, fun q y j d' hy' hd' => ?_⟩
            have hjc : j < csz c0 := by rw [← enc_len c0 y]; exact (List.getElem?_eq_some_iff.1 hd').1
            rw [hwget _ _ _ _ hvl, hel.1]
            by_cases hqi : q = i.toNat
            · subst hqi
              rw [List.getElem?_set_self hin] at hy'
              simp only [Option.some.injEq] at hy'
              subst hy'
              obtain ⟨u, hu, hf⟩ := hel.2 j d' hd'
              refine ⟨u, ?_, nx.rf hf⟩
              rw [if_pos (by omega), show i.toNat * csz c0 + j - i.toNat * csz c0 = j by omega]
              exact hu
            · rw [List.getElem?_set_ne (Ne.symm hqi)] at hy'
              obtain ⟨u, hu, hf⟩ := hreps q y j d' hy' hd'
              refine ⟨u, ?_, nx.rf hf⟩
              rw [if_neg, hu]
              rintro ⟨g1, g2⟩
              rcases Nat.lt_or_ge q i.toNat with hlt | hge
              · have : (q + 1) * csz c0 ≤ i.toNat * csz c0 := Nat.mul_le_mul_right _ hlt
                rw [Nat.succ_mul] at this
                omega
              · have : (i.toNat + 1) * csz c0 ≤ q * csz c0 := Nat.mul_le_mul_right _ (by omega)
                rw [Nat.succ_mul] at this
                omega)
          refine ⟨_, m, ?_, by rw [fs_setB st b _ _ s hW hb]; exact hrel⟩
          have hz' : Sx.tySz cx.P t = some v2.cells.size := hsz _ (by rw [hc1, ← hel.1]; simp) (known_ne hc4).1
          simp only [execOp, ho, Instr.storeAt, h2, h5, vx, Instr.sureAddr, storeVar, Sem.run_bind, Sem.run_pure, Result.andThen_ok, Sx.run_sizeOf hz', ne_eq, not_true_eq_false, if_false]
          rw [r1]
          simp
        · cases h
      · cases h
    · cases h
  · cases h
end
end Go.Ax
