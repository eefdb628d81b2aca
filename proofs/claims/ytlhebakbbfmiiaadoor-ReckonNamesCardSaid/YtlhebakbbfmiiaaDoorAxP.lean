/- Ax, part P: rows: literals, bytes of a text, append. -/
import Derived.Test.YtlhebakbbfmiiaaDoorAxO
namespace Go.Ax
open Go.RowKit
section
variable {R : Type} {px : Px R} {cx : Cx}
/-- elements in a row of cells -/
def RowEl (x : Vx) (c : Ck) (xs : List (El c)) (vs : List Value) : Prop := vs.length = xs.length * csz c ∧ ∀ i y j d, xs[i]? = some y → (enc c y)[j]? = some d → ∃ u, vs[i * csz c + j]? = some u ∧ RF x.S x.w d u
theorem RowEl.nil (x : Vx) (c : Ck) : RowEl x c [] [] := ⟨by simp, fun i y j d hy => by simp at hy⟩
theorem RowEl.later {x x' : Vx} (h : Nx x x') {c : Ck} {xs : List (El c)} {vs : List Value} (hr : RowEl x c xs vs) : RowEl x' c xs vs := ⟨hr.1, fun i y j d hy hd => by obtain ⟨u, hu, hf⟩ := hr.2 i y j d hy hd; exact ⟨u, hu, h.rf hf⟩⟩
theorem RowEl.append {x : Vx} {c : Ck} {xs ys : List (El c)} {vs us : List Value} (h : RowEl x c xs vs) (k : RowEl x c ys us) : RowEl x c (xs ++ ys) (vs ++ us) := by
  refine ⟨by simp [h.1, k.1, Nat.add_mul], fun i y j d hy hd => ?_⟩
  have hj : j < csz c := by rw [← enc_len c y]; exact (List.getElem?_eq_some_iff.1 hd).1
  rw [List.getElem?_append] at hy
  split at hy
  · rename_i hi
    obtain ⟨u, hu, hf⟩ := h.2 i y j d hy hd
    refine ⟨u, ?_, hf⟩
    rw [List.getElem?_append_left, hu]
    exact (List.getElem?_eq_some_iff.1 hu).1
  · rename_i hi
    obtain ⟨u, hu, hf⟩ := k.2 _ y j d hy hd
    refine ⟨u, ?_, hf⟩
    have hle : xs.length * csz c ≤ i * csz c := Nat.mul_le_mul_right _ (by omega)
    rw [List.getElem?_append_right (by rw [h.1]; omega), h.1]
    rwa [Nat.sub_mul, ← Nat.sub_add_comm hle] at hu
theorem RowEl.cons {x : Vx} {c : Ck} {y : El c} {xs : List (El c)} {us vs : List Value} (h : ElR x c y us) (k : RowEl x c xs vs) : RowEl x c (y :: xs) (us ++ vs) := by
  have : RowEl x c [y] us := ⟨by simpa using h.1, fun i z j d hz hd => by
    cases i with
    | zero => simp at hz; subst hz; simpa using h.2 j d hd
    | succ i => simp at hz⟩
  exact this.append k
theorem RowEl.one {x : Vx} {c : Ck} {xs : List (El c)} {vs : List Value} (h : RowEl x c xs vs) : ∀ v, v ∈ vs → Sx.one v = true := by
  intro v hv
  obtain ⟨q, hq, rfl⟩ := List.mem_iff_getElem.1 hv
  have hp := csz_pos c
  have hi : q / csz c < xs.length := by
    rw [Nat.div_lt_iff_lt_mul hp, ← h.1]; exact hq
  have hj : q % csz c < csz c := Nat.mod_lt _ hp
  obtain ⟨u, hu, hf⟩ := h.2 (q / csz c) _ (q % csz c) _ (List.getElem?_eq_getElem hi) (List.getElem?_eq_getElem (by rw [enc_len]; exact hj))
  rw [show q / csz c * csz c + q % csz c = q by rw [Nat.mul_comm]; exact Nat.div_add_mod q (csz c), List.getElem?_eq_getElem hq] at hu
  simp only [Option.some.injEq] at hu
  rw [hu]
  exact fv_one hf.here
/-- a row of memory is a slice -/
theorem row_rf {x : Vx} {c : Ck} {xs : List (El c)} {vs : List Value} {g cap : Nat} (h : RowEl x c xs vs) (hle : xs.length ≤ cap ∧ cap ≤ maxLen) (hm : ∀ (j : Nat) u, vs[j]? = some u → x.w.cell? ⟨g, j, none⟩ = some u) (hS : ∀ i, i < xs.length * csz c → ¬ x.S g i) : RF x.S x.w (.sl c xs .no) (.slice (some ⟨g, 0, none⟩) xs.length cap) := by
  refine slice_mk rfl (.inr ⟨g, 0, rfl, hle, fun i y hy w' hw j d hd => ?_⟩)
  obtain ⟨u, hu, hf⟩ := h.2 i y j d hy hd
  have hlt : i * csz c + j < xs.length * csz c := by rw [← h.1]; exact (List.getElem?_eq_some_iff.1 hu).1
  refine ⟨u, ?_, hf w' hw⟩
  rw [Nat.zero_add]
  exact hw.cell g _ u (hm _ u hu) (hS _ hlt)
/-- a slice's cells -/
theorem slice_row {x : Vx} {c : Ck} {xs : List (El c)} {v : Value} (h : RF x.S x.w (.sl c xs .no) v) : ∃ a cap vs, v = .slice a xs.length cap ∧ RowEl x c xs vs ∧ ∀ b o, a = some ⟨b, o, none⟩ → xs ≠ [] → ∀ (j : Nat) u, vs[j]? = some u → x.w.cell? ⟨b, o + j, none⟩ = some u := by
  obtain ⟨a, cap, rfl, hf⟩ := slice_form h
  rcases hf with rfl | ⟨b, o, rfl, hle, hat⟩
  · exact ⟨a, cap, [], rfl, RowEl.nil _ _, fun _ _ _ h => absurd rfl h⟩
  · have key : ∀ (n : Nat), n ≤ xs.length → ∃ vs, RowEl x c (xs.take n) vs ∧ ∀ (j : Nat) u, vs[j]? = some u → x.w.cell? ⟨b, o + j, none⟩ = some u := by
      intro n
      induction n with
      | zero => intro _; exact ⟨[], by simpa using RowEl.nil x c, by simp⟩
      | succ n ih =>
        intro hn
        obtain ⟨vs, h1, h2⟩ := ih (by omega)
        have hx : xs[n]? = some (xs[n]'(by omega)) := List.getElem?_eq_getElem (by omega)
        obtain ⟨us, h3, h4⟩ := At.elR rfl (hat n _ hx)
        have h5 := h1.append (show RowEl x c [xs[n]'(by omega)] us from by simpa using RowEl.cons h3 (RowEl.nil x c))
        rw [List.take_append_getElem] at h5
        refine ⟨vs ++ us, h5, fun j u hj => ?_⟩
        rw [List.getElem?_append] at hj
        split at hj
        · exact h2 j u hj
        · rename_i hlt
          have hl : vs.length = n * csz c := by rw [h1.1, List.length_take, Nat.min_eq_left (by omega)]
          have := h4 _ u hj
          rw [hl] at this hlt
          rwa [show o + n * csz c + (j - n * csz c) = o + j by omega] at this
    obtain ⟨vs, h1, h2⟩ := key xs.length (Nat.le_refl _)
    rw [List.take_length] at h1
    refine ⟨_, cap, vs, rfl, h1, fun b' o' he _ => ?_⟩
    simp only [Option.some.injEq, Addr.mk.injEq, and_true] at he
    obtain ⟨rfl, rfl⟩ := he
    exact h2
theorem toKs_row {x : Vx} {c : Ck} : ∀ {l : List D} {ys : List (El c)} {vs : List Value}, toKs c l = some ys → Reps x l vs → RowEl x c ys (vs.flatMap fun v => v.cells.toList) ∧ (∀ v, v ∈ vs → v.cells.size = csz c) ∧ ys.length = l.length
  | [], ys, vs, h, hr => by
    simp only [toKs, Option.some.injEq] at h
    simp only [Reps] at hr
    subst h
    subst hr
    exact ⟨RowEl.nil _ _, by simp, rfl⟩
  | d :: l, ys, vs, h, hr => by
    simp only [toKs] at h
    split at h
    · rename_i y hy
      split at h
      · rename_i ys' hys
        simp only [Option.some.injEq] at h
        subst h
        simp only [Reps] at hr
        obtain ⟨u, us, rfl, h1, h2⟩ := hr
        obtain ⟨i1, i2, i3⟩ := toKs_row hys h2
        obtain ⟨e1, _, _⟩ := toK_elR hy h1
        refine ⟨by simpa using RowEl.cons e1 i1, fun v hv => ?_, by simp [i3]⟩
        simp only [List.mem_cons] at hv
        rcases hv with rfl | hv
        · have := e1.1; simpa using this
        · exact i2 v hv
      · cases h
    · cases h
/-! ## literals of slices -/
theorem fs_newTk (st : St) (al : List Nat) (t0 : Option Nat) (s : FS) (h : sameW s (fs st)) (hal : ∀ t, t ∈ al ↔ (t ∈ st.tk ∧ t0 ≠ some t)) : setW (fs (newTk { st with tk := al })) s = { s with al := fun t => (s.al t ∧ t0 ≠ some t) ∨ t = s.nt, nt := s.nt + 1 } := by
  obtain ⟨h1, h2, h3, h4⟩ := h
  refine FS.eq rfl rfl rfl rfl rfl h1.symm h2.symm ?_ ?_
  · funext t
    simp only [setW, fs, newTk, List.mem_cons, h3, h4, hal, eq_iff_iff]
    exact or_comm
  · simp only [setW, fs, newTk, h4]
theorem rel_fresh {m : Mp} {a : Act} {as : List Act} {s : FS} {w : World} (h : Rel cx m a as s w) {b : Nat} (hb : w.heap.size ≤ b) (i : Nat) : ¬ (vx cx m s w).S b i := by
  rintro (hM | hf)
  · have := (h.away b i 0 hM).1
    have := h.chg.size
    omega
  · have := (h.own b i hf).1
    omega
/-- a new row, of the call's own -/
theorem new_row {m : Mp} {a : Act} {as : List Act} {s : FS} {w w' : World} (hr : Rel cx m a as s w) {c : Ck} {xs : List (El c)} {vs : List Value} {cur : Array Value} {cap : Nat} {t0 : Option Nat} (hrow : RowEl (vx cx m s w) c xs vs) (hch : Chg noFp w w') (hsz : w.heap.size < w'.heap.size) (hh : w'.heap[w.heap.size]? = some (.cells cur (cx.el c) (0, 0))) (hcur : cur.size = cap * csz c) (hle : xs.length ≤ cap) (hmax : cap ≤ maxLen) (hpre : ∀ (j : Nat) u, vs[j]? = some u → cur[j]? = some u) :
    Rel cx { m with tk := fun t => if t = s.nt then some (w.heap.size, xs.length * csz c) else m.tk t } a as { s with al := fun t => (s.al t ∧ t0 ≠ some t) ∨ t = s.nt, nt := s.nt + 1 } w' ∧ Rep (vx cx { m with tk := fun t => if t = s.nt then some (w.heap.size, xs.length * csz c) else m.tk t } { s with al := fun t => (s.al t ∧ t0 ≠ some t) ∨ t = s.nt, nt := s.nt + 1 } w') (.sl c xs (.id s.nt)) (.slice (some ⟨w.heap.size, 0, none⟩) xs.length cap) := by
  obtain ⟨hrel, nx⟩ := hr.right (t0 := t0) (p := some (w.heap.size, xs.length * csz c)) (hch.mono (fun _ _ h => h.elim)) (fun g o hg => by
    simp only [Option.some.injEq, Prod.mk.injEq] at hg
    obtain ⟨rfl, rfl⟩ := hg
    exact ⟨hsz, .inl (Nat.le_refl _)⟩)
  refine ⟨hrel, ?_⟩
  simp only [Rep]
  refine ⟨row_rf (hrow.later nx) ⟨hle, hmax⟩ (fun j u hj => ?_) (fun i hi => ?_), Nat.lt_succ_self _, fun _ => .inr ⟨w.heap.size, cap, cur, rfl, by simp [vx], hh, hcur, hle, hmax⟩⟩
  · show w'.cell? _ = _
    simp only [World.cell?, hh]
    exact hpre j u hj
  · rintro (hM | hf)
    · have := (hr.away _ i 0 hM).1
      have := hr.chg.size
      omega
    · rcases hf with ⟨q, hq, he⟩ | ⟨t, o, h1, h2, h3⟩
      · have := hr.own_b hq
        have he : m.bl q = w.heap.size := he
        omega
      · by_cases ht : t = s.nt
        · subst ht
          simp at h2
          omega
        · simp only [if_neg ht] at h2
          rcases h1 with h1 | h1
          · have := hr.own_t h1.1 h2
            omega
          · exact absurd h1 ht
theorem bslice_core (hp : PxOk cx px) {o : Oper} {t len : Nat} {ps : Array (Nat × Operand)} (ho : o.op = .buildSlice t len ps) {st : St} {c : Ck} (hty : px.tt t = .sl c) {l : List D} (hl : evrow px st 0 ps.toList = some l) (hlen : l.length = len) (hmax : len * csz c ≤ 16777216) {xs : List (El c)} (hxs : toKs c l = some xs) {s : FS} {m : Mp} {a : Act} {as : List Act} {w : World} (hag : ∀ t x, x ∈ o.op.operands → evF px s.env t x = evF px (get st.env) t x) (hr : Rel cx m a as s w) : xs.length = len ∧ len ≤ maxLen ∧ ∃ us, RowEl (vx cx m s w) c xs us ∧ (execOp a.eval o).run cx.P w = .ok (.value (.slice (some ⟨w.heap.size, 0, none⟩) len len)) (w.alloc (.cells us.toArray (cx.el c))) := by
  obtain ⟨vs, h0, h1, h2, h3⟩ := evrow_get hr.env hl (fun u q hq => by rw [ev_eq]; exact hag u q (by rw [ho]; simpa [Op.operands] using hq))
  obtain ⟨hrow, hcs, hxl⟩ := toKs_row hxs h3
  obtain ⟨by_, ⟨hu, i0, z, hi0, hz, hsize, hby, hzs, hpos⟩, _, _⟩ := tyOk_sl (hp.tt t) hty
  have hvl : vs.length = len := by rw [h3.len, hlen]
  have hpl : (ps.map fun x => match x with | (i, x) => (i, a.eval x)) = ((List.range' 0 vs.length).zip vs).toArray := by
    apply Array.ext'
    rw [Array.toList_map]
    exact zip_row (by rw [h0, h3.len]) h2
  have hzero : (((Array.range (len * csz c)).map fun i => z.cells[i % z.cells.size]!)).toList.length = len * csz c := by simp
  have hfill := Sx.fill_all (csz c) vs 0 [] (((Array.range (len * csz c)).map fun i => z.cells[i % z.cells.size]!)).toList hcs (by simp) (by rw [hzero, hvl]; exact Nat.le_refl _)
  have hdrop : (((Array.range (len * csz c)).map fun i => z.cells[i % z.cells.size]!)).toList.drop (vs.length * csz c) = [] := List.drop_eq_nil_of_le (by rw [hzero, hvl]; exact Nat.le_refl _)
  rw [hdrop] at hfill
  simp only [List.nil_append, List.append_nil, Array.toArray_toList] at hfill
  have hzv : (zeroValue (cx.el c)).run cx.P w = .ok z w := by simp [zeroValue, typeInfo, go_sem, hi0, hz]
  have hszr : (sizeOf (cx.el c)).run cx.P w = .ok (csz c) w := by simp [sizeOf, typeInfo, go_sem, hi0, hsize]
  have hm' : ¬ (len * csz c > 2 ^ 24) := by have : (2 : Nat) ^ 24 = 16777216 := rfl; omega
  refine ⟨by omega, by have := csz_pos c; have : len ≤ len * csz c := Nat.le_mul_of_pos_right _ this; simp only [maxLen]; omega, _, hrow, ?_⟩
  by_cases h0' : len * csz c = 0
  · have hv0 : vs = [] := by
      have : len = 0 := by
        rcases Nat.mul_eq_zero.1 h0' with h | h
        · exact h
        · omega
      exact List.eq_nil_of_length_eq_zero (by omega)
    subst hv0
    have hfe : Instr.fill (fun i => some (i * csz c, csz c)) ((Array.range (len * csz c)).map (fun x => (#[] : Array Value)[x % (#[] : Array Value).size]!)) [] = some #[] := by
      rw [h0']; simp [Instr.fill]
    simp only [execOp, ho, hpl, Instr.buildSlice, Sem.run_bind, run_underlying hu, Result.andThen_ok, hszr, if_neg hm', if_pos h0', Sem.run_pure]
    simp only [List.length_nil, List.range'_zero, List.zip_nil_left, hfe, newRow, newObj, Sem.run_bind, Sem.run, Sem.run_pure, Result.andThen_ok, World.alloc, List.flatMap_nil]
  · simp only [execOp, ho, hpl, Instr.buildSlice, Sem.run_bind, run_underlying hu, Result.andThen_ok, hszr, if_neg hm', if_neg h0', hzv, hfill, newRow, newObj, Sem.run, Sem.run_pure, World.alloc]
theorem bslice_eff (hp : PxOk cx px) {o : Oper} {t len : Nat} {ps : Array (Nat × Operand)} (ho : o.op = .buildSlice t len ps) {st : St} {c : Ck} (hty : px.tt t = .sl c) {l : List D} (hl : evrow px st 0 ps.toList = some l) (hlen : l.length = len) (hmax : len * csz c ≤ 16777216) {xs : List (El c)} (hxs : toKs c l = some xs) : Eff cx px o st (newTk st) (.sl c xs (.id st.nt)) := by
  refine ⟨⟨rfl, rfl, rfl, rfl, rfl⟩, fun s m a as w hag hW hr => ?_⟩
  obtain ⟨hxl, hml, us, hrow, hrun⟩ := bslice_core hp ho hty hl hlen hmax hxs hag hr
  have hnr := new_row (t0 := none) hr (xs := xs) (cur := us.toArray) (cap := len) hrow (alloc_chg w _).1 (alloc_chg w _).2 (alloc_heap w _) (by simp only [List.size_toArray]; rw [hrow.1, hxl]) (by omega) hml (fun j u hj => by simpa using hj)
  have hfs := fs_newTk st st.tk none s hW (fun t => by simp)
  have hst : ({ st with tk := st.tk } : St) = st := rfl
  rw [hst] at hfs
  have hnt : st.nt = s.nt := hW.2.2.2.symm
  rw [hxl] at hnr
  rw [← hfs] at hnr
  exact .inl ⟨_, _, hrun, _, hnr.1, by rw [hnt]; exact hnr.2⟩
/-- a frozen row in new memory -/
theorem fresh_sl {m : Mp} {a : Act} {as : List Act} {s : FS} {w w' : World} (hr : Rel cx m a as s w) (hch : Chg noFp w w') {c : Ck} {xs : List (El c)} {us : List Value} (hrow : RowEl (vx cx m s w) c xs us) {cap : Nat} (hle : xs.length ≤ cap ∧ cap ≤ maxLen) (hm : ∀ (j : Nat) u, us[j]? = some u → w'.cell? ⟨w.heap.size, j, none⟩ = some u) : Rep (vx cx m s w') (.sl c xs .no) (.slice (some ⟨w.heap.size, 0, none⟩) xs.length cap) := by
  have nx : Nx (vx cx m s w) (vx cx m s w') := ⟨hch.mono (fun _ _ h => h.elim), fun b i hi => .inl hi, rfl, fun _ _ => rfl, Nat.le_refl _, Nat.le_refl _, fun t _ ha => ⟨ha, rfl, fun g o hg => hch.block g (hr.own_t ha hg) (fun _ h => h)⟩⟩
  simp only [Rep]
  exact ⟨row_rf (hrow.later nx) hle hm (fun i _ => rel_fresh hr (Nat.le_refl _) i), trivial⟩
/-! ## bytes of a text -/
theorem grown_ge (w : World) (n o : Nat) (e : TypeId) : n ≤ grownCap w n o e := by
  unfold grownCap Question.cut
  exact Nat.le_add_right _ _
theorem grown_max (w : World) (n o : Nat) (e : TypeId) (h : n ≤ 9223372036854775807) : grownCap w n o e ≤ maxLen := by
  show n + w.tape w.drawn (.appendCap n o e) % (2 ^ 63 - n) ≤ 9223372036854775807
  have : w.tape w.drawn (.appendCap n o e) % (2 ^ 63 - n) < 2 ^ 63 - n := Nat.mod_lt _ (by have : (2 : Nat) ^ 63 = 9223372036854775808 := rfl; omega)
  have h2 : (2 : Nat) ^ 63 = 9223372036854775808 := rfl
  omega
theorem strbytes_core (hp : PxOk cx px) {o : Oper} {q t : Nat} {x : Operand} (ho : o.op = .convert q t x) {st : St} {l : Str} (hx : ev px st q x = some (.str l)) (hty : px.tt t = .sl .byte) (hq : px.tt q = .str) {s : FS} {m : Mp} {a : Act} {as : List Act} {w : World} (hag : ∀ t x, x ∈ o.op.operands → evF px s.env t x = evF px (get st.env) t x) (hr : Rel cx m a as s w) : ∃ v w', (execOp a.eval o).run cx.P w = .ok (.value v) w' ∧ Rel cx m a as s w' ∧ Rep (vx cx m s w') (.sl .byte l .no) v := by
  rw [ev_eq, ← hag _ x (by simp [ho, Op.operands])] at hx
  obtain ⟨v, _, hv, hrep⟩ := hr.env.ev hx
  obtain rfl := Rep.str hrep
  obtain ⟨by_, hT, _, h8⟩ := tyOk_sl (hp.tt t) hty
  have hu8 := Sx.tyI_spec (h8 rfl)
  have hqs := Sx.tyS_spec (tyOk_str (hp.tt q) hq)
  obtain ⟨cap, w', hrun, hch, hsz, hle, hcells⟩ : ∃ cap w', (convert q t (Sx.S l)).run cx.P w = .ok (.slice (some ⟨w.heap.size, 0, none⟩) l.length cap) w' ∧ Chg noFp w w' ∧ w.heap.size < w'.heap.size ∧ (l.length ≤ cap ∧ cap ≤ maxLen) ∧ ∀ (j : Nat) b, l[j]? = some b → w'.cell? ⟨w.heap.size, j, none⟩ = some (.int .u8 (b.toNat : Int)) := by
    refine ⟨_, _, run_bytes_of_string w q t (cx.el .byte) _ hqs hT.und hu8, (Chg.drew _ _).trans (Chg.alloc _ _ _), by simp, ⟨grown_ge _ _ _ _, grown_max _ _ _ _ (by have := hrep.strLen; simp only [maxLen] at this; simpa [ByteArray.size] using this)⟩, fun j b hb => ?_⟩
    have hh : ∀ o, (w.drew.alloc o).heap[w.heap.size]? = some o := fun o => alloc_heap w.drew o
    simp only [World.cell?, hh]
    have hlt : j < l.length := (List.getElem?_eq_some_iff.1 hb).1
    simp only [bytesRow]
    rw [Array.getElem?_append_left (by simpa using hlt)]
    simp [hb]
  refine ⟨.slice (some ⟨w.heap.size, 0, none⟩) l.length cap, w', by simp only [execOp, ho, hv, Sem.run_bind, hrun, Result.andThen_ok, Sem.run_pure], hr.quiet hch, ?_⟩
  refine fresh_sl hr hch (us := l.map fun b => .int .u8 (b.toNat : Int)) ⟨by simp [csz], fun i y j d hy hd => ?_⟩ hle (fun j u hj => ?_)
  · simp only [enc] at hd
    cases j with
    | succ j => simp at hd
    | zero =>
      simp at hd
      subst hd
      refine ⟨_, by simpa [csz] using ⟨y, hy, rfl⟩, fun w'' _ => .int _ _ (u8_mk ?_)⟩
      have := y.toNat_lt
      omega
  · rw [List.getElem?_map] at hj
    cases hb : l[j]? with
    | none => simp [hb] at hj
    | some b => simp [hb] at hj; subst hj; exact hcells j b hb
theorem strbytes_eff (hp : PxOk cx px) {o : Oper} {q t : Nat} {x : Operand} (ho : o.op = .convert q t x) {st : St} {l : Str} (hx : ev px st q x = some (.str l)) (hty : px.tt t = .sl .byte) (hq : px.tt q = .str) : Eff cx px o st st (.sl .byte l .no) := by
  refine ⟨⟨rfl, rfl, rfl, rfl, rfl⟩, fun s m a as w hag hW hr => ?_⟩
  obtain ⟨v, w', h1, h2, h3⟩ := strbytes_core hp ho hx hty hq hag hr
  rw [setW_self hW]
  exact .inl ⟨v, w', h1, m, h2, h3⟩
/-! ## append -/
theorem toS_spec {c : Ck} {d : D} {ys : List (El c)} (h : toS c d = some ys) : ∃ t, d = .sl c ys t := by
  unfold toS at h
  split at h
  · split at h
    · rename_i c' xs t hc
      subst hc
      simp only [Option.some.injEq] at h
      subst h
      exact ⟨t, rfl⟩
    · cases h
  · cases h
theorem run_append_empty {P : Program} {t ty u : TypeId} {sz by_ : Nat} {w : World} (hT : Sx.ElTy P t u sz by_) {v : Value} {ad : Option Addr} {c : Nat} (hv : v = .slice none 0 0 ∨ ∃ g n cap, v = .slice (some ⟨g, 0, none⟩) n cap ∧ n ≤ cap) : (Builtin.append_ #[t, t] ty #[v, .slice ad 0 c]).run P w = .ok v w := by
  obtain ⟨hu, i0, z, hi0, hz, hsz, hby, hzs, hpos⟩ := hT
  rcases hv with rfl | ⟨g, n, cap, rfl, hnc⟩
  · cases ad <;> simp [Builtin.append_, run_underlying hu, go_sem, sizeOf, typeInfo, hi0, Builtin.lenOf, Builtin.firstCells, loadCells, loadCellsFrom]
  · cases ad <;> simp [Builtin.append_, run_underlying hu, go_sem, sizeOf, typeInfo, hi0, Builtin.lenOf, Builtin.firstCells, loadCells, loadCellsFrom, hnc, storeCells]
theorem append_eff (hp : PxOk cx px) {o : Oper} {t : Nat} {x y : Operand} (ho : o.op = .call ⟨.builtin .append, #[x, y], #[t, t]⟩) {st : St} {c : Ck} (hty : px.tt t = .sl c) {xs ys : List (El c)} {tk tk' : Tk} (hx : ev px st t x = some (.sl c xs tk)) (hy : ev px st t y = some (.sl c ys tk')) {al : List Nat} (hal : takeTk st.tk tk = some al) (hlen : xs.length + ys.length ≤ maxApp) : Eff cx px o st (newTk { st with tk := al }) (.sl c (xs ++ ys) (.id st.nt)) := by
  refine ⟨⟨rfl, rfl, rfl, rfl, rfl⟩, fun s m a as w hag hW hr => ?_⟩
  rw [ev_eq, ← hag _ x (by simp [ho, Op.operands, Call.operands])] at hx
  rw [ev_eq, ← hag _ y (by simp [ho, Op.operands, Call.operands])] at hy
  obtain ⟨v, _, hv, hrx⟩ := hr.env.ev hx
  obtain ⟨v2, _, hv2, hry⟩ := hr.env.ev hy
  simp only [Rep] at hrx hry
  obtain ⟨hrf, htk⟩ := hrx
  obtain ⟨ad, cap2, us, rfl, hus, hucell⟩ := slice_row hry.1
  obtain ⟨by_, hT, hby512, _⟩ := tyOk_sl (hp.tt t) hty
  have hT0 := hT
  obtain ⟨hu, i0, z, hi0, hz, hsize, hby, hzs, hpos⟩ := hT
  have hbound : (xs.length + ys.length) * by_ ≤ 140737488355328 := by
    have hlen' : xs.length + ys.length ≤ 274877906944 := by unfold maxApp at hlen; exact hlen
    have h1 : (xs.length + ys.length) * by_ ≤ 274877906944 * 512 := Nat.mul_le_mul hlen' hby512
    omega
  have h63 : xs.length + ys.length ≤ 9223372036854775807 := by unfold maxApp at hlen; omega
  have hexec : ∀ (r : Value) (w' : World), (Builtin.append_ #[t, t] o.type #[v, .slice ad ys.length cap2]).run cx.P w = .ok r w' → (execOp a.eval o).run cx.P w = .ok (.value r) w' := by
    intro r w' hr
    simp only [execOp, ho, resolve, invoke, builtin, Sem.run_bind, Sem.run_pure, Result.andThen_ok, List.map_toArray, List.map_cons, List.map_nil, hv, hv2, hr]
  -- which right
  obtain ⟨t0, hal', hrow⟩ : ∃ t0 : Option Nat, (∀ q, q ∈ al ↔ (q ∈ st.tk ∧ t0 ≠ some q)) ∧ ((v = .slice none 0 0 ∧ xs = []) ∨ ∃ tt g cap cur, t0 = some tt ∧ s.al tt ∧ m.tk tt = some (g, xs.length * csz c) ∧ v = .slice (some ⟨g, 0, none⟩) xs.length cap ∧ w.heap[g]? = some (.cells cur (cx.el c) (0, 0)) ∧ cur.size = cap * csz c ∧ xs.length ≤ cap ∧ cap ≤ maxLen) := by
    unfold takeTk at hal
    split at hal
    · cases hal
    · simp only [Option.some.injEq] at hal
      subst hal
      exact ⟨none, fun q => by simp, .inl htk⟩
    · rename_i tt
      split at hal
      · rename_i hc
        simp only [Option.some.injEq] at hal
        subst hal
        have hin : tt ∈ st.tk := by simpa using hc
        refine ⟨some tt, fun q => ?_, ?_⟩
        · simp only [List.mem_filter, Bool.not_eq_true', ne_eq, Option.some.injEq]
          constructor
          · rintro ⟨h1, h2⟩
            refine ⟨h1, fun e => ?_⟩
            subst e
            simp at h2
          · rintro ⟨h1, h2⟩
            exact ⟨h1, beq_ne (Ne.symm h2)⟩
        · have halive : s.al tt := by rw [hW.2.2.1]; exact hin
          rcases htk.2 halive with ⟨h1, _, h3⟩ | ⟨g, cap, cur, h1, h2, h3⟩
          · exact .inl ⟨h1, h3⟩
          · exact .inr ⟨tt, g, cap, cur, rfl, halive, h2, h1, h3⟩
      · cases hal
  have hfs := fs_newTk st al t0 s hW hal'
  have hnt : st.nt = s.nt := hW.2.2.2.symm
  have hid : (D.sl c (xs ++ ys) (.id st.nt)) = .sl c (xs ++ ys) (.id s.nt) := by rw [hnt]
  by_cases hy0 : ys = []
  · subst hy0
    rw [List.append_nil]
    have hrun := run_append_empty (P := cx.P) (t := t) (ty := o.type) (w := w) hT0 (v := v) (ad := ad) (c := cap2) (by
      rcases hrow with ⟨h1, _⟩ | ⟨_, g, cap, _, _, _, _, h1, _, _, h2, _⟩
      · exact .inl h1
      · exact .inr ⟨g, _, cap, h1, h2⟩)
    refine .inl ⟨v, w, hexec v w hrun, ?_⟩
    have hid : (D.sl c xs (.id st.nt)) = .sl c xs (.id s.nt) := by rw [hnt]
    rw [hfs, hid]
    rcases hrow with ⟨h1, h2⟩ | ⟨tt, g, cap, cur, e1, e2, e3, e4, e5, e6, e7, e8⟩
    · obtain ⟨hrel, nx⟩ := hr.right (t0 := t0) (p := none) (Chg.refl _ _) (fun g o h => by cases h)
      refine ⟨_, hrel, ?_⟩
      simp only [Rep]
      exact ⟨nx.rf hrf, Nat.lt_succ_self _, fun _ => .inl ⟨h1, by simp [vx], h2⟩⟩
    · obtain ⟨hrel, nx⟩ := hr.right (t0 := t0) (p := some (g, xs.length * csz c)) (Chg.refl _ _) (fun g' o' h => by
        simp only [Option.some.injEq, Prod.mk.injEq] at h
        obtain ⟨rfl, rfl⟩ := h
        exact ⟨hr.own_t e2 e3, .inr ⟨tt, _, e1, e2, e3, Nat.le_refl _⟩⟩)
      refine ⟨_, hrel, ?_⟩
      simp only [Rep]
      exact ⟨nx.rf hrf, Nat.lt_succ_self _, fun _ => .inr ⟨g, cap, cur, e4, by simp [vx], e5, e6, e7, e8⟩⟩
  · obtain ⟨b2, o2, rfl⟩ : ∃ b2 o2, ad = some ⟨b2, o2, none⟩ := by
      obtain ⟨a', cap', e1, h⟩ := slice_form hry.1
      simp only [Value.slice.injEq] at e1
      rcases h with h | ⟨b, o', h, _⟩
      · exact absurd h hy0
      · exact ⟨b, o', by rw [e1.1, h]⟩
    have hucell := hucell b2 o2 rfl hy0
    have hyl : 0 < ys.length := List.length_pos_iff.2 hy0
    have hul : us.length = ys.length * i0.size := by rw [hus.1, hsize]
    have hnews : ∀ (j : Nat) u, us[j]? = some u → w.cell? ((⟨b2, o2, none⟩ : Addr).add j) = some u := fun j u hj => by rw [Sx.add_mk]; exact hucell j u hj
    have hone : ∀ u, u ∈ us → u.oneCell' = true := fun u hu => Sx.one_oneCell (hus.one u hu)
    rcases hrow with ⟨rfl, rfl⟩ | ⟨tt, g, cap, cur, e1, e2, e3, rfl, e5, e6, e7, e8⟩
    · have hrun := run_append_nil (P := cx.P) w t o.type (cx.el c) i0 z hu hi0 hz ⟨b2, o2, none⟩ ys.length cap2 us hul hnews hyl (by simp at h63; omega) (by rw [hby]; simp at hbound; omega)
      have hrow0 : RowEl (vx cx m s w) c ([] ++ ys) us := by simpa using hus
      have hnr := new_row (t0 := t0) hr (cur := us.toArray ++ Builtin.zeroCells z.cells (grownCap w ys.length 0 (cx.el c) - ys.length)) (cap := grownCap w ys.length 0 (cx.el c)) hrow0 ((Chg.drew _ _).trans (Chg.alloc noFp w.drew (.cells (us.toArray ++ Builtin.zeroCells z.cells (grownCap w ys.length 0 (cx.el c) - ys.length)) (cx.el c)))) (by simp) (alloc_heap w.drew _) (by
        have hge := grown_ge w ys.length 0 (cx.el c)
        simp only [Array.size_append, List.size_toArray, hus.1, Builtin.zeroCells, Array.size_map, Array.size_range, hzs]
        rw [← Nat.add_mul]
        congr 1
        omega) (by simpa using grown_ge w ys.length 0 (cx.el c)) (grown_max _ _ _ _ (by simp at h63; omega)) (fun j u hj => by
        have hlt : j < us.length := (List.getElem?_eq_some_iff.1 hj).1
        rw [Array.getElem?_append_left (by simpa using hlt)]
        simpa using hj)
      rw [← hfs] at hnr
      refine .inl ⟨_, _, hexec _ _ hrun, _, hnr.1, ?_⟩
      rw [hid]
      simpa using hnr.2
    · obtain ⟨a1, cap1, vs, ev1, hvs, hvcell⟩ := slice_row hrf
      have hvcell : ∀ (j : Nat) u, vs[j]? = some u → w.cell? ⟨g, j, none⟩ = some u := by
        by_cases hx0 : xs = []
        · subst hx0
          intro j u hj
          have : vs = [] := List.eq_nil_of_length_eq_zero (by rw [hvs.1]; simp)
          subst this
          simp at hj
        · simp only [Value.slice.injEq] at ev1
          intro j u hj
          have := hvcell g 0 ev1.1.symm hx0 j u hj
          rwa [Nat.zero_add] at this
      have hvl : vs.length = xs.length * i0.size := by rw [hvs.1, hsize]
      by_cases hroom : xs.length + ys.length ≤ cap
      · have hfit : xs.length * i0.size + us.length ≤ cur.size := by rw [hul, e6, ← Nat.add_mul, hsize]; exact Nat.mul_le_mul_right _ hroom
        have hrun := run_append_room (P := cx.P) w t o.type (cx.el c) i0 hu hi0 g xs.length cap cur e5 ⟨b2, o2, none⟩ ys.length cap2 us hul hnews hone hroom hfit
        rw [hsize] at hrun hfit
        have hnew : ∀ (j : Nat) u, (vs ++ us)[j]? = some u → (cur.toList.take (xs.length * csz c) ++ us ++ cur.toList.drop (xs.length * csz c + us.length)).toArray[j]? = some u := by
          intro j u hj
          have hvcur : ∀ (j : Nat) u, vs[j]? = some u → cur[j]? = some u := fun j u hj => by
            have := hvcell j u hj
            simp only [World.cell?, e5] at this
            exact this
          have hlt : j < (vs ++ us).length := (List.getElem?_eq_some_iff.1 hj).1
          have htl : (cur.toList.take (xs.length * csz c)).length = xs.length * csz c := by simp; omega
          simp only [List.getElem?_toArray]
          rw [List.getElem?_append_left (by simp only [List.length_append, htl]; simp only [List.length_append, hvs.1] at hlt; exact hlt)]
          rw [List.getElem?_append] at hj ⊢
          rw [htl]
          rw [hvs.1] at hj
          split
          · rename_i hlt2
            rw [if_pos hlt2] at hj
            rw [List.getElem?_take, if_pos hlt2]
            simpa using hvcur j u hj
          · rename_i hlt2
            rw [if_neg hlt2] at hj
            exact hj
        have hcur' : ∀ j, j < xs.length * csz c → (cur.toList.take (xs.length * csz c) ++ us ++ cur.toList.drop (xs.length * csz c + us.length)).toArray[j]? = cur[j]? := by
          intro j hj
          have htl : (cur.toList.take (xs.length * csz c)).length = xs.length * csz c := by simp; omega
          simp only [List.getElem?_toArray]
          rw [List.append_assoc, List.getElem?_append_left (by rw [htl]; exact hj), List.getElem?_take, if_pos hj]
          simp
        have hhg : (w.setRow g (cur.toList.take (xs.length * csz c) ++ us ++ cur.toList.drop (xs.length * csz c + us.length)).toArray).heap[g]? = some (.cells (cur.toList.take (xs.length * csz c) ++ us ++ cur.toList.drop (xs.length * csz c + us.length)).toArray (cx.el c) (0, 0)) := setRow_heap w g cur _ _ _ e5
        have hch : Chg (fun b i => ∃ t o, t0 = some t ∧ s.al t ∧ m.tk t = some (b, o) ∧ o ≤ i) w (w.setRow g (cur.toList.take (xs.length * csz c) ++ us ++ cur.toList.drop (xs.length * csz c + us.length)).toArray) := by
          refine ⟨rfl, rfl, rfl, by simp, fun k _ hn => setRow_other w g k _ (fun e => hn (xs.length * csz c) ⟨tt, _, e1, e2, by rw [e]; exact e3, Nat.le_refl _⟩), fun b i v hcv hn => ?_⟩
          by_cases hb : b = g
          · subst hb
            have hi : i < xs.length * csz c := by
              rcases Nat.lt_or_ge i (xs.length * csz c) with h | h
              · exact h
              · exact absurd ⟨tt, _, e1, e2, e3, h⟩ hn
            simp only [World.cell?, hhg, hcur' i hi]
            simpa only [World.cell?, e5] using hcv
          · rw [World.cell?_of_block (a := ⟨b, i, none⟩) (setRow_other w g b _ hb)]
            exact hcv
        obtain ⟨hrel, nx⟩ := hr.right (t0 := t0) (p := some (g, (xs ++ ys).length * csz c)) hch (fun g' o' h => by
          simp only [Option.some.injEq, Prod.mk.injEq] at h
          obtain ⟨rfl, rfl⟩ := h
          refine ⟨by simpa using hr.own_t e2 e3, .inr ⟨tt, _, e1, e2, e3, ?_⟩⟩
          simp only [List.length_append]
          exact Nat.mul_le_mul_right _ (by omega))
        rw [← hfs] at hrel
        refine .inl ⟨_, _, hexec _ _ hrun, _, hrel, ?_⟩
        rw [hid]
        simp only [Rep]
        rw [hfs]
        have hxyl : (xs ++ ys).length = xs.length + ys.length := by simp
        rw [← hxyl]
        refine ⟨row_rf ((hvs.append hus).later nx) ⟨by rw [hxyl]; exact hroom, e8⟩ (fun j u hj => ?_) (fun i hi => ?_), Nat.lt_succ_self _, fun _ => .inr ⟨g, cap, _, rfl, by simp [vx], hhg, ?_, by rw [hxyl]; exact hroom, e8⟩⟩
        · show World.cell? _ _ = _
          simp only [vx, World.cell?, hhg]
          exact hnew j u hj
        · rintro (hM | hf)
          · exact hr.disj hM (.inr ⟨tt, _, e2, e3, Nat.le_refl _⟩ : fpOf m s g (xs.length * csz c))
          · rcases hf with ⟨q, hq, he⟩ | ⟨t', o', h1, h2, h3⟩
            · exact hr.injbt q tt g _ hq e2 e3 he
            · by_cases ht : t' = s.nt
              · subst ht
                simp at h2
                rw [hxyl] at hi
                omega
              · simp only [if_neg ht] at h2
                rcases h1 with h1 | h1
                · exact h1.2 (by rw [e1, hr.injt tt t' g _ _ e2 h1.1 e3 h2])
                · exact absurd h1 ht
        · have htl : (cur.toList.take (xs.length * csz c)).length = xs.length * csz c := by simp; omega
          simp only [List.size_toArray, List.length_append, htl, List.length_drop, Array.length_toList]
          omega
      · have hrun := run_append_grow (P := cx.P) w t o.type (cx.el c) i0 z hu hi0 hz ⟨g, 0, none⟩ xs.length cap vs hvl (fun j u hj => by rw [Sx.add_mk, Nat.zero_add]; exact hvcell j u hj) ⟨b2, o2, none⟩ ys.length cap2 us hul hnews (by omega) (by omega) (growslice_fits (by omega) (by rw [hby]; exact hbound))
        have hnr := new_row (t0 := t0) hr (cur := vs.toArray ++ us.toArray ++ Builtin.zeroCells z.cells (grownCap w (xs.length + ys.length) cap (cx.el c) - (xs.length + ys.length))) (cap := grownCap w (xs.length + ys.length) cap (cx.el c)) (hvs.append hus) ((Chg.drew _ _).trans (Chg.alloc noFp w.drew (.cells (vs.toArray ++ us.toArray ++ Builtin.zeroCells z.cells (grownCap w (xs.length + ys.length) cap (cx.el c) - (xs.length + ys.length))) (cx.el c)))) (by simp) (alloc_heap w.drew _) (by
          have hge := grown_ge w (xs.length + ys.length) cap (cx.el c)
          simp only [Array.size_append, List.size_toArray, hus.1, hvs.1, Builtin.zeroCells, Array.size_map, Array.size_range, hzs]
          rw [← Nat.add_mul, ← Nat.add_mul]
          congr 1
          omega) (by simpa using grown_ge w (xs.length + ys.length) cap (cx.el c)) (grown_max _ _ _ _ h63) (fun j u hj => by
          have hlt : j < (vs ++ us).length := (List.getElem?_eq_some_iff.1 hj).1
          rw [Array.getElem?_append_left (by simpa using hlt)]
          simpa using hj)
        rw [← hfs] at hnr
        refine .inl ⟨_, _, hexec _ _ hrun, _, hnr.1, ?_⟩
        rw [hid]
        simpa using hnr.2
end
end Go.Ax
