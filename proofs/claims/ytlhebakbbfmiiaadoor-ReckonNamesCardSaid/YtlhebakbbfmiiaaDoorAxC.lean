/- Ax, part C: memory: which cells may change; how plain data lie in memory so that no later write undoes it. -/
import Derived.Test.YtlhebakbbfmiiaaDoorAxB
import Derived.WalkSpells
import Derived.WalkLawsBesides
import Derived.MapKept
namespace Go.Ax
open Go.RowKit

/-- the cells that may be written -/
abbrev Fp := Nat → Nat → Prop
structure Chg (S : Fp) (w w' : World) : Prop where
  os : w'.os = w.os
  tape : w'.tape = w.tape
  output : w'.output = w.output
  size : w.heap.size ≤ w'.heap.size
  block : ∀ k, k < w.heap.size → (∀ i, ¬ S k i) → w'.heap[k]? = w.heap[k]?
  cell : ∀ b i v, w.cell? ⟨b, i, none⟩ = some v → ¬ S b i → w'.cell? ⟨b, i, none⟩ = some v
theorem cell_lt {w : World} {b i : Nat} {v : Value} (h : w.cell? ⟨b, i, none⟩ = some v) : b < w.heap.size := World.block_lt_of_cell? w ⟨b, i, none⟩ h
theorem Chg.refl (S : Fp) (w : World) : Chg S w w := ⟨rfl, rfl, rfl, Nat.le_refl _, fun _ _ _ => rfl, fun _ _ _ h _ => h⟩
theorem Chg.later {S T : Fp} {a b c : World} (h : Chg S a b) (hT : ∀ k i, T k i → S k i ∨ a.heap.size ≤ k) (k : Chg T b c) : Chg S a c := by
  refine ⟨k.os.trans h.os, k.tape.trans h.tape, k.output.trans h.output, Nat.le_trans h.size k.size, fun q hq hn => ?_, fun q i v hv hn => ?_⟩
  · rw [k.block q (Nat.lt_of_lt_of_le hq h.size) (fun i hi => ?_)]
    · exact h.block q hq hn
    · rcases hT q i hi with hs | hs
      · exact hn i hs
      · omega
  · refine k.cell q i v (h.cell q i v hv hn) fun hi => ?_
    rcases hT q i hi with hs | hs
    · exact hn hs
    · have := cell_lt hv; omega
theorem Chg.trans {S : Fp} {a b c : World} (h : Chg S a b) (k : Chg S b c) : Chg S a c := h.later (fun _ _ h => .inl h) k
theorem Chg.mono {S T : Fp} {a b : World} (h : Chg S a b) (hs : ∀ k i, S k i → T k i) : Chg T a b :=
  ⟨h.os, h.tape, h.output, h.size, fun k hk hn => h.block k hk (fun i hm => hn i (hs k i hm)), fun b i v hv hn => h.cell b i v hv (fun hm => hn (hs b i hm))⟩
def noFp : Fp := fun _ _ => False
/-- whole blocks stay -/
theorem Chg.of_blocks {S : Fp} {w w' : World} (hos : w'.os = w.os) (ht : w'.tape = w.tape) (ho : w'.output = w.output) (hs : w.heap.size ≤ w'.heap.size) (hb : ∀ k, k < w.heap.size → w'.heap[k]? = w.heap[k]?) : Chg S w w' :=
  ⟨hos, ht, ho, hs, fun k hk _ => hb k hk, fun b i v hv _ => by rw [World.cell?_of_block (a := ⟨b, i, none⟩) (hb b (cell_lt hv))]; exact hv⟩
theorem Chg.drew (S : Fp) (w : World) : Chg S w w.drew := .of_blocks rfl rfl rfl (Nat.le_refl _) fun _ _ => rfl
theorem Chg.drawn (S : Fp) (w : World) (n : Nat) : Chg S w { w with drawn := n } := .of_blocks rfl rfl rfl (Nat.le_refl _) fun _ _ => rfl
theorem Chg.alloc (S : Fp) (w : World) (o : Obj) : Chg S w (w.alloc o) := .of_blocks rfl rfl rfl (by simp) fun k hk => Below.heap_alloc _ _ _ hk
theorem Chg.below {w w' : World} (h : Chg noFp w w') : Below w.heap.size w w' :=
  ⟨h.os, h.tape, h.output, h.size, fun k hk => h.block k hk (fun _ h => h)⟩
theorem Chg.of_below {S : Fp} {w w' : World} (h : Below w.heap.size w w') : Chg S w w' := .of_blocks h.os h.tape h.output h.size h.block

/-! ## frozen data -/
theorem enc_len (c : Ck) (x : El c) : (enc c x).length = csz c := by cases c <;> rfl
theorem csz_pos (c : Ck) : 0 < csz c := by cases c <;> simp [csz]
/-- In this world v is the datum d. -/
inductive FV (w : World) : D → Value → Prop
  | int (k : IntKind) (n : Int) : u8ok k n = true → FV w (.int k n) (.int k n)
  | bool (b : Bool) : FV w (.bool b) (.bool b)
  | str (l : Str) : l.length ≤ maxLen → FV w (.str l) (.string ⟨l.toArray⟩)
  | nil (c : Ck) (t : Tk) (a : Option Addr) (cap : Nat) : FV w (.sl c [] t) (.slice a 0 cap)
  | sl (c : Ck) (xs : List (El c)) (t : Tk) (b o cap : Nat) (u : Nat → Value) (hle : xs.length ≤ cap) (hm : cap ≤ maxLen)
      (hc : ∀ i x j d, xs[i]? = some x → (enc c x)[j]? = some d → w.cell? ⟨b, o + (i * csz c + j), none⟩ = some (u (i * csz c + j)))
      (h : ∀ i x j d, xs[i]? = some x → (enc c x)[j]? = some d → FV w d (u (i * csz c + j))) : FV w (.sl c xs t) (.slice (some ⟨b, o, none⟩) xs.length cap)
/-- .. and in all later ones -/
def RF (S : Fp) (w : World) (d : D) (v : Value) : Prop := ∀ w', Chg S w w' → FV w' d v
theorem RF.here {S : Fp} {w : World} {d : D} {v : Value} (h : RF S w d v) : FV w d v := h w (Chg.refl S w)
theorem RF.later {S T : Fp} {w w' : World} {d : D} {v : Value} (h : RF S w d v) (hc : Chg S w w') (hT : ∀ k i, T k i → S k i ∨ w.heap.size ≤ k) : RF T w' d v := fun w'' hc' => h w'' (hc.later hT hc')
theorem FV.tok {w : World} {c : Ck} {xs : List (El c)} {t : Tk} {v : Value} (h : FV w (.sl c xs t) v) (t' : Tk) : FV w (.sl c xs t') v := by
  cases h with
  | nil c t a cap => exact .nil c t' a cap
  | sl c xs t b o cap u hle hm hc h => exact .sl c xs t' b o cap u hle hm hc h
/-- an element lies at a place -/
def At (w : World) (c : Ck) (x : El c) (b o : Nat) : Prop := ∀ j d, (enc c x)[j]? = some d → ∃ u, w.cell? ⟨b, o + j, none⟩ = some u ∧ FV w d u
/-- what a slice is -/
theorem FV.slice {w : World} {c : Ck} {xs : List (El c)} {t : Tk} {v : Value} (h : FV w (.sl c xs t) v) :
    ∃ a cap, v = .slice a xs.length cap ∧ (xs = [] ∨ ∃ b o, a = some ⟨b, o, none⟩ ∧ (xs.length ≤ cap ∧ cap ≤ maxLen) ∧ ∀ i x, xs[i]? = some x → At w c x b (o + i * csz c)) := by
  cases h with
  | nil c t a cap => exact ⟨a, cap, rfl, .inl rfl⟩
  | sl c xs t b o cap u hle hm hc h =>
    refine ⟨_, cap, rfl, .inr ⟨b, o, rfl, ⟨hle, hm⟩, fun i x hx j d hd => ⟨u (i * csz c + j), ?_, h i x j d hx hd⟩⟩⟩
    rw [Nat.add_assoc]
    exact hc i x j d hx hd
theorem FV.mkSlice {w : World} {c : Ck} {xs : List (El c)} {t : Tk} {b o cap : Nat} (hle : xs.length ≤ cap ∧ cap ≤ maxLen) (h : ∀ i x, xs[i]? = some x → At w c x b (o + i * csz c)) : FV w (.sl c xs t) (.slice (some ⟨b, o, none⟩) xs.length cap) := by
  have key : ∀ i x j d, xs[i]? = some x → (enc c x)[j]? = some d → ∃ u, w.cell? ⟨b, o + (i * csz c + j), none⟩ = some u ∧ FV w d u := fun i x j d hx hd => by
    have := h i x hx j d hd
    rwa [Nat.add_assoc] at this
  refine .sl c xs t b o cap (fun k => (w.cell? ⟨b, o + k, none⟩).getD default) hle.1 hle.2 (fun i x j d hx hd => ?_) (fun i x j d hx hd => ?_)
  · obtain ⟨u, hu, _⟩ := key i x j d hx hd
    simp [hu]
  · obtain ⟨u, hu, hf⟩ := key i x j d hx hd
    simpa [hu] using hf
theorem FV.mkSlice' {w : World} {c : Ck} {xs : List (El c)} {t : Tk} {v : Value} {a : Option Addr} {cap : Nat} (hv : v = .slice a xs.length cap) (h : xs = [] ∨ ∃ b o, a = some ⟨b, o, none⟩ ∧ (xs.length ≤ cap ∧ cap ≤ maxLen) ∧ ∀ i x, xs[i]? = some x → At w c x b (o + i * csz c)) : FV w (.sl c xs t) v := by
  rcases h with rfl | ⟨b, o, rfl, hle, h⟩
  · subst hv; exact .nil c t a cap
  · subst hv; exact .mkSlice hle h
theorem FV.len {w : World} {c : Ck} {xs : List (El c)} {t : Tk} {v : Value} (h : FV w (.sl c xs t) v) : xs.length ≤ maxLen := by
  obtain ⟨_, _, _, rfl | ⟨_, _, _, h, _⟩⟩ := h.slice
  · simp [maxLen]
  · omega
/-- a map's entries -/
def MapIs (l : List (Int × Str)) (es : List MapEntry) : Prop := ∀ n, (mget l n).length ≤ maxLen ∧ ((Instr.findNow (.int .i64) (.int .i64 n) es 0 = some none ∧ mget l n = []) ∨ ∃ i, Instr.findNow (.int .i64) (.int .i64 n) es 0 = some (some (i, .string ⟨(mget l n).toArray⟩)))

/-! ## the machine's values -/
/-- where own blocks and the rows of rights lie -/
structure Mp where
  bl : Nat → Nat
  tk : Nat → Option (Nat × Nat)
structure Vx where
  m : Mp
  al : Nat → Prop
  S : Fp
  w : World
  nb : Nat
  nt : Nat
  el : Ck → TypeId
/-- the row behind a right to append -/
def TokR (x : Vx) (t : Nat) (c : Ck) (xs : List (El c)) (v : Value) : Prop :=
  (v = .slice none 0 0 ∧ x.m.tk t = none ∧ xs = []) ∨ ∃ g cap cur, v = .slice (some ⟨g, 0, none⟩) xs.length cap ∧ x.m.tk t = some (g, xs.length * csz c) ∧ x.w.heap[g]? = some (.cells cur (x.el c) (0, 0)) ∧ cur.size = cap * csz c ∧ xs.length ≤ cap ∧ cap ≤ maxLen
def TkR (x : Vx) (c : Ck) (xs : List (El c)) (v : Value) : Tk → Prop
  | .no => True
  | .nil => v = .slice none 0 0 ∧ xs = []
  | .id t => t < x.nt ∧ (x.al t → TokR x t c xs v)
mutual
def Rep (x : Vx) : D → Value → Prop
  | .bool b, v => v = .bool b
  | .int k n, v => v = .int k n ∧ u8ok k n = true
  | .str l, v => v = .string ⟨l.toArray⟩ ∧ l.length ≤ maxLen
  | .sl c xs t, v => RF x.S x.w (.sl c xs .no) v ∧ TkR x c xs v t
  | .sv c y, v => agg? c = true ∧ ∃ vs : List Value, v = .agg vs.toArray ∧ vs.length = csz c ∧ ∀ (j : Nat) d, (enc c y)[j]? = some d → ∃ u, vs[j]? = some u ∧ RF x.S x.w d u
  | .ep c y off, v => ∃ b o, v = .pointer (some ⟨b, o + off, none⟩) ∧ ∀ w', Chg x.S x.w w' → At w' c y b o
  | .ptr b off, v => b < x.nb ∧ v = .pointer (some ⟨x.m.bl b, off, none⟩)
  | .nilp, v => v = .pointer none
  | .gp g, v => v = .pointer (some ⟨g, 0, none⟩)
  | .gm l, v => ∃ r es clk, v = .map (some r) ∧ (∀ w', Chg x.S x.w w' → w'.heap[r]? = some (.map es clk)) ∧ MapIs l es.toList
  | .osl _ _ _, _ => False
  | .rp b c n i, v => b < x.nb ∧ v = .pointer (some ⟨x.m.bl b, i.toNat * csz c, none⟩) ∧ 0 ≤ i ∧ i < (n : Int)
  | .rw c n xs, v => xs.length = n ∧ ∃ vs : List Value, v = .agg vs.toArray ∧ vs.length = xs.length * csz c ∧ ∀ i y j d, xs[i]? = some y → (enc c y)[j]? = some d → ∃ u, vs[i * csz c + j]? = some u ∧ RF x.S x.w d u
  | .fn f caps, v => ∃ vs : List Value, v = .func (.func f) #[] vs.toArray ∧ Reps x caps vs
  | .nilfn, v => v = .nilFunc
  | .agg ds, v => ds.all lf = true ∧ ∃ vs : List Value, v = .agg vs.toArray ∧ Reps x ds vs
  | .tup ds, v => ∃ vs : List Value, v = .tuple vs.toArray ∧ Reps x ds vs
  | .undef, v => v = .tuple #[]
def Reps (x : Vx) : List D → List Value → Prop
  | [], vs => vs = []
  | d :: ds, vs => ∃ u us, vs = u :: us ∧ Rep x d u ∧ Reps x ds us
end
/-- x' comes behind x -/
structure Nx (x x' : Vx) : Prop where
  chg : Chg x.S x.w x'.w
  fp : ∀ b i, x'.S b i → x.S b i ∨ x.w.heap.size ≤ b
  el : x'.el = x.el
  bl : ∀ b, b < x.nb → x'.m.bl b = x.m.bl b
  nb : x.nb ≤ x'.nb
  nt : x.nt ≤ x'.nt
  tk : ∀ t, t < x.nt → x'.al t → x.al t ∧ x'.m.tk t = x.m.tk t ∧ ∀ g o, x.m.tk t = some (g, o) → x'.w.heap[g]? = x.w.heap[g]?
theorem Nx.rf {x x' : Vx} (h : Nx x x') {d : D} {v : Value} (hr : RF x.S x.w d v) : RF x'.S x'.w d v := hr.later h.chg h.fp
theorem TkR.later {x x' : Vx} (h : Nx x x') {c : Ck} {xs : List (El c)} {v : Value} {t : Tk} (hr : TkR x c xs v t) : TkR x' c xs v t := by
  cases t with
  | no => trivial
  | nil => exact hr
  | id t =>
    obtain ⟨hlt, hr⟩ := hr
    refine ⟨Nat.lt_of_lt_of_le hlt h.nt, fun ha => ?_⟩
    obtain ⟨h1, h2, h3⟩ := h.tk t hlt ha
    rcases hr h1 with ⟨a, b, c⟩ | ⟨g, cap, cur, a, b, c, d⟩
    · exact .inl ⟨a, h2.trans b, c⟩
    · refine .inr ⟨g, cap, cur, a, h2.trans b, ?_, d⟩
      rw [h3 g _ b, h.el]
      exact c
mutual
theorem Rep.later {x x' : Vx} (h : Nx x x') : ∀ (d : D) (v : Value), Rep x d v → Rep x' d v
  | .bool _, _, hr => by simpa [Rep] using hr
  | .int _ _, _, hr => by simpa [Rep] using hr
  | .str _, _, hr => by simpa [Rep] using hr
  | .sl c xs t, v, hr => by
    simp only [Rep] at hr ⊢
    exact ⟨h.rf hr.1, hr.2.later h⟩
  | .sv c y, v, hr => by
    simp only [Rep] at hr ⊢
    obtain ⟨ha, vs, hv, hl, hr⟩ := hr
    exact ⟨ha, vs, hv, hl, fun j d hd => by obtain ⟨u, hu, hf⟩ := hr j d hd; exact ⟨u, hu, h.rf hf⟩⟩
  | .ep c y off, v, hr => by
    simp only [Rep] at hr ⊢
    obtain ⟨b, o, hv, hr⟩ := hr
    exact ⟨b, o, hv, fun w' hw => hr w' (h.chg.later h.fp hw)⟩
  | .ptr b off, v, hr => by
    simp only [Rep] at hr ⊢
    exact ⟨Nat.lt_of_lt_of_le hr.1 h.nb, by rw [h.bl b hr.1]; exact hr.2⟩
  | .nilp, _, hr => by simpa [Rep] using hr
  | .gp _, _, hr => by simpa [Rep] using hr
  | .gm l, v, hr => by
    simp only [Rep] at hr ⊢
    obtain ⟨r, es, clk, hv, h1, h2⟩ := hr
    exact ⟨r, es, clk, hv, fun w' hw => h1 w' (h.chg.later h.fp hw), h2⟩
  | .osl _ _ _, _, hr => by simp [Rep] at hr
  | .rp b c n i, v, hr => by
    simp only [Rep] at hr ⊢
    exact ⟨Nat.lt_of_lt_of_le hr.1 h.nb, by rw [h.bl b hr.1]; exact hr.2⟩
  | .rw c n xs, v, hr => by
    simp only [Rep] at hr ⊢
    obtain ⟨hn, vs, hv, hl, hr⟩ := hr
    exact ⟨hn, vs, hv, hl, fun i y j d hy hd => by obtain ⟨u, hu, hf⟩ := hr i y j d hy hd; exact ⟨u, hu, h.rf hf⟩⟩
  | .fn f caps, v, hr => by
    simp only [Rep] at hr ⊢
    obtain ⟨vs, hv, hr⟩ := hr
    exact ⟨vs, hv, Reps.later h caps vs hr⟩
  | .nilfn, _, hr => by simpa [Rep] using hr
  | .agg ds, v, hr => by
    simp only [Rep] at hr ⊢
    obtain ⟨hl, vs, hv, hr⟩ := hr
    exact ⟨hl, vs, hv, Reps.later h ds vs hr⟩
  | .tup ds, v, hr => by
    simp only [Rep] at hr ⊢
    obtain ⟨vs, hv, hr⟩ := hr
    exact ⟨vs, hv, Reps.later h ds vs hr⟩
  | .undef, _, hr => by simpa [Rep] using hr
theorem Reps.later {x x' : Vx} (h : Nx x x') : ∀ (ds : List D) (vs : List Value), Reps x ds vs → Reps x' ds vs
  | [], _, hr => by simpa [Reps] using hr
  | d :: ds, vs, hr => by
    simp only [Reps] at hr ⊢
    obtain ⟨u, us, hv, h1, h2⟩ := hr
    exact ⟨u, us, hv, Rep.later h d u h1, Reps.later h ds us h2⟩
end
theorem Reps.len {x : Vx} : ∀ {ds : List D} {vs : List Value}, Reps x ds vs → vs.length = ds.length
  | [], _, hr => by simp only [Reps] at hr; simp [hr]
  | d :: ds, vs, hr => by
    simp only [Reps] at hr
    obtain ⟨u, us, rfl, _, h2⟩ := hr
    simp [Reps.len h2]
theorem Reps.get {x : Vx} : ∀ {ds : List D} {vs : List Value}, Reps x ds vs → ∀ {i : Nat} {d : D}, ds[i]? = some d → ∃ v, vs[i]? = some v ∧ Rep x d v
  | [], _, _, i, d, hd => by simp at hd
  | d0 :: ds, vs, hr, i, d, hd => by
    simp only [Reps] at hr
    obtain ⟨u, us, rfl, h1, h2⟩ := hr
    cases i with
    | zero => simp at hd; subst hd; exact ⟨u, by simp, h1⟩
    | succ i => simp at hd; obtain ⟨v, hv, hr⟩ := Reps.get h2 hd; exact ⟨v, by simpa using hv, hr⟩
theorem Reps.mk {x : Vx} : ∀ {ds : List D} {vs : List Value}, vs.length = ds.length → (∀ (i : Nat) d v, ds[i]? = some d → vs[i]? = some v → Rep x d v) → Reps x ds vs
  | [], vs, hl, _ => by simp only [Reps]; exact List.eq_nil_of_length_eq_zero hl
  | d :: ds, [], hl, _ => by simp at hl
  | d :: ds, u :: us, hl, h => by
    simp only [Reps]
    exact ⟨u, us, rfl, h 0 d u (by simp) (by simp), Reps.mk (by simpa using hl) fun i d v hd hv => h (i + 1) d v (by simpa using hd) (by simpa using hv)⟩
theorem Reps.append {x : Vx} {ds es : List D} {vs us : List Value} (h : Reps x ds vs) (k : Reps x es us) : Reps x (ds ++ es) (vs ++ us) := by
  induction ds generalizing vs with
  | nil => simp only [Reps] at h; subst h; simpa using k
  | cons d ds ih =>
    simp only [Reps] at h
    obtain ⟨u, r, rfl, h1, h2⟩ := h
    simp only [List.cons_append, Reps]
    exact ⟨u, r ++ us, rfl, h1, ih h2⟩
end Go.Ax
