/- Sx, part A: a small symbolic execution logic over Code.wp: which slots are known (Env), which blocks are the call's own (Loc), what is known of all other memory (a fact that no store into own blocks, no new block and no draw can undo). Nothing here speaks of a program. -/
import Derived.WalkKit
import Derived.WalkSpells
import Derived.WalkLawsBesides
namespace Go.Sx
open Go.RowKit

/-! ## slots -/
abbrev Env := List (Nat × Value)
def Env.get : Env → Nat → Option Value
  | [], _ => none
  | (k, v) :: e, n => match Nat.beq k n with
    | true => some v
    | false => Env.get e n
def Env.ev (e : Env) : Operand → Option Value
  | .tmp t => Env.get e t
  | .const v => some v
  | .global g => some (.pointer (some ⟨g, 0, none⟩))
  | .func f => some (.func (.func f) #[] #[])
def Env.evs (e : Env) : List Operand → Option (List Value)
  | [] => some []
  | x :: xs => match Env.ev e x with
    | none => none
    | some v => match Env.evs e xs with
      | none => none
      | some vs => some (v :: vs)
structure EnvOk (n : Nat) (e : Env) (a : Act) : Prop where
  defers : a.defers = []
  size : a.tmps.size = n
  get : ∀ k v, Env.get e k = some v → a.tmps[k]? = some v
def Env.Sub (e : Env) : Env → Prop
  | [] => True
  | (k, v) :: r => Env.get e k = some v ∧ Env.Sub e r
theorem Env.get_of_sub {e : Env} : ∀ {e2 : Env}, Env.Sub e e2 → ∀ k v, Env.get e2 k = some v → Env.get e k = some v
  | [], _, k, v, h => by simp [Env.get] at h
  | (k0, v0) :: r, hs, k, v, h => by
    simp only [Env.get] at h
    cases hb : Nat.beq k0 k with
    | true =>
      rw [hb] at h
      have hk : k0 = k := Nat.eq_of_beq_eq_true hb
      subst hk
      simp only [Option.some.injEq] at h
      subst h
      exact hs.1
    | false =>
      rw [hb] at h
      exact Env.get_of_sub hs.2 k v h
theorem EnvOk.sub {n : Nat} {e e2 : Env} {a : Act} (h : EnvOk n e a) (hs : Env.Sub e e2) : EnvOk n e2 a :=
  ⟨h.defers, h.size, fun k v hk => h.get k v (Env.get_of_sub hs k v hk)⟩
theorem EnvOk.ev {n : Nat} {e : Env} {a : Act} (h : EnvOk n e a) {x : Operand} {v : Value} (hx : Env.ev e x = some v) : a.eval x = v := by
  cases x with
  | tmp t =>
    have := h.get t v hx
    simp [Act.eval, Array.getD_eq_getD_getElem?, this]
  | const u => simpa [Env.ev, Act.eval] using hx
  | global g => simpa [Env.ev, Act.eval] using hx
  | func f => simpa [Env.ev, Act.eval] using hx
theorem EnvOk.evs {n : Nat} {e : Env} {a : Act} (h : EnvOk n e a) : ∀ {xs : List Operand} {vs : List Value}, Env.evs e xs = some vs → xs.map a.eval = vs
  | [], vs, hx => by simp [Env.evs] at hx; simp [hx]
  | x :: xs, vs, hx => by
    simp only [Env.evs] at hx
    cases hv : Env.ev e x with
    | none => simp [hv] at hx
    | some v =>
      rw [hv] at hx
      cases hr : Env.evs e xs with
      | none => simp [hr] at hx
      | some r =>
        simp [hr] at hx
        subst hx
        simp [h.ev hv, EnvOk.evs h hr]
theorem EnvOk.put {n : Nat} {e : Env} {a : Act} (h : EnvOk n e a) {d : Nat} (hd : Nat.blt d n = true) (v : Value) : EnvOk n ((d, v) :: e) (a.put (some d) v) := by
  have hdn : d < n := by simpa [Nat.blt_eq] using hd
  refine ⟨by simpa [Act.put] using h.defers, by simpa [Act.put] using h.size, fun k u hk => ?_⟩
  simp only [Env.get] at hk
  cases hb : Nat.beq d k with
  | true =>
    rw [hb] at hk
    have hk' : d = k := Nat.eq_of_beq_eq_true hb
    subst hk'
    simp only [Option.some.injEq] at hk
    subst hk
    have : d < a.tmps.size := by rw [h.size]; exact hdn
    simp [Act.put, this]
  | false =>
    rw [hb] at hk
    have hne : d ≠ k := Nat.ne_of_beq_eq_false hb
    have := h.get k u hk
    simp only [Act.put]
    rw [Array.getElem?_setIfInBounds_ne hne]
    exact this
theorem EnvOk.more {n : Nat} {e : Env} {a : Act} (h : EnvOk n e a) {d : Nat} {v : Value} (hd : a.tmps[d]? = some v) : EnvOk n ((d, v) :: e) a := by
  refine ⟨h.defers, h.size, fun k u hk => ?_⟩
  simp only [Env.get] at hk
  cases hb : Nat.beq d k with
  | true =>
    rw [hb] at hk
    have hk' : d = k := Nat.eq_of_beq_eq_true hb
    subst hk'
    simp only [Option.some.injEq] at hk
    subst hk
    exact hd
  | false =>
    rw [hb] at hk
    exact h.get k u hk

/-! ## memory -/
/-- From w to w' nothing has changed but blocks of S, new blocks, and the count of draws. -/
structure Chg (S : List Nat) (w w' : World) : Prop where
  os : w'.os = w.os
  tape : w'.tape = w.tape
  output : w'.output = w.output
  size : w.heap.size ≤ w'.heap.size
  block : ∀ k, k < w.heap.size → k ∉ S → w'.heap[k]? = w.heap[k]?
theorem Chg.refl (S : List Nat) (w : World) : Chg S w w := ⟨rfl, rfl, rfl, Nat.le_refl _, fun _ _ _ => rfl⟩
theorem Chg.trans {S : List Nat} {a b c : World} (h : Chg S a b) (k : Chg S b c) : Chg S a c :=
  ⟨k.os.trans h.os, k.tape.trans h.tape, k.output.trans h.output, Nat.le_trans h.size k.size, fun i hi hn => (k.block i (Nat.lt_of_lt_of_le hi h.size) hn).trans (h.block i hi hn)⟩
theorem Chg.mono {S T : List Nat} {a b : World} (h : Chg S a b) (hs : ∀ x, x ∈ S → x ∈ T) : Chg T a b :=
  ⟨h.os, h.tape, h.output, h.size, fun k hk hn => h.block k hk (fun hm => hn (hs k hm))⟩
theorem Chg.drew (S : List Nat) (w : World) : Chg S w w.drew := ⟨rfl, rfl, rfl, Nat.le_refl _, fun _ _ _ => rfl⟩
theorem Chg.drawn (S : List Nat) (w : World) (n : Nat) : Chg S w { w with drawn := n } := ⟨rfl, rfl, rfl, Nat.le_refl _, fun _ _ _ => rfl⟩
theorem Chg.alloc (S : List Nat) (w : World) (o : Obj) : Chg S w (w.alloc o) :=
  ⟨rfl, rfl, rfl, by simp, fun k hk _ => Below.heap_alloc _ _ _ hk⟩
theorem Chg.setCell {S : List Nat} (w : World) {p : Addr} (hp : p.block ∈ S) (u : Value) : Chg S w (w.setCell p u) :=
  ⟨rfl, rfl, rfl, by simp [World.setCell], fun k _ hn => Below.heap_setCell _ _ _ _ (fun e => hn (e ▸ hp))⟩
theorem Chg.grown {S : List Nat} {w w' : World} {row : Option Nat} (h : w.grownBy w' row) (hr : ∀ k, row = some k → k ∈ S) : Chg S w w' :=
  ⟨h.os, h.tape, h.output, h.size, fun k hk hn => h.block k hk (fun e => hn (hr k e.symm))⟩
theorem Chg.below {w w' : World} (h : Chg [] w w') : Below w.heap.size w w' :=
  ⟨h.os, h.tape, h.output, h.size, fun k hk => h.block k hk (by simp)⟩
theorem Chg.of_below {w w' : World} (h : Below w.heap.size w w') (S : List Nat) : Chg S w w' :=
  ⟨h.os, h.tape, h.output, h.size, fun k hk _ => h.block k hk⟩
theorem Chg.cell {S : List Nat} {w w' : World} (h : Chg S w w') {p : Addr} {v : Value} (hc : w.cell? p = some v) (hn : p.block ∉ S) : w'.cell? p = some v :=
  (World.cell?_of_block (h.block p.block (World.block_lt_of_cell? w p hc) hn)).trans hc

/-- F holds, and goes on holding whatever becomes of the blocks of S and of new ones. -/
def Rob (S : List Nat) (F : World → Prop) (w : World) : Prop := ∀ w', Chg S w w' → F w'
theorem Rob.here {S : List Nat} {F : World → Prop} {w : World} (h : Rob S F w) : F w := h w (Chg.refl S w)
theorem Rob.mono {S T : List Nat} {F : World → Prop} {w : World} (h : Rob T F w) (hs : ∀ x, x ∈ S → x ∈ T) : Rob S F w := fun w' hc => h w' (hc.mono hs)
theorem Rob.imp {S : List Nat} {F G : World → Prop} {w : World} (h : Rob S F w) (hi : ∀ w, F w → G w) : Rob S G w := fun w' hc => hi _ (h w' hc)
theorem Rob.and {S : List Nat} {F G : World → Prop} {w : World} (h : Rob S F w) (k : Rob S G w) : Rob S (fun w => F w ∧ G w) w := fun w' hc => ⟨h w' hc, k w' hc⟩
theorem Rob.step {S : List Nat} {F : World → Prop} {w w' : World} (h : Rob S F w) (hc : Chg S w w') : Rob S F w' := fun _ hc' => h _ (hc.trans hc')
/-- new blocks may join the list -/
theorem Rob.fresh {S T : List Nat} {F : World → Prop} {w w' : World} (h : Rob S F w) (hc : Chg S w w') (hT : ∀ b, b ∈ T → b ∉ S → w.heap.size ≤ b) : Rob T F w' := by
  intro w'' hc'
  refine h w'' ⟨hc'.os.trans hc.os, hc'.tape.trans hc.tape, hc'.output.trans hc.output, Nat.le_trans hc.size hc'.size, fun k hk hn => ?_⟩
  rw [hc'.block k (Nat.lt_of_lt_of_le hk hc.size) (fun hm => by have := hT k hm hn; omega)]
  exact hc.block k hk hn

/-- What the call owns: a block, whole; a row that a slice value owns, and its spare room. -/
inductive Ent where
  | blk (b : Nat) (cs : List Value) (t : TypeId)
  | row (v : Value) (t : TypeId) (sz n : Nat) (xs : List Value)
abbrev Loc := List Ent
def Ent.fp : Ent → List Nat
  | .blk b _ _ => [b]
  | .row (.slice (some a) _ _) _ _ _ _ => [a.block]
  | .row _ _ _ _ _ => []
def Ent.ok (w : World) : Ent → Prop
  | .blk b cs t => w.heap[b]? = some (.cells cs.toArray t (0, 0))
  | .row v t sz n xs => w.ownsRow 0 t sz v n xs
def fps (L : Loc) : List Nat := L.flatMap Ent.fp
theorem Ent.fp_lt {w : World} {x : Ent} (h : x.ok w) : ∀ b, b ∈ x.fp → b < w.heap.size := by
  cases x with
  | blk b cs t =>
    intro b' hb
    simp [Ent.fp] at hb
    subst hb
    exact (Array.getElem?_eq_some_iff.1 h).1
  | row v t sz n xs =>
    intro b' hb
    have hh : w.ownsRow 0 t sz v n xs := h
    cases v <;> simp [Ent.fp] at hb
    rename_i a len cap
    cases a with
    | none => simp at hb
    | some a =>
      simp at hb
      subst hb
      exact (hh.lt a.block rfl).2
theorem Ent.ok_chg {w w' : World} {S : List Nat} {x : Ent} (h : x.ok w) (hc : Chg S w w') (hd : ∀ b, b ∈ x.fp → b ∉ S) : x.ok w' := by
  have hlt := Ent.fp_lt h
  cases x with
  | blk b cs t =>
    show w'.heap[b]? = _
    rw [hc.block b (hlt b (by simp [Ent.fp])) (hd b (by simp [Ent.fp]))]
    exact h
  | row v t sz n xs =>
    have hh : w.ownsRow 0 t sz v n xs := h
    refine ⟨hh.1, ?_⟩
    rcases hh.2 with h2 | ⟨g, cap, cur, rfl, hb, hg, r⟩
    · exact .inl h2
    · refine .inr ⟨g, cap, cur, rfl, hb, ?_, r⟩
      rw [hc.block g (hlt g (by simp [Ent.fp])) (hd g (by simp [Ent.fp]))]
      exact hg

/-! ## the state -/
/-- The walk's fixed things: the program, the number of slots, the world at the call's begin, the blocks that the caller lent for writing, the blocks that no fact may lean on. -/
structure Cx where
  P : Program
  n : Nat
  w0 : World
  I : List Nat
  M : List Nat
structure StOk (cx : Cx) (L : Loc) (F : World → Prop) (w : World) : Prop where
  chg : Chg cx.I cx.w0 w
  ok : ∀ x, x ∈ L → x.ok w
  nodup : (fps L).Nodup
  own : ∀ b, b ∈ fps L → b ∈ cx.I ∨ cx.w0.heap.size ≤ b
  away : ∀ b, b ∈ cx.M → b < cx.w0.heap.size ∧ b ∉ cx.I
  rob : Rob (cx.M ++ fps L) F w
theorem StOk.lt {cx : Cx} {L : Loc} {F : World → Prop} {w : World} (h : StOk cx L F w) : ∀ b, b ∈ fps L → b < w.heap.size := by
  intro b hb
  simp only [fps, List.mem_flatMap] at hb
  obtain ⟨x, hx, hb⟩ := hb
  exact Ent.fp_lt (h.ok x hx) b hb
theorem StOk.here {cx : Cx} {L : Loc} {F : World → Prop} {w : World} (h : StOk cx L F w) : F w := h.rob.here
theorem StOk.disj {cx : Cx} {L : Loc} {F : World → Prop} {w : World} (h : StOk cx L F w) : ∀ b, b ∈ cx.M → b ∉ fps L := by
  intro b hb hm
  rcases h.own b hm with hi | hi
  · exact (h.away b hb).2 hi
  · have := (h.away b hb).1; omega
/-- a change that touches none of what is owned and none that was lent -/
theorem StOk.quiet {cx : Cx} {L : Loc} {F : World → Prop} {w w' : World} (h : StOk cx L F w) (hc : Chg [] w w') : StOk cx L F w' :=
  ⟨h.chg.trans (hc.mono (by simp)), fun x hx => Ent.ok_chg (h.ok x hx) hc (by simp), h.nodup, h.own, h.away, h.rob.step (hc.mono (by simp))⟩
theorem StOk.fact {cx : Cx} {L : Loc} {F G : World → Prop} {w : World} (h : StOk cx L F w) (hi : ∀ w, F w → G w) : StOk cx L G w :=
  ⟨h.chg, h.ok, h.nodup, h.own, h.away, h.rob.imp hi⟩

end Go.Sx
