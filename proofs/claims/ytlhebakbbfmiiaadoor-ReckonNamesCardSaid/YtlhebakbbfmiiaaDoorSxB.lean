/- Sx, part B: the rules for code: sequences, blocks, loops, tests, returns; the rules for operations in general; contracts and calls. -/
import Derived.Test.YtlhebakbbfmiiaaDoorSxA
namespace Go.Sx
open Go.RowKit

/-- A loop's round is about to begin. -/
def LW (P : Program) (c : Code) (Q : Exit → Act → World → Prop) (a : Act) (w : World) : Prop :=
  ∀ (b : Frame) (k : List Item) (cs : List Frame), ∃ e a' w', Q e a' w' ∧ Arrives P (lone (b.at a (.code c :: .inLoop c :: k)) cs w) b k cs e a' w'
theorem wp_of_LW {P : Program} {c : Code} {Q : Exit → Act → World → Prop} {a : Act} {w : World} (h : LW P c Q a w) : (Code.loop c).wp P Q a w := by
  intro b k cs
  obtain ⟨e, a', w', hq, harr⟩ := h b k cs
  exact ⟨e, a', w', hq, .of_steps (.one step_loop) harr⟩
theorem LW_round {P : Program} {c : Code} {Q : Exit → Act → World → Prop} {a : Act} {w : World} (h : c.wp P (Exit.then (LW P c Q) Q) a w) : LW P c Q a w := by
  intro b k cs
  obtain ⟨e, a₁, w₁, hq, harr⟩ := h b (.inLoop c :: k) cs
  cases e with
  | normal =>
    obtain ⟨e₂, a₂, w₂, hq₂, harr₂⟩ := hq b k cs
    exact ⟨e₂, a₂, w₂, hq₂, .of_steps (Steps.trans harr (.one step_inLoop)) harr₂⟩
  | exit id => exact ⟨_, a₁, w₁, hq, .pass (x := .inLoop c) rfl (fun _ _ => .inl (by simp)) harr⟩
  | goto l => exact ⟨_, a₁, w₁, hq, .pass (x := .inLoop c) rfl (fun _ _ => .inl (by simp)) harr⟩
  | ret => exact ⟨_, a₁, w₁, hq, .pass (x := .inLoop c) rfl (fun _ _ => .inl (by simp)) harr⟩
  | panic ch => exact ⟨_, a₁, w₁, hq, .pass (x := .inLoop c) rfl (fun _ _ => .inl (by simp)) harr⟩
  | outgrown => exact ⟨_, a₁, w₁, hq, .pass (x := .inLoop c) rfl (fun _ _ => .inl (by simp)) harr⟩

/-- What stands behind the code at hand. -/
inductive KI where
  | seq (c : Code)
  | blk (id : Nat)
  | loop (c : Code)
  | scope
  | drawn (ops : Array Oper) (fuel : Nat) (listed : Array Bool)
def unwind (P : Program) (Q : Exit → Act → World → Prop) : List KI → Exit → Act → World → Prop
  | [] => Q
  | .seq c :: k => Exit.then (c.wp P (unwind P Q k)) (unwind P Q k)
  | .blk id :: k => Exit.inBlock id (unwind P Q k)
  | .loop c :: k => Exit.then (LW P c (unwind P Q k)) (unwind P Q k)
  | .scope :: k => Exit.noGoto (unwind P Q k)
  | .drawn ops fuel listed :: k => Exit.then (wpAny P .any ops (unwind P Q k) fuel listed) (unwind P Q k)

structure G (cx : Cx) (c : Code) (k : List KI) (e : Env) (L : Loc) (F : World → Prop) (Q : Exit → Act → World → Prop) : Prop where
  run : ∀ a w, EnvOk cx.n e a → StOk cx L F w → c.wp cx.P (unwind cx.P Q k) a w
structure GL (cx : Cx) (c : Code) (k : List KI) (e : Env) (L : Loc) (F : World → Prop) (Q : Exit → Act → World → Prop) : Prop where
  run : ∀ a w, EnvOk cx.n e a → StOk cx L F w → LW cx.P c (unwind cx.P Q k) a w
/-- Here the code at hand has ended. -/
structure N (cx : Cx) (k : List KI) (e : Env) (L : Loc) (F : World → Prop) (Q : Exit → Act → World → Prop) : Prop where
  run : ∀ a w, EnvOk cx.n e a → StOk cx L F w → unwind cx.P Q k .normal a w
/-- Here it has been left by 'exit id'. -/
structure X (cx : Cx) (id : Nat) (k : List KI) (e : Env) (L : Loc) (F : World → Prop) (Q : Exit → Act → World → Prop) : Prop where
  run : ∀ a w, EnvOk cx.n e a → StOk cx L F w → unwind cx.P Q k (.exit id) a w
/-- The list of operations of a region. -/
structure O (cx : Cx) (ops : Array Oper) (l : List Oper) (k : List KI) (e : Env) (L : Loc) (F : World → Prop) (Q : Exit → Act → World → Prop) : Prop where
  run : ∀ a w, EnvOk cx.n e a → StOk cx L F w → wpList cx.P ops (unwind cx.P Q k) l a w

section control
variable {cx : Cx} {k : List KI} {e : Env} {L : Loc} {F : World → Prop} {Q : Exit → Act → World → Prop}

theorem g_seq {x y : Code} (h : G cx x (.seq y :: k) e L F Q) : G cx (.seq x y) k e L F Q := .mk fun a w he hs => wp_seq (h.run a w he hs)
theorem g_block {id : Nat} {c : Code} (h : G cx c (.blk id :: k) e L F Q) : G cx (.block id c) k e L F Q := .mk fun a w he hs => wp_block (h.run a w he hs)
theorem g_scope {c : Code} (h : G cx c (.scope :: k) e L F Q) : G cx (.scope c) k e L F Q := .mk fun a w he hs => wp_scope_straight (h.run a w he hs)
theorem g_skip (h : N cx k e L F Q) : G cx .skip k e L F Q := .mk fun a w he hs => wp_skip (h.run a w he hs)
theorem g_label {l : Nat} (h : N cx k e L F Q) : G cx (.label l) k e L F Q := .mk fun a w he hs => wp_label (h.run a w he hs)
theorem g_exit {id : Nat} (h : X cx id k e L F Q) : G cx (.exit id) k e L F Q := .mk fun a w he hs => wp_exit (h.run a w he hs)
theorem g_loop {c : Code} (h : GL cx c k e L F Q) : G cx (.loop c) k e L F Q := .mk fun a w he hs => wp_of_LW (h.run a w he hs)
theorem gl_round {c : Code} (h : G cx c (.loop c :: k) e L F Q) : GL cx c k e L F Q := .mk fun a w he hs => LW_round (h.run a w he hs)
theorem g_region {id : Nat} {l : List Oper} (h : O cx l.toArray l k e L F Q) : G cx (.region id l.toArray false) k e L F Q := .mk fun a w he hs => wp_region_lit (h.run a w he hs)
theorem g_cond {c : Operand} {x y : Code} {b : Bool} (hc : Env.ev e c = some (.bool b)) (h1 : b = true → G cx x k e L F Q) (h2 : b = false → G cx y k e L F Q) : G cx (.cond c x y) k e L F Q := .mk fun a w he hs =>
  wp_cond_split (he.ev hc) (fun hb => (h1 hb).run a w he hs) (fun hb => (h2 hb).run a w he hs)
theorem g_cond_t {c : Operand} {x y : Code} {b : Bool} (hc : Env.ev e c = some (.bool b)) (hb : b = true) (h1 : G cx x k e L F Q) : G cx (.cond c x y) k e L F Q :=
  g_cond hc (fun _ => h1) (fun h => by rw [hb] at h; cases h)
theorem g_cond_f {c : Operand} {x y : Code} {b : Bool} (hc : Env.ev e c = some (.bool b)) (hb : b = false) (h1 : G cx y k e L F Q) : G cx (.cond c x y) k e L F Q :=
  g_cond hc (fun h => by rw [hb] at h; cases h) (fun _ => h1)

theorem g_condd {c : Operand} {x y : Code} {p : Prop} [inst : Decidable p] (hc : Env.ev e c = some (.bool (decide p))) (h1 : p → G cx x k e L F Q) (h2 : ¬ p → G cx y k e L F Q) : G cx (.cond c x y) k e L F Q :=
  g_cond hc (fun h => h1 (of_decide_eq_true h)) (fun h => h2 (of_decide_eq_false h))
theorem g_conde {α : Type} [DecidableEq α] {c : Operand} {x y : Code} {a b : α} (hc : Env.ev e c = some (.bool (a == b))) (h1 : a = b → G cx x k e L F Q) (h2 : a ≠ b → G cx y k e L F Q) : G cx (.cond c x y) k e L F Q :=
  g_cond hc (fun h => h1 (by simpa using h)) (fun h => h2 (by simpa using h))
theorem g_condn {c : Operand} {x y : Code} {a b : Int} (hc : Env.ev e c = some (.bool (a != b))) (h1 : a ≠ b → G cx x k e L F Q) (h2 : a = b → G cx y k e L F Q) : G cx (.cond c x y) k e L F Q :=
  g_cond hc (fun h => h1 (by simpa using h)) (fun h => h2 (by simpa using h))
theorem g_condxd {c : Operand} {x y : Code} {p : Prop} [inst : Decidable p] (hc : Env.ev e c = some (.bool (!decide p))) (h1 : ¬ p → G cx x k e L F Q) (h2 : p → G cx y k e L F Q) : G cx (.cond c x y) k e L F Q :=
  g_cond hc (fun h => h1 (by simpa using h)) (fun h => h2 (by simpa using h))
theorem g_condx {c : Operand} {x y : Code} {b : Bool} (hc : Env.ev e c = some (.bool (!b))) (h1 : b = false → G cx x k e L F Q) (h2 : b = true → G cx y k e L F Q) : G cx (.cond c x y) k e L F Q :=
  g_cond hc (fun h => h1 (by simpa using h)) (fun h => h2 (by simpa using h))

theorem n_seq {c : Code} (h : G cx c k e L F Q) : N cx (.seq c :: k) e L F Q := .mk h.run
theorem n_blk {id : Nat} (h : N cx k e L F Q) : N cx (.blk id :: k) e L F Q := .mk h.run
theorem n_loop {c : Code} (h : GL cx c k e L F Q) : N cx (.loop c :: k) e L F Q := .mk h.run
theorem n_scope (h : N cx k e L F Q) : N cx (.scope :: k) e L F Q := .mk fun a w he hs => by
  show Exit.noGoto (unwind cx.P Q k) .normal a w
  exact h.run a w he hs
theorem n_nil (h : ∀ a w, EnvOk cx.n e a → StOk cx L F w → Q .normal a w) : N cx [] e L F Q := .mk h
theorem x_seq {c : Code} {id : Nat} (h : X cx id k e L F Q) : X cx id (.seq c :: k) e L F Q := .mk h.run
theorem x_loop {c : Code} {id : Nat} (h : X cx id k e L F Q) : X cx id (.loop c :: k) e L F Q := .mk h.run
theorem x_here {id : Nat} (h : N cx k e L F Q) : X cx id (.blk id :: k) e L F Q := .mk fun a w he hs => by
  show Exit.inBlock id (unwind cx.P Q k) (.exit id) a w
  simp only [Exit.inBlock, if_true]
  exact h.run a w he hs
theorem x_blk {id id' : Nat} (hn : Nat.beq id' id = false) (h : X cx id' k e L F Q) : X cx id' (.blk id :: k) e L F Q := .mk fun a w he hs => by
  show Exit.inBlock id (unwind cx.P Q k) (.exit id') a w
  simp only [Exit.inBlock, if_neg (Nat.ne_of_beq_eq_false hn)]
  exact h.run a w he hs
theorem x_scope {id : Nat} (h : X cx id k e L F Q) : X cx id (.scope :: k) e L F Q := .mk fun a w he hs => by
  show Exit.noGoto (unwind cx.P Q k) (.exit id) a w
  exact h.run a w he hs

theorem unwind_ret (P : Program) (Q : Exit → Act → World → Prop) (a : Act) (w : World) (h : Q .ret a w) : ∀ k, unwind P Q k .ret a w
  | [] => h
  | .seq _ :: k => unwind_ret P Q a w h k
  | .blk _ :: k => unwind_ret P Q a w h k
  | .loop _ :: k => unwind_ret P Q a w h k
  | .drawn _ _ _ :: k => unwind_ret P Q a w h k
  | .scope :: k => by
    show Exit.noGoto (unwind P Q k) .ret a w
    rw [Exit.noGoto_ret]
    exact unwind_ret P Q a w h k
theorem g_ret (h : ∀ a w, EnvOk cx.n e a → StOk cx L F w → Q .ret a w) : G cx .ret k e L F Q := .mk fun a w he hs => wp_ret (unwind_ret _ _ _ _ (h a w he hs) k)

/-- weaker knowledge of the slots, and of the world -/
theorem g_weak {c : Code} {e2 : Env} {F2 : World → Prop} (hs : Env.Sub e e2) (hF : ∀ w, F w → F2 w) (h : G cx c k e2 L F2 Q) : G cx c k e L F Q := .mk fun a w he hw => h.run a w (he.sub hs) (hw.fact hF)
theorem gl_weak {c : Code} {e2 : Env} {F2 : World → Prop} (hs : Env.Sub e e2) (hF : ∀ w, F w → F2 w) (h : GL cx c k e2 L F2 Q) : GL cx c k e L F Q := .mk fun a w he hw => h.run a w (he.sub hs) (hw.fact hF)
theorem n_weak {e2 : Env} {F2 : World → Prop} (hs : Env.Sub e e2) (hF : ∀ w, F w → F2 w) (h : N cx k e2 L F2 Q) : N cx k e L F Q := .mk fun a w he hw => h.run a w (he.sub hs) (hw.fact hF)
theorem o_weak {ops : Array Oper} {l : List Oper} {e2 : Env} {F2 : World → Prop} (hs : Env.Sub e e2) (hF : ∀ w, F w → F2 w) (h : O cx ops l k e2 L F2 Q) : O cx ops l k e L F Q := .mk fun a w he hw => h.run a w (he.sub hs) (hw.fact hF)

theorem g_fact {c : Code} {F2 : World → Prop} (hF : ∀ w, F w → F2 w) (h : G cx c k e L F2 Q) : G cx c k e L F Q := .mk fun a w he hw => h.run a w he (hw.fact hF)
theorem gl_fact {c : Code} {F2 : World → Prop} (hF : ∀ w, F w → F2 w) (h : GL cx c k e L F2 Q) : GL cx c k e L F Q := .mk fun a w he hw => h.run a w he (hw.fact hF)
theorem n_fact {F2 : World → Prop} (hF : ∀ w, F w → F2 w) (h : N cx k e L F2 Q) : N cx k e L F Q := .mk fun a w he hw => h.run a w he (hw.fact hF)
theorem o_fact {ops : Array Oper} {l : List Oper} {F2 : World → Prop} (hF : ∀ w, F w → F2 w) (h : O cx ops l k e L F2 Q) : O cx ops l k e L F Q := .mk fun a w he hw => h.run a w he (hw.fact hF)
/-! ## operations -/
variable {ops : Array Oper} {rest : List Oper}
theorem o_nil (h : N cx k e L F Q) : O cx ops [] k e L F Q := .mk h.run
/-- is the operation wanted? -/
def Gd (ops : Array Oper) (e : Env) : Option (Nat × Bool) → Option Bool
  | none => some true
  | some (j, b) => match (ops[j]?).bind (·.dst) with
    | none => none
    | some d => match Env.get e d with
      | some (.bool x) => some (x == b)
      | some (.tuple _) => some false
      | _ => none
theorem Gd.wanted {n : Nat} {o : Oper} {a : Act} {r : Bool} (he : EnvOk n e a) (h : Gd ops e o.guard = some r) : Region.wanted o (yielded ops a.tmps) = r := by
  unfold Region.wanted
  unfold Gd at h
  split at h
  · rename_i hg
    rw [hg]
    simpa using h
  · rename_i j b hg
    rw [hg]
    split at h
    · cases h
    · rename_i d hd
      split at h
      · rename_i x hx
        have := he.get d _ hx
        simp only [yielded, hd, Option.bind_some, this, Option.some.injEq] at h ⊢
        rw [← h]
        cases x <;> cases b <;> rfl
      · rename_i x hx
        have := he.get d _ hx
        simp only [yielded, hd, Option.bind_some, this, Option.some.injEq] at h ⊢
        rw [← h]
        cases b <;> rfl
      · cases h
theorem o_split {l : List Oper} {d : Nat} {x : Bool} (hx : Env.get e d = some (.bool x)) (h1 : x = true → O cx ops l k ((d, .bool true) :: e) L F Q) (h2 : x = false → O cx ops l k ((d, .bool false) :: e) L F Q) : O cx ops l k e L F Q := .mk fun a w he hs => by
  have hd := he.get d _ hx
  cases x with
  | true => exact (h1 rfl).run a w (he.more hd) hs
  | false => exact (h2 rfl).run a w (he.more hd) hs
/-- a guard that is not decided yet -/
theorem o_gs {j d : Nat} {b x : Bool} {dst : Option Nat} {op : Op} {t : TypeId} {pos : String} {after : Array Edge} (_hj : (ops[j]?).bind (·.dst) = some d) (hx : Env.get e d = some (.bool x))
    (h1 : x = true → O cx ops (⟨dst, op, t, pos, after, some (j, b)⟩ :: rest) k ((d, .bool true) :: e) L F Q) (h2 : x = false → O cx ops (⟨dst, op, t, pos, after, some (j, b)⟩ :: rest) k ((d, .bool false) :: e) L F Q) : O cx ops (⟨dst, op, t, pos, after, some (j, b)⟩ :: rest) k e L F Q :=
  o_split hx h1 h2
theorem o_gsd {j d : Nat} {b : Bool} {p : Prop} [inst : Decidable p] {dst : Option Nat} {op : Op} {t : TypeId} {pos : String} {after : Array Edge} (_hj : (ops[j]?).bind (·.dst) = some d) (hx : Env.get e d = some (.bool (decide p)))
    (h1 : p → O cx ops (⟨dst, op, t, pos, after, some (j, b)⟩ :: rest) k ((d, .bool true) :: e) L F Q) (h2 : ¬ p → O cx ops (⟨dst, op, t, pos, after, some (j, b)⟩ :: rest) k ((d, .bool false) :: e) L F Q) : O cx ops (⟨dst, op, t, pos, after, some (j, b)⟩ :: rest) k e L F Q :=
  o_split hx (fun h => h1 (of_decide_eq_true h)) (fun h => h2 (of_decide_eq_false h))
theorem o_gse {α : Type} [DecidableEq α] {j d : Nat} {b : Bool} {p q : α} {dst : Option Nat} {op : Op} {t : TypeId} {pos : String} {after : Array Edge} (_hj : (ops[j]?).bind (·.dst) = some d) (hx : Env.get e d = some (.bool (p == q)))
    (h1 : p = q → O cx ops (⟨dst, op, t, pos, after, some (j, b)⟩ :: rest) k ((d, .bool true) :: e) L F Q) (h2 : p ≠ q → O cx ops (⟨dst, op, t, pos, after, some (j, b)⟩ :: rest) k ((d, .bool false) :: e) L F Q) : O cx ops (⟨dst, op, t, pos, after, some (j, b)⟩ :: rest) k e L F Q :=
  o_split hx (fun h => h1 (by simpa using h)) (fun h => h2 (by simpa using h))
theorem o_gsn {j d : Nat} {b : Bool} {p q : Int} {dst : Option Nat} {op : Op} {t : TypeId} {pos : String} {after : Array Edge} (_hj : (ops[j]?).bind (·.dst) = some d) (hx : Env.get e d = some (.bool (p != q)))
    (h1 : p ≠ q → O cx ops (⟨dst, op, t, pos, after, some (j, b)⟩ :: rest) k ((d, .bool true) :: e) L F Q) (h2 : p = q → O cx ops (⟨dst, op, t, pos, after, some (j, b)⟩ :: rest) k ((d, .bool false) :: e) L F Q) : O cx ops (⟨dst, op, t, pos, after, some (j, b)⟩ :: rest) k e L F Q :=
  o_split hx (fun h => h1 (by simpa using h)) (fun h => h2 (by simpa using h))
theorem o_gsxd {j d : Nat} {b : Bool} {p : Prop} [inst : Decidable p] {dst : Option Nat} {op : Op} {t : TypeId} {pos : String} {after : Array Edge} (_hj : (ops[j]?).bind (·.dst) = some d) (hx : Env.get e d = some (.bool (!decide p)))
    (h1 : ¬ p → O cx ops (⟨dst, op, t, pos, after, some (j, b)⟩ :: rest) k ((d, .bool true) :: e) L F Q) (h2 : p → O cx ops (⟨dst, op, t, pos, after, some (j, b)⟩ :: rest) k ((d, .bool false) :: e) L F Q) : O cx ops (⟨dst, op, t, pos, after, some (j, b)⟩ :: rest) k e L F Q :=
  o_split hx (fun h => h1 (by simpa using h)) (fun h => h2 (by simpa using h))
theorem o_gsx {j d : Nat} {b x : Bool} {dst : Option Nat} {op : Op} {t : TypeId} {pos : String} {after : Array Edge} (_hj : (ops[j]?).bind (·.dst) = some d) (hx : Env.get e d = some (.bool (!x)))
    (h1 : x = false → O cx ops (⟨dst, op, t, pos, after, some (j, b)⟩ :: rest) k ((d, .bool true) :: e) L F Q) (h2 : x = true → O cx ops (⟨dst, op, t, pos, after, some (j, b)⟩ :: rest) k ((d, .bool false) :: e) L F Q) : O cx ops (⟨dst, op, t, pos, after, some (j, b)⟩ :: rest) k e L F Q :=
  o_split hx (fun h => h1 (by simpa using h)) (fun h => h2 (by simpa using h))
theorem o_off {dst : Nat} {op : Op} {t : TypeId} {pos : String} {after : Array Edge} {g : Option (Nat × Bool)} (hg : Gd ops e g = some false) (hd : Nat.blt dst cx.n = true) (h : O cx ops rest k ((dst, undef) :: e) L F Q) :
    O cx ops (⟨some dst, op, t, pos, after, g⟩ :: rest) k e L F Q := .mk fun a w he hs => by
  have hw := Gd.wanted (o := ⟨some dst, op, t, pos, after, g⟩) he hg
  simp only [wpList, hw]
  exact h.run _ w (he.put hd undef) hs
theorem o_off_none {op : Op} {t : TypeId} {pos : String} {after : Array Edge} {g : Option (Nat × Bool)} (hg : Gd ops e g = some false) (h : O cx ops rest k e L F Q) :
    O cx ops (⟨none, op, t, pos, after, g⟩ :: rest) k e L F Q := .mk fun a w he hs => by
  have hw := Gd.wanted (o := ⟨none, op, t, pos, after, g⟩) he hg
  simp only [wpList, hw]
  exact h.run _ w he hs

/-- THE GENERAL STEP: what the operation yields, and what becomes of the world. -/
theorem o_run {dst : Nat} {op : Op} {t : TypeId} {pos : String} {after : Array Edge} {g : Option (Nat × Bool)} (R : Value → Loc → (World → Prop) → Prop) (hg : Gd ops e g = some true) (hd : Nat.blt dst cx.n = true)
    (hr : ∀ a w, EnvOk cx.n e a → StOk cx L F w → ∃ v w' L' F', (execOp a.eval ⟨some dst, op, t, pos, after, g⟩).run cx.P w = .ok (.value v) w' ∧ StOk cx L' F' w' ∧ R v L' F')
    (h : ∀ v L' F', R v L' F' → O cx ops rest k ((dst, v) :: e) L' F' Q) :
    O cx ops (⟨some dst, op, t, pos, after, g⟩ :: rest) k e L F Q := .mk fun a w he hs => by
  have hw := Gd.wanted (o := ⟨some dst, op, t, pos, after, g⟩) he hg
  obtain ⟨v, w', L', F', hrun, hs', hR⟩ := hr a w he hs
  simp only [wpList, hw, if_true, Oper.wp]
  left
  rw [hrun]
  simp only [Oper.upon]
  exact (h v L' F' hR).run _ w' (he.put hd v) hs'
/-- the same for an operation without a value (a store) -/
theorem o_run_none {op : Op} {t : TypeId} {pos : String} {after : Array Edge} {g : Option (Nat × Bool)} {L' : Loc} {F' : World → Prop} (hg : Gd ops e g = some true)
    (hr : ∀ a w, EnvOk cx.n e a → StOk cx L F w → ∃ w', (execOp a.eval ⟨none, op, t, pos, after, g⟩).run cx.P w = .ok .skip w' ∧ StOk cx L' F' w')
    (h : O cx ops rest k e L' F' Q) :
    O cx ops (⟨none, op, t, pos, after, g⟩ :: rest) k e L F Q := .mk fun a w he hs => by
  have hw := Gd.wanted (o := ⟨none, op, t, pos, after, g⟩) he hg
  obtain ⟨w', hrun, hs'⟩ := hr a w he hs
  simp only [wpList, hw, if_true, Oper.wp]
  left
  rw [hrun]
  simp only [Oper.upon, Act.put]
  exact h.run _ w' he hs'

/-- PURE: in whatever world the operation yields this value and leaves the world alone. -/
def Pure (P : Program) (e : Env) (op : Op) (v : Value) : Prop :=
  ∀ (n : Nat) (a : Act) (w : World) (o : Oper), EnvOk n e a → o.op = op → (execOp a.eval o).run P w = .ok (.value v) w
theorem o_pure {dst : Nat} {op : Op} {t : TypeId} {pos : String} {after : Array Edge} {g : Option (Nat × Bool)} {v : Value} (hg : Gd ops e g = some true) (hd : Nat.blt dst cx.n = true)
    (hp : Pure cx.P e op v) (h : O cx ops rest k ((dst, v) :: e) L F Q) : O cx ops (⟨some dst, op, t, pos, after, g⟩ :: rest) k e L F Q :=
  o_run (fun u L' F' => u = v ∧ L' = L ∧ F' = F) hg hd (fun a w he hs => ⟨v, w, L, F, hp cx.n a w _ he rfl, hs, rfl, rfl, rfl⟩) (fun u L' F' ⟨hu, hL, hF⟩ => by rw [hu, hL, hF]; exact h)
end control
end Go.Sx
