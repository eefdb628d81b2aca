/- Sx, part K: regions that draw their order, all of whose operations leave what is known as it is: they may be taken in the text's order. -/
import Derived.Test.YtlhebakbbfmiiaaDoorSxJ
namespace Go.Sx
open Go.RowKit
/-- In every world of I operation o leaves v in its slot, and a world of I; or it is not wanted. -/
def YI (P : Program) (ops : Array Oper) (I : World → Prop) (o : Oper) (v : Value) (a : Act) : Prop :=
  (Region.wanted o (yielded ops a.tmps) = true ∧ ∀ w, I w → (∃ w', (execOp a.eval o).run P w = .ok (.value v) w' ∧ I w') ∨ (∃ f args w', (execOp a.eval o).run P w = .ok (.enter f args) w' ∧ Calls P f args w' fun en w'' => en = .returned v ∧ I w'')) ∨ (Region.wanted o (yielded ops a.tmps) = false ∧ v = undef)
section
variable {P : Program} {ops : Array Oper} {I : World → Prop}
theorem YI.put {o : Oper} {v : Value} {a : Act} (hs : ∀ cs b, o.op ≠ .select cs b) {d : Option Nat} {u : Value} (h3 : ∀ x, d = some x → x ∉ o.looksAt ops) : YI P ops I o v (a.put d u) ↔ YI P ops I o v a := by
  unfold YI
  rw [execOp_put o hs a d u h3, wanted_put o a d u h3]
theorem YI.wpOp {i : Nat} {o : Oper} {v : Value} {a : Act} {w : World} {K : Act → World → Prop} {Q : Exit → Act → World → Prop} (hi : ops[i]? = some o) (hy : YI P ops I o v a) (hw : I w) (h : ∀ w', I w' → K (a.put o.dst v) w') : wpOp P ops Q i K a w := by
  unfold Go.wpOp
  simp only [hi]
  rcases hy with ⟨hwt, hr⟩ | ⟨hwt, rfl⟩
  · simp only [hwt, if_true]
    left
    unfold Oper.wp
    rcases hr w hw with ⟨w', hr, hI⟩ | ⟨f, args, w', hr, hc⟩
    · rw [hr]; exact h w' hI
    · rw [hr]
      simp only [Oper.upon]
      refine hc.mono fun en w'' hen => ?_
      obtain ⟨rfl, hI⟩ := hen
      exact h w'' hI
  · simp only [hwt, Bool.false_eq_true, if_false]
    exact h w hw
def wpIx (P : Program) (ops : Array Oper) (I : World → Prop) (K : Act → Prop) : List Nat → Act → Prop
  | [], a => K a
  | i :: r, a => ∃ o v, ops[i]? = some o ∧ YI P ops I o v a ∧ wpIx P ops I K r (a.put o.dst v)
def wpIl (P : Program) (ops : Array Oper) (I : World → Prop) (K : Act → Prop) : List Oper → Act → Prop
  | [], a => K a
  | o :: r, a => ∃ v, YI P ops I o v a ∧ wpIl P ops I K r (a.put o.dst v)
theorem wpIx_of_il {K : Act → Prop} : ∀ (l : List Oper) (k : Nat) (a : Act), (∀ j, l[j]? = ops[k + j]?) → wpIl P ops I K l a → wpIx P ops I K (List.range' k l.length) a
  | [], _, _, _, h => h
  | o :: l, k, a, hl, ⟨v, hy, h⟩ => ⟨o, v, by simpa using (hl 0).symm, hy, wpIx_of_il l (k + 1) _ (fun j => by have := hl (j + 1); simpa [Nat.add_assoc, Nat.add_comm 1 j] using this) h⟩
theorem wpIx_front {K : Act → Prop} (hsel : ∀ (j : Nat) (o : Oper) cs b, ops[j]? = some o → o.op ≠ .select cs b) {j : Nat} {oj : Oper} (hj : ops[j]? = some oj) : ∀ (r1 r2 : List Nat) (a : Act), (∀ i ∈ r1, ∀ oi, ops[i]? = some oi → oi.apart ops oj = true) → wpIx P ops I K (r1 ++ j :: r2) a → ∃ v, YI P ops I oj v a ∧ wpIx P ops I K (r1 ++ r2) (a.put oj.dst v)
  | [], r2, a, _, ⟨o, v, ho, hy, h⟩ => by
    obtain rfl : o = oj := by rw [hj] at ho; exact (Option.some.inj ho).symm
    exact ⟨v, hy, h⟩
  | i :: r1, r2, a, hap, ⟨oi, u, hoi, hyi, h⟩ => by
    obtain ⟨v, hyj, h'⟩ := wpIx_front hsel hj r1 r2 (a.put oi.dst u) (fun i hi => hap i (by simp [hi])) h
    obtain ⟨h1, h2, h3⟩ := Oper.apart_spec (hap i (by simp) oi hoi)
    refine ⟨v, (YI.put (fun cs b => hsel j oj cs b hj) h1).1 hyj, oi, u, hoi, (YI.put (fun cs b => hsel i oi cs b hoi) h3).2 hyi, ?_⟩
    rw [← Act.put_comm a u v h2]
    exact h'
/-- each operation is behind all that it waits for, and apart from those ahead of it for which it does not wait -/
def pairB (ops : Array Oper) : Bool := (List.range ops.size).all fun j => match ops[j]? with
  | none => true
  | some oj => oj.after.all (fun e => !Region.binds .any e || Nat.blt e.on j) && (List.range j).all fun i => match ops[i]? with
    | none => true
    | some oi => oj.after.toList.any (fun e => Region.binds .any e && Nat.beq e.on i) || oi.apart ops oj
theorem pairB_spec (h : pairB ops = true) {j : Nat} {oj : Oper} (hj : ops[j]? = some oj) : (∀ e ∈ oj.after, Region.binds .any e = true → e.on < j) ∧ ∀ i oi, i < j → ops[i]? = some oi → (∃ e ∈ oj.after, Region.binds .any e = true ∧ e.on = i) ∨ oi.apart ops oj = true := by
  have hlt : j < ops.size := (Array.getElem?_eq_some_iff.1 hj).1
  simp only [pairB, List.all_eq_true, List.mem_range] at h
  have h1 := h j hlt
  rw [hj] at h1
  simp only [Bool.and_eq_true, List.all_eq_true, List.mem_range] at h1
  refine ⟨fun e he hb => ?_, fun i oi hij hi => ?_⟩
  · have := Array.all_eq_true_iff_forall_mem.1 h1.1 e he
    simp only [hb, Bool.not_true, Bool.false_or, Nat.blt_eq] at this
    exact this
  · have := h1.2 i hij
    rw [hi] at this
    simp only [Bool.or_eq_true, List.any_eq_true, Bool.and_eq_true] at this
    rcases this with ⟨e, he, hb, hon⟩ | h
    · exact .inl ⟨e, by simpa using he, hb, Nat.eq_of_beq_eq_true hon⟩
    · exact .inr h
theorem getD_two {listed : Array Bool} {i : Nat} (hi : i < listed.size) : listed.getD i false = listed.getD i true := by
  simp [hi]
theorem wpAny_of_ix {K : Act → Prop} {Q : Exit → Act → World → Prop} (hsel : ∀ (j : Nat) (o : Oper) cs b, ops[j]? = some o → o.op ≠ .select cs b) (hp : pairB ops = true) (hK : ∀ a w, K a → I w → Q .normal a w) :
    ∀ (fuel : Nat) (r : List Nat) (listed : Array Bool) (a : Act), r.Pairwise (· < ·) → (∀ i, i ∈ r ↔ (i < ops.size ∧ listed.getD i true = false)) → listed.size = ops.size → r.length ≤ fuel → wpIx P ops I K r a → ∀ w, I w → wpAny P .any ops Q fuel listed a w := by
  have hmem : ∀ {r : List Nat} {listed : Array Bool}, (∀ i, i ∈ r ↔ (i < ops.size ∧ listed.getD i true = false)) → ∀ j, j ∈ Region.ready .any ops listed → j ∈ r := fun hm j hj => by
    obtain ⟨h0, o, ho, _⟩ := mem_ready.1 hj
    exact (hm j).2 ⟨(Array.getElem?_eq_some_iff.1 ho).1, h0⟩
  have hprog : ∀ {r : List Nat} {listed : Array Bool}, r.Pairwise (· < ·) → (∀ i, i ∈ r ↔ (i < ops.size ∧ listed.getD i true = false)) → listed.size = ops.size → Region.ready .any ops listed = [] → r = [] := fun {r listed} hpw hm hsz hr => by
    cases r with
    | nil => rfl
    | cons i0 r =>
      exfalso
      have hi0 := (hm i0).1 (by simp)
      obtain ⟨o, ho⟩ : ∃ o, ops[i0]? = some o := ⟨_, Array.getElem?_eq_getElem hi0.1⟩
      have : i0 ∈ Region.ready .any ops listed := mem_ready.2 ⟨hi0.2, o, ho, fun e he hb => by
        have hlt := (pairB_spec hp ho).1 e he hb
        rw [getD_two (by omega)]
        cases hc : listed.getD e.on true with
        | true => rfl
        | false =>
          have hin := (hm e.on).2 ⟨by omega, hc⟩
          simp only [List.mem_cons] at hin
          rcases hin with h | h
          · omega
          · have := (List.pairwise_cons.1 hpw).1 e.on h; omega⟩
      rw [hr] at this
      cases this
  intro fuel
  induction fuel with
  | zero =>
    intro r listed a hpw hm hsz hlen h w hw
    have hr0 : r = [] := List.eq_nil_of_length_eq_zero (by omega)
    subst hr0
    refine ⟨List.eq_nil_iff_forall_not_mem.2 fun j hj => ?_, hK a w h hw⟩
    have := hmem hm j hj
    cases this
  | succ fuel ih =>
    intro r listed a hpw hm hsz hlen h w hw
    refine ⟨fun hr => ?_, fun j hj => ?_⟩
    · have := hprog hpw hm hsz hr
      subst this
      exact hK a w h hw
    · have hjr := hmem hm j hj
      obtain ⟨r1, r2, rfl⟩ := List.append_of_mem hjr
      obtain ⟨hj0, oj, hoj, hall⟩ := mem_ready.1 hj
      have hpw' := List.pairwise_append.1 hpw
      have hap : ∀ i ∈ r1, ∀ oi, ops[i]? = some oi → oi.apart ops oj = true := fun i hi oi hoi => by
        have hij : i < j := hpw'.2.2 i hi j (by simp)
        rcases (pairB_spec hp hoj).2 i oi hij hoi with ⟨e, he, hb, rfl⟩ | h
        · have h1 := hall e he hb
          have h2 := (hm e.on).1 (by simp [hi])
          rw [getD_two (by omega), h2.2] at h1
          cases h1
        · exact h
      obtain ⟨v, hy, h'⟩ := wpIx_front hsel hoj r1 r2 a hap h
      refine hy.wpOp hoj hw fun w' hw' => ih (r1 ++ r2) _ _ ?_ ?_ (by simp [hsz]) (by simp at hlen ⊢; omega) h' w' hw'
      · exact hpw.sublist (List.Sublist.append_left (List.sublist_cons_self j r2) r1)
      · intro i
        have hij : i ∈ r1 ++ r2 → i ≠ j := fun hi he => by
          subst he
          simp only [List.mem_append] at hi
          rcases hi with hi | hi
          · have := hpw'.2.2 i hi i (by simp); omega
          · have := (List.pairwise_cons.1 hpw'.2.1).1 i hi; omega
        have hjs : j < ops.size := (Array.getElem?_eq_some_iff.1 hoj).1
        constructor
        · intro hi
          have h1 := (hm i).1 (by simp only [List.mem_append, List.mem_cons] at hi ⊢; exact hi.imp id .inr)
          exact ⟨h1.1, by rw [getD_set_ne true (Ne.symm (hij hi))]; exact h1.2⟩
        · rintro ⟨h1, h2⟩
          by_cases he : i = j
          · subst he
            simp [hsz, h1] at h2
          · rw [getD_set_ne true (Ne.symm he)] at h2
            have := (hm i).2 ⟨h1, h2⟩
            simp only [List.mem_append, List.mem_cons] at this ⊢
            rcases this with h | h | h
            · exact .inl h
            · exact absurd h he
            · exact .inr h
end
/-! ## the goal -/
/-- the list of operations of a region that draws, each of which leaves what is known as it is -/
structure T (cx : Cx) (ops : Array Oper) (l : List Oper) (k : List KI) (e : Env) (L : Loc) (F : World → Prop) (Q : Exit → Act → World → Prop) : Prop where
  run : ∀ a, EnvOk cx.n e a → wpIl cx.P ops (StOk cx L F) (fun a' => ∀ w, StOk cx L F w → unwind cx.P Q k .normal a' w) l a
section
variable {cx : Cx} {k : List KI} {e : Env} {L : Loc} {F : World → Prop} {Q : Exit → Act → World → Prop} {ops : Array Oper} {rest : List Oper}
def plainTy (P : Program) : Nat → TypeId → Bool
  | 0, _ => false
  | d + 1, t => match P.underlying t with
    | some .bool | some (.int _) | some .string => true
    | some (.struct fs) => fs.all fun f => plainTy P d f.type
    | some (.tuple ts) => ts.all fun u => plainTy P d u
    | _ => false
/-- may such an operation be one of those? -/
def tOp (P : Program) (o : Oper) : Bool := match o.op with
  | .move _ | .assign _ | .pick _ _ _ | .load _ _ | .nilCheck _ | .binOp _ _ _ _ _ | .unOp _ _ _ | .fieldAddr _ _ _ | .field _ _ _ | .indexAddr _ _ _ | .index _ _ _ | .extract _ _ | .slice _ _ _ _ _ | .build _ _ => true
  | .convert _ t _ => plainTy P 4 t
  | .call ⟨.builtin b, _, _⟩ => match b with | .len => true | _ => false
  | .call ⟨.value _, _, _⟩ => plainTy P 4 o.type
  | _ => false
theorem g_still {id : Nat} {l : List Oper} (ht : (cx.P.follows .mixedOrders && l.all (tOp cx.P) && Region.noSelect l.toArray && pairB l.toArray) = true) (h : T cx l.toArray l k e L F Q) : G cx (.region id l.toArray true) k e L F Q := .mk fun a w he hs => by
  simp only [Bool.and_eq_true] at ht
  obtain ⟨⟨⟨hm, _⟩, hsel⟩, hp⟩ := ht
  refine wp_region_any hm (wpAny_of_ix (Region.noSelect_spec hsel) hp (K := fun a' => ∀ w, StOk cx L F w → unwind cx.P Q k .normal a' w) (fun _ w h hw => h w hw) l.toArray.size (List.range' 0 l.length) _ a ?_ ?_ (by simp) (by simp) (wpIx_of_il l 0 a (by simp) (h.run a he)) _ (hs.quiet (Chg.drawn [] w _)))
  · exact List.pairwise_lt_range'
  · intro i
    simp only [List.mem_range', List.size_toArray]
    constructor
    · rintro ⟨i, hi, rfl⟩
      refine ⟨by omega, ?_⟩
      simp [show i < l.length by omega]
    · rintro ⟨hi, _⟩
      exact ⟨i, hi, by omega⟩
theorem t_nil (h : N cx k e L F Q) : T cx ops [] k e L F Q := .mk fun a he w hs => h.run a w he hs
theorem t_off {dst : Nat} {op : Op} {t : TypeId} {pos : String} {after : Array Edge} {g : Option (Nat × Bool)} (hg : Gd ops e g = some false) (hd : Nat.blt dst cx.n = true) (h : T cx ops rest k ((dst, undef) :: e) L F Q) :
    T cx ops (⟨some dst, op, t, pos, after, g⟩ :: rest) k e L F Q := .mk fun _ he => ⟨undef, .inr ⟨Gd.wanted (o := ⟨some dst, op, t, pos, after, g⟩) he hg, rfl⟩, h.run _ (he.put hd undef)⟩
theorem t_pure {dst : Nat} {op : Op} {t : TypeId} {pos : String} {after : Array Edge} {g : Option (Nat × Bool)} {v : Value} (hg : Gd ops e g = some true) (hd : Nat.blt dst cx.n = true)
    (hp : Pure cx.P e op v) (h : T cx ops rest k ((dst, v) :: e) L F Q) : T cx ops (⟨some dst, op, t, pos, after, g⟩ :: rest) k e L F Q := .mk fun a he =>
  ⟨v, .inl ⟨Gd.wanted (o := ⟨some dst, op, t, pos, after, g⟩) he hg, fun w hw => .inl ⟨w, hp cx.n a w _ he rfl, hw⟩⟩, h.run _ (he.put hd v)⟩
theorem t_load {dst : Nat} {x : Operand} {t ty : TypeId} {pos : String} {after : Array Edge} {g : Option (Nat × Bool)} {p : Addr} {v : Value} (hg : Gd ops e g = some true) (hd : Nat.blt dst cx.n = true) (hx : Env.ev e x = some (.pointer (some p))) (hl : LdOk cx L F t p v)
    (h : T cx ops rest k ((dst, v) :: e) L F Q) : T cx ops (⟨some dst, .load t x, ty, pos, after, g⟩ :: rest) k e L F Q := .mk fun a he =>
  ⟨v, .inl ⟨Gd.wanted (o := ⟨some dst, .load t x, ty, pos, after, g⟩) he hg, fun w hw => .inl ⟨w, by
    simp only [execOp, Instr.loadAt, he.ev hx, Instr.sureAddr, Sem.run_bind, Sem.run_pure, Result.andThen_ok, hl w hw], hw⟩⟩, h.run _ (he.put hd v)⟩
/-- an operation that any world of the state answers so -/
theorem t_any {dst : Nat} {op : Op} {t : TypeId} {pos : String} {after : Array Edge} {g : Option (Nat × Bool)} {v : Value} (hg : Gd ops e g = some true) (hd : Nat.blt dst cx.n = true)
    (hp : ∀ a w (o : Oper), EnvOk cx.n e a → StOk cx L F w → o.op = op → (execOp a.eval o).run cx.P w = .ok (.value v) w) (h : T cx ops rest k ((dst, v) :: e) L F Q) : T cx ops (⟨some dst, op, t, pos, after, g⟩ :: rest) k e L F Q := .mk fun a he =>
  ⟨v, .inl ⟨Gd.wanted (o := ⟨some dst, op, t, pos, after, g⟩) he hg, fun w hw => .inl ⟨w, hp a w _ he hw rfl, hw⟩⟩, h.run _ (he.put hd v)⟩
theorem t_callv {dst : Nat} {fo : Operand} {xs : List Operand} {ts : Array TypeId} {t : TypeId} {pos : String} {after : Array Edge} {g : Option (Nat × Bool)} {f : FuncId} {cap : List Value} {vs : List Value} {Pre : World → Prop} {v : Value}
    (hg : Gd ops e g = some true) (hd : Nat.blt dst cx.n = true) (hf : Env.ev e fo = some (.func (.func f) #[] cap.toArray)) (hx : Env.evs e xs = some vs)
    (hc : Con cx.P f (vs ++ cap) [] Pre (Is v)) (hF : ∀ w, F w → Pre w)
    (h : T cx ops rest k ((dst, v) :: e) L F Q) :
    T cx ops (⟨some dst, .call ⟨.value fo, xs.toArray, ts⟩, t, pos, after, g⟩ :: rest) k e L F Q := .mk fun a he =>
  ⟨v, .inl ⟨Gd.wanted (o := ⟨some dst, .call ⟨.value fo, xs.toArray, ts⟩, t, pos, after, g⟩) he hg, fun w hw => .inr ⟨f, (vs ++ cap).toArray, w, by
    have h1 := hc.enters (vs ++ cap).toArray w
    have h2 := he.evs hx
    simp only [execOp, resolve, he.ev hf, Deferred.ofValue, List.map_toArray, h2, Sem.run_bind, Sem.run_pure, Result.andThen_ok, invoke]
    simpa using h1, by
    refine (hc.run w (cx.M ++ fps L) (StOk.callee (Lin := []) (Lf := L) hw hF)).mono ?_
    rintro en w' ⟨u, L', F', rfl, ⟨rfl, rfl, rfl⟩, hs'⟩
    exact ⟨rfl, (StOk.called (Lin := []) (Lf := L) (L' := []) hw rfl hs').fact fun _ h => h.1⟩⟩⟩, h.run _ (he.put hd v)⟩
theorem t_split {l : List Oper} {d : Nat} {x : Bool} (hx : Env.get e d = some (.bool x)) (h1 : x = true → T cx ops l k ((d, .bool true) :: e) L F Q) (h2 : x = false → T cx ops l k ((d, .bool false) :: e) L F Q) : T cx ops l k e L F Q := .mk fun a he => by
  have hd := he.get d _ hx
  cases x with
  | true => exact (h1 rfl).run a (he.more hd)
  | false => exact (h2 rfl).run a (he.more hd)
theorem t_gs {j d : Nat} {b x : Bool} {dst : Option Nat} {op : Op} {t : TypeId} {pos : String} {after : Array Edge} (_hj : (ops[j]?).bind (·.dst) = some d) (hx : Env.get e d = some (.bool x))
    (h1 : x = true → T cx ops (⟨dst, op, t, pos, after, some (j, b)⟩ :: rest) k ((d, .bool true) :: e) L F Q) (h2 : x = false → T cx ops (⟨dst, op, t, pos, after, some (j, b)⟩ :: rest) k ((d, .bool false) :: e) L F Q) : T cx ops (⟨dst, op, t, pos, after, some (j, b)⟩ :: rest) k e L F Q :=
  t_split hx h1 h2
theorem t_gsd {j d : Nat} {b : Bool} {p : Prop} [inst : Decidable p] {dst : Option Nat} {op : Op} {t : TypeId} {pos : String} {after : Array Edge} (_hj : (ops[j]?).bind (·.dst) = some d) (hx : Env.get e d = some (.bool (decide p)))
    (h1 : p → T cx ops (⟨dst, op, t, pos, after, some (j, b)⟩ :: rest) k ((d, .bool true) :: e) L F Q) (h2 : ¬ p → T cx ops (⟨dst, op, t, pos, after, some (j, b)⟩ :: rest) k ((d, .bool false) :: e) L F Q) : T cx ops (⟨dst, op, t, pos, after, some (j, b)⟩ :: rest) k e L F Q :=
  t_split hx (fun h => h1 (of_decide_eq_true h)) (fun h => h2 (of_decide_eq_false h))
theorem t_gse {α : Type} [DecidableEq α] {j d : Nat} {b : Bool} {p q : α} {dst : Option Nat} {op : Op} {t : TypeId} {pos : String} {after : Array Edge} (_hj : (ops[j]?).bind (·.dst) = some d) (hx : Env.get e d = some (.bool (p == q)))
    (h1 : p = q → T cx ops (⟨dst, op, t, pos, after, some (j, b)⟩ :: rest) k ((d, .bool true) :: e) L F Q) (h2 : p ≠ q → T cx ops (⟨dst, op, t, pos, after, some (j, b)⟩ :: rest) k ((d, .bool false) :: e) L F Q) : T cx ops (⟨dst, op, t, pos, after, some (j, b)⟩ :: rest) k e L F Q :=
  t_split hx (fun h => h1 (by simpa using h)) (fun h => h2 (by simpa using h))
theorem t_gsn {j d : Nat} {b : Bool} {p q : Int} {dst : Option Nat} {op : Op} {t : TypeId} {pos : String} {after : Array Edge} (_hj : (ops[j]?).bind (·.dst) = some d) (hx : Env.get e d = some (.bool (p != q)))
    (h1 : p ≠ q → T cx ops (⟨dst, op, t, pos, after, some (j, b)⟩ :: rest) k ((d, .bool true) :: e) L F Q) (h2 : p = q → T cx ops (⟨dst, op, t, pos, after, some (j, b)⟩ :: rest) k ((d, .bool false) :: e) L F Q) : T cx ops (⟨dst, op, t, pos, after, some (j, b)⟩ :: rest) k e L F Q :=
  t_split hx (fun h => h1 (by simpa using h)) (fun h => h2 (by simpa using h))
theorem t_gsxd {j d : Nat} {b : Bool} {p : Prop} [inst : Decidable p] {dst : Option Nat} {op : Op} {t : TypeId} {pos : String} {after : Array Edge} (_hj : (ops[j]?).bind (·.dst) = some d) (hx : Env.get e d = some (.bool (!decide p)))
    (h1 : ¬ p → T cx ops (⟨dst, op, t, pos, after, some (j, b)⟩ :: rest) k ((d, .bool true) :: e) L F Q) (h2 : p → T cx ops (⟨dst, op, t, pos, after, some (j, b)⟩ :: rest) k ((d, .bool false) :: e) L F Q) : T cx ops (⟨dst, op, t, pos, after, some (j, b)⟩ :: rest) k e L F Q :=
  t_split hx (fun h => h1 (by simpa using h)) (fun h => h2 (by simpa using h))
theorem t_gsx {j d : Nat} {b x : Bool} {dst : Option Nat} {op : Op} {t : TypeId} {pos : String} {after : Array Edge} (_hj : (ops[j]?).bind (·.dst) = some d) (hx : Env.get e d = some (.bool (!x)))
    (h1 : x = false → T cx ops (⟨dst, op, t, pos, after, some (j, b)⟩ :: rest) k ((d, .bool true) :: e) L F Q) (h2 : x = true → T cx ops (⟨dst, op, t, pos, after, some (j, b)⟩ :: rest) k ((d, .bool false) :: e) L F Q) : T cx ops (⟨dst, op, t, pos, after, some (j, b)⟩ :: rest) k e L F Q :=
  t_split hx (fun h => h1 (by simpa using h)) (fun h => h2 (by simpa using h))
theorem t_id {l : List Oper} (h : T cx ops l k e L F Q) : T cx ops l k e L F Q := h
end
end Go.Sx
