/- Sx, part C: contracts, calls, returns; what is owned is dropped, or becomes a fact. -/
import Derived.Test.YtlhebakbbfmiiaaDoorSxB
namespace Go.Sx
open Go.RowKit

/-- A call of f enters it. -/
def Enters (P : Program) (f : FuncId) : Prop := ∀ args w, (callFunc f args).run P w = .ok (.enter f args) w
theorem enters_of {P : Program} {f : FuncId} {fn : Func} (hf : P.funcs[f]? = some fn) (hb : fn.body.isNone = false) (hn : (fn.name == "runtime.NumGoroutine") = false) : Enters P f := by
  intro args w
  have hn' : ¬ fn.name = "runtime.NumGoroutine" := by simpa using hn
  obtain ⟨c, hc⟩ : ∃ c, fn.body = some c := by
    cases h : fn.body with
    | none => rw [h] at hb; cases hb
    | some c => exact ⟨c, rfl⟩
  simp [callFunc, go_sem, hf, hc, hn']

/-- THE CONTRACT: whatever else lies in memory (M: what the caller may still write), lent the blocks of Lin and knowing Pre, the call returns v, hands back L', and F' holds of the rest. -/
structure Con (P : Program) (f : FuncId) (args : List Value) (Lin : Loc) (Pre : World → Prop) (Post : Value → Loc → (World → Prop) → Prop) : Prop where
  enters : Enters P f
  run : ∀ (w : World) (M : List Nat), StOk ⟨P, 0, w, fps Lin, M⟩ Lin Pre w →
    Calls P f args.toArray w fun en w' => ∃ v L' F', en = .returned v ∧ Post v L' F' ∧ StOk ⟨P, 0, w, fps Lin, M⟩ L' F' w'
def envOf : Nat → List Value → Env
  | _, [] => []
  | i, v :: vs => (i, v) :: envOf (i + 1) vs
theorem envOf_get : ∀ (vs : List Value) (i k : Nat) (v : Value), Env.get (envOf i vs) k = some v → i ≤ k ∧ vs[k - i]? = some v
  | [], i, k, v, h => by simp [envOf, Env.get] at h
  | u :: vs, i, k, v, h => by
    simp only [envOf, Env.get] at h
    cases hb : Nat.beq i k with
    | true =>
      rw [hb] at h
      have hk : i = k := Nat.eq_of_beq_eq_true hb
      subst hk
      simp only [Option.some.injEq] at h
      subst h
      simp
    | false =>
      rw [hb] at h
      have hne : i ≠ k := Nat.ne_of_beq_eq_false hb
      obtain ⟨h1, h2⟩ := envOf_get vs (i + 1) k v h
      refine ⟨by omega, ?_⟩
      have : k - i = (k - (i + 1)) + 1 := by omega
      rw [this]
      simpa using h2
def RPost (P : Program) (w : World) (I M : List Nat) (Post : Value → Loc → (World → Prop) → Prop) (en : Ending) (w' : World) : Prop :=
  ∃ v L' F', en = .returned v ∧ Post v L' F' ∧ StOk ⟨P, 0, w, I, M⟩ L' F' w'
theorem StOk.n {P : Program} {n m : Nat} {w0 w : World} {I M : List Nat} {L : Loc} {F : World → Prop} (h : StOk ⟨P, n, w0, I, M⟩ L F w) : StOk ⟨P, m, w0, I, M⟩ L F w :=
  ⟨h.chg, h.ok, h.nodup, h.own, h.away, h.rob⟩
/-- HOW A CONTRACT IS PROVED -/
theorem con_intro {P : Program} {f : FuncId} {fn : Func} {n : Nat} {c : Code} {args : List Value} {Lin : Loc} {Pre : World → Prop} {Post : Value → Loc → (World → Prop) → Prop}
    (hf : P.funcs[f]? = some fn) (hn : fn.ntmps = n) (hb : fn.body = some c) (hname : (fn.name == "runtime.NumGoroutine") = false) (hsz : Nat.ble args.length n = true)
    (h : ∀ w M, G ⟨P, n, w, fps Lin, M⟩ c [] (envOf 0 args) Lin Pre (bodyPost P fn (RPost P w (fps Lin) M Post))) : Con P f args Lin Pre Post := by
  refine ⟨enters_of hf (by rw [hb]; rfl) hname, fun w M hs => ?_⟩
  have hle : args.length ≤ n := by simpa using hsz
  refine calls_of_wp hf hb ((h w M).run _ w ⟨rfl, ?_, ?_⟩ hs.n)
  · simp [hn]
    omega
  · intro k v hk
    obtain ⟨_, h2⟩ := envOf_get args 0 k v hk
    simp only [Nat.sub_zero] at h2
    have hlt : k < args.length := by
      rcases Nat.lt_or_ge k args.length with h | h
      · exact h
      · simp [List.getElem?_eq_none h] at h2
    simp only [Array.getElem?_append, List.size_toArray, hlt, if_true]
    simpa using h2
/-- weaker premises, stronger conclusions -/
theorem Con.mono {P : Program} {f : FuncId} {args : List Value} {Lin : Loc} {Pre Pre' : World → Prop} {Post Post' : Value → Loc → (World → Prop) → Prop} (h : Con P f args Lin Pre Post) (h1 : ∀ w, Pre' w → Pre w) (h2 : ∀ v L F, Post v L F → Post' v L F) : Con P f args Lin Pre' Post' :=
  ⟨h.enters, fun w M hs => (h.run w M (hs.fact h1)).mono fun _ _ ⟨v, L', F', a, b, c⟩ => ⟨v, L', F', a, h2 _ _ _ b, c⟩⟩
/-- what a contract says at a call from outside -/
theorem Con.calls {P : Program} {f : FuncId} {args : List Value} {Pre : World → Prop} {Post : Value → Loc → (World → Prop) → Prop} (h : Con P f args [] Pre Post) (w : World) (hp : ∀ w', Below w.heap.size w w' → Pre w') :
    Calls P f args.toArray w fun en w' => ∃ v L' F', en = .returned v ∧ Post v L' F' ∧ F' w' ∧ Below w.heap.size w w' :=
  (h.run w [] ⟨Chg.refl _ _, by simp, by simp [fps], by simp [fps], by simp, fun w' hc => hp w' (Chg.below (by simpa [fps] using hc))⟩).mono fun _ _ ⟨v, L', F', a, b, c⟩ => ⟨v, L', F', a, b, c.here, Chg.below (by simpa [fps] using c.chg)⟩

section
variable {cx : Cx} {k : List KI} {e : Env} {L : Loc} {F : World → Prop} {Q : Exit → Act → World → Prop} {ops : Array Oper} {rest : List Oper}
theorem fps_append (A B : Loc) : fps (A ++ B) = fps A ++ fps B := by simp [fps]
theorem fps_cons (x : Ent) (B : Loc) : fps (x :: B) = x.fp ++ fps B := by simp [fps]
theorem StOk.perm {L2 : Loc} {w : World} (h : StOk cx L F w) (hp : L.Perm L2) : StOk cx L2 F w := by
  have hf : (fps L).Perm (fps L2) := hp.flatMap_right _
  refine ⟨h.chg, fun x hx => h.ok x (hp.mem_iff.2 hx), hf.nodup_iff.1 h.nodup, fun b hb => h.own b (hf.mem_iff.2 hb), h.away, h.rob.mono ?_⟩
  intro x hx
  simp only [List.mem_append] at hx ⊢
  exact hx.imp id hf.mem_iff.2
/-- a part that is no longer wanted -/
theorem StOk.drop {x : Ent} {w : World} (h : StOk cx (x :: L) F w) : StOk cx L F w := by
  have hn := h.nodup
  rw [fps_cons] at hn
  exact ⟨h.chg, fun y hy => h.ok y (by simp [hy]), (List.nodup_append.1 hn).2.1, fun b hb => h.own b (by rw [fps_cons]; simp [hb]), h.away, h.rob.mono (by
    intro y hy
    rw [fps_cons]
    simp only [List.mem_append] at hy ⊢
    rcases hy with hy | hy
    · exact .inl hy
    · exact .inr (.inr hy))⟩
/-- a part that is done becomes a fact -/
theorem StOk.freeze {x : Ent} {w : World} (h : StOk cx (x :: L) F w) : StOk cx L (fun w => F w ∧ x.ok w) w := by
  have hd := h.drop
  refine ⟨hd.chg, hd.ok, hd.nodup, hd.own, hd.away, hd.rob.and ?_⟩
  intro w' hc
  refine Ent.ok_chg (h.ok x (by simp)) hc fun b hb hm => ?_
  have hbx : b ∈ fps (x :: L) := by rw [fps_cons]; simp [hb]
  simp only [List.mem_append] at hm
  rcases hm with hm | hm
  · exact h.disj b hm hbx
  · have hn := h.nodup
    rw [fps_cons] at hn
    exact (List.nodup_append.1 hn).2.2 b hb b hm rfl
theorem o_perm {l : List Oper} {L2 : Loc} (hp : L.Perm L2) (h : O cx ops l k e L2 F Q) : O cx ops l k e L F Q := .mk fun a w he hs => h.run a w he (hs.perm hp)
theorem g_perm {c : Code} {L2 : Loc} (hp : L.Perm L2) (h : G cx c k e L2 F Q) : G cx c k e L F Q := .mk fun a w he hs => h.run a w he (hs.perm hp)
theorem n_perm {L2 : Loc} (hp : L.Perm L2) (h : N cx k e L2 F Q) : N cx k e L F Q := .mk fun a w he hs => h.run a w he (hs.perm hp)
theorem o_drop {l : List Oper} {x : Ent} (h : O cx ops l k e L F Q) : O cx ops l k e (x :: L) F Q := .mk fun a w he hs => h.run a w he hs.drop
theorem g_drop {c : Code} {x : Ent} (h : G cx c k e L F Q) : G cx c k e (x :: L) F Q := .mk fun a w he hs => h.run a w he hs.drop
theorem n_drop {x : Ent} (h : N cx k e L F Q) : N cx k e (x :: L) F Q := .mk fun a w he hs => h.run a w he hs.drop
theorem gl_drop {c : Code} {x : Ent} (h : GL cx c k e L F Q) : GL cx c k e (x :: L) F Q := .mk fun a w he hs => h.run a w he hs.drop
theorem o_freeze {l : List Oper} {x : Ent} (h : O cx ops l k e L (fun w => F w ∧ x.ok w) Q) : O cx ops l k e (x :: L) F Q := .mk fun a w he hs => h.run a w he hs.freeze
theorem g_freeze {c : Code} {x : Ent} (h : G cx c k e L (fun w => F w ∧ x.ok w) Q) : G cx c k e (x :: L) F Q := .mk fun a w he hs => h.run a w he hs.freeze
theorem n_freeze {x : Ent} (h : N cx k e L (fun w => F w ∧ x.ok w) Q) : N cx k e (x :: L) F Q := .mk fun a w he hs => h.run a w he hs.freeze

/-- behind a call -/
theorem StOk.called {Lin Lf L' : Loc} {F' : World → Prop} {w w' : World} {M' : List Nat} (h : StOk cx (Lin ++ Lf) F w) (hM : M' = cx.M ++ fps Lf) (h' : StOk ⟨cx.P, 0, w, fps Lin, M'⟩ L' F' w') : StOk cx (L' ++ Lf) (fun w => F w ∧ F' w) w' := by
  subst hM
  have hn := h.nodup
  rw [fps_append] at hn
  obtain ⟨n1, n2, n3⟩ := List.nodup_append.1 hn
  have hlt := h.lt
  have own' : ∀ b, b ∈ fps L' → b ∈ fps Lin ∨ w.heap.size ≤ b := h'.own
  have chg' : Chg (fps Lin) w w' := h'.chg
  have hL'f : ∀ b, b ∈ fps L' → b ∉ fps Lf := fun b hb hm => by
    rcases own' b hb with hi | hi
    · exact n3 b hi b hm rfl
    · have := hlt b (by rw [fps_append]; simp [hm]); omega
  refine ⟨?_, ?_, ?_, ?_, h.away, ?_⟩
  · have hc := h.chg
    refine ⟨chg'.os.trans hc.os, chg'.tape.trans hc.tape, chg'.output.trans hc.output, Nat.le_trans hc.size chg'.size, fun i hi hni => ?_⟩
    rw [chg'.block i (Nat.lt_of_lt_of_le hi hc.size) (fun hm => ?_)]
    · exact hc.block i hi hni
    · rcases h.own i (by rw [fps_append]; simp [hm]) with ho | ho
      · exact hni ho
      · omega
  · intro x hx
    simp only [List.mem_append] at hx
    rcases hx with hx | hx
    · exact h'.ok x hx
    · refine Ent.ok_chg (h.ok x (by simp [hx])) chg' fun b hb hm => ?_
      exact n3 b hm b (by simp only [fps, List.mem_flatMap]; exact ⟨x, hx, hb⟩) rfl
  · rw [fps_append]
    exact List.nodup_append.2 ⟨h'.nodup, n2, fun a ha b hb hab => by subst hab; exact hL'f a ha hb⟩
  · intro b hb
    rw [fps_append] at hb
    simp only [List.mem_append] at hb
    rcases hb with hb | hb
    · rcases own' b hb with hi | hi
      · exact h.own b (by rw [fps_append]; simp [hi])
      · right; have := h.chg.size; omega
    · exact h.own b (by rw [fps_append]; simp [hb])
  · refine Rob.and (h.rob.fresh (chg'.mono ?_) ?_) (h'.rob.mono ?_)
    · intro x hx
      rw [fps_append]
      simp [hx]
    · intro b hb hnb
      rw [fps_append] at hb hnb
      simp only [List.mem_append, not_or] at hb hnb
      rcases hb with hb | hb | hb
      · exact absurd hb hnb.1
      · rcases own' b hb with hi | hi
        · exact absurd hi hnb.2.1
        · exact hi
      · exact absurd hb hnb.2.2
    · intro x hx
      rw [fps_append] at hx
      simp only [List.mem_append] at hx ⊢
      rcases hx with hx | hx | hx
      · exact .inl (.inl hx)
      · exact .inr hx
      · exact .inl (.inr hx)
theorem StOk.callee {Lin Lf : Loc} {Pre : World → Prop} {w : World} (h : StOk cx (Lin ++ Lf) F w) (hF : ∀ w, F w → Pre w) : StOk ⟨cx.P, 0, w, fps Lin, cx.M ++ fps Lf⟩ Lin Pre w := by
  have hn := h.nodup
  rw [fps_append] at hn
  obtain ⟨n1, n2, n3⟩ := List.nodup_append.1 hn
  refine ⟨Chg.refl _ _, fun x hx => h.ok x (by simp [hx]), n1, fun b hb => .inl hb, ?_, (h.rob.imp hF).mono ?_⟩
  · intro b hb
    simp only [List.mem_append] at hb
    rcases hb with hb | hb
    · exact ⟨Nat.lt_of_lt_of_le (h.away b hb).1 h.chg.size, fun hm => h.disj b hb (by rw [fps_append]; simp [hm])⟩
    · exact ⟨h.lt b (by rw [fps_append]; simp [hb]), fun hm => n3 b hm b hb rfl⟩
  · intro x hx
    rw [fps_append]
    simp only [List.mem_append] at hx ⊢
    rcases hx with (hx | hx) | hx
    · exact .inl hx
    · exact .inr (.inr hx)
    · exact .inr (.inl hx)

/-- A CALL, by the callee's contract. -/
theorem o_call {dst : Nat} {fo : Operand} {xs : List Operand} {ts : Array TypeId} {t : TypeId} {pos : String} {after : Array Edge} {g : Option (Nat × Bool)} {f : FuncId} {cap : List Value} {vs : List Value} {Lin Lf : Loc} {Pre : World → Prop} {Post : Value → Loc → (World → Prop) → Prop}
    (hg : Gd ops e g = some true) (hd : Nat.blt dst cx.n = true) (hf : Env.ev e fo = some (.func (.func f) #[] cap.toArray)) (hx : Env.evs e xs = some vs)
    (hc : Con cx.P f (vs ++ cap) Lin Pre Post) (hF : ∀ w, F w → Pre w)
    (h : ∀ v L' F', Post v L' F' → O cx ops rest k ((dst, v) :: e) (L' ++ Lf) (fun w => F w ∧ F' w) Q) :
    O cx ops (⟨some dst, .call ⟨.value fo, xs.toArray, ts⟩, t, pos, after, g⟩ :: rest) k e (Lin ++ Lf) F Q := .mk fun a w he hs => by
  have hw := Gd.wanted (o := ⟨some dst, .call ⟨.value fo, xs.toArray, ts⟩, t, pos, after, g⟩) he hg
  simp only [wpList, hw, if_true, Oper.wp]
  left
  have hrun : (execOp a.eval ⟨some dst, .call ⟨.value fo, xs.toArray, ts⟩, t, pos, after, g⟩).run cx.P w = .ok (.enter f (vs ++ cap).toArray) w := by
    have h1 := hc.enters (vs ++ cap).toArray w
    have h2 := he.evs hx
    simp only [execOp, resolve, he.ev hf, Deferred.ofValue, List.map_toArray, h2, Sem.run_bind, Sem.run_pure, Result.andThen_ok, invoke]
    simpa using h1
  rw [hrun]
  simp only [Oper.upon]
  refine (hc.run w (cx.M ++ fps Lf) (hs.callee hF)).mono ?_
  rintro en w' ⟨v, L', F', rfl, hP, hs'⟩
  exact (h v L' F' hP).run _ w' (he.put hd v) (hs.called rfl hs')
/-- A call that lends nothing. -/
theorem o_call0 {dst : Nat} {fo : Operand} {xs : List Operand} {ts : Array TypeId} {t : TypeId} {pos : String} {after : Array Edge} {g : Option (Nat × Bool)} {f : FuncId} {cap : List Value} {vs : List Value} {Pre : World → Prop} {Post : Value → Loc → (World → Prop) → Prop}
    (hg : Gd ops e g = some true) (hd : Nat.blt dst cx.n = true) (hf : Env.ev e fo = some (.func (.func f) #[] cap.toArray)) (hx : Env.evs e xs = some vs)
    (hc : Con cx.P f (vs ++ cap) [] Pre Post) (hF : ∀ w, F w → Pre w)
    (h : ∀ v L' F', Post v L' F' → O cx ops rest k ((dst, v) :: e) (L' ++ L) (fun w => F w ∧ F' w) Q) :
    O cx ops (⟨some dst, .call ⟨.value fo, xs.toArray, ts⟩, t, pos, after, g⟩ :: rest) k e L F Q := o_call (Lin := []) hg hd hf hx hc hF h
/-- What a function that makes nothing hands back. -/
def Is (v : Value) : Value → Loc → (World → Prop) → Prop := fun u L F => u = v ∧ L = [] ∧ F = fun _ => True
/-- A call of a function of whose results nothing lies in memory. -/
theorem o_callv {dst : Nat} {fo : Operand} {xs : List Operand} {ts : Array TypeId} {t : TypeId} {pos : String} {after : Array Edge} {g : Option (Nat × Bool)} {f : FuncId} {cap : List Value} {vs : List Value} {Pre : World → Prop} {v : Value}
    (hg : Gd ops e g = some true) (hd : Nat.blt dst cx.n = true) (hf : Env.ev e fo = some (.func (.func f) #[] cap.toArray)) (hx : Env.evs e xs = some vs)
    (hc : Con cx.P f (vs ++ cap) [] Pre (Is v)) (hF : ∀ w, F w → Pre w)
    (h : O cx ops rest k ((dst, v) :: e) L F Q) :
    O cx ops (⟨some dst, .call ⟨.value fo, xs.toArray, ts⟩, t, pos, after, g⟩ :: rest) k e L F Q :=
  o_call0 hg hd hf hx hc hF fun u L' F' ⟨hu, hL, hF'⟩ => by
    rw [hu, hL, hF']
    exact o_fact (fun w hw => hw.1) h

/-! ## loops -/
/-- A LOOP: st x: what is known at the head of a round; each round leads on to a lesser one. -/
theorem gl_ind {α : Type} {body : Code} (inv : α → Prop) (st : α → Env) (Lf : α → Loc) (Ff : α → World → Prop) (μ : α → Nat)
    (round : ∀ x, inv x → (∀ y, inv y → μ y < μ x → GL cx body k (st y) (Lf y) (Ff y) Q) → G cx body (.loop body :: k) (st x) (Lf x) (Ff x) Q)
    (x0 : α) (h0 : inv x0) (hs : Env.Sub e (st x0)) (hF : ∀ w, F w → Ff x0 w) (hL : L = Lf x0) : GL cx body k e L F Q := by
  have key : ∀ (n : Nat) (x : α), μ x = n → inv x → GL cx body k (st x) (Lf x) (Ff x) Q := by
    intro n
    induction n using Nat.strongRecOn with
    | _ n ih =>
      intro x hn hi
      exact gl_round (round x hi fun y hy hlt => ih (μ y) (hn ▸ hlt) y rfl hy)
  rw [hL]
  exact gl_weak hs hF (key _ x0 rfl h0)

theorem n_ih {body : Code} {e2 : Env} {F2 : World → Prop} {L2 : Loc} (h : GL cx body k e2 L2 F2 Q) (hs : Env.Sub e e2) (hF : ∀ w, F w → F2 w) (hL : L = L2 := by rfl) : N cx (.loop body :: k) e L F Q := by
  rw [hL]
  exact n_loop (gl_weak hs hF h)

/-! ## the end of a function -/
/-- what is left, brought into the form that the contract wants -/
structure Rt (cx : Cx) (L : Loc) (F : World → Prop) (Φ : Loc → (World → Prop) → Prop) : Prop where
  run : ∀ w, StOk cx L F w → ∃ L' F', Φ L' F' ∧ StOk cx L' F' w
variable {Φ : Loc → (World → Prop) → Prop}
theorem rt_here (h : Φ L F) : Rt cx L F Φ := .mk fun _ hs => ⟨L, F, h, hs⟩
theorem rt_drop {x : Ent} (h : Rt cx L F Φ) : Rt cx (x :: L) F Φ := .mk fun w hs => h.run w hs.drop
theorem rt_freeze {x : Ent} (h : Rt cx L (fun w => F w ∧ x.ok w) Φ) : Rt cx (x :: L) F Φ := .mk fun w hs => h.run w hs.freeze
theorem rt_fact {G : World → Prop} (hF : ∀ w, F w → G w) (h : Rt cx L G Φ) : Rt cx L F Φ := .mk fun w hs => h.run w (hs.fact hF)
theorem rt_perm {L2 : Loc} (hp : L.Perm L2) (h : Rt cx L2 F Φ) : Rt cx L F Φ := .mk fun w hs => h.run w (hs.perm hp)
theorem StOk.nil : ∀ {L : Loc} {w : World}, StOk cx L F w → StOk cx [] F w
  | [], _, h => h
  | _ :: _, _, h => StOk.nil h.drop
/-- nothing that was made is handed back -/
theorem rt_nil (h : Φ [] fun _ => True) : Rt cx L F Φ := .mk fun _ hs => ⟨[], _, h, (hs.nil).fact fun _ _ => trivial⟩
theorem rt_is {u v : Value} (h : u = v) : Rt cx L F (Is v u) := rt_nil ⟨h, rfl, rfl⟩

def resv : List Value → Value
  | [v] => v
  | vs => .tuple vs.toArray
/-- A result: in a slot; or in a variable of its own, which holds v. -/
def RV (cx : Cx) (e : Env) (L : Loc) (F : World → Prop) : ResultVar → Value → Prop
  | .tmp t, v => Env.get e t = some v
  | .cell a t, v => ∃ p, Env.get e a = some (.pointer (some p)) ∧ ∀ w, StOk cx L F w → (loadVar t p).run cx.P w = .ok v w
def RVs (cx : Cx) (e : Env) (L : Loc) (F : World → Prop) : List ResultVar → List Value → Prop
  | [], [] => True
  | r :: rs, v :: vs => RV cx e L F r v ∧ RVs cx e L F rs vs
  | _, _ => False
def rdv (tmps : Array Value) : ResultVar → Sem Value
  | .tmp t => pure (tmps.getD t undef)
  | .cell a t => do loadVar t (← asAddr (tmps.getD a undef))
theorem RVs.run {a : Act} {w : World} (he : EnvOk cx.n e a) (hs : StOk cx L F w) : ∀ {rs : List ResultVar} {vs : List Value}, RVs cx e L F rs vs → Sem.run cx.P (rs.mapM (rdv a.tmps)) w = Result.ok vs w
  | [], [], _ => by simp [go_sem]
  | [], _ :: _, h => h.elim
  | _ :: _, [], h => h.elim
  | .tmp t :: rs, v :: vs, h => by
    have h1 : a.tmps[t]? = some v := he.get t v h.1
    have h2 := RVs.run he hs h.2
    simp only [List.mapM_cons, rdv, Sem.run_bind, Sem.run_pure, Result.andThen_ok, Array.getD_eq_getD_getElem?, h1, Option.getD_some, h2]
  | .cell a' t :: rs, v :: vs, h => by
    obtain ⟨⟨p, hp, hl⟩, hr⟩ := h
    have h1 : a.tmps[a']? = some _ := he.get a' _ hp
    have h2 := RVs.run he hs hr
    have h3 := hl w hs
    simp only [List.mapM_cons, rdv, Sem.run_bind, Sem.run_pure, Result.andThen_ok, Array.getD_eq_getD_getElem?, h1, Option.getD_some, h2, asAddr, h3]
theorem results_eq (fn : Func) (tmps : Array Value) : results fn tmps = (do let vs ← fn.results.mapM (rdv tmps); pure (if h : vs.size = 1 then vs[0] else .tuple vs)) := by
  unfold results
  congr 1
theorem g_ret_of {P : Program} {n : Nat} {w0 : World} {I M : List Nat} {fn : Func} {rs : List ResultVar} {vs : List Value} {v : Value} {Post : Value → Loc → (World → Prop) → Prop} (hres : fn.results = rs.toArray) (hv : RVs ⟨P, n, w0, I, M⟩ e L F rs vs) (hvs : resv vs = v)
    (hp : Rt ⟨P, n, w0, I, M⟩ L F (Post v)) : G ⟨P, n, w0, I, M⟩ .ret k e L F (bodyPost P fn (RPost P w0 I M Post)) := by
  refine g_ret fun a w he hs => ?_
  obtain ⟨L', F', hP, hs'⟩ := hp.run w hs
  refine ⟨he.defers, v, ?_, v, L', F', rfl, hP, hs'.n⟩
  have hr := RVs.run he hs hv
  rw [results_eq, hres]
  simp only [List.mapM_toArray, Sem.run_bind, map_eq_pure_bind, Sem.run_pure, hr, Result.andThen_ok]
  congr 1
  rw [← hvs]
  match vs with
  | [] => rfl
  | [v] => rfl
  | _ :: _ :: _ => simp [resv]
section
variable {P : Program} {n : Nat} {w0 : World} {I M : List Nat} {fn : Func} {Post : Value → Loc → (World → Prop) → Prop} {t1 t2 t3 : Nat} {v1 v2 v3 : Value}
theorem g_ret1 (hres : fn.results = #[.tmp t1]) (h1 : Env.get e t1 = some v1) (hp : Rt ⟨P, n, w0, I, M⟩ L F (Post v1)) : G ⟨P, n, w0, I, M⟩ .ret k e L F (bodyPost P fn (RPost P w0 I M Post)) :=
  g_ret_of (rs := [.tmp t1]) (vs := [v1]) hres ⟨h1, trivial⟩ rfl hp
theorem g_ret2 (hres : fn.results = #[.tmp t1, .tmp t2]) (h1 : Env.get e t1 = some v1) (h2 : Env.get e t2 = some v2) (hp : Rt ⟨P, n, w0, I, M⟩ L F (Post (.tuple #[v1, v2]))) : G ⟨P, n, w0, I, M⟩ .ret k e L F (bodyPost P fn (RPost P w0 I M Post)) :=
  g_ret_of (rs := [.tmp t1, .tmp t2]) (vs := [v1, v2]) hres ⟨h1, h2, trivial⟩ rfl hp
theorem g_ret3 (hres : fn.results = #[.tmp t1, .tmp t2, .tmp t3]) (h1 : Env.get e t1 = some v1) (h2 : Env.get e t2 = some v2) (h3 : Env.get e t3 = some v3) (hp : Rt ⟨P, n, w0, I, M⟩ L F (Post (.tuple #[v1, v2, v3]))) : G ⟨P, n, w0, I, M⟩ .ret k e L F (bodyPost P fn (RPost P w0 I M Post)) :=
  g_ret_of (rs := [.tmp t1, .tmp t2, .tmp t3]) (vs := [v1, v2, v3]) hres ⟨h1, h2, h3, trivial⟩ rfl hp
end
end
end Go.Sx
