/- Sx, part H: regions that draw their order: operations that neither read nor write memory may be taken first, in the text's order; what is left is taken in every order that its edges allow. -/
import Derived.Test.YtlhebakbbfmiiaaDoorSxG
import Derived.Still
namespace Go.Sx
open Go.RowKit

def NoPanic (Q : Exit → Act → World → Prop) : Prop := ∀ ch a w, ¬ Q (.panic ch) a w
theorem noPanic_body {P P' : Program} {fn : Func} {w : World} {I M : List Nat} {Post : Value → Loc → (World → Prop) → Prop} : NoPanic (bodyPost P fn (RPost P' w I M Post)) := by
  rintro ch a w' ⟨_, v, L', F', h, _⟩
  cases h
theorem noPanic_unwind {P : Program} {Q : Exit → Act → World → Prop} (h : NoPanic Q) : ∀ k, NoPanic (unwind P Q k)
  | [] => h
  | .seq _ :: k => fun ch a w hq => noPanic_unwind h k ch a w hq
  | .blk _ :: k => fun ch a w hq => noPanic_unwind h k ch a w hq
  | .loop _ :: k => fun ch a w hq => noPanic_unwind h k ch a w hq
  | .drawn _ _ _ :: k => fun ch a w hq => noPanic_unwind h k ch a w hq
  | .scope :: k => fun ch a w hq => noPanic_unwind h k ch a w hq

/-- Operation oi leaves v in its slot, in whatever world, and leaves the world alone; or it is not wanted. -/
def YP (P : Program) (ops : Array Oper) (oi : Oper) (v : Value) (a : Act) : Prop :=
  (Region.wanted oi (yielded ops a.tmps) = true ∧ ∀ w, (execOp a.eval oi).run P w = .ok (.value v) w) ∨ (Region.wanted oi (yielded ops a.tmps) = false ∧ v = undef)
section
variable {P : Program} {ops : Array Oper} {md : Region.Mode} {Q : Exit → Act → World → Prop}
theorem YP.keep {oi oj : Oper} {v : Value} (hsi : ∀ cs b, oi.op ≠ .select cs b) (h3 : ∀ d, oj.dst = some d → d ∉ oi.looksAt ops) {a : Act} (h : YP P ops oi v a) (u : Value) : YP P ops oi v (a.put oj.dst u) := by
  unfold YP at *
  rw [execOp_put oi hsi a oj.dst u h3, wanted_put oi a oj.dst u h3]
  exact h
theorem YP.wpOp {i : Nat} {oi : Oper} {v : Value} {a : Act} {w : World} {K : Act → World → Prop} (hi : ops[i]? = some oi) (hy : YP P ops oi v a) (h : K (a.put oi.dst v) w) : wpOp P ops Q i K a w := by
  unfold Go.wpOp
  simp only [hi]
  rcases hy with ⟨hw, hr⟩ | ⟨hw, rfl⟩
  · simp only [hw, if_true]
    left
    unfold Oper.wp
    rw [hr]
    exact h
  · simp only [hw, Bool.false_eq_true, if_false]
    exact h
theorem wpOp_put {j : Nat} {oi oj : Oper} {v : Value} (hQ : NoPanic Q) (hj : ops[j]? = some oj) (hap : oi.apart ops oj = true) (hsi : ∀ cs b, oi.op ≠ .select cs b) (hsj : ∀ cs b, oj.op ≠ .select cs b) {K : Act → World → Prop} {a : Act} {w : World}
    (hy : YP P ops oi v a) (h : wpOp P ops Q j K (a.put oi.dst v) w) : wpOp P ops Q j (fun a' w' => YP P ops oi v a' ∧ K (a'.put oi.dst v) w') a w := by
  obtain ⟨h1, h2, h3⟩ := Oper.apart_spec hap
  have comm : ∀ u, (a.put oi.dst v).put oj.dst u = (a.put oj.dst u).put oi.dst v := fun u => Act.put_comm a v u h2
  unfold wpOp at *
  simp only [hj] at *
  rw [wanted_put oj a oi.dst v h1] at h
  split
  · rename_i hw
    simp only [hw, if_true] at h
    rcases h with h | ⟨⟨hm, hk⟩, hl⟩
    · left
      unfold Oper.wp at *
      rw [execOp_put oj hsj a oi.dst v h1] at h
      generalize (execOp a.eval oj).run P w = r at *
      cases r with
      | ok n w' =>
        cases n <;> simp only [Oper.upon] at h ⊢
        case value u => exact ⟨hy.keep hsi h3 u, by rw [← comm]; exact h⟩
        case skip => exact ⟨hy.keep hsi h3 undef, by rw [← comm]; exact h⟩
        case defer d =>
          have hk : YP P ops oi v ({ a with defers := d :: a.defers } : Act) := hy
          refine ⟨hk.keep hsi h3 undef, ?_⟩
          rw [← Act.put_comm _ v undef h2]
          have e1 : ({ a.put oi.dst v with defers := d :: (a.put oi.dst v).defers } : Act) = ({ a with defers := d :: a.defers } : Act).put oi.dst v := by cases oi.dst <;> rfl
          rw [← e1]
          exact h
        case enter f args =>
          refine Calls.mono h fun en w'' hen => ?_
          cases en with
          | returned u => exact ⟨hy.keep hsi h3 u, by rw [← comm]; exact hen⟩
          | panicked ch => exact absurd hen (hQ _ _ _)
          | outgrown => exact hen
        case row s args => exact Rows.mono h fun u w'' hu => ⟨hy.keep hsi h3 u, by rw [← comm]; exact hu⟩
      | halt x w' =>
        cases x <;> simp only [Oper.upon] at h ⊢
        case panic u => exact absurd h (hQ _ _ _)
    · right
      unfold Oper.asks at *
      rw [execOp_put oj hsj a oi.dst v h1] at hm hk
      exact ⟨⟨hm, hk⟩, hl⟩
  · rename_i hw
    simp only [hw] at h
    exact ⟨hy.keep hsi h3 _, by rw [← comm]; exact h⟩
/-- AN OPERATION THAT NEITHER READS NOR WRITES MEMORY MAY BE TAKEN FIRST. -/
theorem wpAny_first {i : Nat} {oi : Oper} {v : Value} (hQ : NoPanic Q) (hi : ops[i]? = some oi) (hsel : ∀ (j : Nat) (o : Oper) cs b, ops[j]? = some o → o.op ≠ .select cs b) :
    ∀ (fuel : Nat) (listed : Array Bool) (a : Act) (w : World),
      (∀ j oj, ops[j]? = some oj → j ≠ i → listed.getD j true = false → (∀ e ∈ oj.after, Region.binds md e = true → e.on ≠ i) → oi.apart ops oj = true) →
      i ∈ Region.ready md ops listed → YP P ops oi v a → wpAny P md ops Q fuel (listed.setIfInBounds i true) (a.put oi.dst v) w → wpAny P md ops Q (fuel + 1) listed a w := by
  intro fuel
  induction fuel with
  | zero =>
    intro listed a w _ hr hy H
    refine ⟨fun h => (by rw [h] at hr; cases hr), fun j hj => ?_⟩
    by_cases hji : j = i
    · subst hji; exact hy.wpOp hi H
    · have := ready_mono hj hji
      rw [H.1] at this
      cases this
  | succ fuel ih =>
    intro listed a w hfree hr hy H
    refine ⟨fun h => (by rw [h] at hr; cases hr), fun j hj => ?_⟩
    by_cases hji : j = i
    · subst hji; exact hy.wpOp hi H
    · have h1 := H.2 j (ready_mono hj hji)
      obtain ⟨hjun, oj, hoj, hall⟩ := mem_ready.1 hj
      have hnot : ∀ e ∈ oj.after, Region.binds md e = true → e.on ≠ i := fun e he hb heq => by
        have h1 := hall e he hb
        have h0 := (mem_ready.1 hr).1
        rw [heq] at h1
        rcases Nat.lt_or_ge i listed.size with h' | h'
        · simp [h'] at h0 h1; rw [h0] at h1; cases h1
        · simp [Array.getElem?_eq_none h'] at h1
      have h2 := wpOp_put hQ hoj (hfree j oj hoj hji hjun hnot) (fun cs b => hsel i oi cs b hi) (fun cs b => hsel j oj cs b hoj) hy h1
      have hfree' : ∀ k ok, ops[k]? = some ok → k ≠ i → (listed.setIfInBounds j true).getD k true = false →
          (∀ e ∈ ok.after, Region.binds md e = true → e.on ≠ i) → oi.apart ops ok = true := fun k ok hk hki hun hno => by
        refine hfree k ok hk hki ?_ hno
        by_cases hjk : j = k
        · subst hjk; exact hjun
        · rw [getD_set_ne true hjk] at hun; exact hun
      refine wpOp_mono (fun a' w' h3 => ih (listed.setIfInBounds j true) a' w' hfree' (ready_mono hr (Ne.symm hji)) h3.1 ?_) h2
      rw [Array.setIfInBounds_comm _ _ hji]
      exact h3.2
end

/-- a region that draws, in the middle of its way -/
structure D (cx : Cx) (ops : Array Oper) (fuel : Nat) (listed : Array Bool) (k : List KI) (e : Env) (L : Loc) (F : World → Prop) (Q : Exit → Act → World → Prop) : Prop where
  run : NoPanic Q → ∀ a w, EnvOk cx.n e a → StOk cx L F w → wpAny cx.P .any ops (unwind cx.P Q k) fuel listed a w
section
variable {cx : Cx} {k : List KI} {e : Env} {L : Loc} {F : World → Prop} {Q : Exit → Act → World → Prop} {ops : Array Oper} {fuel : Nat} {listed : Array Bool}
theorem d_start {id : Nat} {l : List Oper} (hm : cx.P.follows .mixedOrders = true) (hQ : NoPanic Q) (h : D cx l.toArray l.toArray.size (Array.replicate l.toArray.size false) k e L F Q) : G cx (.region id l.toArray true) k e L F Q := .mk fun a w he hs =>
  wp_region_any hm (h.run hQ a _ he (hs.quiet (Chg.drawn [] w _)))
theorem d_end (hr : (Region.ready .any ops listed).isEmpty = true) (h : N cx k e L F Q) : D cx ops fuel listed k e L F Q := .mk fun _ a w he hs => by
  have hr' : Region.ready .any ops listed = [] := by simpa using hr
  cases fuel with
  | zero => exact ⟨hr', h.run a w he hs⟩
  | succ f => exact ⟨fun _ => h.run a w he hs, fun i hi => by rw [hr'] at hi; cases hi⟩
theorem d_fix {i : Nat} {oi : Oper} {v : Value} (hc : (Region.noSelect ops && (Region.ready .any ops listed).contains i && Region.free .any ops listed i) = true) (hi : ops[i]? = some oi)
    (hy : ∀ a, EnvOk cx.n e a → YP cx.P ops oi v a) (hput : ∀ a, EnvOk cx.n e a → EnvOk cx.n ((match oi.dst with | some d => [(d, v)] | none => []) ++ e) (a.put oi.dst v)) (h : D cx ops fuel (listed.setIfInBounds i true) k ((match oi.dst with | some d => [(d, v)] | none => []) ++ e) L F Q) : D cx ops (fuel + 1) listed k e L F Q := .mk fun hQ a w he hs => by
  simp only [Bool.and_eq_true] at hc
  obtain ⟨⟨hs', hr⟩, hf⟩ := hc
  exact wpAny_first (noPanic_unwind hQ k) hi (Region.noSelect_spec hs') fuel listed a w (Region.free_spec hi hf) (by simpa using hr) (hy a he) (h.run hQ _ w (hput a he) hs)
theorem d_pure {dst : Nat} {op : Op} {t : TypeId} {pos : String} {after : Array Edge} {g : Option (Nat × Bool)} {v : Value} (i : Nat) (hi : ops[i]? = some ⟨some dst, op, t, pos, after, g⟩) (hg : Gd ops e g = some true) (hd : Nat.blt dst cx.n = true)
    (hc : (Region.noSelect ops && (Region.ready .any ops listed).contains i && Region.free .any ops listed i) = true) (hp : Pure cx.P e op v) (h : D cx ops fuel (listed.setIfInBounds i true) k ((dst, v) :: e) L F Q) : D cx ops (fuel + 1) listed k e L F Q :=
  d_fix hc hi (fun a he => .inl ⟨Gd.wanted (o := ⟨some dst, op, t, pos, after, g⟩) he hg, fun w => hp cx.n a w _ he rfl⟩) (fun _ he => he.put hd v) h
theorem d_off {dst : Nat} {op : Op} {t : TypeId} {pos : String} {after : Array Edge} {g : Option (Nat × Bool)} (i : Nat) (hi : ops[i]? = some ⟨some dst, op, t, pos, after, g⟩) (hg : Gd ops e g = some false) (hd : Nat.blt dst cx.n = true)
    (hc : (Region.noSelect ops && (Region.ready .any ops listed).contains i && Region.free .any ops listed i) = true) (h : D cx ops fuel (listed.setIfInBounds i true) k ((dst, undef) :: e) L F Q) : D cx ops (fuel + 1) listed k e L F Q :=
  d_fix hc hi (fun _ he => .inr ⟨Gd.wanted (o := ⟨some dst, op, t, pos, after, g⟩) he hg, rfl⟩) (fun _ he => he.put hd undef) h
theorem d_split {d : Nat} {x : Bool} (hx : Env.get e d = some (.bool x)) (h1 : x = true → D cx ops fuel listed k ((d, .bool true) :: e) L F Q) (h2 : x = false → D cx ops fuel listed k ((d, .bool false) :: e) L F Q) : D cx ops fuel listed k e L F Q := .mk fun hQ a w he hs => by
  have hd := he.get d _ hx
  cases x with
  | true => exact (h1 rfl).run hQ a w (he.more hd) hs
  | false => exact (h2 rfl).run hQ a w (he.more hd) hs
theorem wpOp_of_list {P : Program} {Q : Exit → Act → World → Prop} {i : Nat} {o : Oper} {K : Act → World → Prop} {a : Act} {w : World} (hi : ops[i]? = some o) (h : wpList P ops (Exit.then K Q) [o] a w) : wpOp P ops Q i K a w := by
  unfold wpOp
  simp only [hi]
  simp only [wpList] at h
  split
  · rename_i hw
    simp only [hw, if_true] at h
    rcases h with h | ⟨h1, h2⟩
    · left
      unfold Oper.wp at *
      generalize (execOp a.eval o).run P w = r at *
      cases r with
      | ok n w' =>
        cases n <;> simp only [Oper.upon] at h ⊢ <;> first
          | exact h
          | exact Calls.mono h (fun en w'' hen => by cases en <;> exact hen)
      | halt x w' => cases x <;> simp only [Oper.upon] at h ⊢ <;> exact h
    · right
      exact ⟨h1, h2⟩
  · rename_i hw
    simp only [hw] at h
    exact h
/-- one operation is left to be taken -/
theorem d_one {o : Oper} (i : Nat) (hi : ops[i]? = some o) (hr : (Region.ready .any ops listed == [i]) = true) (h : O cx ops [o] (.drawn ops fuel (listed.setIfInBounds i true) :: k) e L F Q) : D cx ops (fuel + 1) listed k e L F Q := .mk fun _ a w he hs => by
  have hr' : Region.ready .any ops listed = [i] := by simpa using hr
  refine ⟨fun h0 => (by rw [hr'] at h0; cases h0), fun j hj => ?_⟩
  rw [hr'] at hj
  simp only [List.mem_singleton] at hj
  subst hj
  exact wpOp_of_list hi (h.run a w he hs)
/-- two are: in both orders -/
theorem d_two {o o' : Oper} (i j : Nat) (hi : ops[i]? = some o) (hj : ops[j]? = some o') (hr : (Region.ready .any ops listed == [i, j]) = true) (h : O cx ops [o] (.drawn ops fuel (listed.setIfInBounds i true) :: k) e L F Q) (h' : O cx ops [o'] (.drawn ops fuel (listed.setIfInBounds j true) :: k) e L F Q) : D cx ops (fuel + 1) listed k e L F Q := .mk fun _ a w he hs => by
  have hr' : Region.ready .any ops listed = [i, j] := by simpa using hr
  refine ⟨fun h0 => (by rw [hr'] at h0; cases h0), fun q hq => ?_⟩
  rw [hr'] at hq
  simp only [List.mem_cons, List.not_mem_nil, or_false] at hq
  rcases hq with rfl | rfl
  · exact wpOp_of_list hi (h.run a w he hs)
  · exact wpOp_of_list hj (h'.run a w he hs)
theorem n_drawn (hQ : NoPanic Q) (h : D cx ops fuel listed k e L F Q) : N cx (.drawn ops fuel listed :: k) e L F Q := .mk fun a w he hs => h.run hQ a w he hs
end
end Go.Sx
