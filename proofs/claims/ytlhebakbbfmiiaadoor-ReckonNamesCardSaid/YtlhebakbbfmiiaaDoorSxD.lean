/- Sx, part D: the operations that leave the world alone. -/
import Derived.Test.YtlhebakbbfmiiaaDoorSxC
namespace Go.Sx
open Go.RowKit

/-- a string by its bytes -/
abbrev S (l : List UInt8) : Value := .string ⟨l.toArray⟩
/-- the byte at a place -/
def byt (l : List UInt8) (i : Int) : Int := ((l.getD i.toNat 0).toNat : Int)
/-- the bytes from one place to another -/
def cut (l : List UInt8) (a b : Int) : List UInt8 := (l.drop a.toNat).take (b.toNat - a.toNat)
theorem byt_range (l : List UInt8) (i : Int) : 0 ≤ byt l i ∧ byt l i ≤ 255 := by
  unfold byt
  have := (l.getD i.toNat 0).toNat_lt
  omega
theorem byt_nat (l : List UInt8) (i : Nat) (h : i < l.length) : byt l i = (l[i].toNat : Int) := by
  simp [byt, List.getD_eq_getElem?_getD, h]
theorem toList_mk (l : List UInt8) : (ByteArray.mk l.toArray).toList = l := by
  simp [ByteArray.toList_eq]
theorem toList_inj (s : ByteArray) : s = ⟨s.data.toList.toArray⟩ := by cases s; simp

/-! what a type is: closed questions -/
def tyS (P : Program) (t : TypeId) : Bool := match P.underlying t with | some .string => true | _ => false
def tyB (P : Program) (t : TypeId) : Bool := match P.underlying t with | some .bool => true | _ => false
def tySl (P : Program) (t : TypeId) : Bool := match P.underlying t with | some (.slice _) => true | _ => false
def tyI (P : Program) (t : TypeId) (k : IntKind) : Bool := match P.underlying t with | some (.int k') => k' == k | _ => false
def tySome (P : Program) (t : TypeId) : Bool := (P.underlying t).isSome
theorem tyS_spec {P : Program} {t : TypeId} (h : tyS P t = true) : P.underlying t = some .string := by
  unfold tyS at h; split at h
  · assumption
  · cases h
theorem tyB_spec {P : Program} {t : TypeId} (h : tyB P t = true) : P.underlying t = some .bool := by
  unfold tyB at h; split at h
  · assumption
  · cases h
theorem tySl_spec {P : Program} {t : TypeId} (h : tySl P t = true) : ∃ u, P.underlying t = some (.slice u) := by
  unfold tySl at h; split at h
  · exact ⟨_, by assumption⟩
  · cases h
theorem tyI_spec {P : Program} {t : TypeId} {k : IntKind} (h : tyI P t k = true) : P.underlying t = some (.int k) := by
  unfold tyI at h; split at h
  · rename_i k' hk
    have : k' = k := by simpa using h
    rw [← this]; exact hk
  · cases h
theorem tySome_spec {P : Program} {t : TypeId} (h : tySome P t = true) : ∃ d, P.underlying t = some d := by
  unfold tySome at h
  exact Option.isSome_iff_exists.1 h

section
variable {P : Program} {e : Env}
theorem p_move {x : Operand} {v : Value} (h : Env.ev e x = some v) : Pure P e (.move x) v := fun n a w o he ho => by
  simp only [execOp, ho, Sem.run_pure, he.ev h]
theorem p_assign {x : Operand} {v : Value} (h : Env.ev e x = some v) : Pure P e (.assign x) v := fun n a w o he ho => by
  simp only [execOp, ho, Sem.run_pure, he.ev h]
theorem p_pick_t {c x y : Operand} {v : Value} (hc : Env.ev e c = some (.bool true)) (h : Env.ev e x = some v) : Pure P e (.pick c x y) v := fun n a w o he ho => by
  simp only [execOp, ho, Sem.run_pure, Sem.run_bind, he.ev h, he.ev hc, asBool, Result.andThen_ok, if_true]
theorem p_pick_f {c x y : Operand} {v : Value} (hc : Env.ev e c = some (.bool false)) (h : Env.ev e y = some v) : Pure P e (.pick c x y) v := fun n a w o he ho => by
  simp only [execOp, ho, Sem.run_pure, Sem.run_bind, he.ev h, he.ev hc, asBool, Result.andThen_ok, Bool.false_eq_true, if_false]
theorem p_pick {c x y : Operand} {b : Bool} {u v : Value} (hc : Env.ev e c = some (.bool b)) (h : Env.ev e x = some u) (h' : Env.ev e y = some v) : Pure P e (.pick c x y) (if b then u else v) := by
  cases b with
  | true => exact p_pick_t hc h
  | false => exact p_pick_f hc h'
/-- an operation of one value-making instruction -/
theorem p_bin {op : BinOp} {t t' : TypeId} {x y : Operand} {u v r : Value} (hx : Env.ev e x = some u) (hy : Env.ev e y = some v)
    (hg : ∀ w, (eqGuard op t x y u v).run P w = .ok () w) (h : ∀ w, (binOp op t u v).run P w = .ok r w) : Pure P e (.binOp op t x y t') r := fun n a w o he ho => by
  simp only [execOp, ho, Sem.run_pure, Sem.run_bind, he.ev hx, he.ev hy, hg, h, Result.andThen_ok]
section int
variable {t t' : TypeId} {x y : Operand} {k : IntKind} {a b : Int}
theorem eqGuard_int (op : BinOp) (t : TypeId) (x y : Operand) (k k' : IntKind) (a b : Int) (w : World) : (eqGuard op t x y (.int k a) (.int k' b)).run P w = .ok () w := by
  cases op <;> rfl
theorem eqGuard_str (op : BinOp) (t : TypeId) (x y : Operand) (a b : ByteArray) (w : World) : (eqGuard op t x y (.string a) (.string b)).run P w = .ok () w := by
  cases op <;> rfl
theorem eqGuard_bool (op : BinOp) (t : TypeId) (x y : Operand) (a b : Bool) (w : World) : (eqGuard op t x y (.bool a) (.bool b)).run P w = .ok () w := by
  cases op <;> rfl
theorem p_add (hx : Env.ev e x = some (.int k a)) (hy : Env.ev e y = some (.int k b)) : Pure P e (.binOp .add t x y t') (.int k (k.wrap (a + b))) :=
  p_bin hx hy (eqGuard_int _ _ _ _ _ _ _ _) fun w => by simp [binOp, Op.intArith, Sem.run_pure]
theorem p_sub (hx : Env.ev e x = some (.int k a)) (hy : Env.ev e y = some (.int k b)) : Pure P e (.binOp .sub t x y t') (.int k (k.wrap (a - b))) :=
  p_bin hx hy (eqGuard_int _ _ _ _ _ _ _ _) fun w => by simp [binOp, Op.intArith, Sem.run_pure]
theorem p_mul (hx : Env.ev e x = some (.int k a)) (hy : Env.ev e y = some (.int k b)) : Pure P e (.binOp .mul t x y t') (.int k (k.wrap (a * b))) :=
  p_bin hx hy (eqGuard_int _ _ _ _ _ _ _ _) fun w => by simp [binOp, Op.intArith, Sem.run_pure]
theorem p_add64 (hx : Env.ev e x = some (.int .i64 a)) (hy : Env.ev e y = some (.int .i64 b)) (h : -9223372036854775808 ≤ a + b ∧ a + b ≤ 9223372036854775807) : Pure P e (.binOp .add t x y t') (.int .i64 (a + b)) := by
  have := p_add (P := P) (t := t) (t' := t') hx hy
  rwa [IntWalk.i64_in _ h] at this
theorem p_sub64 (hx : Env.ev e x = some (.int .i64 a)) (hy : Env.ev e y = some (.int .i64 b)) (h : -9223372036854775808 ≤ a - b ∧ a - b ≤ 9223372036854775807) : Pure P e (.binOp .sub t x y t') (.int .i64 (a - b)) := by
  have := p_sub (P := P) (t := t) (t' := t') hx hy
  rwa [IntWalk.i64_in _ h] at this
theorem p_mul64 (hx : Env.ev e x = some (.int .i64 a)) (hy : Env.ev e y = some (.int .i64 b)) (h : -9223372036854775808 ≤ a * b ∧ a * b ≤ 9223372036854775807) : Pure P e (.binOp .mul t x y t') (.int .i64 (a * b)) := by
  have := p_mul (P := P) (t := t) (t' := t') hx hy
  rwa [IntWalk.i64_in _ h] at this
theorem p_quo (hx : Env.ev e x = some (.int k a)) (hy : Env.ev e y = some (.int k b)) (h : b ≠ 0) : Pure P e (.binOp .quo t x y t') (.int k (k.wrap (a.tdiv b))) :=
  p_bin hx hy (eqGuard_int _ _ _ _ _ _ _ _) fun w => by simp [binOp, Op.intDiv, Sem.run_pure, h]
theorem p_rem (hx : Env.ev e x = some (.int k a)) (hy : Env.ev e y = some (.int k b)) (h : b ≠ 0) : Pure P e (.binOp .rem t x y t') (.int k (a.tmod b)) :=
  p_bin hx hy (eqGuard_int _ _ _ _ _ _ _ _) fun w => by simp [binOp, Op.intDiv, Sem.run_pure, h]
theorem p_and (hx : Env.ev e x = some (.int k a)) (hy : Env.ev e y = some (.int k b)) : Pure P e (.binOp .and t x y t') (.int k (k.wrap ((BitVec.ofInt k.bits a &&& BitVec.ofInt k.bits b).toNat))) :=
  p_bin hx hy (eqGuard_int _ _ _ _ _ _ _ _) fun w => by simp [binOp, Op.intBits, Sem.run_pure]
theorem p_or (hx : Env.ev e x = some (.int k a)) (hy : Env.ev e y = some (.int k b)) : Pure P e (.binOp .or t x y t') (.int k (k.wrap ((BitVec.ofInt k.bits a ||| BitVec.ofInt k.bits b).toNat))) :=
  p_bin hx hy (eqGuard_int _ _ _ _ _ _ _ _) fun w => by simp [binOp, Op.intBits, Sem.run_pure]
theorem p_xor (hx : Env.ev e x = some (.int k a)) (hy : Env.ev e y = some (.int k b)) : Pure P e (.binOp .xor t x y t') (.int k (k.wrap ((BitVec.ofInt k.bits a ^^^ BitVec.ofInt k.bits b).toNat))) :=
  p_bin hx hy (eqGuard_int _ _ _ _ _ _ _ _) fun w => by simp [binOp, Op.intBits, Sem.run_pure]
theorem p_shl {k' : IntKind} (hx : Env.ev e x = some (.int k a)) (hy : Env.ev e y = some (.int k' b)) (h : 0 ≤ b) : Pure P e (.binOp .shl t x y t') (.int k (k.wrap (a * 2 ^ min b.toNat k.bits))) :=
  p_bin hx hy (eqGuard_int _ _ _ _ _ _ _ _) fun w => by simp [binOp, Op.shift, Sem.run_pure, Int.not_lt.2 h]
theorem p_shr {k' : IntKind} (hx : Env.ev e x = some (.int k a)) (hy : Env.ev e y = some (.int k' b)) (h : 0 ≤ b) : Pure P e (.binOp .shr t x y t') (.int k (a.fdiv (2 ^ min b.toNat k.bits))) :=
  p_bin hx hy (eqGuard_int _ _ _ _ _ _ _ _) fun w => by simp [binOp, Op.shift, Sem.run_pure, Int.not_lt.2 h]
theorem p_eql (hx : Env.ev e x = some (.int k a)) (hy : Env.ev e y = some (.int k b)) : Pure P e (.binOp .eql t x y t') (.bool (a == b)) :=
  p_bin hx hy (eqGuard_int _ _ _ _ _ _ _ _) fun w => by simp [binOp, Op.intCmp, Sem.run_pure]
theorem p_neq (hx : Env.ev e x = some (.int k a)) (hy : Env.ev e y = some (.int k b)) : Pure P e (.binOp .neq t x y t') (.bool (a != b)) :=
  p_bin hx hy (eqGuard_int _ _ _ _ _ _ _ _) fun w => by simp [binOp, Op.intCmp, Sem.run_pure]
theorem p_lss (hx : Env.ev e x = some (.int k a)) (hy : Env.ev e y = some (.int k b)) : Pure P e (.binOp .lss t x y t') (.bool (decide (a < b))) :=
  p_bin hx hy (eqGuard_int _ _ _ _ _ _ _ _) fun w => by simp [binOp, Op.intCmp, Sem.run_pure]
theorem p_leq (hx : Env.ev e x = some (.int k a)) (hy : Env.ev e y = some (.int k b)) : Pure P e (.binOp .leq t x y t') (.bool (decide (a ≤ b))) :=
  p_bin hx hy (eqGuard_int _ _ _ _ _ _ _ _) fun w => by simp [binOp, Op.intCmp, Sem.run_pure]
theorem p_gtr (hx : Env.ev e x = some (.int k a)) (hy : Env.ev e y = some (.int k b)) : Pure P e (.binOp .gtr t x y t') (.bool (decide (b < a))) :=
  p_bin hx hy (eqGuard_int _ _ _ _ _ _ _ _) fun w => by simp [binOp, Op.intCmp, Sem.run_pure]
theorem p_geq (hx : Env.ev e x = some (.int k a)) (hy : Env.ev e y = some (.int k b)) : Pure P e (.binOp .geq t x y t') (.bool (decide (b ≤ a))) :=
  p_bin hx hy (eqGuard_int _ _ _ _ _ _ _ _) fun w => by simp [binOp, Op.intCmp, Sem.run_pure]
end int
theorem beq_decide (l m : List UInt8) : (l == m) = decide (l = m) := by
  rw [Bool.eq_iff_iff]
  simp
section str
variable {t t' : TypeId} {x y : Operand} {l m : List UInt8}
theorem p_adds (hx : Env.ev e x = some (S l)) (hy : Env.ev e y = some (S m)) (h : l.length + m.length ≤ 9223372036854775807) : Pure P e (.binOp .add t x y t') (S (l ++ m)) :=
  p_bin hx hy (eqGuard_str _ _ _ _ _ _) fun w => by
    have h1 : ¬ (((ByteArray.mk l.toArray).size + (ByteArray.mk m.toArray).size : Nat) : Int) > IntKind.i64.max := by
      simp [ByteArray.size, IntKind.max, IntKind.signed, IntKind.bits]
      omega
    have h2 : (ByteArray.mk l.toArray ++ ByteArray.mk m.toArray) = ByteArray.mk (l ++ m).toArray := by
      apply ByteArray.ext
      simp [ByteArray.data_append]
    simp only [binOp, Op.stringOp, if_neg h1, Sem.run_pure, h2]
theorem p_eqls (hx : Env.ev e x = some (S l)) (hy : Env.ev e y = some (S m)) : Pure P e (.binOp .eql t x y t') (.bool (decide (l = m))) :=
  p_bin hx hy (eqGuard_str _ _ _ _ _ _) fun w => by simp only [binOp, Op.stringOp, Sem.run_pure, toList_mk]; rw [beq_decide]
theorem p_neqs (hx : Env.ev e x = some (S l)) (hy : Env.ev e y = some (S m)) : Pure P e (.binOp .neq t x y t') (.bool (!decide (l = m))) :=
  p_bin hx hy (eqGuard_str _ _ _ _ _ _) fun w => by simp only [binOp, Op.stringOp, Sem.run_pure, toList_mk]; rw [beq_decide]
theorem p_lsss (hx : Env.ev e x = some (S l)) (hy : Env.ev e y = some (S m)) : Pure P e (.binOp .lss t x y t') (.bool (Op.bytesLess l m)) :=
  p_bin hx hy (eqGuard_str _ _ _ _ _ _) fun w => by simp only [binOp, Op.stringOp, Sem.run_pure, toList_mk]
theorem p_gtrs (hx : Env.ev e x = some (S l)) (hy : Env.ev e y = some (S m)) : Pure P e (.binOp .gtr t x y t') (.bool (!(Op.bytesLess l m || l == m))) :=
  p_bin hx hy (eqGuard_str _ _ _ _ _ _) fun w => by simp only [binOp, Op.stringOp, Sem.run_pure, toList_mk]
theorem equalIn_bool (d : Nat) {a b : Bool} {w : World} (ht : P.underlying t = some .bool) : (Op.equalIn (d + 1) t (.bool a) (.bool b)).run P w = .ok (a == b) w := by
  simp only [Op.equalIn, Sem.run_bind, run_underlying ht, Result.andThen_ok, Sem.run_pure]
theorem equal_bool {a b : Bool} {w : World} (ht : P.underlying t = some .bool) : (Op.equal t (.bool a) (.bool b)).run P w = .ok (a == b) w := equalIn_bool 9999 ht
theorem p_eqlb {a b : Bool} (ht : tyB P t = true) (hx : Env.ev e x = some (.bool a)) (hy : Env.ev e y = some (.bool b)) : Pure P e (.binOp .eql t x y t') (.bool (decide (a = b))) :=
  p_bin hx hy (eqGuard_bool _ _ _ _ _ _) fun w => by rw [show binOp .eql t (.bool a) (.bool b) = (do pure (.bool (← Op.equal t (.bool a) (.bool b)))) from rfl, Sem.run_bind, equal_bool (tyB_spec ht)]; rfl
theorem p_neqb {a b : Bool} (ht : tyB P t = true) (hx : Env.ev e x = some (.bool a)) (hy : Env.ev e y = some (.bool b)) : Pure P e (.binOp .neq t x y t') (.bool (!decide (a = b))) :=
  p_bin hx hy (eqGuard_bool _ _ _ _ _ _) fun w => by rw [show binOp .neq t (.bool a) (.bool b) = (do pure (.bool (!(← Op.equal t (.bool a) (.bool b))))) from rfl, Sem.run_bind, equal_bool (tyB_spec ht)]; rfl
end str
theorem p_not {t : TypeId} {x : Operand} {b : Bool} (hx : Env.ev e x = some (.bool b)) : Pure P e (.unOp .not t x) (.bool (!b)) := fun n a w o he ho => by
  simp only [execOp, ho, Sem.run_pure, Sem.run_bind, he.ev hx, Op.unary, Result.andThen_ok]
theorem p_neg {t : TypeId} {x : Operand} {k : IntKind} {a : Int} (hx : Env.ev e x = some (.int k a)) : Pure P e (.unOp .neg t x) (.int k (k.wrap (0 - a))) := fun n a' w o he ho => by
  simp only [execOp, ho, Sem.run_pure, Sem.run_bind, he.ev hx, Op.unary, Op.intArith, Result.andThen_ok]
theorem p_conv {s t : TypeId} {x : Operand} {k' : IntKind} {a : Int} (k : IntKind) (hs' : tySome P s = true) (ht' : tyI P t k = true) (hx : Env.ev e x = some (.int k' a)) : Pure P e (.convert s t x) (.int k (k.wrap a)) := fun n a' w o he ho => by
  obtain ⟨d, hs⟩ := tySome_spec hs'
  have ht := tyI_spec ht'
  simp only [execOp, ho, Sem.run_pure, Sem.run_bind, he.ev hx, convert, run_underlying hs, run_underlying ht, Conv.intToInt, Result.andThen_ok]
/-- a call of a function without a body, of which the model says what it comes to -/
theorem p_callx {fo : Operand} {xs : List Operand} {ts : Array TypeId} {f : FuncId} {vs : List Value} {v : Value} (hf : Env.ev e fo = some (.func (.func f) #[] #[])) (hx : Env.evs e xs = some vs) (hr : ∀ w, (callFunc f vs.toArray).run P w = .ok (.value v) w) : Pure P e (.call ⟨.value fo, xs.toArray, ts⟩) v := fun n a w o he ho => by
  have h2 := he.evs hx
  simp only [execOp, ho, resolve, he.ev hf, Deferred.ofValue, List.map_toArray, h2, Sem.run_bind, Sem.run_pure, Result.andThen_ok, invoke]
  simpa using hr w
def nth : List Value → Nat → Option Value
  | [], _ => none
  | v :: _, 0 => some v
  | _ :: vs, i + 1 => nth vs i
theorem nth_eq : ∀ (l : List Value) (i : Nat), nth l i = l[i]?
  | [], _ => rfl
  | _ :: _, 0 => rfl
  | _ :: l, i + 1 => by simp [nth, nth_eq l i]
theorem p_extract {x : Operand} {i : Nat} {vs : List Value} {v : Value} (hx : Env.ev e x = some (.tuple vs.toArray)) (hv' : nth vs i = some v) : Pure P e (.extract x i) v := fun n a w o he ho => by
  have hv : vs.toArray[i]? = some v := by rw [nth_eq] at hv'; simpa using hv'
  simp only [execOp, ho, Sem.run_pure, Sem.run_bind, he.ev hx, Instr.extract, hv, Result.andThen_ok]
theorem size_mk (l : List UInt8) : (ByteArray.mk l.toArray).size = l.length := rfl
theorem p_lens {t : TypeId} {x : Operand} {l : List UInt8} (ht : tyS P t = true) (hx : Env.ev e x = some (S l)) : Pure P e (.call ⟨.builtin .len, #[x], #[t]⟩) (.int .i64 l.length) := fun n a w o he ho => by
  simp only [execOp, ho, Sem.run_pure, Sem.run_bind, List.map_toArray, List.map_cons, List.map_nil, he.ev hx, resolve, invoke, builtin, Builtin.len_, run_underlying (tyS_spec ht), Result.andThen_ok, goInt, List.getElem?_toArray, List.getElem?_cons_zero, size_mk]
theorem p_lensl {t : TypeId} {x : Operand} {ad : Option Addr} {l c : Nat} (ht' : tySl P t = true) (hx : Env.ev e x = some (.slice ad l c)) : Pure P e (.call ⟨.builtin .len, #[x], #[t]⟩) (.int .i64 l) := fun n a w o he ho => by
  obtain ⟨u, ht⟩ := tySl_spec ht'
  simp only [execOp, ho, Sem.run_pure, Sem.run_bind, List.map_toArray, List.map_cons, List.map_nil, he.ev hx, resolve, invoke, builtin, Builtin.len_, run_underlying ht, Result.andThen_ok, goInt, List.getElem?_toArray, List.getElem?_cons_zero]
theorem p_index {t : TypeId} {x y : Operand} {l : List UInt8} {k : IntKind} {i : Int} (ht : tyS P t = true) (hx : Env.ev e x = some (S l)) (hy : Env.ev e y = some (.int k i)) (h : 0 ≤ i ∧ i < l.length) : Pure P e (.index t x y) (.int .u8 (byt l i)) := fun n a w o he ho => by
  have hlt : i.toNat < l.length := by omega
  have hb : (ByteArray.mk l.toArray)[i.toNat]? = some (l[i.toNat]'hlt) := by
    have : i.toNat < (ByteArray.mk l.toArray).size := by simpa [ByteArray.size] using hlt
    simp only [getElem?_pos, this]
    rfl
  have e2 : byt l i = ((l[i.toNat]'hlt).toNat : Int) := by simp [byt, List.getD_eq_getElem?_getD, hlt]
  simp only [execOp, ho, Sem.run_pure, Sem.run_bind, he.ev hx, he.ev hy, Instr.index, asIntOf, run_underlying (tyS_spec ht), Result.andThen_ok, if_pos h.1, hb, e2]
end
end Go.Sx
