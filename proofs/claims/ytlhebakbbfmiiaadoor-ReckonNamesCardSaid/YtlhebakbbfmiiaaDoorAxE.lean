/- Ax, part E: what the machine is told of types is so; the operations that leave the world as it is: numbers, texts, truths, structs. -/
import Derived.Test.YtlhebakbbfmiiaaDoorAxD
namespace Go.Ax
open Go.RowKit

/-! ## types -/
def zb : D → Value → Bool
  | .int k n, .int k' n' => decide (k = k') && decide (n = n') && u8ok k n
  | .bool b, .bool b' => b == b'
  | .str [], .string s => s.data.toList == []
  | .sl _ [] .nil, .slice none 0 0 => true
  | .sl _ [] .no, .slice none 0 0 => true
  | .nilp, .pointer none => true
  | .nilfn, .nilFunc => true
  | _, _ => false
def zbL : List D → List Value → Bool
  | [], [] => true
  | d :: ds, v :: vs => zb d v && zbL ds vs
  | _, _ => false
theorem zb_rep {x : Vx} {d : D} {v : Value} (h : zb d v = true) : Rep x d v ∧ lf d = true := by
  unfold zb at h
  split at h
  · simp only [Bool.and_eq_true, decide_eq_true_eq] at h
    obtain ⟨⟨rfl, rfl⟩, h⟩ := h
    exact ⟨by simp only [Rep]; exact ⟨trivial, h⟩, rfl⟩
  · simp only [beq_iff_eq] at h
    subst h
    exact ⟨by simp only [Rep], rfl⟩
  · simp only [beq_iff_eq] at h
    refine ⟨?_, rfl⟩
    simp only [Rep]
    refine ⟨?_, by simp⟩
    rename_i s
    obtain ⟨⟨l⟩⟩ := s
    simp at h
    subst h
    rfl
  · exact ⟨by simp only [Rep]; exact ⟨fun _ _ => .nil _ _ _ _, by simp [TkR]⟩, rfl⟩
  · exact ⟨by simp only [Rep]; exact ⟨fun _ _ => .nil _ _ _ _, by simp [TkR]⟩, rfl⟩
  · exact ⟨by simp only [Rep], rfl⟩
  · exact ⟨by simp only [Rep], rfl⟩
  · cases h
theorem zbL_rep {x : Vx} : ∀ {ds : List D} {vs : List Value}, zbL ds vs = true → Reps x ds vs ∧ ds.all lf = true
  | [], [], _ => by simp [Reps]
  | d :: ds, v :: vs, h => by
    simp only [zbL, Bool.and_eq_true] at h
    have h1 := zb_rep (x := x) h.1
    have h2 := zbL_rep (x := x) h.2
    exact ⟨by simp only [Reps]; exact ⟨v, vs, rfl, h1.1, h2.1⟩, by simp [h1.2, h2.2]⟩
  | [], _ :: _, h => by simp [zbL] at h
  | _ :: _, [], h => by simp [zbL] at h
/-- rows that can be held against each other -/
def eqLay : Ck → Option (List Nat)
  | .val => some [0, 0, 1]
  | .tok => some [0, 0, 1, 0]
  | .col => some [1, 0, 2, 2, 1]
  | _ => none
def tyInt (P : Program) (t : TypeId) : Bool := match P.underlying t with
  | some (.int _) => true
  | _ => false
def fkB (P : Program) : Nat → List Field → List Nat → Bool
  | _, [], [] => true
  | i, f :: fs, k :: ks => !(f.name == "_") && f.offset == i && (match k with
      | 0 => tyInt P f.type
      | 1 => Sx.tyS P f.type
      | _ => Sx.tyB P f.type) && fkB P (i + 1) fs ks
  | _, _, _ => false
def fldsB (P : Program) (t : TypeId) : Nat → List Field → List (Nat × Nat) → Bool
  | _, [], [] => true
  | i, f :: fs, (o, u) :: l => f.type == u && Sx.fldOff P t i == some o && f.offset == o && fldsB P t (i + 1) fs l
  | _, _, _ => false
def tyOk (P : Program) (el : Ck → TypeId) (tt : Nat → Ty) (t : Nat) : Bool := match tt t with
  | .no => true
  | ty => Sx.tySome P t && (Sx.tyAgg P t == ty.agg?) && (Sx.tySz P t == some ty.n) && (match ty.zero with
      | some z => (match Sx.tyZero P t with
        | some zs => zbL (cells z) zs
        | none => false)
      | none => true) && (match ty with
    | .int k => Sx.tyI P t k
    | .bool => Sx.tyB P t
    | .str => Sx.tyS P t
    | .sl c => (match P.info? (el c) with
      | some i => Sx.elTyB P t (el c) (csz c) i.bytes && Nat.ble i.bytes 512 && (match c with
        | .byte => Sx.tyI P (el c) .u8
        | _ => true)
      | none => false)
    | .st c l _ => (match P.underlying t with
      | some (.struct fds) => fldsB P t 0 fds.toList l && (match c with
        | some c => (match eqLay c with
          | some ks => Sx.stOk P t && fkB P 0 fds.toList ks
          | none => true)
        | none => true)
      | _ => false)
    | .arr n c => (match P.underlying t with
      | some (.array n' u) => n' == n && u == el c && Sx.tySz P u == some (csz c) && Sx.tySome P u && (Sx.tyAgg P u == agg? c)
      | _ => false)
    | .map => (match P.underlying t with
      | some (.map k e) => (match P.underlying k with
        | some (.int .i64) => true
        | _ => false) && (match P.info? e with
        | some i => (match i.zero with
          | some (.string s) => s.data.toList == []
          | _ => false)
        | none => false)
      | _ => false)
    | _ => true)
structure PxOk {R : Type} (cx : Cx) (px : Px R) : Prop where
  tt : ∀ t, tyOk cx.P cx.el px.tt t = true
  gl : px.gl = cx.gl
section
variable {P : Program} {el : Ck → TypeId} {tt : Nat → Ty} {t : Nat}
theorem tyOk_base (h : tyOk P el tt t = true) (hn : tt t ≠ .no) : Sx.tySome P t = true ∧ Sx.tyAgg P t = (tt t).agg? ∧ Sx.tySz P t = some (tt t).n := by
  unfold tyOk at h
  split at h
  · rename_i h0; exact absurd h0 hn
  · simp only [Bool.and_eq_true, beq_iff_eq] at h
    exact ⟨h.1.1.1.1, h.1.1.1.2, h.1.1.2⟩
theorem tyOk_zero (h : tyOk P el tt t = true) (hn : tt t ≠ .no) {z : D} (hz : (tt t).zero = some z) : ∃ zs, Sx.tyZero P t = some zs ∧ zbL (cells z) zs = true := by
  unfold tyOk at h
  split at h
  · rename_i h0; exact absurd h0 hn
  · simp only [Bool.and_eq_true] at h
    have h2 := h.1.2
    rw [hz] at h2
    simp only at h2
    split at h2
    · exact ⟨_, by assumption, h2⟩
    · cases h2
theorem tyOk_int (h : tyOk P el tt t = true) {k : IntKind} (ht : tt t = .int k) : Sx.tyI P t k = true := by
  unfold tyOk at h; rw [ht] at h; simp only [Bool.and_eq_true] at h; exact h.2
theorem tyOk_bool (h : tyOk P el tt t = true) (ht : tt t = .bool) : Sx.tyB P t = true := by
  unfold tyOk at h; rw [ht] at h; simp only [Bool.and_eq_true] at h; exact h.2
theorem tyOk_str (h : tyOk P el tt t = true) (ht : tt t = .str) : Sx.tyS P t = true := by
  unfold tyOk at h; rw [ht] at h; simp only [Bool.and_eq_true] at h; exact h.2
theorem tyOk_sl (h : tyOk P el tt t = true) {c : Ck} (ht : tt t = .sl c) : ∃ by_, Sx.ElTy P t (el c) (csz c) by_ ∧ by_ ≤ 512 ∧ (c = .byte → Sx.tyI P (el c) .u8 = true) := by
  unfold tyOk at h; rw [ht] at h; simp only [Bool.and_eq_true] at h
  have h2 := h.2
  split at h2
  · rename_i i hi
    simp only [Bool.and_eq_true] at h2
    refine ⟨i.bytes, Sx.elTy_of h2.1.1, by simpa using h2.1.2, fun hc => ?_⟩
    subst hc
    simpa using h2.2
  · cases h2
theorem tyOk_arr (h : tyOk P el tt t = true) {n : Nat} {c : Ck} (ht : tt t = .arr n c) : P.underlying t = some (.array n (el c)) ∧ Sx.tySz P (el c) = some (csz c) ∧ Sx.tySome P (el c) = true ∧ Sx.tyAgg P (el c) = agg? c := by
  unfold tyOk at h; rw [ht] at h; simp only [Bool.and_eq_true] at h
  have h2 := h.2
  split at h2
  · rename_i n' u hu
    simp only [Bool.and_eq_true, beq_iff_eq] at h2
    obtain ⟨⟨⟨⟨rfl, rfl⟩, h3⟩, h4⟩, h5⟩ := h2
    exact ⟨hu, h3, h4, h5⟩
  · cases h2
theorem tyOk_map (h : tyOk P el tt t = true) (ht : tt t = .map) : ∃ k e i, P.underlying t = some (.map k e) ∧ P.underlying k = some (.int .i64) ∧ P.info? e = some i ∧ i.zero = some (Sx.S []) := by
  unfold tyOk at h; rw [ht] at h; simp only [Bool.and_eq_true] at h
  have h2 := h.2
  split at h2
  · rename_i k e hu
    simp only [Bool.and_eq_true] at h2
    obtain ⟨h3, h4⟩ := h2
    split at h3
    · rename_i hk
      split at h4
      · rename_i i hi
        split at h4
        · rename_i s hz
          refine ⟨k, e, i, hu, hk, hi, ?_⟩
          simp only [beq_iff_eq] at h4
          obtain ⟨⟨l⟩⟩ := s
          simp only at h4
          subst h4
          exact hz
        · cases h4
      · cases h4
    · cases h3
  · cases h2
theorem fldsB_get {P : Program} {t : TypeId} : ∀ {fds : List Field} {l : List (Nat × Nat)} {i f o u : Nat}, fldsB P t i fds l = true → l[f]? = some (o, u) → ∃ fd, fds[f]? = some fd ∧ fd.type = u ∧ fd.offset = o ∧ Sx.fldOff P t (i + f) = some o
  | [], [], i, f, o, u, _, hl => by simp at hl
  | fd :: fds, (o0, u0) :: l, i, f, o, u, h, hl => by
    simp only [fldsB, Bool.and_eq_true, beq_iff_eq] at h
    cases f with
    | zero =>
      simp only [List.getElem?_cons_zero, Option.some.injEq, Prod.mk.injEq] at hl
      obtain ⟨rfl, rfl⟩ := hl
      exact ⟨fd, by simp, h.1.1.1, h.1.2, h.1.1.2⟩
    | succ f =>
      obtain ⟨fd', h1, h2, h3, h4⟩ := fldsB_get h.2 (by simpa using hl)
      exact ⟨fd', by simpa using h1, h2, h3, by rw [← h4]; congr 1; omega⟩
  | [], _ :: _, _, _, _, _, h, _ => by simp [fldsB] at h
  | _ :: _, [], _, _, _, _, h, _ => by simp [fldsB] at h
theorem tyOk_st (h : tyOk P el tt t = true) {c : Option Ck} {l : List (Nat × Nat)} {z : List D} (ht : tt t = .st c l z) : ∃ fds, P.underlying t = some (.struct fds) ∧ fldsB P t 0 fds.toList l = true ∧ ∀ c' ks, c = some c' → eqLay c' = some ks → Sx.stOk P t = true ∧ fkB P 0 fds.toList ks = true := by
  unfold tyOk at h; rw [ht] at h; simp only [Bool.and_eq_true] at h
  have h2 := h.2
  split at h2
  · rename_i fds hu
    simp only [Bool.and_eq_true] at h2
    refine ⟨fds, hu, h2.1, fun c' ks hc hk => ?_⟩
    subst hc
    have h3 := h2.2
    simp only [hk, Bool.and_eq_true] at h3
    exact h3
  · cases h2
end
/-! ## what values are -/
section
variable {x : Vx}
theorem Rep.int {k : IntKind} {n : Int} {v : Value} (h : Rep x (.int k n) v) : v = .int k n := by simp only [Rep] at h; exact h.1
theorem Rep.str {l : Str} {v : Value} (h : Rep x (.str l) v) : v = Sx.S l := by simp only [Rep] at h; exact h.1
theorem Rep.strLen {l : Str} {v : Value} (h : Rep x (.str l) v) : l.length ≤ maxLen := by simp only [Rep] at h; exact h.2
theorem Rep.bool {b : Bool} {v : Value} (h : Rep x (.bool b) v) : v = .bool b := by simp only [Rep] at h; exact h
theorem rep_bool (b : Bool) : Rep x (.bool b) (.bool b) := by simp only [Rep]
theorem rep_str {l : Str} (h : l.length ≤ maxLen) : Rep x (.str l) (Sx.S l) := by simp only [Rep, Sx.S]; exact ⟨trivial, h⟩
theorem rep_int {k : IntKind} {n : Int} (h : u8ok k n = true) : Rep x (.int k n) (.int k n) := by simp only [Rep]; exact ⟨trivial, h⟩
theorem u8_wrap (k : IntKind) (n : Int) : u8ok k (k.wrap n) = true := by
  cases k <;> simp [u8ok, IntKind.wrap, IntKind.min, IntKind.max, IntKind.signed, IntKind.bits] <;> (try split) <;> omega
theorem u8_bound {n : Int} (h : u8ok .u8 n = true) : 0 ≤ n ∧ n < 256 := by simp [u8ok, IntKind.min, IntKind.max, IntKind.signed, IntKind.bits] at h; omega
theorem u8_mk {n : Int} (h : 0 ≤ n ∧ n < 256) : u8ok .u8 n = true := by simp [u8ok, IntKind.min, IntKind.max, IntKind.signed, IntKind.bits]; omega
theorem len_ok {n : Nat} (h : n ≤ maxLen) : u8ok .i64 (n : Int) = true := by simp [maxLen] at h; simp [u8ok, IntKind.min, IntKind.max, IntKind.signed, IntKind.bits]; omega
theorem u8_range {k : IntKind} {n : Int} (h : u8ok k n = true) : k.min ≤ n ∧ n ≤ k.max := by simpa [u8ok] using h
theorem u8_of {k : IntKind} {n : Int} (h : k.min ≤ n ∧ n ≤ k.max) : u8ok k n = true := by simpa [u8ok] using h
theorem u8_shr {k : IntKind} {p : Int} {m : Nat} (h : u8ok k p = true) : u8ok k (p.fdiv (2 ^ m)) = true := by
  obtain ⟨h1, h2⟩ := u8_range h
  refine u8_of ?_
  have hpos : (0 : Int) < 2 ^ m := Int.pow_pos (by omega)
  rw [Int.fdiv_eq_ediv_of_nonneg _ (by omega)]
  have h0 : k.min ≤ 0 ∧ 0 ≤ k.max := by cases k <;> simp [IntKind.min, IntKind.max, IntKind.signed, IntKind.bits]
  rcases Int.le_total 0 p with h | h
  · have := Int.ediv_nonneg h (show (0 : Int) ≤ 2 ^ m by omega)
    have := Int.ediv_le_self (2 ^ m) h
    omega
  · have g1 : p / 2 ^ m ≤ 0 := by
      have := Int.ediv_le_ediv hpos h
      simpa using this
    have g2 : p ≤ p / 2 ^ m := by
      rw [Int.le_ediv_iff_mul_le hpos]
      have : p * 2 ^ m ≤ p * 1 := Int.mul_le_mul_of_nonpos_left h (by omega)
      omega
    omega
theorem u8_tmod {k : IntKind} {a b : Int} (ha : u8ok k a = true) (hb : u8ok k b = true) : u8ok k (a.tmod b) = true := by
  obtain ⟨h1, h2⟩ := u8_range ha
  obtain ⟨h3, h4⟩ := u8_range hb
  refine u8_of ?_
  have h5 : (a.tmod b).natAbs ≤ a.natAbs := by rw [Int.natAbs_tmod]; exact Nat.mod_le _ _
  rcases Int.le_total 0 a with h | h
  · have h6 := Int.tmod_nonneg b h
    have : k.min ≤ 0 := by cases k <;> simp [IntKind.min, IntKind.signed, IntKind.bits]
    omega
  · have h6 : a.tmod b ≤ 0 := by have := Int.tmod_nonneg b (show 0 ≤ -a by omega); rw [Int.neg_tmod] at this; omega
    have : 0 ≤ k.max := by cases k <;> simp [IntKind.max, IntKind.signed, IntKind.bits]
    omega
theorem Rep.u8 {k : IntKind} {n : Int} {v : Value} (h : Rep x (.int k n) v) : u8ok k n = true := by simp only [Rep] at h; exact h.2
end
section
variable {P : Program} {e : Sx.Env} {t t' : TypeId} {x y : Operand} {k : IntKind} {a b : Int} {l m : Str}
theorem p_andn (hx : Sx.Env.ev e x = some (.int k a)) (hy : Sx.Env.ev e y = some (.int k b)) : Sx.Pure P e (.binOp .andNot t x y t') (.int k (iandn k a b)) :=
  Sx.p_bin hx hy (Sx.eqGuard_int _ _ _ _ _ _ _ _) fun w => by simp [binOp, Op.intBits, Sem.run_pure, iandn, bits2]
theorem p_leqs (hx : Sx.Env.ev e x = some (Sx.S l)) (hy : Sx.Env.ev e y = some (Sx.S m)) : Sx.Pure P e (.binOp .leq t x y t') (.bool (Op.bytesLess l m || decide (l = m))) :=
  Sx.p_bin hx hy (Sx.eqGuard_str _ _ _ _ _ _) fun w => by simp only [binOp, Op.stringOp, Sem.run_pure, Sx.toList_mk]; rw [Sx.beq_decide]
theorem p_geqs (hx : Sx.Env.ev e x = some (Sx.S l)) (hy : Sx.Env.ev e y = some (Sx.S m)) : Sx.Pure P e (.binOp .geq t x y t') (.bool (!Op.bytesLess l m)) :=
  Sx.p_bin hx hy (Sx.eqGuard_str _ _ _ _ _ _) fun w => by simp only [binOp, Op.stringOp, Sem.run_pure, Sx.toList_mk]
theorem p_gtrs (hx : Sx.Env.ev e x = some (Sx.S l)) (hy : Sx.Env.ev e y = some (Sx.S m)) : Sx.Pure P e (.binOp .gtr t x y t') (.bool (!(Op.bytesLess l m || decide (l = m)))) :=
  Sx.p_bin hx hy (Sx.eqGuard_str _ _ _ _ _ _) fun w => by simp only [binOp, Op.stringOp, Sem.run_pure, Sx.toList_mk]; rw [Sx.beq_decide]
theorem p_eqlb' {a b : Bool} (hx : Sx.Env.ev e x = some (.bool a)) (hy : Sx.Env.ev e y = some (.bool b)) (ht : Sx.tyB P t = true) : Sx.Pure P e (.binOp .eql t x y t') (.bool (decide (a = b))) := Sx.p_eqlb ht hx hy
theorem p_xor1 {n : Int} (hx : Sx.Env.ev e x = some (.int k n)) : Sx.Pure P e (.unOp .xor t x) (.int k (ixor k (match k.signed with | true => -1 | false => k.max) n)) := fun n' a' w o he ho => by
  simp only [execOp, ho, Sem.run_pure, Sem.run_bind, he.ev hx, Op.unary, Op.intBits, Result.andThen_ok, ixor, bits2]
  cases k <;> rfl
/-- THE BINARY OPERATIONS on numbers -/
theorem binI_run {op : BinOp} {c : Bool} {d : D} {vx : Vx} (h : binI op k a b = some (c, d)) (hc : c = true) (hx : Sx.Env.ev e x = some (.int k a)) (hy : Sx.Env.ev e y = some (.int k b)) (ha : u8ok k a = true) (hb : u8ok k b = true) : ∃ v, Sx.Pure P e (.binOp op t x y t') v ∧ Rep vx d v := by
  subst hc
  have hu : ∀ n, Rep vx (.int k (k.wrap n)) (.int k (k.wrap n)) := fun n => rep_int (u8_wrap k n)
  unfold binI at h
  split at h <;> simp only [Option.some.injEq, Prod.mk.injEq, reduceCtorEq, Bool.not_eq_true', decide_eq_false_iff_not, true_and] at h
  · subst h; exact ⟨_, Sx.p_add hx hy, hu _⟩
  · subst h; exact ⟨_, Sx.p_sub hx hy, hu _⟩
  · subst h; exact ⟨_, Sx.p_mul hx hy, hu _⟩
  · obtain ⟨hne, rfl⟩ := h; exact ⟨_, Sx.p_quo hx hy hne, hu _⟩
  · obtain ⟨hne, rfl⟩ := h
    exact ⟨_, Sx.p_rem hx hy hne, rep_int (u8_tmod ha hb)⟩
  · subst h; exact ⟨_, Sx.p_and hx hy, hu _⟩
  · subst h; exact ⟨_, Sx.p_or hx hy, hu _⟩
  · subst h; exact ⟨_, Sx.p_xor hx hy, hu _⟩
  · subst h; exact ⟨_, p_andn hx hy, hu _⟩
  · subst h; exact ⟨_, Sx.p_eql hx hy, by rw [show (a == b) = decide (a = b) by rw [Bool.eq_iff_iff]; simp]; exact rep_bool _⟩
  · subst h; exact ⟨_, Sx.p_neq hx hy, by rw [show (a != b) = !decide (a = b) by rw [Bool.eq_iff_iff]; simp]; exact rep_bool _⟩
  · subst h; exact ⟨_, Sx.p_lss hx hy, rep_bool _⟩
  · subst h; exact ⟨_, Sx.p_leq hx hy, rep_bool _⟩
  · subst h; exact ⟨_, Sx.p_gtr hx hy, rep_bool _⟩
  · subst h; exact ⟨_, Sx.p_geq hx hy, rep_bool _⟩
theorem binS_run {op : BinOp} {c : Bool} {d : D} {vx : Vx} (h : binS op l m = some (c, d)) (hc : c = true) (hx : Sx.Env.ev e x = some (Sx.S l)) (hy : Sx.Env.ev e y = some (Sx.S m)) : ∃ v, Sx.Pure P e (.binOp op t x y t') v ∧ Rep vx d v := by
  subst hc
  unfold binS at h
  split at h <;> simp only [Option.some.injEq, Prod.mk.injEq, reduceCtorEq, decide_eq_true_eq, true_and] at h
  · obtain ⟨hl, rfl⟩ := h; exact ⟨_, Sx.p_adds hx hy (by unfold maxStr at hl; omega), rep_str (by simp only [maxStr] at hl; simp only [maxLen, List.length_append]; omega)⟩
  · subst h; exact ⟨_, Sx.p_eqls hx hy, rep_bool _⟩
  · subst h; exact ⟨_, Sx.p_neqs hx hy, rep_bool _⟩
  · subst h; exact ⟨_, Sx.p_lsss hx hy, rep_bool _⟩
  · subst h; exact ⟨_, p_leqs hx hy, rep_bool _⟩
  · subst h; exact ⟨_, p_gtrs hx hy, rep_bool _⟩
  · subst h; exact ⟨_, p_geqs hx hy, rep_bool _⟩
end
end Go.Ax
