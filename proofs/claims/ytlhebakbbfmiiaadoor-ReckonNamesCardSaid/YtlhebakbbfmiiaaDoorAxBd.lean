/- Ax, part Bd: what is known of any argument: numbers have room, rows have lengths. -/
import Derived.Test.YtlhebakbbfmiiaaDoorAxZ
namespace Go.Ax
open Go.RowKit
def inI (n : Int) : Prop := -9223372036854775808 ≤ n ∧ n ≤ 9223372036854775807
def ln (n : Nat) : Prop := n ≤ 9223372036854775807
def inK (k : IntKind) (n : Int) : Prop := k.min ≤ n ∧ n ≤ k.max
def BdVal (v : Val) : Prop := inI v.kind ∧ inI v.n ∧ ln v.s.length
inductive BdExpr : Xpr → Prop
  | mk (k : Int) (v : Val) (nm : Str) (l : List Xpr) : inI k → BdVal v → ln nm.length → ln l.length → (∀ e, e ∈ l → BdExpr e) → BdExpr (.mk k v nm l)
def BdAll {α : Type} (p : α → Prop) (l : List α) : Prop := ln l.length ∧ ∀ x, x ∈ l → p x
def BdK : (c : Ck) → El c → Prop
  | .byte, _ => True
  | .int, n => inI n
  | .u64, n => inK .u64 n
  | .str, s => ln s.length
  | .bool, _ => True
  | .val, v => BdVal v
  | .tok, t => inI t.kind ∧ inI t.pos ∧ ln t.s.length ∧ inI t.n
  | .col, c => ln c.name.length ∧ inI c.kind ∧ ln c.ref.length
  | .expr, e => BdExpr e
  | .num, n => BdAll inI n.d
  | .vals, l => BdAll BdVal l
  | .exprs, l => BdAll BdExpr l
  | .strs, l => BdAll (fun s => ln s.length) l
  | .bytes, l => ln l.length
def BdD : D → Prop
  | .int k n => inK k n
  | .str l => ln l.length
  | .sl c xs _ => BdAll (BdK c) xs
  | _ => True
theorem inK_i64 {n : Int} (h : inK .i64 n) : inI n := by
  simpa [inK, inI, IntKind.min, IntKind.max, IntKind.signed, IntKind.bits] using h
theorem bdK_of {c : Ck} {x : El c} (h : ∀ (j : Nat) d, (enc c x)[j]? = some d → BdD d) : BdK c x := by
  cases c with
  | byte => trivial
  | int => exact inK_i64 (h 0 _ rfl)
  | u64 => exact h 0 _ rfl
  | str => exact h 0 _ rfl
  | bool => trivial
  | val => exact ⟨inK_i64 (h 0 _ rfl), inK_i64 (h 1 _ rfl), h 2 _ rfl⟩
  | tok => exact ⟨inK_i64 (h 0 _ rfl), inK_i64 (h 1 _ rfl), h 2 _ rfl, inK_i64 (h 3 _ rfl)⟩
  | col => exact ⟨h 0 _ rfl, inK_i64 (h 1 _ rfl), h 4 _ rfl⟩
  | expr =>
    obtain ⟨k, v, nm, l⟩ := x
    have h5 := h 5 _ rfl
    exact .mk k v nm l (inK_i64 (h 0 _ rfl)) ⟨inK_i64 (h 1 _ rfl), inK_i64 (h 2 _ rfl), h 3 _ rfl⟩ (h 4 _ rfl) h5.1 h5.2
  | num => exact h 1 _ rfl
  | vals => exact h 0 _ rfl
  | exprs => exact h 0 _ rfl
  | strs => exact h 0 _ rfl
  | bytes => exact (h 0 _ rfl).1
theorem fv_bd {w : World} {d : D} {v : Value} (h : FV w d v) : BdD d := by
  induction h with
  | int k n hu => exact u8_range hu
  | bool b => trivial
  | str l hl => simpa [BdD, ln, maxLen] using hl
  | nil c t a cap => exact ⟨by simp [ln], by simp⟩
  | sl c xs t b o cap u hle hm hc h ih =>
    refine ⟨by simp only [ln, maxLen] at *; omega, fun x hx => bdK_of fun j d hd => ?_⟩
    obtain ⟨i, hi, rfl⟩ := List.getElem_of_mem hx
    exact ih i _ j d (List.getElem?_eq_getElem hi) hd
def BdS : (s : Sg) → den s → Prop
  | .int k, n => inK k n
  | .bool, _ => True
  | .str, s => ln s.length
  | .sl c _, xs => BdAll (BdK c) xs
  | .sv c, x => BdK c x
  | .rw c n, xs => xs.length = n ∧ ∀ x, x ∈ xs → BdK c x
def BdL : (l : List Sg) → HV l → Prop
  | [], _ => True
  | [a], x => BdS a x
  | a :: b :: l, (x, y) => BdS a x ∧ BdL (b :: l) y
theorem rep_bd {x : Vx} {i : Nat} {s : Sg} {y : den s} {v : Value} (h : Rep x (enc1 i s y) v) : BdS s y := by
  cases s with
  | int k => exact u8_range h.u8
  | bool => trivial
  | str => simpa [BdS, ln, maxLen] using h.strLen
  | sl c own => cases own <;> (simp only [enc1, Rep] at h; exact fv_bd h.1.here)
  | sv c =>
    simp only [enc1, Rep] at h
    obtain ⟨_, vs, _, _, h⟩ := h
    exact bdK_of fun j d hd => by
      obtain ⟨u, _, hf⟩ := h j d hd
      exact fv_bd hf.here
  | rw c n =>
    simp only [enc1, Rep] at h
    obtain ⟨h1, vs, _, _, h⟩ := h
    refine ⟨h1, fun z hz => bdK_of fun j d hd => ?_⟩
    obtain ⟨i, hi, rfl⟩ := List.getElem_of_mem hz
    obtain ⟨u, _, hf⟩ := h i _ j d (List.getElem?_eq_getElem hi) hd
    exact fv_bd hf.here
theorem reps_bd {x : Vx} : ∀ {l : List Sg} {i : Nat} {y : HV l} {vs : List Value}, Reps x (encL i l y) vs → BdL l y
  | [], _, _, _, _ => trivial
  | [a], i, y, vs, h => by
    simp only [encL, Reps] at h
    obtain ⟨u, us, _, h1, _⟩ := h
    exact rep_bd h1
  | a :: b :: l, i, (y, z), vs, h => by
    simp only [encL, Reps] at h
    obtain ⟨u, us, _, h1, h2⟩ := h
    exact ⟨rep_bd h1, reps_bd h2⟩
section
variable {P : Program} {el : Ck → TypeId} {gl : Nat → Option Gv} {f : FuncId} {sa sr : List Sg}
/-- what a function is in the end, of arguments that have room -/
theorem FnOk.fin {ι : Type} {F : ι → FT sa sr} {G : FT sa sr} (i0 : ι) (h : ∀ i, FnOk P el gl f sa sr (F i)) (hG : ∀ x r, BdL sa x → G x = some r → ∃ i, F i x = some r) : FnOk P el gl f sa sr G :=
  ⟨(h i0).enters, fun x r hx w M vs h1 h2 h3 => by obtain ⟨i, hi⟩ := hG x r (reps_bd h3) hx; exact (h i).run x r hi w M vs h1 h2 h3⟩
theorem FnOk.fin0 {F G : FT sa sr} (h : FnOk P el gl f sa sr F) (hG : ∀ x r, BdL sa x → G x = some r → F x = some r) : FnOk P el gl f sa sr G :=
  .fin () (fun _ => h) fun x r hb hx => ⟨(), hG x r hb hx⟩
end
/-! ## words for proofs -/
theorem chk_t {R : Type} {b : Bool} {x : Option R} (h : b = true) : chk b x = x := by subst h; rfl
theorem wr_id {n : Int} (h : inI n) : wr .i64 n = n := by
  simp only [inI] at h
  simp only [wr, IntKind.wrap, IntKind.signed, IntKind.bits, Bool.true_and]
  split <;> simp at * <;> omega
theorem inb_nat {i n : Nat} : inb (i : Int) n = decide (i < n) := by
  simp [inb]
theorem upto_nat {i j n : Nat} : upto (i : Int) (j : Int) n = (decide (i ≤ j) && decide (j ≤ n)) := by
  simp [upto]
end Go.Ax
