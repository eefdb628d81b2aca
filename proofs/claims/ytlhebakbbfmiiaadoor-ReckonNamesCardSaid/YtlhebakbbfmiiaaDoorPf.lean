/- Words for proofs about printed runs: places in texts and rows as natural numbers. -/
import Derived.Test.YtlhebakbbfmiiaaDoorAxBd
namespace Go.Ax
theorem bat_nat {s : Str} {i : Nat} (h : i < s.length) : bat s (i : Int) = ((s[i]'h).toNat : Int) := by
  simp [bat, List.getD_eq_getElem?_getD, h]
theorem at_nat {c : Ck} {xs : List (El c)} {i : Nat} (h : i < xs.length) : at' c xs (i : Int) = xs[i]'h := by
  simp [at', List.getD_eq_getElem?_getD, h]
theorem wr_nat {n : Nat} (h : ln n) : wr .i64 (n : Int) = (n : Int) := wr_id (by simp only [ln, inI] at *; omega)
theorem wr_succ {i n : Nat} (h : i < n) (hn : ln n) : wr .i64 ((i : Int) + 1) = ((i + 1 : Nat) : Int) := by
  rw [wr_id (by simp only [ln, inI] at *; omega)]; rfl
theorem drop_cons {α : Type} {l : List α} {i : Nat} (h : i < l.length) : l.drop i = l[i]'h :: l.drop (i + 1) := List.drop_eq_getElem_cons h
theorem inb_t {i n : Nat} (h : i < n) : inb (i : Int) n = true := by simp [inb_nat, h]
theorem iter_s {V R : Type} {step : (V → Option R) → V → Option R} {k : Nat} {v : V} : iter step (k + 1) v = step (iter step k) v := rfl
theorem cond_t {α : Type} {a b : α} : cond true a b = a := rfl
theorem cond_f {α : Type} {a b : α} : cond false a b = b := rfl
theorem cond_some {α : Type} {c : Bool} {a b : α} : cond c (some a) (some b) = some (cond c a b) := by cases c <;> rfl
end Go.Ax
