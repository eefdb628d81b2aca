/- Texts of the proof, one behind the other: Tw, Pa, Lc, Na, Ar, Lx, Ly, Lz, Lw, Shp, Sr, Dg, Nc. -/
import Derived.Test.YtjpcghlpkinahaaDoorP3
import Derived.Test.YtjpcghlpkinahaaDoorProg
import Derived.KernelRfl
import Derived.Lib.Bytealg
import Derived.Shelf.Strings.Replace
/- What the machine is told: the seat's types, package-level variables. -/
namespace Go.Proofs.YtjpcghlpkinahaaDoor
open Go.Ax
def signsL : List (Int × Str) := [(4, [65, 78, 68]), (5, [79, 82]), (6, [61]), (7, [60, 62]), (8, [60]), (9, [60, 61]), (10, [62]), (11, [62, 61]), (12, [43]), (13, [45]), (14, [42])]
def wordsL : List Str := [[65, 68, 68], [65, 78, 68], [65, 83, 67], [66, 79, 79, 76], [66, 89], [66, 89, 84, 69, 83], [67, 72, 69, 67, 75], [67, 82, 69, 65, 84, 69], [68, 69, 76, 69, 84, 69], [68, 69, 83, 67], [68, 82, 79, 80], [70, 65, 76, 83, 69], [70, 82, 79, 77], [73, 78, 68, 69, 88], [73, 78, 83, 69, 82, 84], [73, 78, 84], [73, 78, 84, 79], [73, 83], [75, 69, 89], [76, 73, 77, 73, 84], [78, 79, 84], [78, 85, 76, 76], [79, 78], [79, 82], [79, 82, 68, 69, 82], [80, 82, 73, 77, 65, 82, 89], [82, 69, 70, 69, 82, 69, 78, 67, 69, 83], [83, 69, 76, 69, 67, 84], [83, 69, 84], [84, 65, 66, 76, 69], [84, 69, 88, 84], [84, 82, 85, 69], [85, 78, 73, 81, 85, 69], [85, 80, 68, 65, 84, 69], [86, 65, 76, 85, 69, 83], [87, 72, 69, 82, 69]]
def kindsL : List Str := [[], [], [66, 79, 79, 76], [73, 78, 84], [84, 69, 88, 84], [66, 89, 84, 69, 83]]
/-- the types -/
def ttL : List (Nat × Ax.Ty) := [
  (3, .int .i64),
  (4, .bool),
  (5, .int .u8),
  (9, .str),
  (21, .int .i32),
  (23, .sl .str),
  (28, .st (some .val) [(0, 3), (1, 3), (2, 9)] [.int .i64 0, .int .i64 0, .str []]),
  (30, .sl .tok),
  (31, .int .i64),
  (36, .st (some .tok) [(0, 3), (1, 3), (2, 9), (3, 3)] [.int .i64 0, .int .i64 0, .str [], .int .i64 0]),
  (38, .sl .expr),
  (40, .st (some .expr) [(0, 3), (1, 28), (4, 9), (5, 38)] [.int .i64 0, .int .i64 0, .int .i64 0, .str [], .str [], .sl .expr [] .nil]),
  (41, .sl .col),
  (42, .sl .exprs),
  (43, .sl .set),
  (44, .sl .bool),
  (46, .st (some .stmt) [(0, 3), (1, 9), (2, 9), (3, 41), (4, 23), (5, 38), (6, 42), (7, 43), (8, 4), (9, 40), (15, 23), (16, 44), (17, 3)] [.int .i64 0, .str [], .str [], .sl .col [] .nil, .sl .str [] .nil, .sl .expr [] .nil, .sl .exprs [] .nil, .sl .set [] .nil, .bool false, .int .i64 0, .int .i64 0, .int .i64 0, .str [], .str [], .sl .expr [] .nil, .sl .str [] .nil, .sl .bool [] .nil, .int .i64 0]),
  (52, .fn),
  (58, .sl .int),
  (65, .st (some .col) [(0, 9), (1, 3), (2, 4), (3, 4), (4, 9)] [.str [], .int .i64 0, .bool false, .bool false, .str []]),
  (68, .arr 36 .str),
  (69, .fn),
  (72, .arr 2 .str),
  (79, .st (some .set) [(0, 9), (1, 40)] [.str [], .int .i64 0, .int .i64 0, .int .i64 0, .str [], .str [], .sl .expr [] .nil]),
  (81, .ptr),
  (82, .sl .byte),
  (84, .st none [(0, 81), (1, 82)] [.nilp, .sl .byte [] .nil]),
  (86, .st none [(0, 84)] [.nilp, .sl .byte [] .nil]),
  (87, .fn),
  (93, .fn),
  (99, .fn),
  (101, .fn),
  (106, .fn),
  (111, .int .u64),
  (114, .int .u64),
  (126, .fn),
  (127, .ptr),
  (128, .map),
  (129, .ptr),
  (145, .arr 6 .str),
  (152, .arr 256 .byte),
  (154, .st none [(0, 5), (1, 5)] [.int .u8 0, .int .u8 0]),
  (156, .int .u32)]
def elT : Ck → TypeId
  | .byte => 5
  | .int => 3
  | .u64 => 111
  | .str => 9
  | .bool => 4
  | .val => 28
  | .tok => 36
  | .col => 65
  | .expr => 40
  | .set => 79
  | .stmt => 46
  | .exprs => 38
  | .strs => 23
  | .bytes => 82
  | _ => 0
theorem ttL_ok : (ttL.all fun p => tyOk Tryd.prog elT (ttOf ttL) p.1) = true := by kernel_rfl
def glT : Nat → Option Gv := tbl [(0, .arr .str wordsL), (3, .num .i64)]
theorem follows : Tryd.prog.follows .mixedOrders = true := by kernel_rfl
end Go.Proofs.YtjpcghlpkinahaaDoor

/- The lexer as plain Lean: what the program's functions and the document's come to; the document's is the program's; tokens of a text as a relation. -/
namespace Go.Proofs.YtjpcghlpkinahaaDoor.Lp
open Go.Sx Go.RowKit
abbrev Tok := Go.Ax.Tok
/-! from Lib -/
/-- does a text begin with another? -/
def pre (l m : List UInt8) : Bool := decide (m.length ≤ l.length) && decide (l.take m.length = m)

/-! from Va -/
theorem mul_bd (a b c d : Int) (h : 0 ≤ a ∧ a ≤ c) (h' : 0 ≤ b ∧ b ≤ d) : 0 ≤ a * b ∧ a * b ≤ c * d :=
  ⟨Int.mul_nonneg h.1 h'.1, Int.mul_le_mul h.2 h'.2 h'.1 (by omega)⟩
theorem mul64_split (x y : Int) : x * y = (x / 4294967296) * (y / 4294967296) * 18446744073709551616 + ((x / 4294967296) * (y % 4294967296) + (x % 4294967296) * (y / 4294967296)) * 4294967296 + (x % 4294967296) * (y % 4294967296) := by
  have hx := Int.mul_ediv_add_emod x 4294967296
  have hy := Int.mul_ediv_add_emod y 4294967296
  generalize x / 4294967296 = p at *
  generalize x % 4294967296 = q at *
  generalize y / 4294967296 = r at *
  generalize y % 4294967296 = s at *
  rw [← hx, ← hy]
  simp only [Int.add_mul, Int.mul_add]
  have e1 : 4294967296 * p * (4294967296 * r) = p * r * 18446744073709551616 := by
    rw [Int.mul_assoc, Int.mul_left_comm p, ← Int.mul_assoc]
    omega
  have e2 : 4294967296 * p * s = p * s * 4294967296 := by rw [Int.mul_assoc]; omega
  have e3 : q * (4294967296 * r) = q * r * 4294967296 := by rw [Int.mul_left_comm]; omega
  omega
def inI (n : Int) : Prop := -9223372036854775808 ≤ n ∧ n ≤ 9223372036854775807
instance (n : Int) : Decidable (inI n) := by unfold inI; infer_instance
theorem wrapu (n : Int) : IntKind.u64.wrap n = n % 18446744073709551616 := by simp [IntKind.wrap, IntKind.bits, IntKind.signed]
theorem wrapi (n : Int) : IntKind.i64.wrap n = if 9223372036854775808 ≤ n % 18446744073709551616 then n % 18446744073709551616 - 18446744073709551616 else n % 18446744073709551616 := by
  simp [IntKind.wrap, IntKind.bits, IntKind.signed]
def absI (n : Int) : Int := if n < 0 then -n else n

/-! from Vb -/
def vis (c : Int) : Bool := decide (32 ≤ c) && decide (c ≤ 126)
def visF (l : List UInt8) : Bool := l.all fun b => vis b.toNat
theorem getD_drop (l : List UInt8) (j : Int) (h : 0 ≤ j ∧ j < l.length) : l.drop j.toNat = l.getD j.toNat 0 :: l.drop (j + 1).toNat := by
  have h1 : j.toNat < l.length := by omega
  have h2 : (j + 1).toNat = j.toNat + 1 := by omega
  rw [h2, List.drop_eq_getElem_cons h1]
  simp [List.getD_eq_getElem?_getD, h1]
theorem all_drop (p : Int → Bool) (l : List UInt8) (j : Int) (h : 0 ≤ j ∧ j < l.length) : ((l.drop j.toNat).all fun b => p b.toNat) = (p (byt l j) && (l.drop (j + 1).toNat).all fun b => p b.toNat) := by
  rw [getD_drop l j h]
  rfl
/-- may it be? -/
def rightF (k n : Int) (s : List UInt8) : Bool :=
  if k = 1 then n == 0 && decide (s = []) else if k = 2 then (n == 0 || n == 1) && decide (s = []) else if k = 3 then decide (s = [])
  else if k = 4 then n == 0 && decide ((s.length : Int) ≤ 1000) && visF s else if k = 5 then n == 0 && decide ((s.length : Int) ≤ 1000) else false
def checkF (k n : Int) (s : List UInt8) : Int := if rightF k n s then 0 else 2

/-! from LxA -/
def isUp (c : Int) : Bool := decide (65 ≤ c) && decide (c ≤ 90)
def isLo (c : Int) : Bool := decide (97 ≤ c) && decide (c ≤ 122)
def isDi (c : Int) : Bool := decide (48 ≤ c) && decide (c ≤ 57)
def isIn (c : Int) : Bool := isLo c || isDi c || c == 95
/-- where bytes of a kind end -/
def runTo (p : Int → Bool) (l : List UInt8) (i : Int) : Int := i + ((l.drop i.toNat).takeWhile fun b => p b.toNat).length
theorem drop_at (l : List UInt8) (j : Int) (h : 0 ≤ j ∧ j < l.length) : l.drop j.toNat = l.getD j.toNat 0 :: l.drop (j + 1).toNat := by
  have h1 : j.toNat < l.length := by omega
  have h2 : (j + 1).toNat = j.toNat + 1 := by omega
  rw [h2, List.drop_eq_getElem_cons h1]
  simp [List.getD_eq_getElem?_getD, h1]
theorem runTo_yes {p : Int → Bool} {l : List UInt8} {j : Int} (h : 0 ≤ j ∧ j < l.length) (hp : p (byt l j) = true) : runTo p l (j + 1) = runTo p l j := by
  unfold runTo
  rw [drop_at l j h]
  have : p ((l.getD j.toNat 0).toNat : Int) = true := hp
  simp only [List.takeWhile_cons, this, if_true, List.length_cons]
  omega
theorem runTo_no {p : Int → Bool} {l : List UInt8} {j : Int} (h : 0 ≤ j ∧ j < l.length) (hp : p (byt l j) = false) : runTo p l j = j := by
  unfold runTo
  rw [drop_at l j h]
  have : p ((l.getD j.toNat 0).toNat : Int) = false := hp
  simp only [List.takeWhile_cons, this, Bool.false_eq_true, if_false, List.length_nil]
  omega
theorem runTo_end {p : Int → Bool} {l : List UInt8} {j : Int} (h : (l.length : Int) ≤ j) : runTo p l j = j := by
  unfold runTo
  rw [List.drop_eq_nil_of_le (by omega)]
  simp
def aloneF (l : List UInt8) (i : Int) : Bool := i == l.length || !isIn (byt l i) && !isUp (byt l i)

/-! from LxB -/
/-- the digit that a byte is -/
def dg (c : Int) : Int := IntKind.i64.wrap (IntKind.u8.wrap (c - 48))
theorem dg_in (c : Int) : 0 ≤ dg c ∧ dg c ≤ 255 := by
  have e1 : IntKind.u8.wrap (c - 48) = (c - 48) % 256 := by simp [IntKind.wrap, IntKind.bits, IntKind.signed]
  unfold dg
  rw [e1, IntWalk.i64_in _ (by omega)]
  omega
theorem dg_eq (c : Int) (h : 48 ≤ c ∧ c ≤ 303) : dg c = c - 48 := by
  have e1 : IntKind.u8.wrap (c - 48) = (c - 48) % 256 := by simp [IntKind.wrap, IntKind.bits, IntKind.signed]
  unfold dg
  rw [e1, IntWalk.i64_in _ (by omega)]
  omega
/-- a number out of digits -/
def numGo : List UInt8 → Int → Option Int
  | [], n => some n
  | c :: r, n => if inI (n * 10) ∧ inI (n * 10 + dg c.toNat) then numGo r (n * 10 + dg c.toNat) else none
theorem inI_dg (c : Int) : inI (dg c) := by have := dg_in c; unfold inI; omega
theorem inI_lit : inI 10 := by unfold inI; omega
theorem inI_zero : inI 0 := by unfold inI; omega
/-- what is meant between quotes, and where it ends -/
def qGo : List UInt8 → List UInt8 → Int → List UInt8 × Int
  | [], _, _ => ([], -1)
  | [c], acc, i => if c = 39 then (acc, i + 1) else ([], -1)
  | c :: d :: r, acc, i => if c = 39 then (if d = 39 then qGo r (acc ++ [39]) (i + 2) else (acc, i + 1)) else qGo (d :: r) (acc ++ [c]) (i + 1)
theorem byt_lit {l : List UInt8} {j : Int} {c : UInt8} : byt l j = (c.toNat : Int) ↔ l.getD j.toNat 0 = c := by
  unfold byt
  rw [← UInt8.toNat_inj]
  omega
theorem q_end {l acc : List UInt8} {j : Int} (h : (l.length : Int) ≤ j) : qGo (l.drop j.toNat) acc j = ([], -1) := by
  rw [List.drop_eq_nil_of_le (by omega)]
  rfl
theorem q_last {l acc : List UInt8} {j : Int} (h : 0 ≤ j) (hl : j + 1 = l.length) (hc : byt l j = 39) : qGo (l.drop j.toNat) acc j = (acc, j + 1) := by
  rw [drop_at l j (by omega), (byt_lit (c := 39)).1 hc, List.drop_eq_nil_of_le (by omega)]
  rfl
theorem q_close {l acc : List UInt8} {j : Int} (h : 0 ≤ j) (hl : j + 1 < l.length) (hc : byt l j = 39) (hd : byt l (j + 1) ≠ 39) : qGo (l.drop j.toNat) acc j = (acc, j + 1) := by
  have hd' : ¬ l.getD (j + 1).toNat 0 = 39 := fun hh => hd ((byt_lit (c := 39)).2 hh)
  rw [drop_at l j (by omega), (byt_lit (c := 39)).1 hc, drop_at l (j + 1) (by omega)]
  simp only [qGo, if_true, if_neg hd']
theorem q_two {l acc : List UInt8} {j : Int} (h : 0 ≤ j) (hl : j + 1 < l.length) (hc : byt l j = 39) (hd : byt l (j + 1) = 39) : qGo (l.drop j.toNat) acc j = qGo (l.drop (j + 1 + 1).toNat) (acc ++ [39]) (j + 1 + 1) := by
  rw [drop_at l j (by omega), (byt_lit (c := 39)).1 hc, drop_at l (j + 1) (by omega), (byt_lit (c := 39)).1 hd]
  simp only [qGo, if_true]
  rw [show j + 2 = j + 1 + 1 by omega]
theorem q_other {l acc : List UInt8} {j : Int} (h : 0 ≤ j) (hl : j < l.length) (hc : ¬ byt l j = 39) : qGo (l.drop j.toNat) acc j = qGo (l.drop (j + 1).toNat) (acc ++ [l.getD j.toNat 0]) (j + 1) := by
  have hc' : ¬ l.getD j.toNat 0 = 39 := fun hh => hc ((byt_lit (c := 39)).2 hh)
  rw [drop_at l j (by omega)]
  cases hd : l.drop (j + 1).toNat with
  | nil => simp only [qGo, if_neg hc']
  | cons d r => simp only [qGo, if_neg hc']

/-! from LxC -/
def hexD (c : Int) : Option Int := if 48 ≤ c ∧ c ≤ 57 then some (c - 48) else if 97 ≤ c ∧ c ≤ 102 then some (c - 87) else none
theorem hexD_lt {c n : Int} (h : hexD c = some n) : 0 ≤ n ∧ n ≤ 15 := by
  unfold hexD at h
  split at h
  · cases h; omega
  · split at h
    · cases h; omega
    · cases h
theorem wrap8 (n : Int) (h : 0 ≤ n ∧ n ≤ 255) : IntKind.u8.wrap n = n := IntWalk.u8_in n h
/-- bytes out of hex digits, behind what was read -/
def unGo : List UInt8 → List UInt8 → Option (List UInt8)
  | [], acc => some acc
  | [_], _ => none
  | a :: b :: r, acc => match hexD a.toNat, hexD b.toNat with
    | some x, some y => unGo r (acc ++ [UInt8.ofNat (x * 16 + y).toNat])
    | _, _ => none
theorem joinhex : ∀ a b : Fin 16, IntKind.u8.wrap (((BitVec.ofInt IntKind.u8.bits (IntKind.u8.wrap ((a.val : Int) * 2 ^ min (4 : Int).toNat IntKind.u8.bits)) ||| BitVec.ofInt IntKind.u8.bits (b.val : Int)).toNat : Nat) : Int) = ((a.val * 16 + b.val : Nat) : Int) := by decide +kernel
theorem joinhex' {x y : Int} (hx : 0 ≤ x ∧ x ≤ 15) (hy : 0 ≤ y ∧ y ≤ 15) : IntKind.u8.wrap (((BitVec.ofInt IntKind.u8.bits (IntKind.u8.wrap (x * 2 ^ min (4 : Int).toNat IntKind.u8.bits)) ||| BitVec.ofInt IntKind.u8.bits y).toNat : Nat) : Int) = ((UInt8.ofNat (x * 16 + y).toNat).toNat : Int) := by
  obtain ⟨a, rfl⟩ := Int.eq_ofNat_of_zero_le hx.1
  obtain ⟨b, rfl⟩ := Int.eq_ofNat_of_zero_le hy.1
  have := joinhex ⟨a, by omega⟩ ⟨b, by omega⟩
  simp only at this
  rw [this]
  rw [show ((a : Int) * 16 + (b : Int)).toNat = a * 16 + b by omega, UInt8.toNat_ofNat']
  omega
theorem un_step {l acc : List UInt8} {j : Int} (h : 0 ≤ j) (hl : j + 1 < l.length) : unGo (l.drop j.toNat) acc = match hexD (byt l j), hexD (byt l (j + 1)) with
    | some x, some y => unGo (l.drop (j + 2).toNat) (acc ++ [UInt8.ofNat (x * 16 + y).toNat])
    | _, _ => none := by
  rw [drop_at l j (by omega), drop_at l (j + 1) (by omega), show j + 1 + 1 = j + 2 by omega]
  rfl

/-! from LxD -/
def signs : List UInt8 := [40, 41, 44, 42, 61, 60, 62, 43, 45, 59]
def signF (l : List UInt8) : Int := if pre l [60, 62] || pre l [60, 61] || pre l [62, 61] then 2 else if 0 ≤ Lib.indexByte signs (byt l 0).toNat.toUInt8 then 1 else 0
/-- the place of a text among others -/
def idx (x : List UInt8) : List (List UInt8) → Int → Int
  | [], _ => -1
  | l :: r, i => if x = l then i else idx x r (i + 1)
theorem idx_ge (x : List UInt8) : ∀ (ls : List (List UInt8)) (i : Int), 0 ≤ i → (0 ≤ idx x ls i ↔ x ∈ ls)
  | [], i, _ => by simp [idx]
  | l :: r, i, h => by
    by_cases hx : x = l
    · simp [idx, hx, h]
    · simp [idx, hx, idx_ge x r (i + 1) (by omega)]

/-! from LxE -/
def wordF (l : List UInt8) : Bool := wordsL.contains l
def nameF (l : List UInt8) : Bool := !decide (l = []) && decide ((l.length : Int) ≤ 30) && isLo (byt l 0) && (runTo isIn l 0 == l.length)
/-- the token at a place: its kind, its text, its number, where it ends -/
def tokF (l : List UInt8) (i : Int) : Option (Int × List UInt8 × Int × Int) :=
  if pre (l.drop i.toNat) [120, 39] then
    let n := Lib.indexByte (l.drop (i + 2).toNat) 39
    if n < 0 then none else
    let x := cut l (i + 2) (i + 2 + n)
    match (if x.length % 2 = 0 then unGo x [] else none) with
    | none => none
    | some b => if 1000 < (b.length : Int) then none else some (5, b, 0, i + 3 + n)
  else if isUp (byt l i) then
    if wordF (cut l i (runTo isUp l i)) && aloneF l (runTo isUp l i) then some (1, cut l i (runTo isUp l i), 0, runTo isUp l i) else none
  else if isLo (byt l i) then
    if nameF (cut l i (runTo isIn l i)) && aloneF l (runTo isIn l i) then some (2, cut l i (runTo isIn l i), 0, runTo isIn l i) else none
  else if isDi (byt l i) then
    match numGo (cut l i (runTo isDi l i)) 0 with
    | none => none
    | some n => if (decide (cut l i (runTo isDi l i) = [48]) || byt (cut l i (runTo isDi l i)) 0 != 48) && aloneF l (runTo isDi l i) then some (3, cut l i (runTo isDi l i), n, runTo isDi l i) else none
  else if byt l i = 39 then
    let q := qGo (l.drop (i + 1).toNat) [] (i + 1)
    if rightF 4 0 q.1 then (if q.2 < 0 then none else some (4, q.1, 0, q.2)) else none
  else if signF (l.drop i.toNat) = 0 then none else some (6, cut l i (i + signF (l.drop i.toNat)), 0, i + signF (l.drop i.toNat))

/-! from LxF -/
theorem runTo_range (p : Int → Bool) (l : List UInt8) (i : Int) (h : 0 ≤ i ∧ i ≤ l.length) : i ≤ runTo p l i ∧ runTo p l i ≤ l.length := by
  unfold runTo
  have h1 := (List.takeWhile_prefix (fun b : UInt8 => p b.toNat) (l := l.drop i.toNat)).length_le
  rw [List.length_drop] at h1
  omega
theorem cond_no {p : Prop} [Decidable p] {α : Type} {a b : α} (h : ¬ p) : (if p then a else b) = b := if_neg h

/-! from LxG -/
theorem runTo_gt {p : Int → Bool} {l : List UInt8} {i : Int} (h : 0 ≤ i ∧ i < l.length) (hp : p (byt l i) = true) : i + 1 ≤ runTo p l i := by
  have h1 := runTo_yes h hp
  have h2 := runTo_range p l (i + 1) (by omega)
  omega
theorem cut_length (l : List UInt8) (a b : Int) (h : 0 ≤ a ∧ a ≤ b ∧ b ≤ l.length) : ((cut l a b).length : Int) = b - a := by
  unfold cut
  rw [List.length_take, List.length_drop]
  omega

/-! from LxH -/
theorem signF_in (l : List UInt8) (h : 0 < l.length) : signF l = 0 ∨ signF l = 1 ∨ (signF l = 2 ∧ 2 ≤ l.length) := by
  unfold signF
  split
  · rename_i hp
    right; right
    refine ⟨rfl, ?_⟩
    simp only [pre, Bool.or_eq_true, Bool.and_eq_true, decide_eq_true_eq, List.length_cons, List.length_nil] at hp
    omega
  · split
    · exact .inr (.inl rfl)
    · exact .inl rfl
theorem qGo_in : ∀ (n : Nat) (l acc : List UInt8) (i : Int), l.length ≤ n → 0 ≤ i → (qGo l acc i).2 = -1 ∨ (i + 1 ≤ (qGo l acc i).2 ∧ (qGo l acc i).2 ≤ i + l.length)
  | n, [], acc, i, _, h => by left; rfl
  | n, [c], acc, i, _, h => by
    simp only [qGo]
    split
    · right; simp
    · left; rfl
  | 0, _ :: _ :: _, _, _, hn, _ => by simp at hn
  | n + 1, c :: d :: r, acc, i, hn, h => by
    simp only [List.length_cons] at hn ⊢
    simp only [qGo]
    split
    · split
      · rcases qGo_in n r (acc ++ [39]) (i + 2) (by omega) (by omega) with h1 | h1
        · exact .inl h1
        · right; omega
      · right; simp; omega
    · rcases qGo_in n (d :: r) (acc ++ [c]) (i + 1) (by simp; omega) (by omega) with h1 | h1
      · exact .inl h1
      · right; simp at h1; omega

/-! from LxI -/
theorem indexByte_in : ∀ (l : List UInt8) (c : UInt8), Lib.indexByte l c = -1 ∨ (0 ≤ Lib.indexByte l c ∧ Lib.indexByte l c < l.length)
  | [], c => .inl rfl
  | b :: l, c => by
    simp only [Lib.indexByte, List.length_cons]
    split
    · right; omega
    · rcases indexByte_in l c with h | h
      · left; simp [h]
      · right
        have : ¬ ((Lib.indexByte l c == -1) = true) := by simp; omega
        rw [if_neg this]
        omega

/-! from LxJ -/
def blankF (c : Int) : Bool := decide (0 ≤ Lib.indexByte [32, 9, 10, 13] c.toNat.toUInt8)
/-- all tokens from a place on, behind others; or the place that is wrong -/
def allGo : Nat → List UInt8 → Int → List Tok → Except Int (List Tok)
  | 0, _, _, acc => .ok acc
  | f + 1, l, i, acc =>
    if (l.length : Int) ≤ i then .ok acc
    else if blankF (byt l i) then allGo f l (i + 1) acc
    else match tokF l i with
      | none => .error i
      | some (k, s, n, e) => allGo f l e (acc ++ [⟨k, i, s, n⟩])
def allF (l : List UInt8) : Except Int (List Tok) := allGo (l.length + 1) l 0 []
theorem tok_end {l : List UInt8} {i : Int} (h0 : 0 ≤ i ∧ i < l.length) {k : Int} {s : List UInt8} {n e : Int} (h : tokF l i = some (k, s, n, e)) : i < e ∧ e ≤ l.length := by
  unfold tokF at h
  split at h
  · rename_i hx
    have hdl : (l.drop i.toNat).length = l.length - i.toNat := List.length_drop
    have h2 : 2 ≤ (l.drop i.toNat).length := by
      simp only [pre, Bool.and_eq_true, decide_eq_true_eq, List.length_cons, List.length_nil] at hx
      omega
    have hdl2 : (l.drop (i + 2).toNat).length = l.length - (i + 2).toNat := List.length_drop
    have hib := indexByte_in (l.drop (i + 2).toNat) 39
    simp only at h
    split at h
    · cases h
    · split at h
      · cases h
      · split at h
        · cases h
        · cases h; omega
  · split at h
    · rename_i hu
      have hr := runTo_range isUp l i (by omega)
      have hg := runTo_gt h0 hu
      split at h
      · cases h; omega
      · cases h
    · split at h
      · rename_i hlo
        have hr := runTo_range isIn l i (by omega)
        have hg := runTo_gt (p := isIn) h0 (by simp [isIn, hlo])
        split at h
        · cases h; omega
        · cases h
      · split at h
        · rename_i hd
          have hr := runTo_range isDi l i (by omega)
          have hg := runTo_gt h0 hd
          split at h
          · cases h
          · split at h
            · cases h; omega
            · cases h
        · split at h
          · have hqi := qGo_in _ (l.drop (i + 1).toNat) [] (i + 1) (Nat.le_refl _) (by omega)
            have hdl : (l.drop (i + 1).toNat).length = l.length - (i + 1).toNat := List.length_drop
            simp only at h
            split at h
            · split at h
              · cases h
              · cases h; omega
            · cases h
          · split at h
            · cases h
            · have hdl : (l.drop i.toNat).length = l.length - i.toNat := List.length_drop
              have hs := signF_in (l.drop i.toNat) (by omega)
              cases h
              omega

/-! from RxA -/
def signsI : List Int := [40, 41, 44, 42, 61, 60, 62, 43, 45, 59]
def clsF (c : Int) : Int :=
  if isUp c then 1 else if isLo c then 2 else if isDi c then 3 else if c = 95 then 4 else if c = 39 then 5
  else if c = 32 ∨ c = 9 ∨ c = 10 ∨ c = 13 then 6 else if signsI.contains c then 7 else 0
theorem signs_byt (j : Int) (h : 0 ≤ j ∧ j < 10) : byt signs j = signsI.getD j.toNat 0 := by
  obtain ⟨n, rfl⟩ := Int.eq_ofNat_of_zero_le h.1
  have : n < 10 := by omega
  rcases n with _ | _ | _ | _ | _ | _ | _ | _ | _ | _ | n <;> first | rfl | omega
theorem signsI_drop (j : Int) (h : 0 ≤ j ∧ j < 10) (c : Int) : (signsI.drop j.toNat).contains c = (byt signs j == c || (signsI.drop (j + 1).toNat).contains c) := by
  rw [signs_byt j h]
  have h1 : j.toNat < signsI.length := by simp [signsI]; omega
  rw [show (j + 1).toNat = j.toNat + 1 by omega, List.drop_eq_getElem_cons h1]
  rw [List.contains_cons, List.getD_eq_getElem?_getD, List.getElem?_eq_getElem h1, Option.getD_some]
  congr 1
  rw [Bool.eq_iff_iff]
  simp only [beq_iff_eq]
  exact eq_comm

/-! from RxB -/
def isWd (c : Int) : Bool := decide (1 ≤ clsF c) && decide (clsF c ≤ 4)
/-- the reference's number -/
def rnumGo : List UInt8 → Int → Option Int
  | [], n => some n
  | c :: r, n => if clsF c.toNat ≠ 3 ∨ 922337203685477580 < n ∨ (n = 922337203685477580 ∧ 7 < (c.toNat : Int) - 48) then none else rnumGo r (10 * n + ((c.toNat : Int) - 48))
def rnumF (l : List UInt8) : Int := match rnumGo l 0 with
  | none => -1
  | some n => if 1 < (l.length : Int) ∧ byt l 0 = 48 then -1 else n
theorem cls3 {c : Int} (h : clsF c = 3) : 48 ≤ c ∧ c ≤ 57 := by
  unfold clsF at h
  split at h
  · omega
  · split at h
    · omega
    · split at h
      · rename_i hd; simpa [isDi] using hd
      · (repeat' split at h) <;> omega

/-! from RxC -/
theorem cut_one (l : List UInt8) (j : Int) (h : 0 ≤ j ∧ j < l.length) : cut l j (j + 1) = [l.getD j.toNat 0] := by
  unfold cut
  rw [drop_at l j h, show (j + 1).toNat - j.toNat = 1 by omega]
  rfl

/-! from RxD -/
theorem checkF_four (s : List UInt8) (hl : (s.length : Int) ≤ 1000) : checkF 4 0 s = if visF s then 0 else 2 := by
  simp [checkF, rightF, hl]

/-! from RxE -/
theorem hex3 (c : Int) : (48 ≤ c ∧ c ≤ 57 ∧ hexD c = some (c - 48)) ∨ (97 ≤ c ∧ c ≤ 102 ∧ hexD c = some (c - 87)) ∨ ((c < 48 ∨ 57 < c) ∧ (c < 97 ∨ 102 < c) ∧ hexD c = none) := by
  unfold hexD
  split
  · left; exact ⟨by omega, by omega, rfl⟩
  · split
    · right; left; exact ⟨by omega, by omega, rfl⟩
    · right; right; exact ⟨by omega, by omega, rfl⟩
theorem unGo_odd : ∀ (n : Nat) (l acc : List UInt8), l.length ≤ n → l.length % 2 = 1 → unGo l acc = none
  | _, [], _, _, h => by simp at h
  | _, [_], _, _, _ => rfl
  | 0, _ :: _ :: _, _, h, _ => by simp at h
  | n + 1, a :: b :: r, acc, hn, h => by
    simp only [List.length_cons] at hn h
    simp only [unGo]
    split
    · exact unGo_odd n r _ (by omega) (by omega)
    · rfl
theorem byte_of {x : Int} (h : 0 ≤ x ∧ x ≤ 255) : IntKind.u8.wrap x = ((UInt8.ofNat x.toNat).toNat : Int) := by
  rw [IntWalk.u8_in x h, UInt8.toNat_ofNat']
  omega

/-! from RxF -/


/-! from RxG -/
def nmOk (j c : Int) : Bool := decide (clsF c = 2) || (!decide (j = 0) && (decide (clsF c = 3) || decide (clsF c = 4)))
def okGo : List UInt8 → Int → Bool
  | [], _ => true
  | c :: r, j => nmOk j c.toNat && okGo r (j + 1)
def rnameF (l : List UInt8) : Bool := okGo l 0 && (decide (1 ≤ (l.length : Int)) && decide ((l.length : Int) ≤ 30))

/-! from RxH -/
/-- bytes in hex begin here, by the reference -/
def HexAt (l : List UInt8) (i : Int) : Prop := cut l i (runTo isWd l i) = [120] ∧ runTo isWd l i < l.length ∧ byt l (runTo isWd l i) = 39
instance (l : List UInt8) (i : Int) : Decidable (HexAt l i) := by unfold HexAt; infer_instance
def twoR (l : List UInt8) (i : Int) : Prop := i + 1 < l.length ∧ (cut l i (i + 2) = [60, 62] ∨ cut l i (i + 2) = [60, 61] ∨ cut l i (i + 2) = [62, 61])
instance (l : List UInt8) (i : Int) : Decidable (twoR l i) := by unfold twoR; infer_instance
def tokR (l : List UInt8) (i : Int) : Option (Int × List UInt8 × Int × Int) :=
  if HexAt l i then
    let t := runTo isWd l i
    let q := runTo (fun c => !decide (c = 39)) l (t + 1)
    if q = l.length then none else
    match (if (cut l (t + 1) q).length % 2 = 0 then unGo (cut l (t + 1) q) [] else none) with
    | none => none
    | some b => if 1000 < (b.length : Int) then none else some (5, b, 0, q + 1)
  else if clsF (byt l i) = 1 then (if wordF (cut l i (runTo isWd l i)) then some (1, cut l i (runTo isWd l i), 0, runTo isWd l i) else none)
  else if clsF (byt l i) = 2 then (if rnameF (cut l i (runTo isWd l i)) then some (2, cut l i (runTo isWd l i), 0, runTo isWd l i) else none)
  else if clsF (byt l i) = 3 then (if 0 ≤ rnumF (cut l i (runTo isWd l i)) then some (3, cut l i (runTo isWd l i), rnumF (cut l i (runTo isWd l i)), runTo isWd l i) else none)
  else if clsF (byt l i) = 5 then
    let q := qGo (l.drop (i + 1).toNat) [] (i + 1)
    if ¬ q.2 = -1 ∧ checkF 4 0 q.1 = 0 then some (4, q.1, 0, q.2) else none
  else if clsF (byt l i) = 7 then (if twoR l i then some (6, cut l i (i + 2), 0, i + 2) else some (6, cut l i (i + 1), 0, i + 1))
  else none

/-! from RxI -/


/-! from RxJ -/


/-! from RxK -/


/-! from RxL -/


/-! from RxM -/


/-! from RxN -/


/-! from RxO -/
theorem tokR_end {l : List UInt8} {i : Int} (h0 : 0 ≤ i ∧ i < l.length) {k : Int} {s : List UInt8} {n e : Int} (h : tokR l i = some (k, s, n, e)) : i < e ∧ e ≤ l.length := by
  unfold tokR at h
  have hr := runTo_range isWd l i (by omega)
  split at h
  · rename_i hx
    have hx1 := hx.2.1
    have hq := runTo_range (fun c => !decide (c = 39)) l (runTo isWd l i + 1) (by omega)
    simp only at h
    split at h
    · cases h
    · split at h
      · cases h
      · split at h
        · cases h
        · cases h; omega
  · have hg : ∀ c : Int, 1 ≤ c ∧ c ≤ 4 → clsF (byt l i) = c → i + 1 ≤ runTo isWd l i := fun c hc he => runTo_gt h0 (by simp [isWd]; omega)
    split at h
    · rename_i h1
      have := hg 1 (by omega) h1
      split at h
      · cases h; omega
      · cases h
    · split at h
      · rename_i h1
        have := hg 2 (by omega) h1
        split at h
        · cases h; omega
        · cases h
      · split at h
        · rename_i h1
          have := hg 3 (by omega) h1
          split at h
          · cases h; omega
          · cases h
        · split at h
          · have hqi := qGo_in _ (l.drop (i + 1).toNat) [] (i + 1) (Nat.le_refl _) (by omega)
            have hdl : (l.drop (i + 1).toNat).length = l.length - (i + 1).toNat := List.length_drop
            simp only at h
            split at h
            · rename_i h2
              cases h
              have := h2.1
              omega
            · cases h
          · split at h
            · split at h
              · rename_i h2
                have := h2.1
                cases h; omega
              · cases h; omega
            · cases h
def rallGo : Nat → List UInt8 → Int → List Tok → Except Int (List Tok)
  | 0, _, _, acc => .ok acc
  | f + 1, l, i, acc =>
    if (l.length : Int) ≤ i then .ok acc
    else if clsF (byt l i) = 6 then rallGo f l (i + 1) acc
    else match tokR l i with
      | none => .error i
      | some (k, s, n, e) => rallGo f l e (acc ++ [⟨k, i, s, n⟩])
def rallF (l : List UInt8) : Except Int (List Tok) := rallGo (l.length + 1) l 0 []

/-! from PlA -/
theorem of256 {p : Int → Prop} (h : ∀ n : Fin 256, p (n.val : Int)) (c : Int) (hc : 0 ≤ c ∧ c ≤ 255) : p c := by
  have := h ⟨c.toNat, by omega⟩
  simpa [Int.toNat_of_nonneg hc.1] using this
theorem wd_all : ∀ n : Fin 256, isWd (n.val : Int) = (isUp (n.val : Int) || isIn (n.val : Int)) := by decide +kernel
theorem blank_all : ∀ n : Fin 256, blankF (n.val : Int) = decide (clsF (n.val : Int) = 6) := by decide +kernel
theorem sign_all : ∀ n : Fin 256, decide (0 ≤ Lib.indexByte signs (n.val : Int).toNat.toUInt8) = decide (clsF (n.val : Int) = 7) := by decide +kernel
theorem isWd_eq (c : Int) (hc : 0 ≤ c ∧ c ≤ 255) : isWd c = (isUp c || isIn c) := of256 (p := fun c => isWd c = (isUp c || isIn c)) wd_all c hc
theorem blank_eq (c : Int) (hc : 0 ≤ c ∧ c ≤ 255) : blankF c = decide (clsF c = 6) := of256 (p := fun c => blankF c = decide (clsF c = 6)) blank_all c hc
theorem sign_eq (c : Int) (hc : 0 ≤ c ∧ c ≤ 255) : decide (0 ≤ Lib.indexByte signs c.toNat.toUInt8) = decide (clsF c = 7) := of256 (p := fun c => decide (0 ≤ Lib.indexByte signs c.toNat.toUInt8) = decide (clsF c = 7)) sign_all c hc
theorem u8_range (b : UInt8) : 0 ≤ (b.toNat : Int) ∧ (b.toNat : Int) ≤ 255 := by
  have := b.toNat_lt
  omega
def tw (p : Int → Bool) (m : List UInt8) : List UInt8 := m.takeWhile fun b => p b.toNat
theorem runTo_eq (p : Int → Bool) (l : List UInt8) (i : Int) : runTo p l i = i + (tw p (l.drop i.toNat)).length := rfl
theorem tw_len (p : Int → Bool) : ∀ m : List UInt8, (tw p m).length ≤ m.length
  | [] => by simp [tw]
  | x :: m => by
    have := tw_len p m
    unfold tw at *
    simp only [List.takeWhile_cons]
    split <;> simp <;> omega
theorem tw_take (p : Int → Bool) : ∀ m : List UInt8, m.take (tw p m).length = tw p m
  | [] => by simp [tw]
  | x :: m => by
    have := tw_take p m
    unfold tw at *
    simp only [List.takeWhile_cons]
    split
    · simp [this]
    · simp
theorem cut_run (p : Int → Bool) (l : List UInt8) (i : Int) (h : 0 ≤ i) : cut l i (runTo p l i) = tw p (l.drop i.toNat) := by
  unfold cut
  rw [runTo_eq, show (i + ((tw p (l.drop i.toNat)).length : Int)).toNat - i.toNat = (tw p (l.drop i.toNat)).length by omega]
  exact tw_take p _
theorem tw_split {p q : Int → Bool} (hpq : ∀ b : UInt8, p b.toNat = true → q b.toNat = true) : ∀ m : List UInt8, tw q m = tw p m ++ tw q (m.drop (tw p m).length)
  | [] => by simp [tw]
  | x :: m => by
    have ih := tw_split hpq m
    unfold tw at *
    cases hp : p x.toNat with
    | true => simp [hp, hpq x hp]; exact ih
    | false => simp [hp]
theorem tw_all (p : Int → Bool) : ∀ m : List UInt8, (tw p m).all (fun b => p b.toNat) = true
  | [] => by simp [tw]
  | x :: m => by
    have ih := tw_all p m
    unfold tw at *
    cases hp : p x.toNat with
    | true => simp only [List.takeWhile_cons, hp, if_true, List.all_cons, Bool.true_and]; exact ih
    | false => simp [hp]
theorem tw_nil_iff {q : Int → Bool} (m : List UInt8) : tw q m = [] ↔ m = [] ∨ q (byt m 0) = false := by
  cases m with
  | nil => simp [tw]
  | cons x m =>
    have : byt (x :: m) 0 = (x.toNat : Int) := rfl
    rw [this]
    cases hq : q x.toNat <;> simp [tw, hq]
theorem byt_drop (l : List UInt8) (i : Int) (h : 0 ≤ i) (j : Nat) : byt (l.drop i.toNat) j = byt l (i + j) := by
  unfold byt
  rw [List.getD_eq_getElem?_getD, List.getD_eq_getElem?_getD, List.getElem?_drop, show i.toNat + (j : Int).toNat = (i + j).toNat by omega]
/-- what ends alone is all of the word -/
theorem alone_iff {p : Int → Bool} (hp : ∀ b : UInt8, p b.toNat = true → isWd b.toNat = true) (l : List UInt8) (i : Int) (h : 0 ≤ i ∧ i ≤ l.length) : aloneF l (runTo p l i) = true ↔ tw p (l.drop i.toNat) = tw isWd (l.drop i.toNat) := by
  have hs := tw_split hp (l.drop i.toNat)
  have hr := runTo_range p l i h
  have hdd : (l.drop i.toNat).drop (tw p (l.drop i.toNat)).length = l.drop (runTo p l i).toNat := by
    rw [List.drop_drop, runTo_eq]
    congr 1
    omega
  rw [hdd] at hs
  have h1 : tw p (l.drop i.toNat) = tw isWd (l.drop i.toNat) ↔ tw isWd (l.drop (runTo p l i).toNat) = [] := by
    rw [hs]
    simp
  rw [h1, tw_nil_iff]
  have h2 : l.drop (runTo p l i).toNat = [] ↔ runTo p l i = l.length := by
    rw [List.drop_eq_nil_iff]; omega
  have h3 : byt (l.drop (runTo p l i).toNat) 0 = byt l (runTo p l i) := by
    have := byt_drop l (runTo p l i) (by omega) 0
    simpa using this
  rw [h2, h3]
  have hb := byt_range l (runTo p l i)
  simp only [aloneF, Bool.or_eq_true, beq_iff_eq, Bool.and_eq_true, Bool.not_eq_true', isWd_eq _ hb, Bool.or_eq_false_iff]
  constructor
  · rintro (h | ⟨h, h'⟩)
    · exact .inl h
    · exact .inr ⟨h', h⟩
  · rintro (h | ⟨h, h'⟩)
    · exact .inl h
    · exact .inr ⟨h', h⟩
/-- a kind of run: what holds of the word that ends alone holds of the whole run -/
theorem kind_eq {p : Int → Bool} (hp : ∀ b : UInt8, p b.toNat = true → isWd b.toNat = true) (l : List UInt8) (i : Int) (h : 0 ≤ i ∧ i ≤ l.length) {α : Type} (f : List UInt8 → Int → Option α) (hf : ∀ x j, f x j ≠ none → x.all (fun b => p b.toNat) = true) :
    (if aloneF l (runTo p l i) then f (cut l i (runTo p l i)) (runTo p l i) else none) = f (cut l i (runTo isWd l i)) (runTo isWd l i) := by
  by_cases ha : aloneF l (runTo p l i) = true
  · have he := (alone_iff hp l i h).1 ha
    have hre : runTo p l i = runTo isWd l i := by rw [runTo_eq, runTo_eq, he]
    rw [if_pos ha, hre]
  · rw [if_neg ha]
    by_cases hn : f (cut l i (runTo isWd l i)) (runTo isWd l i) = none
    · exact hn.symm
    · exfalso
      apply ha
      rw [alone_iff hp l i h]
      have hall := hf _ _ hn
      rw [cut_run _ _ _ h.1] at hall
      have key : ∀ m : List UInt8, (tw isWd m).all (fun b => p b.toNat) = true → tw p m = tw isWd m := by
        intro m
        induction m with
        | nil => simp [tw]
        | cons x m ih =>
          unfold tw at *
          intro hm
          cases hq : isWd x.toNat with
          | true =>
            simp only [List.takeWhile_cons, hq, if_true, List.all_cons, Bool.and_eq_true] at hm ⊢
            rw [if_pos hm.1, ih hm.2]
          | false =>
            have : p x.toNat = false := by
              cases hpx : p x.toNat with
              | false => rfl
              | true => rw [hp x hpx] at hq; cases hq
            simp [hq, this]
      exact key _ hall
theorem words_up : wordsL.all (fun w => w.all fun b => isUp b.toNat) = true := by decide +kernel
theorem word_up {x : List UInt8} (h : wordF x = true) : x.all (fun b => isUp b.toNat) = true := by
  have := List.all_eq_true.1 words_up x (by simpa [wordF] using h)
  exact this
theorem okGo_ne (l : List UInt8) : ∀ j : Int, 0 < j → okGo l j = l.all fun b => isIn b.toNat := by
  induction l with
  | nil => intro j _; rfl
  | cons c l ih =>
    intro j hj
    have hc := u8_range c
    have key : ∀ n : Fin 256, (decide (clsF (n.val : Int) = 2) || (decide (clsF (n.val : Int) = 3) || decide (clsF (n.val : Int) = 4))) = isIn (n.val : Int) := by decide +kernel
    have hk := of256 (p := fun c => (decide (clsF c = 2) || (decide (clsF c = 3) || decide (clsF c = 4))) = isIn c) key c.toNat hc
    simp only [okGo, List.all_cons, ih (j + 1) (by omega), nmOk, show decide (j = 0) = false by simp; omega, Bool.not_false, Bool.true_and, hk]
theorem okGo_zero (c : UInt8) (l : List UInt8) : okGo (c :: l) 0 = (isLo c.toNat && l.all fun b => isIn b.toNat) := by
  have hc := u8_range c
  have key : ∀ n : Fin 256, decide (clsF (n.val : Int) = 2) = isLo (n.val : Int) := by decide +kernel
  have hk := of256 (p := fun c => decide (clsF c = 2) = isLo c) key c.toNat hc
  simp only [okGo, nmOk, decide_true, Bool.not_true, Bool.false_and, Bool.or_false, hk]
  rw [okGo_ne l (0 + 1) (by omega)]
theorem tw_full {p : Int → Bool} : ∀ m : List UInt8, (tw p m).length = m.length ↔ m.all (fun b => p b.toNat) = true
  | [] => by simp [tw]
  | x :: m => by
    have ih := tw_full (p := p) m
    unfold tw at *
    cases hp : p x.toNat with
    | true => simp only [List.takeWhile_cons, hp, if_true, List.length_cons, List.all_cons, Bool.true_and, ← ih]; omega
    | false => simp [hp]
theorem lo_in {c : Int} (h : isLo c = true) : isIn c = true := by simp [isIn, h]
theorem name_eq (x : List UInt8) : nameF x = rnameF x := by
  cases x with
  | nil => rfl
  | cons c x =>
    have hrun : (runTo isIn (c :: x) 0 == ((c :: x).length : Int)) = (c :: x).all fun b => isIn b.toNat := by
      rw [Bool.eq_iff_iff, ← tw_full, beq_iff_eq, runTo_eq]
      simp only [Int.toNat_zero, List.drop_zero]
      omega
    have hb : byt (c :: x) 0 = (c.toNat : Int) := rfl
    simp only [nameF, rnameF, okGo_zero, hrun, hb]
    rw [Bool.eq_iff_iff]
    simp only [Bool.and_eq_true, Bool.not_eq_true', decide_eq_true_eq, decide_eq_false_iff_not, List.all_cons, List.length_cons]
    constructor
    · rintro ⟨⟨⟨_, h1⟩, h2⟩, h3⟩
      exact ⟨⟨h2, h3.2⟩, by omega, h1⟩
    · rintro ⟨⟨h2, h3⟩, _, h1⟩
      exact ⟨⟨⟨by simp, h1⟩, h2⟩, lo_in h2, h3⟩
theorem name_in {x : List UInt8} (h : nameF x = true) : x.all (fun b => isIn b.toNat) = true := by
  simp only [nameF, Bool.and_eq_true, beq_iff_eq] at h
  rw [← tw_full]
  have := h.2
  rw [runTo_eq] at this
  simp only [Int.toNat_zero, List.drop_zero] at this
  omega

/-! from PlB -/
theorem di_bd {c : UInt8} (h : isDi c.toNat = true) : 48 ≤ (c.toNat : Int) ∧ (c.toNat : Int) ≤ 57 := by
  simpa [isDi] using h
theorem cls_di {c : UInt8} (h : isDi c.toNat = true) : clsF c.toNat = 3 := by
  have key : ∀ n : Fin 256, isDi (n.val : Int) = true → clsF (n.val : Int) = 3 := by decide +kernel
  exact of256 (p := fun c => isDi c = true → clsF c = 3) key c.toNat (u8_range c) h
theorem di_cls {c : UInt8} (h : clsF c.toNat = 3) : isDi c.toNat = true := by
  have := cls3 h
  simp [isDi]; omega
theorem num_step {c : UInt8} (h : isDi c.toNat = true) {n : Int} (hn : 0 ≤ n) : (inI (n * 10) ∧ inI (n * 10 + dg c.toNat)) ↔ ¬ (clsF c.toNat ≠ 3 ∨ 922337203685477580 < n ∨ (n = 922337203685477580 ∧ 7 < (c.toNat : Int) - 48)) := by
  have hb := di_bd h
  rw [dg_eq _ (by omega), cls_di h]
  unfold inI
  constructor
  · rintro ⟨h1, h2⟩ (h3 | h3 | h3)
    · exact h3 rfl
    · omega
    · omega
  · intro h3
    have h4 : ¬ (922337203685477580 < n) := fun h => h3 (.inr (.inl h))
    have h5 : ¬ (n = 922337203685477580 ∧ 7 < (c.toNat : Int) - 48) := fun h => h3 (.inr (.inr h))
    omega
theorem num_go : ∀ (x : List UInt8) (n : Int), 0 ≤ n → x.all (fun b => isDi b.toNat) = true → rnumGo x n = numGo x n ∧ ∀ m, numGo x n = some m → 0 ≤ m
  | [], n, hn, _ => ⟨rfl, fun m h => by simp only [numGo, Option.some.injEq] at h; omega⟩
  | c :: x, n, hn, hx => by
    simp only [List.all_cons, Bool.and_eq_true] at hx
    have hb := di_bd hx.1
    have hs := num_step hx.1 hn
    have hd : dg c.toNat = (c.toNat : Int) - 48 := dg_eq _ (by omega)
    simp only [rnumGo, numGo]
    by_cases hc : clsF c.toNat ≠ 3 ∨ 922337203685477580 < n ∨ (n = 922337203685477580 ∧ 7 < (c.toNat : Int) - 48)
    · rw [if_pos hc, if_neg (fun h => hs.1 h hc)]
      exact ⟨rfl, fun m h => by cases h⟩
    · rw [if_neg hc, if_pos (hs.2 hc), hd, show 10 * n + ((c.toNat : Int) - 48) = n * 10 + ((c.toNat : Int) - 48) by omega]
      exact num_go x _ (by omega) hx.2
theorem rnum_all : ∀ (x : List UInt8) (n : Int), rnumGo x n ≠ none → x.all (fun b => isDi b.toNat) = true
  | [], _, _ => rfl
  | c :: x, n, h => by
    simp only [rnumGo] at h
    split at h
    · exact absurd rfl h
    · rename_i hc
      have h3 : clsF c.toNat = 3 := by
        by_cases h3 : clsF c.toNat = 3
        · exact h3
        · exact absurd (.inl h3) hc
      simp only [List.all_cons, Bool.and_eq_true]
      exact ⟨di_cls h3, rnum_all x _ h⟩
/-- what a number's text is -/
def numTok (x : List UInt8) (j : Int) : Option (Int × List UInt8 × Int × Int) := if 0 ≤ rnumF x then some (3, x, rnumF x, j) else none
theorem numTok_all {x : List UInt8} {j : Int} (h : numTok x j ≠ none) : x.all (fun b => isDi b.toNat) = true := by
  unfold numTok at h
  split at h
  · rename_i h0
    unfold rnumF at h0
    split at h0
    · omega
    · rename_i n hn
      exact rnum_all x 0 (by rw [hn]; simp)
  · exact absurd rfl h
theorem lead {x : List UInt8} (hne : x ≠ []) : (decide (x = [48]) || byt x 0 != 48) = true ↔ ¬ (1 < (x.length : Int) ∧ byt x 0 = 48) := by
  cases x with
  | nil => exact absurd rfl hne
  | cons c x =>
    have hb : byt (c :: x) 0 = (c.toNat : Int) := rfl
    have hc : (c.toNat : Int) = 48 ↔ c = 48 := by rw [← UInt8.toNat_inj]; simp; omega
    rw [hb]
    simp only [Bool.or_eq_true, decide_eq_true_eq, bne_iff_ne, ne_eq, List.cons.injEq, List.length_cons, hc]
    constructor
    · rintro (⟨_, h⟩ | h) ⟨h1, h2⟩
      · subst h; simp at h1
      · exact h h2
    · intro h
      by_cases h2 : c = 48
      · left
        refine ⟨h2, ?_⟩
        cases x with
        | nil => rfl
        | cons d x => exact absurd ⟨by simp; omega, h2⟩ h
      · exact .inr h2
theorem num_eq {x : List UInt8} (hne : x ≠ []) (hx : x.all (fun b => isDi b.toNat) = true) (a : Bool) (j : Int) :
    (match numGo x 0 with
    | none => none
    | some n => if (decide (x = [48]) || byt x 0 != 48) && a then some ((3 : Int), x, n, j) else none) = if a then numTok x j else none := by
  obtain ⟨h1, h2⟩ := num_go x 0 (by omega) hx
  unfold numTok rnumF
  rw [h1]
  cases hn : numGo x 0 with
  | none => cases a <;> simp
  | some n =>
    have hp := h2 n hn
    cases hl : (decide (x = [48]) || byt x 0 != 48) with
    | true =>
      have := (lead hne).1 hl
      cases a <;> simp [this, hp]
    | false =>
      have : 1 < (x.length : Int) ∧ byt x 0 = 48 := by
        by_cases hh : 1 < (x.length : Int) ∧ byt x 0 = 48
        · exact hh
        · rw [(lead hne).2 hh] at hl; cases hl
      cases a <;> simp [this]
theorem hex_iff (l : List UInt8) (i : Int) (h : 0 ≤ i ∧ i < l.length) : HexAt l i ↔ pre (l.drop i.toNat) [120, 39] = true := by
  have hdl : (l.drop i.toNat).length = l.length - i.toNat := List.length_drop
  have hb1 := byt_drop l i h.1 1
  unfold HexAt
  rw [cut_run _ _ _ h.1, runTo_eq]
  generalize l.drop i.toNat = m at *
  have w120 : isWd ((120 : UInt8).toNat : Int) = true := by decide +kernel
  have w39 : isWd ((39 : UInt8).toNat : Int) = false := by decide +kernel
  match m with
  | [] => simp at hdl; omega
  | [a] =>
    simp only [List.length_singleton] at hdl
    constructor
    · rintro ⟨h1, h2, _⟩
      rw [h1] at h2
      simp at h2
      omega
    · intro h; simp [pre] at h
  | a :: b :: r =>
    have hbb : byt (a :: b :: r) ((1 : Nat) : Int) = (b.toNat : Int) := rfl
    constructor
    · rintro ⟨h1, h2, h3⟩
      rw [h1] at h3
      have hb : b = 39 := by
        have : byt l (i + (([120] : List UInt8).length : Int)) = (b.toNat : Int) := by rw [← hbb, hb1]; rfl
        rw [this] at h3
        rw [← UInt8.toNat_inj]; simp; omega
      have ha : a = 120 := by
        unfold tw at h1
        cases hw : isWd a.toNat with
        | true => simp [hw] at h1; exact h1.1
        | false => simp [hw] at h1
      subst hb; subst ha
      simp [pre]
    · intro h
      simp only [pre, Bool.and_eq_true, decide_eq_true_eq, List.length_cons, List.length_nil, List.take_succ_cons, List.take_zero, List.cons.injEq, and_true] at h
      obtain ⟨_, rfl, rfl⟩ := h
      have e1 : tw isWd (120 :: 39 :: r) = [120] := by
        unfold tw
        rw [List.takeWhile_cons, if_pos w120, List.takeWhile_cons, if_neg (by rw [w39]; simp)]
      rw [e1]
      refine ⟨rfl, ?_, ?_⟩
      · simp only [List.length_cons] at hdl ⊢
        simp
        omega
      · have : byt l (i + (([120] : List UInt8).length : Int)) = (((39 : UInt8).toNat : Nat) : Int) := by
          rw [← hbb, hb1]; rfl
        rw [this]; rfl
theorem index_tw : ∀ m : List UInt8, Lib.indexByte m 39 = if (tw (fun c => !decide (c = 39)) m).length = m.length then -1 else ((tw (fun c => !decide (c = 39)) m).length : Int)
  | [] => rfl
  | b :: m => by
    have ih := index_tw m
    have hl := tw_len (fun c => !decide (c = 39)) m
    by_cases hb : b = 39
    · subst hb
      rfl
    · have hne : ¬ ((b.toNat : Int) = 39) := fun h => hb (by rw [← UInt8.toNat_inj]; simp; omega)
      have e1 : tw (fun c => !decide (c = 39)) (b :: m) = b :: tw (fun c => !decide (c = 39)) m := by
        unfold tw
        rw [List.takeWhile_cons, if_pos (by simp [hne])]
      have e2 : (b == 39) = false := by simpa using hb
      rw [Lib.indexByte, e1, ih, e2]
      simp only [Bool.false_eq_true, if_false, List.length_cons]
      by_cases hf : (tw (fun c => !decide (c = 39)) m).length = m.length
      · simp [hf]
      · have : ¬ ((((tw (fun c => !decide (c = 39)) m).length : Int) == -1) = true) := by simp
        rw [if_neg hf, if_neg this, if_neg (by omega)]
        omega
theorem pre_two (l : List UInt8) (i : Int) (h : 0 ≤ i ∧ i < l.length) (a b : UInt8) : pre (l.drop i.toNat) [a, b] = true ↔ i + 1 < l.length ∧ cut l i (i + 2) = [a, b] := by
  unfold pre cut
  have hdl : (l.drop i.toNat).length = l.length - i.toNat := List.length_drop
  rw [show (i + 2).toNat - i.toNat = 2 by omega]
  simp only [Bool.and_eq_true, decide_eq_true_eq, List.length_cons, List.length_nil, hdl]
  constructor
  · rintro ⟨h1, h2⟩; exact ⟨by omega, h2⟩
  · rintro ⟨h1, h2⟩; exact ⟨by omega, h2⟩
theorem pre_head {m : List UInt8} {a b : UInt8} (h : pre m [a, b] = true) : byt m 0 = a.toNat := by
  simp only [pre, Bool.and_eq_true, decide_eq_true_eq, List.length_cons, List.length_nil] at h
  obtain ⟨_, h2⟩ := h
  cases m with
  | nil => cases h2
  | cons c m => simp at h2; rw [← h2.1]; rfl
theorem sign_tok (l : List UInt8) (i : Int) (h : 0 ≤ i ∧ i < l.length) : (if signF (l.drop i.toNat) = 0 then none else some ((6 : Int), cut l i (i + signF (l.drop i.toNat)), (0 : Int), i + signF (l.drop i.toNat))) =
    if clsF (byt l i) = 7 then (if twoR l i then some (6, cut l i (i + 2), 0, i + 2) else some (6, cut l i (i + 1), 0, i + 1)) else none := by
  have hb0 : byt (l.drop i.toNat) 0 = byt l i := by simpa using byt_drop l i h.1 0
  have hb := byt_range l i
  have hs := sign_eq (byt l i) hb
  have htwo : twoR l i ↔ (pre (l.drop i.toNat) [60, 62] || pre (l.drop i.toNat) [60, 61] || pre (l.drop i.toNat) [62, 61]) = true := by
    simp only [Bool.or_eq_true, pre_two l i h, twoR]
    constructor
    · rintro ⟨h1, h2 | h2 | h2⟩
      · exact .inl (.inl ⟨h1, h2⟩)
      · exact .inl (.inr ⟨h1, h2⟩)
      · exact .inr ⟨h1, h2⟩
    · rintro ((⟨h1, h2⟩ | ⟨h1, h2⟩) | ⟨h1, h2⟩)
      · exact ⟨h1, .inl h2⟩
      · exact ⟨h1, .inr (.inl h2)⟩
      · exact ⟨h1, .inr (.inr h2)⟩
  unfold signF
  by_cases h2 : twoR l i
  · have h2' := htwo.1 h2
    have hc : byt l i = 60 ∨ byt l i = 62 := by
      rw [← hb0]
      simp only [Bool.or_eq_true] at h2'
      rcases h2' with (h | h) | h
      · left; rw [pre_head h]; rfl
      · left; rw [pre_head h]; rfl
      · right; rw [pre_head h]; rfl
    have hc7 : clsF (byt l i) = 7 := by
      rcases hc with h | h <;> rw [h] <;> decide +kernel
    rw [if_pos h2', if_neg (by omega), if_pos hc7, if_pos h2]
  · have h2' : ¬ _ := fun h => h2 (htwo.2 h)
    rw [if_neg h2', if_neg h2, hb0]
    by_cases hc7 : clsF (byt l i) = 7
    · have h0 : 0 ≤ Lib.indexByte signs (byt l i).toNat.toUInt8 := by
        rw [decide_eq_true hc7] at hs; exact of_decide_eq_true hs
      rw [if_pos h0, if_neg (by omega), if_pos hc7]
    · have h0 : ¬ 0 ≤ Lib.indexByte signs (byt l i).toNat.toUInt8 := by
        rw [decide_eq_false hc7] at hs; exact of_decide_eq_false hs
      rw [if_neg h0, if_pos rfl, if_neg hc7]
theorem up_wd (b : UInt8) (h : isUp b.toNat = true) : isWd b.toNat = true := by rw [isWd_eq _ (u8_range b), h]; rfl
theorem in_wd (b : UInt8) (h : isIn b.toNat = true) : isWd b.toNat = true := by rw [isWd_eq _ (u8_range b), h, Bool.or_true]
theorem di_in (b : UInt8) (h : isDi b.toNat = true) : isIn b.toNat = true := by simp [isIn, h]
theorem ite_and {α : Type} (p q : Bool) (x : α) : (if (p && q) = true then some x else none) = if q = true then (if p = true then some x else none) else none := by
  cases p <;> cases q <;> rfl
theorem tok_eq (l : List UInt8) (i : Int) (h : 0 ≤ i ∧ i < l.length) : tokF l i = tokR l i := by
  have hb := byt_range l i
  unfold tokF tokR
  by_cases hx : HexAt l i
  · have hx' := (hex_iff l i h).1 hx
    rw [if_pos hx, if_pos hx']
    have hr1 : runTo isWd l i = i + 1 := by
      rw [runTo_eq, ← cut_run _ _ _ h.1, hx.1]; rfl
    have hlt : i + 1 < l.length := by have := hx.2.1; omega
    have hdl : (l.drop (i + 2).toNat).length = l.length - (i + 2).toNat := List.length_drop
    have htl := tw_len (fun c => !decide (c = 39)) (l.drop (i + 2).toNat)
    rw [hr1]
    simp only
    rw [show i + 1 + 1 = i + 2 by omega, index_tw, runTo_eq]
    by_cases hf : (tw (fun c => !decide (c = 39)) (l.drop (i + 2).toNat)).length = (l.drop (i + 2).toNat).length
    · rw [if_pos hf, if_pos (by omega), if_pos (by omega)]
    · rw [if_neg hf, if_neg (show ¬ ((tw (fun c => !decide (c = 39)) (l.drop (i + 2).toNat)).length : Int) < 0 by omega), if_neg (show ¬ i + 2 + ((tw (fun c => !decide (c = 39)) (l.drop (i + 2).toNat)).length : Int) = l.length by omega)]
      rw [show i + 3 + ((tw (fun c => !decide (c = 39)) (l.drop (i + 2).toNat)).length : Int) = i + 2 + ((tw (fun c => !decide (c = 39)) (l.drop (i + 2).toNat)).length : Int) + 1 by omega]
  · have hx' : ¬ pre (l.drop i.toNat) [120, 39] = true := fun hh => hx ((hex_iff l i h).2 hh)
    rw [if_neg hx, if_neg hx']
    have cls : ∀ n : Fin 256, clsF (n.val : Int) = if isUp (n.val : Int) then 1 else if isLo (n.val : Int) then 2 else if isDi (n.val : Int) then 3 else if (n.val : Int) = 39 then 5 else if clsF (n.val : Int) = 7 then 7 else if clsF (n.val : Int) = 6 then 6 else if clsF (n.val : Int) = 4 then 4 else 0 := by decide +kernel
    have hcls := of256 (p := fun c => clsF c = if isUp c then 1 else if isLo c then 2 else if isDi c then 3 else if c = 39 then 5 else if clsF c = 7 then 7 else if clsF c = 6 then 6 else if clsF c = 4 then 4 else 0) cls (byt l i) hb
    have h' : 0 ≤ i ∧ i ≤ l.length := by omega
    cases hu : isUp (byt l i) with
    | true =>
      rw [hu] at hcls
      have h1 : clsF (byt l i) = 1 := hcls
      rw [if_pos rfl, if_pos h1, ite_and]
      exact kind_eq up_wd l i h' (fun x j => if wordF x then some ((1 : Int), x, (0 : Int), j) else none) (fun x j hn => by
        by_cases hw : wordF x = true
        · exact word_up hw
        · simp [hw] at hn)
    | false =>
      rw [hu] at hcls
      rw [if_neg (by simp)]
      cases hlo : isLo (byt l i) with
      | true =>
        rw [hlo] at hcls
        have h1 : clsF (byt l i) = 2 := hcls
        rw [if_pos rfl, if_neg (show ¬ clsF (byt l i) = 1 by omega), if_pos h1, ite_and]
        have := kind_eq in_wd l i h' (fun x j => if nameF x then some ((2 : Int), x, (0 : Int), j) else none) (fun x j hn => by
          by_cases hw : nameF x = true
          · exact name_in hw
          · simp [hw] at hn)
        rw [this, name_eq]
      | false =>
        rw [hlo] at hcls
        rw [if_neg (by simp)]
        cases hd : isDi (byt l i) with
        | true =>
          rw [hd] at hcls
          have h1 : clsF (byt l i) = 3 := hcls
          rw [if_pos rfl, if_neg (show ¬ clsF (byt l i) = 1 by omega), if_neg (show ¬ clsF (byt l i) = 2 by omega), if_pos h1]
          have hrg := runTo_gt h hd
          have hne : cut l i (runTo isDi l i) ≠ [] := by
            have := cut_length l i (runTo isDi l i) (by have := runTo_range isDi l i h'; omega)
            intro h0
            rw [h0] at this
            simp at this
            omega
          have hall : (cut l i (runTo isDi l i)).all (fun b => isDi b.toNat) = true := by rw [cut_run _ _ _ h.1]; exact tw_all _ _
          refine (num_eq hne hall _ _).trans ?_
          exact kind_eq (fun b hb => in_wd b (di_in b hb)) l i h' numTok (fun x j hn => numTok_all hn)
        | false =>
          rw [hd] at hcls
          rw [if_neg (by simp)]
          by_cases hq : byt l i = 39
          · have h1 : clsF (byt l i) = 5 := by rw [hq]; decide +kernel
            rw [if_pos hq, if_neg (show ¬ clsF (byt l i) = 1 by omega), if_neg (show ¬ clsF (byt l i) = 2 by omega), if_neg (show ¬ clsF (byt l i) = 3 by omega), if_pos h1]
            have hqi := qGo_in _ (l.drop (i + 1).toNat) [] (i + 1) (Nat.le_refl _) (by omega)
            simp only
            generalize qGo (l.drop (i + 1).toNat) [] (i + 1) = q at *
            unfold checkF
            cases hr : rightF 4 0 q.1 with
            | true =>
              by_cases hn : q.2 < 0
              · have : q.2 = -1 := by omega
                simp [this]
              · have : ¬ q.2 = -1 := by omega
                simp [this, hn]
            | false => simp
          · have h1 : ¬ clsF (byt l i) = 1 ∧ ¬ clsF (byt l i) = 2 ∧ ¬ clsF (byt l i) = 3 ∧ ¬ clsF (byt l i) = 5 := by
              simp only [Bool.false_eq_true, if_false, if_neg hq] at hcls
              split at hcls
              · omega
              · split at hcls
                · omega
                · split at hcls <;> omega
            rw [if_neg hq, if_neg h1.1, if_neg h1.2.1, if_neg h1.2.2.1, if_neg h1.2.2.2]
            exact sign_tok l i h
theorem allGo_eq (l : List UInt8) : ∀ (f : Nat) (i : Int) (acc : List Tok), 0 ≤ i → allGo f l i acc = rallGo f l i acc
  | 0, _, _, _ => rfl
  | f + 1, i, acc, hi => by
    simp only [allGo, rallGo]
    by_cases he : (l.length : Int) ≤ i
    · rw [if_pos he, if_pos he]
    · rw [if_neg he, if_neg he, blank_eq _ (byt_range l i)]
      by_cases hb : clsF (byt l i) = 6
      · rw [if_pos (by simp [hb]), if_pos hb]
        exact allGo_eq l f _ _ (by omega)
      · rw [if_neg (by simp [hb]), if_neg hb, tok_eq l i (by omega)]
        cases ht : tokR l i with
        | none => rfl
        | some r =>
          obtain ⟨k, s, n, e⟩ := r
          have := tokR_end (by omega) ht
          exact allGo_eq l f _ _ (by omega)
theorem allF_eq (l : List UInt8) : allF l = rallF l := allGo_eq l _ 0 [] (by omega)

/-! from PlC -/
/-- between quotes: what is meant, and how many bytes it takes, the quote that ends it among them -/
def qS : List UInt8 → List UInt8 → Option (List UInt8 × Nat)
  | [], _ => none
  | [c], acc => if c = 39 then some (acc, 1) else none
  | c :: d :: r, acc => if c = 39 then (if d = 39 then (qS r (acc ++ [39])).map fun x => (x.1, x.2 + 2) else some (acc, 1)) else (qS (d :: r) (acc ++ [c])).map fun x => (x.1, x.2 + 1)
theorem qGo_eq : ∀ (f : Nat) (l acc : List UInt8) (i : Int), l.length ≤ f → qGo l acc i = match qS l acc with
    | none => ([], -1)
    | some (s, n) => (s, i + (n : Int))
  | _, [], _, _, _ => rfl
  | _, [c], acc, i, _ => by
    by_cases hc : c = 39 <;> simp [qGo, qS, hc]
  | 0, c :: d :: r, _, _, h => by simp at h
  | f + 1, c :: d :: r, acc, i, h => by
    simp only [List.length_cons] at h
    rw [qGo, qS]
    by_cases hc : c = 39
    · rw [if_pos hc, if_pos hc]
      by_cases hd : d = 39
      · rw [if_pos hd, if_pos hd, qGo_eq f r (acc ++ [39]) (i + 2) (by omega)]
        cases qS r (acc ++ [39]) with
        | none => rfl
        | some x => simp; omega
      · rw [if_neg hd, if_neg hd]; rfl
    · rw [if_neg hc, if_neg hc, qGo_eq f (d :: r) (acc ++ [c]) (i + 1) (by simp; omega)]
      cases qS (d :: r) (acc ++ [c]) with
      | none => rfl
      | some x => simp; omega
theorem qS_len : ∀ (f : Nat) (l acc s : List UInt8) (n : Nat), l.length ≤ f → qS l acc = some (s, n) → 1 ≤ n ∧ n ≤ l.length
  | _, [], _, _, _, _, h => by cases h
  | _, [c], acc, s, n, _, h => by
    by_cases hc : c = 39 <;> simp [qS, hc] at h
    simp [← h.2]
  | 0, c :: d :: r, _, _, _, h, _ => by simp at h
  | f + 1, c :: d :: r, acc, s, n, hl, h => by
    simp only [List.length_cons] at hl ⊢
    rw [qS] at h
    by_cases hc : c = 39
    · rw [if_pos hc] at h
      by_cases hd : d = 39
      · rw [if_pos hd] at h
        obtain ⟨⟨s', n'⟩, hq, he⟩ := Option.map_eq_some_iff.1 h
        have := qS_len f r (acc ++ [39]) s' n' (by omega) hq
        simp at he; omega
      · rw [if_neg hd] at h
        simp at h; omega
    · rw [if_neg hc] at h
      obtain ⟨⟨s', n'⟩, hq, he⟩ := Option.map_eq_some_iff.1 h
      have := qS_len f (d :: r) (acc ++ [c]) s' n' (by simp; omega) hq
      simp at he this; omega
/-- what stands behind, if it begins with no quote, does not matter -/
theorem qS_app : ∀ (f : Nat) (l acc s : List UInt8) (n : Nat) (t : List UInt8), l.length ≤ f → (∀ c b, t = c :: b → c ≠ 39) → qS l acc = some (s, n) → qS (l ++ t) acc = some (s, n)
  | _, [], _, _, _, _, _, _, h => by cases h
  | _, [c], acc, s, n, t, _, ht, h => by
    by_cases hc : c = 39 <;> simp [qS, hc] at h
    cases t with
    | nil => simp [qS, hc, h]
    | cons d t => simp [qS, hc, ht d t rfl, h]
  | 0, c :: d :: r, _, _, _, _, h, _, _ => by simp at h
  | f + 1, c :: d :: r, acc, s, n, t, hl, ht, h => by
    simp only [List.length_cons] at hl
    simp only [List.cons_append]
    rw [qS] at h ⊢
    by_cases hc : c = 39
    · rw [if_pos hc] at h ⊢
      by_cases hd : d = 39
      · rw [if_pos hd] at h ⊢
        obtain ⟨⟨s', n'⟩, hq, he⟩ := Option.map_eq_some_iff.1 h
        rw [qS_app f r (acc ++ [39]) s' n' t (by omega) ht hq]
        exact congrArg some he
      · rw [if_neg hd] at h ⊢
        exact h
    · rw [if_neg hc] at h ⊢
      obtain ⟨⟨s', n'⟩, hq, he⟩ := Option.map_eq_some_iff.1 h
      have := qS_app f (d :: r) (acc ++ [c]) s' n' t (by simp; omega) ht hq
      simp only [List.cons_append] at this
      rw [this]
      exact congrArg some he
/-- what is cut off behind does not matter -/
theorem qS_take : ∀ (f : Nat) (l acc s : List UInt8) (n j : Nat), l.length ≤ f → n ≤ j → qS l acc = some (s, n) → qS (l.take j) acc = some (s, n)
  | _, [], _, _, _, _, _, _, h => by cases h
  | _, [c], acc, s, n, j, _, hj, h => by
    have hl := qS_len 1 [c] acc s n (by simp) h
    obtain ⟨j, rfl⟩ : ∃ i, j = i + 1 := ⟨j - 1, by omega⟩
    simpa using h
  | 0, c :: d :: r, _, _, _, _, h, _, _ => by simp at h
  | f + 1, c :: d :: r, acc, s, n, j, hl, hj, h => by
    have hn := qS_len (f + 1) (c :: d :: r) acc s n hl h
    simp only [List.length_cons] at hl
    obtain ⟨j, rfl⟩ : ∃ i, j = i + 1 := ⟨j - 1, by omega⟩
    rw [qS] at h
    by_cases hc : c = 39
    · rw [if_pos hc] at h
      by_cases hd : d = 39
      · rw [if_pos hd] at h
        obtain ⟨⟨s', n'⟩, hq, he⟩ := Option.map_eq_some_iff.1 h
        simp only [Prod.mk.injEq] at he
        obtain ⟨j, rfl⟩ : ∃ i, j = i + 1 := ⟨j - 1, by omega⟩
        simp only [List.take_succ_cons]
        rw [qS, if_pos hc, if_pos hd, qS_take f r (acc ++ [39]) s' n' j (by omega) (by omega) hq]
        simp [he]
      · rw [if_neg hd] at h
        cases j with
        | zero => simp [qS, hc]; simpa using h
        | succ j => simp only [List.take_succ_cons]; rw [qS, if_pos hc, if_neg hd]; exact h
    · rw [if_neg hc] at h
      obtain ⟨⟨s', n'⟩, hq, he⟩ := Option.map_eq_some_iff.1 h
      simp only [Prod.mk.injEq] at he
      have hn' := qS_len f (d :: r) (acc ++ [c]) s' n' (by simp; omega) hq
      obtain ⟨j, rfl⟩ : ∃ i, j = i + 1 := ⟨j - 1, by omega⟩
      have := qS_take f (d :: r) (acc ++ [c]) s' n' (j + 1) (by simp; omega) (by omega) hq
      simp only [List.take_succ_cons] at this ⊢
      rw [qS, if_neg hc, this]
      simp [he]
theorem tw_app {p : Int → Bool} (t : List UInt8) (ht : ∀ c b, t = c :: b → p c.toNat = false) : ∀ m : List UInt8, tw p (m ++ t) = tw p m
  | [] => by
    cases t with
    | nil => rfl
    | cons c t => simp [tw, ht c t rfl]
  | x :: m => by
    have ih := tw_app t ht m
    unfold tw at *
    cases hp : p x.toNat with
    | true => simp [hp]; exact ih
    | false => simp [hp]
theorem tw_take' {p : Int → Bool} : ∀ (m : List UInt8) (j : Nat), tw p (m.take j) = (tw p m).take j
  | [], j => by simp [tw]
  | x :: m, 0 => by simp [tw]
  | x :: m, j + 1 => by
    have ih := tw_take' (p := p) m j
    unfold tw at *
    cases hp : p x.toNat with
    | true => simp [hp]; exact ih
    | false => simp [hp]
def nq (c : Int) : Bool := !decide (c = 39)
def twoS (m : List UInt8) : Bool := pre m [60, 62] || pre m [60, 61] || pre m [62, 61]
/-- the token at the head of a text: kind, text, number, how many bytes it takes -/
def tokS (m : List UInt8) : Option (Int × List UInt8 × Int × Nat) :=
  if pre m [120, 39] then
    (if (tw nq (m.drop 2)).length = (m.drop 2).length then none else
    match (if (tw nq (m.drop 2)).length % 2 = 0 then unGo (tw nq (m.drop 2)) [] else none) with
    | none => none
    | some b => if 1000 < (b.length : Int) then none else some (5, b, 0, (tw nq (m.drop 2)).length + 3))
  else if clsF (byt m 0) = 1 then (if wordF (tw isWd m) then some (1, tw isWd m, 0, (tw isWd m).length) else none)
  else if clsF (byt m 0) = 2 then (if rnameF (tw isWd m) then some (2, tw isWd m, 0, (tw isWd m).length) else none)
  else if clsF (byt m 0) = 3 then (if 0 ≤ rnumF (tw isWd m) then some (3, tw isWd m, rnumF (tw isWd m), (tw isWd m).length) else none)
  else if clsF (byt m 0) = 5 then
    match qS (m.drop 1) [] with
    | none => none
    | some (s, n) => if checkF 4 0 s = 0 then some (4, s, 0, n + 1) else none
  else if clsF (byt m 0) = 7 then (if twoS m then some (6, m.take 2, 0, 2) else some (6, m.take 1, 0, 1))
  else none
theorem tokR_S (l : List UInt8) (i : Int) (h : 0 ≤ i ∧ i < l.length) : tokR l i = (tokS (l.drop i.toNat)).map fun x => (x.1, x.2.1, x.2.2.1, i + (x.2.2.2 : Int)) := by
  have hb0 : byt (l.drop i.toNat) 0 = byt l i := by simpa using byt_drop l i h.1 0
  have hdl : (l.drop i.toNat).length = l.length - i.toNat := List.length_drop
  have hd1 : (l.drop i.toNat).drop 1 = l.drop (i + 1).toNat := by rw [List.drop_drop]; congr 1; omega
  have hd2 : (l.drop i.toNat).drop 2 = l.drop (i + 2).toNat := by rw [List.drop_drop]; congr 1; omega
  unfold tokR tokS
  by_cases hx : HexAt l i
  · rw [if_pos hx, if_pos ((hex_iff l i h).1 hx)]
    have hr1 : runTo isWd l i = i + 1 := by
      rw [runTo_eq, ← cut_run _ _ _ h.1, hx.1]; rfl
    have hlt : i + 1 < l.length := by have := hx.2.1; omega
    have hdl2 : (l.drop (i + 2).toNat).length = l.length - (i + 2).toNat := List.length_drop
    rw [hr1]
    simp only
    rw [show i + 1 + 1 = i + 2 by omega, hd2, cut_run _ _ _ (by omega), runTo_eq]
    change (if i + 2 + ((tw nq (l.drop (i + 2).toNat)).length : Int) = l.length then none else match (if (tw nq (l.drop (i + 2).toNat)).length % 2 = 0 then unGo (tw nq (l.drop (i + 2).toNat)) [] else none) with | none => none | some b => if 1000 < (b.length : Int) then none else some ((5 : Int), b, (0 : Int), i + 2 + ((tw nq (l.drop (i + 2).toNat)).length : Int) + 1)) = _
    generalize tw nq (l.drop (i + 2).toNat) = r at *
    by_cases hf : r.length = (l.drop (i + 2).toNat).length
    · rw [if_pos (show i + 2 + (r.length : Int) = l.length by omega), if_pos hf]; rfl
    · rw [if_neg (show ¬ i + 2 + (r.length : Int) = l.length by omega), if_neg hf]
      generalize (if r.length % 2 = 0 then unGo r [] else none) = u
      cases u with
      | none => rfl
      | some b =>
        by_cases hbig : 1000 < (b.length : Int)
        · simp only [if_pos hbig]; rfl
        · simp only [if_neg hbig, Option.map_some, Option.some.injEq, Prod.mk.injEq, true_and]
          omega
  · rw [if_neg hx, if_neg (fun hh => hx ((hex_iff l i h).2 hh)), hb0, cut_run _ _ _ h.1, runTo_eq]
    split
    · split <;> rfl
    · split
      · split <;> rfl
      · split
        · split <;> rfl
        · split
          · rw [hd1, qGo_eq _ _ _ _ (Nat.le_refl _)]
            cases qS (l.drop (i + 1).toNat) [] with
            | none => rfl
            | some x =>
              obtain ⟨s, n⟩ := x
              by_cases hk : checkF 4 0 s = 0
              · simp only [if_pos hk]
                rw [if_pos ⟨by omega, hk⟩]
                simp; omega
              · simp [hk]
          · split
            · have htwo : twoR l i ↔ twoS (l.drop i.toNat) = true := by
                simp only [twoS, Bool.or_eq_true, pre_two l i h, twoR]
                constructor
                · rintro ⟨h1, h2 | h2 | h2⟩
                  · exact .inl (.inl ⟨h1, h2⟩)
                  · exact .inl (.inr ⟨h1, h2⟩)
                  · exact .inr ⟨h1, h2⟩
                · rintro ((⟨h1, h2⟩ | ⟨h1, h2⟩) | ⟨h1, h2⟩)
                  · exact ⟨h1, .inl h2⟩
                  · exact ⟨h1, .inr (.inl h2)⟩
                  · exact ⟨h1, .inr (.inr h2)⟩
              have hc : ∀ k : Nat, cut l i (i + k) = (l.drop i.toNat).take k := fun k => by
                unfold cut; congr 1; omega
              have h1 := hc 1
              have h2 := hc 2
              by_cases ht : twoR l i
              · rw [if_pos ht, if_pos (htwo.1 ht)]
                simp only [Option.map_some]
                rw [← h2]; rfl
              · rw [if_neg ht, if_neg (fun hh => ht (htwo.2 hh))]
                simp only [Option.map_some]
                rw [← h1]; rfl
            · rfl

/-! from PlD -/
theorem pre_take {m x : List UInt8} {j : Nat} (h : pre (m.take j) x = true) : pre m x = true := by
  simp only [pre, Bool.and_eq_true, decide_eq_true_eq, List.length_take, List.take_take] at h ⊢
  have h2 := h.2
  rw [show min x.length j = x.length by omega] at h2
  exact ⟨by omega, h2⟩
theorem pre_take' {m x : List UInt8} {j : Nat} (h : pre m x = true) (hj : x.length ≤ j) : pre (m.take j) x = true := by
  simp only [pre, Bool.and_eq_true, decide_eq_true_eq, List.length_take, List.take_take] at h ⊢
  refine ⟨by omega, ?_⟩
  rw [show min x.length j = x.length by omega]
  exact h.2
theorem byt_take {m : List UInt8} {j : Nat} (h : 1 ≤ j) : byt (m.take j) 0 = byt m 0 := by
  unfold byt
  simp [List.getD_eq_getElem?_getD, show 0 < j by omega]
theorem twoS_take {m : List UInt8} {j : Nat} (h : twoS (m.take j) = true) : twoS m = true := by
  simp only [twoS, Bool.or_eq_true] at h ⊢
  exact h.imp (Or.imp pre_take pre_take) pre_take
theorem twoS_take' {m : List UInt8} {j : Nat} (h : twoS m = true) (hj : 2 ≤ j) : twoS (m.take j) = true := by
  simp only [twoS, Bool.or_eq_true] at h ⊢
  exact h.imp (Or.imp (fun h => pre_take' h hj) (fun h => pre_take' h hj)) (fun h => pre_take' h hj)
theorem tokS_len {m : List UInt8} {k : Int} {s : List UInt8} {n : Int} {e : Nat} (h : tokS m = some (k, s, n, e)) : 1 ≤ e ∧ e ≤ m.length := by
  cases m with
  | nil => exact absurd (h.symm.trans (show tokS [] = none by decide +kernel)) (by simp)
  | cons c m =>
    have h0 : (0 : Int) ≤ 0 ∧ (0 : Int) < ((c :: m).length : Int) := by simp
    have hr := tokR_S (c :: m) 0 h0
    simp only [Int.toNat_zero, List.drop_zero, h, Option.map_some] at hr
    have := tokR_end h0 hr
    omega
theorem tokS_take {m : List UInt8} {k : Int} {s : List UInt8} {n : Int} {e j : Nat} (h : tokS m = some (k, s, n, e)) (hj : e ≤ j) : tokS (m.take j) = some (k, s, n, e) := by
  have hlen := tokS_len h
  have hb := byt_take (m := m) (j := j) (by omega)
  have htw : ∀ p : Int → Bool, (tw p m).length ≤ j → tw p (m.take j) = tw p m := fun p hp => by
    rw [tw_take', List.take_of_length_le hp]
  unfold tokS at h ⊢
  by_cases hx : pre m [120, 39] = true
  · rw [if_pos hx] at h
    have e3 : ∀ r : List UInt8, (if r.length = (m.drop 2).length then none else match (if r.length % 2 = 0 then unGo r [] else none) with | none => none | some b => if 1000 < (b.length : Int) then none else some ((5 : Int), b, (0 : Int), r.length + 3)) = some (k, s, n, e) → e = r.length + 3 ∧ r.length ≠ (m.drop 2).length := by
      intro r hr
      split at hr
      · cases hr
      · rename_i hne
        split at hr
        · cases hr
        · split at hr
          · cases hr
          · simp only [Option.some.injEq, Prod.mk.injEq] at hr
            exact ⟨hr.2.2.2.symm, hne⟩
    obtain ⟨he, hne⟩ := e3 _ h
    have hdt : (m.take j).drop 2 = (m.drop 2).take (j - 2) := by rw [List.drop_take]
    have hq : tw nq ((m.take j).drop 2) = tw nq (m.drop 2) := by
      rw [hdt, tw_take', List.take_of_length_le (by omega)]
    have hl := tw_len nq (m.drop 2)
    rw [if_pos (pre_take' hx (by simp; omega)), hq]
    have hne' : ¬ (tw nq (m.drop 2)).length = ((m.take j).drop 2).length := by
      rw [hdt, List.length_take]; omega
    rw [if_neg hne']
    rw [if_neg hne] at h
    exact h
  · rw [if_neg hx] at h
    rw [if_neg (fun hh => hx (pre_take hh)), hb]
    have key : ∀ (b : Bool) (kk vv : Int), (if b = true then some (kk, tw isWd m, vv, (tw isWd m).length) else none) = some (k, s, n, e) → tw isWd (m.take j) = tw isWd m := by
      intro b kk vv hh
      cases b
      · cases hh
      · simp only [if_true, Option.some.injEq, Prod.mk.injEq] at hh
        exact htw isWd (by omega)
    split
    · rename_i h1; rw [if_pos h1] at h; rw [key _ _ _ h]; exact h
    · rename_i h1; rw [if_neg h1] at h
      split
      · rename_i h2; rw [if_pos h2] at h; rw [key _ _ _ h]; exact h
      · rename_i h2; rw [if_neg h2] at h
        split
        · rename_i h3; rw [if_pos h3] at h
          have : tw isWd (m.take j) = tw isWd m := by
            split at h
            · simp only [Option.some.injEq, Prod.mk.injEq] at h
              exact htw isWd (by omega)
            · cases h
          rw [this]; exact h
        · rename_i h3; rw [if_neg h3] at h
          split
          · rename_i h5; rw [if_pos h5] at h
            rw [List.drop_take]
            cases hq : qS (m.drop 1) [] with
            | none => rw [hq] at h; cases h
            | some x =>
              obtain ⟨s', n'⟩ := x
              rw [hq] at h
              have hle : n' ≤ j - 1 := by
                simp only at h
                split at h
                · simp only [Option.some.injEq, Prod.mk.injEq] at h; omega
                · cases h
              rw [qS_take _ _ _ s' n' (j - 1) (Nat.le_refl _) hle hq]
              exact h
          · rename_i h5; rw [if_neg h5] at h
            split
            · rename_i h7; rw [if_pos h7] at h
              by_cases h2' : twoS m = true
              · rw [if_pos h2'] at h
                have : 2 ≤ j := by simp only [Option.some.injEq, Prod.mk.injEq] at h; omega
                rw [if_pos (twoS_take' h2' this), List.take_take, show min 2 j = 2 by omega]
                exact h
              · rw [if_neg h2'] at h
                rw [if_neg (fun hh => h2' (twoS_take hh)), List.take_take, show min 1 j = 1 by omega]
                exact h
            · rename_i h7; rw [if_neg h7] at h; exact h
theorem blank_facts : ∀ n : Fin 256, clsF (n.val : Int) = 6 → isWd (n.val : Int) = false ∧ (n.val : Int) ≠ 39 ∧ (n.val : Int) ≠ 61 ∧ (n.val : Int) ≠ 62 := by decide +kernel
theorem blank_c {c : UInt8} (h : clsF c.toNat = 6) : isWd c.toNat = false ∧ c ≠ 39 ∧ c ≠ 61 ∧ c ≠ 62 := by
  have := of256 (p := fun c => clsF c = 6 → isWd c = false ∧ c ≠ 39 ∧ c ≠ 61 ∧ c ≠ 62) blank_facts c.toNat (u8_range c) h
  refine ⟨this.1, ?_, ?_, ?_⟩
  · rintro rfl; exact this.2.1 rfl
  · rintro rfl; exact this.2.2.1 rfl
  · rintro rfl; exact this.2.2.2 rfl
theorem pre_app {m : List UInt8} (hm : m ≠ []) (c : UInt8) (b : List UInt8) {x y : UInt8} (h : c ≠ y) : pre (m ++ c :: b) [x, y] = pre m [x, y] := by
  match m with
  | [] => exact absurd rfl hm
  | [a] =>
    have : pre [a] [x, y] = false := by simp [pre]
    rw [this]
    simp [pre, h]
  | a :: a' :: r => simp [pre]
theorem twoS_app {m : List UInt8} (hm : m ≠ []) {c : UInt8} (b : List UInt8) (hc : clsF c.toNat = 6) : twoS (m ++ c :: b) = twoS m := by
  have h := blank_c hc
  simp only [twoS, pre_app hm c b h.2.2.1, pre_app hm c b h.2.2.2]
theorem byt_app {m : List UInt8} (hm : m ≠ []) (t : List UInt8) : byt (m ++ t) 0 = byt m 0 := by
  cases m with
  | nil => exact absurd rfl hm
  | cons a m => rfl
/-- a token that a quote opens -/
def openB (m : List UInt8) : Prop := byt m 0 = 39 ∨ pre m [120, 39] = true
theorem cls39 {c : Int} (h : clsF c = 5) : c = 39 := by
  unfold clsF at h
  split at h; · omega
  split at h; · omega
  split at h; · omega
  split at h; · omega
  split at h; · assumption
  split at h; · omega
  split at h <;> omega
/-- with a blank behind it a token is the same; what is none, and is not open, is none -/
theorem tokS_app {m : List UInt8} (hm : m ≠ []) {c : UInt8} (b : List UInt8) (hc : clsF c.toNat = 6) : (tokS m ≠ none ∨ ¬ openB m) → tokS (m ++ c :: b) = tokS m := by
  intro hor
  have hbl := blank_c hc
  have htw : tw isWd (m ++ c :: b) = tw isWd m := tw_app _ (fun d t hd => by cases hd; exact hbl.1) m
  unfold tokS at hor ⊢
  rw [pre_app hm c b hbl.2.1, htw, byt_app hm, twoS_app hm b hc]
  by_cases hx : pre m [120, 39] = true
  · rw [if_pos hx] at hor
    rw [if_pos hx, if_pos hx]
    have h2 : 2 ≤ m.length := by
      simp only [pre, Bool.and_eq_true, decide_eq_true_eq, List.length_cons, List.length_nil] at hx; omega
    have hd : (m ++ c :: b).drop 2 = m.drop 2 ++ c :: b := by rw [List.drop_append_of_le_length h2]
    rcases hor with hor | hor
    · have hne : ¬ (tw nq (m.drop 2)).length = (m.drop 2).length := fun hh => by rw [if_pos hh] at hor; exact hor rfl
      have hfull : ∃ r1 d r2, m.drop 2 = r1 ++ d :: r2 ∧ nq d.toNat = false := by
        have hsp : ∀ x : List UInt8, (tw nq x).length ≠ x.length → ∃ r1 d r2, x = r1 ++ d :: r2 ∧ nq d.toNat = false := by
          intro x
          induction x with
          | nil => intro h; simp [tw] at h
          | cons y x ih =>
            intro hne
            cases hy : nq y.toNat with
            | false => exact ⟨[], y, x, rfl, hy⟩
            | true =>
              have : (tw nq x).length ≠ x.length := by
                unfold tw at hne ⊢
                simp [hy] at hne
                exact hne
              obtain ⟨r1, d, r2, h1, h2⟩ := ih this
              exact ⟨y :: r1, d, r2, by rw [h1]; rfl, h2⟩
        exact hsp _ hne
      have htq : tw nq ((m ++ c :: b).drop 2) = tw nq (m.drop 2) := by
        obtain ⟨r1, d, r2, h1, h2'⟩ := hfull
        rw [hd, h1, List.append_assoc, List.cons_append]
        rw [tw_app (p := nq) (d :: (r2 ++ c :: b)) (fun x t hx => by cases hx; exact h2') r1, tw_app (p := nq) (d :: r2) (fun x t hx => by cases hx; exact h2') r1]
      have hl := tw_len nq (m.drop 2)
      have hne' : ¬ (tw nq (m.drop 2)).length = ((m ++ c :: b).drop 2).length := by
        rw [hd, List.length_append]; omega
      rw [htq, if_neg hne', if_neg hne]
    · exact absurd (.inr hx) hor
  · rw [if_neg hx] at hor
    rw [if_neg hx, if_neg hx]
    have ht1 : (m ++ c :: b).take 1 = m.take 1 := by
      cases m with
      | nil => exact absurd rfl hm
      | cons a m => rfl
    have ht2 : twoS m = true → (m ++ c :: b).take 2 = m.take 2 := fun h2 => by
      have : 2 ≤ m.length := by
        simp only [twoS, Bool.or_eq_true, pre, Bool.and_eq_true, decide_eq_true_eq, List.length_cons, List.length_nil] at h2
        omega
      rw [List.take_append_of_le_length this]
    by_cases h1 : clsF (byt m 0) = 1
    · rw [if_pos h1, if_pos h1]
    · by_cases h2 : clsF (byt m 0) = 2
      · rw [if_neg h1, if_neg h1, if_pos h2, if_pos h2]
      · by_cases h3 : clsF (byt m 0) = 3
        · rw [if_neg h1, if_neg h1, if_neg h2, if_neg h2, if_pos h3, if_pos h3]
        · rw [if_neg h1, if_neg h1, if_neg h2, if_neg h2, if_neg h3, if_neg h3]
          rw [if_neg h1, if_neg h2, if_neg h3] at hor
          by_cases h5 : clsF (byt m 0) = 5
          · rw [if_pos h5] at hor
            rw [if_pos h5, if_pos h5]
            rcases hor with hor | hor
            · have hd : (m ++ c :: b).drop 1 = m.drop 1 ++ c :: b := by
                cases m with
                | nil => exact absurd rfl hm
                | cons a m => rfl
              cases hq : qS (m.drop 1) [] with
              | none => rw [hq] at hor; exact absurd rfl hor
              | some x =>
                rw [hd, qS_app _ _ _ x.1 x.2 (c :: b) (Nat.le_refl _) (fun d t hd => by cases hd; exact hbl.2.1) hq]
            · exact absurd (.inl (cls39 h5)) hor
          · rw [if_neg h5, if_neg h5]
            by_cases h7 : clsF (byt m 0) = 7
            · rw [if_pos h7, if_pos h7]
              by_cases h2' : twoS m = true
              · rw [if_pos h2', if_pos h2', ht2 h2']
              · rw [if_neg h2', if_neg h2', ht1]
            · rw [if_neg h7, if_neg h7]

/-! from PlE -/
/-- the tokens of a text that begins at a place -/
inductive Sc : List UInt8 → Int → List Tok → Prop where
  | nil {p : Int} : Sc [] p []
  | blank {c : UInt8} {r : List UInt8} {p : Int} {ts : List Tok} : clsF c.toNat = 6 → Sc r (p + 1) ts → Sc (c :: r) p ts
  | tok {m : List UInt8} {p : Int} {k : Int} {s : List UInt8} {n : Int} {e : Nat} {ts : List Tok} : clsF (byt m 0) ≠ 6 → tokS m = some (k, s, n, e) → Sc (m.drop e) (p + e) ts → Sc m p (⟨k, p, s, n⟩ :: ts)
/-- the place at which a text is wrong -/
inductive Er : List UInt8 → Int → Int → Prop where
  | blank {c : UInt8} {r : List UInt8} {p j : Int} : clsF c.toNat = 6 → Er r (p + 1) j → Er (c :: r) p j
  | tok {m : List UInt8} {p : Int} {k : Int} {s : List UInt8} {n : Int} {e : Nat} {j : Int} : clsF (byt m 0) ≠ 6 → tokS m = some (k, s, n, e) → Er (m.drop e) (p + e) j → Er m p j
  | bad {m : List UInt8} {p : Int} : m ≠ [] → clsF (byt m 0) ≠ 6 → tokS m = none → Er m p p
theorem all_sc (l : List UInt8) : ∀ (f : Nat) (i : Int) (acc : List Tok), 0 ≤ i ∧ i ≤ l.length → (l.length : Int) - i < f → match rallGo f l i acc with
    | .ok ts => ∃ us, ts = acc ++ us ∧ Sc (l.drop i.toNat) i us
    | .error j => Er (l.drop i.toNat) i j
  | 0, i, acc, h, hf => by omega
  | f + 1, i, acc, h, hf => by
    simp only [rallGo]
    by_cases he : (l.length : Int) ≤ i
    · rw [if_pos he]
      exact ⟨[], by simp, by rw [List.drop_eq_nil_of_le (by omega)]; exact .nil⟩
    · rw [if_neg he]
      have hb0 : byt (l.drop i.toNat) 0 = byt l i := by simpa using byt_drop l i h.1 0
      have hcons := drop_at l i (by omega)
      by_cases hb : clsF (byt l i) = 6
      · rw [if_pos hb]
        have ih := all_sc l f (i + 1) acc (by omega) (by omega)
        have hb' : clsF ((l.getD i.toNat 0).toNat : Int) = 6 := hb
        cases hr : rallGo f l (i + 1) acc with
        | ok ts =>
          rw [hr] at ih
          obtain ⟨us, h1, h2⟩ := ih
          exact ⟨us, h1, by rw [hcons]; exact .blank hb' h2⟩
        | error j =>
          rw [hr] at ih
          show Er _ _ _
          rw [hcons]
          exact .blank hb' ih
      · rw [if_neg hb]
        have hS := tokR_S l i (by omega)
        cases hS' : tokS (l.drop i.toNat) with
        | none =>
          rw [hS'] at hS
          rw [hS]
          exact .bad (by rw [hcons]; simp) (by rw [hb0]; exact hb) hS'
        | some x =>
          obtain ⟨k, s, n, e⟩ := x
          rw [hS'] at hS
          simp only [Option.map_some] at hS
          have hlen := tokS_len hS'
          have hdl : (l.drop i.toNat).length = l.length - i.toNat := List.length_drop
          rw [hS]
          simp only
          have ih := all_sc l f (i + (e : Int)) (acc ++ [⟨k, i, s, n⟩]) (by omega) (by omega)
          have hdd : l.drop (i + (e : Int)).toNat = (l.drop i.toNat).drop e := by rw [List.drop_drop]; congr 1; omega
          rw [hdd] at ih
          cases hr : rallGo f l (i + (e : Int)) (acc ++ [⟨k, i, s, n⟩]) with
          | ok ts =>
            rw [hr] at ih
            obtain ⟨us, h1, h2⟩ := ih
            exact ⟨⟨k, i, s, n⟩ :: us, by rw [h1]; simp, .tok (by rw [hb0]; exact hb) hS' h2⟩
          | error j =>
            rw [hr] at ih
            exact .tok (by rw [hb0]; exact hb) hS' ih
theorem head_cons (c : UInt8) (r : List UInt8) : byt (c :: r) 0 = (c.toNat : Int) := rfl
theorem tokS_nil : tokS [] = none := by decide +kernel
theorem Sc.det {m : List UInt8} {p : Int} {ts : List Tok} (h : Sc m p ts) : ∀ {us : List Tok}, Sc m p us → ts = us := by
  induction h with
  | nil =>
    intro us h
    cases h with
    | nil => rfl
    | tok _ h2 _ => rw [tokS_nil] at h2; cases h2
  | blank hc _ ih =>
    intro us h
    cases h with
    | blank _ h2 => exact ih h2
    | tok h1 _ _ => exact absurd hc h1
  | tok h1 h2 _ ih =>
    intro us h
    cases h with
    | nil => rw [tokS_nil] at h2; cases h2
    | blank hc _ => exact absurd hc h1
    | tok _ h3 h4 =>
      rw [h2] at h3
      cases h3
      rw [ih h4]
theorem Sc.not_er {m : List UInt8} {p : Int} {ts : List Tok} (h : Sc m p ts) : ∀ {j : Int}, ¬ Er m p j := by
  induction h with
  | nil =>
    intro j h
    cases h with
    | tok _ h2 _ => rw [tokS_nil] at h2; cases h2
    | bad h _ _ => exact h rfl
  | blank hc _ ih =>
    intro j h
    cases h with
    | blank _ h2 => exact ih h2
    | tok h1 _ _ => exact absurd hc h1
    | bad _ h1 _ => exact absurd hc h1
  | tok h1 h2 _ ih =>
    intro j h
    cases h with
    | blank hc _ => exact absurd hc h1
    | tok _ h3 h4 =>
      rw [h2] at h3
      cases h3
      exact ih h4
    | bad _ _ h3 => rw [h2] at h3; cases h3
theorem Er.det {m : List UInt8} {p j : Int} (h : Er m p j) : ∀ {i : Int}, Er m p i → j = i := by
  induction h with
  | blank hc _ ih =>
    intro i h
    cases h with
    | blank _ h2 => exact ih h2
    | tok h1 _ _ => exact absurd hc h1
    | bad _ h1 _ => exact absurd hc h1
  | tok h1 h2 _ ih =>
    intro i h
    cases h with
    | blank hc _ => exact absurd hc h1
    | tok _ h3 h4 =>
      rw [h2] at h3
      cases h3
      exact ih h4
    | bad _ _ h3 => rw [h2] at h3; cases h3
  | bad h0 h1 h2 =>
    intro i h
    cases h with
    | blank hc _ => exact absurd hc h1
    | tok _ h3 _ => rw [h2] at h3; cases h3
    | bad _ _ _ => rfl
theorem allF_sc (l : List UInt8) : match allF l with
    | .ok ts => Sc l 0 ts
    | .error j => Er l 0 j := by
  rw [allF_eq, rallF]
  have h := all_sc l (l.length + 1) 0 [] (by omega) (by omega)
  cases hr : rallGo (l.length + 1) l 0 [] with
  | ok ts =>
    rw [hr] at h
    obtain ⟨us, h1, h2⟩ := h
    simp only [List.nil_append] at h1
    subst h1
    simpa using h2
  | error j => rw [hr] at h; simpa using h
theorem allF_of_sc {l : List UInt8} {ts : List Tok} (h : Sc l 0 ts) : allF l = .ok ts := by
  have h2 := allF_sc l
  cases hr : allF l with
  | ok us => rw [hr] at h2; rw [h.det h2]
  | error j => rw [hr] at h2; exact absurd h2 h.not_er
theorem allF_of_er {l : List UInt8} {j : Int} (h : Er l 0 j) : allF l = .error j := by
  have h2 := allF_sc l
  cases hr : allF l with
  | ok us => rw [hr] at h2; exact absurd h (Sc.not_er h2)
  | error i => rw [hr] at h2; rw [h.det h2]
def tokOff (d : Int) (t : Tok) : Tok := ⟨t.kind, t.pos + d, t.s, t.n⟩
theorem Sc.off {m : List UInt8} {p : Int} {ts : List Tok} (h : Sc m p ts) (d : Int) : Sc m (p + d) (ts.map (tokOff d)) := by
  induction h with
  | nil => exact .nil
  | blank hc _ ih => exact .blank hc (by rw [show ∀ x : Int, x + d + 1 = x + 1 + d from fun x => by omega]; exact ih)
  | tok h1 h2 _ ih => exact .tok h1 h2 (by rw [show ∀ x y : Int, x + d + y = x + y + d from fun x y => by omega]; exact ih)
theorem Er.off {m : List UInt8} {p j : Int} (h : Er m p j) (d : Int) : Er m (p + d) (j + d) := by
  induction h with
  | blank hc _ ih => exact .blank hc (by rw [show ∀ x : Int, x + d + 1 = x + 1 + d from fun x => by omega]; exact ih)
  | tok h1 h2 _ ih => exact .tok h1 h2 (by rw [show ∀ x y : Int, x + d + y = x + y + d from fun x y => by omega]; exact ih)
  | bad h0 h1 h2 => exact .bad h0 h1 h2
theorem ne_of_tok {m : List UInt8} {x : Int × List UInt8 × Int × Nat} (h : tokS m = some x) : m ≠ [] := by
  rintro rfl; rw [tokS_nil] at h; cases h
theorem Sc.app {a : List UInt8} {p : Int} {ts : List Tok} (h : Sc a p ts) {c : UInt8} (hc : clsF c.toNat = 6) (b : List UInt8) : ∀ {us : List Tok}, Sc b (p + a.length + 1) us → Sc (a ++ c :: b) p (ts ++ us) := by
  induction h with
  | nil => intro us hb; exact .blank hc (by simpa using hb)
  | blank hx _ ih =>
    intro us hb
    refine .blank hx (ih ?_)
    rename_i r p _ _
    rw [show p + 1 + (r.length : Int) + 1 = p + ((r.length + 1 : Nat) : Int) + 1 by omega]
    exact hb
  | tok h1 h2 _ ih =>
    intro us hb
    have hm := ne_of_tok h2
    have hl := tokS_len h2
    refine .tok (by rw [byt_app hm]; exact h1) ((tokS_app hm b hc (.inl (by rw [h2]; simp))).trans h2) ?_
    rw [List.drop_append_of_le_length hl.2]
    refine ih ?_
    rename_i m p _ _ _ e _ _
    rw [List.length_drop, show p + (e : Int) + ((m.length - e : Nat) : Int) + 1 = p + (m.length : Int) + 1 by omega]
    exact hb
theorem Sc.app_er {a : List UInt8} {p : Int} {ts : List Tok} (h : Sc a p ts) {c : UInt8} (hc : clsF c.toNat = 6) (b : List UInt8) : ∀ {j : Int}, Er b (p + a.length + 1) j → Er (a ++ c :: b) p j := by
  induction h with
  | nil => intro j hb; exact .blank hc (by simpa using hb)
  | blank hx _ ih =>
    intro j hb
    refine .blank hx (ih ?_)
    rename_i r p _ _
    rw [show p + 1 + (r.length : Int) + 1 = p + ((r.length + 1 : Nat) : Int) + 1 by omega]
    exact hb
  | tok h1 h2 _ ih =>
    intro j hb
    have hm := ne_of_tok h2
    have hl := tokS_len h2
    refine .tok (by rw [byt_app hm]; exact h1) ((tokS_app hm b hc (.inl (by rw [h2]; simp))).trans h2) ?_
    rw [List.drop_append_of_le_length hl.2]
    refine ih ?_
    rename_i m p _ _ _ e _ _
    rw [List.length_drop, show p + (e : Int) + ((m.length - e : Nat) : Int) + 1 = p + (m.length : Int) + 1 by omega]
    exact hb
/-- wrong ahead of the blank: there, if no quote opens it -/
theorem Er.app {a : List UInt8} {p j : Int} (h : Er a p j) {c : UInt8} (hc : clsF c.toNat = 6) (b : List UInt8) : ∃ i : Nat, j = p + i ∧ i < a.length ∧ (openB (a.drop i) ∨ Er (a ++ c :: b) p j) := by
  induction h with
  | blank hx _ ih =>
    obtain ⟨i, h1, h2, h3⟩ := ih
    refine ⟨i + 1, by omega, by simp; omega, ?_⟩
    exact h3.imp (fun h => h) (fun h => .blank hx h)
  | tok h1 h2 _ ih =>
    obtain ⟨i, h3, h4, h5⟩ := ih
    have hm := ne_of_tok h2
    have hl := tokS_len h2
    rename_i m p _ _ _ e _ _
    rw [List.length_drop] at h4
    refine ⟨e + i, by omega, by omega, ?_⟩
    rw [List.drop_drop] at h5
    refine h5.imp (fun h => h) (fun h => ?_)
    refine .tok (by rw [byt_app hm]; exact h1) ((tokS_app hm b hc (.inl (by rw [h2]; simp))).trans h2) ?_
    rw [List.drop_append_of_le_length hl.2]
    exact h
  | bad h0 h1 h2 =>
    rename_i m p
    refine ⟨0, by omega, List.length_pos_iff.2 h0, ?_⟩
    by_cases ho : openB m
    · exact .inl ho
    · right
      exact .bad (by simp) (by rw [byt_app h0]; exact h1) ((tokS_app h0 b hc (.inr ho)).trans h2)
theorem Sc.le {m : List UInt8} {p : Int} {ts : List Tok} (h : Sc m p ts) : ∀ t, t ∈ ts → p ≤ t.pos := by
  induction h with
  | nil => intro t h; cases h
  | blank _ _ ih => intro t h; have := ih t h; omega
  | tok _ _ _ ih =>
    intro t h
    simp only [List.mem_cons] at h
    rcases h with rfl | h
    · exact Int.le_refl _
    · have := ih t h; omega
theorem Sc.part {m : List UInt8} {p : Int} {ts : List Tok} (h : Sc m p ts) : ∀ (k : Nat) (t : Tok), ts[k]? = some t → ∃ A : Nat, t.pos = p + A ∧ A < m.length ∧ Sc (m.take A) p (ts.take k) ∧ Sc (m.drop A) t.pos (ts.drop k) := by
  induction h with
  | nil => intro k t h; simp at h
  | blank hc _ ih =>
    intro k t h
    obtain ⟨A, h1, h2, h3, h4⟩ := ih k t h
    exact ⟨A + 1, by omega, by simp; omega, by rw [List.take_succ_cons]; exact .blank hc h3, h4⟩
  | tok h1 h2 h3 ih =>
    intro k t h
    have hl := tokS_len h2
    rename_i m p _ _ _ e _
    cases k with
    | zero =>
      simp only [List.getElem?_cons_zero, Option.some.injEq] at h
      subst h
      exact ⟨0, by simp, by omega, by simp; exact .nil, by simp; exact .tok h1 h2 h3⟩
    | succ k =>
      obtain ⟨A, h4, h5, h6, h7⟩ := ih k t (by simpa using h)
      rw [List.length_drop] at h5
      refine ⟨e + A, by omega, by omega, ?_, by rw [← List.drop_drop]; exact h7⟩
      rw [List.take_succ_cons]
      refine .tok (by rw [byt_take (by omega)]; exact h1) (tokS_take h2 (by omega)) ?_
      rw [List.drop_take, show e + A - e = A by omega]
      exact h6
/-- the next token is farther behind -/
theorem Sc.next {m : List UInt8} {p : Int} {t : Tok} {ts : List Tok} (h : Sc m p (t :: ts)) (ht : t.pos = p) : ∀ u, u ∈ ts → p < u.pos := by
  cases h with
  | blank hc h2 => have := h2.le t (by simp); omega
  | tok _ h2 h3 =>
    intro u hu
    have := h3.le u hu
    have := tokS_len h2
    omega
end Go.Proofs.YtjpcghlpkinahaaDoor.Lp

/- Contracts of the library's functions, from walks. -/
namespace Go.Ax
/-- from a walk: results of which nothing lies in memory -/
theorem FnOk.ofIs {P : Program} {el : Ck → TypeId} {gl : Nat → Option Gv} {f : FuncId} {sa sr : List Sg} {F : FT sa sr} (he : Sx.Enters P f) (ho : owns 0 sr = []) (h : ∀ x r, F x = some r → ∃ (us : List Value) (v : Value), (∀ X vs, Reps X (encL 0 sa x) vs → vs = us) ∧ Sx.Con P f us [] (fun _ => True) (Sx.Is v) ∧ ∀ X, BdL sa x → Rep X (pack (encL 0 sr r)) v) : FnOk P el gl f sa sr F := by
  refine ⟨he, fun x r hx w M vs hM hgl hr => ?_⟩
  obtain ⟨us, v, h1, h2, h3⟩ := h x r hx
  obtain rfl := h1 _ _ hr
  refine (h2.calls w (fun _ _ => trivial)).mono ?_
  rintro en w' ⟨u, L', F', rfl, ⟨rfl, _, _⟩, _, hb⟩
  refine ⟨u, ⟨fun _ => 0, fun _ => Option.none⟩, rfl, Chg.of_below hb, fun p g o hp => ?_, fun p q g o o' hp => ?_, h3 _ (reps_bd hr)⟩
  · rw [ho] at hp; cases hp
  · rw [ho] at hp; cases hp
end Go.Ax
namespace Go.Proofs.YtjpcghlpkinahaaDoor
open Go.Ax
open Go.Sx (Con S Is con_intro rt_is)
end Go.Proofs.YtjpcghlpkinahaaDoor

/- The values' own functions: may it be, does it fit, how do two stand, sums, differences, products. -/
namespace Go.Proofs.YtjpcghlpkinahaaDoor
open Go.Ax
/-! ## exchequer/value.visible -/
def visible_0_sg : Sig := ⟨20, [(0, .str), (2, .bool), (5, .int .i64), (6, .int .i64)], [], [], 0, 0, 0, [], []⟩
abbrev visible_0_V := Str × Bool × Int × Int
def visible_0 {R : Type} (rec : visible_0_V → Option R) (kx : Ex → visible_0_V → Option R) (v : visible_0_V) : Option R := match v with
 | (v, v1, v2, v3) =>
  cond (decide (v3 < v2)) (
   chk (inb v3 v.length) (
    cond (decide ((bat v v3) < 32)) (
     kx .ret (v, false, v2, v3)) (
     chk (inb v3 v.length) (
      cond (decide (126 < (bat v v3))) (
       kx .ret (v, false, v2, v3)) (
       rec (v, v1, v2, (wr .i64 (v3 + 1)))))))) (
   kx (.exit 0) (v, v1, v2, v3))
def visible_px (R : Type) (k : Nat) : Px R := ⟨ttOf ttL, glT, callT [], callQT [], loopT [(2, loopOr k visible_0_sg (visible_0))]⟩
theorem visible_0_eq (R : Type) (k : Nat) : ∀ (fr : List Fr) (rec : visible_0_V → Option R) (kx : Ex → visible_0_V → Option R) (v : visible_0_V), round (visible_px R k) visible_0_sg (lp Tryd.f76 0) fr rec kx v = visible_0 rec kx v
  | fr, rec, kx, (v, v1, v2, v3) => by kernel_rfl
def visible_body (k : Nat) (x : HV [.str]) : Option (HV [.bool]) := match x with
 | s =>
  iter (fun rec => visible_0 rec (fun e v => match v with | (_, v5, _, _) => match e with
   | .ret =>
    some v5
   | .exit 0 =>
    some true
   | _ => none)) k (s, false, (s.length : Int), 0)
theorem visible_eq (k : Nat) : ∀ (x : HV [.str]), runF (visible_px _ k) Tryd.f76 [.str] [.bool] x some = visible_body k x
  | s => by kernel_rfl
theorem visible_run (k : Nat) : FnOk Tryd.prog elT glT 76 [.str] [.bool] (visible_body k) := by
  refine fnOk_run Tryd.func76 rfl (by kernel_rfl) follows (by kernel_rfl) (n := 1) (by kernel_rfl) (px := visible_px _ k) (fun cx hP hel hgl => ?_) (visible_eq k)
  have hp0 : PxOk cx (visible_px (HV [.bool]) k) := ⟨fun t => by rw [hP, hel]; exact tt_ok ttL_ok t, by rw [hgl]; rfl⟩
  have hc0 : CallOk cx (visible_px (HV [.bool]) k) := callT_ok rfl cfs_nil
  have hq0 : CallQOk cx (visible_px (HV [.bool]) k) := callQT_ok rfl cqfs_nil
  have hlvisible_0 : LoopOk cx (visible_px (HV [.bool]) k) (lp Tryd.f76 0) := loop_ok hp0 hc0 hq0 (by rw [hP]; exact follows) (k := k) (s := visible_0_sg) (step := visible_0) (fun _ _ => by kernel_rfl) (by kernel_rfl) (visible_0_eq _ k) (loops_in (n := 0) (by kernel_rfl) all0)
  exact ⟨hp0, hc0, hq0, (allS all0 hlvisible_0)⟩
def vis (b : UInt8) : Bool := decide (32 ≤ b.toNat) && decide (b.toNat ≤ 126)
def visible (s : Str) : Bool := s.all vis
def visible_F : FT [.str] [.bool] := fun x => some (visible x)
theorem visible_loop {R : Type} {kx : Ex → visible_0_V → Option R} {s : Str} {a b : Option R} (hs : ln s.length) (h1 : ∀ r j, kx .ret (s, false, r, j) = a) (h2 : ∀ q r j, kx (.exit 0) (s, q, r, j) = b) : ∀ (k i : Nat) q, i ≤ s.length → s.length - i < k → iter (fun rec => visible_0 rec kx) k (s, q, (s.length : Int), (i : Int)) = cond ((s.drop i).all vis) b a
  | 0, i, q, _, h => by omega
  | k + 1, i, q, hi, h => by
    rw [iter_s]
    by_cases hl : i < s.length
    · have ih := visible_loop hs h1 h2 k (i + 1) q (by omega) (by omega)
      simp only [visible_0, wr_succ hl hs, ih, h1, drop_cons hl, bat_nat hl, inb_t hl, List.all_cons, chk, cond_t, Bool.cond_decide]
      rw [if_pos (by omega)]
      simp only [vis]
      split
      · rw [decide_eq_false (by omega)]; rfl
      · split
        · rw [decide_eq_true (by omega), decide_eq_false (by omega)]; rfl
        · rw [decide_eq_true (by omega), decide_eq_true (by omega)]; rfl
    · simp only [visible_0, h2, Bool.cond_decide]
      rw [if_neg (by omega), List.drop_eq_nil_of_le (by omega)]
      rfl
theorem visible_ok : FnOk Tryd.prog elT glT 76 [.str] [.bool] visible_F := .fin 0 visible_run fun x r hb hx => ⟨x.length + 1, by
  simp only [visible_F, Option.some.injEq] at hx
  have := visible_loop (a := some false) (b := some true) hb (kx := fun e v => match v with | (_, v5, _, _) => match e with | .ret => some v5 | .exit 0 => some true | _ => none) (fun _ _ => rfl) (fun _ _ _ => rfl) (x.length + 1) 0 false (Nat.zero_le _) (by omega)
  refine Eq.trans this ?_
  rw [← hx, List.drop_zero, visible]
  cases x.all vis <;> rfl⟩
/-! ## exchequer/value.right -/
def vright_px (R : Type) : Px R := ⟨ttOf ttL, glT, callT [(76, callOr [.str] [.bool] visible_F)], callQT [], loopT []⟩
def vright_body (x : HV [.sv .val]) : Option (HV [.bool]) := match x with
 | v =>
  cond (decide (v.kind = 1)) (
   cond (decide (v.n = 0)) (
    some (decide (v.s = []))) (
    some false)) (
   cond (decide (v.kind = 2)) (
    cond (decide (v.n = 0)) (
     some (decide (v.s = []))) (
     cond (decide (v.n = 1)) (
      some (decide (v.s = []))) (
      some false))) (
    cond (decide (v.kind = 3)) (
     some (decide (v.s = []))) (
     cond (decide (v.kind = 4)) (
      cond (decide (v.n = 0)) (
       cond (decide ((v.s.length : Int) ≤ 1000)) (
        some (visible v.s)) (
        some false)) (
       some false)) (
      cond (decide (v.kind = 5)) (
       cond (decide (v.n = 0)) (
        some (decide ((v.s.length : Int) ≤ 1000))) (
        some false)) (
       some false)))))
theorem vright_eq : ∀ (x : HV [.sv .val]), runF (vright_px _) Tryd.f39 [.sv .val] [.bool] x some = vright_body x
  | v => by kernel_rfl
theorem vright_run : FnOk Tryd.prog elT glT 39 [.sv .val] [.bool] (vright_body) := by
  refine fnOk_run Tryd.func39 rfl (by kernel_rfl) follows (by kernel_rfl) (n := 0) (by kernel_rfl) (px := vright_px _) (fun cx hP hel hgl => ?_) (vright_eq)
  have hp0 : PxOk cx (vright_px (HV [.bool])) := ⟨fun t => by rw [hP, hel]; exact tt_ok ttL_ok t, by rw [hgl]; rfl⟩
  have hc0 : CallOk cx (vright_px (HV [.bool])) := callT_ok rfl (cfs_cons (cf_or (by rw [hP, hel, hgl]; exact visible_ok) (by kernel_rfl)) cfs_nil)
  have hq0 : CallQOk cx (vright_px (HV [.bool])) := callQT_ok rfl cqfs_nil
  exact ⟨hp0, hc0, hq0, all0⟩
def vright (v : Val) : Bool :=
  cond (decide (v.kind = 1)) (
   cond (decide (v.n = 0)) (
    (decide (v.s = []))) (
    false)) (
   cond (decide (v.kind = 2)) (
    cond (decide (v.n = 0)) (
     (decide (v.s = []))) (
     cond (decide (v.n = 1)) (
      (decide (v.s = []))) (
      false))) (
    cond (decide (v.kind = 3)) (
     (decide (v.s = []))) (
     cond (decide (v.kind = 4)) (
      cond (decide (v.n = 0)) (
       cond (decide ((v.s.length : Int) ≤ 1000)) (
        (visible v.s)) (
        false)) (
       false)) (
      cond (decide (v.kind = 5)) (
       cond (decide (v.n = 0)) (
        (decide ((v.s.length : Int) ≤ 1000))) (
        false)) (
       false)))))
theorem vright_tot (x : HV [.sv .val]) : vright_body x = some (vright x) := by
  first
    | exact rfl
    | simp only [vright_body, vright, cond_some]
def vright_F : FT [.sv .val] [.bool] := fun x => some (vright x)
theorem vright_ok : FnOk Tryd.prog elT glT 39 [.sv .val] [.bool] vright_F := .fin0 vright_run fun x _ _ hx => (vright_tot x).trans hx
/-! ## exchequer/value.Check -/
def vcheck_px (R : Type) : Px R := ⟨ttOf ttL, glT, callT [(39, callOr [.sv .val] [.bool] vright_F)], callQT [], loopT []⟩
def vcheck_body (x : HV [.sv .val]) : Option (HV [.int .i64]) := match x with
 | v =>
  cond (!(vright v)) (
   some 2) (
   some 0)
theorem vcheck_eq : ∀ (x : HV [.sv .val]), runF (vcheck_px _) Tryd.f17 [.sv .val] [.int .i64] x some = vcheck_body x
  | v => by kernel_rfl
theorem vcheck_run : FnOk Tryd.prog elT glT 17 [.sv .val] [.int .i64] (vcheck_body) := by
  refine fnOk_run Tryd.func17 rfl (by kernel_rfl) follows (by kernel_rfl) (n := 0) (by kernel_rfl) (px := vcheck_px _) (fun cx hP hel hgl => ?_) (vcheck_eq)
  have hp0 : PxOk cx (vcheck_px (HV [.int .i64])) := ⟨fun t => by rw [hP, hel]; exact tt_ok ttL_ok t, by rw [hgl]; rfl⟩
  have hc0 : CallOk cx (vcheck_px (HV [.int .i64])) := callT_ok rfl (cfs_cons (cf_or (by rw [hP, hel, hgl]; exact vright_ok) (by kernel_rfl)) cfs_nil)
  have hq0 : CallQOk cx (vcheck_px (HV [.int .i64])) := callQT_ok rfl cqfs_nil
  exact ⟨hp0, hc0, hq0, all0⟩
def vcheck (v : Val) : Int :=
  cond (!(vright v)) (
   2) (
   0)
theorem vcheck_tot (x : HV [.sv .val]) : vcheck_body x = some (vcheck x) := by
  first
    | exact rfl
    | simp only [vcheck_body, vcheck, cond_some]
def vcheck_F : FT [.sv .val] [.int .i64] := fun x => some (vcheck x)
theorem vcheck_ok : FnOk Tryd.prog elT glT 17 [.sv .val] [.int .i64] vcheck_F := .fin0 vcheck_run fun x _ _ hx => (vcheck_tot x).trans hx
/-! ## exchequer/value.Add -/
def vadd_px (R : Type) : Px R := ⟨ttOf ttL, glT, callT [], callQT [], loopT []⟩
def vadd_body (x : HV [.int .i64, .int .i64]) : Option (HV [.int .i64, .int .i64]) := match x with
 | (a, b) =>
  cond (!decide ((decide (a < (wr .i64 (a + b)))) = (decide (0 < b)))) (
   some (0, 20)) (
   some ((wr .i64 (a + b)), 0))
theorem vadd_eq : ∀ (x : HV [.int .i64, .int .i64]), runF (vadd_px _) Tryd.f108 [.int .i64, .int .i64] [.int .i64, .int .i64] x some = vadd_body x
  | (a, b) => by kernel_rfl
theorem vadd_run : FnOk Tryd.prog elT glT 108 [.int .i64, .int .i64] [.int .i64, .int .i64] (vadd_body) := by
  refine fnOk_run Tryd.func108 rfl (by kernel_rfl) follows (by kernel_rfl) (n := 0) (by kernel_rfl) (px := vadd_px _) (fun cx hP hel hgl => ?_) (vadd_eq)
  have hp0 : PxOk cx (vadd_px (HV [.int .i64, .int .i64])) := ⟨fun t => by rw [hP, hel]; exact tt_ok ttL_ok t, by rw [hgl]; rfl⟩
  have hc0 : CallOk cx (vadd_px (HV [.int .i64, .int .i64])) := callT_ok rfl cfs_nil
  have hq0 : CallQOk cx (vadd_px (HV [.int .i64, .int .i64])) := callQT_ok rfl cqfs_nil
  exact ⟨hp0, hc0, hq0, all0⟩
def vadd (a : Int) (b : Int) : Int × Int :=
  cond (!decide ((decide (a < (wr .i64 (a + b)))) = (decide (0 < b)))) (
   (0, 20)) (
   ((wr .i64 (a + b)), 0))
theorem vadd_tot (x : HV [.int .i64, .int .i64]) : vadd_body x = some (vadd x.1 x.2) := by
  first
    | exact rfl
    | simp only [vadd_body, vadd, cond_some]
def vadd_F : FT [.int .i64, .int .i64] [.int .i64, .int .i64] := fun x => some (vadd x.1 x.2)
theorem vadd_ok : FnOk Tryd.prog elT glT 108 [.int .i64, .int .i64] [.int .i64, .int .i64] vadd_F := .fin0 vadd_run fun x _ _ hx => (vadd_tot x).trans hx
/-! ## exchequer/value.size -/
def vsize_px (R : Type) : Px R := ⟨ttOf ttL, glT, callT [], callQT [], loopT []⟩
def vsize_body (x : HV [.int .i64]) : Option (HV [.int .u64]) := match x with
 | n =>
  cond (decide (n < 0)) (
   some (wr .u64 (0 - (wr .u64 n)))) (
   some (wr .u64 n))
theorem vsize_eq : ∀ (x : HV [.int .i64]), runF (vsize_px _) Tryd.f77 [.int .i64] [.int .u64] x some = vsize_body x
  | n => by kernel_rfl
theorem vsize_run : FnOk Tryd.prog elT glT 77 [.int .i64] [.int .u64] (vsize_body) := by
  refine fnOk_run Tryd.func77 rfl (by kernel_rfl) follows (by kernel_rfl) (n := 0) (by kernel_rfl) (px := vsize_px _) (fun cx hP hel hgl => ?_) (vsize_eq)
  have hp0 : PxOk cx (vsize_px (HV [.int .u64])) := ⟨fun t => by rw [hP, hel]; exact tt_ok ttL_ok t, by rw [hgl]; rfl⟩
  have hc0 : CallOk cx (vsize_px (HV [.int .u64])) := callT_ok rfl cfs_nil
  have hq0 : CallQOk cx (vsize_px (HV [.int .u64])) := callQT_ok rfl cqfs_nil
  exact ⟨hp0, hc0, hq0, all0⟩
def vsize (n : Int) : Int :=
  cond (decide (n < 0)) (
   (wr .u64 (0 - (wr .u64 n)))) (
   (wr .u64 n))
theorem vsize_tot (x : HV [.int .i64]) : vsize_body x = some (vsize x) := by
  first
    | exact rfl
    | simp only [vsize_body, vsize, cond_some]
def vsize_F : FT [.int .i64] [.int .u64] := fun x => some (vsize x)
theorem vsize_ok : FnOk Tryd.prog elT glT 77 [.int .i64] [.int .u64] vsize_F := .fin0 vsize_run fun x _ _ hx => (vsize_tot x).trans hx
/-! ## math/bits.Mul64 -/
def mul64_px (R : Type) : Px R := ⟨ttOf ttL, glT, callT [], callQT [], loopT []⟩
def mul64_body (x : HV [.int .u64, .int .u64]) : Option (HV [.int .u64, .int .u64]) := match x with
 | (a, b) =>
  some ((wr .u64 ((wr .u64 ((wr .u64 ((ishr .u64 a 32) * (ishr .u64 b 32))) + (ishr .u64 (wr .u64 ((wr .u64 ((ishr .u64 a 32) * (iand .u64 b 4294967295))) + (ishr .u64 (wr .u64 ((iand .u64 a 4294967295) * (iand .u64 b 4294967295))) 32))) 32))) + (ishr .u64 (wr .u64 ((iand .u64 (wr .u64 ((wr .u64 ((ishr .u64 a 32) * (iand .u64 b 4294967295))) + (ishr .u64 (wr .u64 ((iand .u64 a 4294967295) * (iand .u64 b 4294967295))) 32))) 4294967295) + (wr .u64 ((iand .u64 a 4294967295) * (ishr .u64 b 32))))) 32))), (wr .u64 (a * b)))
theorem mul64_eq : ∀ (x : HV [.int .u64, .int .u64]), runF (mul64_px _) Tryd.f117 [.int .u64, .int .u64] [.int .u64, .int .u64] x some = mul64_body x
  | (a, b) => by kernel_rfl
theorem mul64_run : FnOk Tryd.prog elT glT 117 [.int .u64, .int .u64] [.int .u64, .int .u64] (mul64_body) := by
  refine fnOk_run Tryd.func117 rfl (by kernel_rfl) follows (by kernel_rfl) (n := 0) (by kernel_rfl) (px := mul64_px _) (fun cx hP hel hgl => ?_) (mul64_eq)
  have hp0 : PxOk cx (mul64_px (HV [.int .u64, .int .u64])) := ⟨fun t => by rw [hP, hel]; exact tt_ok ttL_ok t, by rw [hgl]; rfl⟩
  have hc0 : CallOk cx (mul64_px (HV [.int .u64, .int .u64])) := callT_ok rfl cfs_nil
  have hq0 : CallQOk cx (mul64_px (HV [.int .u64, .int .u64])) := callQT_ok rfl cqfs_nil
  exact ⟨hp0, hc0, hq0, all0⟩
def mul64 (a : Int) (b : Int) : Int × Int :=
  ((wr .u64 ((wr .u64 ((wr .u64 ((ishr .u64 a 32) * (ishr .u64 b 32))) + (ishr .u64 (wr .u64 ((wr .u64 ((ishr .u64 a 32) * (iand .u64 b 4294967295))) + (ishr .u64 (wr .u64 ((iand .u64 a 4294967295) * (iand .u64 b 4294967295))) 32))) 32))) + (ishr .u64 (wr .u64 ((iand .u64 (wr .u64 ((wr .u64 ((ishr .u64 a 32) * (iand .u64 b 4294967295))) + (ishr .u64 (wr .u64 ((iand .u64 a 4294967295) * (iand .u64 b 4294967295))) 32))) 4294967295) + (wr .u64 ((iand .u64 a 4294967295) * (ishr .u64 b 32))))) 32))), (wr .u64 (a * b)))
theorem mul64_tot (x : HV [.int .u64, .int .u64]) : mul64_body x = some (mul64 x.1 x.2) := by
  first
    | exact rfl
    | simp only [mul64_body, mul64, cond_some]
def mul64_F : FT [.int .u64, .int .u64] [.int .u64, .int .u64] := fun x => some (mul64 x.1 x.2)
theorem mul64_ok : FnOk Tryd.prog elT glT 117 [.int .u64, .int .u64] [.int .u64, .int .u64] mul64_F := .fin0 mul64_run fun x _ _ hx => (mul64_tot x).trans hx
/-! ## exchequer/value.Mul -/
def vmul_px (R : Type) : Px R := ⟨ttOf ttL, glT, callT [(77, callOr [.int .i64] [.int .u64] vsize_F), (117, callOr [.int .u64, .int .u64] [.int .u64, .int .u64] mul64_F)], callQT [], loopT []⟩
def vmul_body (x : HV [.int .i64, .int .i64]) : Option (HV [.int .i64, .int .i64]) := match x with
 | (a, b) =>
  let j1 := fun (p3 : Bool) =>
   cond (p3) (
    some (0, 20)) (
    cond (!decide ((decide (a < 0)) = (decide (b < 0)))) (
     some ((wr .i64 (wr .u64 (0 - (mul64 (vsize a) (vsize b)).2))), 0)) (
     some ((wr .i64 ((mul64 (vsize a) (vsize b)).2)), 0)))
  let j := fun (p : Bool) =>
   cond (p) (
    j1 true) (
    cond (decide ((mul64 (vsize a) (vsize b)).2 = 9223372036854775808)) (
     j1 (!(!decide ((decide (a < 0)) = (decide (b < 0)))))) (
     j1 false))
  cond (decide (0 < (mul64 (vsize a) (vsize b)).1)) (
   j true) (
   j (decide (9223372036854775808 < (mul64 (vsize a) (vsize b)).2)))
theorem vmul_eq : ∀ (x : HV [.int .i64, .int .i64]), runF (vmul_px _) Tryd.f107 [.int .i64, .int .i64] [.int .i64, .int .i64] x some = vmul_body x
  | (a, b) => by kernel_rfl
theorem vmul_run : FnOk Tryd.prog elT glT 107 [.int .i64, .int .i64] [.int .i64, .int .i64] (vmul_body) := by
  refine fnOk_run Tryd.func107 rfl (by kernel_rfl) follows (by kernel_rfl) (n := 0) (by kernel_rfl) (px := vmul_px _) (fun cx hP hel hgl => ?_) (vmul_eq)
  have hp0 : PxOk cx (vmul_px (HV [.int .i64, .int .i64])) := ⟨fun t => by rw [hP, hel]; exact tt_ok ttL_ok t, by rw [hgl]; rfl⟩
  have hc0 : CallOk cx (vmul_px (HV [.int .i64, .int .i64])) := callT_ok rfl (cfs_cons (cf_or (by rw [hP, hel, hgl]; exact vsize_ok) (by kernel_rfl)) (cfs_cons (cf_or (by rw [hP, hel, hgl]; exact mul64_ok) (by kernel_rfl)) cfs_nil))
  have hq0 : CallQOk cx (vmul_px (HV [.int .i64, .int .i64])) := callQT_ok rfl cqfs_nil
  exact ⟨hp0, hc0, hq0, all0⟩
def vmul (a : Int) (b : Int) : Int × Int :=
  let j1 := fun (p3 : Bool) =>
   cond (p3) (
    (0, 20)) (
    cond (!decide ((decide (a < 0)) = (decide (b < 0)))) (
     ((wr .i64 (wr .u64 (0 - (mul64 (vsize a) (vsize b)).2))), 0)) (
     ((wr .i64 ((mul64 (vsize a) (vsize b)).2)), 0)))
  let j := fun (p : Bool) =>
   cond (p) (
    j1 true) (
    cond (decide ((mul64 (vsize a) (vsize b)).2 = 9223372036854775808)) (
     j1 (!(!decide ((decide (a < 0)) = (decide (b < 0)))))) (
     j1 false))
  cond (decide (0 < (mul64 (vsize a) (vsize b)).1)) (
   j true) (
   j (decide (9223372036854775808 < (mul64 (vsize a) (vsize b)).2)))
theorem vmul_tot (x : HV [.int .i64, .int .i64]) : vmul_body x = some (vmul x.1 x.2) := by
  first
    | exact rfl
    | simp only [vmul_body, vmul, cond_some]
def vmul_F : FT [.int .i64, .int .i64] [.int .i64, .int .i64] := fun x => some (vmul x.1 x.2)
theorem vmul_ok : FnOk Tryd.prog elT glT 107 [.int .i64, .int .i64] [.int .i64, .int .i64] vmul_F := .fin0 vmul_run fun x _ _ hx => (vmul_tot x).trans hx
end Go.Proofs.YtjpcghlpkinahaaDoor

/- What sums, differences and products of numbers come to. -/
namespace Go.Proofs.YtjpcghlpkinahaaDoor
open Go.Ax
theorem wru (n : Int) : wr .u64 n = n % 18446744073709551616 := by simp [wr, IntKind.wrap, IntKind.bits, IntKind.signed]
theorem wri (n : Int) : wr .i64 n = if 9223372036854775808 ≤ n % 18446744073709551616 then n % 18446744073709551616 - 18446744073709551616 else n % 18446744073709551616 := by
  simp [wr, IntKind.wrap, IntKind.bits, IntKind.signed]
theorem wru_id {n : Int} (h : 0 ≤ n ∧ n ≤ 18446744073709551615) : wr .u64 n = n := by rw [wru]; omega
theorem iand_lo {a : Int} (h : 0 ≤ a ∧ a ≤ 18446744073709551615) : iand .u64 a 4294967295 = a % 4294967296 := by
  obtain ⟨n, rfl⟩ := Int.eq_ofNat_of_zero_le h.1
  have hn : n < 18446744073709551616 := by omega
  have e2 : (BitVec.ofInt IntKind.u64.bits (n : Int) &&& BitVec.ofInt IntKind.u64.bits 4294967295).toNat = n % 4294967296 := by
    show (BitVec.ofInt 64 (n : Int) &&& BitVec.ofInt 64 ((4294967295 : Nat) : Int)).toNat = n % 4294967296
    rw [BitVec.toNat_and, BitVec.ofInt_natCast, BitVec.ofInt_natCast, BitVec.toNat_ofNat, BitVec.toNat_ofNat]
    rw [Nat.mod_eq_of_lt hn, Nat.mod_eq_of_lt (by decide)]
    exact Nat.and_two_pow_sub_one_eq_mod n 32
  show wr .u64 _ = _
  simp only [e2]
  rw [wru_id (by omega)]
  omega
theorem ishr_hi {a : Int} : ishr .u64 a 32 = a / 4294967296 := by
  show a.fdiv (2 ^ min (32 : Int).toNat IntKind.u64.bits) = _
  rw [show (2 : Int) ^ min (32 : Int).toNat IntKind.u64.bits = 4294967296 from by decide]
  exact Int.fdiv_eq_ediv_of_nonneg _ (by omega)
theorem mul_bd (a b c d : Int) (h : 0 ≤ a ∧ a ≤ c) (h' : 0 ≤ b ∧ b ≤ d) : 0 ≤ a * b ∧ a * b ≤ c * d :=
  ⟨Int.mul_nonneg h.1 h'.1, Int.mul_le_mul h.2 h'.2 h'.1 (by omega)⟩
theorem mul64_split (x y : Int) : x * y = (x / 4294967296) * (y / 4294967296) * 18446744073709551616 + ((x / 4294967296) * (y % 4294967296) + (x % 4294967296) * (y / 4294967296)) * 4294967296 + (x % 4294967296) * (y % 4294967296) := by
  have hx := Int.mul_ediv_add_emod x 4294967296
  have hy := Int.mul_ediv_add_emod y 4294967296
  generalize x / 4294967296 = p at *
  generalize x % 4294967296 = q at *
  generalize y / 4294967296 = r at *
  generalize y % 4294967296 = s at *
  rw [← hx, ← hy]
  simp only [Int.add_mul, Int.mul_add]
  have e1 : 4294967296 * p * (4294967296 * r) = p * r * 18446744073709551616 := by
    rw [Int.mul_assoc, Int.mul_left_comm p, ← Int.mul_assoc]
    omega
  have e2 : 4294967296 * p * s = p * s * 4294967296 := by rw [Int.mul_assoc]; omega
  have e3 : q * (4294967296 * r) = q * r * 4294967296 := by rw [Int.mul_left_comm]; omega
  omega
theorem mul64_z (x y : Int) (hx : 0 ≤ x ∧ x ≤ 18446744073709551615) (hy : 0 ≤ y ∧ y ≤ 18446744073709551615) : mul64 x y = (x * y / 18446744073709551616, x * y % 18446744073709551616) := by
  have b00 := mul_bd (x % 4294967296) (y % 4294967296) 4294967295 4294967295 (by omega) (by omega)
  have b10 := mul_bd (x / 4294967296) (y % 4294967296) 4294967295 4294967295 (by omega) (by omega)
  have b01 := mul_bd (x % 4294967296) (y / 4294967296) 4294967295 4294967295 (by omega) (by omega)
  have b11 := mul_bd (x / 4294967296) (y / 4294967296) 4294967295 4294967295 (by omega) (by omega)
  have sp := mul64_split x y
  simp only [mul64, ishr_hi, iand_lo hx, iand_lo hy]
  generalize (x % 4294967296) * (y % 4294967296) = p00 at *
  generalize (x / 4294967296) * (y % 4294967296) = p10 at *
  generalize (x % 4294967296) * (y / 4294967296) = p01 at *
  generalize (x / 4294967296) * (y / 4294967296) = p11 at *
  rw [wru_id (n := p00) (by omega), wru_id (n := p10) (by omega), wru_id (n := p11) (by omega), wru_id (n := p01) (by omega)]
  rw [wru_id (n := p10 + p00 / 4294967296) (by omega)]
  rw [iand_lo (by omega)]
  rw [wru_id (n := (p10 + p00 / 4294967296) % 4294967296 + p01) (by omega)]
  rw [wru_id (n := p11 + (p10 + p00 / 4294967296) / 4294967296) (by omega)]
  rw [wru_id (n := p11 + (p10 + p00 / 4294967296) / 4294967296 + ((p10 + p00 / 4294967296) % 4294967296 + p01) / 4294967296) (by omega), wru]
  rw [Prod.mk.injEq]
  constructor <;> omega
/-- what has room, or is told to have none -/
def fitZ (n : Int) : Int × Int := if -9223372036854775808 ≤ n ∧ n ≤ 9223372036854775807 then (n, 0) else (0, 20)
def absI (n : Int) : Int := if n < 0 then -n else n
theorem vsize_z {n : Int} (h : inI n) : vsize n = absI n := by
  simp only [inI] at h
  simp only [vsize, absI, Bool.cond_decide, wru]
  split <;> omega
theorem fit_ok {q r : Int} (h : inI q) (hr : r = q) : (r, (0 : Int)) = fitZ q := by
  simp only [inI] at h
  rw [hr, fitZ, if_pos h]
theorem fit_no {q : Int} (h : ¬ inI q) : ((0 : Int), (20 : Int)) = fitZ q := by
  simp only [inI] at h
  rw [fitZ, if_neg h]
theorem vadd_z {a b : Int} (ha : inI a) (hb : inI b) : vadd a b = fitZ (a + b) := by
  simp only [inI] at ha hb
  simp only [vadd, wri]
  by_cases h1 : 0 < b
  · rw [decide_eq_true h1]
    by_cases h2 : a + b ≤ 9223372036854775807
    · have e : (a + b) % 18446744073709551616 < 9223372036854775808 ∨ 9223372036854775808 ≤ (a + b) % 18446744073709551616 := by omega
      rw [← fit_ok (q := a + b) (r := if 9223372036854775808 ≤ (a + b) % 18446744073709551616 then (a + b) % 18446744073709551616 - 18446744073709551616 else (a + b) % 18446744073709551616) (by simp only [inI]; omega) (by split <;> omega)]
      rw [decide_eq_true (p := a < _) (by split <;> omega)]
      rfl
    · rw [← fit_no (q := a + b) (by simp only [inI]; omega)]
      rw [decide_eq_false (p := a < _) (by split <;> omega)]
      rfl
  · rw [decide_eq_false h1]
    by_cases h2 : -9223372036854775808 ≤ a + b
    · rw [← fit_ok (q := a + b) (r := if 9223372036854775808 ≤ (a + b) % 18446744073709551616 then (a + b) % 18446744073709551616 - 18446744073709551616 else (a + b) % 18446744073709551616) (by simp only [inI]; omega) (by split <;> omega)]
      rw [decide_eq_false (p := a < _) (by split <;> omega)]
      rfl
    · rw [← fit_no (q := a + b) (by simp only [inI]; omega)]
      rw [decide_eq_true (p := a < _) (by split <;> omega)]
      rfl
theorem vmul_z {a b : Int} (ha : inI a) (hb : inI b) : vmul a b = fitZ (a * b) := by
  have ha' := ha; have hb' := hb
  simp only [inI] at ha' hb'
  have hA : 0 ≤ absI a ∧ absI a ≤ 9223372036854775808 := by unfold absI; split <;> omega
  have hB : 0 ≤ absI b ∧ absI b ≤ 9223372036854775808 := by unfold absI; split <;> omega
  have hbd := mul_bd _ _ _ _ hA hB
  have hsg : a * b = if decide (a < 0) = decide (b < 0) then absI a * absI b else -(absI a * absI b) := by
    unfold absI
    by_cases h1 : a < 0 <;> by_cases h2 : b < 0 <;> simp [h1, h2, Int.neg_mul, Int.mul_neg]
  simp only [vmul, vsize_z ha, vsize_z hb, mul64_z _ _ (show 0 ≤ absI a ∧ absI a ≤ 18446744073709551615 by omega) (show 0 ≤ absI b ∧ absI b ≤ 18446744073709551615 by omega)]
  clear ha hb ha' hb' hA hB
  generalize absI a * absI b = p at *
  generalize a * b = q at *
  by_cases hs : decide (a < 0) = decide (b < 0)
  · rw [if_pos hs] at hsg
    rw [decide_eq_true hs]
    by_cases h1 : p < 9223372036854775808
    · rw [decide_eq_false (show ¬ 0 < p / 18446744073709551616 by omega), decide_eq_false (show ¬ 9223372036854775808 < p % 18446744073709551616 by omega), decide_eq_false (show ¬ p % 18446744073709551616 = 9223372036854775808 by omega)]
      refine (show _ = (wr .i64 (p % 18446744073709551616), (0 : Int)) from rfl).trans (fit_ok (by simp only [inI]; omega) ?_)
      rw [wri]; split <;> omega
    · rw [← fit_no (q := q) (by simp only [inI]; omega)]
      by_cases h2 : 0 < p / 18446744073709551616
      · rw [decide_eq_true h2]; rfl
      · rw [decide_eq_false h2]
        by_cases h3 : 9223372036854775808 < p % 18446744073709551616
        · rw [decide_eq_true h3]; rfl
        · rw [decide_eq_false h3, decide_eq_true (show p % 18446744073709551616 = 9223372036854775808 by omega)]; rfl
  · rw [if_neg hs] at hsg
    rw [decide_eq_false hs]
    by_cases h1 : p ≤ 9223372036854775808
    · rw [decide_eq_false (show ¬ 0 < p / 18446744073709551616 by omega), decide_eq_false (show ¬ 9223372036854775808 < p % 18446744073709551616 by omega)]
      have : fitZ q = (wr .i64 (wr .u64 (0 - p % 18446744073709551616)), (0 : Int)) := by
        refine (fit_ok (by simp only [inI]; omega) ?_).symm
        rw [wri, wru]; split <;> omega
      rw [this]
      cases decide (p % 18446744073709551616 = 9223372036854775808) <;> rfl
    · rw [← fit_no (q := q) (by simp only [inI]; omega)]
      by_cases h2 : 0 < p / 18446744073709551616
      · rw [decide_eq_true h2]; rfl
      · rw [decide_eq_false h2, decide_eq_true (show 9223372036854775808 < p % 18446744073709551616 by omega)]; rfl
end Go.Proofs.YtjpcghlpkinahaaDoor

/- The lexer's own functions: what they come to. -/
namespace Go.Proofs.YtjpcghlpkinahaaDoor
open Go.Ax
theorem inb_i {i : Int} {n : Nat} (h : 0 ≤ i ∧ i < n) : inb i n = true := by simp [inb, h]
theorem upto_len {m n : Nat} (h : m ≤ n) : upto 0 (m : Int) n = true := by simp [upto]; omega
/-! ## texts: does one begin with another; where a byte stands -/
/-! ## internal/stringslite.HasPrefix -/
def hpre0_px (R : Type) : Px R := ⟨ttOf ttL, glT, callT [], callQT [], loopT []⟩
def hpre0_body (x : HV [.str, .str]) : Option (HV [.bool]) := match x with
 | (l, m) =>
  cond (decide ((m.length : Int) ≤ (l.length : Int))) (
   chk (upto 0 (m.length : Int) l.length) (
    some (decide ((l.take ((m.length : Int) : Int).toNat) = m)))) (
   some false)
theorem hpre0_eq : ∀ (x : HV [.str, .str]), runF (hpre0_px _) Tryd.f105 [.str, .str] [.bool] x some = hpre0_body x
  | (l, m) => by kernel_rfl
theorem hpre0_run : FnOk Tryd.prog elT glT 105 [.str, .str] [.bool] (hpre0_body) := by
  refine fnOk_run Tryd.func105 rfl (by kernel_rfl) follows (by kernel_rfl) (n := 0) (by kernel_rfl) (px := hpre0_px _) (fun cx hP hel hgl => ?_) (hpre0_eq)
  have hp0 : PxOk cx (hpre0_px (HV [.bool])) := ⟨fun t => by rw [hP, hel]; exact tt_ok ttL_ok t, by rw [hgl]; rfl⟩
  have hc0 : CallOk cx (hpre0_px (HV [.bool])) := callT_ok rfl cfs_nil
  have hq0 : CallQOk cx (hpre0_px (HV [.bool])) := callQT_ok rfl cqfs_nil
  exact ⟨hp0, hc0, hq0, all0⟩
def hpre0 (l m : Str) : Bool := Lp.pre l m
def hpre0_F : FT [.str, .str] [.bool] := fun x => some (hpre0 x.1 x.2)
theorem hpre0_ok : FnOk Tryd.prog elT glT 105 [.str, .str] [.bool] hpre0_F := .fin0 hpre0_run fun (l, m) r hb hx => by
  simp only [hpre0_F, Option.some.injEq] at hx
  subst hx
  simp only [hpre0_body, hpre0, Lp.pre]
  have e : decide ((m.length : Int) ≤ (l.length : Int)) = decide (m.length ≤ l.length) := decide_eq_decide.2 (by omega)
  rw [e]
  by_cases h : m.length ≤ l.length
  · rw [decide_eq_true h, cond_t, upto_len h, Int.toNat_natCast]
    rfl
  · rw [decide_eq_false h]
    rfl
/-! ## strings.HasPrefix -/
def hpre_px (R : Type) : Px R := ⟨ttOf ttL, glT, callT [(105, callOr [.str, .str] [.bool] hpre0_F)], callQT [], loopT []⟩
def hpre_body (x : HV [.str, .str]) : Option (HV [.bool]) := match x with
 | (l, m) =>
  some (hpre0 l m)
theorem hpre_eq : ∀ (x : HV [.str, .str]), runF (hpre_px _) Tryd.f80 [.str, .str] [.bool] x some = hpre_body x
  | (l, m) => by kernel_rfl
theorem hpre_run : FnOk Tryd.prog elT glT 80 [.str, .str] [.bool] (hpre_body) := by
  refine fnOk_run Tryd.func80 rfl (by kernel_rfl) follows (by kernel_rfl) (n := 0) (by kernel_rfl) (px := hpre_px _) (fun cx hP hel hgl => ?_) (hpre_eq)
  have hp0 : PxOk cx (hpre_px (HV [.bool])) := ⟨fun t => by rw [hP, hel]; exact tt_ok ttL_ok t, by rw [hgl]; rfl⟩
  have hc0 : CallOk cx (hpre_px (HV [.bool])) := callT_ok rfl (cfs_cons (cf_or (by rw [hP, hel, hgl]; exact hpre0_ok) (by kernel_rfl)) cfs_nil)
  have hq0 : CallQOk cx (hpre_px (HV [.bool])) := callQT_ok rfl cqfs_nil
  exact ⟨hp0, hc0, hq0, all0⟩
def hpre (l : Str) (m : Str) : Bool :=
  (hpre0 l m)
theorem hpre_tot (x : HV [.str, .str]) : hpre_body x = some (hpre x.1 x.2) := by
  first
    | exact rfl
    | simp only [hpre_body, hpre, cond_some]
def hpre_F : FT [.str, .str] [.bool] := fun x => some (hpre x.1 x.2)
theorem hpre_ok : FnOk Tryd.prog elT glT 80 [.str, .str] [.bool] hpre_F := .fin0 hpre_run fun x _ _ hx => (hpre_tot x).trans hx
set_option maxRecDepth 20000 in
open Go.Sx in
theorem indexByte0_con (l : Str) (c : Int) : Con Tryd.prog 79 [S l, .int .u8 c] [] (fun _ => True) (Is (.int .i64 (Lib.indexByte l c.toNat.toUInt8))) := by
  have run : ∀ w, (callFunc 104 #[S l, .int .u8 c]).run Tryd.prog w = .ok (.value (.int .i64 (Lib.indexByte l c.toNat.toUInt8))) w := fun w => by
    rw [run_callFunc_extern Tryd.func104 (by kernel_rfl) rfl (by kernel_rfl) (e := Extern.BytealgIndexByte.indexByte) (by kernel_rfl)]
    simp [Lib.run_indexByteString, go_sem]
  refine con_intro Tryd.func79 Tryd.ntmps79 rfl (by kernel_rfl) rfl fun w M => ?_
  repeat' (first | refine g_seq ?_ | refine g_region ?_ | refine o_nil ?_ | refine n_seq ?_ | refine n_blk ?_ | refine g_block ?_ | refine g_skip ?_ | refine g_exit ?_ | refine x_here ?_ | refine x_seq ?_ | refine x_loop ?_ | refine x_blk rfl ?_ | refine g_scope ?_ | refine n_scope ?_ | refine x_scope ?_ | refine g_label ?_ | (apply o_pure rfl rfl; (first | exact p_move rfl | exact p_assign rfl | exact p_lens (by dsimp only; decide +kernel) rfl | exact p_lensl (by dsimp only; decide +kernel) rfl | exact p_extract rfl rfl | exact p_pick_t rfl rfl | exact p_pick_f rfl rfl | exact p_eql rfl rfl | exact p_neq rfl rfl | exact p_lss rfl rfl | exact p_leq rfl rfl | exact p_gtr rfl rfl | exact p_geq rfl rfl | exact p_not rfl | exact p_eqls rfl rfl | exact p_neqs rfl rfl | exact p_add64 rfl rfl (by omega) | exact p_sub64 rfl rfl (by omega) | exact p_index (by dsimp only; decide +kernel) rfl rfl (by omega) | exact p_cut (by dsimp only; decide +kernel) rfl rfl rfl (by omega) | exact p_cutlo (by dsimp only; decide +kernel) rfl rfl (by omega) | exact p_cuthi (by dsimp only; decide +kernel) rfl rfl (by omega) | exact p_fa (fo := 0) (by dsimp only; decide +kernel) rfl | exact p_fa (fo := 1) (by dsimp only; decide +kernel) rfl | exact p_fa (fo := 2) (by dsimp only; decide +kernel) rfl | exact p_fa (fo := 3) (by dsimp only; decide +kernel) rfl | exact p_nil rfl)) | refine o_off rfl rfl ?_ | refine o_off_none rfl ?_ | (apply o_pure rfl rfl (p_callx rfl rfl run)) | (refine o_gsd rfl rfl ?_ ?_ <;> intro hc) | (refine o_gse rfl rfl ?_ ?_ <;> intro hc) | (refine o_gsn rfl rfl ?_ ?_ <;> intro hc) | (refine o_gsxd rfl rfl ?_ ?_ <;> intro hc) | (refine o_gsx rfl rfl ?_ ?_ <;> intro hc) | (refine o_gs rfl rfl ?_ ?_ <;> intro hc) | refine g_cond_t rfl rfl ?_ | refine g_cond_f rfl rfl ?_ | refine g_cond_t rfl (decide_eq_true (by omega)) ?_ | refine g_cond_f rfl (decide_eq_false (by omega)) ?_ | (refine g_condd rfl ?_ ?_ <;> intro hc) | (refine g_conde rfl ?_ ?_ <;> intro hc) | (refine g_condn rfl ?_ ?_ <;> intro hc) | (refine g_condxd rfl ?_ ?_ <;> intro hc) | (refine g_condx rfl ?_ ?_ <;> intro hc) | (refine g_cond rfl ?_ ?_ <;> intro hc) | refine g_ret1 rfl rfl ?_ | refine g_ret2 rfl rfl rfl ?_ | refine g_ret3 rfl rfl rfl rfl ?_)
  exact rt_is rfl
def sib (l : Str) (c : Int) : Int := Lib.indexByte l c.toNat.toUInt8
def sib_F : FT [.str, .int .u8] [.int .i64] := fun x => some (sib x.1 x.2)
theorem sib_rng (l : Str) (c : Int) : -1 ≤ sib l c ∧ sib l c < l.length + 1 := by
  have := Lp.indexByte_in l c.toNat.toUInt8
  simp only [sib]
  omega
theorem sib_ok : FnOk Tryd.prog elT glT 79 [.str, .int .u8] [.int .i64] sib_F := by
  refine FnOk.ofIs (indexByte0_con [] 0).enters rfl fun x r hx => ?_
  obtain ⟨l, c⟩ := x
  simp only [sib_F, Option.some.injEq] at hx
  subst hx
  refine ⟨[Sx.S l, .int .u8 c], _, fun X vs h => ?_, indexByte0_con l c, fun X hb => ?_⟩
  · simp only [encL, enc1, Reps, Rep] at h
    obtain ⟨u, us, rfl, ⟨rfl, _⟩, u2, us2, rfl, ⟨rfl, _⟩, rfl⟩ := h
    rfl
  · simp only [pack, encL, enc1]
    have h := sib_rng l c
    have hl : ln l.length := hb.1
    refine rep_int (u8_of ?_)
    simp only [IntKind.min, IntKind.max, IntKind.signed, IntKind.bits, sib, ln] at *
    simp only [if_true]
    omega
/-! ## strings.IndexByte -/
def sidxb_px (R : Type) : Px R := ⟨ttOf ttL, glT, callT [(79, callOr [.str, .int .u8] [.int .i64] sib_F)], callQT [], loopT []⟩
def sidxb_body (x : HV [.str, .int .u8]) : Option (HV [.int .i64]) := match x with
 | (l, c) =>
  some (sib l c)
theorem sidxb_eq : ∀ (x : HV [.str, .int .u8]), runF (sidxb_px _) Tryd.f43 [.str, .int .u8] [.int .i64] x some = sidxb_body x
  | (l, c) => by kernel_rfl
theorem sidxb_run : FnOk Tryd.prog elT glT 43 [.str, .int .u8] [.int .i64] (sidxb_body) := by
  refine fnOk_run Tryd.func43 rfl (by kernel_rfl) follows (by kernel_rfl) (n := 0) (by kernel_rfl) (px := sidxb_px _) (fun cx hP hel hgl => ?_) (sidxb_eq)
  have hp0 : PxOk cx (sidxb_px (HV [.int .i64])) := ⟨fun t => by rw [hP, hel]; exact tt_ok ttL_ok t, by rw [hgl]; rfl⟩
  have hc0 : CallOk cx (sidxb_px (HV [.int .i64])) := callT_ok rfl (cfs_cons (cf_or (by rw [hP, hel, hgl]; exact sib_ok) (by kernel_rfl)) cfs_nil)
  have hq0 : CallQOk cx (sidxb_px (HV [.int .i64])) := callQT_ok rfl cqfs_nil
  exact ⟨hp0, hc0, hq0, all0⟩
def sidxb (l : Str) (c : Int) : Int :=
  (sib l c)
theorem sidxb_tot (x : HV [.str, .int .u8]) : sidxb_body x = some (sidxb x.1 x.2) := by
  first
    | exact rfl
    | simp only [sidxb_body, sidxb, cond_some]
def sidxb_F : FT [.str, .int .u8] [.int .i64] := fun x => some (sidxb x.1 x.2)
theorem sidxb_ok : FnOk Tryd.prog elT glT 43 [.str, .int .u8] [.int .i64] sidxb_F := .fin0 sidxb_run fun x _ _ hx => (sidxb_tot x).trans hx
/-! ## exchequer/lex.lower -/
def lower_px (R : Type) : Px R := ⟨ttOf ttL, glT, callT [], callQT [], loopT []⟩
def lower_body (x : HV [.int .u8]) : Option (HV [.bool]) := match x with
 | c =>
  cond (decide (97 ≤ c)) (
   some (decide (c ≤ 122))) (
   some false)
theorem lower_eq : ∀ (x : HV [.int .u8]), runF (lower_px _) Tryd.f35 [.int .u8] [.bool] x some = lower_body x
  | c => by kernel_rfl
theorem lower_run : FnOk Tryd.prog elT glT 35 [.int .u8] [.bool] (lower_body) := by
  refine fnOk_run Tryd.func35 rfl (by kernel_rfl) follows (by kernel_rfl) (n := 0) (by kernel_rfl) (px := lower_px _) (fun cx hP hel hgl => ?_) (lower_eq)
  have hp0 : PxOk cx (lower_px (HV [.bool])) := ⟨fun t => by rw [hP, hel]; exact tt_ok ttL_ok t, by rw [hgl]; rfl⟩
  have hc0 : CallOk cx (lower_px (HV [.bool])) := callT_ok rfl cfs_nil
  have hq0 : CallQOk cx (lower_px (HV [.bool])) := callQT_ok rfl cqfs_nil
  exact ⟨hp0, hc0, hq0, all0⟩
def lower (c : Int) : Bool :=
  cond (decide (97 ≤ c)) (
   (decide (c ≤ 122))) (
   false)
theorem lower_tot (x : HV [.int .u8]) : lower_body x = some (lower x) := by
  first
    | exact rfl
    | simp only [lower_body, lower, cond_some]
def lower_F : FT [.int .u8] [.bool] := fun x => some (lower x)
theorem lower_ok : FnOk Tryd.prog elT glT 35 [.int .u8] [.bool] lower_F := .fin0 lower_run fun x _ _ hx => (lower_tot x).trans hx
/-! ## exchequer/lex.upper -/
def upper_px (R : Type) : Px R := ⟨ttOf ttL, glT, callT [], callQT [], loopT []⟩
def upper_body (x : HV [.int .u8]) : Option (HV [.bool]) := match x with
 | c =>
  cond (decide (65 ≤ c)) (
   some (decide (c ≤ 90))) (
   some false)
theorem upper_eq : ∀ (x : HV [.int .u8]), runF (upper_px _) Tryd.f82 [.int .u8] [.bool] x some = upper_body x
  | c => by kernel_rfl
theorem upper_run : FnOk Tryd.prog elT glT 82 [.int .u8] [.bool] (upper_body) := by
  refine fnOk_run Tryd.func82 rfl (by kernel_rfl) follows (by kernel_rfl) (n := 0) (by kernel_rfl) (px := upper_px _) (fun cx hP hel hgl => ?_) (upper_eq)
  have hp0 : PxOk cx (upper_px (HV [.bool])) := ⟨fun t => by rw [hP, hel]; exact tt_ok ttL_ok t, by rw [hgl]; rfl⟩
  have hc0 : CallOk cx (upper_px (HV [.bool])) := callT_ok rfl cfs_nil
  have hq0 : CallQOk cx (upper_px (HV [.bool])) := callQT_ok rfl cqfs_nil
  exact ⟨hp0, hc0, hq0, all0⟩
def upper (c : Int) : Bool :=
  cond (decide (65 ≤ c)) (
   (decide (c ≤ 90))) (
   false)
theorem upper_tot (x : HV [.int .u8]) : upper_body x = some (upper x) := by
  first
    | exact rfl
    | simp only [upper_body, upper, cond_some]
def upper_F : FT [.int .u8] [.bool] := fun x => some (upper x)
theorem upper_ok : FnOk Tryd.prog elT glT 82 [.int .u8] [.bool] upper_F := .fin0 upper_run fun x _ _ hx => (upper_tot x).trans hx
/-! ## exchequer/lex.digit -/
def digit_px (R : Type) : Px R := ⟨ttOf ttL, glT, callT [], callQT [], loopT []⟩
def digit_body (x : HV [.int .u8]) : Option (HV [.bool]) := match x with
 | c =>
  cond (decide (48 ≤ c)) (
   some (decide (c ≤ 57))) (
   some false)
theorem digit_eq : ∀ (x : HV [.int .u8]), runF (digit_px _) Tryd.f75 [.int .u8] [.bool] x some = digit_body x
  | c => by kernel_rfl
theorem digit_run : FnOk Tryd.prog elT glT 75 [.int .u8] [.bool] (digit_body) := by
  refine fnOk_run Tryd.func75 rfl (by kernel_rfl) follows (by kernel_rfl) (n := 0) (by kernel_rfl) (px := digit_px _) (fun cx hP hel hgl => ?_) (digit_eq)
  have hp0 : PxOk cx (digit_px (HV [.bool])) := ⟨fun t => by rw [hP, hel]; exact tt_ok ttL_ok t, by rw [hgl]; rfl⟩
  have hc0 : CallOk cx (digit_px (HV [.bool])) := callT_ok rfl cfs_nil
  have hq0 : CallQOk cx (digit_px (HV [.bool])) := callQT_ok rfl cqfs_nil
  exact ⟨hp0, hc0, hq0, all0⟩
def digit (c : Int) : Bool :=
  cond (decide (48 ≤ c)) (
   (decide (c ≤ 57))) (
   false)
theorem digit_tot (x : HV [.int .u8]) : digit_body x = some (digit x) := by
  first
    | exact rfl
    | simp only [digit_body, digit, cond_some]
def digit_F : FT [.int .u8] [.bool] := fun x => some (digit x)
theorem digit_ok : FnOk Tryd.prog elT glT 75 [.int .u8] [.bool] digit_F := .fin0 digit_run fun x _ _ hx => (digit_tot x).trans hx
/-! ## exchequer/lex.inner -/
def inner_px (R : Type) : Px R := ⟨ttOf ttL, glT, callT [(35, callOr [.int .u8] [.bool] lower_F), (75, callOr [.int .u8] [.bool] digit_F)], callQT [], loopT []⟩
def inner_body (x : HV [.int .u8]) : Option (HV [.bool]) := match x with
 | c =>
  cond ((lower c)) (
   some true) (
   cond ((digit c)) (
    some true) (
    some (decide (c = 95))))
theorem inner_eq : ∀ (x : HV [.int .u8]), runF (inner_px _) Tryd.f37 [.int .u8] [.bool] x some = inner_body x
  | c => by kernel_rfl
theorem inner_run : FnOk Tryd.prog elT glT 37 [.int .u8] [.bool] (inner_body) := by
  refine fnOk_run Tryd.func37 rfl (by kernel_rfl) follows (by kernel_rfl) (n := 0) (by kernel_rfl) (px := inner_px _) (fun cx hP hel hgl => ?_) (inner_eq)
  have hp0 : PxOk cx (inner_px (HV [.bool])) := ⟨fun t => by rw [hP, hel]; exact tt_ok ttL_ok t, by rw [hgl]; rfl⟩
  have hc0 : CallOk cx (inner_px (HV [.bool])) := callT_ok rfl (cfs_cons (cf_or (by rw [hP, hel, hgl]; exact lower_ok) (by kernel_rfl)) (cfs_cons (cf_or (by rw [hP, hel, hgl]; exact digit_ok) (by kernel_rfl)) cfs_nil))
  have hq0 : CallQOk cx (inner_px (HV [.bool])) := callQT_ok rfl cqfs_nil
  exact ⟨hp0, hc0, hq0, all0⟩
def inner (c : Int) : Bool :=
  cond ((lower c)) (
   true) (
   cond ((digit c)) (
    true) (
    (decide (c = 95))))
theorem inner_tot (x : HV [.int .u8]) : inner_body x = some (inner x) := by
  first
    | exact rfl
    | simp only [inner_body, inner, cond_some]
def inner_F : FT [.int .u8] [.bool] := fun x => some (inner x)
theorem inner_ok : FnOk Tryd.prog elT glT 37 [.int .u8] [.bool] inner_F := .fin0 inner_run fun x _ _ hx => (inner_tot x).trans hx
theorem upper_is (c : Int) : upper c = Lp.isUp c := by simp only [upper, Lp.isUp]; cases decide (65 ≤ c) <;> rfl
theorem lower_is (c : Int) : lower c = Lp.isLo c := by simp only [lower, Lp.isLo]; cases decide (97 ≤ c) <;> rfl
theorem digit_is (c : Int) : digit c = Lp.isDi c := by simp only [digit, Lp.isDi]; cases decide (48 ≤ c) <;> rfl
theorem inner_is (c : Int) : inner c = Lp.isIn c := by
  simp only [inner, Lp.isIn, lower_is, digit_is]
  cases Lp.isLo c <;> cases Lp.isDi c <;> rfl
/-! ## exchequer/lex.alone -/
def alone_px (R : Type) : Px R := ⟨ttOf ttL, glT, callT [(37, callOr [.int .u8] [.bool] inner_F), (82, callOr [.int .u8] [.bool] upper_F)], callQT [], loopT []⟩
def alone_body (x : HV [.str, .int .i64]) : Option (HV [.bool]) := match x with
 | (s, i) =>
  cond (decide (i = (s.length : Int))) (
   some true) (
   chk (inb i s.length) (
    cond (!(inner (bat s i))) (
     chk (inb i s.length) (
      some (!(upper (bat s i))))) (
     some false)))
theorem alone_eq : ∀ (x : HV [.str, .int .i64]), runF (alone_px _) Tryd.f83 [.str, .int .i64] [.bool] x some = alone_body x
  | (s, i) => by kernel_rfl
theorem alone_run : FnOk Tryd.prog elT glT 83 [.str, .int .i64] [.bool] (alone_body) := by
  refine fnOk_run Tryd.func83 rfl (by kernel_rfl) follows (by kernel_rfl) (n := 0) (by kernel_rfl) (px := alone_px _) (fun cx hP hel hgl => ?_) (alone_eq)
  have hp0 : PxOk cx (alone_px (HV [.bool])) := ⟨fun t => by rw [hP, hel]; exact tt_ok ttL_ok t, by rw [hgl]; rfl⟩
  have hc0 : CallOk cx (alone_px (HV [.bool])) := callT_ok rfl (cfs_cons (cf_or (by rw [hP, hel, hgl]; exact inner_ok) (by kernel_rfl)) (cfs_cons (cf_or (by rw [hP, hel, hgl]; exact upper_ok) (by kernel_rfl)) cfs_nil))
  have hq0 : CallQOk cx (alone_px (HV [.bool])) := callQT_ok rfl cqfs_nil
  exact ⟨hp0, hc0, hq0, all0⟩
def alone (s : Str) (i : Int) : Option Bool := if 0 ≤ i ∧ i ≤ s.length then some (Lp.aloneF s i) else none
def alone_F : FT [.str, .int .i64] [.bool] := fun x => alone x.1 x.2
theorem beq_int (a b : Int) : (a == b) = decide (a = b) := rfl
theorem alone_b (s : Str) (i : Int) (h : 0 ≤ i ∧ i ≤ s.length) : alone_body (s, i) = some (Lp.aloneF s i) := by
  simp only [alone_body, Lp.aloneF, inner_is, upper_is, beq_int]
  by_cases he : i = s.length
  · rw [decide_eq_true he]; rfl
  · rw [decide_eq_false he, inb_i (by omega)]
    show cond (!Lp.isIn (bat s i)) (some (!Lp.isUp (bat s i))) (some false) = some (!Lp.isIn (bat s i) && !Lp.isUp (bat s i))
    cases Lp.isIn (bat s i) <;> rfl
theorem alone_ok : FnOk Tryd.prog elT glT 83 [.str, .int .i64] [.bool] alone_F := .fin0 alone_run fun (s, i) r hb hx => by
  simp only [alone_F, alone] at hx
  split at hx
  · rename_i h
    exact (alone_b s i h).trans hx
  · cases hx
/-! ## numbers -/
/-! ## exchequer/lex.number -/
def number_0_sg : Sig := ⟨46, [(0, .str), (2, .int .i64), (3, .bool), (4, .int .i64), (11, .int .i64), (12, .int .i64)], [], [], 0, 0, 0, [], []⟩
abbrev number_0_V := Str × Int × Bool × Int × Int × Int
def number_0 {R : Type} (rec : number_0_V → Option R) (kx : Ex → number_0_V → Option R) (v : number_0_V) : Option R := match v with
 | (v, v1, v2, v3, v4, v5) =>
  cond (decide (v5 < v4)) (
   chk (inb v5 v.length) (
    cond (!decide ((vmul v3 10).2 = 0)) (
     kx .ret (v, 0, false, v3, v4, v5)) (
     cond (!decide ((vadd ((vmul v3 10).1) (wr .i64 (wr .u8 ((bat v v5) - 48)))).2 = 0)) (
      kx .ret (v, 0, false, v3, v4, v5)) (
      rec (v, v1, v2, (vadd ((vmul v3 10).1) (wr .i64 (wr .u8 ((bat v v5) - 48)))).1, v4, (wr .i64 (v5 + 1))))))) (
   kx (.exit 0) (v, v1, v2, v3, v4, v5))
def number_px (R : Type) (k : Nat) : Px R := ⟨ttOf ttL, glT, callT [(107, callOr [.int .i64, .int .i64] [.int .i64, .int .i64] vmul_F), (108, callOr [.int .i64, .int .i64] [.int .i64, .int .i64] vadd_F)], callQT [], loopT [(3, loopOr k number_0_sg (number_0))]⟩
theorem number_0_eq (R : Type) (k : Nat) : ∀ (fr : List Fr) (rec : number_0_V → Option R) (kx : Ex → number_0_V → Option R) (v : number_0_V), round (number_px R k) number_0_sg (lp Tryd.f84 0) fr rec kx v = number_0 rec kx v
  | fr, rec, kx, (v, v1, v2, v3, v4, v5) => by kernel_rfl
def number_body (k : Nat) (x : HV [.str]) : Option (HV [.int .i64, .bool]) := match x with
 | s =>
  iter (fun rec => number_0 rec (fun e v => match v with | (v6, v7, v8, v9, _, _) => match e with
   | .ret =>
    some (v7, v8)
   | .exit 0 =>
    cond (decide (v6 = [48])) (
     some (v9, true)) (
     chk (inb 0 v6.length) (
      some (v9, !decide ((bat v6 0) = 48))))
   | _ => none)) k (s, 0, false, 0, (s.length : Int), 0)
theorem number_eq (k : Nat) : ∀ (x : HV [.str]), runF (number_px _ k) Tryd.f84 [.str] [.int .i64, .bool] x some = number_body k x
  | s => by kernel_rfl
theorem number_run (k : Nat) : FnOk Tryd.prog elT glT 84 [.str] [.int .i64, .bool] (number_body k) := by
  refine fnOk_run Tryd.func84 rfl (by kernel_rfl) follows (by kernel_rfl) (n := 1) (by kernel_rfl) (px := number_px _ k) (fun cx hP hel hgl => ?_) (number_eq k)
  have hp0 : PxOk cx (number_px (HV [.int .i64, .bool]) k) := ⟨fun t => by rw [hP, hel]; exact tt_ok ttL_ok t, by rw [hgl]; rfl⟩
  have hc0 : CallOk cx (number_px (HV [.int .i64, .bool]) k) := callT_ok rfl (cfs_cons (cf_or (by rw [hP, hel, hgl]; exact vmul_ok) (by kernel_rfl)) (cfs_cons (cf_or (by rw [hP, hel, hgl]; exact vadd_ok) (by kernel_rfl)) cfs_nil))
  have hq0 : CallQOk cx (number_px (HV [.int .i64, .bool]) k) := callQT_ok rfl cqfs_nil
  have hlnumber_0 : LoopOk cx (number_px (HV [.int .i64, .bool]) k) (lp Tryd.f84 0) := loop_ok hp0 hc0 hq0 (by rw [hP]; exact follows) (k := k) (s := number_0_sg) (step := number_0) (fun _ _ => by kernel_rfl) (by kernel_rfl) (number_0_eq _ k) (loops_in (n := 0) (by kernel_rfl) all0)
  exact ⟨hp0, hc0, hq0, (allS all0 hlnumber_0)⟩
def numP (s : Str) : Int × Bool := match Lp.numGo s 0 with
  | some n => (n, decide (s = [48]) || !decide (bat s 0 = 48))
  | none => (0, false)
def number (s : Str) : Option (Int × Bool) := match s with
  | [] => none
  | _ => some (numP s)
def number_F : FT [.str] [.int .i64, .bool] := fun x => number x
theorem number_loop {R : Type} {kx : Ex → number_0_V → Option R} {s : Str} {c : Option Int → Option R} (hs : ln s.length) (h1 : ∀ n j, kx .ret (s, 0, false, n, (s.length : Int), j) = c none) (h2 : ∀ q r n j, kx (.exit 0) (s, q, r, n, (s.length : Int), j) = c (some n)) : ∀ (k i : Nat) (q : Int) (r : Bool) (n : Int), inI n → i ≤ s.length → s.length - i < k → iter (fun rec => number_0 rec kx) k (s, q, r, n, (s.length : Int), (i : Int)) = c (Lp.numGo (s.drop i) n)
  | 0, i, q, r, n, _, _, h => absurd h (Nat.not_lt_zero _)
  | k + 1, i, q, r, n, hn, hi, h => by
    rw [iter_s]
    by_cases hl : i < s.length
    · have hd := Lp.inI_dg (s[i].toNat : Int)
      have e10 : inI (10 : Int) := by simp only [inI]; omega
      have em := vmul_z hn e10
      simp only [number_0, inb_t hl, bat_nat hl, em]
      rw [decide_eq_true (show (i : Int) < (s.length : Int) by omega), drop_cons hl]
      simp only [cond_t, chk, Lp.numGo]
      by_cases hm : inI (n * 10)
      · have hm' := hm
        simp only [inI] at hm'
        have ef : fitZ (n * 10) = (n * 10, 0) := by rw [fitZ, if_pos hm']
        have ea := vadd_z hm (show inI (wr .i64 (wr .u8 ((s[i].toNat : Int) - 48))) from hd)
        simp only [ef, ea]
        by_cases hf : inI (n * 10 + Lp.dg (s[i].toNat : Int))
        · have hf' := hf
          simp only [inI] at hf'
          have eg : fitZ (n * 10 + wr .i64 (wr .u8 ((s[i].toNat : Int) - 48))) = (n * 10 + Lp.dg (s[i].toNat : Int), 0) := by
            have hf2 : -9223372036854775808 ≤ n * 10 + wr .i64 (wr .u8 ((s[i].toNat : Int) - 48)) ∧ n * 10 + wr .i64 (wr .u8 ((s[i].toNat : Int) - 48)) ≤ 9223372036854775807 := hf'
            rw [fitZ, if_pos hf2]; rfl
          rw [eg, if_pos (show Lp.inI _ ∧ Lp.inI _ from ⟨hm, hf⟩)]
          have ih := number_loop hs h1 h2 k (i + 1) q r (n * 10 + Lp.dg (s[i].toNat : Int)) hf (by omega) (by omega)
          rw [wr_succ hl hs]
          exact ih
        · have hf' := hf
          simp only [inI] at hf'
          have eg : fitZ (n * 10 + wr .i64 (wr .u8 ((s[i].toNat : Int) - 48))) = (0, 20) := by
            have hf2 : ¬ (-9223372036854775808 ≤ n * 10 + wr .i64 (wr .u8 ((s[i].toNat : Int) - 48)) ∧ n * 10 + wr .i64 (wr .u8 ((s[i].toNat : Int) - 48)) ≤ 9223372036854775807) := hf'
            rw [fitZ, if_neg hf2]
          rw [eg, if_neg (fun h => hf h.2)]
          exact h1 _ _
      · have hm' := hm
        simp only [inI] at hm'
        have ef : fitZ (n * 10) = (0, 20) := by rw [fitZ, if_neg hm']
        rw [if_neg (fun h => hm h.1)]
        simp only [ef]
        exact h1 _ _
    · simp only [number_0, h2]
      rw [decide_eq_false (by omega), List.drop_eq_nil_of_le (by omega)]
      rfl
theorem number_ok : FnOk Tryd.prog elT glT 84 [.str] [.int .i64, .bool] number_F := .fin 0 number_run fun s r hb hx => ⟨s.length + 1, by
  simp only [number_F] at hx
  cases s with
  | nil => cases hx
  | cons b l =>
    have hx : some (numP (b :: l)) = some r := hx
    rw [← hx]
    simp only [number_body]
    refine (number_loop (s := b :: l) (c := fun o => match o with | some n => some (n, decide (b :: l = [48]) || !decide (bat (b :: l) 0 = 48)) | none => some (0, false)) hb (fun _ _ => rfl) (fun _ _ n _ => ?_) ((b :: l).length + 1) 0 0 false 0 (by simp [inI]) (Nat.zero_le _) (by omega)).trans ?_
    · show cond (decide (b :: l = [48])) (some (n, true)) (chk (inb 0 (b :: l).length) (some (n, !decide (bat (b :: l) 0 = 48)))) = _
      rw [inb_i (by simp only [List.length_cons]; omega)]
      cases decide (b :: l = [48]) <;> rfl
    · simp only [List.drop_zero, numP]
      cases Lp.numGo (b :: l) 0 <;> rfl⟩
/-! ## between quotes -/
/-! ## exchequer/lex.quoted -/
def quoted_0_sg : Sig := ⟨40, [(0, .str), (4, .str), (5, .int .i64), (6, .sl .byte true), (7, .int .i64)], [], [], 0, 0, 0, [], []⟩
abbrev quoted_0_V := Str × Str × Int × List UInt8 × Int
def quoted_0 {R : Type} (rec : quoted_0_V → Option R) (kx : Ex → quoted_0_V → Option R) (v : quoted_0_V) : Option R := match v with
 | (v, v1, v2, v3, v4) =>
  cond (decide (v4 < (v.length : Int))) (
   chk (inb v4 v.length) (
    cond (decide ((bat v v4) = 39)) (
     cond (decide ((wr .i64 (v4 + 1)) = (v.length : Int))) (
      kx .ret (v, v3, (wr .i64 (v4 + 1)), v3, (wr .i64 (v4 + 1)))) (
      chk (inb (wr .i64 (v4 + 1)) v.length) (
       cond (!decide ((bat v (wr .i64 (v4 + 1))) = 39)) (
        kx .ret (v, v3, (wr .i64 (v4 + 1)), v3, (wr .i64 (v4 + 1)))) (
        chk (inb (wr .i64 (v4 + 1)) v.length) (
         chk (decide (v3.length + 1 ≤ maxApp)) (
          rec (v, v1, v2, (v3 ++ [(UInt8.ofNat ((bat v (wr .i64 (v4 + 1))) : Int).toNat)]), (wr .i64 ((wr .i64 (v4 + 1)) + 1))))))))) (
     chk (inb v4 v.length) (
      chk (decide (v3.length + 1 ≤ maxApp)) (
       rec (v, v1, v2, (v3 ++ [(UInt8.ofNat ((bat v v4) : Int).toNat)]), (wr .i64 (v4 + 1)))))))) (
   kx (.exit 0) (v, v1, v2, v3, v4))
def quoted_px (R : Type) (k : Nat) : Px R := ⟨ttOf ttL, glT, callT [], callQT [], loopT [(3, loopOr k quoted_0_sg (quoted_0))]⟩
theorem quoted_0_eq (R : Type) (k : Nat) : ∀ (fr : List Fr) (rec : quoted_0_V → Option R) (kx : Ex → quoted_0_V → Option R) (v : quoted_0_V), round (quoted_px R k) quoted_0_sg (lp Tryd.f85 0) fr rec kx v = quoted_0 rec kx v
  | fr, rec, kx, (v, v1, v2, v3, v4) => by kernel_rfl
def quoted_body (k : Nat) (x : HV [.str, .int .i64]) : Option (HV [.str, .int .i64]) := match x with
 | (s, i) =>
  iter (fun rec => quoted_0 rec (fun e v => match v with | (_, v6, v7, _, _) => match e with
   | .ret =>
    some (v6, v7)
   | .exit 0 =>
    some ([], (-1))
   | _ => none)) k (s, [], 0, [], i)
theorem quoted_eq (k : Nat) : ∀ (x : HV [.str, .int .i64]), runF (quoted_px _ k) Tryd.f85 [.str, .int .i64] [.str, .int .i64] x some = quoted_body k x
  | (s, i) => by kernel_rfl
theorem quoted_run (k : Nat) : FnOk Tryd.prog elT glT 85 [.str, .int .i64] [.str, .int .i64] (quoted_body k) := by
  refine fnOk_run Tryd.func85 rfl (by kernel_rfl) follows (by kernel_rfl) (n := 1) (by kernel_rfl) (px := quoted_px _ k) (fun cx hP hel hgl => ?_) (quoted_eq k)
  have hp0 : PxOk cx (quoted_px (HV [.str, .int .i64]) k) := ⟨fun t => by rw [hP, hel]; exact tt_ok ttL_ok t, by rw [hgl]; rfl⟩
  have hc0 : CallOk cx (quoted_px (HV [.str, .int .i64]) k) := callT_ok rfl cfs_nil
  have hq0 : CallQOk cx (quoted_px (HV [.str, .int .i64]) k) := callQT_ok rfl cqfs_nil
  have hlquoted_0 : LoopOk cx (quoted_px (HV [.str, .int .i64]) k) (lp Tryd.f85 0) := loop_ok hp0 hc0 hq0 (by rw [hP]; exact follows) (k := k) (s := quoted_0_sg) (step := quoted_0) (fun _ _ => by kernel_rfl) (by kernel_rfl) (quoted_0_eq _ k) (loops_in (n := 0) (by kernel_rfl) all0)
  exact ⟨hp0, hc0, hq0, (allS all0 hlquoted_0)⟩
def quoted (s : Str) (i : Int) : Option (Str × Int) := if 0 ≤ i ∧ i ≤ s.length ∧ s.length ≤ 1000000 then some (Lp.qGo (s.drop i.toNat) [] i) else none
def quoted_F : FT [.str, .int .i64] [.str, .int .i64] := fun x => quoted x.1 x.2
theorem byte_nat (b : UInt8) : UInt8.ofNat ((b.toNat : Int)).toNat = b := by simp
theorem quoted_loop {R : Type} {kx : Ex → quoted_0_V → Option R} {s : Str} {c : Str × Int → Option R} (hs : s.length ≤ 1000000) (h1 : ∀ a j, kx .ret (s, a, j, a, j) = c (a, j)) (h2 : ∀ q r a j, kx (.exit 0) (s, q, r, a, j) = c ([], -1)) : ∀ (k i : Nat) (q : Str) (r : Int) (a : Str), a.length ≤ i → i ≤ s.length → s.length - i < k → iter (fun rec => quoted_0 rec kx) k (s, q, r, a, (i : Int)) = c (Lp.qGo (s.drop (i : Int).toNat) a i)
  | 0, i, q, r, a, _, _, h => absurd h (Nat.not_lt_zero _)
  | k + 1, i, q, r, a, ha, hi, h => by
    rw [iter_s]
    by_cases hl : i < s.length
    · have hln : ln s.length := by simp only [ln]; omega
      have ea : decide (a.length + 1 ≤ maxApp) = true := decide_eq_true (by simp only [maxApp]; omega)
      have eb : Sx.byt s (i : Int) = (s[i].toNat : Int) := bat_nat hl
      simp only [quoted_0, inb_t hl, wr_succ hl hln, bat_nat hl, ea, byte_nat]
      rw [decide_eq_true (show (i : Int) < (s.length : Int) by omega)]
      simp only [cond_t, chk]
      by_cases h39 : (s[i].toNat : Int) = 39
      · rw [decide_eq_true h39, cond_t]
        by_cases he : i + 1 = s.length
        · rw [decide_eq_true (show ((i + 1 : Nat) : Int) = (s.length : Int) by omega), cond_t, h1, Lp.q_last (by omega) (by omega) (eb.trans h39)]
          rfl
        · have hl2 : i + 1 < s.length := by omega
          have eb2 : Sx.byt s ((i : Int) + 1) = (s[i + 1].toNat : Int) := bat_nat hl2
          rw [decide_eq_false (show ¬ ((i + 1 : Nat) : Int) = (s.length : Int) by omega), inb_t hl2, cond_f]
          simp only [cond_t, bat_nat hl2, byte_nat]
          by_cases h3 : (s[i + 1].toNat : Int) = 39
          · have ih := quoted_loop hs h1 h2 k (i + 1 + 1) q r (a ++ [s[i + 1]]) (by simp only [List.length_append, List.length_cons, List.length_nil]; omega) (by omega) (by omega)
            have e39 : s[i + 1] = 39 := by rw [← UInt8.toNat_inj]; exact Int.ofNat.inj h3
            rw [decide_eq_true h3, Lp.q_two (by omega) (by omega) (eb.trans h39) (eb2.trans h3), wr_succ hl2 hln]
            simp only [Bool.not_true, cond_f]
            rw [ih, e39]
            rfl
          · rw [decide_eq_false h3, Lp.q_close (by omega) (by omega) (eb.trans h39) (fun e => h3 (eb2.symm.trans e))]
            simp only [Bool.not_false, cond_t, h1]
            rfl
      · have ih := quoted_loop hs h1 h2 k (i + 1) q r (a ++ [s[i]]) (by simp only [List.length_append, List.length_cons, List.length_nil]; omega) (by omega) (by omega)
        rw [decide_eq_false h39, cond_f, ih, Lp.q_other (by omega) (by omega) (fun e => h39 (eb.symm.trans e))]
        have eg : s.getD (i : Int).toNat 0 = s[i] := by simp [List.getD_eq_getElem?_getD, hl]
        rw [eg]
        rfl
    · simp only [quoted_0, h2]
      rw [decide_eq_false (by omega), Lp.q_end (by omega)]
      rfl
theorem quoted_ok : FnOk Tryd.prog elT glT 85 [.str, .int .i64] [.str, .int .i64] quoted_F := .fin 0 quoted_run fun (s, i) r hb hx => ⟨s.length + 1, by
  simp only [quoted_F, quoted] at hx
  split at hx
  · rename_i h
    rw [← hx]
    obtain ⟨n, rfl⟩ := Int.eq_ofNat_of_zero_le h.1
    simp only [quoted_body]
    exact quoted_loop (c := some) h.2.2 (fun _ _ => rfl) (fun _ _ _ _ => rfl) (s.length + 1) n [] 0 [] (Nat.zero_le _) (by omega) (by omega)
  · cases hx⟩
/-! ## signs -/
/-! ## exchequer/lex.sign -/
def lsign_0_sg : Sig := ⟨19, [(0, .str), (2, .int .i64), (5, .sl .str true), (6, .int .i64), (7, .int .i64)], [], [], 0, 0, 0, [], []⟩
abbrev lsign_0_V := Str × Int × List Str × Int × Int
def lsign_0 {R : Type} (rec : lsign_0_V → Option R) (kx : Ex → lsign_0_V → Option R) (v : lsign_0_V) : Option R := match v with
 | (v, v1, v2, v3, v4) =>
  cond (decide (v4 < v3)) (
   chk (inb v4 v2.length) (
    cond ((hpre v (at' .str v2 v4))) (
     kx .ret (v, 2, v2, v3, v4)) (
     rec (v, v1, v2, v3, (wr .i64 (v4 + 1)))))) (
   kx (.exit 0) (v, v1, v2, v3, v4))
def lsign_px (R : Type) (k : Nat) : Px R := ⟨ttOf ttL, glT, callT [(80, callOr [.str, .str] [.bool] hpre_F), (43, callOr [.str, .int .u8] [.int .i64] sidxb_F)], callQT [], loopT [(2, loopOr k lsign_0_sg (lsign_0))]⟩
theorem lsign_0_eq (R : Type) (k : Nat) : ∀ (fr : List Fr) (rec : lsign_0_V → Option R) (kx : Ex → lsign_0_V → Option R) (v : lsign_0_V), round (lsign_px R k) lsign_0_sg (lp Tryd.f86 0) fr rec kx v = lsign_0 rec kx v
  | fr, rec, kx, (v, v1, v2, v3, v4) => by kernel_rfl
def lsign_body (k : Nat) (x : HV [.str]) : Option (HV [.int .i64]) := match x with
 | s =>
  iter (fun rec => lsign_0 rec (fun e v => match v with | (v5, v6, _, _, _) => match e with
   | .ret =>
    some v6
   | .exit 0 =>
    chk (inb 0 v5.length) (
     cond (decide (0 ≤ (sidxb [40, 41, 44, 42, 61, 60, 62, 43, 45, 59] (bat v5 0)))) (
      some 1) (
      some 0))
   | _ => none)) k (s, 0, [[60, 62], [60, 61], [62, 61]], 3, 0)
theorem lsign_eq (k : Nat) : ∀ (x : HV [.str]), runF (lsign_px _ k) Tryd.f86 [.str] [.int .i64] x some = lsign_body k x
  | s => by kernel_rfl
theorem lsign_run (k : Nat) : FnOk Tryd.prog elT glT 86 [.str] [.int .i64] (lsign_body k) := by
  refine fnOk_run Tryd.func86 rfl (by kernel_rfl) follows (by kernel_rfl) (n := 1) (by kernel_rfl) (px := lsign_px _ k) (fun cx hP hel hgl => ?_) (lsign_eq k)
  have hp0 : PxOk cx (lsign_px (HV [.int .i64]) k) := ⟨fun t => by rw [hP, hel]; exact tt_ok ttL_ok t, by rw [hgl]; rfl⟩
  have hc0 : CallOk cx (lsign_px (HV [.int .i64]) k) := callT_ok rfl (cfs_cons (cf_or (by rw [hP, hel, hgl]; exact hpre_ok) (by kernel_rfl)) (cfs_cons (cf_or (by rw [hP, hel, hgl]; exact sidxb_ok) (by kernel_rfl)) cfs_nil))
  have hq0 : CallQOk cx (lsign_px (HV [.int .i64]) k) := callQT_ok rfl cqfs_nil
  have hllsign_0 : LoopOk cx (lsign_px (HV [.int .i64]) k) (lp Tryd.f86 0) := loop_ok hp0 hc0 hq0 (by rw [hP]; exact follows) (k := k) (s := lsign_0_sg) (step := lsign_0) (fun _ _ => by kernel_rfl) (by kernel_rfl) (lsign_0_eq _ k) (loops_in (n := 0) (by kernel_rfl) all0)
  exact ⟨hp0, hc0, hq0, (allS all0 hllsign_0)⟩
def lsign (s : Str) : Option Int := match s with
  | [] => none
  | _ => some (Lp.signF s)
def lsign_F : FT [.str] [.int .i64] := fun x => lsign x
theorem lsign_ok : FnOk Tryd.prog elT glT 86 [.str] [.int .i64] lsign_F := .fin 0 lsign_run fun s r hb hx => ⟨4, by
  simp only [lsign_F] at hx
  cases s with
  | nil => cases hx
  | cons b l =>
    have hx : some (Lp.signF (b :: l)) = some r := hx
    rw [← hx]
    have e0 : inb 0 (b :: l).length = true := inb_i (by simp only [List.length_cons]; omega)
    have e1 : hpre (b :: l) [60, 62] = Lp.pre (b :: l) [60, 62] := rfl
    have e2 : hpre (b :: l) [60, 61] = Lp.pre (b :: l) [60, 61] := rfl
    have e3 : hpre (b :: l) [62, 61] = Lp.pre (b :: l) [62, 61] := rfl
    have ei : sidxb [40, 41, 44, 42, 61, 60, 62, 43, 45, 59] (bat (b :: l) 0) = Lib.indexByte Lp.signs (Sx.byt (b :: l) 0).toNat.toUInt8 := rfl
    simp only [lsign_body, Lp.signF, ← ei, ← e1, ← e2, ← e3]
    show cond (hpre (b :: l) [60, 62]) (some 2) (cond (hpre (b :: l) [60, 61]) (some 2) (cond (hpre (b :: l) [62, 61]) (some 2) (chk (inb 0 (b :: l).length) (cond (decide (0 ≤ sidxb [40, 41, 44, 42, 61, 60, 62, 43, 45, 59] (bat (b :: l) 0))) (some 1) (some 0))))) = _
    generalize sidxb [40, 41, 44, 42, 61, 60, 62, 43, 45, 59] (bat (b :: l) 0) = z
    rw [e0]
    by_cases hz : 0 ≤ z
    · rw [decide_eq_true hz, if_pos hz]
      cases hpre (b :: l) [60, 62] <;> cases hpre (b :: l) [60, 61] <;> cases hpre (b :: l) [62, 61] <;> rfl
    · rw [decide_eq_false hz, if_neg hz]
      cases hpre (b :: l) [60, 62] <;> cases hpre (b :: l) [60, 61] <;> cases hpre (b :: l) [62, 61] <;> rfl⟩
/-! ## hex -/
/-! ## exchequer/digest.digit -/
def hdigit_px (R : Type) : Px R := ⟨ttOf ttL, glT, callT [], callQT [], loopT []⟩
def hdigit_body (x : HV [.int .u8]) : Option (HV [.int .u8, .bool]) := match x with
 | c =>
  let j := fun (p1 : Bool) =>
   cond (p1) (
    some ((wr .u8 (c - 48)), true)) (
    cond (decide (97 ≤ c)) (
     cond (decide (c ≤ 102)) (
      some ((wr .u8 ((wr .u8 (c - 97)) + 10)), true)) (
      some (0, false))) (
     some (0, false)))
  cond (decide (48 ≤ c)) (
   j (decide (c ≤ 57))) (
   j false)
theorem hdigit_eq : ∀ (x : HV [.int .u8]), runF (hdigit_px _) Tryd.f106 [.int .u8] [.int .u8, .bool] x some = hdigit_body x
  | c => by kernel_rfl
theorem hdigit_run : FnOk Tryd.prog elT glT 106 [.int .u8] [.int .u8, .bool] (hdigit_body) := by
  refine fnOk_run Tryd.func106 rfl (by kernel_rfl) follows (by kernel_rfl) (n := 0) (by kernel_rfl) (px := hdigit_px _) (fun cx hP hel hgl => ?_) (hdigit_eq)
  have hp0 : PxOk cx (hdigit_px (HV [.int .u8, .bool])) := ⟨fun t => by rw [hP, hel]; exact tt_ok ttL_ok t, by rw [hgl]; rfl⟩
  have hc0 : CallOk cx (hdigit_px (HV [.int .u8, .bool])) := callT_ok rfl cfs_nil
  have hq0 : CallQOk cx (hdigit_px (HV [.int .u8, .bool])) := callQT_ok rfl cqfs_nil
  exact ⟨hp0, hc0, hq0, all0⟩
def hdigit (c : Int) : Int × Bool :=
  let j := fun (p1 : Bool) =>
   cond (p1) (
    ((wr .u8 (c - 48)), true)) (
    cond (decide (97 ≤ c)) (
     cond (decide (c ≤ 102)) (
      ((wr .u8 ((wr .u8 (c - 97)) + 10)), true)) (
      (0, false))) (
     (0, false)))
  cond (decide (48 ≤ c)) (
   j (decide (c ≤ 57))) (
   j false)
theorem hdigit_tot (x : HV [.int .u8]) : hdigit_body x = some (hdigit x) := by
  first
    | exact rfl
    | simp only [hdigit_body, hdigit, cond_some]
def hdigit_F : FT [.int .u8] [.int .u8, .bool] := fun x => some (hdigit x)
theorem hdigit_ok : FnOk Tryd.prog elT glT 106 [.int .u8] [.int .u8, .bool] hdigit_F := .fin0 hdigit_run fun x _ _ hx => (hdigit_tot x).trans hx
def hexP (c : Int) : Int × Bool := match Lp.hexD c with
  | some n => (n, true)
  | none => (0, false)
theorem hdigit_all : ((List.range 256).all fun n => decide (hdigit (n : Int) = hexP (n : Int))) = true := by kernel_rfl
theorem hdigit_is (b : UInt8) : hdigit (b.toNat : Int) = hexP (b.toNat : Int) := by
  have h := List.all_eq_true.1 hdigit_all b.toNat (List.mem_range.2 b.toNat_lt)
  exact of_decide_eq_true h
/-! ## exchequer/digest.Unhex -/
def unhex_0_sg : Sig := ⟨49, [(0, .str), (2, .sl .byte true), (3, .int .i64), (4, .sl .byte true), (5, .int .i64)], [], [], 0, 0, 0, [], []⟩
abbrev unhex_0_V := Str × List UInt8 × Int × List UInt8 × Int
def unhex_0 {R : Type} (rec : unhex_0_V → Option R) (kx : Ex → unhex_0_V → Option R) (v : unhex_0_V) : Option R := match v with
 | (v, v1, v2, v3, v4) =>
  cond (decide (v4 < (v.length : Int))) (
   chk (inb v4 v.length) (
    chk (inb (wr .i64 (v4 + 1)) v.length) (
     cond (!((hdigit (bat v v4)).2)) (
      kx .ret (v, [], 11, v3, v4)) (
      cond (!((hdigit (bat v (wr .i64 (v4 + 1)))).2)) (
       kx .ret (v, [], 11, v3, v4)) (
       chk (decide (v3.length + 1 ≤ maxApp)) (
        rec (v, v1, v2, (v3 ++ [(UInt8.ofNat ((ior .u8 (ishl .u8 ((hdigit (bat v v4)).1) 4) ((hdigit (bat v (wr .i64 (v4 + 1)))).1)) : Int).toNat)]), (wr .i64 (v4 + 2))))))))) (
   kx (.exit 0) (v, v1, v2, v3, v4))
def unhex_px (R : Type) (k : Nat) : Px R := ⟨ttOf ttL, glT, callT [(106, callOr [.int .u8] [.int .u8, .bool] hdigit_F)], callQT [], loopT [(5, loopOr k unhex_0_sg (unhex_0))]⟩
theorem unhex_0_eq (R : Type) (k : Nat) : ∀ (fr : List Fr) (rec : unhex_0_V → Option R) (kx : Ex → unhex_0_V → Option R) (v : unhex_0_V), round (unhex_px R k) unhex_0_sg (lp Tryd.f81 0) fr rec kx v = unhex_0 rec kx v
  | fr, rec, kx, (v, v1, v2, v3, v4) => by kernel_rfl
def unhex_body (k : Nat) (x : HV [.str]) : Option (HV [.sl .byte true, .int .i64]) := match x with
 | s =>
  cond (!decide ((Int.tmod (s.length : Int) 2) = 0)) (
   some ([], 11)) (
   iter (fun rec => unhex_0 rec (fun e v => match v with | (_, v6, v7, v8, _) => match e with
    | .ret =>
     some (v6, v7)
    | .exit 0 =>
     some (v8, 0)
    | _ => none)) k (s, [], 0, [], 0))
theorem unhex_eq (k : Nat) : ∀ (x : HV [.str]), runF (unhex_px _ k) Tryd.f81 [.str] [.sl .byte true, .int .i64] x some = unhex_body k x
  | s => by kernel_rfl
theorem unhex_run (k : Nat) : FnOk Tryd.prog elT glT 81 [.str] [.sl .byte true, .int .i64] (unhex_body k) := by
  refine fnOk_run Tryd.func81 rfl (by kernel_rfl) follows (by kernel_rfl) (n := 1) (by kernel_rfl) (px := unhex_px _ k) (fun cx hP hel hgl => ?_) (unhex_eq k)
  have hp0 : PxOk cx (unhex_px (HV [.sl .byte true, .int .i64]) k) := ⟨fun t => by rw [hP, hel]; exact tt_ok ttL_ok t, by rw [hgl]; rfl⟩
  have hc0 : CallOk cx (unhex_px (HV [.sl .byte true, .int .i64]) k) := callT_ok rfl (cfs_cons (cf_or (by rw [hP, hel, hgl]; exact hdigit_ok) (by kernel_rfl)) cfs_nil)
  have hq0 : CallQOk cx (unhex_px (HV [.sl .byte true, .int .i64]) k) := callQT_ok rfl cqfs_nil
  have hlunhex_0 : LoopOk cx (unhex_px (HV [.sl .byte true, .int .i64]) k) (lp Tryd.f81 0) := loop_ok hp0 hc0 hq0 (by rw [hP]; exact follows) (k := k) (s := unhex_0_sg) (step := unhex_0) (fun _ _ => by kernel_rfl) (by kernel_rfl) (unhex_0_eq _ k) (loops_in (n := 0) (by kernel_rfl) all0)
  exact ⟨hp0, hc0, hq0, (allS all0 hlunhex_0)⟩
def unP (s : Str) : Str × Int := match (if s.length % 2 = 0 then Lp.unGo s [] else none) with
  | some b => (b, 0)
  | none => ([], 11)
def unhex (s : Str) : Option (Str × Int) := if s.length ≤ 1000000 then some (unP s) else none
def unhex_F : FT [.str] [.sl .byte true, .int .i64] := fun x => unhex x
theorem unhex_loop {R : Type} {kx : Ex → unhex_0_V → Option R} {s : Str} {c : Option Str → Option R} (hs : s.length ≤ 1000000) (h1 : ∀ a j, kx .ret (s, [], 11, a, j) = c none) (h2 : ∀ q r a j, kx (.exit 0) (s, q, r, a, j) = c (some a)) : ∀ (k i : Nat) (q : Str) (r : Int) (a : Str), a.length ≤ i → i ≤ s.length → (s.length - i) % 2 = 0 → s.length - i < k → iter (fun rec => unhex_0 rec kx) k (s, q, r, a, (i : Int)) = c (Lp.unGo (s.drop (i : Int).toNat) a)
  | 0, i, q, r, a, _, _, _, h => absurd h (Nat.not_lt_zero _)
  | k + 1, i, q, r, a, ha, hi, hev, h => by
    rw [iter_s]
    by_cases hl : i < s.length
    · have hl2 : i + 1 < s.length := by omega
      have hln : ln s.length := by simp only [ln]; omega
      have ea : decide (a.length + 1 ≤ maxApp) = true := decide_eq_true (by simp only [maxApp]; omega)
      have eb : Sx.byt s (i : Int) = (s[i].toNat : Int) := bat_nat hl
      have eb2 : Sx.byt s ((i : Int) + 1) = (s[i + 1].toNat : Int) := bat_nat hl2
      have ew : wr .i64 ((i : Int) + 2) = ((i + 1 + 1 : Nat) : Int) := by rw [wr_id (by simp only [inI]; omega)]; omega
      simp only [unhex_0, inb_t hl, wr_succ hl hln, bat_nat hl, bat_nat hl2, inb_t hl2, ea, ew, hdigit_is]
      rw [decide_eq_true (show (i : Int) < (s.length : Int) by omega), Lp.un_step (by omega) (by omega), eb, eb2]
      simp only [cond_t, chk, hexP]
      cases hx : Lp.hexD (s[i].toNat : Int) with
      | none => exact h1 _ _
      | some x =>
        cases hy : Lp.hexD (s[i + 1].toNat : Int) with
        | none => exact h1 _ _
        | some y =>
          have ih := unhex_loop hs h1 h2 k (i + 1 + 1) q r (a ++ [UInt8.ofNat (x * 16 + y).toNat]) (by simp only [List.length_append, List.length_cons, List.length_nil]; omega) (by omega) (by omega) (by omega)
          have ej : ior .u8 (ishl .u8 x 4) y = _ := Lp.joinhex' (Lp.hexD_lt hx) (Lp.hexD_lt hy)
          simp only [Bool.not_true, cond_f, ej, byte_nat]
          exact ih
    · simp only [unhex_0, h2]
      rw [decide_eq_false (by omega), List.drop_eq_nil_of_le (by omega)]
      rfl
theorem unhex_ok : FnOk Tryd.prog elT glT 81 [.str] [.sl .byte true, .int .i64] unhex_F := .fin 0 unhex_run fun s r hb hx => ⟨s.length + 1, by
  simp only [unhex_F, unhex] at hx
  split at hx
  · rename_i h
    rw [← hx]
    have et : Int.tmod (s.length : Int) 2 = ((s.length % 2 : Nat) : Int) := rfl
    simp only [unhex_body, et, unP]
    by_cases h2 : s.length % 2 = 0
    · rw [decide_eq_true (show ((s.length % 2 : Nat) : Int) = 0 by omega), if_pos h2, Bool.not_true, cond_f]
      refine (unhex_loop (c := fun o => match o with | some b => some (b, (0 : Int)) | none => some ([], 11)) h (fun _ _ => ?_) (fun _ _ _ _ => ?_) (s.length + 1) 0 [] 0 [] (Nat.zero_le _) (Nat.zero_le _) h2 (by omega)).trans ?_
      · rfl
      · rfl
      simp only [Int.toNat_natCast, List.drop_zero]
      cases Lp.unGo s [] <;> rfl
    · rw [decide_eq_false (show ¬ ((s.length % 2 : Nat) : Int) = 0 by omega), if_neg h2]
      rfl
  · cases hx⟩
end Go.Proofs.YtjpcghlpkinahaaDoor

/- Words and names: the lexer's. -/
namespace Go.Proofs.YtjpcghlpkinahaaDoor
open Go.Ax
/-! ## exchequer/lex.Name -/
def lname_0_sg : Sig := ⟨21, [(0, .str), (1, .int .i64)], [(2, .fn 37 [])], [], 40, 40, 200, [], []⟩
abbrev lname_0_V := Str × Int
def lname_0 {R : Type} (rec : lname_0_V → Option R) (kx : Ex → lname_0_V → Option R) (v : lname_0_V) : Option R := match v with
 | (v, v1) =>
  cond (decide (v1 < (v.length : Int))) (
   chk (inb v1 v.length) (
    cond ((inner (bat v v1))) (
     rec (v, (wr .i64 (v1 + 1)))) (
     kx (.exit 0) (v, v1)))) (
   kx (.exit 0) (v, v1))
def lname_pxi0 (R : Type) (k : Nat) : Px R := ⟨ttOf ttL, glT, callT [(37, callOr [.int .u8] [.bool] inner_F)], callQT [], loopT [(1, loopOr k lname_0_sg (lname_0))]⟩
noncomputable def lname_px (R : Type) (k : Nat) : Px R := ⟨ttOf ttL, glT, callT [(35, callOr [.int .u8] [.bool] lower_F), (36, callRun 40 200 (lname_pxi0 R k) Tryd.f36)], callQT [], loopT []⟩
theorem lname_0_eq (R : Type) (k : Nat) : ∀ (fr : List Fr) (rec : lname_0_V → Option R) (kx : Ex → lname_0_V → Option R) (v : lname_0_V), round (lname_pxi0 R k) lname_0_sg (lp Tryd.f36 0) fr rec kx v = lname_0 rec kx v
  | fr, rec, kx, (v, v1) => by kernel_rfl
def lname_body (k : Nat) (x : HV [.str]) : Option (HV [.bool]) := match x with
 | s =>
  let j1 := fun (p : Bool) =>
   let j := fun (p1 : Bool) =>
    cond (p1) (
     iter (fun rec => lname_0 rec (fun e v => match v with | (_, v3) => match e with
      | .exit 0 =>
       some (decide (v3 = (s.length : Int)))
      | _ => none)) k (s, 0)) (
     some false)
   cond (p) (
    chk (inb 0 s.length) (
     j (lower (bat s 0)))) (
    j false)
  cond (!decide (s = [])) (
   j1 (decide ((s.length : Int) ≤ 30))) (
   j1 false)
theorem lname_eq (k : Nat) : ∀ (x : HV [.str]), runF (lname_px _ k) Tryd.f12 [.str] [.bool] x some = lname_body k x
  | s => by kernel_rfl
theorem lname_run (k : Nat) : FnOk Tryd.prog elT glT 12 [.str] [.bool] (lname_body k) := by
  refine fnOk_run Tryd.func12 rfl (by kernel_rfl) follows (by kernel_rfl) (n := 0) (by kernel_rfl) (px := lname_px _ k) (fun cx hP hel hgl => ?_) (lname_eq k)
  have hp1 : PxOk cx (lname_pxi0 (HV [.bool]) k) := ⟨fun t => by rw [hP, hel]; exact tt_ok ttL_ok t, by rw [hgl]; rfl⟩
  have hc1 : CallOk cx (lname_pxi0 (HV [.bool]) k) := callT_ok rfl (cfs_cons (cf_or (by rw [hP, hel, hgl]; exact inner_ok) (by kernel_rfl)) cfs_nil)
  have hq1 : CallQOk cx (lname_pxi0 (HV [.bool]) k) := callQT_ok rfl cqfs_nil
  have hllname_0 : LoopOk cx (lname_pxi0 (HV [.bool]) k) (lp Tryd.f36 0) := loop_ok hp1 hc1 hq1 (by rw [hP]; exact follows) (k := k) (s := lname_0_sg) (step := lname_0) (fun _ _ => by kernel_rfl) (by kernel_rfl) (lname_0_eq _ k) (loops_in (n := 0) (by kernel_rfl) all0)
  have hp0 : PxOk cx (lname_px (HV [.bool]) k) := ⟨fun t => by rw [hP, hel]; exact tt_ok ttL_ok t, by rw [hgl]; rfl⟩
  have hc0 : CallOk cx (lname_px (HV [.bool]) k) := callT_ok rfl (cfs_cons (cf_or (by rw [hP, hel, hgl]; exact lower_ok) (by kernel_rfl)) (cfs_cons (cf_run hp1 hc1 hq1 (by rw [hP]; exact follows) (by rw [hP]; exact Tryd.func36) rfl (by kernel_rfl) (by kernel_rfl) (n := 1) (by kernel_rfl) ((allS all0 hllname_0))) cfs_nil))
  have hq0 : CallQOk cx (lname_px (HV [.bool]) k) := callQT_ok rfl cqfs_nil
  exact ⟨hp0, hc0, hq0, all0⟩
abbrev lname (s : Str) : Bool := Lp.nameF s
def lname_F : FT [.str] [.bool] := fun x => some (lname x)
theorem lname_0_loop {R : Type} {kx : Ex → lname_0_V → Option R} {s : Str}  {a : Int → Option R} (hs : ln s.length) (h1 : ∀ j, kx (.exit 0) (s, j) = a j) : ∀ (k i : Nat), i ≤ s.length → s.length - i < k → iter (fun rec => lname_0 rec kx) k (s, (i : Int)) = a (Lp.runTo Lp.isIn s i)
  | 0, i, _, h => absurd h (Nat.not_lt_zero _)
  | k + 1, i, hi, h => by
    rw [iter_s]
    by_cases hl : i < s.length
    · have ih := lname_0_loop  hs h1 k (i + 1) (by omega) (by omega)
      have eb : Sx.byt s (i : Int) = (s[i].toNat : Int) := bat_nat hl
      simp only [lname_0, wr_succ hl hs, ih, h1, bat_nat hl, inb_t hl, inner_is]
      rw [decide_eq_true (show (i : Int) < (s.length : Int) by omega)]
      cases hp : Lp.isIn (s[i].toNat : Int) with
      | true =>
        have := Lp.runTo_yes (p := Lp.isIn) (l := s) (j := i) (by omega) (by rw [eb]; exact hp)
        rw [← this]
        rfl
      | false =>
        have := Lp.runTo_no (p := Lp.isIn) (l := s) (j := i) (by omega) (by rw [eb]; exact hp)
        rw [this]
        rfl
    · have := Lp.runTo_end (p := Lp.isIn) (l := s) (j := i) (by omega)
      simp only [lname_0, h1]
      rw [decide_eq_false (by omega), this]
      rfl
theorem lname_ok : FnOk Tryd.prog elT glT 12 [.str] [.bool] lname_F := .fin 0 lname_run fun s r hb hx => ⟨s.length + 1, by
  simp only [lname_F, Option.some.injEq] at hx
  rw [← hx]
  simp only [lname_body, lname, Lp.nameF]
  by_cases he : s = []
  · rw [decide_eq_true he]; rfl
  · rw [decide_eq_false he]
    simp only [Bool.not_false, cond_t, Bool.true_and]
    by_cases h30 : (s.length : Int) ≤ 30
    · have hp : 0 < s.length := List.length_pos_iff.2 he
      rw [decide_eq_true h30, inb_i (by omega), lower_is]
      simp only [chk, cond_t, Bool.true_and]
      have eb : bat s 0 = Sx.byt s 0 := rfl
      rw [eb]
      cases Lp.isLo (Sx.byt s 0) with
      | false => rfl
      | true =>
        simp only [cond_t, Bool.true_and]
        exact lname_0_loop (s := s) (a := fun j => some (decide (j = (s.length : Int)))) hb (fun _ => rfl) (s.length + 1) 0 (Nat.zero_le _) (by omega)
    · rw [decide_eq_false h30]
      rfl⟩
/-! ## words -/
/-! ## slices.Index[[]string,string] -/
def sidx_0_sg : Sig := ⟨19, [(0, .sl .str false), (1, .str), (4, .int .i64), (7, .int .i64), (8, .int .i64)], [], [], 0, 0, 0, [], []⟩
abbrev sidx_0_V := List Str × Str × Int × Int × Int
def sidx_0 {R : Type} (rec : sidx_0_V → Option R) (kx : Ex → sidx_0_V → Option R) (v : sidx_0_V) : Option R := match v with
 | (v, v1, v2, v3, v4) =>
  cond (decide (v4 < v3)) (
   chk (inb v4 v.length) (
    cond (decide (v1 = (at' .str v v4))) (
     kx .ret (v, v1, v4, v3, v4)) (
     rec (v, v1, v2, v3, (wr .i64 (v4 + 1)))))) (
   kx (.exit 0) (v, v1, v2, v3, v4))
def sidx_px (R : Type) (k : Nat) : Px R := ⟨ttOf ttL, glT, callT [], callQT [], loopT [(2, loopOr k sidx_0_sg (sidx_0))]⟩
theorem sidx_0_eq (R : Type) (k : Nat) : ∀ (fr : List Fr) (rec : sidx_0_V → Option R) (kx : Ex → sidx_0_V → Option R) (v : sidx_0_V), round (sidx_px R k) sidx_0_sg (lp Tryd.f74 0) fr rec kx v = sidx_0 rec kx v
  | fr, rec, kx, (v, v1, v2, v3, v4) => by kernel_rfl
def sidx_body (k : Nat) (x : HV [.sl .str false, .str]) : Option (HV [.int .i64]) := match x with
 | (l, s) =>
  iter (fun rec => sidx_0 rec (fun e v => match v with | (_, _, v7, _, _) => match e with
   | .ret =>
    some v7
   | .exit 0 =>
    some (-1)
   | _ => none)) k (l, s, 0, (l.length : Int), 0)
theorem sidx_eq (k : Nat) : ∀ (x : HV [.sl .str false, .str]), runF (sidx_px _ k) Tryd.f74 [.sl .str false, .str] [.int .i64] x some = sidx_body k x
  | (l, s) => by kernel_rfl
theorem sidx_run (k : Nat) : FnOk Tryd.prog elT glT 74 [.sl .str false, .str] [.int .i64] (sidx_body k) := by
  refine fnOk_run Tryd.func74 rfl (by kernel_rfl) follows (by kernel_rfl) (n := 1) (by kernel_rfl) (px := sidx_px _ k) (fun cx hP hel hgl => ?_) (sidx_eq k)
  have hp0 : PxOk cx (sidx_px (HV [.int .i64]) k) := ⟨fun t => by rw [hP, hel]; exact tt_ok ttL_ok t, by rw [hgl]; rfl⟩
  have hc0 : CallOk cx (sidx_px (HV [.int .i64]) k) := callT_ok rfl cfs_nil
  have hq0 : CallQOk cx (sidx_px (HV [.int .i64]) k) := callQT_ok rfl cqfs_nil
  have hlsidx_0 : LoopOk cx (sidx_px (HV [.int .i64]) k) (lp Tryd.f74 0) := loop_ok hp0 hc0 hq0 (by rw [hP]; exact follows) (k := k) (s := sidx_0_sg) (step := sidx_0) (fun _ _ => by kernel_rfl) (by kernel_rfl) (sidx_0_eq _ k) (loops_in (n := 0) (by kernel_rfl) all0)
  exact ⟨hp0, hc0, hq0, (allS all0 hlsidx_0)⟩
def sidx (l : List Str) (s : Str) : Int := Lp.idx s l 0
def sidx_F : FT [.sl .str false, .str] [.int .i64] := fun x => some (sidx x.1 x.2)
theorem sidx_loop {R : Type} {kx : Ex → sidx_0_V → Option R} {l : List Str} {s : Str} {c : Int → Option R} (hl : ln l.length) (h1 : ∀ (r : Int) (i : Int), kx .ret (l, s, r, (l.length : Int), i) = c r) (h2 : ∀ q : Int, kx (.exit 0) (l, s, q, (l.length : Int), (l.length : Int)) = c (-1)) :
    ∀ (k i : Nat) (q : Int), i ≤ l.length → l.length - i < k → iter (fun rec => sidx_0 rec kx) k (l, s, q, (l.length : Int), (i : Int)) = c (Lp.idx s (l.drop i) i)
  | 0, i, _, _, h => absurd h (Nat.not_lt_zero _)
  | k + 1, i, q, hi, h => by
    rw [iter_s]
    by_cases hlt : i < l.length
    · have ih := sidx_loop hl h1 h2 k (i + 1) q (by omega) (by omega)
      have e1 : decide ((i : Int) < (l.length : Int)) = true := decide_eq_true (by omega)
      have en : ((i + 1 : Nat) : Int) = (i : Int) + 1 := by omega
      simp only [sidx_0, e1, cond_t, inb_t hlt, chk, at_nat (c := .str) hlt, wr_succ hlt hl, ih, h1]
      rw [drop_cons hlt, Lp.idx, en]
      by_cases hx : s = l[i]
      · rw [decide_eq_true hx, if_pos hx, cond_t]
      · rw [decide_eq_false hx, if_neg hx, cond_f]
    · have hi : i = l.length := by omega
      subst hi
      simp only [sidx_0, decide_eq_false (show ¬ ((l.length : Nat) : Int) < (l.length : Int) by omega), cond_f, h2, List.drop_length, Lp.idx]
theorem sidx_ok : FnOk Tryd.prog elT glT 74 [.sl .str false, .str] [.int .i64] sidx_F := .fin 0 sidx_run fun (l, s) r hb hx => ⟨l.length + 1, by
  simp only [sidx_F, Option.some.injEq] at hx
  rw [← hx]
  simp only [sidx_body]
  exact sidx_loop (c := fun q => some q) hb.1.1 (fun _ _ => rfl) (fun _ => rfl) (l.length + 1) 0 0 (Nat.zero_le _) (by omega)⟩
/-! ## slices.Contains[[]string,string] -/
def shas_px (R : Type) : Px R := ⟨ttOf ttL, glT, callT [(74, callOr [.sl .str false, .str] [.int .i64] sidx_F)], callQT [], loopT []⟩
def shas_body (x : HV [.sl .str false, .str]) : Option (HV [.bool]) := match x with
 | (l, s) =>
  some (decide (0 ≤ (sidx l s)))
theorem shas_eq : ∀ (x : HV [.sl .str false, .str]), runF (shas_px _) Tryd.f34 [.sl .str false, .str] [.bool] x some = shas_body x
  | (l, s) => by kernel_rfl
theorem shas_run : FnOk Tryd.prog elT glT 34 [.sl .str false, .str] [.bool] (shas_body) := by
  refine fnOk_run Tryd.func34 rfl (by kernel_rfl) follows (by kernel_rfl) (n := 0) (by kernel_rfl) (px := shas_px _) (fun cx hP hel hgl => ?_) (shas_eq)
  have hp0 : PxOk cx (shas_px (HV [.bool])) := ⟨fun t => by rw [hP, hel]; exact tt_ok ttL_ok t, by rw [hgl]; rfl⟩
  have hc0 : CallOk cx (shas_px (HV [.bool])) := callT_ok rfl (cfs_cons (cf_or (by rw [hP, hel, hgl]; exact sidx_ok) (by kernel_rfl)) cfs_nil)
  have hq0 : CallQOk cx (shas_px (HV [.bool])) := callQT_ok rfl cqfs_nil
  exact ⟨hp0, hc0, hq0, all0⟩
def shas (l : List Str) (s : Str) : Bool :=
  (decide (0 ≤ (sidx l s)))
theorem shas_tot (x : HV [.sl .str false, .str]) : shas_body x = some (shas x.1 x.2) := by
  first
    | exact rfl
    | simp only [shas_body, shas, cond_some]
def shas_F : FT [.sl .str false, .str] [.bool] := fun x => some (shas x.1 x.2)
theorem shas_ok : FnOk Tryd.prog elT glT 34 [.sl .str false, .str] [.bool] shas_F := .fin0 shas_run fun x _ _ hx => (shas_tot x).trans hx
theorem shas_is (l : List Str) (s : Str) : shas l s = l.contains s := by
  have e : shas l s = decide (0 ≤ Lp.idx s l 0) := rfl
  rw [e, Bool.eq_iff_iff, decide_eq_true_eq, Lp.idx_ge s l 0 (Int.le_refl 0)]
  simp
/-! ## exchequer/lex.Word -/
def lword_px (R : Type) : Px R := ⟨ttOf ttL, glT, callT [(34, callOr [.sl .str false, .str] [.bool] shas_F)], callQT [], loopT []⟩
def lword_body (x : HV [.str]) : Option (HV [.bool]) := match x with
 | s =>
  some (shas wordsL s)
theorem lword_eq : ∀ (x : HV [.str]), runF (lword_px _) Tryd.f11 [.str] [.bool] x some = lword_body x
  | s => by kernel_rfl
theorem lword_run : FnOk Tryd.prog elT glT 11 [.str] [.bool] (lword_body) := by
  refine fnOk_run Tryd.func11 rfl (by kernel_rfl) follows (by kernel_rfl) (n := 0) (by kernel_rfl) (px := lword_px _) (fun cx hP hel hgl => ?_) (lword_eq)
  have hp0 : PxOk cx (lword_px (HV [.bool])) := ⟨fun t => by rw [hP, hel]; exact tt_ok ttL_ok t, by rw [hgl]; rfl⟩
  have hc0 : CallOk cx (lword_px (HV [.bool])) := callT_ok rfl (cfs_cons (cf_or (by rw [hP, hel, hgl]; exact shas_ok) (by kernel_rfl)) cfs_nil)
  have hq0 : CallQOk cx (lword_px (HV [.bool])) := callQT_ok rfl cqfs_nil
  exact ⟨hp0, hc0, hq0, all0⟩
def lword (s : Str) : Bool :=
  (shas wordsL s)
theorem lword_tot (x : HV [.str]) : lword_body x = some (lword x) := by
  first
    | exact rfl
    | simp only [lword_body, lword, cond_some]
def lword_F : FT [.str] [.bool] := fun x => some (lword x)
theorem lword_ok : FnOk Tryd.prog elT glT 11 [.str] [.bool] lword_F := .fin0 lword_run fun x _ _ hx => (lword_tot x).trans hx
theorem lword_is (s : Str) : lword s = Lp.wordF s := shas_is wordsL s
end Go.Proofs.YtjpcghlpkinahaaDoor

/- Tokens: the lexer's. -/
namespace Go.Proofs.YtjpcghlpkinahaaDoor
open Go.Ax
/-! ## exchequer/lex.token -/
def ltoken_2_sg : Sig := ⟨21, [(0, .str), (1, .int .i64)], [(2, .fn 75 [])], [(0, .one (.sv .tok)), (1, .one (.sv .tok))], 40, 40, 200, [], []⟩
abbrev ltoken_2_V := Str × Int × Tok × Tok
def ltoken_2 {R : Type} (rec : ltoken_2_V → Option R) (kx : Ex → ltoken_2_V → Option R) (v : ltoken_2_V) : Option R := match v with
 | (v12, v13, w4, w5) =>
  cond (decide (v13 < (v12.length : Int))) (
   chk (inb v13 v12.length) (
    cond ((digit (bat v12 v13))) (
     rec (v12, (wr .i64 (v13 + 1)), w4, w5)) (
     kx (.exit 0) (v12, v13, w4, w5)))) (
   kx (.exit 0) (v12, v13, w4, w5))
def ltoken_1_sg : Sig := ⟨21, [(0, .str), (1, .int .i64)], [(2, .fn 37 [])], [(0, .one (.sv .tok)), (1, .one (.sv .tok))], 40, 40, 200, [], []⟩
abbrev ltoken_1_V := Str × Int × Tok × Tok
def ltoken_1 {R : Type} (rec : ltoken_1_V → Option R) (kx : Ex → ltoken_1_V → Option R) (v : ltoken_1_V) : Option R := match v with
 | (v6, v7, w2, w3) =>
  cond (decide (v7 < (v6.length : Int))) (
   chk (inb v7 v6.length) (
    cond ((inner (bat v6 v7))) (
     rec (v6, (wr .i64 (v7 + 1)), w2, w3)) (
     kx (.exit 0) (v6, v7, w2, w3)))) (
   kx (.exit 0) (v6, v7, w2, w3))
def ltoken_0_sg : Sig := ⟨21, [(0, .str), (1, .int .i64)], [(2, .fn 82 [])], [(0, .one (.sv .tok)), (1, .one (.sv .tok))], 40, 40, 200, [], []⟩
abbrev ltoken_0_V := Str × Int × Tok × Tok
def ltoken_0 {R : Type} (rec : ltoken_0_V → Option R) (kx : Ex → ltoken_0_V → Option R) (v : ltoken_0_V) : Option R := match v with
 | (v, v1, w, w1) =>
  cond (decide (v1 < (v.length : Int))) (
   chk (inb v1 v.length) (
    cond ((upper (bat v v1))) (
     rec (v, (wr .i64 (v1 + 1)), w, w1)) (
     kx (.exit 0) (v, v1, w, w1)))) (
   kx (.exit 0) (v, v1, w, w1))
def ltoken_pxi0 (R : Type) (k : Nat) : Px R := ⟨ttOf ttL, glT, callT [(82, callOr [.int .u8] [.bool] upper_F), (37, callOr [.int .u8] [.bool] inner_F), (75, callOr [.int .u8] [.bool] digit_F)], callQT [], loopT [(1, loopTry k ltoken_0_sg (ltoken_0) (loopTry k ltoken_1_sg (ltoken_1) (loopOr k ltoken_2_sg (ltoken_2))))]⟩
noncomputable def ltoken_px (R : Type) (k : Nat) : Px R := ⟨ttOf ttL, glT, callT [(80, callOr [.str, .str] [.bool] hpre_F), (43, callOr [.str, .int .u8] [.int .i64] sidxb_F), (81, callOr [.str] [.sl .byte true, .int .i64] unhex_F), (82, callOr [.int .u8] [.bool] upper_F), (11, callOr [.str] [.bool] lword_F), (83, callOr [.str, .int .i64] [.bool] alone_F), (35, callOr [.int .u8] [.bool] lower_F), (12, callOr [.str] [.bool] lname_F), (75, callOr [.int .u8] [.bool] digit_F), (84, callOr [.str] [.int .i64, .bool] number_F), (85, callOr [.str, .int .i64] [.str, .int .i64] quoted_F), (17, callOr [.sv .val] [.int .i64] vcheck_F), (86, callOr [.str] [.int .i64] lsign_F), (36, callRun 40 200 (ltoken_pxi0 R k) Tryd.f36)], callQT [], loopT []⟩
theorem ltoken_0_eq (R : Type) (k : Nat) : ∀ (fr : List Fr) (rec : ltoken_0_V → Option R) (kx : Ex → ltoken_0_V → Option R) (v : ltoken_0_V), round (ltoken_pxi0 R k) ltoken_0_sg (lp Tryd.f36 0) fr rec kx v = ltoken_0 rec kx v
  | fr, rec, kx, (v, v1, w, w1) => by kernel_rfl
theorem ltoken_1_eq (R : Type) (k : Nat) : ∀ (fr : List Fr) (rec : ltoken_1_V → Option R) (kx : Ex → ltoken_1_V → Option R) (v : ltoken_1_V), round (ltoken_pxi0 R k) ltoken_1_sg (lp Tryd.f36 0) fr rec kx v = ltoken_1 rec kx v
  | fr, rec, kx, (v6, v7, w2, w3) => by kernel_rfl
theorem ltoken_2_eq (R : Type) (k : Nat) : ∀ (fr : List Fr) (rec : ltoken_2_V → Option R) (kx : Ex → ltoken_2_V → Option R) (v : ltoken_2_V), round (ltoken_pxi0 R k) ltoken_2_sg (lp Tryd.f36 0) fr rec kx v = ltoken_2 rec kx v
  | fr, rec, kx, (v12, v13, w4, w5) => by kernel_rfl
def ltoken_body (k : Nat) (x : HV [.str, .int .i64]) : Option (HV [.sv .tok, .int .i64]) := match x with
 | (s, i) =>
  chk (inb i s.length) (
   chk (upto i s.length s.length) (
    cond ((hpre (s.drop (i : Int).toNat) [120, 39])) (
     chk (upto (wr .i64 (i + 2)) s.length s.length) (
      cond (decide ((sidxb (s.drop ((wr .i64 (i + 2)) : Int).toNat) 39) < 0)) (
       some ((Tok.mk 0 i [] 0), (-1))) (
       chk (upto (wr .i64 (i + 2)) (wr .i64 ((wr .i64 (i + 2)) + (sidxb (s.drop ((wr .i64 (i + 2)) : Int).toNat) 39))) s.length) (
        (unhex (cut s (wr .i64 (i + 2)) (wr .i64 ((wr .i64 (i + 2)) + (sidxb (s.drop ((wr .i64 (i + 2)) : Int).toNat) 39))))).bind fun (x, x1) =>
         cond (!decide (x1 = 0)) (
          some ((Tok.mk 5 i x 0), (-1))) (
          cond (decide (1000 < (x.length : Int))) (
           some ((Tok.mk 5 i x 0), (-1))) (
           some ((Tok.mk 5 i x 0), (wr .i64 ((wr .i64 (i + 3)) + (sidxb (s.drop ((wr .i64 (i + 2)) : Int).toNat) 39)))))))))) (
     cond ((upper (bat s i))) (
      iter (fun rec => ltoken_0 rec (fun e v => match v with | (_, v3, _, v5) => match e with
       | .exit 0 =>
        chk (upto i v3 s.length) (
         cond (!(lword (cut s i v3))) (
          some ((Tok.mk 1 v5.pos (cut s i v3) v5.n), (-1))) (
          (alone s v3).bind fun x2 =>
           cond (!x2) (
            some ((Tok.mk 1 v5.pos (cut s i v3) v5.n), (-1))) (
            some ((Tok.mk 1 v5.pos (cut s i v3) v5.n), v3))))
       | _ => none)) k (s, i, (Tok.mk 0 0 [] 0), (Tok.mk 0 i [] 0))) (
      cond ((lower (bat s i))) (
       iter (fun rec => ltoken_1 rec (fun e v => match v with | (_, v9, _, v11) => match e with
        | .exit 0 =>
         chk (upto i v9 s.length) (
          cond (!(lname (cut s i v9))) (
           some ((Tok.mk 2 v11.pos (cut s i v9) v11.n), (-1))) (
           (alone s v9).bind fun x3 =>
            cond (!x3) (
             some ((Tok.mk 2 v11.pos (cut s i v9) v11.n), (-1))) (
             some ((Tok.mk 2 v11.pos (cut s i v9) v11.n), v9))))
        | _ => none)) k (s, i, (Tok.mk 0 0 [] 0), (Tok.mk 0 i [] 0))) (
       cond ((digit (bat s i))) (
        iter (fun rec => ltoken_2 rec (fun e v => match v with | (_, v15, _, v17) => match e with
         | .exit 0 =>
          chk (upto i v15 s.length) (
           (number (cut s i v15)).bind fun (x4, x5) =>
            chk (upto i v15 s.length) (
             cond (!x5) (
              some ((Tok.mk 3 v17.pos (cut s i v15) x4), (-1))) (
              (alone s v15).bind fun x6 =>
               cond (!x6) (
                some ((Tok.mk 3 v17.pos (cut s i v15) x4), (-1))) (
                some ((Tok.mk 3 v17.pos (cut s i v15) x4), v15)))))
         | _ => none)) k (s, i, (Tok.mk 0 0 [] 0), (Tok.mk 0 i [] 0))) (
        cond (decide ((bat s i) = 39)) (
         (quoted s (wr .i64 (i + 1))).bind fun (x7, x8) =>
          cond (!decide ((vcheck (Val.mk 4 0 x7)) = 0)) (
           some ((Tok.mk 4 i x7 0), (-1))) (
           some ((Tok.mk 4 i x7 0), x8))) (
         chk (upto i s.length s.length) (
          (lsign (s.drop (i : Int).toNat)).bind fun x9 =>
           chk (upto i (wr .i64 (i + x9)) s.length) (
            cond (decide (x9 = 0)) (
             some ((Tok.mk 6 i (cut s i (wr .i64 (i + x9))) 0), (-1))) (
             some ((Tok.mk 6 i (cut s i (wr .i64 (i + x9))) 0), (wr .i64 (i + x9)))))))))))))
theorem ltoken_eq (k : Nat) : ∀ (x : HV [.str, .int .i64]), runF (ltoken_px _ k) Tryd.f44 [.str, .int .i64] [.sv .tok, .int .i64] x some = ltoken_body k x
  | (s, i) => by kernel_rfl
theorem ltoken_run (k : Nat) : FnOk Tryd.prog elT glT 44 [.str, .int .i64] [.sv .tok, .int .i64] (ltoken_body k) := by
  refine fnOk_run Tryd.func44 rfl (by kernel_rfl) follows (by kernel_rfl) (n := 0) (by kernel_rfl) (px := ltoken_px _ k) (fun cx hP hel hgl => ?_) (ltoken_eq k)
  have hp1 : PxOk cx (ltoken_pxi0 (HV [.sv .tok, .int .i64]) k) := ⟨fun t => by rw [hP, hel]; exact tt_ok ttL_ok t, by rw [hgl]; rfl⟩
  have hc1 : CallOk cx (ltoken_pxi0 (HV [.sv .tok, .int .i64]) k) := callT_ok rfl (cfs_cons (cf_or (by rw [hP, hel, hgl]; exact upper_ok) (by kernel_rfl)) (cfs_cons (cf_or (by rw [hP, hel, hgl]; exact inner_ok) (by kernel_rfl)) (cfs_cons (cf_or (by rw [hP, hel, hgl]; exact digit_ok) (by kernel_rfl)) cfs_nil)))
  have hq1 : CallQOk cx (ltoken_pxi0 (HV [.sv .tok, .int .i64]) k) := callQT_ok rfl cqfs_nil
  have hlltoken_0 : LoopOk cx (ltoken_pxi0 (HV [.sv .tok, .int .i64]) k) (lp Tryd.f36 0) := loop_of (fun _ _ => by kernel_rfl) (loopW_try (loopW_or hp1 hc1 hq1 (by rw [hP]; exact follows) (k := k) (s := ltoken_0_sg) (step := ltoken_0) (by kernel_rfl) (ltoken_0_eq _ k) (loops_in (n := 0) (by kernel_rfl) all0)) (loopW_try (loopW_or hp1 hc1 hq1 (by rw [hP]; exact follows) (k := k) (s := ltoken_1_sg) (step := ltoken_1) (by kernel_rfl) (ltoken_1_eq _ k) (loops_in (n := 0) (by kernel_rfl) all0)) (loopW_or hp1 hc1 hq1 (by rw [hP]; exact follows) (k := k) (s := ltoken_2_sg) (step := ltoken_2) (by kernel_rfl) (ltoken_2_eq _ k) (loops_in (n := 0) (by kernel_rfl) all0))))
  have hp0 : PxOk cx (ltoken_px (HV [.sv .tok, .int .i64]) k) := ⟨fun t => by rw [hP, hel]; exact tt_ok ttL_ok t, by rw [hgl]; rfl⟩
  have hc0 : CallOk cx (ltoken_px (HV [.sv .tok, .int .i64]) k) := callT_ok rfl (cfs_cons (cf_or (by rw [hP, hel, hgl]; exact hpre_ok) (by kernel_rfl)) (cfs_cons (cf_or (by rw [hP, hel, hgl]; exact sidxb_ok) (by kernel_rfl)) (cfs_cons (cf_or (by rw [hP, hel, hgl]; exact unhex_ok) (by kernel_rfl)) (cfs_cons (cf_or (by rw [hP, hel, hgl]; exact upper_ok) (by kernel_rfl)) (cfs_cons (cf_or (by rw [hP, hel, hgl]; exact lword_ok) (by kernel_rfl)) (cfs_cons (cf_or (by rw [hP, hel, hgl]; exact alone_ok) (by kernel_rfl)) (cfs_cons (cf_or (by rw [hP, hel, hgl]; exact lower_ok) (by kernel_rfl)) (cfs_cons (cf_or (by rw [hP, hel, hgl]; exact lname_ok) (by kernel_rfl)) (cfs_cons (cf_or (by rw [hP, hel, hgl]; exact digit_ok) (by kernel_rfl)) (cfs_cons (cf_or (by rw [hP, hel, hgl]; exact number_ok) (by kernel_rfl)) (cfs_cons (cf_or (by rw [hP, hel, hgl]; exact quoted_ok) (by kernel_rfl)) (cfs_cons (cf_or (by rw [hP, hel, hgl]; exact vcheck_ok) (by kernel_rfl)) (cfs_cons (cf_or (by rw [hP, hel, hgl]; exact lsign_ok) (by kernel_rfl)) (cfs_cons (cf_run hp1 hc1 hq1 (by rw [hP]; exact follows) (by rw [hP]; exact Tryd.func36) rfl (by kernel_rfl) (by kernel_rfl) (n := 1) (by kernel_rfl) ((allS all0 hlltoken_0))) cfs_nil))))))))))))))
  have hq0 : CallQOk cx (ltoken_px (HV [.sv .tok, .int .i64]) k) := callQT_ok rfl cqfs_nil
  exact ⟨hp0, hc0, hq0, all0⟩
def ltoken (s : Str) (i : Int) : Option (Tok × Int) := if s.length ≤ 20000 then ltoken_body 20001 (s, i) else none
def ltoken_F : FT [.str, .int .i64] [.sv .tok, .int .i64] := fun x => ltoken x.1 x.2
theorem ltoken_ok : FnOk Tryd.prog elT glT 44 [.str, .int .i64] [.sv .tok, .int .i64] ltoken_F := .fin 0 ltoken_run fun (s, i) r hb hx => ⟨20001, by
  simp only [ltoken_F, ltoken] at hx
  split at hx
  · exact hx
  · cases hx⟩
theorem ltoken_0_loop {R : Type} {kx : Ex → ltoken_0_V → Option R} {s : Str} (w w1 : Tok) {a : Int → Option R} (hs : ln s.length) (h1 : ∀ j, kx (.exit 0) (s, j, w, w1) = a j) : ∀ (k i : Nat), i ≤ s.length → s.length - i < k → iter (fun rec => ltoken_0 rec kx) k (s, (i : Int), w, w1) = a (Lp.runTo Lp.isUp s i)
  | 0, i, _, h => absurd h (Nat.not_lt_zero _)
  | k + 1, i, hi, h => by
    rw [iter_s]
    by_cases hl : i < s.length
    · have ih := ltoken_0_loop w w1 hs h1 k (i + 1) (by omega) (by omega)
      have eb : Sx.byt s (i : Int) = (s[i].toNat : Int) := bat_nat hl
      simp only [ltoken_0, wr_succ hl hs, ih, h1, bat_nat hl, inb_t hl, upper_is]
      rw [decide_eq_true (show (i : Int) < (s.length : Int) by omega)]
      cases hp : Lp.isUp (s[i].toNat : Int) with
      | true =>
        have := Lp.runTo_yes (p := Lp.isUp) (l := s) (j := i) (by omega) (by rw [eb]; exact hp)
        rw [← this]
        rfl
      | false =>
        have := Lp.runTo_no (p := Lp.isUp) (l := s) (j := i) (by omega) (by rw [eb]; exact hp)
        rw [this]
        rfl
    · have := Lp.runTo_end (p := Lp.isUp) (l := s) (j := i) (by omega)
      simp only [ltoken_0, h1]
      rw [decide_eq_false (by omega), this]
      rfl
theorem ltoken_1_loop {R : Type} {kx : Ex → ltoken_1_V → Option R} {s : Str} (w w1 : Tok) {a : Int → Option R} (hs : ln s.length) (h1 : ∀ j, kx (.exit 0) (s, j, w, w1) = a j) : ∀ (k i : Nat), i ≤ s.length → s.length - i < k → iter (fun rec => ltoken_1 rec kx) k (s, (i : Int), w, w1) = a (Lp.runTo Lp.isIn s i)
  | 0, i, _, h => absurd h (Nat.not_lt_zero _)
  | k + 1, i, hi, h => by
    rw [iter_s]
    by_cases hl : i < s.length
    · have ih := ltoken_1_loop w w1 hs h1 k (i + 1) (by omega) (by omega)
      have eb : Sx.byt s (i : Int) = (s[i].toNat : Int) := bat_nat hl
      simp only [ltoken_1, wr_succ hl hs, ih, h1, bat_nat hl, inb_t hl, inner_is]
      rw [decide_eq_true (show (i : Int) < (s.length : Int) by omega)]
      cases hp : Lp.isIn (s[i].toNat : Int) with
      | true =>
        have := Lp.runTo_yes (p := Lp.isIn) (l := s) (j := i) (by omega) (by rw [eb]; exact hp)
        rw [← this]
        rfl
      | false =>
        have := Lp.runTo_no (p := Lp.isIn) (l := s) (j := i) (by omega) (by rw [eb]; exact hp)
        rw [this]
        rfl
    · have := Lp.runTo_end (p := Lp.isIn) (l := s) (j := i) (by omega)
      simp only [ltoken_1, h1]
      rw [decide_eq_false (by omega), this]
      rfl
theorem ltoken_2_loop {R : Type} {kx : Ex → ltoken_2_V → Option R} {s : Str} (w w1 : Tok) {a : Int → Option R} (hs : ln s.length) (h1 : ∀ j, kx (.exit 0) (s, j, w, w1) = a j) : ∀ (k i : Nat), i ≤ s.length → s.length - i < k → iter (fun rec => ltoken_2 rec kx) k (s, (i : Int), w, w1) = a (Lp.runTo Lp.isDi s i)
  | 0, i, _, h => absurd h (Nat.not_lt_zero _)
  | k + 1, i, hi, h => by
    rw [iter_s]
    by_cases hl : i < s.length
    · have ih := ltoken_2_loop w w1 hs h1 k (i + 1) (by omega) (by omega)
      have eb : Sx.byt s (i : Int) = (s[i].toNat : Int) := bat_nat hl
      simp only [ltoken_2, wr_succ hl hs, ih, h1, bat_nat hl, inb_t hl, digit_is]
      rw [decide_eq_true (show (i : Int) < (s.length : Int) by omega)]
      cases hp : Lp.isDi (s[i].toNat : Int) with
      | true =>
        have := Lp.runTo_yes (p := Lp.isDi) (l := s) (j := i) (by omega) (by rw [eb]; exact hp)
        rw [← this]
        rfl
      | false =>
        have := Lp.runTo_no (p := Lp.isDi) (l := s) (j := i) (by omega) (by rw [eb]; exact hp)
        rw [this]
        rfl
    · have := Lp.runTo_end (p := Lp.isDi) (l := s) (j := i) (by omega)
      simp only [ltoken_2, h1]
      rw [decide_eq_false (by omega), this]
      rfl
theorem upto_i {i j : Int} {n : Nat} (h : 0 ≤ i ∧ i ≤ j ∧ j ≤ n) : upto i j n = true := by simp [upto, h]
theorem wr_i {n : Int} (h : 0 ≤ n ∧ n ≤ 1000000) : wr .i64 n = n := wr_id (by simp only [inI]; omega)
theorem number_ne {x : Str} (h : x ≠ []) : number x = some (numP x) := by
  cases x with
  | nil => exact absurd rfl h
  | cons b l => rfl
theorem lsign_ne {x : Str} (h : x ≠ []) : lsign x = some (Lp.signF x) := by
  cases x with
  | nil => exact absurd rfl h
  | cons b l => rfl
theorem alone_in {s : Str} {i : Int} (h : 0 ≤ i ∧ i ≤ s.length) : alone s i = some (Lp.aloneF s i) := if_pos h
theorem visible_is (x : Str) : visible x = Lp.visF x := by
  have e : ∀ b : UInt8, vis b = Lp.vis (b.toNat : Int) := fun b => by
    simp only [vis, Lp.vis]
    rw [show decide (32 ≤ b.toNat) = decide (32 ≤ (b.toNat : Int)) from decide_eq_decide.2 (by omega), show decide (b.toNat ≤ 126) = decide ((b.toNat : Int) ≤ 126) from decide_eq_decide.2 (by omega)]
  simp only [visible, Lp.visF]
  congr 1
  funext b
  exact e b
theorem vright_four (x : Str) : vright (Val.mk 4 0 x) = Lp.rightF 4 0 x := by
  show cond (decide ((x.length : Int) ≤ 1000)) (visible x) false = (decide ((x.length : Int) ≤ 1000) && Lp.visF x)
  rw [visible_is]
  cases decide ((x.length : Int) ≤ 1000) <;> rfl
theorem vcheck_four (x : Str) : decide (vcheck (Val.mk 4 0 x) = 0) = Lp.rightF 4 0 x := by
  have key : ∀ b : Bool, decide (cond (!b) (2 : Int) 0 = 0) = b := by decide
  rw [← vright_four]
  exact key _
/-- the token at a place, as the plain law has it -/
theorem ltoken_tok {s : Str} {i : Int} (hl : 0 ≤ i ∧ i < s.length) (hs : s.length ≤ 20000) : match Lp.tokF s i with
    | some (k, x, n, e) => ltoken s i = some (⟨k, i, x, n⟩, e)
    | none => ∃ t, ltoken s i = some (t, -1) := by
  have hln : ln s.length := by simp only [ln]; omega
  have hd : (s.drop i.toNat).length = s.length - i.toNat := List.length_drop
  have hd2 : (s.drop (i + 2).toNat).length = s.length - (i + 2).toNat := List.length_drop
  have hne : s.drop i.toNat ≠ [] := List.ne_nil_of_length_pos (by omega)
  obtain ⟨m, rfl⟩ := Int.eq_ofNat_of_zero_le hl.1
  have hm : m < s.length := by omega
  have ep : ∀ p q, hpre p q = Lp.pre p q := fun _ _ => rfl
  have eb : bat s (m : Int) = Sx.byt s (m : Int) := rfl
  have e39 : sidxb (s.drop ((m : Int) + 2).toNat) 39 = Lib.indexByte (s.drop ((m : Int) + 2).toNat) 39 := rfl
  simp only [ltoken, if_pos hs, ltoken_body, inb_t hm, upto_i (show 0 ≤ (m : Int) ∧ (m : Int) ≤ (s.length : Int) ∧ (s.length : Int) ≤ s.length by omega), ep, eb, upper_is, lower_is, digit_is, chk, cond_t, Lp.tokF, wr_i (show 0 ≤ (m : Int) + 2 ∧ (m : Int) + 2 ≤ 1000000 by omega), wr_i (show 0 ≤ (m : Int) + 3 ∧ (m : Int) + 3 ≤ 1000000 by omega), wr_i (show 0 ≤ (m : Int) + 1 ∧ (m : Int) + 1 ≤ 1000000 by omega)]
  cases hx : Lp.pre (s.drop (m : Int).toNat) [120, 39] with
  | true =>
    have h2 : 2 ≤ (s.drop (m : Int).toNat).length := by
      simp only [Lp.pre, Bool.and_eq_true, decide_eq_true_eq, List.length_cons, List.length_nil] at hx
      omega
    have hib := Lp.indexByte_in (s.drop ((m : Int) + 2).toNat) 39
    simp only [if_true, cond_t]
    rw [upto_i (show 0 ≤ (m : Int) + 2 ∧ (m : Int) + 2 ≤ (s.length : Int) ∧ (s.length : Int) ≤ s.length by omega), e39, cond_t]
    generalize Lib.indexByte (s.drop ((m : Int) + 2).toNat) 39 = z at hib ⊢
    by_cases hz : z < 0
    · rw [if_pos hz, decide_eq_true hz]
      exact ⟨_, rfl⟩
    · rw [if_neg hz, decide_eq_false hz, wr_i (show 0 ≤ (m : Int) + 2 + z ∧ (m : Int) + 2 + z ≤ 1000000 by omega), wr_i (show 0 ≤ (m : Int) + 3 + z ∧ (m : Int) + 3 + z ≤ 1000000 by omega), upto_i (show 0 ≤ (m : Int) + 2 ∧ (m : Int) + 2 ≤ (m : Int) + 2 + z ∧ (m : Int) + 2 + z ≤ s.length by omega), cond_f, cond_t]
      have hcl := Lp.cut_length s ((m : Int) + 2) ((m : Int) + 2 + z) (by omega)
      have ec : cut s ((m : Int) + 2) ((m : Int) + 2 + z) = Sx.cut s ((m : Int) + 2) ((m : Int) + 2 + z) := rfl
      rw [ec]
      generalize Sx.cut s ((m : Int) + 2) ((m : Int) + 2 + z) = y at hcl ⊢
      have eu : unhex y = some (unP y) := if_pos (by omega)
      rw [eu, unP]
      cases (if y.length % 2 = 0 then Lp.unGo y [] else none) with
      | none => exact ⟨_, rfl⟩
      | some b =>
        by_cases hb : 1000 < (b.length : Int)
        · simp only [Option.bind_some]
          rw [if_pos hb, decide_eq_true hb]
          exact ⟨_, rfl⟩
        · simp only [Option.bind_some]
          rw [if_neg hb, decide_eq_false hb]
          rfl
  | false =>
    simp only [cond_f, Bool.false_eq_true, if_false]
    cases hu : Lp.isUp (Sx.byt s (m : Int)) with
    | true =>
      have hr := Lp.runTo_range Lp.isUp s m (by omega)
      simp only [cond_t, if_true]
      rw [ltoken_0_loop (s := s) (w := Tok.mk 0 0 [] 0) (w1 := Tok.mk 0 m [] 0) (a := fun v3 => cond (upto (m : Int) v3 s.length) (cond (!(lword (cut s m v3))) (some ((Tok.mk 1 m (cut s m v3) 0), (-1))) ((alone s v3).bind fun x2 => cond (!x2) (some ((Tok.mk 1 m (cut s m v3) 0), (-1))) (some ((Tok.mk 1 m (cut s m v3) 0), v3)))) none) hln (fun _ => rfl) 20001 m (by omega) (by omega)]
      rw [upto_i (by omega), alone_in (by omega), lword_is]
      have ec : cut s (m : Int) (Lp.runTo Lp.isUp s m) = Sx.cut s (m : Int) (Lp.runTo Lp.isUp s m) := rfl
      rw [ec]
      cases Lp.wordF (Sx.cut s (m : Int) (Lp.runTo Lp.isUp s m)) with
      | false => exact ⟨_, rfl⟩
      | true =>
        cases Lp.aloneF s (Lp.runTo Lp.isUp s m) with
        | false => exact ⟨_, rfl⟩
        | true => rfl
    | false =>
      simp only [cond_f, Bool.false_eq_true, if_false]
      cases hu2 : Lp.isLo (Sx.byt s (m : Int)) with
      | true =>
        have hr := Lp.runTo_range Lp.isIn s m (by omega)
        simp only [cond_t, if_true]
        rw [ltoken_1_loop (s := s) (w := Tok.mk 0 0 [] 0) (w1 := Tok.mk 0 m [] 0) (a := fun v3 => cond (upto (m : Int) v3 s.length) (cond (!(lname (cut s m v3))) (some ((Tok.mk 2 m (cut s m v3) 0), (-1))) ((alone s v3).bind fun x2 => cond (!x2) (some ((Tok.mk 2 m (cut s m v3) 0), (-1))) (some ((Tok.mk 2 m (cut s m v3) 0), v3)))) none) hln (fun _ => rfl) 20001 m (by omega) (by omega)]
        rw [upto_i (by omega), alone_in (by omega)]
        have ec : cut s (m : Int) (Lp.runTo Lp.isIn s m) = Sx.cut s (m : Int) (Lp.runTo Lp.isIn s m) := rfl
        rw [ec]
        simp only [lname]
        cases Lp.nameF (Sx.cut s (m : Int) (Lp.runTo Lp.isIn s m)) with
        | false => exact ⟨_, rfl⟩
        | true =>
          cases Lp.aloneF s (Lp.runTo Lp.isIn s m) with
          | false => exact ⟨_, rfl⟩
          | true => rfl
      | false =>
        simp only [cond_f, Bool.false_eq_true, if_false]
        cases hu3 : Lp.isDi (Sx.byt s (m : Int)) with
        | true =>
          have hr := Lp.runTo_range Lp.isDi s m (by omega)
          have hg := Lp.runTo_gt (p := Lp.isDi) (by omega) hu3
          have hcl := Lp.cut_length s (m : Int) (Lp.runTo Lp.isDi s m) (by omega)
          simp only [cond_t, if_true]
          rw [ltoken_2_loop (s := s) (w := Tok.mk 0 0 [] 0) (w1 := Tok.mk 0 m [] 0) (a := fun v3 => cond (upto (m : Int) v3 s.length) ((number (cut s m v3)).bind fun (x4, x5) => cond (upto (m : Int) v3 s.length) (cond (!x5) (some ((Tok.mk 3 m (cut s m v3) x4), (-1))) ((alone s v3).bind fun x6 => cond (!x6) (some ((Tok.mk 3 m (cut s m v3) x4), (-1))) (some ((Tok.mk 3 m (cut s m v3) x4), v3)))) none) none) hln (fun _ => rfl) 20001 m (by omega) (by omega)]
          have ec : cut s (m : Int) (Lp.runTo Lp.isDi s m) = Sx.cut s (m : Int) (Lp.runTo Lp.isDi s m) := rfl
          rw [upto_i (by omega), alone_in (by omega), ec]
          generalize Sx.cut s (m : Int) (Lp.runTo Lp.isDi s m) = y at hcl ⊢
          rw [number_ne (List.ne_nil_of_length_pos (by omega)), numP]
          cases Lp.numGo y 0 with
          | none => exact ⟨_, rfl⟩
          | some n =>
            simp only [Option.bind_some, cond_t]
            have e0 : (decide (y = [48]) || !decide (bat y 0 = 48)) = (decide (y = [48]) || Sx.byt y 0 != 48) := rfl
            rw [e0]
            cases (decide (y = [48]) || Sx.byt y 0 != 48) with
            | false => exact ⟨_, rfl⟩
            | true =>
              cases Lp.aloneF s (Lp.runTo Lp.isDi s m) with
              | false => exact ⟨_, rfl⟩
              | true => rfl
        | false =>
          simp only [cond_f, Bool.false_eq_true, if_false]
          by_cases h39 : Sx.byt s (m : Int) = 39
          · have hqi := Lp.qGo_in _ (s.drop ((m : Int) + 1).toNat) [] ((m : Int) + 1) (Nat.le_refl _) (by omega)
            have eq : quoted s ((m : Int) + 1) = some (Lp.qGo (s.drop ((m : Int) + 1).toNat) [] ((m : Int) + 1)) := if_pos (by omega)
            rw [decide_eq_true h39, if_pos h39, eq]
            simp only [cond_t, Option.bind_some, vcheck_four]
            generalize Lp.qGo (s.drop ((m : Int) + 1).toNat) [] ((m : Int) + 1) = q at hqi ⊢
            obtain ⟨y, z⟩ := q
            cases Lp.rightF 4 0 y with
            | false => exact ⟨_, rfl⟩
            | true =>
              simp only [if_true, Bool.not_true, cond_f]
              by_cases hz : z < 0
              · rw [if_pos hz]
                obtain rfl : z = -1 := by simp only at hqi; omega
                exact ⟨_, rfl⟩
              · rw [if_neg hz]
          · have hsi := Lp.signF_in (s.drop (m : Int).toNat) (by omega)
            rw [decide_eq_false h39, if_neg h39, lsign_ne hne]
            simp only [cond_f, Option.bind_some]
            generalize Lp.signF (s.drop (m : Int).toNat) = z at hsi ⊢
            rw [wr_i (show 0 ≤ (m : Int) + z ∧ (m : Int) + z ≤ 1000000 by omega), upto_i (by omega)]
            by_cases hz : z = 0
            · rw [decide_eq_true hz, if_pos hz]
              exact ⟨_, rfl⟩
            · rw [decide_eq_false hz, if_neg hz]
              rfl
/-! ## exchequer/lex.All -/
def lall_0_sg : Sig := ⟨38, [(0, .str), (2, .sl .tok true), (3, .int .i64), (4, .int .i64), (5, .sl .tok true), (6, .int .i64)], [], [], 0, 0, 0, [], []⟩
abbrev lall_0_V := Str × List Tok × Int × Int × List Tok × Int
def lall_0 {R : Type} (rec : lall_0_V → Option R) (kx : Ex → lall_0_V → Option R) (v : lall_0_V) : Option R := match v with
 | (v, v1, v2, v3, v4, v5) =>
  cond (decide (v5 < (v.length : Int))) (
   chk (inb v5 v.length) (
    cond (decide (0 ≤ (sidxb [32, 9, 10, 13] (bat v v5)))) (
     rec (v, v1, v2, v3, v4, (wr .i64 (v5 + 1)))) (
     (ltoken v v5).bind fun (x, x1) =>
      cond (decide (x1 < 0)) (
       kx .ret (v, [], v5, 11, v4, v5)) (
       chk (decide (v4.length + 1 ≤ maxApp)) (
        rec (v, v1, v2, v3, (v4 ++ [x]), x1)))))) (
   kx (.exit 0) (v, v1, v2, v3, v4, v5))
def lall_px (R : Type) (k : Nat) : Px R := ⟨ttOf ttL, glT, callT [(43, callOr [.str, .int .u8] [.int .i64] sidxb_F), (44, callOr [.str, .int .i64] [.sv .tok, .int .i64] ltoken_F)], callQT [], loopT [(5, loopOr k lall_0_sg (lall_0))]⟩
theorem lall_0_eq (R : Type) (k : Nat) : ∀ (fr : List Fr) (rec : lall_0_V → Option R) (kx : Ex → lall_0_V → Option R) (v : lall_0_V), round (lall_px R k) lall_0_sg (lp Tryd.f16 0) fr rec kx v = lall_0 rec kx v
  | fr, rec, kx, (v, v1, v2, v3, v4, v5) => by kernel_rfl
def lall_body (k : Nat) (x : HV [.str]) : Option (HV [.sl .tok true, .int .i64, .int .i64]) := match x with
 | s =>
  cond (decide (20000 < (s.length : Int))) (
   some ([], 0, 3)) (
   iter (fun rec => lall_0 rec (fun e v => match v with | (_, v7, v8, v9, v10, _) => match e with
    | .ret =>
     some (v7, v8, v9)
    | .exit 0 =>
     some (v10, 0, 0)
    | _ => none)) k (s, [], 0, 0, [], 0))
theorem lall_eq (k : Nat) : ∀ (x : HV [.str]), runF (lall_px _ k) Tryd.f16 [.str] [.sl .tok true, .int .i64, .int .i64] x some = lall_body k x
  | s => by kernel_rfl
theorem lall_run (k : Nat) : FnOk Tryd.prog elT glT 16 [.str] [.sl .tok true, .int .i64, .int .i64] (lall_body k) := by
  refine fnOk_run Tryd.func16 rfl (by kernel_rfl) follows (by kernel_rfl) (n := 1) (by kernel_rfl) (px := lall_px _ k) (fun cx hP hel hgl => ?_) (lall_eq k)
  have hp0 : PxOk cx (lall_px (HV [.sl .tok true, .int .i64, .int .i64]) k) := ⟨fun t => by rw [hP, hel]; exact tt_ok ttL_ok t, by rw [hgl]; rfl⟩
  have hc0 : CallOk cx (lall_px (HV [.sl .tok true, .int .i64, .int .i64]) k) := callT_ok rfl (cfs_cons (cf_or (by rw [hP, hel, hgl]; exact sidxb_ok) (by kernel_rfl)) (cfs_cons (cf_or (by rw [hP, hel, hgl]; exact ltoken_ok) (by kernel_rfl)) cfs_nil))
  have hq0 : CallQOk cx (lall_px (HV [.sl .tok true, .int .i64, .int .i64]) k) := callQT_ok rfl cqfs_nil
  have hllall_0 : LoopOk cx (lall_px (HV [.sl .tok true, .int .i64, .int .i64]) k) (lp Tryd.f16 0) := loop_ok hp0 hc0 hq0 (by rw [hP]; exact follows) (k := k) (s := lall_0_sg) (step := lall_0) (fun _ _ => by kernel_rfl) (by kernel_rfl) (lall_0_eq _ k) (loops_in (n := 0) (by kernel_rfl) all0)
  exact ⟨hp0, hc0, hq0, (allS all0 hllall_0)⟩
def allP (s : Str) : List Tok × Int × Int := if 20000 < (s.length : Int) then ([], 0, 3) else match Lp.allF s with
  | .error i => ([], i, 11)
  | .ok ts => (ts, 0, 0)
abbrev lall (s : Str) : List Tok × Int × Int := allP s
def lall_F : FT [.str] [.sl .tok true, .int .i64, .int .i64] := fun x => some (lall x)
theorem blank_is (c : Int) : decide (0 ≤ sidxb [32, 9, 10, 13] c) = Lp.blankF c := rfl
theorem lall_loop {R : Type} {kx : Ex → lall_0_V → Option R} {s : Str} {c : Except Int (List Tok) → Option R} (hs : s.length ≤ 20000) (h1 : ∀ a i j, kx .ret (s, [], i, 11, a, j) = c (.error i)) (h2 : ∀ q r t a j, kx (.exit 0) (s, q, r, t, a, j) = c (.ok a)) : ∀ (k : Nat) (i : Int) (f : Nat) (q : List Tok) (r t : Int) (a : List Tok), (a.length : Int) ≤ i → 0 ≤ i → i ≤ s.length → (s.length : Int) - i < k → (s.length : Int) - i < f → iter (fun rec => lall_0 rec kx) k (s, q, r, t, a, i) = c (Lp.allGo f s i a)
  | 0, i, f, q, r, t, a, _, _, _, h, _ => by omega
  | k + 1, i, 0, q, r, t, a, _, _, _, _, h => by omega
  | k + 1, i, f + 1, q, r, t, a, ha, h0, hi, h, hf => by
    rw [iter_s]
    by_cases hl : i < s.length
    · have ea : decide (a.length + 1 ≤ maxApp) = true := decide_eq_true (by simp only [maxApp]; omega)
      have eb : bat s i = Sx.byt s i := rfl
      simp only [lall_0, inb_i (show 0 ≤ i ∧ i < (s.length : Int) from ⟨h0, hl⟩), blank_is, ea, eb, Lp.allGo]
      rw [decide_eq_true hl, if_neg (show ¬ (s.length : Int) ≤ i by omega)]
      simp only [cond_t, chk]
      cases hbl : Lp.blankF (Sx.byt s i) with
      | true =>
        rw [wr_i (by omega)]
        simp only [cond_t, if_true]
        exact lall_loop hs h1 h2 k (i + 1) f q r t a (by omega) (by omega) (by omega) (by omega) (by omega)
      | false =>
        have ht := ltoken_tok (s := s) (i := i) ⟨h0, hl⟩ hs
        simp only [cond_f, Bool.false_eq_true, if_false]
        cases hk : Lp.tokF s i with
        | none =>
          rw [hk] at ht
          obtain ⟨u, hu⟩ := ht
          rw [hu]
          exact h1 _ _ _
        | some y =>
          obtain ⟨y1, y2, y3, e⟩ := y
          rw [hk] at ht
          have hte := Lp.tok_end ⟨h0, hl⟩ hk
          simp only at ht
          rw [ht]
          simp only [Option.bind_some]
          rw [decide_eq_false (show ¬ e < 0 by omega), cond_f]
          exact lall_loop hs h1 h2 k e f q r t (a ++ [⟨y1, i, y2, y3⟩]) (by simp only [List.length_append, List.length_cons, List.length_nil]; omega) (by omega) (by omega) (by omega) (by omega)
    · simp only [lall_0, h2, Lp.allGo]
      rw [decide_eq_false hl, if_pos (show (s.length : Int) ≤ i by omega)]
      rfl
theorem lall_ok : FnOk Tryd.prog elT glT 16 [.str] [.sl .tok true, .int .i64, .int .i64] lall_F := .fin 0 lall_run fun s r hb hx => ⟨20001, by
  simp only [lall_F, Option.some.injEq] at hx
  rw [← hx]
  simp only [lall_body, lall, allP]
  by_cases hbig : 20000 < (s.length : Int)
  · rw [decide_eq_true hbig, if_pos hbig]
    rfl
  · rw [decide_eq_false hbig, if_neg hbig, cond_f]
    refine (lall_loop (s := s) (c := fun o => match o with | .error i => some ([], i, (11 : Int)) | .ok ts => some (ts, (0 : Int), (0 : Int))) (by omega) (fun _ _ _ => ?_) (fun _ _ _ _ _ => ?_) 20001 0 (s.length + 1) [] 0 0 [] (by simp) (by omega) (by omega) (by omega) (by omega)).trans ?_
    · rfl
    · rfl
    · show _ = some (match Lp.allGo (s.length + 1) s 0 [] with | .error i => ([], i, (11 : Int)) | .ok ts => (ts, (0 : Int), (0 : Int)))
      cases Lp.allGo (s.length + 1) s 0 [] <;> rfl⟩
end Go.Proofs.YtjpcghlpkinahaaDoor

/- Words and names: the document's; all words; what the laws of chapter 12 have in their heads. -/
namespace Go.Proofs.YtjpcghlpkinahaaDoor
open Go.Ax
/-! ## slices.Clone[[]string,string] -/
def clone_px (R : Type) : Px R := ⟨ttOf ttL, glT, callT [], callQT [], loopT []⟩
def clone_body (x : HV [.sl .str false]) : Option (HV [.sl .str true]) := match x with
 | l =>
  chk (!(List.isEmpty l)) (
   chk (decide (0 + l.length ≤ maxApp)) (
    some ([] ++ l)))
theorem clone_eq : ∀ (x : HV [.sl .str false]), runF (clone_px _) Tryd.f33 [.sl .str false] [.sl .str true] x some = clone_body x
  | l => by kernel_rfl
theorem clone_run : FnOk Tryd.prog elT glT 33 [.sl .str false] [.sl .str true] (clone_body) := by
  refine fnOk_run Tryd.func33 rfl (by kernel_rfl) follows (by kernel_rfl) (n := 0) (by kernel_rfl) (px := clone_px _) (fun cx hP hel hgl => ?_) (clone_eq)
  have hp0 : PxOk cx (clone_px (HV [.sl .str true])) := ⟨fun t => by rw [hP, hel]; exact tt_ok ttL_ok t, by rw [hgl]; rfl⟩
  have hc0 : CallOk cx (clone_px (HV [.sl .str true])) := callT_ok rfl cfs_nil
  have hq0 : CallQOk cx (clone_px (HV [.sl .str true])) := callQT_ok rfl cqfs_nil
  exact ⟨hp0, hc0, hq0, all0⟩
def clone (l : List Str) : Option (List Str) := cond (!l.isEmpty && decide (l.length ≤ 1000000)) (some l) none
def clone_F : FT [.sl .str false] [.sl .str true] := fun x => clone x
theorem clone_ok : FnOk Tryd.prog elT glT 33 [.sl .str false] [.sl .str true] clone_F := .fin0 clone_run fun l r hb hx => by
  simp only [clone_F, clone] at hx
  cases hc : !l.isEmpty && decide (l.length ≤ 1000000) with
  | false => rw [hc] at hx; cases hx
  | true =>
    rw [hc] at hx
    simp only [Bool.and_eq_true, decide_eq_true_eq] at hc
    simp only [clone_body]
    refine (chk_t hc.1).trans ((chk_t (decide_eq_true ?_)).trans hx)
    simp only [maxApp]; omega
/-! ## exchequer/lex.Words -/
def lwords_px (R : Type) : Px R := ⟨ttOf ttL, glT, callT [(33, callOr [.sl .str false] [.sl .str true] clone_F)], callQT [], loopT []⟩
def lwords_body (x : HV []) : Option (HV [.sl .str true]) := match x with
 | () =>
  (clone wordsL).bind fun x =>
   some x
theorem lwords_eq : ∀ (x : HV []), runF (lwords_px _) Tryd.f9 [] [.sl .str true] x some = lwords_body x
  | () => by kernel_rfl
theorem lwords_run : FnOk Tryd.prog elT glT 9 [] [.sl .str true] (lwords_body) := by
  refine fnOk_run Tryd.func9 rfl (by kernel_rfl) follows (by kernel_rfl) (n := 0) (by kernel_rfl) (px := lwords_px _) (fun cx hP hel hgl => ?_) (lwords_eq)
  have hp0 : PxOk cx (lwords_px (HV [.sl .str true])) := ⟨fun t => by rw [hP, hel]; exact tt_ok ttL_ok t, by rw [hgl]; rfl⟩
  have hc0 : CallOk cx (lwords_px (HV [.sl .str true])) := callT_ok rfl (cfs_cons (cf_or (by rw [hP, hel, hgl]; exact clone_ok) (by kernel_rfl)) cfs_nil)
  have hq0 : CallQOk cx (lwords_px (HV [.sl .str true])) := callQT_ok rfl cqfs_nil
  exact ⟨hp0, hc0, hq0, all0⟩
def lwords : List Str := wordsL
def lwords_F : FT [] [.sl .str true] := fun _ => some (lwords)
theorem lwords_ok : FnOk Tryd.prog elT glT 9 [] [.sl .str true] lwords_F := .fin0 lwords_run fun _ _ _ hx => hx
/-! ## exchequer/exchequerref12.Words -/
def rwords_px (R : Type) : Px R := ⟨ttOf ttL, glT, callT [], callQT [], loopT []⟩
def rwords_body (x : HV []) : Option (HV [.sl .str true]) := match x with
 | () =>
  some [[65, 68, 68], [65, 78, 68], [65, 83, 67], [66, 79, 79, 76], [66, 89], [66, 89, 84, 69, 83], [67, 72, 69, 67, 75], [67, 82, 69, 65, 84, 69], [68, 69, 76, 69, 84, 69], [68, 69, 83, 67], [68, 82, 79, 80], [70, 65, 76, 83, 69], [70, 82, 79, 77], [73, 78, 68, 69, 88], [73, 78, 83, 69, 82, 84], [73, 78, 84], [73, 78, 84, 79], [73, 83], [75, 69, 89], [76, 73, 77, 73, 84], [78, 79, 84], [78, 85, 76, 76], [79, 78], [79, 82], [79, 82, 68, 69, 82], [80, 82, 73, 77, 65, 82, 89], [82, 69, 70, 69, 82, 69, 78, 67, 69, 83], [83, 69, 76, 69, 67, 84], [83, 69, 84], [84, 65, 66, 76, 69], [84, 69, 88, 84], [84, 82, 85, 69], [85, 78, 73, 81, 85, 69], [85, 80, 68, 65, 84, 69], [86, 65, 76, 85, 69, 83], [87, 72, 69, 82, 69]]
theorem rwords_eq : ∀ (x : HV []), runF (rwords_px _) Tryd.f10 [] [.sl .str true] x some = rwords_body x
  | () => by kernel_rfl
theorem rwords_run : FnOk Tryd.prog elT glT 10 [] [.sl .str true] (rwords_body) := by
  refine fnOk_run Tryd.func10 rfl (by kernel_rfl) follows (by kernel_rfl) (n := 0) (by kernel_rfl) (px := rwords_px _) (fun cx hP hel hgl => ?_) (rwords_eq)
  have hp0 : PxOk cx (rwords_px (HV [.sl .str true])) := ⟨fun t => by rw [hP, hel]; exact tt_ok ttL_ok t, by rw [hgl]; rfl⟩
  have hc0 : CallOk cx (rwords_px (HV [.sl .str true])) := callT_ok rfl cfs_nil
  have hq0 : CallQOk cx (rwords_px (HV [.sl .str true])) := callQT_ok rfl cqfs_nil
  exact ⟨hp0, hc0, hq0, all0⟩
def rwords : List Str :=
  [[65, 68, 68], [65, 78, 68], [65, 83, 67], [66, 79, 79, 76], [66, 89], [66, 89, 84, 69, 83], [67, 72, 69, 67, 75], [67, 82, 69, 65, 84, 69], [68, 69, 76, 69, 84, 69], [68, 69, 83, 67], [68, 82, 79, 80], [70, 65, 76, 83, 69], [70, 82, 79, 77], [73, 78, 68, 69, 88], [73, 78, 83, 69, 82, 84], [73, 78, 84], [73, 78, 84, 79], [73, 83], [75, 69, 89], [76, 73, 77, 73, 84], [78, 79, 84], [78, 85, 76, 76], [79, 78], [79, 82], [79, 82, 68, 69, 82], [80, 82, 73, 77, 65, 82, 89], [82, 69, 70, 69, 82, 69, 78, 67, 69, 83], [83, 69, 76, 69, 67, 84], [83, 69, 84], [84, 65, 66, 76, 69], [84, 69, 88, 84], [84, 82, 85, 69], [85, 78, 73, 81, 85, 69], [85, 80, 68, 65, 84, 69], [86, 65, 76, 85, 69, 83], [87, 72, 69, 82, 69]]
theorem rwords_tot (x : HV []) : rwords_body x = some (rwords) := by
  first
    | exact rfl
    | simp only [rwords_body, rwords, cond_some]
def rwords_F : FT [] [.sl .str true] := fun _ => some (rwords)
theorem rwords_ok : FnOk Tryd.prog elT glT 10 [] [.sl .str true] rwords_F := .fin0 rwords_run fun x _ _ hx => (rwords_tot x).trans hx
theorem rwords_is : rwords = wordsL := rfl
/-! ## exchequer/exchequerref12.Word -/
def rword_0_sg : Sig := ⟨18, [(0, .str), (2, .bool), (3, .sl .str true), (4, .int .i64)], [], [], 0, 0, 0, [], []⟩
abbrev rword_0_V := Str × Bool × List Str × Int
def rword_0 {R : Type} (rec : rword_0_V → Option R) (kx : Ex → rword_0_V → Option R) (v : rword_0_V) : Option R := match v with
 | (v, v1, v2, v3) =>
  cond (decide (v3 < (v2.length : Int))) (
   chk (inb v3 v2.length) (
    cond (decide ((at' .str v2 v3) = v)) (
     kx .ret (v, true, v2, v3)) (
     rec (v, v1, v2, (wr .i64 (v3 + 1)))))) (
   kx (.exit 0) (v, v1, v2, v3))
def rword_px (R : Type) (k : Nat) : Px R := ⟨ttOf ttL, glT, callT [(10, callOr [] [.sl .str true] rwords_F)], callQT [], loopT [(3, loopOr k rword_0_sg (rword_0))]⟩
theorem rword_0_eq (R : Type) (k : Nat) : ∀ (fr : List Fr) (rec : rword_0_V → Option R) (kx : Ex → rword_0_V → Option R) (v : rword_0_V), round (rword_px R k) rword_0_sg (lp Tryd.f13 0) fr rec kx v = rword_0 rec kx v
  | fr, rec, kx, (v, v1, v2, v3) => by kernel_rfl
def rword_body (k : Nat) (x : HV [.str]) : Option (HV [.bool]) := match x with
 | s =>
  iter (fun rec => rword_0 rec (fun e v => match v with | (_, v5, _, _) => match e with
   | .ret =>
    some v5
   | .exit 0 =>
    some false
   | _ => none)) k (s, false, rwords, 0)
theorem rword_eq (k : Nat) : ∀ (x : HV [.str]), runF (rword_px _ k) Tryd.f13 [.str] [.bool] x some = rword_body k x
  | s => by kernel_rfl
theorem rword_run (k : Nat) : FnOk Tryd.prog elT glT 13 [.str] [.bool] (rword_body k) := by
  refine fnOk_run Tryd.func13 rfl (by kernel_rfl) follows (by kernel_rfl) (n := 1) (by kernel_rfl) (px := rword_px _ k) (fun cx hP hel hgl => ?_) (rword_eq k)
  have hp0 : PxOk cx (rword_px (HV [.bool]) k) := ⟨fun t => by rw [hP, hel]; exact tt_ok ttL_ok t, by rw [hgl]; rfl⟩
  have hc0 : CallOk cx (rword_px (HV [.bool]) k) := callT_ok rfl (cfs_cons (cf_or (by rw [hP, hel, hgl]; exact rwords_ok) (by kernel_rfl)) cfs_nil)
  have hq0 : CallQOk cx (rword_px (HV [.bool]) k) := callQT_ok rfl cqfs_nil
  have hlrword_0 : LoopOk cx (rword_px (HV [.bool]) k) (lp Tryd.f13 0) := loop_ok hp0 hc0 hq0 (by rw [hP]; exact follows) (k := k) (s := rword_0_sg) (step := rword_0) (fun _ _ => by kernel_rfl) (by kernel_rfl) (rword_0_eq _ k) (loops_in (n := 0) (by kernel_rfl) all0)
  exact ⟨hp0, hc0, hq0, (allS all0 hlrword_0)⟩
def rword (s : Str) : Bool := decide (s ∈ wordsL)
def rword_F : FT [.str] [.bool] := fun x => some (rword x)
theorem rword_loop {R : Type} {kx : Ex → rword_0_V → Option R} {l : List Str} {s : Str} {c : Bool → Option R} (hl : ln l.length) (h1 : ∀ i, kx .ret (s, true, l, i) = c true) (h2 : ∀ q i, kx (.exit 0) (s, q, l, i) = c false) :
    ∀ (k i : Nat) (q : Bool), i ≤ l.length → l.length - i < k → iter (fun rec => rword_0 rec kx) k (s, q, l, (i : Int)) = c (decide (s ∈ l.drop i))
  | 0, i, _, _, h => absurd h (Nat.not_lt_zero _)
  | k + 1, i, q, hi, h => by
    rw [iter_s]
    by_cases hlt : i < l.length
    · have ih := rword_loop hl h1 h2 k (i + 1) q (by omega) (by omega)
      have e1 : decide ((i : Int) < (l.length : Int)) = true := decide_eq_true (by omega)
      simp only [rword_0, e1, cond_t, inb_t hlt, chk, at_nat (c := .str) hlt, wr_succ hlt hl, ih, h1]
      by_cases hx : l[i] = s
      · rw [decide_eq_true hx, decide_eq_true (show s ∈ l.drop i by rw [drop_cons hlt, hx]; exact List.mem_cons_self), cond_t]
      · have hx2 : ¬ s = l[i] := fun e => hx e.symm
        have hm : (s ∈ l.drop i) ↔ s ∈ l.drop (i + 1) := by rw [drop_cons hlt, List.mem_cons]; exact or_iff_right hx2
        rw [decide_eq_false hx, cond_f]
        exact congrArg c (decide_eq_decide.2 hm.symm)
    · simp only [rword_0, decide_eq_false (show ¬ (i : Int) < (l.length : Int) by omega), cond_f, h2]
      rw [decide_eq_false (show ¬ s ∈ l.drop i by rw [List.drop_eq_nil_of_le (by omega)]; simp)]
theorem rword_ok : FnOk Tryd.prog elT glT 13 [.str] [.bool] rword_F := .fin 0 rword_run fun s r hb hx => ⟨37, by
  simp only [rword_F, Option.some.injEq] at hx
  rw [← hx]
  simp only [rword_body, rwords_is]
  exact rword_loop (c := fun q => some q) (by simp [ln, wordsL]) (fun _ => rfl) (fun _ _ => rfl) 37 0 false (Nat.zero_le _) (by simp [wordsL])⟩
theorem rword_lword (s : Str) : rword s = lword s := by
  rw [lword_is, Lp.wordF, rword, List.contains_eq_mem]
/-! ## the document's kinds of bytes, names -/
/-! ## exchequer/exchequerref12.class -/
def rclass_0_sg : Sig := ⟨58, [(0, .int .u8), (2, .int .i64), (3, .str), (4, .int .i64)], [], [], 0, 0, 0, [], []⟩
abbrev rclass_0_V := Int × Int × Str × Int
def rclass_0 {R : Type} (rec : rclass_0_V → Option R) (kx : Ex → rclass_0_V → Option R) (v : rclass_0_V) : Option R := match v with
 | (v, v1, v2, v3) =>
  cond (decide (v3 < (v2.length : Int))) (
   chk (inb v3 v2.length) (
    cond (decide ((bat v2 v3) = v)) (
     kx .ret (v, 7, v2, v3)) (
     rec (v, v1, v2, (wr .i64 (v3 + 1)))))) (
   kx (.exit 1) (v, v1, v2, v3))
def rclass_px (R : Type) (k : Nat) : Px R := ⟨ttOf ttL, glT, callT [], callQT [], loopT [(15, loopOr k rclass_0_sg (rclass_0))]⟩
theorem rclass_0_eq (R : Type) (k : Nat) : ∀ (fr : List Fr) (rec : rclass_0_V → Option R) (kx : Ex → rclass_0_V → Option R) (v : rclass_0_V), round (rclass_px R k) rclass_0_sg (lp Tryd.f38 0) fr rec kx v = rclass_0 rec kx v
  | fr, rec, kx, (v, v1, v2, v3) => by kernel_rfl
def rclass_body (k : Nat) (x : HV [.int .u8]) : Option (HV [.int .i64]) := match x with
 | c =>
  let j3 : Bool → Option (HV [.int .i64]) := fun (p1 : Bool) =>
   cond (p1) (
    some 1) (
    let j2 : Bool → Option (HV [.int .i64]) := fun (p3 : Bool) =>
     cond (p3) (
      some 2) (
      let j1 : Bool → Option (HV [.int .i64]) := fun (p5 : Bool) =>
       cond (p5) (
        some 3) (
        cond (decide (c = 95)) (
         some 4) (
         cond (decide (c = 39)) (
          some 5) (
          let j : Bool → Option (HV [.int .i64]) := fun (p6 : Bool) =>
           cond (p6) (
            some 6) (
            cond (decide (c = 10)) (
             some 6) (
             cond (decide (c = 13)) (
              some 6) (
              iter (fun rec => rclass_0 rec (fun e v => match v with | (_, v5, _, _) => match e with
               | .ret =>
                some v5
               | .exit 1 =>
                some 0
               | _ => none)) k (c, 0, [40, 41, 44, 42, 61, 60, 62, 43, 45, 59], 0))))
          cond (decide (c = 32)) (
           j true) (
           j (decide (c = 9))))))
      cond (decide (48 ≤ c)) (
       j1 (decide (c ≤ 57))) (
       j1 false))
    cond (decide (97 ≤ c)) (
     j2 (decide (c ≤ 122))) (
     j2 false))
  cond (decide (65 ≤ c)) (
   j3 (decide (c ≤ 90))) (
   j3 false)
theorem rclass_eq (k : Nat) : ∀ (x : HV [.int .u8]), runF (rclass_px _ k) Tryd.f38 [.int .u8] [.int .i64] x some = rclass_body k x
  | c => by kernel_rfl
theorem rclass_run (k : Nat) : FnOk Tryd.prog elT glT 38 [.int .u8] [.int .i64] (rclass_body k) := by
  refine fnOk_run Tryd.func38 rfl (by kernel_rfl) follows (by kernel_rfl) (n := 1) (by kernel_rfl) (px := rclass_px _ k) (fun cx hP hel hgl => ?_) (rclass_eq k)
  have hp0 : PxOk cx (rclass_px (HV [.int .i64]) k) := ⟨fun t => by rw [hP, hel]; exact tt_ok ttL_ok t, by rw [hgl]; rfl⟩
  have hc0 : CallOk cx (rclass_px (HV [.int .i64]) k) := callT_ok rfl cfs_nil
  have hq0 : CallQOk cx (rclass_px (HV [.int .i64]) k) := callQT_ok rfl cqfs_nil
  have hlrclass_0 : LoopOk cx (rclass_px (HV [.int .i64]) k) (lp Tryd.f38 0) := loop_ok hp0 hc0 hq0 (by rw [hP]; exact follows) (k := k) (s := rclass_0_sg) (step := rclass_0) (fun _ _ => by kernel_rfl) (by kernel_rfl) (rclass_0_eq _ k) (loops_in (n := 0) (by kernel_rfl) all0)
  exact ⟨hp0, hc0, hq0, (allS all0 hlrclass_0)⟩
def rclass (c : Int) : Int := Lp.clsF c
def rclass_F : FT [.int .u8] [.int .i64] := fun x => some (rclass x)
theorem rclass_all : ((List.range 256).all fun n => decide (rclass_body 11 (n : Int) = some (Lp.clsF (n : Int)))) = true := by kernel_rfl
theorem rclass_ok : FnOk Tryd.prog elT glT 38 [.int .u8] [.int .i64] rclass_F := .fin 0 rclass_run fun (c : Int) r hb hx => ⟨11, by
  simp only [rclass_F, Option.some.injEq] at hx
  have h : 0 ≤ c ∧ c ≤ 255 := by
    have h0 : inK .u8 c := hb
    simp only [inK, IntKind.min, IntKind.max] at h0
    exact ⟨h0.1, h0.2⟩
  obtain ⟨n, rfl⟩ : ∃ n : Nat, c = (n : Int) := ⟨c.toNat, by omega⟩
  have h2 := List.all_eq_true.1 rclass_all n (List.mem_range.2 (by omega))
  exact (of_decide_eq_true h2).trans (congrArg some hx)⟩
/-! ## exchequer/exchequerref12.Name -/
def rname_0_sg : Sig := ⟨37, [(0, .str), (2, .bool), (3, .int .i64)], [], [], 0, 0, 0, [], []⟩
abbrev rname_0_V := Str × Bool × Int
def rname_0 {R : Type} (rec : rname_0_V → Option R) (kx : Ex → rname_0_V → Option R) (v : rname_0_V) : Option R := match v with
 | (v, v1, v2) =>
  cond (decide (v2 < (v.length : Int))) (
   chk (inb v2 v.length) (
    cond (!decide ((rclass (bat v v2)) = 2)) (
     cond (decide (v2 = 0)) (
      kx .ret (v, false, v2)) (
      cond (!decide ((rclass (bat v v2)) = 3)) (
       cond (!decide ((rclass (bat v v2)) = 4)) (
        kx .ret (v, false, v2)) (
        rec (v, v1, (wr .i64 (v2 + 1))))) (
       rec (v, v1, (wr .i64 (v2 + 1)))))) (
     rec (v, v1, (wr .i64 (v2 + 1)))))) (
   kx (.exit 0) (v, v1, v2))
def rname_px (R : Type) (k : Nat) : Px R := ⟨ttOf ttL, glT, callT [(38, callOr [.int .u8] [.int .i64] rclass_F)], callQT [], loopT [(2, loopOr k rname_0_sg (rname_0))]⟩
theorem rname_0_eq (R : Type) (k : Nat) : ∀ (fr : List Fr) (rec : rname_0_V → Option R) (kx : Ex → rname_0_V → Option R) (v : rname_0_V), round (rname_px R k) rname_0_sg (lp Tryd.f14 0) fr rec kx v = rname_0 rec kx v
  | fr, rec, kx, (v, v1, v2) => by kernel_rfl
def rname_body (k : Nat) (x : HV [.str]) : Option (HV [.bool]) := match x with
 | s =>
  iter (fun rec => rname_0 rec (fun e v => match v with | (v3, v4, _) => match e with
   | .ret =>
    some v4
   | .exit 0 =>
    cond (decide (1 ≤ (v3.length : Int))) (
     some (decide ((v3.length : Int) ≤ 30))) (
     some false)
   | _ => none)) k (s, false, 0)
theorem rname_eq (k : Nat) : ∀ (x : HV [.str]), runF (rname_px _ k) Tryd.f14 [.str] [.bool] x some = rname_body k x
  | s => by kernel_rfl
theorem rname_run (k : Nat) : FnOk Tryd.prog elT glT 14 [.str] [.bool] (rname_body k) := by
  refine fnOk_run Tryd.func14 rfl (by kernel_rfl) follows (by kernel_rfl) (n := 1) (by kernel_rfl) (px := rname_px _ k) (fun cx hP hel hgl => ?_) (rname_eq k)
  have hp0 : PxOk cx (rname_px (HV [.bool]) k) := ⟨fun t => by rw [hP, hel]; exact tt_ok ttL_ok t, by rw [hgl]; rfl⟩
  have hc0 : CallOk cx (rname_px (HV [.bool]) k) := callT_ok rfl (cfs_cons (cf_or (by rw [hP, hel, hgl]; exact rclass_ok) (by kernel_rfl)) cfs_nil)
  have hq0 : CallQOk cx (rname_px (HV [.bool]) k) := callQT_ok rfl cqfs_nil
  have hlrname_0 : LoopOk cx (rname_px (HV [.bool]) k) (lp Tryd.f14 0) := loop_ok hp0 hc0 hq0 (by rw [hP]; exact follows) (k := k) (s := rname_0_sg) (step := rname_0) (fun _ _ => by kernel_rfl) (by kernel_rfl) (rname_0_eq _ k) (loops_in (n := 0) (by kernel_rfl) all0)
  exact ⟨hp0, hc0, hq0, (allS all0 hlrname_0)⟩
def rname (s : Str) : Bool := Lp.rnameF s
def rname_F : FT [.str] [.bool] := fun x => some (rname x)
theorem rname_loop {R : Type} {kx : Ex → rname_0_V → Option R} {s : Str} {c : Bool → Option R} (hn : ln s.length) (h1 : ∀ j, kx .ret (s, false, j) = c false) (h2 : ∀ q j, kx (.exit 0) (s, q, j) = c true) : ∀ (k i : Nat) q, i ≤ s.length → s.length - i < k → iter (fun rec => rname_0 rec kx) k (s, q, (i : Int)) = c (Lp.okGo (s.drop i) i)
  | 0, i, q, _, h => absurd h (Nat.not_lt_zero _)
  | k + 1, i, q, hi, h => by
    rw [iter_s]
    by_cases hl : i < s.length
    · have ih := rname_loop hn h1 h2 k (i + 1) q (by omega) (by omega)
      have en : ((i + 1 : Nat) : Int) = (i : Int) + 1 := by omega
      simp only [rname_0, wr_succ hl hn, ih, h1, drop_cons hl, bat_nat hl, inb_t hl, chk, cond_t, rclass, Lp.okGo, Lp.nmOk]
      rw [decide_eq_true (show (i : Int) < (s.length : Int) by omega), en]
      cases decide (Lp.clsF (s[i].toNat : Int) = 2) <;> cases decide ((i : Int) = 0) <;> cases decide (Lp.clsF (s[i].toNat : Int) = 3) <;> cases decide (Lp.clsF (s[i].toNat : Int) = 4) <;> rfl
    · simp only [rname_0, h2]
      rw [decide_eq_false (by omega), List.drop_eq_nil_of_le (by omega)]
      rfl
theorem rname_ok : FnOk Tryd.prog elT glT 14 [.str] [.bool] rname_F := .fin 0 rname_run fun s r hb hx => ⟨s.length + 1, by
  simp only [rname_F, Option.some.injEq] at hx
  subst hx
  simp only [rname_body]
  refine (rname_loop (s := s) (c := fun b => cond b (cond (decide (1 ≤ (s.length : Int))) (some (decide ((s.length : Int) ≤ 30))) (some false)) (some false)) hb (fun _ => rfl) (fun _ _ => rfl) (s.length + 1) 0 false (Nat.zero_le _) (by omega)).trans ?_
  rw [List.drop_zero, rname, Lp.rnameF]
  show cond (Lp.okGo s 0) _ _ = _
  cases Lp.okGo s 0 <;> cases decide (1 ≤ (s.length : Int)) <;> rfl⟩
theorem rname_lname (s : Str) : rname s = lname s := (Lp.name_eq s).symm
/-! ## exchequer/exchequerlaw12.known -/
def known_px (R : Type) : Px R := ⟨ttOf ttL, glT, callT [(16, callOr [.str] [.sl .tok true, .int .i64, .int .i64] lall_F), (11, callOr [.str] [.bool] lword_F), (12, callOr [.str] [.bool] lname_F)], callQT [], loopT []⟩
def known_body (x : HV []) : Option (HV [.bool]) := match x with
 | () =>
  cond (!decide ((lall [97, 60, 61, 120, 39, 48, 102, 39, 32, 39, 105, 116, 39, 39, 115, 39]).2.1 = 0)) (
   some false) (
   cond (!decide ((lall [97, 60, 61, 120, 39, 48, 102, 39, 32, 39, 105, 116, 39, 39, 115, 39]).2.2 = 0)) (
    some false) (
    cond (!decide ((((lall [97, 60, 61, 120, 39, 48, 102, 39, 32, 39, 105, 116, 39, 39, 115, 39]).1).length : Int) = 4)) (
     some false) (
     chk (inb 0 (((lall [97, 60, 61, 120, 39, 48, 102, 39, 32, 39, 105, 116, 39, 39, 115, 39]).1).length)) (
      let j8 := fun (p4 : Bool) =>
       let j7 := fun (p5 : Bool) =>
        let j6 := fun (p6 : Bool) =>
         let j5 := fun (p7 : Bool) =>
          let j4 := fun (p8 : Bool) =>
           let j3 := fun (p9 : Bool) =>
            let j2 := fun (p10 : Bool) =>
             let j1 := fun (p11 : Bool) =>
              let j := fun (p12 : Bool) =>
               cond (p12) (
                cond ((lname [97, 95, 49])) (
                 some (!(lname [65]))) (
                 some false)) (
                some false)
              cond (p11) (
               j (!(lword [115, 101, 108, 101, 99, 116]))) (
               j false)
             cond (p10) (
              j1 (lword [83, 69, 76, 69, 67, 84])) (
              j1 false)
            cond (p9) (
             j2 (decide ((lall [49, 50, 97]).2.2 = 11))) (
             j2 false)
           cond (p8) (
            j3 (decide ((lall [49, 50, 97]).2.1 = 0))) (
            j3 false)
          cond (p7) (
           chk (inb 3 (((lall [97, 60, 61, 120, 39, 48, 102, 39, 32, 39, 105, 116, 39, 39, 115, 39]).1).length)) (
            j4 (decide ((at' .tok ((lall [97, 60, 61, 120, 39, 48, 102, 39, 32, 39, 105, 116, 39, 39, 115, 39]).1) 3).pos = 9)))) (
           j4 false)
         cond (p6) (
          chk (inb 3 (((lall [97, 60, 61, 120, 39, 48, 102, 39, 32, 39, 105, 116, 39, 39, 115, 39]).1).length)) (
           j5 (decide (((at' .tok ((lall [97, 60, 61, 120, 39, 48, 102, 39, 32, 39, 105, 116, 39, 39, 115, 39]).1) 3).s) = [105, 116, 39, 115])))) (
          j5 false)
        cond (p5) (
         chk (inb 2 (((lall [97, 60, 61, 120, 39, 48, 102, 39, 32, 39, 105, 116, 39, 39, 115, 39]).1).length)) (
          j6 (decide (((at' .tok ((lall [97, 60, 61, 120, 39, 48, 102, 39, 32, 39, 105, 116, 39, 39, 115, 39]).1) 2).s) = [15])))) (
         j6 false)
       cond (p4) (
        chk (inb 2 (((lall [97, 60, 61, 120, 39, 48, 102, 39, 32, 39, 105, 116, 39, 39, 115, 39]).1).length)) (
         j7 (decide ((at' .tok ((lall [97, 60, 61, 120, 39, 48, 102, 39, 32, 39, 105, 116, 39, 39, 115, 39]).1) 2).kind = 5)))) (
        j7 false)
      cond (decide ((at' .tok ((lall [97, 60, 61, 120, 39, 48, 102, 39, 32, 39, 105, 116, 39, 39, 115, 39]).1) 0).kind = 2)) (
       chk (inb 1 (((lall [97, 60, 61, 120, 39, 48, 102, 39, 32, 39, 105, 116, 39, 39, 115, 39]).1).length)) (
        j8 (decide (((at' .tok ((lall [97, 60, 61, 120, 39, 48, 102, 39, 32, 39, 105, 116, 39, 39, 115, 39]).1) 1).s) = [60, 61])))) (
       j8 false)))))
theorem known_eq : ∀ (x : HV []), runF (known_px _) Tryd.f8 [] [.bool] x some = known_body x
  | () => by kernel_rfl
theorem known_run : FnOk Tryd.prog elT glT 8 [] [.bool] (known_body) := by
  refine fnOk_run Tryd.func8 rfl (by kernel_rfl) follows (by kernel_rfl) (n := 0) (by kernel_rfl) (px := known_px _) (fun cx hP hel hgl => ?_) (known_eq)
  have hp0 : PxOk cx (known_px (HV [.bool])) := ⟨fun t => by rw [hP, hel]; exact tt_ok ttL_ok t, by rw [hgl]; rfl⟩
  have hc0 : CallOk cx (known_px (HV [.bool])) := callT_ok rfl (cfs_cons (cf_or (by rw [hP, hel, hgl]; exact lall_ok) (by kernel_rfl)) (cfs_cons (cf_or (by rw [hP, hel, hgl]; exact lword_ok) (by kernel_rfl)) (cfs_cons (cf_or (by rw [hP, hel, hgl]; exact lname_ok) (by kernel_rfl)) cfs_nil)))
  have hq0 : CallQOk cx (known_px (HV [.bool])) := callQT_ok rfl cqfs_nil
  exact ⟨hp0, hc0, hq0, all0⟩
def known : Bool := true
def known_F : FT [] [.bool] := fun _ => some (known)
theorem known_b : known_body () = some true := by kernel_rfl
theorem known_ok : FnOk Tryd.prog elT glT 8 [] [.bool] known_F := .fin0 known_run fun x r hb hx => by cases x; exact known_b.trans hx
end Go.Proofs.YtjpcghlpkinahaaDoor

/- The library's contract of strings.ReplaceAll at this seat's program (the facts as the kit's tool lays them). -/
namespace Go.Proofs
open Go.Shelf
def Tryd.laysRA_ren : Go.Shelf.Ren := ⟨fun | 155 => 41 | 154 => 78 | 138 => 100 | 165 => 101 | 143 => 102 | 166 => 92 | 197 => 103 | 169 => 47 | 195 => 112 | 218 => 113 | 240 => 110 | 241 => 114 | 219 => 115 | 260 => 116 | 276 => 118 | 277 => 119 | 217 => 79 | 225 => 120 | 224 => 121 | 267 => 122 | 266 => 104 | 314 => 123 | n => n, fun | 9 => 9 | 3 => 3 | 4 => 4 | 72 => 84 | 0 => 0 | 76 => 133 | 105 => 138 | 21 => 21 | 5 => 5 | 70 => 81 | 20 => 20 | 37 => 82 | 75 => 132 | 127 => 129 | 164 => 149 | 46 => 114 | 119 => 152 | 139 => 155 | 138 => 154 | 146 => 157 | 51 => 156 | 80 => 88 | n => n, fun | 1 => 3 | 3 => 4 | 4 => 5 | n => n⟩
theorem Tryd.laysRA : Go.Proofs.Lays.n155 Tryd.prog Tryd.laysRA_ren := {
  mixed := by kernel_rfl
  f138 := Tryd.func100.trans (congrArg some (by kernel_rfl))
  f143 := Tryd.func102.trans (congrArg some (by kernel_rfl))
  f154 := Tryd.func78.trans (congrArg some (by kernel_rfl))
  f155 := Tryd.func41.trans (congrArg some (by kernel_rfl))
  f165 := Tryd.func101.trans (congrArg some (by kernel_rfl))
  f166 := Tryd.func92.trans (congrArg some (by kernel_rfl))
  f169 := Tryd.func47.trans (congrArg some (by kernel_rfl))
  f195 := Tryd.func112.trans (congrArg some (by kernel_rfl))
  f197 := Tryd.func103.trans (congrArg some (by kernel_rfl))
  f217 := Tryd.func79.trans (congrArg some (by kernel_rfl))
  f218 := Tryd.func113.trans (congrArg some (by kernel_rfl))
  f219 := Tryd.func115.trans (congrArg some (by kernel_rfl))
  f224 := Tryd.func121.trans (congrArg some (by kernel_rfl))
  f225 := Tryd.func120.trans (congrArg some (by kernel_rfl))
  f240 := Tryd.func110.trans (congrArg some (by kernel_rfl))
  f241 := Tryd.func114.trans (congrArg some (by kernel_rfl))
  f260 := Tryd.func116.trans (congrArg some (by kernel_rfl))
  f266 := Tryd.func104.trans (congrArg some (by kernel_rfl))
  f267 := Tryd.func122.trans (congrArg some (by kernel_rfl))
  f276 := Tryd.func118.trans (congrArg some (by kernel_rfl))
  f277 := Tryd.func119.trans (congrArg some (by kernel_rfl))
  f314 := Tryd.func123.trans (congrArg some (by kernel_rfl))
  t0 := Tryd.underlying0
  a0 := Tryd.isAgg0
  z0 := Tryd.sizeOf0
  v0 := Tryd.zeroValue0
  t3 := Tryd.underlying3
  a3 := Tryd.isAgg3
  z3 := Tryd.sizeOf3
  v3 := Tryd.zeroValue3
  t4 := Tryd.underlying4
  a4 := Tryd.isAgg4
  z4 := Tryd.sizeOf4
  v4 := Tryd.zeroValue4
  t5 := Tryd.underlying5
  a5 := Tryd.isAgg5
  z5 := Tryd.sizeOf5
  v5 := Tryd.zeroValue5
  t9 := Tryd.underlying9
  a9 := Tryd.isAgg9
  z9 := Tryd.sizeOf9
  v9 := Tryd.zeroValue9
  t20 := Tryd.underlying20
  a20 := Tryd.isAgg20
  z20 := Tryd.sizeOf20
  v20 := Tryd.zeroValue20
  t21 := Tryd.underlying21
  a21 := Tryd.isAgg21
  z21 := Tryd.sizeOf21
  v21 := Tryd.zeroValue21
  t37 := Tryd.underlying82
  a37 := Tryd.isAgg82
  z37 := Tryd.sizeOf82
  v37 := Tryd.zeroValue82
  t46 := Tryd.underlying114
  a46 := Tryd.isAgg114
  z46 := Tryd.sizeOf114
  v46 := Tryd.zeroValue114
  t51 := Tryd.underlying156
  a51 := Tryd.isAgg156
  z51 := Tryd.sizeOf156
  v51 := Tryd.zeroValue156
  t70 := Tryd.underlying81
  a70 := Tryd.isAgg81
  z70 := Tryd.sizeOf81
  v70 := Tryd.zeroValue81
  t72 := Tryd.underlying84
  a72 := Tryd.isAgg84
  z72 := Tryd.sizeOf84
  v72 := Tryd.zeroValue84
  t75 := Tryd.underlying132
  a75 := Tryd.isAgg132
  z75 := Tryd.sizeOf132
  v75 := Tryd.zeroValue132
  t76 := Tryd.underlying133
  a76 := Tryd.isAgg133
  z76 := Tryd.sizeOf133
  v76 := Tryd.zeroValue133
  t105 := Tryd.underlying138
  a105 := Tryd.isAgg138
  z105 := Tryd.sizeOf138
  v105 := Tryd.zeroValue138
  t119 := Tryd.underlying152
  a119 := Tryd.isAgg152
  z119 := Tryd.sizeOf152
  t127 := Tryd.underlying129
  a127 := Tryd.isAgg129
  z127 := Tryd.sizeOf129
  v127 := Tryd.zeroValue129
  t138 := Tryd.underlying154
  a138 := Tryd.isAgg154
  z138 := Tryd.sizeOf154
  v138 := Tryd.zeroValue154
  t139 := Tryd.underlying155
  a139 := Tryd.isAgg155
  z139 := Tryd.sizeOf155
  v139 := Tryd.zeroValue155
  t146 := Tryd.underlying157
  a146 := Tryd.isAgg157
  z146 := Tryd.sizeOf157
  v146 := Tryd.zeroValue157
  t164 := Tryd.underlying149
  a164 := Tryd.isAgg149
  z164 := Tryd.sizeOf149
  v164 := Tryd.zeroValue149
  g1 := by kernel_rfl
  g3 := by kernel_rfl
  g4 := by kernel_rfl }
theorem Tryd.extraRA : Builder.Extra Tryd.prog Tryd.laysRA_ren := {
  sizeBuilder := by kernel_rfl
  liesBuilder := by kernel_rfl
  t5 := Tryd.laysRA.t5
  a5 := Tryd.laysRA.a5
  z5 := Tryd.laysRA.z5
  v5 := Tryd.laysRA.v5
  infoByte := by kernel_rfl
  cellsByte := by kernel_rfl
  sizeByte := by kernel_rfl
  neB5 := by decide }
end Go.Proofs

/- strings.ReplaceAll, by the library's contract. -/
namespace Go.Proofs.YtjpcghlpkinahaaDoor
open Go.Ax
def repAll (s old new : Str) : Option Str := cond (decide (s.length < 4294967281) && decide (1 ≤ old.length) && decide (s.length + Lib.count s old * new.length ≤ 140737488355328) && decide ((Lib.replaceAll s old new).length ≤ maxLen)) (some (Lib.replaceAll s old new)) none
def repAll_F : FT [.str, .str, .str] [.str] := fun x => repAll x.1 x.2.1 x.2.2
theorem repAll_ok : FnOk Tryd.prog elT glT 41 [.str, .str, .str] [.str] repAll_F := by
  refine ⟨Sx.enters_of Tryd.func41 rfl (by kernel_rfl), fun x r hx w M vs hM hgl hr => ?_⟩
  obtain ⟨s, old, new⟩ := x
  simp only [repAll_F, repAll] at hx
  cases hc : decide (s.length < 4294967281) && decide (1 ≤ old.length) && decide (s.length + Lib.count s old * new.length ≤ 140737488355328) && decide ((Lib.replaceAll s old new).length ≤ maxLen) with
  | false => rw [hc] at hx; cases hx
  | true =>
    rw [hc] at hx
    have hx : some (Lib.replaceAll s old new) = some r := hx
    simp only [Option.some.injEq] at hx
    subst hx
    simp only [Bool.and_eq_true, decide_eq_true_eq] at hc
    obtain ⟨⟨⟨h1, h2⟩, h3⟩, h4⟩ := hc
    simp only [encL, enc1, Reps, Rep] at hr
    obtain ⟨u, us, rfl, ⟨rfl, _⟩, u2, us2, rfl, ⟨rfl, _⟩, u3, us3, rfl, ⟨rfl, _⟩, rfl⟩ := hr
    obtain ⟨m, hm⟩ := hgl.2.2 3 .i64 rfl
    have c := Any.strings_ReplaceAll Tryd.laysRA Tryd.extraRA ⟨s.toArray⟩ ⟨old.toArray⟩ ⟨new.toArray⟩ m w (by simpa [ByteArray.size] using h1) (hm w (Chg.refl _ _)) (by simpa [ByteArray.size] using h2) (by simpa [ByteArray.size, Lib.countB] using h3)
    refine Calls.mono (show Calls Tryd.prog 41 _ w _ from c) ?_
    rintro en w' ⟨rfl, hb⟩
    refine ⟨_, ⟨fun _ => 0, fun _ => Option.none⟩, rfl, Chg.of_below hb, fun p g o hp => (by simp [owns] at hp), fun p q g o o2 hp => (by simp [owns] at hp), ?_⟩
    simp only [pack, encL, enc1, Rep]
    exact ⟨by simp, h4⟩
end Go.Proofs.YtjpcghlpkinahaaDoor

/- Plain law: decimal digits, the lowest first. -/
namespace Go.Proofs.YtjpcghlpkinahaaDoor
open Go.Ax
def pw : Nat → Int
  | 0 => 1
  | n + 1 => 10 * pw n
theorem pw_pos : ∀ n, 0 < pw n
  | 0 => by decide
  | n + 1 => by have := pw_pos n; simp only [pw]; omega
theorem pw_add : ∀ a b, pw (a + b) = pw a * pw b
  | 0, b => by simp [pw]
  | a + 1, b => by rw [Nat.add_right_comm]; simp only [pw]; rw [pw_add a b, Int.mul_assoc]
theorem pw_mono {a b : Nat} (h : a ≤ b) : pw a ≤ pw b := by
  induction b with
  | zero => have : a = 0 := by omega
            subst this; exact Int.le_refl _
  | succ b ih =>
    rcases Nat.le_succ_iff.1 h with h | h
    · have := ih h; have := pw_pos b; simp only [pw]; omega
    · subst h; exact Int.le_refl _
def val : List Int → Int
  | [] => 0
  | x :: l => x + 10 * val l
def dg (l : List Int) : Bool := l.all fun x => decide (0 ≤ x) && decide (x ≤ 9)
theorem dg_cons {x : Int} {l : List Int} : dg (x :: l) = true ↔ (0 ≤ x ∧ x ≤ 9) ∧ dg l = true := by
  simp [dg]
theorem dg_nil : dg [] = true := rfl
theorem dg_app {l m : List Int} : dg (l ++ m) = true ↔ dg l = true ∧ dg m = true := by
  simp [dg, List.all_append]
theorem val_nn : ∀ {l : List Int}, dg l = true → 0 ≤ val l
  | [], _ => by simp [val]
  | x :: l, h => by have h := dg_cons.1 h; have := val_nn h.2; simp only [val]; omega
theorem val_lt : ∀ {l : List Int}, dg l = true → val l < pw l.length
  | [], _ => by simp [val, pw]
  | x :: l, h => by have h := dg_cons.1 h; have := val_lt h.2; simp only [val, List.length_cons, pw]; omega
theorem val_app : ∀ (l m : List Int), val (l ++ m) = val l + pw l.length * val m
  | [], m => by simp [val, pw]
  | x :: l, m => by
    simp only [List.cons_append, val, val_app l m, List.length_cons, pw]
    rw [Int.mul_add, Int.add_assoc, Int.mul_assoc]
theorem dg_drop : ∀ {l : List Int} (i : Nat), dg l = true → dg (l.drop i) = true
  | [], i, _ => by simp [dg]
  | x :: l, 0, h => h
  | x :: l, i + 1, h => dg_drop (l := l) i (dg_cons.1 h).2
theorem dg_take : ∀ {l : List Int} (i : Nat), dg l = true → dg (l.take i) = true
  | [], i, _ => by simp [dg]
  | x :: l, 0, h => rfl
  | x :: l, i + 1, h => by
    rw [List.take_succ_cons]
    exact dg_cons.2 ⟨(dg_cons.1 h).1, dg_take i (dg_cons.1 h).2⟩
/-- a digit; 0 beyond -/
def dgt (l : List Int) (i : Nat) : Int := l.getD i 0
theorem dgt_bd {l : List Int} (h : dg l = true) (i : Nat) : 0 ≤ dgt l i ∧ dgt l i ≤ 9 := by
  induction l generalizing i with
  | nil => simp [dgt]
  | cons x l ih =>
    have h := dg_cons.1 h
    cases i with
    | zero => simpa [dgt] using h.1
    | succ i => simpa [dgt] using ih h.2 i
theorem val_drop (l : List Int) (i : Nat) : val (l.drop i) = dgt l i + 10 * val (l.drop (i + 1)) := by
  induction l generalizing i with
  | nil => simp [dgt, val]
  | cons x l ih =>
    cases i with
    | zero => simp [dgt, val]
    | succ i => simpa [dgt] using ih i
theorem val_split {l : List Int} (h : dg l = true) (j : Nat) : ∃ lo, 0 ≤ lo ∧ lo < pw j ∧ val l = lo + pw j * val (l.drop j) := by
  induction l generalizing j with
  | nil => exact ⟨0, Int.le_refl _, pw_pos j, by simp [val]⟩
  | cons x l ih =>
    have h := dg_cons.1 h
    cases j with
    | zero => exact ⟨0, Int.le_refl _, pw_pos 0, by simp [pw]⟩
    | succ j =>
      obtain ⟨lo, h1, h2, h3⟩ := ih h.2 j
      refine ⟨x + 10 * lo, by omega, by simp only [pw]; omega, ?_⟩
      simp only [val, List.drop_succ_cons, pw, h3]
      rw [Int.mul_add, Int.add_assoc, Int.mul_assoc]
theorem val_drop_le {l : List Int} (h : dg l = true) (j : Nat) : val (l.drop j) ≤ val l := by
  obtain ⟨lo, h1, h2, h3⟩ := val_split h j
  have h4 := val_nn (dg_drop j h)
  have h5 : 1 * val (l.drop j) ≤ pw j * val (l.drop j) := Int.mul_le_mul_of_nonneg_right (by have := pw_pos j; omega) h4
  omega
theorem val_take (l : List Int) : ∀ (i : Nat), i < l.length → val (l.take (i + 1)) = val (l.take i) + pw i * dgt l i := by
  induction l with
  | nil => intro i h; simp at h
  | cons x l ih =>
    intro i h
    cases i with
    | zero => simp [val, dgt, pw]
    | succ i =>
      have := ih i (by simpa using h)
      simp only [List.take_succ_cons, val, this, pw]
      have e : dgt (x :: l) (i + 1) = dgt l i := by simp [dgt]
      rw [e, Int.mul_add, Int.add_assoc, Int.mul_assoc]
theorem val_set (l : List Int) (y : Int) : ∀ (i : Nat), i < l.length → val (l.set i y) = val l + pw i * (y - dgt l i) := by
  induction l with
  | nil => intro i h; simp at h
  | cons x l ih =>
    intro i h
    cases i with
    | zero => simp [val, dgt, pw]; omega
    | succ i =>
      have := ih i (by simpa using h)
      simp only [List.set_cons_succ, val, this, pw]
      have e : dgt (x :: l) (i + 1) = dgt l i := by simp [dgt]
      rw [e, Int.mul_add, Int.add_assoc, Int.mul_assoc]
theorem dg_set {l : List Int} {y : Int} (hy : 0 ≤ y ∧ y ≤ 9) : ∀ (i : Nat), dg l = true → dg (l.set i y) = true := by
  induction l with
  | nil => intro i _; rfl
  | cons x l ih =>
    intro i h
    have h := dg_cons.1 h
    cases i with
    | zero => exact dg_cons.2 ⟨hy, h.2⟩
    | succ i => exact dg_cons.2 ⟨h.1, ih i h.2⟩
theorem val_rep (n : Nat) : val (List.replicate n 0) = 0 := by
  induction n with
  | zero => rfl
  | succ n ih => simp [List.replicate_succ, val, ih]
theorem dg_rep (n : Nat) : dg (List.replicate n 0) = true := by
  induction n with
  | zero => rfl
  | succ n ih => rw [List.replicate_succ]; exact dg_cons.2 ⟨by omega, ih⟩
/-! ## the digits of a number -/
def digs (n : Nat) : List Int := if h : n = 0 then [] else ((n % 10 : Nat) : Int) :: digs (n / 10)
termination_by n
decreasing_by omega
theorem digs_zero : digs 0 = [] := by rw [digs]; simp
theorem digs_pos {n : Nat} (h : ¬ n = 0) : digs n = ((n % 10 : Nat) : Int) :: digs (n / 10) := by rw [digs]; simp [h]
theorem digs_val (n : Nat) : val (digs n) = (n : Int) := by
  induction n using Nat.strongRecOn with
  | ind n ih =>
    by_cases h : n = 0
    · subst h; rw [digs_zero]; rfl
    · rw [digs_pos h, val, ih (n / 10) (by omega)]; omega
theorem digs_dg (n : Nat) : dg (digs n) = true := by
  induction n using Nat.strongRecOn with
  | ind n ih =>
    by_cases h : n = 0
    · subst h; rw [digs_zero]; rfl
    · rw [digs_pos h]; exact dg_cons.2 ⟨by omega, ih (n / 10) (by omega)⟩
theorem digs_len : ∀ (k n : Nat), (n : Int) < pw k → (digs n).length ≤ k
  | 0, n, h => by
    have : n = 0 := by simp only [pw] at h; omega
    subst this; rw [digs_zero]; exact Nat.le_refl _
  | k + 1, n, h => by
    by_cases h0 : n = 0
    · subst h0; rw [digs_zero]; simp
    · have := digs_len k (n / 10) (by simp only [pw] at h; omega)
      rw [digs_pos h0]
      simp only [List.length_cons]
      omega
theorem digs_ne {n : Nat} (h : ¬ n = 0) : ¬ digs n = [] := by rw [digs_pos h]; simp
/-- without noughts behind -/
def trimL : List Int → List Int
  | [] => []
  | x :: l => match trimL l with
    | [] => if x = 0 then [] else [x]
    | y :: t => x :: y :: t
theorem trimL_digs : ∀ {l : List Int}, dg l = true → trimL l = digs (val l).toNat
  | [], _ => by simp only [trimL, val]; exact digs_zero.symm
  | x :: l, h => by
    have h := dg_cons.1 h
    have ih := trimL_digs h.2
    have hv := val_nn h.2
    simp only [trimL, ih, val]
    by_cases h0 : val l = 0
    · rw [h0]
      have e : digs (0 : Int).toNat = [] := digs_zero
      rw [e]
      by_cases hx : x = 0
      · subst hx; rw [if_pos rfl]; exact digs_zero.symm
      · rw [if_neg hx, digs_pos (by omega), show (x + 10 * 0).toNat / 10 = 0 by omega, digs_zero, show (((x + 10 * 0).toNat % 10 : Nat) : Int) = x by omega]
    · have hne := digs_ne (n := (val l).toNat) (by omega)
      rw [digs_pos (n := (x + 10 * val l).toNat) (by omega), show (x + 10 * val l).toNat / 10 = (val l).toNat by omega, show (((x + 10 * val l).toNat % 10 : Nat) : Int) = x by omega]
      cases hd : digs (val l).toNat with
      | nil => exact absurd hd hne
      | cons y t => rfl
theorem trimL_zero : ∀ (l : List Int), trimL (l ++ [0]) = trimL l
  | [] => by simp [trimL]
  | x :: l => by simp only [List.cons_append, trimL, trimL_zero l]
theorem trimL_last {y : Int} (hy : ¬ y = 0) : ∀ (l : List Int), trimL (l ++ [y]) = l ++ [y]
  | [] => by simp [trimL, hy]
  | x :: l => by
    simp only [List.cons_append, trimL, trimL_last hy l]
    cases l <;> simp
/-! ## numbers -/
def numS (m : Bool) (v : Int) : Num := ⟨m && decide (0 < v), digs v.toNat⟩
def numZ (z : Int) : Num := numS (decide (z < 0)) (z.natAbs : Int)
def nv (n : Num) : Int := if n.minus = true then -val n.d else val n.d
def okN (n : Num) : Bool := dg n.d && decide (n.d.length ≤ 1000)
theorem okN_spec {n : Num} (h : okN n = true) : dg n.d = true ∧ n.d.length ≤ 1000 := by simpa [okN] using h
theorem nv_Z (z : Int) : nv (numZ z) = z := by
  simp only [nv, numZ, numS, digs_val, Int.toNat_natCast]
  by_cases h : z < 0
  · rw [decide_eq_true h, decide_eq_true (show (0 : Int) < (z.natAbs : Int) by omega)]
    simp only [Bool.and_true, if_pos]
    omega
  · rw [decide_eq_false h]
    simp only [Bool.false_and, Bool.false_eq_true, if_false]
    omega
theorem okZ {z : Int} (h : -(pw 1000) < z ∧ z < pw 1000) : okN (numZ z) = true := by
  have h1 := digs_len 1000 z.natAbs (by omega)
  simp only [okN, numZ, numS, Int.toNat_natCast, digs_dg, Bool.true_and]
  exact decide_eq_true h1
theorem numZ_S (m : Bool) {v : Int} (h : 0 ≤ v) : numS m v = numZ (if m = true then -v else v) := by
  cases m
  · simp only [Bool.false_eq_true, if_false, numZ]
    rw [decide_eq_false (by omega)]
    simp only [numS, Bool.false_and]
    congr 2
    omega
  · simp only [if_true, numZ]
    by_cases h0 : v = 0
    · subst h0; rfl
    · rw [decide_eq_true (by omega), show ((-v).natAbs : Int) = v by omega]
theorem val_td (l : List Int) (j : Nat) : val l = val (l.take j) + pw j * val (l.drop j) := by
  induction l generalizing j with
  | nil => simp [val]
  | cons x l ih =>
    cases j with
    | zero => simp [pw, val]
    | succ j =>
      simp only [List.take_succ_cons, List.drop_succ_cons, val, pw]
      have := ih j
      rw [Int.mul_assoc]
      omega
theorem val_dt (l : List Int) (i n : Nat) : val ((l.drop i).take (n + 1)) = dgt l i + 10 * val ((l.drop (i + 1)).take n) := by
  induction l generalizing i with
  | nil => simp [dgt, val]
  | cons x l ih =>
    cases i with
    | zero => simp [dgt, val]
    | succ i => simpa [dgt] using ih i
theorem ten {x : Int} (h : 0 ≤ x) : Int.tmod x 10 = x % 10 ∧ Int.tdiv x 10 = x / 10 := ⟨Int.tmod_eq_emod_of_nonneg h, Int.tdiv_eq_ediv_of_nonneg h⟩
end Go.Proofs.YtjpcghlpkinahaaDoor

/- The text of a value: the program's. -/
namespace Go.Proofs.YtjpcghlpkinahaaDoor
open Go.Ax
/-! ## two digits to a byte -/
abbrev hexL : Str := [48, 49, 50, 51, 52, 53, 54, 55, 56, 57, 97, 98, 99, 100, 101, 102]
def hex2 (n : Nat) : Str := [hexL.getD (n / 16) 0, hexL.getD (n % 16) 0]
def hexs (s : Str) : Str := s.flatMap fun b => hex2 b.toNat
def hxOk (n : Nat) : Bool := inb (ishr .u8 (n : Int) 4) 16 && inb (iand .u8 (n : Int) 15) 16 && decide ([(UInt8.ofNat ((bat hexL (ishr .u8 (n : Int) 4)) : Int).toNat), (UInt8.ofNat ((bat hexL (iand .u8 (n : Int) 15)) : Int).toNat)] = hex2 n)
theorem hx_all : ((List.range 256).all hxOk) = true := by kernel_rfl
theorem hx (b : UInt8) : inb (ishr .u8 (b.toNat : Int) 4) 16 = true ∧ inb (iand .u8 (b.toNat : Int) 15) 16 = true ∧ [(UInt8.ofNat ((bat hexL (ishr .u8 (b.toNat : Int) 4)) : Int).toNat), (UInt8.ofNat ((bat hexL (iand .u8 (b.toNat : Int) 15)) : Int).toNat)] = hex2 b.toNat := by
  have h := List.all_eq_true.1 hx_all b.toNat (List.mem_range.2 b.toNat_lt)
  simp only [hxOk, Bool.and_eq_true, decide_eq_true_eq] at h
  exact ⟨h.1.1, h.1.2, h.2⟩
theorem hexs_len (s : Str) : (hexs s).length = 2 * s.length := by
  induction s with
  | nil => rfl
  | cons b l ih => simp only [hexs, List.flatMap_cons, hex2, List.length_append, List.length_cons, List.length_nil] at ih ⊢; omega
/-! ## exchequer/value.hex -/
def vhex_0_sg : Sig := ⟨26, [(0, .str), (3, .sl .byte true), (6, .int .i64), (7, .int .i64)], [], [], 0, 0, 0, [], []⟩
abbrev vhex_0_V := Str × List UInt8 × Int × Int
def vhex_0 {R : Type} (rec : vhex_0_V → Option R) (kx : Ex → vhex_0_V → Option R) (v : vhex_0_V) : Option R := match v with
 | (v, v1, v2, v3) =>
  cond (decide (v3 < v2)) (
   chk (inb v3 v.length) (
    chk (inb (ishr .u8 (bat v v3) 4) 16) (
     chk (inb v3 v.length) (
      chk (inb (iand .u8 (bat v v3) 15) 16) (
       chk (decide (v1.length + 2 ≤ maxApp)) (
        rec (v, (v1 ++ [(UInt8.ofNat ((bat [48, 49, 50, 51, 52, 53, 54, 55, 56, 57, 97, 98, 99, 100, 101, 102] (ishr .u8 (bat v v3) 4)) : Int).toNat), (UInt8.ofNat ((bat [48, 49, 50, 51, 52, 53, 54, 55, 56, 57, 97, 98, 99, 100, 101, 102] (iand .u8 (bat v v3) 15)) : Int).toNat)]), v2, (wr .i64 (v3 + 1))))))))) (
   kx (.exit 0) (v, v1, v2, v3))
def vhex_px (R : Type) (k : Nat) : Px R := ⟨ttOf ttL, glT, callT [], callQT [], loopT [(3, loopOr k vhex_0_sg (vhex_0))]⟩
theorem vhex_0_eq (R : Type) (k : Nat) : ∀ (fr : List Fr) (rec : vhex_0_V → Option R) (kx : Ex → vhex_0_V → Option R) (v : vhex_0_V), round (vhex_px R k) vhex_0_sg (lp Tryd.f42 0) fr rec kx v = vhex_0 rec kx v
  | fr, rec, kx, (v, v1, v2, v3) => by kernel_rfl
def vhex_body (k : Nat) (x : HV [.str]) : Option (HV [.str]) := match x with
 | s =>
  iter (fun rec => vhex_0 rec (fun e v => match v with | (_, v5, _, _) => match e with
   | .exit 0 =>
    some v5
   | _ => none)) k (s, [], (s.length : Int), 0)
theorem vhex_eq (k : Nat) : ∀ (x : HV [.str]), runF (vhex_px _ k) Tryd.f42 [.str] [.str] x some = vhex_body k x
  | s => by kernel_rfl
theorem vhex_run (k : Nat) : FnOk Tryd.prog elT glT 42 [.str] [.str] (vhex_body k) := by
  refine fnOk_run Tryd.func42 rfl (by kernel_rfl) follows (by kernel_rfl) (n := 1) (by kernel_rfl) (px := vhex_px _ k) (fun cx hP hel hgl => ?_) (vhex_eq k)
  have hp0 : PxOk cx (vhex_px (HV [.str]) k) := ⟨fun t => by rw [hP, hel]; exact tt_ok ttL_ok t, by rw [hgl]; rfl⟩
  have hc0 : CallOk cx (vhex_px (HV [.str]) k) := callT_ok rfl cfs_nil
  have hq0 : CallQOk cx (vhex_px (HV [.str]) k) := callQT_ok rfl cqfs_nil
  have hlvhex_0 : LoopOk cx (vhex_px (HV [.str]) k) (lp Tryd.f42 0) := loop_ok hp0 hc0 hq0 (by rw [hP]; exact follows) (k := k) (s := vhex_0_sg) (step := vhex_0) (fun _ _ => by kernel_rfl) (by kernel_rfl) (vhex_0_eq _ k) (loops_in (n := 0) (by kernel_rfl) all0)
  exact ⟨hp0, hc0, hq0, (allS all0 hlvhex_0)⟩
def vhex (s : Str) : Option Str := cond (decide (s.length ≤ 3000)) (some (hexs s)) none
def vhex_F : FT [.str] [.str] := fun x => vhex x
theorem vhex_loop {R : Type} {kx : Ex → vhex_0_V → Option R} {s : Str} {b : Str → Option R} (hs : s.length ≤ 3000) (h2 : ∀ out j, kx (.exit 0) (s, out, (s.length : Int), j) = b out) : ∀ (k i : Nat) (out : Str), i ≤ s.length → s.length - i < k → out.length ≤ 2 * i → iter (fun rec => vhex_0 rec kx) k (s, out, (s.length : Int), (i : Int)) = b (out ++ hexs (s.drop i))
  | 0, i, _, _, h, _ => absurd h (Nat.not_lt_zero _)
  | k + 1, i, out, hi, h, ho => by
    rw [iter_s]
    by_cases hl : i < s.length
    · obtain ⟨h3, h4, h5⟩ := hx (s[i]'hl)
      have hn : ln s.length := by simp only [ln]; omega
      have ih := vhex_loop hs h2 k (i + 1) (out ++ hex2 (s[i]'hl).toNat) (by omega) (by omega) (by simp only [List.length_append, hex2, List.length_cons, List.length_nil]; omega)
      simp only [vhex_0, wr_succ hl hn, bat_nat hl, inb_t hl, h3, h4, h5, ih, h2]
      rw [decide_eq_true (show (i : Int) < (s.length : Int) by omega), decide_eq_true (show out.length + 2 ≤ maxApp by simp only [maxApp]; omega), drop_cons hl]
      simp only [chk, cond_t, hexs, List.flatMap_cons, List.append_assoc]
    · simp only [vhex_0, h2]
      rw [decide_eq_false (show ¬ (i : Int) < (s.length : Int) by omega), List.drop_eq_nil_of_le (by omega)]
      simp [hexs]
theorem vhex_ok : FnOk Tryd.prog elT glT 42 [.str] [.str] vhex_F := .fin 0 vhex_run fun s r hb hx => ⟨3001, by
  simp only [vhex_F, vhex] at hx
  by_cases hs : s.length ≤ 3000
  · rw [decide_eq_true hs] at hx
    simp only [vhex_body]
    exact (vhex_loop (b := some) hs (fun _ _ => rfl) 3001 0 [] (Nat.zero_le _) (by omega) (by simp)).trans hx
  · rw [decide_eq_false hs] at hx
    cases hx⟩
/-! ## decimal -/
def dch (d : Int) : UInt8 := UInt8.ofNat (48 + d).toNat
def txt (l : List Int) : Str := (l.map dch).reverse
def numT (n : Int) : Str := let t := if n = 0 then [48] else txt (digs n.natAbs)
  if n < 0 then 45 :: t else t
theorem txt_cons (d : Int) (l : List Int) : txt (d :: l) = txt l ++ [dch d] := by simp [txt]
theorem dch_u {d : Int} (h : 0 ≤ d ∧ d ≤ 9) : UInt8.ofNat ((wr .u8 (wr .u64 (48 + d))) : Int).toNat = dch d := by
  have e : wr .u8 (wr .u64 (48 + d)) = 48 + d := by
    rw [wru_id (by omega)]
    simp only [wr, IntKind.wrap, IntKind.bits, IntKind.signed]
    simp
    omega
  rw [e]; rfl
theorem txt_len (l : List Int) : (txt l).length = l.length := by simp [txt]
theorem txt_step (n : Int) : txt (digs (n.natAbs / 10)) ++ [dch ((n.natAbs % 10 : Nat) : Int)] = if n = 0 then [48] else txt (digs n.natAbs) := by
  by_cases h0 : n = 0
  · subst h0
    rw [if_pos rfl, show (0 : Int).natAbs / 10 = 0 from rfl, digs_zero]
    rfl
  · rw [if_neg h0, digs_pos (n := n.natAbs) (by omega), txt_cons]
/-! ## exchequer/value.digits -/
def vdigits_0_sg : Sig := ⟨32, [(0, .int .i64), (3, .sl .byte true), (4, .int .u64)], [], [], 0, 0, 0, [], []⟩
abbrev vdigits_0_V := Int × List UInt8 × Int
def vdigits_0 {R : Type} (rec : vdigits_0_V → Option R) (kx : Ex → vdigits_0_V → Option R) (v : vdigits_0_V) : Option R := match v with
 | (v, v1, v2) =>
  cond (decide (0 < v2)) (
   chk (decide (1 + v1.length ≤ maxApp)) (
    rec (v, ([(UInt8.ofNat ((wr .u8 (wr .u64 (48 + (Int.tmod v2 10)))) : Int).toNat)] ++ v1), (wr .u64 (Int.tdiv v2 10))))) (
   kx (.exit 0) (v, v1, v2))
def vdigits_px (R : Type) (k : Nat) : Px R := ⟨ttOf ttL, glT, callT [(77, callOr [.int .i64] [.int .u64] vsize_F)], callQT [], loopT [(3, loopOr k vdigits_0_sg (vdigits_0))]⟩
theorem vdigits_0_eq (R : Type) (k : Nat) : ∀ (fr : List Fr) (rec : vdigits_0_V → Option R) (kx : Ex → vdigits_0_V → Option R) (v : vdigits_0_V), round (vdigits_px R k) vdigits_0_sg (lp Tryd.f40 0) fr rec kx v = vdigits_0 rec kx v
  | fr, rec, kx, (v, v1, v2) => by kernel_rfl
def vdigits_body (k : Nat) (x : HV [.int .i64]) : Option (HV [.str]) := match x with
 | n =>
  iter (fun rec => vdigits_0 rec (fun e v => match v with | (v3, v4, _) => match e with
   | .exit 0 =>
    cond (decide (v3 < 0)) (
     chk (decide ([45].length + v4.length ≤ maxStr)) (
      some ([45] ++ v4))) (
     some v4)
   | _ => none)) k (n, [(UInt8.ofNat ((wr .u8 (wr .u64 (48 + (Int.tmod (vsize n) 10)))) : Int).toNat)], (wr .u64 (Int.tdiv (vsize n) 10)))
theorem vdigits_eq (k : Nat) : ∀ (x : HV [.int .i64]), runF (vdigits_px _ k) Tryd.f40 [.int .i64] [.str] x some = vdigits_body k x
  | n => by kernel_rfl
theorem vdigits_run (k : Nat) : FnOk Tryd.prog elT glT 40 [.int .i64] [.str] (vdigits_body k) := by
  refine fnOk_run Tryd.func40 rfl (by kernel_rfl) follows (by kernel_rfl) (n := 1) (by kernel_rfl) (px := vdigits_px _ k) (fun cx hP hel hgl => ?_) (vdigits_eq k)
  have hp0 : PxOk cx (vdigits_px (HV [.str]) k) := ⟨fun t => by rw [hP, hel]; exact tt_ok ttL_ok t, by rw [hgl]; rfl⟩
  have hc0 : CallOk cx (vdigits_px (HV [.str]) k) := callT_ok rfl (cfs_cons (cf_or (by rw [hP, hel, hgl]; exact vsize_ok) (by kernel_rfl)) cfs_nil)
  have hq0 : CallQOk cx (vdigits_px (HV [.str]) k) := callQT_ok rfl cqfs_nil
  have hlvdigits_0 : LoopOk cx (vdigits_px (HV [.str]) k) (lp Tryd.f40 0) := loop_ok hp0 hc0 hq0 (by rw [hP]; exact follows) (k := k) (s := vdigits_0_sg) (step := vdigits_0) (fun _ _ => by kernel_rfl) (by kernel_rfl) (vdigits_0_eq _ k) (loops_in (n := 0) (by kernel_rfl) all0)
  exact ⟨hp0, hc0, hq0, (allS all0 hlvdigits_0)⟩
abbrev vdigits (n : Int) : Str := numT n
def vdigits_F : FT [.int .i64] [.str] := fun x => some (vdigits x)
theorem absZ {n : Int} (h : inI n) : vsize n = (n.natAbs : Int) := by
  rw [vsize_z h]
  simp only [absI]
  split <;> omega
theorem vdigits_loop {R : Type} {kx : Ex → vdigits_0_V → Option R} {n : Int} {b : Str → Option R} (h2 : ∀ out x, kx (.exit 0) (n, out, x) = b out) : ∀ (k a : Nat) (out : Str), (a : Int) ≤ 18446744073709551615 → (digs a).length < k → out.length + (digs a).length ≤ 1000 → iter (fun rec => vdigits_0 rec kx) k (n, out, (a : Int)) = b (txt (digs a) ++ out)
  | 0, a, out, _, h, _ => absurd h (Nat.not_lt_zero _)
  | k + 1, a, out, ha, h, ho => by
    rw [iter_s]
    by_cases h0 : a = 0
    · subst h0
      simp only [vdigits_0, h2]
      rw [decide_eq_false (by omega), digs_zero]
      rfl
    · have hd := digs_pos h0
      rw [hd, List.length_cons] at h ho
      have e1 : Int.tmod (a : Int) 10 = ((a % 10 : Nat) : Int) := rfl
      have e2 : wr .u64 (Int.tdiv (a : Int) 10) = ((a / 10 : Nat) : Int) := by
        have : Int.tdiv (a : Int) 10 = ((a / 10 : Nat) : Int) := rfl
        rw [this, wru_id (by omega)]
      have ih := vdigits_loop h2 k (a / 10) ([dch ((a % 10 : Nat) : Int)] ++ out) (by omega) (by omega) (by simp only [List.length_append, List.length_cons, List.length_nil]; omega)
      simp only [vdigits_0, e1, e2, dch_u (show 0 ≤ ((a % 10 : Nat) : Int) ∧ ((a % 10 : Nat) : Int) ≤ 9 by omega), ih]
      rw [decide_eq_true (show (0 : Int) < (a : Int) by omega), decide_eq_true (show 1 + out.length ≤ maxApp by simp only [maxApp]; omega), hd, txt_cons]
      simp [chk]
theorem vdigits_ok : FnOk Tryd.prog elT glT 40 [.int .i64] [.str] vdigits_F := .fin 0 vdigits_run fun n r hb hx => ⟨30, by
  have hb := inK_i64 hb
  simp only [vdigits_F, Option.some.injEq] at hx
  subst hx
  have hl : (digs (n.natAbs / 10)).length ≤ 20 := digs_len 20 _ (by
    simp only [inI] at hb
    have : pw 20 = 100000000000000000000 := by kernel_rfl
    omega)
  have e1 : Int.tmod (n.natAbs : Int) 10 = ((n.natAbs % 10 : Nat) : Int) := rfl
  have e2 : wr .u64 (Int.tdiv (n.natAbs : Int) 10) = ((n.natAbs / 10 : Nat) : Int) := by
    have : Int.tdiv (n.natAbs : Int) 10 = ((n.natAbs / 10 : Nat) : Int) := rfl
    simp only [inI] at hb
    rw [this, wru_id (by omega)]
  simp only [vdigits_body, absZ hb, e1, e2, dch_u (show 0 ≤ ((n.natAbs % 10 : Nat) : Int) ∧ ((n.natAbs % 10 : Nat) : Int) ≤ 9 by omega)]
  refine (vdigits_loop (b := fun out => cond (decide (n < 0)) (chk (decide ([45].length + out.length ≤ maxStr)) (some ([45] ++ out))) (some out)) (fun _ _ => rfl) 30 (n.natAbs / 10) [dch ((n.natAbs % 10 : Nat) : Int)] (by simp only [inI] at hb; omega) (by omega) (by simp only [List.length_cons, List.length_nil]; omega)).trans ?_
  have et := txt_step n
  have hlen : (txt (digs (n.natAbs / 10)) ++ [dch ((n.natAbs % 10 : Nat) : Int)]).length ≤ 21 := by
    rw [List.length_append, txt_len]; simp only [List.length_cons, List.length_nil]; omega
  have hc : decide ([45].length + (txt (digs (n.natAbs / 10)) ++ [dch ((n.natAbs % 10 : Nat) : Int)]).length ≤ maxStr) = true := decide_eq_true (by simp only [List.length_cons, List.length_nil, maxStr]; omega)
  simp only [hc, chk, cond_t]
  rw [et]
  simp only [vdigits, numT]
  by_cases h : n < 0
  · rw [decide_eq_true h, if_pos h]; rfl
  · rw [decide_eq_false h, if_neg h]; rfl⟩
/-! ## a text between signs -/
def quo : Str → Str
  | [] => []
  | b :: l => if b = 39 then 39 :: 39 :: quo l else b :: quo l
theorem quo_len (s : Str) : (quo s).length ≤ 2 * s.length := by
  induction s with
  | nil => simp [quo]
  | cons b l ih =>
    simp only [quo]
    split <;> simp only [List.length_cons] <;> omega
theorem quo_index : ∀ s : Str, (Lib.index s [39] = -1 ∧ quo s = s) ∨ ∃ i : Nat, Lib.index s [39] = (i : Int) ∧ i < s.length ∧ quo s = s.take i ++ [39, 39] ++ quo (s.drop (i + 1))
  | [] => .inl ⟨rfl, rfl⟩
  | b :: l => by
    by_cases h : b = 39
    · subst h
      refine .inr ⟨0, rfl, by simp, by simp [quo]⟩
    · have hp : List.isPrefixOf [39] (b :: l) = false := by
        simp only [List.isPrefixOf, Bool.and_true]
        exact beq_eq_false_iff_ne.2 (Ne.symm h)
      rcases quo_index l with ⟨h1, h2⟩ | ⟨i, h1, h2, h3⟩
      · left
        refine ⟨?_, by simp only [quo, if_neg h, h2]⟩
        unfold Lib.index
        rw [hp, h1]
        rfl
      · right
        refine ⟨i + 1, ?_, by simpa using h2, ?_⟩
        · unfold Lib.index
          rw [hp, h1]
          have : ((i : Int) == -1) = false := beq_eq_false_iff_ne.2 (by omega)
          simp [this]
        · simp only [quo, if_neg h, h3, List.take_succ_cons, List.drop_succ_cons, List.cons_append]
theorem quo_count : ∀ (f : Nat) (s : Str), s.length < f → Lib.replaceK [39] [39, 39] (Lib.countFrom [39] f s) s = quo s
  | 0, s, h => absurd h (Nat.not_lt_zero _)
  | f + 1, s, h => by
    rcases quo_index s with ⟨h1, h2⟩ | ⟨i, h1, h2, h3⟩
    · simp only [Lib.countFrom, h1]
      exact h2.symm
    · have hn : ((i : Int) == -1) = false := beq_eq_false_iff_ne.2 (by omega)
      have ih := quo_count f (s.drop (i + 1)) (by rw [List.length_drop]; omega)
      have e : Lib.countFrom [39] (f + 1) s = Lib.countFrom [39] f (s.drop (i + 1)) + 1 := by
        simp only [Lib.countFrom, h1, hn, Int.toNat_natCast, List.length_cons, List.length_nil]
        simp [Nat.add_comm]
      rw [e, Lib.replaceK_hit _ _ _ _ i h1]
      simp only [List.length_cons, List.length_nil, Nat.zero_add]
      rw [ih, h3]
theorem quo_all (s : Str) : Lib.replaceAll s [39] [39, 39] = quo s := by
  have e : Lib.replaceNum s [39] (-1) = Lib.countFrom [39] (s.length + 1) s := by
    unfold Lib.replaceNum
    rw [if_pos (.inl (by decide))]
    rfl
  have hc := quo_count (s.length + 1) s (by omega)
  rw [← e] at hc
  exact hc
theorem repAll_quo {s : Str} (h : s.length ≤ 3000) : repAll s [39] [39, 39] = some (quo s) := by
  have h1 := Lib.countB_mul_le ⟨#[39]⟩ (by decide) s.length ⟨s.toArray⟩ (Nat.le_refl _)
  have h2 : Lib.count s [39] * 1 ≤ s.length := h1
  have h3 := quo_len s
  simp only [repAll, quo_all]
  rw [decide_eq_true (show s.length < 4294967281 by omega), decide_eq_true (show 1 ≤ ([39] : Str).length by decide), decide_eq_true (show s.length + Lib.count s [39] * ([39, 39] : Str).length ≤ 140737488355328 by simp only [List.length_cons, List.length_nil]; omega), decide_eq_true (show (quo s).length ≤ maxLen by simp only [maxLen]; omega)]
  rfl
/-! ## exchequer/value.Print -/
def vprint_px (R : Type) : Px R := ⟨ttOf ttL, glT, callT [(39, callOr [.sv .val] [.bool] vright_F), (40, callOr [.int .i64] [.str] vdigits_F), (41, callOr [.str, .str, .str] [.str] repAll_F), (42, callOr [.str] [.str] vhex_F)], callQT [], loopT []⟩
def vprint_body (x : HV [.sv .val]) : Option (HV [.str]) := match x with
 | v =>
  cond (!(vright v)) (
   some []) (
   cond (decide (v.kind = 2)) (
    chk (inb v.n 2) (
     some (at' .str [[70, 65, 76, 83, 69], [84, 82, 85, 69]] v.n))) (
    cond (decide (v.kind = 3)) (
     some (vdigits v.n)) (
     cond (decide (v.kind = 4)) (
      (repAll v.s [39] [39, 39]).bind fun x =>
       chk (decide ([39].length + x.length ≤ maxStr)) (
        chk (decide (([39] ++ x).length + [39].length ≤ maxStr)) (
         some (([39] ++ x) ++ [39])))) (
      cond (decide (v.kind = 5)) (
       (vhex v.s).bind fun x1 =>
        chk (decide ([120, 39].length + x1.length ≤ maxStr)) (
         chk (decide (([120, 39] ++ x1).length + [39].length ≤ maxStr)) (
          some (([120, 39] ++ x1) ++ [39])))) (
       some [78, 85, 76, 76])))))
theorem vprint_eq : ∀ (x : HV [.sv .val]), runF (vprint_px _) Tryd.f15 [.sv .val] [.str] x some = vprint_body x
  | v => by kernel_rfl
theorem vprint_run : FnOk Tryd.prog elT glT 15 [.sv .val] [.str] (vprint_body) := by
  refine fnOk_run Tryd.func15 rfl (by kernel_rfl) follows (by kernel_rfl) (n := 0) (by kernel_rfl) (px := vprint_px _) (fun cx hP hel hgl => ?_) (vprint_eq)
  have hp0 : PxOk cx (vprint_px (HV [.str])) := ⟨fun t => by rw [hP, hel]; exact tt_ok ttL_ok t, by rw [hgl]; rfl⟩
  have hc0 : CallOk cx (vprint_px (HV [.str])) := callT_ok rfl (cfs_cons (cf_or (by rw [hP, hel, hgl]; exact vright_ok) (by kernel_rfl)) (cfs_cons (cf_or (by rw [hP, hel, hgl]; exact vdigits_ok) (by kernel_rfl)) (cfs_cons (cf_or (by rw [hP, hel, hgl]; exact repAll_ok) (by kernel_rfl)) (cfs_cons (cf_or (by rw [hP, hel, hgl]; exact vhex_ok) (by kernel_rfl)) cfs_nil))))
  have hq0 : CallQOk cx (vprint_px (HV [.str])) := callQT_ok rfl cqfs_nil
  exact ⟨hp0, hc0, hq0, all0⟩
def vprint (v : Val) : Str := cond (vright v) (if v.kind = 2 then (if v.n = 0 then [70, 65, 76, 83, 69] else [84, 82, 85, 69]) else if v.kind = 3 then numT v.n else if v.kind = 4 then 39 :: (quo v.s ++ [39]) else if v.kind = 5 then 120 :: 39 :: (hexs v.s ++ [39]) else [78, 85, 76, 76]) []
def vprint_F : FT [.sv .val] [.str] := fun x => some (vprint x)
theorem right_len {v : Val} (h : vright v = true) (hk : v.kind = 4 ∨ v.kind = 5) : v.s.length ≤ 1000 := by
  rcases hk with h4 | h5
  · simp [vright, h4] at h
    omega
  · simp [vright, h5] at h
    omega
theorem right_bool {v : Val} (h : vright v = true) (hk : v.kind = 2) : v.n = 0 ∨ v.n = 1 := by
  by_cases h0 : v.n = 0
  · exact .inl h0
  · by_cases h1 : v.n = 1
    · exact .inr h1
    · simp [vright, hk, h0, h1] at h
theorem vprint_ok : FnOk Tryd.prog elT glT 15 [.sv .val] [.str] vprint_F := .fin0 vprint_run fun v r _ hx => by
  simp only [vprint_F, Option.some.injEq] at hx
  subst hx
  simp only [vprint_body, vprint]
  cases hr : vright v with
  | false => rfl
  | true =>
    simp only [Bool.not_true, cond_f, cond_t]
    by_cases k2 : v.kind = 2
    · rw [decide_eq_true k2, if_pos k2]
      rcases right_bool hr k2 with h | h <;> rw [h] <;> rfl
    · rw [decide_eq_false k2, if_neg k2]
      by_cases k3 : v.kind = 3
      · rw [decide_eq_true k3, if_pos k3]; rfl
      · rw [decide_eq_false k3, if_neg k3]
        by_cases k4 : v.kind = 4
        · have hl := right_len hr (.inl k4)
          have hq := quo_len v.s
          rw [decide_eq_true k4, if_pos k4]
          simp only [cond_t, cond_f, repAll_quo (show v.s.length ≤ 3000 by omega), Option.bind_some]
          refine (chk_t (decide_eq_true ?_)).trans ((chk_t (decide_eq_true ?_)).trans rfl)
          · simp only [List.length_cons, List.length_nil, maxStr]; omega
          · simp only [List.length_append, List.length_cons, List.length_nil, maxStr]; omega
        · rw [decide_eq_false k4, if_neg k4]
          by_cases k5 : v.kind = 5
          · have hl := right_len hr (.inr k5)
            have hh := hexs_len v.s
            have hv : vhex v.s = some (hexs v.s) := by simp only [vhex]; rw [decide_eq_true (by omega)]; rfl
            rw [decide_eq_true k5, if_pos k5]
            simp only [cond_t, cond_f, hv, Option.bind_some]
            refine (chk_t (decide_eq_true ?_)).trans ((chk_t (decide_eq_true ?_)).trans rfl)
            · simp only [List.length_cons, List.length_nil, maxStr]; omega
            · simp only [List.length_append, List.length_cons, List.length_nil, maxStr]; omega
          · rw [decide_eq_false k5, if_neg k5]; rfl
end Go.Proofs.YtjpcghlpkinahaaDoor
