/- Texts of the proof, one behind the other: Tw, Pa, Lc, Na, Lm, Ar, Shp, Sr, Dg, Nc, Eb, Fc, Es, En, Ep, Ac. -/
import Derived.Test.YtjpcghlpkinahaaDoorQ3
import Derived.Test.YtjpcghlpkinahaaDoorProg
import Derived.KernelRfl
import Derived.Lib.Bytealg
import Derived.Shelf.Strings.Replace
/- What the machine is told: the seat's types, package-level variables. -/
namespace Go.Proofs.YtjpcghlpkinahaaDoor
open Go.Ax
def signsL : List (Int × Str) := [(4, [65, 78, 68]), (5, [79, 82]), (6, [61]), (7, [60, 62]), (8, [60]), (9, [60, 61]), (10, [62]), (11, [62, 61]), (12, [43]), (13, [45]), (14, [42])]
def wordsL : List Str := [[65, 68, 68], [65, 78, 68], [65, 83, 67], [66, 79, 79, 76], [66, 89], [66, 89, 84, 69, 83], [67, 72, 69, 67, 75], [67, 82, 69, 65, 84, 69], [68, 69, 76, 69, 84, 69], [68, 69, 83, 67], [68, 82, 79, 80], [70, 65, 76, 83, 69], [70, 82, 79, 77], [73, 78, 68, 69, 88], [73, 78, 83, 69, 82, 84], [73, 78, 84], [73, 78, 84, 79], [73, 83], [75, 69, 89], [76, 73, 77, 73, 84], [78, 79, 84], [78, 85, 76, 76], [79, 78], [79, 82], [79, 82, 68, 69, 82], [80, 82, 73, 77, 65, 82, 89], [82, 69, 70, 69, 82, 69, 78, 67, 69, 83], [83, 69, 76, 69, 67, 84], [83, 69, 84], [84, 65, 66, 76, 69], [84, 69, 88, 84], [84, 82, 85, 69], [85, 78, 73, 81, 85, 69], [85, 80, 68, 65, 84, 69], [86, 65, 76, 85, 69, 83], [87, 72, 69, 82, 69]]
def kindsL : List Str := [[], [], [66, 79, 79, 76], [73, 78, 84], [84, 69, 88, 84], [66, 89, 84, 69, 83]]
/-- the types -/
def ttL : List (Nat × Ax.Ty) := [
  (3, .int .i64),
  (4, .bool),
  (5, .int .u8),
  (9, .str),
  (21, .int .i32),
  (23, .sl .str),
  (28, .st (some .val) [(0, 3), (1, 3), (2, 9)] [.int .i64 0, .int .i64 0, .str []]),
  (30, .sl .tok),
  (31, .int .i64),
  (36, .st (some .tok) [(0, 3), (1, 3), (2, 9), (3, 3)] [.int .i64 0, .int .i64 0, .str [], .int .i64 0]),
  (38, .sl .expr),
  (40, .st (some .expr) [(0, 3), (1, 28), (4, 9), (5, 38)] [.int .i64 0, .int .i64 0, .int .i64 0, .str [], .str [], .sl .expr [] .nil]),
  (41, .sl .col),
  (42, .sl .exprs),
  (43, .sl .set),
  (44, .sl .bool),
  (46, .st (some .stmt) [(0, 3), (1, 9), (2, 9), (3, 41), (4, 23), (5, 38), (6, 42), (7, 43), (8, 4), (9, 40), (15, 23), (16, 44), (17, 3)] [.int .i64 0, .str [], .str [], .sl .col [] .nil, .sl .str [] .nil, .sl .expr [] .nil, .sl .exprs [] .nil, .sl .set [] .nil, .bool false, .int .i64 0, .int .i64 0, .int .i64 0, .str [], .str [], .sl .expr [] .nil, .sl .str [] .nil, .sl .bool [] .nil, .int .i64 0]),
  (52, .fn),
  (58, .sl .int),
  (65, .st (some .col) [(0, 9), (1, 3), (2, 4), (3, 4), (4, 9)] [.str [], .int .i64 0, .bool false, .bool false, .str []]),
  (68, .arr 36 .str),
  (69, .fn),
  (72, .arr 2 .str),
  (79, .st (some .set) [(0, 9), (1, 40)] [.str [], .int .i64 0, .int .i64 0, .int .i64 0, .str [], .str [], .sl .expr [] .nil]),
  (81, .ptr),
  (82, .sl .byte),
  (84, .st none [(0, 81), (1, 82)] [.nilp, .sl .byte [] .nil]),
  (86, .st none [(0, 84)] [.nilp, .sl .byte [] .nil]),
  (87, .fn),
  (93, .fn),
  (99, .fn),
  (101, .fn),
  (106, .fn),
  (111, .int .u64),
  (114, .int .u64),
  (126, .fn),
  (127, .ptr),
  (128, .map),
  (129, .ptr),
  (145, .arr 6 .str),
  (152, .arr 256 .byte),
  (154, .st none [(0, 5), (1, 5)] [.int .u8 0, .int .u8 0]),
  (156, .int .u32)]
def elT : Ck → TypeId
  | .byte => 5
  | .int => 3
  | .u64 => 111
  | .str => 9
  | .bool => 4
  | .val => 28
  | .tok => 36
  | .col => 65
  | .expr => 40
  | .set => 79
  | .stmt => 46
  | .exprs => 38
  | .strs => 23
  | .bytes => 82
  | _ => 0
theorem ttL_ok : (ttL.all fun p => tyOk Tryd.prog elT (ttOf ttL) p.1) = true := by kernel_rfl
def glT : Nat → Option Gv := tbl [(1, .map signsL), (2, .arr .str kindsL), (3, .num .i64)]
theorem follows : Tryd.prog.follows .mixedOrders = true := by kernel_rfl
end Go.Proofs.YtjpcghlpkinahaaDoor

/- The lexer as plain Lean: what the program's functions and the document's come to; the document's is the program's; tokens of a text as a relation. -/
namespace Go.Proofs.YtjpcghlpkinahaaDoor.Lp
open Go.Sx Go.RowKit
abbrev Tok := Go.Ax.Tok
/-! from Lib -/
/-- does a text begin with another? -/
def pre (l m : List UInt8) : Bool := decide (m.length ≤ l.length) && decide (l.take m.length = m)

/-! from Va -/
theorem mul_bd (a b c d : Int) (h : 0 ≤ a ∧ a ≤ c) (h' : 0 ≤ b ∧ b ≤ d) : 0 ≤ a * b ∧ a * b ≤ c * d :=
  ⟨Int.mul_nonneg h.1 h'.1, Int.mul_le_mul h.2 h'.2 h'.1 (by omega)⟩
theorem mul64_split (x y : Int) : x * y = (x / 4294967296) * (y / 4294967296) * 18446744073709551616 + ((x / 4294967296) * (y % 4294967296) + (x % 4294967296) * (y / 4294967296)) * 4294967296 + (x % 4294967296) * (y % 4294967296) := by
  have hx := Int.mul_ediv_add_emod x 4294967296
  have hy := Int.mul_ediv_add_emod y 4294967296
  generalize x / 4294967296 = p at *
  generalize x % 4294967296 = q at *
  generalize y / 4294967296 = r at *
  generalize y % 4294967296 = s at *
  rw [← hx, ← hy]
  simp only [Int.add_mul, Int.mul_add]
  have e1 : 4294967296 * p * (4294967296 * r) = p * r * 18446744073709551616 := by
    rw [Int.mul_assoc, Int.mul_left_comm p, ← Int.mul_assoc]
    omega
  have e2 : 4294967296 * p * s = p * s * 4294967296 := by rw [Int.mul_assoc]; omega
  have e3 : q * (4294967296 * r) = q * r * 4294967296 := by rw [Int.mul_left_comm]; omega
  omega
def inI (n : Int) : Prop := -9223372036854775808 ≤ n ∧ n ≤ 9223372036854775807
instance (n : Int) : Decidable (inI n) := by unfold inI; infer_instance
theorem wrapu (n : Int) : IntKind.u64.wrap n = n % 18446744073709551616 := by simp [IntKind.wrap, IntKind.bits, IntKind.signed]
theorem wrapi (n : Int) : IntKind.i64.wrap n = if 9223372036854775808 ≤ n % 18446744073709551616 then n % 18446744073709551616 - 18446744073709551616 else n % 18446744073709551616 := by
  simp [IntKind.wrap, IntKind.bits, IntKind.signed]
def absI (n : Int) : Int := if n < 0 then -n else n

/-! from Vb -/
def vis (c : Int) : Bool := decide (32 ≤ c) && decide (c ≤ 126)
def visF (l : List UInt8) : Bool := l.all fun b => vis b.toNat
theorem getD_drop (l : List UInt8) (j : Int) (h : 0 ≤ j ∧ j < l.length) : l.drop j.toNat = l.getD j.toNat 0 :: l.drop (j + 1).toNat := by
  have h1 : j.toNat < l.length := by omega
  have h2 : (j + 1).toNat = j.toNat + 1 := by omega
  rw [h2, List.drop_eq_getElem_cons h1]
  simp [List.getD_eq_getElem?_getD, h1]
theorem all_drop (p : Int → Bool) (l : List UInt8) (j : Int) (h : 0 ≤ j ∧ j < l.length) : ((l.drop j.toNat).all fun b => p b.toNat) = (p (byt l j) && (l.drop (j + 1).toNat).all fun b => p b.toNat) := by
  rw [getD_drop l j h]
  rfl
/-- may it be? -/
def rightF (k n : Int) (s : List UInt8) : Bool :=
  if k = 1 then n == 0 && decide (s = []) else if k = 2 then (n == 0 || n == 1) && decide (s = []) else if k = 3 then decide (s = [])
  else if k = 4 then n == 0 && decide ((s.length : Int) ≤ 1000) && visF s else if k = 5 then n == 0 && decide ((s.length : Int) ≤ 1000) else false
def checkF (k n : Int) (s : List UInt8) : Int := if rightF k n s then 0 else 2

/-! from LxA -/
def isUp (c : Int) : Bool := decide (65 ≤ c) && decide (c ≤ 90)
def isLo (c : Int) : Bool := decide (97 ≤ c) && decide (c ≤ 122)
def isDi (c : Int) : Bool := decide (48 ≤ c) && decide (c ≤ 57)
def isIn (c : Int) : Bool := isLo c || isDi c || c == 95
/-- where bytes of a kind end -/
def runTo (p : Int → Bool) (l : List UInt8) (i : Int) : Int := i + ((l.drop i.toNat).takeWhile fun b => p b.toNat).length
theorem drop_at (l : List UInt8) (j : Int) (h : 0 ≤ j ∧ j < l.length) : l.drop j.toNat = l.getD j.toNat 0 :: l.drop (j + 1).toNat := by
  have h1 : j.toNat < l.length := by omega
  have h2 : (j + 1).toNat = j.toNat + 1 := by omega
  rw [h2, List.drop_eq_getElem_cons h1]
  simp [List.getD_eq_getElem?_getD, h1]
theorem runTo_yes {p : Int → Bool} {l : List UInt8} {j : Int} (h : 0 ≤ j ∧ j < l.length) (hp : p (byt l j) = true) : runTo p l (j + 1) = runTo p l j := by
  unfold runTo
  rw [drop_at l j h]
  have : p ((l.getD j.toNat 0).toNat : Int) = true := hp
  simp only [List.takeWhile_cons, this, if_true, List.length_cons]
  omega
theorem runTo_no {p : Int → Bool} {l : List UInt8} {j : Int} (h : 0 ≤ j ∧ j < l.length) (hp : p (byt l j) = false) : runTo p l j = j := by
  unfold runTo
  rw [drop_at l j h]
  have : p ((l.getD j.toNat 0).toNat : Int) = false := hp
  simp only [List.takeWhile_cons, this, Bool.false_eq_true, if_false, List.length_nil]
  omega
theorem runTo_end {p : Int → Bool} {l : List UInt8} {j : Int} (h : (l.length : Int) ≤ j) : runTo p l j = j := by
  unfold runTo
  rw [List.drop_eq_nil_of_le (by omega)]
  simp
def aloneF (l : List UInt8) (i : Int) : Bool := i == l.length || !isIn (byt l i) && !isUp (byt l i)

/-! from LxB -/
/-- the digit that a byte is -/
def dg (c : Int) : Int := IntKind.i64.wrap (IntKind.u8.wrap (c - 48))
theorem dg_in (c : Int) : 0 ≤ dg c ∧ dg c ≤ 255 := by
  have e1 : IntKind.u8.wrap (c - 48) = (c - 48) % 256 := by simp [IntKind.wrap, IntKind.bits, IntKind.signed]
  unfold dg
  rw [e1, IntWalk.i64_in _ (by omega)]
  omega
theorem dg_eq (c : Int) (h : 48 ≤ c ∧ c ≤ 303) : dg c = c - 48 := by
  have e1 : IntKind.u8.wrap (c - 48) = (c - 48) % 256 := by simp [IntKind.wrap, IntKind.bits, IntKind.signed]
  unfold dg
  rw [e1, IntWalk.i64_in _ (by omega)]
  omega
/-- a number out of digits -/
def numGo : List UInt8 → Int → Option Int
  | [], n => some n
  | c :: r, n => if inI (n * 10) ∧ inI (n * 10 + dg c.toNat) then numGo r (n * 10 + dg c.toNat) else none
theorem inI_dg (c : Int) : inI (dg c) := by have := dg_in c; unfold inI; omega
theorem inI_lit : inI 10 := by unfold inI; omega
theorem inI_zero : inI 0 := by unfold inI; omega
/-- what is meant between quotes, and where it ends -/
def qGo : List UInt8 → List UInt8 → Int → List UInt8 × Int
  | [], _, _ => ([], -1)
  | [c], acc, i => if c = 39 then (acc, i + 1) else ([], -1)
  | c :: d :: r, acc, i => if c = 39 then (if d = 39 then qGo r (acc ++ [39]) (i + 2) else (acc, i + 1)) else qGo (d :: r) (acc ++ [c]) (i + 1)
theorem byt_lit {l : List UInt8} {j : Int} {c : UInt8} : byt l j = (c.toNat : Int) ↔ l.getD j.toNat 0 = c := by
  unfold byt
  rw [← UInt8.toNat_inj]
  omega
theorem q_end {l acc : List UInt8} {j : Int} (h : (l.length : Int) ≤ j) : qGo (l.drop j.toNat) acc j = ([], -1) := by
  rw [List.drop_eq_nil_of_le (by omega)]
  rfl
theorem q_last {l acc : List UInt8} {j : Int} (h : 0 ≤ j) (hl : j + 1 = l.length) (hc : byt l j = 39) : qGo (l.drop j.toNat) acc j = (acc, j + 1) := by
  rw [drop_at l j (by omega), (byt_lit (c := 39)).1 hc, List.drop_eq_nil_of_le (by omega)]
  rfl
theorem q_close {l acc : List UInt8} {j : Int} (h : 0 ≤ j) (hl : j + 1 < l.length) (hc : byt l j = 39) (hd : byt l (j + 1) ≠ 39) : qGo (l.drop j.toNat) acc j = (acc, j + 1) := by
  have hd' : ¬ l.getD (j + 1).toNat 0 = 39 := fun hh => hd ((byt_lit (c := 39)).2 hh)
  rw [drop_at l j (by omega), (byt_lit (c := 39)).1 hc, drop_at l (j + 1) (by omega)]
  simp only [qGo, if_true, if_neg hd']
theorem q_two {l acc : List UInt8} {j : Int} (h : 0 ≤ j) (hl : j + 1 < l.length) (hc : byt l j = 39) (hd : byt l (j + 1) = 39) : qGo (l.drop j.toNat) acc j = qGo (l.drop (j + 1 + 1).toNat) (acc ++ [39]) (j + 1 + 1) := by
  rw [drop_at l j (by omega), (byt_lit (c := 39)).1 hc, drop_at l (j + 1) (by omega), (byt_lit (c := 39)).1 hd]
  simp only [qGo, if_true]
  rw [show j + 2 = j + 1 + 1 by omega]
theorem q_other {l acc : List UInt8} {j : Int} (h : 0 ≤ j) (hl : j < l.length) (hc : ¬ byt l j = 39) : qGo (l.drop j.toNat) acc j = qGo (l.drop (j + 1).toNat) (acc ++ [l.getD j.toNat 0]) (j + 1) := by
  have hc' : ¬ l.getD j.toNat 0 = 39 := fun hh => hc ((byt_lit (c := 39)).2 hh)
  rw [drop_at l j (by omega)]
  cases hd : l.drop (j + 1).toNat with
  | nil => simp only [qGo, if_neg hc']
  | cons d r => simp only [qGo, if_neg hc']

/-! from LxC -/
def hexD (c : Int) : Option Int := if 48 ≤ c ∧ c ≤ 57 then some (c - 48) else if 97 ≤ c ∧ c ≤ 102 then some (c - 87) else none
theorem hexD_lt {c n : Int} (h : hexD c = some n) : 0 ≤ n ∧ n ≤ 15 := by
  unfold hexD at h
  split at h
  · cases h; omega
  · split at h
    · cases h; omega
    · cases h
theorem wrap8 (n : Int) (h : 0 ≤ n ∧ n ≤ 255) : IntKind.u8.wrap n = n := IntWalk.u8_in n h
/-- bytes out of hex digits, behind what was read -/
def unGo : List UInt8 → List UInt8 → Option (List UInt8)
  | [], acc => some acc
  | [_], _ => none
  | a :: b :: r, acc => match hexD a.toNat, hexD b.toNat with
    | some x, some y => unGo r (acc ++ [UInt8.ofNat (x * 16 + y).toNat])
    | _, _ => none
theorem joinhex : ∀ a b : Fin 16, IntKind.u8.wrap (((BitVec.ofInt IntKind.u8.bits (IntKind.u8.wrap ((a.val : Int) * 2 ^ min (4 : Int).toNat IntKind.u8.bits)) ||| BitVec.ofInt IntKind.u8.bits (b.val : Int)).toNat : Nat) : Int) = ((a.val * 16 + b.val : Nat) : Int) := by decide +kernel
theorem joinhex' {x y : Int} (hx : 0 ≤ x ∧ x ≤ 15) (hy : 0 ≤ y ∧ y ≤ 15) : IntKind.u8.wrap (((BitVec.ofInt IntKind.u8.bits (IntKind.u8.wrap (x * 2 ^ min (4 : Int).toNat IntKind.u8.bits)) ||| BitVec.ofInt IntKind.u8.bits y).toNat : Nat) : Int) = ((UInt8.ofNat (x * 16 + y).toNat).toNat : Int) := by
  obtain ⟨a, rfl⟩ := Int.eq_ofNat_of_zero_le hx.1
  obtain ⟨b, rfl⟩ := Int.eq_ofNat_of_zero_le hy.1
  have := joinhex ⟨a, by omega⟩ ⟨b, by omega⟩
  simp only at this
  rw [this]
  rw [show ((a : Int) * 16 + (b : Int)).toNat = a * 16 + b by omega, UInt8.toNat_ofNat']
  omega
theorem un_step {l acc : List UInt8} {j : Int} (h : 0 ≤ j) (hl : j + 1 < l.length) : unGo (l.drop j.toNat) acc = match hexD (byt l j), hexD (byt l (j + 1)) with
    | some x, some y => unGo (l.drop (j + 2).toNat) (acc ++ [UInt8.ofNat (x * 16 + y).toNat])
    | _, _ => none := by
  rw [drop_at l j (by omega), drop_at l (j + 1) (by omega), show j + 1 + 1 = j + 2 by omega]
  rfl

/-! from LxD -/
def signs : List UInt8 := [40, 41, 44, 42, 61, 60, 62, 43, 45, 59]
def signF (l : List UInt8) : Int := if pre l [60, 62] || pre l [60, 61] || pre l [62, 61] then 2 else if 0 ≤ Lib.indexByte signs (byt l 0).toNat.toUInt8 then 1 else 0
/-- the place of a text among others -/
def idx (x : List UInt8) : List (List UInt8) → Int → Int
  | [], _ => -1
  | l :: r, i => if x = l then i else idx x r (i + 1)
theorem idx_ge (x : List UInt8) : ∀ (ls : List (List UInt8)) (i : Int), 0 ≤ i → (0 ≤ idx x ls i ↔ x ∈ ls)
  | [], i, _ => by simp [idx]
  | l :: r, i, h => by
    by_cases hx : x = l
    · simp [idx, hx, h]
    · simp [idx, hx, idx_ge x r (i + 1) (by omega)]

/-! from LxE -/
def wordF (l : List UInt8) : Bool := wordsL.contains l
def nameF (l : List UInt8) : Bool := !decide (l = []) && decide ((l.length : Int) ≤ 30) && isLo (byt l 0) && (runTo isIn l 0 == l.length)
/-- the token at a place: its kind, its text, its number, where it ends -/
def tokF (l : List UInt8) (i : Int) : Option (Int × List UInt8 × Int × Int) :=
  if pre (l.drop i.toNat) [120, 39] then
    let n := Lib.indexByte (l.drop (i + 2).toNat) 39
    if n < 0 then none else
    let x := cut l (i + 2) (i + 2 + n)
    match (if x.length % 2 = 0 then unGo x [] else none) with
    | none => none
    | some b => if 1000 < (b.length : Int) then none else some (5, b, 0, i + 3 + n)
  else if isUp (byt l i) then
    if wordF (cut l i (runTo isUp l i)) && aloneF l (runTo isUp l i) then some (1, cut l i (runTo isUp l i), 0, runTo isUp l i) else none
  else if isLo (byt l i) then
    if nameF (cut l i (runTo isIn l i)) && aloneF l (runTo isIn l i) then some (2, cut l i (runTo isIn l i), 0, runTo isIn l i) else none
  else if isDi (byt l i) then
    match numGo (cut l i (runTo isDi l i)) 0 with
    | none => none
    | some n => if (decide (cut l i (runTo isDi l i) = [48]) || byt (cut l i (runTo isDi l i)) 0 != 48) && aloneF l (runTo isDi l i) then some (3, cut l i (runTo isDi l i), n, runTo isDi l i) else none
  else if byt l i = 39 then
    let q := qGo (l.drop (i + 1).toNat) [] (i + 1)
    if rightF 4 0 q.1 then (if q.2 < 0 then none else some (4, q.1, 0, q.2)) else none
  else if signF (l.drop i.toNat) = 0 then none else some (6, cut l i (i + signF (l.drop i.toNat)), 0, i + signF (l.drop i.toNat))

/-! from LxF -/
theorem runTo_range (p : Int → Bool) (l : List UInt8) (i : Int) (h : 0 ≤ i ∧ i ≤ l.length) : i ≤ runTo p l i ∧ runTo p l i ≤ l.length := by
  unfold runTo
  have h1 := (List.takeWhile_prefix (fun b : UInt8 => p b.toNat) (l := l.drop i.toNat)).length_le
  rw [List.length_drop] at h1
  omega
theorem cond_no {p : Prop} [Decidable p] {α : Type} {a b : α} (h : ¬ p) : (if p then a else b) = b := if_neg h

/-! from LxG -/
theorem runTo_gt {p : Int → Bool} {l : List UInt8} {i : Int} (h : 0 ≤ i ∧ i < l.length) (hp : p (byt l i) = true) : i + 1 ≤ runTo p l i := by
  have h1 := runTo_yes h hp
  have h2 := runTo_range p l (i + 1) (by omega)
  omega
theorem cut_length (l : List UInt8) (a b : Int) (h : 0 ≤ a ∧ a ≤ b ∧ b ≤ l.length) : ((cut l a b).length : Int) = b - a := by
  unfold cut
  rw [List.length_take, List.length_drop]
  omega

/-! from LxH -/
theorem signF_in (l : List UInt8) (h : 0 < l.length) : signF l = 0 ∨ signF l = 1 ∨ (signF l = 2 ∧ 2 ≤ l.length) := by
  unfold signF
  split
  · rename_i hp
    right; right
    refine ⟨rfl, ?_⟩
    simp only [pre, Bool.or_eq_true, Bool.and_eq_true, decide_eq_true_eq, List.length_cons, List.length_nil] at hp
    omega
  · split
    · exact .inr (.inl rfl)
    · exact .inl rfl
theorem qGo_in : ∀ (n : Nat) (l acc : List UInt8) (i : Int), l.length ≤ n → 0 ≤ i → (qGo l acc i).2 = -1 ∨ (i + 1 ≤ (qGo l acc i).2 ∧ (qGo l acc i).2 ≤ i + l.length)
  | n, [], acc, i, _, h => by left; rfl
  | n, [c], acc, i, _, h => by
    simp only [qGo]
    split
    · right; simp
    · left; rfl
  | 0, _ :: _ :: _, _, _, hn, _ => by simp at hn
  | n + 1, c :: d :: r, acc, i, hn, h => by
    simp only [List.length_cons] at hn ⊢
    simp only [qGo]
    split
    · split
      · rcases qGo_in n r (acc ++ [39]) (i + 2) (by omega) (by omega) with h1 | h1
        · exact .inl h1
        · right; omega
      · right; simp; omega
    · rcases qGo_in n (d :: r) (acc ++ [c]) (i + 1) (by simp; omega) (by omega) with h1 | h1
      · exact .inl h1
      · right; simp at h1; omega

/-! from LxI -/
theorem indexByte_in : ∀ (l : List UInt8) (c : UInt8), Lib.indexByte l c = -1 ∨ (0 ≤ Lib.indexByte l c ∧ Lib.indexByte l c < l.length)
  | [], c => .inl rfl
  | b :: l, c => by
    simp only [Lib.indexByte, List.length_cons]
    split
    · right; omega
    · rcases indexByte_in l c with h | h
      · left; simp [h]
      · right
        have : ¬ ((Lib.indexByte l c == -1) = true) := by simp; omega
        rw [if_neg this]
        omega

/-! from LxJ -/
def blankF (c : Int) : Bool := decide (0 ≤ Lib.indexByte [32, 9, 10, 13] c.toNat.toUInt8)
/-- all tokens from a place on, behind others; or the place that is wrong -/
def allGo : Nat → List UInt8 → Int → List Tok → Except Int (List Tok)
  | 0, _, _, acc => .ok acc
  | f + 1, l, i, acc =>
    if (l.length : Int) ≤ i then .ok acc
    else if blankF (byt l i) then allGo f l (i + 1) acc
    else match tokF l i with
      | none => .error i
      | some (k, s, n, e) => allGo f l e (acc ++ [⟨k, i, s, n⟩])
def allF (l : List UInt8) : Except Int (List Tok) := allGo (l.length + 1) l 0 []
theorem tok_end {l : List UInt8} {i : Int} (h0 : 0 ≤ i ∧ i < l.length) {k : Int} {s : List UInt8} {n e : Int} (h : tokF l i = some (k, s, n, e)) : i < e ∧ e ≤ l.length := by
  unfold tokF at h
  split at h
  · rename_i hx
    have hdl : (l.drop i.toNat).length = l.length - i.toNat := List.length_drop
    have h2 : 2 ≤ (l.drop i.toNat).length := by
      simp only [pre, Bool.and_eq_true, decide_eq_true_eq, List.length_cons, List.length_nil] at hx
      omega
    have hdl2 : (l.drop (i + 2).toNat).length = l.length - (i + 2).toNat := List.length_drop
    have hib := indexByte_in (l.drop (i + 2).toNat) 39
    simp only at h
    split at h
    · cases h
    · split at h
      · cases h
      · split at h
        · cases h
        · cases h; omega
  · split at h
    · rename_i hu
      have hr := runTo_range isUp l i (by omega)
      have hg := runTo_gt h0 hu
      split at h
      · cases h; omega
      · cases h
    · split at h
      · rename_i hlo
        have hr := runTo_range isIn l i (by omega)
        have hg := runTo_gt (p := isIn) h0 (by simp [isIn, hlo])
        split at h
        · cases h; omega
        · cases h
      · split at h
        · rename_i hd
          have hr := runTo_range isDi l i (by omega)
          have hg := runTo_gt h0 hd
          split at h
          · cases h
          · split at h
            · cases h; omega
            · cases h
        · split at h
          · have hqi := qGo_in _ (l.drop (i + 1).toNat) [] (i + 1) (Nat.le_refl _) (by omega)
            have hdl : (l.drop (i + 1).toNat).length = l.length - (i + 1).toNat := List.length_drop
            simp only at h
            split at h
            · split at h
              · cases h
              · cases h; omega
            · cases h
          · split at h
            · cases h
            · have hdl : (l.drop i.toNat).length = l.length - i.toNat := List.length_drop
              have hs := signF_in (l.drop i.toNat) (by omega)
              cases h
              omega

/-! from RxA -/
def signsI : List Int := [40, 41, 44, 42, 61, 60, 62, 43, 45, 59]
def clsF (c : Int) : Int :=
  if isUp c then 1 else if isLo c then 2 else if isDi c then 3 else if c = 95 then 4 else if c = 39 then 5
  else if c = 32 ∨ c = 9 ∨ c = 10 ∨ c = 13 then 6 else if signsI.contains c then 7 else 0
theorem signs_byt (j : Int) (h : 0 ≤ j ∧ j < 10) : byt signs j = signsI.getD j.toNat 0 := by
  obtain ⟨n, rfl⟩ := Int.eq_ofNat_of_zero_le h.1
  have : n < 10 := by omega
  rcases n with _ | _ | _ | _ | _ | _ | _ | _ | _ | _ | n <;> first | rfl | omega
theorem signsI_drop (j : Int) (h : 0 ≤ j ∧ j < 10) (c : Int) : (signsI.drop j.toNat).contains c = (byt signs j == c || (signsI.drop (j + 1).toNat).contains c) := by
  rw [signs_byt j h]
  have h1 : j.toNat < signsI.length := by simp [signsI]; omega
  rw [show (j + 1).toNat = j.toNat + 1 by omega, List.drop_eq_getElem_cons h1]
  rw [List.contains_cons, List.getD_eq_getElem?_getD, List.getElem?_eq_getElem h1, Option.getD_some]
  congr 1
  rw [Bool.eq_iff_iff]
  simp only [beq_iff_eq]
  exact eq_comm

/-! from RxB -/
def isWd (c : Int) : Bool := decide (1 ≤ clsF c) && decide (clsF c ≤ 4)
/-- the reference's number -/
def rnumGo : List UInt8 → Int → Option Int
  | [], n => some n
  | c :: r, n => if clsF c.toNat ≠ 3 ∨ 922337203685477580 < n ∨ (n = 922337203685477580 ∧ 7 < (c.toNat : Int) - 48) then none else rnumGo r (10 * n + ((c.toNat : Int) - 48))
def rnumF (l : List UInt8) : Int := match rnumGo l 0 with
  | none => -1
  | some n => if 1 < (l.length : Int) ∧ byt l 0 = 48 then -1 else n
theorem cls3 {c : Int} (h : clsF c = 3) : 48 ≤ c ∧ c ≤ 57 := by
  unfold clsF at h
  split at h
  · omega
  · split at h
    · omega
    · split at h
      · rename_i hd; simpa [isDi] using hd
      · (repeat' split at h) <;> omega

/-! from RxC -/
theorem cut_one (l : List UInt8) (j : Int) (h : 0 ≤ j ∧ j < l.length) : cut l j (j + 1) = [l.getD j.toNat 0] := by
  unfold cut
  rw [drop_at l j h, show (j + 1).toNat - j.toNat = 1 by omega]
  rfl

/-! from RxD -/
theorem checkF_four (s : List UInt8) (hl : (s.length : Int) ≤ 1000) : checkF 4 0 s = if visF s then 0 else 2 := by
  simp [checkF, rightF, hl]

/-! from RxE -/
theorem hex3 (c : Int) : (48 ≤ c ∧ c ≤ 57 ∧ hexD c = some (c - 48)) ∨ (97 ≤ c ∧ c ≤ 102 ∧ hexD c = some (c - 87)) ∨ ((c < 48 ∨ 57 < c) ∧ (c < 97 ∨ 102 < c) ∧ hexD c = none) := by
  unfold hexD
  split
  · left; exact ⟨by omega, by omega, rfl⟩
  · split
    · right; left; exact ⟨by omega, by omega, rfl⟩
    · right; right; exact ⟨by omega, by omega, rfl⟩
theorem unGo_odd : ∀ (n : Nat) (l acc : List UInt8), l.length ≤ n → l.length % 2 = 1 → unGo l acc = none
  | _, [], _, _, h => by simp at h
  | _, [_], _, _, _ => rfl
  | 0, _ :: _ :: _, _, h, _ => by simp at h
  | n + 1, a :: b :: r, acc, hn, h => by
    simp only [List.length_cons] at hn h
    simp only [unGo]
    split
    · exact unGo_odd n r _ (by omega) (by omega)
    · rfl
theorem byte_of {x : Int} (h : 0 ≤ x ∧ x ≤ 255) : IntKind.u8.wrap x = ((UInt8.ofNat x.toNat).toNat : Int) := by
  rw [IntWalk.u8_in x h, UInt8.toNat_ofNat']
  omega

/-! from RxF -/


/-! from RxG -/
def nmOk (j c : Int) : Bool := decide (clsF c = 2) || (!decide (j = 0) && (decide (clsF c = 3) || decide (clsF c = 4)))
def okGo : List UInt8 → Int → Bool
  | [], _ => true
  | c :: r, j => nmOk j c.toNat && okGo r (j + 1)
def rnameF (l : List UInt8) : Bool := okGo l 0 && (decide (1 ≤ (l.length : Int)) && decide ((l.length : Int) ≤ 30))

/-! from RxH -/
/-- bytes in hex begin here, by the reference -/
def HexAt (l : List UInt8) (i : Int) : Prop := cut l i (runTo isWd l i) = [120] ∧ runTo isWd l i < l.length ∧ byt l (runTo isWd l i) = 39
instance (l : List UInt8) (i : Int) : Decidable (HexAt l i) := by unfold HexAt; infer_instance
def twoR (l : List UInt8) (i : Int) : Prop := i + 1 < l.length ∧ (cut l i (i + 2) = [60, 62] ∨ cut l i (i + 2) = [60, 61] ∨ cut l i (i + 2) = [62, 61])
instance (l : List UInt8) (i : Int) : Decidable (twoR l i) := by unfold twoR; infer_instance
def tokR (l : List UInt8) (i : Int) : Option (Int × List UInt8 × Int × Int) :=
  if HexAt l i then
    let t := runTo isWd l i
    let q := runTo (fun c => !decide (c = 39)) l (t + 1)
    if q = l.length then none else
    match (if (cut l (t + 1) q).length % 2 = 0 then unGo (cut l (t + 1) q) [] else none) with
    | none => none
    | some b => if 1000 < (b.length : Int) then none else some (5, b, 0, q + 1)
  else if clsF (byt l i) = 1 then (if wordF (cut l i (runTo isWd l i)) then some (1, cut l i (runTo isWd l i), 0, runTo isWd l i) else none)
  else if clsF (byt l i) = 2 then (if rnameF (cut l i (runTo isWd l i)) then some (2, cut l i (runTo isWd l i), 0, runTo isWd l i) else none)
  else if clsF (byt l i) = 3 then (if 0 ≤ rnumF (cut l i (runTo isWd l i)) then some (3, cut l i (runTo isWd l i), rnumF (cut l i (runTo isWd l i)), runTo isWd l i) else none)
  else if clsF (byt l i) = 5 then
    let q := qGo (l.drop (i + 1).toNat) [] (i + 1)
    if ¬ q.2 = -1 ∧ checkF 4 0 q.1 = 0 then some (4, q.1, 0, q.2) else none
  else if clsF (byt l i) = 7 then (if twoR l i then some (6, cut l i (i + 2), 0, i + 2) else some (6, cut l i (i + 1), 0, i + 1))
  else none

/-! from RxI -/


/-! from RxJ -/


/-! from RxK -/


/-! from RxL -/


/-! from RxM -/


/-! from RxN -/


/-! from RxO -/
theorem tokR_end {l : List UInt8} {i : Int} (h0 : 0 ≤ i ∧ i < l.length) {k : Int} {s : List UInt8} {n e : Int} (h : tokR l i = some (k, s, n, e)) : i < e ∧ e ≤ l.length := by
  unfold tokR at h
  have hr := runTo_range isWd l i (by omega)
  split at h
  · rename_i hx
    have hx1 := hx.2.1
    have hq := runTo_range (fun c => !decide (c = 39)) l (runTo isWd l i + 1) (by omega)
    simp only at h
    split at h
    · cases h
    · split at h
      · cases h
      · split at h
        · cases h
        · cases h; omega
  · have hg : ∀ c : Int, 1 ≤ c ∧ c ≤ 4 → clsF (byt l i) = c → i + 1 ≤ runTo isWd l i := fun c hc he => runTo_gt h0 (by simp [isWd]; omega)
    split at h
    · rename_i h1
      have := hg 1 (by omega) h1
      split at h
      · cases h; omega
      · cases h
    · split at h
      · rename_i h1
        have := hg 2 (by omega) h1
        split at h
        · cases h; omega
        · cases h
      · split at h
        · rename_i h1
          have := hg 3 (by omega) h1
          split at h
          · cases h; omega
          · cases h
        · split at h
          · have hqi := qGo_in _ (l.drop (i + 1).toNat) [] (i + 1) (Nat.le_refl _) (by omega)
            have hdl : (l.drop (i + 1).toNat).length = l.length - (i + 1).toNat := List.length_drop
            simp only at h
            split at h
            · rename_i h2
              cases h
              have := h2.1
              omega
            · cases h
          · split at h
            · split at h
              · rename_i h2
                have := h2.1
                cases h; omega
              · cases h; omega
            · cases h
def rallGo : Nat → List UInt8 → Int → List Tok → Except Int (List Tok)
  | 0, _, _, acc => .ok acc
  | f + 1, l, i, acc =>
    if (l.length : Int) ≤ i then .ok acc
    else if clsF (byt l i) = 6 then rallGo f l (i + 1) acc
    else match tokR l i with
      | none => .error i
      | some (k, s, n, e) => rallGo f l e (acc ++ [⟨k, i, s, n⟩])
def rallF (l : List UInt8) : Except Int (List Tok) := rallGo (l.length + 1) l 0 []

/-! from PlA -/
theorem of256 {p : Int → Prop} (h : ∀ n : Fin 256, p (n.val : Int)) (c : Int) (hc : 0 ≤ c ∧ c ≤ 255) : p c := by
  have := h ⟨c.toNat, by omega⟩
  simpa [Int.toNat_of_nonneg hc.1] using this
theorem wd_all : ∀ n : Fin 256, isWd (n.val : Int) = (isUp (n.val : Int) || isIn (n.val : Int)) := by decide +kernel
theorem blank_all : ∀ n : Fin 256, blankF (n.val : Int) = decide (clsF (n.val : Int) = 6) := by decide +kernel
theorem sign_all : ∀ n : Fin 256, decide (0 ≤ Lib.indexByte signs (n.val : Int).toNat.toUInt8) = decide (clsF (n.val : Int) = 7) := by decide +kernel
theorem isWd_eq (c : Int) (hc : 0 ≤ c ∧ c ≤ 255) : isWd c = (isUp c || isIn c) := of256 (p := fun c => isWd c = (isUp c || isIn c)) wd_all c hc
theorem blank_eq (c : Int) (hc : 0 ≤ c ∧ c ≤ 255) : blankF c = decide (clsF c = 6) := of256 (p := fun c => blankF c = decide (clsF c = 6)) blank_all c hc
theorem sign_eq (c : Int) (hc : 0 ≤ c ∧ c ≤ 255) : decide (0 ≤ Lib.indexByte signs c.toNat.toUInt8) = decide (clsF c = 7) := of256 (p := fun c => decide (0 ≤ Lib.indexByte signs c.toNat.toUInt8) = decide (clsF c = 7)) sign_all c hc
theorem u8_range (b : UInt8) : 0 ≤ (b.toNat : Int) ∧ (b.toNat : Int) ≤ 255 := by
  have := b.toNat_lt
  omega
def tw (p : Int → Bool) (m : List UInt8) : List UInt8 := m.takeWhile fun b => p b.toNat
theorem runTo_eq (p : Int → Bool) (l : List UInt8) (i : Int) : runTo p l i = i + (tw p (l.drop i.toNat)).length := rfl
theorem tw_len (p : Int → Bool) : ∀ m : List UInt8, (tw p m).length ≤ m.length
  | [] => by simp [tw]
  | x :: m => by
    have := tw_len p m
    unfold tw at *
    simp only [List.takeWhile_cons]
    split <;> simp <;> omega
theorem tw_take (p : Int → Bool) : ∀ m : List UInt8, m.take (tw p m).length = tw p m
  | [] => by simp [tw]
  | x :: m => by
    have := tw_take p m
    unfold tw at *
    simp only [List.takeWhile_cons]
    split
    · simp [this]
    · simp
theorem cut_run (p : Int → Bool) (l : List UInt8) (i : Int) (h : 0 ≤ i) : cut l i (runTo p l i) = tw p (l.drop i.toNat) := by
  unfold cut
  rw [runTo_eq, show (i + ((tw p (l.drop i.toNat)).length : Int)).toNat - i.toNat = (tw p (l.drop i.toNat)).length by omega]
  exact tw_take p _
theorem tw_split {p q : Int → Bool} (hpq : ∀ b : UInt8, p b.toNat = true → q b.toNat = true) : ∀ m : List UInt8, tw q m = tw p m ++ tw q (m.drop (tw p m).length)
  | [] => by simp [tw]
  | x :: m => by
    have ih := tw_split hpq m
    unfold tw at *
    cases hp : p x.toNat with
    | true => simp [hp, hpq x hp]; exact ih
    | false => simp [hp]
theorem tw_all (p : Int → Bool) : ∀ m : List UInt8, (tw p m).all (fun b => p b.toNat) = true
  | [] => by simp [tw]
  | x :: m => by
    have ih := tw_all p m
    unfold tw at *
    cases hp : p x.toNat with
    | true => simp only [List.takeWhile_cons, hp, if_true, List.all_cons, Bool.true_and]; exact ih
    | false => simp [hp]
theorem tw_nil_iff {q : Int → Bool} (m : List UInt8) : tw q m = [] ↔ m = [] ∨ q (byt m 0) = false := by
  cases m with
  | nil => simp [tw]
  | cons x m =>
    have : byt (x :: m) 0 = (x.toNat : Int) := rfl
    rw [this]
    cases hq : q x.toNat <;> simp [tw, hq]
theorem byt_drop (l : List UInt8) (i : Int) (h : 0 ≤ i) (j : Nat) : byt (l.drop i.toNat) j = byt l (i + j) := by
  unfold byt
  rw [List.getD_eq_getElem?_getD, List.getD_eq_getElem?_getD, List.getElem?_drop, show i.toNat + (j : Int).toNat = (i + j).toNat by omega]
/-- what ends alone is all of the word -/
theorem alone_iff {p : Int → Bool} (hp : ∀ b : UInt8, p b.toNat = true → isWd b.toNat = true) (l : List UInt8) (i : Int) (h : 0 ≤ i ∧ i ≤ l.length) : aloneF l (runTo p l i) = true ↔ tw p (l.drop i.toNat) = tw isWd (l.drop i.toNat) := by
  have hs := tw_split hp (l.drop i.toNat)
  have hr := runTo_range p l i h
  have hdd : (l.drop i.toNat).drop (tw p (l.drop i.toNat)).length = l.drop (runTo p l i).toNat := by
    rw [List.drop_drop, runTo_eq]
    congr 1
    omega
  rw [hdd] at hs
  have h1 : tw p (l.drop i.toNat) = tw isWd (l.drop i.toNat) ↔ tw isWd (l.drop (runTo p l i).toNat) = [] := by
    rw [hs]
    simp
  rw [h1, tw_nil_iff]
  have h2 : l.drop (runTo p l i).toNat = [] ↔ runTo p l i = l.length := by
    rw [List.drop_eq_nil_iff]; omega
  have h3 : byt (l.drop (runTo p l i).toNat) 0 = byt l (runTo p l i) := by
    have := byt_drop l (runTo p l i) (by omega) 0
    simpa using this
  rw [h2, h3]
  have hb := byt_range l (runTo p l i)
  simp only [aloneF, Bool.or_eq_true, beq_iff_eq, Bool.and_eq_true, Bool.not_eq_true', isWd_eq _ hb, Bool.or_eq_false_iff]
  constructor
  · rintro (h | ⟨h, h'⟩)
    · exact .inl h
    · exact .inr ⟨h', h⟩
  · rintro (h | ⟨h, h'⟩)
    · exact .inl h
    · exact .inr ⟨h', h⟩
/-- a kind of run: what holds of the word that ends alone holds of the whole run -/
theorem kind_eq {p : Int → Bool} (hp : ∀ b : UInt8, p b.toNat = true → isWd b.toNat = true) (l : List UInt8) (i : Int) (h : 0 ≤ i ∧ i ≤ l.length) {α : Type} (f : List UInt8 → Int → Option α) (hf : ∀ x j, f x j ≠ none → x.all (fun b => p b.toNat) = true) :
    (if aloneF l (runTo p l i) then f (cut l i (runTo p l i)) (runTo p l i) else none) = f (cut l i (runTo isWd l i)) (runTo isWd l i) := by
  by_cases ha : aloneF l (runTo p l i) = true
  · have he := (alone_iff hp l i h).1 ha
    have hre : runTo p l i = runTo isWd l i := by rw [runTo_eq, runTo_eq, he]
    rw [if_pos ha, hre]
  · rw [if_neg ha]
    by_cases hn : f (cut l i (runTo isWd l i)) (runTo isWd l i) = none
    · exact hn.symm
    · exfalso
      apply ha
      rw [alone_iff hp l i h]
      have hall := hf _ _ hn
      rw [cut_run _ _ _ h.1] at hall
      have key : ∀ m : List UInt8, (tw isWd m).all (fun b => p b.toNat) = true → tw p m = tw isWd m := by
        intro m
        induction m with
        | nil => simp [tw]
        | cons x m ih =>
          unfold tw at *
          intro hm
          cases hq : isWd x.toNat with
          | true =>
            simp only [List.takeWhile_cons, hq, if_true, List.all_cons, Bool.and_eq_true] at hm ⊢
            rw [if_pos hm.1, ih hm.2]
          | false =>
            have : p x.toNat = false := by
              cases hpx : p x.toNat with
              | false => rfl
              | true => rw [hp x hpx] at hq; cases hq
            simp [hq, this]
      exact key _ hall
theorem words_up : wordsL.all (fun w => w.all fun b => isUp b.toNat) = true := by decide +kernel
theorem word_up {x : List UInt8} (h : wordF x = true) : x.all (fun b => isUp b.toNat) = true := by
  have := List.all_eq_true.1 words_up x (by simpa [wordF] using h)
  exact this
theorem okGo_ne (l : List UInt8) : ∀ j : Int, 0 < j → okGo l j = l.all fun b => isIn b.toNat := by
  induction l with
  | nil => intro j _; rfl
  | cons c l ih =>
    intro j hj
    have hc := u8_range c
    have key : ∀ n : Fin 256, (decide (clsF (n.val : Int) = 2) || (decide (clsF (n.val : Int) = 3) || decide (clsF (n.val : Int) = 4))) = isIn (n.val : Int) := by decide +kernel
    have hk := of256 (p := fun c => (decide (clsF c = 2) || (decide (clsF c = 3) || decide (clsF c = 4))) = isIn c) key c.toNat hc
    simp only [okGo, List.all_cons, ih (j + 1) (by omega), nmOk, show decide (j = 0) = false by simp; omega, Bool.not_false, Bool.true_and, hk]
theorem okGo_zero (c : UInt8) (l : List UInt8) : okGo (c :: l) 0 = (isLo c.toNat && l.all fun b => isIn b.toNat) := by
  have hc := u8_range c
  have key : ∀ n : Fin 256, decide (clsF (n.val : Int) = 2) = isLo (n.val : Int) := by decide +kernel
  have hk := of256 (p := fun c => decide (clsF c = 2) = isLo c) key c.toNat hc
  simp only [okGo, nmOk, decide_true, Bool.not_true, Bool.false_and, Bool.or_false, hk]
  rw [okGo_ne l (0 + 1) (by omega)]
theorem tw_full {p : Int → Bool} : ∀ m : List UInt8, (tw p m).length = m.length ↔ m.all (fun b => p b.toNat) = true
  | [] => by simp [tw]
  | x :: m => by
    have ih := tw_full (p := p) m
    unfold tw at *
    cases hp : p x.toNat with
    | true => simp only [List.takeWhile_cons, hp, if_true, List.length_cons, List.all_cons, Bool.true_and, ← ih]; omega
    | false => simp [hp]
theorem lo_in {c : Int} (h : isLo c = true) : isIn c = true := by simp [isIn, h]
theorem name_eq (x : List UInt8) : nameF x = rnameF x := by
  cases x with
  | nil => rfl
  | cons c x =>
    have hrun : (runTo isIn (c :: x) 0 == ((c :: x).length : Int)) = (c :: x).all fun b => isIn b.toNat := by
      rw [Bool.eq_iff_iff, ← tw_full, beq_iff_eq, runTo_eq]
      simp only [Int.toNat_zero, List.drop_zero]
      omega
    have hb : byt (c :: x) 0 = (c.toNat : Int) := rfl
    simp only [nameF, rnameF, okGo_zero, hrun, hb]
    rw [Bool.eq_iff_iff]
    simp only [Bool.and_eq_true, Bool.not_eq_true', decide_eq_true_eq, decide_eq_false_iff_not, List.all_cons, List.length_cons]
    constructor
    · rintro ⟨⟨⟨_, h1⟩, h2⟩, h3⟩
      exact ⟨⟨h2, h3.2⟩, by omega, h1⟩
    · rintro ⟨⟨h2, h3⟩, _, h1⟩
      exact ⟨⟨⟨by simp, h1⟩, h2⟩, lo_in h2, h3⟩
theorem name_in {x : List UInt8} (h : nameF x = true) : x.all (fun b => isIn b.toNat) = true := by
  simp only [nameF, Bool.and_eq_true, beq_iff_eq] at h
  rw [← tw_full]
  have := h.2
  rw [runTo_eq] at this
  simp only [Int.toNat_zero, List.drop_zero] at this
  omega

/-! from PlB -/
theorem di_bd {c : UInt8} (h : isDi c.toNat = true) : 48 ≤ (c.toNat : Int) ∧ (c.toNat : Int) ≤ 57 := by
  simpa [isDi] using h
theorem cls_di {c : UInt8} (h : isDi c.toNat = true) : clsF c.toNat = 3 := by
  have key : ∀ n : Fin 256, isDi (n.val : Int) = true → clsF (n.val : Int) = 3 := by decide +kernel
  exact of256 (p := fun c => isDi c = true → clsF c = 3) key c.toNat (u8_range c) h
theorem di_cls {c : UInt8} (h : clsF c.toNat = 3) : isDi c.toNat = true := by
  have := cls3 h
  simp [isDi]; omega
theorem num_step {c : UInt8} (h : isDi c.toNat = true) {n : Int} (hn : 0 ≤ n) : (inI (n * 10) ∧ inI (n * 10 + dg c.toNat)) ↔ ¬ (clsF c.toNat ≠ 3 ∨ 922337203685477580 < n ∨ (n = 922337203685477580 ∧ 7 < (c.toNat : Int) - 48)) := by
  have hb := di_bd h
  rw [dg_eq _ (by omega), cls_di h]
  unfold inI
  constructor
  · rintro ⟨h1, h2⟩ (h3 | h3 | h3)
    · exact h3 rfl
    · omega
    · omega
  · intro h3
    have h4 : ¬ (922337203685477580 < n) := fun h => h3 (.inr (.inl h))
    have h5 : ¬ (n = 922337203685477580 ∧ 7 < (c.toNat : Int) - 48) := fun h => h3 (.inr (.inr h))
    omega
theorem num_go : ∀ (x : List UInt8) (n : Int), 0 ≤ n → x.all (fun b => isDi b.toNat) = true → rnumGo x n = numGo x n ∧ ∀ m, numGo x n = some m → 0 ≤ m
  | [], n, hn, _ => ⟨rfl, fun m h => by simp only [numGo, Option.some.injEq] at h; omega⟩
  | c :: x, n, hn, hx => by
    simp only [List.all_cons, Bool.and_eq_true] at hx
    have hb := di_bd hx.1
    have hs := num_step hx.1 hn
    have hd : dg c.toNat = (c.toNat : Int) - 48 := dg_eq _ (by omega)
    simp only [rnumGo, numGo]
    by_cases hc : clsF c.toNat ≠ 3 ∨ 922337203685477580 < n ∨ (n = 922337203685477580 ∧ 7 < (c.toNat : Int) - 48)
    · rw [if_pos hc, if_neg (fun h => hs.1 h hc)]
      exact ⟨rfl, fun m h => by cases h⟩
    · rw [if_neg hc, if_pos (hs.2 hc), hd, show 10 * n + ((c.toNat : Int) - 48) = n * 10 + ((c.toNat : Int) - 48) by omega]
      exact num_go x _ (by omega) hx.2
theorem rnum_all : ∀ (x : List UInt8) (n : Int), rnumGo x n ≠ none → x.all (fun b => isDi b.toNat) = true
  | [], _, _ => rfl
  | c :: x, n, h => by
    simp only [rnumGo] at h
    split at h
    · exact absurd rfl h
    · rename_i hc
      have h3 : clsF c.toNat = 3 := by
        by_cases h3 : clsF c.toNat = 3
        · exact h3
        · exact absurd (.inl h3) hc
      simp only [List.all_cons, Bool.and_eq_true]
      exact ⟨di_cls h3, rnum_all x _ h⟩
/-- what a number's text is -/
def numTok (x : List UInt8) (j : Int) : Option (Int × List UInt8 × Int × Int) := if 0 ≤ rnumF x then some (3, x, rnumF x, j) else none
theorem numTok_all {x : List UInt8} {j : Int} (h : numTok x j ≠ none) : x.all (fun b => isDi b.toNat) = true := by
  unfold numTok at h
  split at h
  · rename_i h0
    unfold rnumF at h0
    split at h0
    · omega
    · rename_i n hn
      exact rnum_all x 0 (by rw [hn]; simp)
  · exact absurd rfl h
theorem lead {x : List UInt8} (hne : x ≠ []) : (decide (x = [48]) || byt x 0 != 48) = true ↔ ¬ (1 < (x.length : Int) ∧ byt x 0 = 48) := by
  cases x with
  | nil => exact absurd rfl hne
  | cons c x =>
    have hb : byt (c :: x) 0 = (c.toNat : Int) := rfl
    have hc : (c.toNat : Int) = 48 ↔ c = 48 := by rw [← UInt8.toNat_inj]; simp; omega
    rw [hb]
    simp only [Bool.or_eq_true, decide_eq_true_eq, bne_iff_ne, ne_eq, List.cons.injEq, List.length_cons, hc]
    constructor
    · rintro (⟨_, h⟩ | h) ⟨h1, h2⟩
      · subst h; simp at h1
      · exact h h2
    · intro h
      by_cases h2 : c = 48
      · left
        refine ⟨h2, ?_⟩
        cases x with
        | nil => rfl
        | cons d x => exact absurd ⟨by simp; omega, h2⟩ h
      · exact .inr h2
theorem num_eq {x : List UInt8} (hne : x ≠ []) (hx : x.all (fun b => isDi b.toNat) = true) (a : Bool) (j : Int) :
    (match numGo x 0 with
    | none => none
    | some n => if (decide (x = [48]) || byt x 0 != 48) && a then some ((3 : Int), x, n, j) else none) = if a then numTok x j else none := by
  obtain ⟨h1, h2⟩ := num_go x 0 (by omega) hx
  unfold numTok rnumF
  rw [h1]
  cases hn : numGo x 0 with
  | none => cases a <;> simp
  | some n =>
    have hp := h2 n hn
    cases hl : (decide (x = [48]) || byt x 0 != 48) with
    | true =>
      have := (lead hne).1 hl
      cases a <;> simp [this, hp]
    | false =>
      have : 1 < (x.length : Int) ∧ byt x 0 = 48 := by
        by_cases hh : 1 < (x.length : Int) ∧ byt x 0 = 48
        · exact hh
        · rw [(lead hne).2 hh] at hl; cases hl
      cases a <;> simp [this]
theorem hex_iff (l : List UInt8) (i : Int) (h : 0 ≤ i ∧ i < l.length) : HexAt l i ↔ pre (l.drop i.toNat) [120, 39] = true := by
  have hdl : (l.drop i.toNat).length = l.length - i.toNat := List.length_drop
  have hb1 := byt_drop l i h.1 1
  unfold HexAt
  rw [cut_run _ _ _ h.1, runTo_eq]
  generalize l.drop i.toNat = m at *
  have w120 : isWd ((120 : UInt8).toNat : Int) = true := by decide +kernel
  have w39 : isWd ((39 : UInt8).toNat : Int) = false := by decide +kernel
  match m with
  | [] => simp at hdl; omega
  | [a] =>
    simp only [List.length_singleton] at hdl
    constructor
    · rintro ⟨h1, h2, _⟩
      rw [h1] at h2
      simp at h2
      omega
    · intro h; simp [pre] at h
  | a :: b :: r =>
    have hbb : byt (a :: b :: r) ((1 : Nat) : Int) = (b.toNat : Int) := rfl
    constructor
    · rintro ⟨h1, h2, h3⟩
      rw [h1] at h3
      have hb : b = 39 := by
        have : byt l (i + (([120] : List UInt8).length : Int)) = (b.toNat : Int) := by rw [← hbb, hb1]; rfl
        rw [this] at h3
        rw [← UInt8.toNat_inj]; simp; omega
      have ha : a = 120 := by
        unfold tw at h1
        cases hw : isWd a.toNat with
        | true => simp [hw] at h1; exact h1.1
        | false => simp [hw] at h1
      subst hb; subst ha
      simp [pre]
    · intro h
      simp only [pre, Bool.and_eq_true, decide_eq_true_eq, List.length_cons, List.length_nil, List.take_succ_cons, List.take_zero, List.cons.injEq, and_true] at h
      obtain ⟨_, rfl, rfl⟩ := h
      have e1 : tw isWd (120 :: 39 :: r) = [120] := by
        unfold tw
        rw [List.takeWhile_cons, if_pos w120, List.takeWhile_cons, if_neg (by rw [w39]; simp)]
      rw [e1]
      refine ⟨rfl, ?_, ?_⟩
      · simp only [List.length_cons] at hdl ⊢
        simp
        omega
      · have : byt l (i + (([120] : List UInt8).length : Int)) = (((39 : UInt8).toNat : Nat) : Int) := by
          rw [← hbb, hb1]; rfl
        rw [this]; rfl
theorem index_tw : ∀ m : List UInt8, Lib.indexByte m 39 = if (tw (fun c => !decide (c = 39)) m).length = m.length then -1 else ((tw (fun c => !decide (c = 39)) m).length : Int)
  | [] => rfl
  | b :: m => by
    have ih := index_tw m
    have hl := tw_len (fun c => !decide (c = 39)) m
    by_cases hb : b = 39
    · subst hb
      rfl
    · have hne : ¬ ((b.toNat : Int) = 39) := fun h => hb (by rw [← UInt8.toNat_inj]; simp; omega)
      have e1 : tw (fun c => !decide (c = 39)) (b :: m) = b :: tw (fun c => !decide (c = 39)) m := by
        unfold tw
        rw [List.takeWhile_cons, if_pos (by simp [hne])]
      have e2 : (b == 39) = false := by simpa using hb
      rw [Lib.indexByte, e1, ih, e2]
      simp only [Bool.false_eq_true, if_false, List.length_cons]
      by_cases hf : (tw (fun c => !decide (c = 39)) m).length = m.length
      · simp [hf]
      · have : ¬ ((((tw (fun c => !decide (c = 39)) m).length : Int) == -1) = true) := by simp
        rw [if_neg hf, if_neg this, if_neg (by omega)]
        omega
theorem pre_two (l : List UInt8) (i : Int) (h : 0 ≤ i ∧ i < l.length) (a b : UInt8) : pre (l.drop i.toNat) [a, b] = true ↔ i + 1 < l.length ∧ cut l i (i + 2) = [a, b] := by
  unfold pre cut
  have hdl : (l.drop i.toNat).length = l.length - i.toNat := List.length_drop
  rw [show (i + 2).toNat - i.toNat = 2 by omega]
  simp only [Bool.and_eq_true, decide_eq_true_eq, List.length_cons, List.length_nil, hdl]
  constructor
  · rintro ⟨h1, h2⟩; exact ⟨by omega, h2⟩
  · rintro ⟨h1, h2⟩; exact ⟨by omega, h2⟩
theorem pre_head {m : List UInt8} {a b : UInt8} (h : pre m [a, b] = true) : byt m 0 = a.toNat := by
  simp only [pre, Bool.and_eq_true, decide_eq_true_eq, List.length_cons, List.length_nil] at h
  obtain ⟨_, h2⟩ := h
  cases m with
  | nil => cases h2
  | cons c m => simp at h2; rw [← h2.1]; rfl
theorem sign_tok (l : List UInt8) (i : Int) (h : 0 ≤ i ∧ i < l.length) : (if signF (l.drop i.toNat) = 0 then none else some ((6 : Int), cut l i (i + signF (l.drop i.toNat)), (0 : Int), i + signF (l.drop i.toNat))) =
    if clsF (byt l i) = 7 then (if twoR l i then some (6, cut l i (i + 2), 0, i + 2) else some (6, cut l i (i + 1), 0, i + 1)) else none := by
  have hb0 : byt (l.drop i.toNat) 0 = byt l i := by simpa using byt_drop l i h.1 0
  have hb := byt_range l i
  have hs := sign_eq (byt l i) hb
  have htwo : twoR l i ↔ (pre (l.drop i.toNat) [60, 62] || pre (l.drop i.toNat) [60, 61] || pre (l.drop i.toNat) [62, 61]) = true := by
    simp only [Bool.or_eq_true, pre_two l i h, twoR]
    constructor
    · rintro ⟨h1, h2 | h2 | h2⟩
      · exact .inl (.inl ⟨h1, h2⟩)
      · exact .inl (.inr ⟨h1, h2⟩)
      · exact .inr ⟨h1, h2⟩
    · rintro ((⟨h1, h2⟩ | ⟨h1, h2⟩) | ⟨h1, h2⟩)
      · exact ⟨h1, .inl h2⟩
      · exact ⟨h1, .inr (.inl h2)⟩
      · exact ⟨h1, .inr (.inr h2)⟩
  unfold signF
  by_cases h2 : twoR l i
  · have h2' := htwo.1 h2
    have hc : byt l i = 60 ∨ byt l i = 62 := by
      rw [← hb0]
      simp only [Bool.or_eq_true] at h2'
      rcases h2' with (h | h) | h
      · left; rw [pre_head h]; rfl
      · left; rw [pre_head h]; rfl
      · right; rw [pre_head h]; rfl
    have hc7 : clsF (byt l i) = 7 := by
      rcases hc with h | h <;> rw [h] <;> decide +kernel
    rw [if_pos h2', if_neg (by omega), if_pos hc7, if_pos h2]
  · have h2' : ¬ _ := fun h => h2 (htwo.2 h)
    rw [if_neg h2', if_neg h2, hb0]
    by_cases hc7 : clsF (byt l i) = 7
    · have h0 : 0 ≤ Lib.indexByte signs (byt l i).toNat.toUInt8 := by
        rw [decide_eq_true hc7] at hs; exact of_decide_eq_true hs
      rw [if_pos h0, if_neg (by omega), if_pos hc7]
    · have h0 : ¬ 0 ≤ Lib.indexByte signs (byt l i).toNat.toUInt8 := by
        rw [decide_eq_false hc7] at hs; exact of_decide_eq_false hs
      rw [if_neg h0, if_pos rfl, if_neg hc7]
theorem up_wd (b : UInt8) (h : isUp b.toNat = true) : isWd b.toNat = true := by rw [isWd_eq _ (u8_range b), h]; rfl
theorem in_wd (b : UInt8) (h : isIn b.toNat = true) : isWd b.toNat = true := by rw [isWd_eq _ (u8_range b), h, Bool.or_true]
theorem di_in (b : UInt8) (h : isDi b.toNat = true) : isIn b.toNat = true := by simp [isIn, h]
theorem ite_and {α : Type} (p q : Bool) (x : α) : (if (p && q) = true then some x else none) = if q = true then (if p = true then some x else none) else none := by
  cases p <;> cases q <;> rfl
theorem tok_eq (l : List UInt8) (i : Int) (h : 0 ≤ i ∧ i < l.length) : tokF l i = tokR l i := by
  have hb := byt_range l i
  unfold tokF tokR
  by_cases hx : HexAt l i
  · have hx' := (hex_iff l i h).1 hx
    rw [if_pos hx, if_pos hx']
    have hr1 : runTo isWd l i = i + 1 := by
      rw [runTo_eq, ← cut_run _ _ _ h.1, hx.1]; rfl
    have hlt : i + 1 < l.length := by have := hx.2.1; omega
    have hdl : (l.drop (i + 2).toNat).length = l.length - (i + 2).toNat := List.length_drop
    have htl := tw_len (fun c => !decide (c = 39)) (l.drop (i + 2).toNat)
    rw [hr1]
    simp only
    rw [show i + 1 + 1 = i + 2 by omega, index_tw, runTo_eq]
    by_cases hf : (tw (fun c => !decide (c = 39)) (l.drop (i + 2).toNat)).length = (l.drop (i + 2).toNat).length
    · rw [if_pos hf, if_pos (by omega), if_pos (by omega)]
    · rw [if_neg hf, if_neg (show ¬ ((tw (fun c => !decide (c = 39)) (l.drop (i + 2).toNat)).length : Int) < 0 by omega), if_neg (show ¬ i + 2 + ((tw (fun c => !decide (c = 39)) (l.drop (i + 2).toNat)).length : Int) = l.length by omega)]
      rw [show i + 3 + ((tw (fun c => !decide (c = 39)) (l.drop (i + 2).toNat)).length : Int) = i + 2 + ((tw (fun c => !decide (c = 39)) (l.drop (i + 2).toNat)).length : Int) + 1 by omega]
  · have hx' : ¬ pre (l.drop i.toNat) [120, 39] = true := fun hh => hx ((hex_iff l i h).2 hh)
    rw [if_neg hx, if_neg hx']
    have cls : ∀ n : Fin 256, clsF (n.val : Int) = if isUp (n.val : Int) then 1 else if isLo (n.val : Int) then 2 else if isDi (n.val : Int) then 3 else if (n.val : Int) = 39 then 5 else if clsF (n.val : Int) = 7 then 7 else if clsF (n.val : Int) = 6 then 6 else if clsF (n.val : Int) = 4 then 4 else 0 := by decide +kernel
    have hcls := of256 (p := fun c => clsF c = if isUp c then 1 else if isLo c then 2 else if isDi c then 3 else if c = 39 then 5 else if clsF c = 7 then 7 else if clsF c = 6 then 6 else if clsF c = 4 then 4 else 0) cls (byt l i) hb
    have h' : 0 ≤ i ∧ i ≤ l.length := by omega
    cases hu : isUp (byt l i) with
    | true =>
      rw [hu] at hcls
      have h1 : clsF (byt l i) = 1 := hcls
      rw [if_pos rfl, if_pos h1, ite_and]
      exact kind_eq up_wd l i h' (fun x j => if wordF x then some ((1 : Int), x, (0 : Int), j) else none) (fun x j hn => by
        by_cases hw : wordF x = true
        · exact word_up hw
        · simp [hw] at hn)
    | false =>
      rw [hu] at hcls
      rw [if_neg (by simp)]
      cases hlo : isLo (byt l i) with
      | true =>
        rw [hlo] at hcls
        have h1 : clsF (byt l i) = 2 := hcls
        rw [if_pos rfl, if_neg (show ¬ clsF (byt l i) = 1 by omega), if_pos h1, ite_and]
        have := kind_eq in_wd l i h' (fun x j => if nameF x then some ((2 : Int), x, (0 : Int), j) else none) (fun x j hn => by
          by_cases hw : nameF x = true
          · exact name_in hw
          · simp [hw] at hn)
        rw [this, name_eq]
      | false =>
        rw [hlo] at hcls
        rw [if_neg (by simp)]
        cases hd : isDi (byt l i) with
        | true =>
          rw [hd] at hcls
          have h1 : clsF (byt l i) = 3 := hcls
          rw [if_pos rfl, if_neg (show ¬ clsF (byt l i) = 1 by omega), if_neg (show ¬ clsF (byt l i) = 2 by omega), if_pos h1]
          have hrg := runTo_gt h hd
          have hne : cut l i (runTo isDi l i) ≠ [] := by
            have := cut_length l i (runTo isDi l i) (by have := runTo_range isDi l i h'; omega)
            intro h0
            rw [h0] at this
            simp at this
            omega
          have hall : (cut l i (runTo isDi l i)).all (fun b => isDi b.toNat) = true := by rw [cut_run _ _ _ h.1]; exact tw_all _ _
          refine (num_eq hne hall _ _).trans ?_
          exact kind_eq (fun b hb => in_wd b (di_in b hb)) l i h' numTok (fun x j hn => numTok_all hn)
        | false =>
          rw [hd] at hcls
          rw [if_neg (by simp)]
          by_cases hq : byt l i = 39
          · have h1 : clsF (byt l i) = 5 := by rw [hq]; decide +kernel
            rw [if_pos hq, if_neg (show ¬ clsF (byt l i) = 1 by omega), if_neg (show ¬ clsF (byt l i) = 2 by omega), if_neg (show ¬ clsF (byt l i) = 3 by omega), if_pos h1]
            have hqi := qGo_in _ (l.drop (i + 1).toNat) [] (i + 1) (Nat.le_refl _) (by omega)
            simp only
            generalize qGo (l.drop (i + 1).toNat) [] (i + 1) = q at *
            unfold checkF
            cases hr : rightF 4 0 q.1 with
            | true =>
              by_cases hn : q.2 < 0
              · have : q.2 = -1 := by omega
                simp [this]
              · have : ¬ q.2 = -1 := by omega
                simp [this, hn]
            | false => simp
          · have h1 : ¬ clsF (byt l i) = 1 ∧ ¬ clsF (byt l i) = 2 ∧ ¬ clsF (byt l i) = 3 ∧ ¬ clsF (byt l i) = 5 := by
              simp only [Bool.false_eq_true, if_false, if_neg hq] at hcls
              split at hcls
              · omega
              · split at hcls
                · omega
                · split at hcls <;> omega
            rw [if_neg hq, if_neg h1.1, if_neg h1.2.1, if_neg h1.2.2.1, if_neg h1.2.2.2]
            exact sign_tok l i h
theorem allGo_eq (l : List UInt8) : ∀ (f : Nat) (i : Int) (acc : List Tok), 0 ≤ i → allGo f l i acc = rallGo f l i acc
  | 0, _, _, _ => rfl
  | f + 1, i, acc, hi => by
    simp only [allGo, rallGo]
    by_cases he : (l.length : Int) ≤ i
    · rw [if_pos he, if_pos he]
    · rw [if_neg he, if_neg he, blank_eq _ (byt_range l i)]
      by_cases hb : clsF (byt l i) = 6
      · rw [if_pos (by simp [hb]), if_pos hb]
        exact allGo_eq l f _ _ (by omega)
      · rw [if_neg (by simp [hb]), if_neg hb, tok_eq l i (by omega)]
        cases ht : tokR l i with
        | none => rfl
        | some r =>
          obtain ⟨k, s, n, e⟩ := r
          have := tokR_end (by omega) ht
          exact allGo_eq l f _ _ (by omega)
theorem allF_eq (l : List UInt8) : allF l = rallF l := allGo_eq l _ 0 [] (by omega)

/-! from PlC -/
/-- between quotes: what is meant, and how many bytes it takes, the quote that ends it among them -/
def qS : List UInt8 → List UInt8 → Option (List UInt8 × Nat)
  | [], _ => none
  | [c], acc => if c = 39 then some (acc, 1) else none
  | c :: d :: r, acc => if c = 39 then (if d = 39 then (qS r (acc ++ [39])).map fun x => (x.1, x.2 + 2) else some (acc, 1)) else (qS (d :: r) (acc ++ [c])).map fun x => (x.1, x.2 + 1)
theorem qGo_eq : ∀ (f : Nat) (l acc : List UInt8) (i : Int), l.length ≤ f → qGo l acc i = match qS l acc with
    | none => ([], -1)
    | some (s, n) => (s, i + (n : Int))
  | _, [], _, _, _ => rfl
  | _, [c], acc, i, _ => by
    by_cases hc : c = 39 <;> simp [qGo, qS, hc]
  | 0, c :: d :: r, _, _, h => by simp at h
  | f + 1, c :: d :: r, acc, i, h => by
    simp only [List.length_cons] at h
    rw [qGo, qS]
    by_cases hc : c = 39
    · rw [if_pos hc, if_pos hc]
      by_cases hd : d = 39
      · rw [if_pos hd, if_pos hd, qGo_eq f r (acc ++ [39]) (i + 2) (by omega)]
        cases qS r (acc ++ [39]) with
        | none => rfl
        | some x => simp; omega
      · rw [if_neg hd, if_neg hd]; rfl
    · rw [if_neg hc, if_neg hc, qGo_eq f (d :: r) (acc ++ [c]) (i + 1) (by simp; omega)]
      cases qS (d :: r) (acc ++ [c]) with
      | none => rfl
      | some x => simp; omega
theorem qS_len : ∀ (f : Nat) (l acc s : List UInt8) (n : Nat), l.length ≤ f → qS l acc = some (s, n) → 1 ≤ n ∧ n ≤ l.length
  | _, [], _, _, _, _, h => by cases h
  | _, [c], acc, s, n, _, h => by
    by_cases hc : c = 39 <;> simp [qS, hc] at h
    simp [← h.2]
  | 0, c :: d :: r, _, _, _, h, _ => by simp at h
  | f + 1, c :: d :: r, acc, s, n, hl, h => by
    simp only [List.length_cons] at hl ⊢
    rw [qS] at h
    by_cases hc : c = 39
    · rw [if_pos hc] at h
      by_cases hd : d = 39
      · rw [if_pos hd] at h
        obtain ⟨⟨s', n'⟩, hq, he⟩ := Option.map_eq_some_iff.1 h
        have := qS_len f r (acc ++ [39]) s' n' (by omega) hq
        simp at he; omega
      · rw [if_neg hd] at h
        simp at h; omega
    · rw [if_neg hc] at h
      obtain ⟨⟨s', n'⟩, hq, he⟩ := Option.map_eq_some_iff.1 h
      have := qS_len f (d :: r) (acc ++ [c]) s' n' (by simp; omega) hq
      simp at he this; omega
/-- what stands behind, if it begins with no quote, does not matter -/
theorem qS_app : ∀ (f : Nat) (l acc s : List UInt8) (n : Nat) (t : List UInt8), l.length ≤ f → (∀ c b, t = c :: b → c ≠ 39) → qS l acc = some (s, n) → qS (l ++ t) acc = some (s, n)
  | _, [], _, _, _, _, _, _, h => by cases h
  | _, [c], acc, s, n, t, _, ht, h => by
    by_cases hc : c = 39 <;> simp [qS, hc] at h
    cases t with
    | nil => simp [qS, hc, h]
    | cons d t => simp [qS, hc, ht d t rfl, h]
  | 0, c :: d :: r, _, _, _, _, h, _, _ => by simp at h
  | f + 1, c :: d :: r, acc, s, n, t, hl, ht, h => by
    simp only [List.length_cons] at hl
    simp only [List.cons_append]
    rw [qS] at h ⊢
    by_cases hc : c = 39
    · rw [if_pos hc] at h ⊢
      by_cases hd : d = 39
      · rw [if_pos hd] at h ⊢
        obtain ⟨⟨s', n'⟩, hq, he⟩ := Option.map_eq_some_iff.1 h
        rw [qS_app f r (acc ++ [39]) s' n' t (by omega) ht hq]
        exact congrArg some he
      · rw [if_neg hd] at h ⊢
        exact h
    · rw [if_neg hc] at h ⊢
      obtain ⟨⟨s', n'⟩, hq, he⟩ := Option.map_eq_some_iff.1 h
      have := qS_app f (d :: r) (acc ++ [c]) s' n' t (by simp; omega) ht hq
      simp only [List.cons_append] at this
      rw [this]
      exact congrArg some he
/-- what is cut off behind does not matter -/
theorem qS_take : ∀ (f : Nat) (l acc s : List UInt8) (n j : Nat), l.length ≤ f → n ≤ j → qS l acc = some (s, n) → qS (l.take j) acc = some (s, n)
  | _, [], _, _, _, _, _, _, h => by cases h
  | _, [c], acc, s, n, j, _, hj, h => by
    have hl := qS_len 1 [c] acc s n (by simp) h
    obtain ⟨j, rfl⟩ : ∃ i, j = i + 1 := ⟨j - 1, by omega⟩
    simpa using h
  | 0, c :: d :: r, _, _, _, _, h, _, _ => by simp at h
  | f + 1, c :: d :: r, acc, s, n, j, hl, hj, h => by
    have hn := qS_len (f + 1) (c :: d :: r) acc s n hl h
    simp only [List.length_cons] at hl
    obtain ⟨j, rfl⟩ : ∃ i, j = i + 1 := ⟨j - 1, by omega⟩
    rw [qS] at h
    by_cases hc : c = 39
    · rw [if_pos hc] at h
      by_cases hd : d = 39
      · rw [if_pos hd] at h
        obtain ⟨⟨s', n'⟩, hq, he⟩ := Option.map_eq_some_iff.1 h
        simp only [Prod.mk.injEq] at he
        obtain ⟨j, rfl⟩ : ∃ i, j = i + 1 := ⟨j - 1, by omega⟩
        simp only [List.take_succ_cons]
        rw [qS, if_pos hc, if_pos hd, qS_take f r (acc ++ [39]) s' n' j (by omega) (by omega) hq]
        simp [he]
      · rw [if_neg hd] at h
        cases j with
        | zero => simp [qS, hc]; simpa using h
        | succ j => simp only [List.take_succ_cons]; rw [qS, if_pos hc, if_neg hd]; exact h
    · rw [if_neg hc] at h
      obtain ⟨⟨s', n'⟩, hq, he⟩ := Option.map_eq_some_iff.1 h
      simp only [Prod.mk.injEq] at he
      have hn' := qS_len f (d :: r) (acc ++ [c]) s' n' (by simp; omega) hq
      obtain ⟨j, rfl⟩ : ∃ i, j = i + 1 := ⟨j - 1, by omega⟩
      have := qS_take f (d :: r) (acc ++ [c]) s' n' (j + 1) (by simp; omega) (by omega) hq
      simp only [List.take_succ_cons] at this ⊢
      rw [qS, if_neg hc, this]
      simp [he]
theorem tw_app {p : Int → Bool} (t : List UInt8) (ht : ∀ c b, t = c :: b → p c.toNat = false) : ∀ m : List UInt8, tw p (m ++ t) = tw p m
  | [] => by
    cases t with
    | nil => rfl
    | cons c t => simp [tw, ht c t rfl]
  | x :: m => by
    have ih := tw_app t ht m
    unfold tw at *
    cases hp : p x.toNat with
    | true => simp [hp]; exact ih
    | false => simp [hp]
theorem tw_take' {p : Int → Bool} : ∀ (m : List UInt8) (j : Nat), tw p (m.take j) = (tw p m).take j
  | [], j => by simp [tw]
  | x :: m, 0 => by simp [tw]
  | x :: m, j + 1 => by
    have ih := tw_take' (p := p) m j
    unfold tw at *
    cases hp : p x.toNat with
    | true => simp [hp]; exact ih
    | false => simp [hp]
def nq (c : Int) : Bool := !decide (c = 39)
def twoS (m : List UInt8) : Bool := pre m [60, 62] || pre m [60, 61] || pre m [62, 61]
/-- the token at the head of a text: kind, text, number, how many bytes it takes -/
def tokS (m : List UInt8) : Option (Int × List UInt8 × Int × Nat) :=
  if pre m [120, 39] then
    (if (tw nq (m.drop 2)).length = (m.drop 2).length then none else
    match (if (tw nq (m.drop 2)).length % 2 = 0 then unGo (tw nq (m.drop 2)) [] else none) with
    | none => none
    | some b => if 1000 < (b.length : Int) then none else some (5, b, 0, (tw nq (m.drop 2)).length + 3))
  else if clsF (byt m 0) = 1 then (if wordF (tw isWd m) then some (1, tw isWd m, 0, (tw isWd m).length) else none)
  else if clsF (byt m 0) = 2 then (if rnameF (tw isWd m) then some (2, tw isWd m, 0, (tw isWd m).length) else none)
  else if clsF (byt m 0) = 3 then (if 0 ≤ rnumF (tw isWd m) then some (3, tw isWd m, rnumF (tw isWd m), (tw isWd m).length) else none)
  else if clsF (byt m 0) = 5 then
    match qS (m.drop 1) [] with
    | none => none
    | some (s, n) => if checkF 4 0 s = 0 then some (4, s, 0, n + 1) else none
  else if clsF (byt m 0) = 7 then (if twoS m then some (6, m.take 2, 0, 2) else some (6, m.take 1, 0, 1))
  else none
theorem tokR_S (l : List UInt8) (i : Int) (h : 0 ≤ i ∧ i < l.length) : tokR l i = (tokS (l.drop i.toNat)).map fun x => (x.1, x.2.1, x.2.2.1, i + (x.2.2.2 : Int)) := by
  have hb0 : byt (l.drop i.toNat) 0 = byt l i := by simpa using byt_drop l i h.1 0
  have hdl : (l.drop i.toNat).length = l.length - i.toNat := List.length_drop
  have hd1 : (l.drop i.toNat).drop 1 = l.drop (i + 1).toNat := by rw [List.drop_drop]; congr 1; omega
  have hd2 : (l.drop i.toNat).drop 2 = l.drop (i + 2).toNat := by rw [List.drop_drop]; congr 1; omega
  unfold tokR tokS
  by_cases hx : HexAt l i
  · rw [if_pos hx, if_pos ((hex_iff l i h).1 hx)]
    have hr1 : runTo isWd l i = i + 1 := by
      rw [runTo_eq, ← cut_run _ _ _ h.1, hx.1]; rfl
    have hlt : i + 1 < l.length := by have := hx.2.1; omega
    have hdl2 : (l.drop (i + 2).toNat).length = l.length - (i + 2).toNat := List.length_drop
    rw [hr1]
    simp only
    rw [show i + 1 + 1 = i + 2 by omega, hd2, cut_run _ _ _ (by omega), runTo_eq]
    change (if i + 2 + ((tw nq (l.drop (i + 2).toNat)).length : Int) = l.length then none else match (if (tw nq (l.drop (i + 2).toNat)).length % 2 = 0 then unGo (tw nq (l.drop (i + 2).toNat)) [] else none) with | none => none | some b => if 1000 < (b.length : Int) then none else some ((5 : Int), b, (0 : Int), i + 2 + ((tw nq (l.drop (i + 2).toNat)).length : Int) + 1)) = _
    generalize tw nq (l.drop (i + 2).toNat) = r at *
    by_cases hf : r.length = (l.drop (i + 2).toNat).length
    · rw [if_pos (show i + 2 + (r.length : Int) = l.length by omega), if_pos hf]; rfl
    · rw [if_neg (show ¬ i + 2 + (r.length : Int) = l.length by omega), if_neg hf]
      generalize (if r.length % 2 = 0 then unGo r [] else none) = u
      cases u with
      | none => rfl
      | some b =>
        by_cases hbig : 1000 < (b.length : Int)
        · simp only [if_pos hbig]; rfl
        · simp only [if_neg hbig, Option.map_some, Option.some.injEq, Prod.mk.injEq, true_and]
          omega
  · rw [if_neg hx, if_neg (fun hh => hx ((hex_iff l i h).2 hh)), hb0, cut_run _ _ _ h.1, runTo_eq]
    split
    · split <;> rfl
    · split
      · split <;> rfl
      · split
        · split <;> rfl
        · split
          · rw [hd1, qGo_eq _ _ _ _ (Nat.le_refl _)]
            cases qS (l.drop (i + 1).toNat) [] with
            | none => rfl
            | some x =>
              obtain ⟨s, n⟩ := x
              by_cases hk : checkF 4 0 s = 0
              · simp only [if_pos hk]
                rw [if_pos ⟨by omega, hk⟩]
                simp; omega
              · simp [hk]
          · split
            · have htwo : twoR l i ↔ twoS (l.drop i.toNat) = true := by
                simp only [twoS, Bool.or_eq_true, pre_two l i h, twoR]
                constructor
                · rintro ⟨h1, h2 | h2 | h2⟩
                  · exact .inl (.inl ⟨h1, h2⟩)
                  · exact .inl (.inr ⟨h1, h2⟩)
                  · exact .inr ⟨h1, h2⟩
                · rintro ((⟨h1, h2⟩ | ⟨h1, h2⟩) | ⟨h1, h2⟩)
                  · exact ⟨h1, .inl h2⟩
                  · exact ⟨h1, .inr (.inl h2)⟩
                  · exact ⟨h1, .inr (.inr h2)⟩
              have hc : ∀ k : Nat, cut l i (i + k) = (l.drop i.toNat).take k := fun k => by
                unfold cut; congr 1; omega
              have h1 := hc 1
              have h2 := hc 2
              by_cases ht : twoR l i
              · rw [if_pos ht, if_pos (htwo.1 ht)]
                simp only [Option.map_some]
                rw [← h2]; rfl
              · rw [if_neg ht, if_neg (fun hh => ht (htwo.2 hh))]
                simp only [Option.map_some]
                rw [← h1]; rfl
            · rfl

/-! from PlD -/
theorem pre_take {m x : List UInt8} {j : Nat} (h : pre (m.take j) x = true) : pre m x = true := by
  simp only [pre, Bool.and_eq_true, decide_eq_true_eq, List.length_take, List.take_take] at h ⊢
  have h2 := h.2
  rw [show min x.length j = x.length by omega] at h2
  exact ⟨by omega, h2⟩
theorem pre_take' {m x : List UInt8} {j : Nat} (h : pre m x = true) (hj : x.length ≤ j) : pre (m.take j) x = true := by
  simp only [pre, Bool.and_eq_true, decide_eq_true_eq, List.length_take, List.take_take] at h ⊢
  refine ⟨by omega, ?_⟩
  rw [show min x.length j = x.length by omega]
  exact h.2
theorem byt_take {m : List UInt8} {j : Nat} (h : 1 ≤ j) : byt (m.take j) 0 = byt m 0 := by
  unfold byt
  simp [List.getD_eq_getElem?_getD, show 0 < j by omega]
theorem twoS_take {m : List UInt8} {j : Nat} (h : twoS (m.take j) = true) : twoS m = true := by
  simp only [twoS, Bool.or_eq_true] at h ⊢
  exact h.imp (Or.imp pre_take pre_take) pre_take
theorem twoS_take' {m : List UInt8} {j : Nat} (h : twoS m = true) (hj : 2 ≤ j) : twoS (m.take j) = true := by
  simp only [twoS, Bool.or_eq_true] at h ⊢
  exact h.imp (Or.imp (fun h => pre_take' h hj) (fun h => pre_take' h hj)) (fun h => pre_take' h hj)
theorem tokS_len {m : List UInt8} {k : Int} {s : List UInt8} {n : Int} {e : Nat} (h : tokS m = some (k, s, n, e)) : 1 ≤ e ∧ e ≤ m.length := by
  cases m with
  | nil => exact absurd (h.symm.trans (show tokS [] = none by decide +kernel)) (by simp)
  | cons c m =>
    have h0 : (0 : Int) ≤ 0 ∧ (0 : Int) < ((c :: m).length : Int) := by simp
    have hr := tokR_S (c :: m) 0 h0
    simp only [Int.toNat_zero, List.drop_zero, h, Option.map_some] at hr
    have := tokR_end h0 hr
    omega
theorem tokS_take {m : List UInt8} {k : Int} {s : List UInt8} {n : Int} {e j : Nat} (h : tokS m = some (k, s, n, e)) (hj : e ≤ j) : tokS (m.take j) = some (k, s, n, e) := by
  have hlen := tokS_len h
  have hb := byt_take (m := m) (j := j) (by omega)
  have htw : ∀ p : Int → Bool, (tw p m).length ≤ j → tw p (m.take j) = tw p m := fun p hp => by
    rw [tw_take', List.take_of_length_le hp]
  unfold tokS at h ⊢
  by_cases hx : pre m [120, 39] = true
  · rw [if_pos hx] at h
    have e3 : ∀ r : List UInt8, (if r.length = (m.drop 2).length then none else match (if r.length % 2 = 0 then unGo r [] else none) with | none => none | some b => if 1000 < (b.length : Int) then none else some ((5 : Int), b, (0 : Int), r.length + 3)) = some (k, s, n, e) → e = r.length + 3 ∧ r.length ≠ (m.drop 2).length := by
      intro r hr
      split at hr
      · cases hr
      · rename_i hne
        split at hr
        · cases hr
        · split at hr
          · cases hr
          · simp only [Option.some.injEq, Prod.mk.injEq] at hr
            exact ⟨hr.2.2.2.symm, hne⟩
    obtain ⟨he, hne⟩ := e3 _ h
    have hdt : (m.take j).drop 2 = (m.drop 2).take (j - 2) := by rw [List.drop_take]
    have hq : tw nq ((m.take j).drop 2) = tw nq (m.drop 2) := by
      rw [hdt, tw_take', List.take_of_length_le (by omega)]
    have hl := tw_len nq (m.drop 2)
    rw [if_pos (pre_take' hx (by simp; omega)), hq]
    have hne' : ¬ (tw nq (m.drop 2)).length = ((m.take j).drop 2).length := by
      rw [hdt, List.length_take]; omega
    rw [if_neg hne']
    rw [if_neg hne] at h
    exact h
  · rw [if_neg hx] at h
    rw [if_neg (fun hh => hx (pre_take hh)), hb]
    have key : ∀ (b : Bool) (kk vv : Int), (if b = true then some (kk, tw isWd m, vv, (tw isWd m).length) else none) = some (k, s, n, e) → tw isWd (m.take j) = tw isWd m := by
      intro b kk vv hh
      cases b
      · cases hh
      · simp only [if_true, Option.some.injEq, Prod.mk.injEq] at hh
        exact htw isWd (by omega)
    split
    · rename_i h1; rw [if_pos h1] at h; rw [key _ _ _ h]; exact h
    · rename_i h1; rw [if_neg h1] at h
      split
      · rename_i h2; rw [if_pos h2] at h; rw [key _ _ _ h]; exact h
      · rename_i h2; rw [if_neg h2] at h
        split
        · rename_i h3; rw [if_pos h3] at h
          have : tw isWd (m.take j) = tw isWd m := by
            split at h
            · simp only [Option.some.injEq, Prod.mk.injEq] at h
              exact htw isWd (by omega)
            · cases h
          rw [this]; exact h
        · rename_i h3; rw [if_neg h3] at h
          split
          · rename_i h5; rw [if_pos h5] at h
            rw [List.drop_take]
            cases hq : qS (m.drop 1) [] with
            | none => rw [hq] at h; cases h
            | some x =>
              obtain ⟨s', n'⟩ := x
              rw [hq] at h
              have hle : n' ≤ j - 1 := by
                simp only at h
                split at h
                · simp only [Option.some.injEq, Prod.mk.injEq] at h; omega
                · cases h
              rw [qS_take _ _ _ s' n' (j - 1) (Nat.le_refl _) hle hq]
              exact h
          · rename_i h5; rw [if_neg h5] at h
            split
            · rename_i h7; rw [if_pos h7] at h
              by_cases h2' : twoS m = true
              · rw [if_pos h2'] at h
                have : 2 ≤ j := by simp only [Option.some.injEq, Prod.mk.injEq] at h; omega
                rw [if_pos (twoS_take' h2' this), List.take_take, show min 2 j = 2 by omega]
                exact h
              · rw [if_neg h2'] at h
                rw [if_neg (fun hh => h2' (twoS_take hh)), List.take_take, show min 1 j = 1 by omega]
                exact h
            · rename_i h7; rw [if_neg h7] at h; exact h
theorem blank_facts : ∀ n : Fin 256, clsF (n.val : Int) = 6 → isWd (n.val : Int) = false ∧ (n.val : Int) ≠ 39 ∧ (n.val : Int) ≠ 61 ∧ (n.val : Int) ≠ 62 := by decide +kernel
theorem blank_c {c : UInt8} (h : clsF c.toNat = 6) : isWd c.toNat = false ∧ c ≠ 39 ∧ c ≠ 61 ∧ c ≠ 62 := by
  have := of256 (p := fun c => clsF c = 6 → isWd c = false ∧ c ≠ 39 ∧ c ≠ 61 ∧ c ≠ 62) blank_facts c.toNat (u8_range c) h
  refine ⟨this.1, ?_, ?_, ?_⟩
  · rintro rfl; exact this.2.1 rfl
  · rintro rfl; exact this.2.2.1 rfl
  · rintro rfl; exact this.2.2.2 rfl
theorem pre_app {m : List UInt8} (hm : m ≠ []) (c : UInt8) (b : List UInt8) {x y : UInt8} (h : c ≠ y) : pre (m ++ c :: b) [x, y] = pre m [x, y] := by
  match m with
  | [] => exact absurd rfl hm
  | [a] =>
    have : pre [a] [x, y] = false := by simp [pre]
    rw [this]
    simp [pre, h]
  | a :: a' :: r => simp [pre]
theorem twoS_app {m : List UInt8} (hm : m ≠ []) {c : UInt8} (b : List UInt8) (hc : clsF c.toNat = 6) : twoS (m ++ c :: b) = twoS m := by
  have h := blank_c hc
  simp only [twoS, pre_app hm c b h.2.2.1, pre_app hm c b h.2.2.2]
theorem byt_app {m : List UInt8} (hm : m ≠ []) (t : List UInt8) : byt (m ++ t) 0 = byt m 0 := by
  cases m with
  | nil => exact absurd rfl hm
  | cons a m => rfl
/-- a token that a quote opens -/
def openB (m : List UInt8) : Prop := byt m 0 = 39 ∨ pre m [120, 39] = true
theorem cls39 {c : Int} (h : clsF c = 5) : c = 39 := by
  unfold clsF at h
  split at h; · omega
  split at h; · omega
  split at h; · omega
  split at h; · omega
  split at h; · assumption
  split at h; · omega
  split at h <;> omega
/-- with a blank behind it a token is the same; what is none, and is not open, is none -/
theorem tokS_app {m : List UInt8} (hm : m ≠ []) {c : UInt8} (b : List UInt8) (hc : clsF c.toNat = 6) : (tokS m ≠ none ∨ ¬ openB m) → tokS (m ++ c :: b) = tokS m := by
  intro hor
  have hbl := blank_c hc
  have htw : tw isWd (m ++ c :: b) = tw isWd m := tw_app _ (fun d t hd => by cases hd; exact hbl.1) m
  unfold tokS at hor ⊢
  rw [pre_app hm c b hbl.2.1, htw, byt_app hm, twoS_app hm b hc]
  by_cases hx : pre m [120, 39] = true
  · rw [if_pos hx] at hor
    rw [if_pos hx, if_pos hx]
    have h2 : 2 ≤ m.length := by
      simp only [pre, Bool.and_eq_true, decide_eq_true_eq, List.length_cons, List.length_nil] at hx; omega
    have hd : (m ++ c :: b).drop 2 = m.drop 2 ++ c :: b := by rw [List.drop_append_of_le_length h2]
    rcases hor with hor | hor
    · have hne : ¬ (tw nq (m.drop 2)).length = (m.drop 2).length := fun hh => by rw [if_pos hh] at hor; exact hor rfl
      have hfull : ∃ r1 d r2, m.drop 2 = r1 ++ d :: r2 ∧ nq d.toNat = false := by
        have hsp : ∀ x : List UInt8, (tw nq x).length ≠ x.length → ∃ r1 d r2, x = r1 ++ d :: r2 ∧ nq d.toNat = false := by
          intro x
          induction x with
          | nil => intro h; simp [tw] at h
          | cons y x ih =>
            intro hne
            cases hy : nq y.toNat with
            | false => exact ⟨[], y, x, rfl, hy⟩
            | true =>
              have : (tw nq x).length ≠ x.length := by
                unfold tw at hne ⊢
                simp [hy] at hne
                exact hne
              obtain ⟨r1, d, r2, h1, h2⟩ := ih this
              exact ⟨y :: r1, d, r2, by rw [h1]; rfl, h2⟩
        exact hsp _ hne
      have htq : tw nq ((m ++ c :: b).drop 2) = tw nq (m.drop 2) := by
        obtain ⟨r1, d, r2, h1, h2'⟩ := hfull
        rw [hd, h1, List.append_assoc, List.cons_append]
        rw [tw_app (p := nq) (d :: (r2 ++ c :: b)) (fun x t hx => by cases hx; exact h2') r1, tw_app (p := nq) (d :: r2) (fun x t hx => by cases hx; exact h2') r1]
      have hl := tw_len nq (m.drop 2)
      have hne' : ¬ (tw nq (m.drop 2)).length = ((m ++ c :: b).drop 2).length := by
        rw [hd, List.length_append]; omega
      rw [htq, if_neg hne', if_neg hne]
    · exact absurd (.inr hx) hor
  · rw [if_neg hx] at hor
    rw [if_neg hx, if_neg hx]
    have ht1 : (m ++ c :: b).take 1 = m.take 1 := by
      cases m with
      | nil => exact absurd rfl hm
      | cons a m => rfl
    have ht2 : twoS m = true → (m ++ c :: b).take 2 = m.take 2 := fun h2 => by
      have : 2 ≤ m.length := by
        simp only [twoS, Bool.or_eq_true, pre, Bool.and_eq_true, decide_eq_true_eq, List.length_cons, List.length_nil] at h2
        omega
      rw [List.take_append_of_le_length this]
    by_cases h1 : clsF (byt m 0) = 1
    · rw [if_pos h1, if_pos h1]
    · by_cases h2 : clsF (byt m 0) = 2
      · rw [if_neg h1, if_neg h1, if_pos h2, if_pos h2]
      · by_cases h3 : clsF (byt m 0) = 3
        · rw [if_neg h1, if_neg h1, if_neg h2, if_neg h2, if_pos h3, if_pos h3]
        · rw [if_neg h1, if_neg h1, if_neg h2, if_neg h2, if_neg h3, if_neg h3]
          rw [if_neg h1, if_neg h2, if_neg h3] at hor
          by_cases h5 : clsF (byt m 0) = 5
          · rw [if_pos h5] at hor
            rw [if_pos h5, if_pos h5]
            rcases hor with hor | hor
            · have hd : (m ++ c :: b).drop 1 = m.drop 1 ++ c :: b := by
                cases m with
                | nil => exact absurd rfl hm
                | cons a m => rfl
              cases hq : qS (m.drop 1) [] with
              | none => rw [hq] at hor; exact absurd rfl hor
              | some x =>
                rw [hd, qS_app _ _ _ x.1 x.2 (c :: b) (Nat.le_refl _) (fun d t hd => by cases hd; exact hbl.2.1) hq]
            · exact absurd (.inl (cls39 h5)) hor
          · rw [if_neg h5, if_neg h5]
            by_cases h7 : clsF (byt m 0) = 7
            · rw [if_pos h7, if_pos h7]
              by_cases h2' : twoS m = true
              · rw [if_pos h2', if_pos h2', ht2 h2']
              · rw [if_neg h2', if_neg h2', ht1]
            · rw [if_neg h7, if_neg h7]

/-! from PlE -/
/-- the tokens of a text that begins at a place -/
inductive Sc : List UInt8 → Int → List Tok → Prop where
  | nil {p : Int} : Sc [] p []
  | blank {c : UInt8} {r : List UInt8} {p : Int} {ts : List Tok} : clsF c.toNat = 6 → Sc r (p + 1) ts → Sc (c :: r) p ts
  | tok {m : List UInt8} {p : Int} {k : Int} {s : List UInt8} {n : Int} {e : Nat} {ts : List Tok} : clsF (byt m 0) ≠ 6 → tokS m = some (k, s, n, e) → Sc (m.drop e) (p + e) ts → Sc m p (⟨k, p, s, n⟩ :: ts)
/-- the place at which a text is wrong -/
inductive Er : List UInt8 → Int → Int → Prop where
  | blank {c : UInt8} {r : List UInt8} {p j : Int} : clsF c.toNat = 6 → Er r (p + 1) j → Er (c :: r) p j
  | tok {m : List UInt8} {p : Int} {k : Int} {s : List UInt8} {n : Int} {e : Nat} {j : Int} : clsF (byt m 0) ≠ 6 → tokS m = some (k, s, n, e) → Er (m.drop e) (p + e) j → Er m p j
  | bad {m : List UInt8} {p : Int} : m ≠ [] → clsF (byt m 0) ≠ 6 → tokS m = none → Er m p p
theorem all_sc (l : List UInt8) : ∀ (f : Nat) (i : Int) (acc : List Tok), 0 ≤ i ∧ i ≤ l.length → (l.length : Int) - i < f → match rallGo f l i acc with
    | .ok ts => ∃ us, ts = acc ++ us ∧ Sc (l.drop i.toNat) i us
    | .error j => Er (l.drop i.toNat) i j
  | 0, i, acc, h, hf => by omega
  | f + 1, i, acc, h, hf => by
    simp only [rallGo]
    by_cases he : (l.length : Int) ≤ i
    · rw [if_pos he]
      exact ⟨[], by simp, by rw [List.drop_eq_nil_of_le (by omega)]; exact .nil⟩
    · rw [if_neg he]
      have hb0 : byt (l.drop i.toNat) 0 = byt l i := by simpa using byt_drop l i h.1 0
      have hcons := drop_at l i (by omega)
      by_cases hb : clsF (byt l i) = 6
      · rw [if_pos hb]
        have ih := all_sc l f (i + 1) acc (by omega) (by omega)
        have hb' : clsF ((l.getD i.toNat 0).toNat : Int) = 6 := hb
        cases hr : rallGo f l (i + 1) acc with
        | ok ts =>
          rw [hr] at ih
          obtain ⟨us, h1, h2⟩ := ih
          exact ⟨us, h1, by rw [hcons]; exact .blank hb' h2⟩
        | error j =>
          rw [hr] at ih
          show Er _ _ _
          rw [hcons]
          exact .blank hb' ih
      · rw [if_neg hb]
        have hS := tokR_S l i (by omega)
        cases hS' : tokS (l.drop i.toNat) with
        | none =>
          rw [hS'] at hS
          rw [hS]
          exact .bad (by rw [hcons]; simp) (by rw [hb0]; exact hb) hS'
        | some x =>
          obtain ⟨k, s, n, e⟩ := x
          rw [hS'] at hS
          simp only [Option.map_some] at hS
          have hlen := tokS_len hS'
          have hdl : (l.drop i.toNat).length = l.length - i.toNat := List.length_drop
          rw [hS]
          simp only
          have ih := all_sc l f (i + (e : Int)) (acc ++ [⟨k, i, s, n⟩]) (by omega) (by omega)
          have hdd : l.drop (i + (e : Int)).toNat = (l.drop i.toNat).drop e := by rw [List.drop_drop]; congr 1; omega
          rw [hdd] at ih
          cases hr : rallGo f l (i + (e : Int)) (acc ++ [⟨k, i, s, n⟩]) with
          | ok ts =>
            rw [hr] at ih
            obtain ⟨us, h1, h2⟩ := ih
            exact ⟨⟨k, i, s, n⟩ :: us, by rw [h1]; simp, .tok (by rw [hb0]; exact hb) hS' h2⟩
          | error j =>
            rw [hr] at ih
            exact .tok (by rw [hb0]; exact hb) hS' ih
theorem head_cons (c : UInt8) (r : List UInt8) : byt (c :: r) 0 = (c.toNat : Int) := rfl
theorem tokS_nil : tokS [] = none := by decide +kernel
theorem Sc.det {m : List UInt8} {p : Int} {ts : List Tok} (h : Sc m p ts) : ∀ {us : List Tok}, Sc m p us → ts = us := by
  induction h with
  | nil =>
    intro us h
    cases h with
    | nil => rfl
    | tok _ h2 _ => rw [tokS_nil] at h2; cases h2
  | blank hc _ ih =>
    intro us h
    cases h with
    | blank _ h2 => exact ih h2
    | tok h1 _ _ => exact absurd hc h1
  | tok h1 h2 _ ih =>
    intro us h
    cases h with
    | nil => rw [tokS_nil] at h2; cases h2
    | blank hc _ => exact absurd hc h1
    | tok _ h3 h4 =>
      rw [h2] at h3
      cases h3
      rw [ih h4]
theorem Sc.not_er {m : List UInt8} {p : Int} {ts : List Tok} (h : Sc m p ts) : ∀ {j : Int}, ¬ Er m p j := by
  induction h with
  | nil =>
    intro j h
    cases h with
    | tok _ h2 _ => rw [tokS_nil] at h2; cases h2
    | bad h _ _ => exact h rfl
  | blank hc _ ih =>
    intro j h
    cases h with
    | blank _ h2 => exact ih h2
    | tok h1 _ _ => exact absurd hc h1
    | bad _ h1 _ => exact absurd hc h1
  | tok h1 h2 _ ih =>
    intro j h
    cases h with
    | blank hc _ => exact absurd hc h1
    | tok _ h3 h4 =>
      rw [h2] at h3
      cases h3
      exact ih h4
    | bad _ _ h3 => rw [h2] at h3; cases h3
theorem Er.det {m : List UInt8} {p j : Int} (h : Er m p j) : ∀ {i : Int}, Er m p i → j = i := by
  induction h with
  | blank hc _ ih =>
    intro i h
    cases h with
    | blank _ h2 => exact ih h2
    | tok h1 _ _ => exact absurd hc h1
    | bad _ h1 _ => exact absurd hc h1
  | tok h1 h2 _ ih =>
    intro i h
    cases h with
    | blank hc _ => exact absurd hc h1
    | tok _ h3 h4 =>
      rw [h2] at h3
      cases h3
      exact ih h4
    | bad _ _ h3 => rw [h2] at h3; cases h3
  | bad h0 h1 h2 =>
    intro i h
    cases h with
    | blank hc _ => exact absurd hc h1
    | tok _ h3 _ => rw [h2] at h3; cases h3
    | bad _ _ _ => rfl
theorem allF_sc (l : List UInt8) : match allF l with
    | .ok ts => Sc l 0 ts
    | .error j => Er l 0 j := by
  rw [allF_eq, rallF]
  have h := all_sc l (l.length + 1) 0 [] (by omega) (by omega)
  cases hr : rallGo (l.length + 1) l 0 [] with
  | ok ts =>
    rw [hr] at h
    obtain ⟨us, h1, h2⟩ := h
    simp only [List.nil_append] at h1
    subst h1
    simpa using h2
  | error j => rw [hr] at h; simpa using h
theorem allF_of_sc {l : List UInt8} {ts : List Tok} (h : Sc l 0 ts) : allF l = .ok ts := by
  have h2 := allF_sc l
  cases hr : allF l with
  | ok us => rw [hr] at h2; rw [h.det h2]
  | error j => rw [hr] at h2; exact absurd h2 h.not_er
theorem allF_of_er {l : List UInt8} {j : Int} (h : Er l 0 j) : allF l = .error j := by
  have h2 := allF_sc l
  cases hr : allF l with
  | ok us => rw [hr] at h2; exact absurd h (Sc.not_er h2)
  | error i => rw [hr] at h2; rw [h.det h2]
def tokOff (d : Int) (t : Tok) : Tok := ⟨t.kind, t.pos + d, t.s, t.n⟩
theorem Sc.off {m : List UInt8} {p : Int} {ts : List Tok} (h : Sc m p ts) (d : Int) : Sc m (p + d) (ts.map (tokOff d)) := by
  induction h with
  | nil => exact .nil
  | blank hc _ ih => exact .blank hc (by rw [show ∀ x : Int, x + d + 1 = x + 1 + d from fun x => by omega]; exact ih)
  | tok h1 h2 _ ih => exact .tok h1 h2 (by rw [show ∀ x y : Int, x + d + y = x + y + d from fun x y => by omega]; exact ih)
theorem Er.off {m : List UInt8} {p j : Int} (h : Er m p j) (d : Int) : Er m (p + d) (j + d) := by
  induction h with
  | blank hc _ ih => exact .blank hc (by rw [show ∀ x : Int, x + d + 1 = x + 1 + d from fun x => by omega]; exact ih)
  | tok h1 h2 _ ih => exact .tok h1 h2 (by rw [show ∀ x y : Int, x + d + y = x + y + d from fun x y => by omega]; exact ih)
  | bad h0 h1 h2 => exact .bad h0 h1 h2
theorem ne_of_tok {m : List UInt8} {x : Int × List UInt8 × Int × Nat} (h : tokS m = some x) : m ≠ [] := by
  rintro rfl; rw [tokS_nil] at h; cases h
theorem Sc.app {a : List UInt8} {p : Int} {ts : List Tok} (h : Sc a p ts) {c : UInt8} (hc : clsF c.toNat = 6) (b : List UInt8) : ∀ {us : List Tok}, Sc b (p + a.length + 1) us → Sc (a ++ c :: b) p (ts ++ us) := by
  induction h with
  | nil => intro us hb; exact .blank hc (by simpa using hb)
  | blank hx _ ih =>
    intro us hb
    refine .blank hx (ih ?_)
    rename_i r p _ _
    rw [show p + 1 + (r.length : Int) + 1 = p + ((r.length + 1 : Nat) : Int) + 1 by omega]
    exact hb
  | tok h1 h2 _ ih =>
    intro us hb
    have hm := ne_of_tok h2
    have hl := tokS_len h2
    refine .tok (by rw [byt_app hm]; exact h1) ((tokS_app hm b hc (.inl (by rw [h2]; simp))).trans h2) ?_
    rw [List.drop_append_of_le_length hl.2]
    refine ih ?_
    rename_i m p _ _ _ e _ _
    rw [List.length_drop, show p + (e : Int) + ((m.length - e : Nat) : Int) + 1 = p + (m.length : Int) + 1 by omega]
    exact hb
theorem Sc.app_er {a : List UInt8} {p : Int} {ts : List Tok} (h : Sc a p ts) {c : UInt8} (hc : clsF c.toNat = 6) (b : List UInt8) : ∀ {j : Int}, Er b (p + a.length + 1) j → Er (a ++ c :: b) p j := by
  induction h with
  | nil => intro j hb; exact .blank hc (by simpa using hb)
  | blank hx _ ih =>
    intro j hb
    refine .blank hx (ih ?_)
    rename_i r p _ _
    rw [show p + 1 + (r.length : Int) + 1 = p + ((r.length + 1 : Nat) : Int) + 1 by omega]
    exact hb
  | tok h1 h2 _ ih =>
    intro j hb
    have hm := ne_of_tok h2
    have hl := tokS_len h2
    refine .tok (by rw [byt_app hm]; exact h1) ((tokS_app hm b hc (.inl (by rw [h2]; simp))).trans h2) ?_
    rw [List.drop_append_of_le_length hl.2]
    refine ih ?_
    rename_i m p _ _ _ e _ _
    rw [List.length_drop, show p + (e : Int) + ((m.length - e : Nat) : Int) + 1 = p + (m.length : Int) + 1 by omega]
    exact hb
/-- wrong ahead of the blank: there, if no quote opens it -/
theorem Er.app {a : List UInt8} {p j : Int} (h : Er a p j) {c : UInt8} (hc : clsF c.toNat = 6) (b : List UInt8) : ∃ i : Nat, j = p + i ∧ i < a.length ∧ (openB (a.drop i) ∨ Er (a ++ c :: b) p j) := by
  induction h with
  | blank hx _ ih =>
    obtain ⟨i, h1, h2, h3⟩ := ih
    refine ⟨i + 1, by omega, by simp; omega, ?_⟩
    exact h3.imp (fun h => h) (fun h => .blank hx h)
  | tok h1 h2 _ ih =>
    obtain ⟨i, h3, h4, h5⟩ := ih
    have hm := ne_of_tok h2
    have hl := tokS_len h2
    rename_i m p _ _ _ e _ _
    rw [List.length_drop] at h4
    refine ⟨e + i, by omega, by omega, ?_⟩
    rw [List.drop_drop] at h5
    refine h5.imp (fun h => h) (fun h => ?_)
    refine .tok (by rw [byt_app hm]; exact h1) ((tokS_app hm b hc (.inl (by rw [h2]; simp))).trans h2) ?_
    rw [List.drop_append_of_le_length hl.2]
    exact h
  | bad h0 h1 h2 =>
    rename_i m p
    refine ⟨0, by omega, List.length_pos_iff.2 h0, ?_⟩
    by_cases ho : openB m
    · exact .inl ho
    · right
      exact .bad (by simp) (by rw [byt_app h0]; exact h1) ((tokS_app h0 b hc (.inr ho)).trans h2)
theorem Sc.le {m : List UInt8} {p : Int} {ts : List Tok} (h : Sc m p ts) : ∀ t, t ∈ ts → p ≤ t.pos := by
  induction h with
  | nil => intro t h; cases h
  | blank _ _ ih => intro t h; have := ih t h; omega
  | tok _ _ _ ih =>
    intro t h
    simp only [List.mem_cons] at h
    rcases h with rfl | h
    · exact Int.le_refl _
    · have := ih t h; omega
theorem Sc.part {m : List UInt8} {p : Int} {ts : List Tok} (h : Sc m p ts) : ∀ (k : Nat) (t : Tok), ts[k]? = some t → ∃ A : Nat, t.pos = p + A ∧ A < m.length ∧ Sc (m.take A) p (ts.take k) ∧ Sc (m.drop A) t.pos (ts.drop k) := by
  induction h with
  | nil => intro k t h; simp at h
  | blank hc _ ih =>
    intro k t h
    obtain ⟨A, h1, h2, h3, h4⟩ := ih k t h
    exact ⟨A + 1, by omega, by simp; omega, by rw [List.take_succ_cons]; exact .blank hc h3, h4⟩
  | tok h1 h2 h3 ih =>
    intro k t h
    have hl := tokS_len h2
    rename_i m p _ _ _ e _
    cases k with
    | zero =>
      simp only [List.getElem?_cons_zero, Option.some.injEq] at h
      subst h
      exact ⟨0, by simp, by omega, by simp; exact .nil, by simp; exact .tok h1 h2 h3⟩
    | succ k =>
      obtain ⟨A, h4, h5, h6, h7⟩ := ih k t (by simpa using h)
      rw [List.length_drop] at h5
      refine ⟨e + A, by omega, by omega, ?_, by rw [← List.drop_drop]; exact h7⟩
      rw [List.take_succ_cons]
      refine .tok (by rw [byt_take (by omega)]; exact h1) (tokS_take h2 (by omega)) ?_
      rw [List.drop_take, show e + A - e = A by omega]
      exact h6
/-- the next token is farther behind -/
theorem Sc.next {m : List UInt8} {p : Int} {t : Tok} {ts : List Tok} (h : Sc m p (t :: ts)) (ht : t.pos = p) : ∀ u, u ∈ ts → p < u.pos := by
  cases h with
  | blank hc h2 => have := h2.le t (by simp); omega
  | tok _ h2 h3 =>
    intro u hu
    have := h3.le u hu
    have := tokS_len h2
    omega
end Go.Proofs.YtjpcghlpkinahaaDoor.Lp

/- Contracts of the library's functions, from walks. -/
namespace Go.Ax
/-- from a walk: results of which nothing lies in memory -/
theorem FnOk.ofIs {P : Program} {el : Ck → TypeId} {gl : Nat → Option Gv} {f : FuncId} {sa sr : List Sg} {F : FT sa sr} (he : Sx.Enters P f) (ho : owns 0 sr = []) (h : ∀ x r, F x = some r → ∃ (us : List Value) (v : Value), (∀ X vs, Reps X (encL 0 sa x) vs → vs = us) ∧ Sx.Con P f us [] (fun _ => True) (Sx.Is v) ∧ ∀ X, BdL sa x → Rep X (pack (encL 0 sr r)) v) : FnOk P el gl f sa sr F := by
  refine ⟨he, fun x r hx w M vs hM hgl hr => ?_⟩
  obtain ⟨us, v, h1, h2, h3⟩ := h x r hx
  obtain rfl := h1 _ _ hr
  refine (h2.calls w (fun _ _ => trivial)).mono ?_
  rintro en w' ⟨u, L', F', rfl, ⟨rfl, _, _⟩, _, hb⟩
  refine ⟨u, ⟨fun _ => 0, fun _ => Option.none⟩, rfl, Chg.of_below hb, fun p g o hp => ?_, fun p q g o o' hp => ?_, h3 _ (reps_bd hr)⟩
  · rw [ho] at hp; cases hp
  · rw [ho] at hp; cases hp
end Go.Ax
namespace Go.Proofs.YtjpcghlpkinahaaDoor
open Go.Ax
open Go.Sx (Con S Is con_intro rt_is)
end Go.Proofs.YtjpcghlpkinahaaDoor

/- The values' own functions: may it be, does it fit, how do two stand, sums, differences, products. -/
namespace Go.Proofs.YtjpcghlpkinahaaDoor
open Go.Ax
/-! ## exchequer/value.visible -/
def visible_0_sg : Sig := ⟨20, [(0, .str), (2, .bool), (5, .int .i64), (6, .int .i64)], [], [], 0, 0, 0, [], []⟩
abbrev visible_0_V := Str × Bool × Int × Int
def visible_0 {R : Type} (rec : visible_0_V → Option R) (kx : Ex → visible_0_V → Option R) (v : visible_0_V) : Option R := match v with
 | (v, v1, v2, v3) =>
  cond (decide (v3 < v2)) (
   chk (inb v3 v.length) (
    cond (decide ((bat v v3) < 32)) (
     kx .ret (v, false, v2, v3)) (
     chk (inb v3 v.length) (
      cond (decide (126 < (bat v v3))) (
       kx .ret (v, false, v2, v3)) (
       rec (v, v1, v2, (wr .i64 (v3 + 1)))))))) (
   kx (.exit 0) (v, v1, v2, v3))
def visible_px (R : Type) (k : Nat) : Px R := ⟨ttOf ttL, glT, callT [], callQT [], loopT [(2, loopOr k visible_0_sg (visible_0))]⟩
theorem visible_0_eq (R : Type) (k : Nat) : ∀ (fr : List Fr) (rec : visible_0_V → Option R) (kx : Ex → visible_0_V → Option R) (v : visible_0_V), round (visible_px R k) visible_0_sg (lp Tryd.f76 0) fr rec kx v = visible_0 rec kx v
  | fr, rec, kx, (v, v1, v2, v3) => by kernel_rfl
def visible_body (k : Nat) (x : HV [.str]) : Option (HV [.bool]) := match x with
 | s =>
  iter (fun rec => visible_0 rec (fun e vz => match vz with | (_, v5, _, _) => match e with
   | .ret =>
    some v5
   | .exit 0 =>
    some true
   | _ => none)) k (s, false, (s.length : Int), 0)
theorem visible_eq (k : Nat) : ∀ (x : HV [.str]), runF (visible_px _ k) Tryd.f76 [.str] [.bool] x some = visible_body k x
  | s => by kernel_rfl
theorem visible_run (k : Nat) : FnOk Tryd.prog elT glT 76 [.str] [.bool] (visible_body k) := by
  refine fnOk_run Tryd.func76 rfl (by kernel_rfl) follows (by kernel_rfl) (n := 1) (by kernel_rfl) (px := visible_px _ k) (fun cx hP hel hgl => ?_) (visible_eq k)
  have hp0 : PxOk cx (visible_px (HV [.bool]) k) := ⟨fun t => by rw [hP, hel]; exact tt_ok ttL_ok t, by rw [hgl]; rfl⟩
  have hc0 : CallOk cx (visible_px (HV [.bool]) k) := callT_ok rfl cfs_nil
  have hq0 : CallQOk cx (visible_px (HV [.bool]) k) := callQT_ok rfl cqfs_nil
  have hlvisible_0 : LoopOk cx (visible_px (HV [.bool]) k) (lp Tryd.f76 0) := loop_ok hp0 hc0 hq0 (by rw [hP]; exact follows) (k := k) (s := visible_0_sg) (step := visible_0) (fun _ _ => by kernel_rfl) (by kernel_rfl) (visible_0_eq _ k) (loops_in (n := 0) (by kernel_rfl) all0)
  exact ⟨hp0, hc0, hq0, (allS all0 hlvisible_0)⟩
def vis (b : UInt8) : Bool := decide (32 ≤ b.toNat) && decide (b.toNat ≤ 126)
def visible (s : Str) : Bool := s.all vis
def visible_F : FT [.str] [.bool] := fun x => some (visible x)
theorem visible_loop {R : Type} {kx : Ex → visible_0_V → Option R} {s : Str} {a b : Option R} (hs : ln s.length) (h1 : ∀ r j, kx .ret (s, false, r, j) = a) (h2 : ∀ q r j, kx (.exit 0) (s, q, r, j) = b) : ∀ (k i : Nat) q, i ≤ s.length → s.length - i < k → iter (fun rec => visible_0 rec kx) k (s, q, (s.length : Int), (i : Int)) = cond ((s.drop i).all vis) b a
  | 0, i, q, _, h => by omega
  | k + 1, i, q, hi, h => by
    rw [iter_s]
    by_cases hl : i < s.length
    · have ih := visible_loop hs h1 h2 k (i + 1) q (by omega) (by omega)
      simp only [visible_0, wr_succ hl hs, ih, h1, drop_cons hl, bat_nat hl, inb_t hl, List.all_cons, chk, cond_t, Bool.cond_decide]
      rw [if_pos (by omega)]
      simp only [vis]
      split
      · rw [decide_eq_false (by omega)]; rfl
      · split
        · rw [decide_eq_true (by omega), decide_eq_false (by omega)]; rfl
        · rw [decide_eq_true (by omega), decide_eq_true (by omega)]; rfl
    · simp only [visible_0, h2, Bool.cond_decide]
      rw [if_neg (by omega), List.drop_eq_nil_of_le (by omega)]
      rfl
theorem visible_ok : FnOk Tryd.prog elT glT 76 [.str] [.bool] visible_F := .fin 0 visible_run fun x r hb hx => ⟨x.length + 1, by
  simp only [visible_F, Option.some.injEq] at hx
  have := visible_loop (a := some false) (b := some true) hb (kx := fun e v => match v with | (_, v5, _, _) => match e with | .ret => some v5 | .exit 0 => some true | _ => none) (fun _ _ => rfl) (fun _ _ _ => rfl) (x.length + 1) 0 false (Nat.zero_le _) (by omega)
  refine Eq.trans this ?_
  rw [← hx, List.drop_zero, visible]
  cases x.all vis <;> rfl⟩
/-! ## exchequer/value.right -/
def vright_px (R : Type) : Px R := ⟨ttOf ttL, glT, callT [(76, callOr [.str] [.bool] visible_F)], callQT [], loopT []⟩
def vright_body (x : HV [.sv .val]) : Option (HV [.bool]) := match x with
 | v =>
  cond (decide (v.kind = 1)) (
   cond (decide (v.n = 0)) (
    some (decide (v.s = []))) (
    some false)) (
   cond (decide (v.kind = 2)) (
    cond (decide (v.n = 0)) (
     some (decide (v.s = []))) (
     cond (decide (v.n = 1)) (
      some (decide (v.s = []))) (
      some false))) (
    cond (decide (v.kind = 3)) (
     some (decide (v.s = []))) (
     cond (decide (v.kind = 4)) (
      cond (decide (v.n = 0)) (
       cond (decide ((v.s.length : Int) ≤ 1000)) (
        some (visible v.s)) (
        some false)) (
       some false)) (
      cond (decide (v.kind = 5)) (
       cond (decide (v.n = 0)) (
        some (decide ((v.s.length : Int) ≤ 1000))) (
        some false)) (
       some false)))))
theorem vright_eq : ∀ (x : HV [.sv .val]), runF (vright_px _) Tryd.f39 [.sv .val] [.bool] x some = vright_body x
  | v => by kernel_rfl
theorem vright_run : FnOk Tryd.prog elT glT 39 [.sv .val] [.bool] (vright_body) := by
  refine fnOk_run Tryd.func39 rfl (by kernel_rfl) follows (by kernel_rfl) (n := 0) (by kernel_rfl) (px := vright_px _) (fun cx hP hel hgl => ?_) (vright_eq)
  have hp0 : PxOk cx (vright_px (HV [.bool])) := ⟨fun t => by rw [hP, hel]; exact tt_ok ttL_ok t, by rw [hgl]; rfl⟩
  have hc0 : CallOk cx (vright_px (HV [.bool])) := callT_ok rfl (cfs_cons (cf_or (by rw [hP, hel, hgl]; exact visible_ok) (by kernel_rfl)) cfs_nil)
  have hq0 : CallQOk cx (vright_px (HV [.bool])) := callQT_ok rfl cqfs_nil
  exact ⟨hp0, hc0, hq0, all0⟩
def vright (v : Val) : Bool :=
  cond (decide (v.kind = 1)) (
   cond (decide (v.n = 0)) (
    (decide (v.s = []))) (
    false)) (
   cond (decide (v.kind = 2)) (
    cond (decide (v.n = 0)) (
     (decide (v.s = []))) (
     cond (decide (v.n = 1)) (
      (decide (v.s = []))) (
      false))) (
    cond (decide (v.kind = 3)) (
     (decide (v.s = []))) (
     cond (decide (v.kind = 4)) (
      cond (decide (v.n = 0)) (
       cond (decide ((v.s.length : Int) ≤ 1000)) (
        (visible v.s)) (
        false)) (
       false)) (
      cond (decide (v.kind = 5)) (
       cond (decide (v.n = 0)) (
        (decide ((v.s.length : Int) ≤ 1000))) (
        false)) (
       false)))))
theorem vright_tot (x : HV [.sv .val]) : vright_body x = some (vright x) := by
  first
    | exact rfl
    | simp only [vright_body, vright, cond_some]
def vright_F : FT [.sv .val] [.bool] := fun x => some (vright x)
theorem vright_ok : FnOk Tryd.prog elT glT 39 [.sv .val] [.bool] vright_F := .fin0 vright_run fun x _ _ hx => (vright_tot x).trans hx
/-! ## exchequer/value.Check -/
def vcheck_px (R : Type) : Px R := ⟨ttOf ttL, glT, callT [(39, callOr [.sv .val] [.bool] vright_F)], callQT [], loopT []⟩
def vcheck_body (x : HV [.sv .val]) : Option (HV [.int .i64]) := match x with
 | v =>
  cond (!(vright v)) (
   some 2) (
   some 0)
theorem vcheck_eq : ∀ (x : HV [.sv .val]), runF (vcheck_px _) Tryd.f17 [.sv .val] [.int .i64] x some = vcheck_body x
  | v => by kernel_rfl
theorem vcheck_run : FnOk Tryd.prog elT glT 17 [.sv .val] [.int .i64] (vcheck_body) := by
  refine fnOk_run Tryd.func17 rfl (by kernel_rfl) follows (by kernel_rfl) (n := 0) (by kernel_rfl) (px := vcheck_px _) (fun cx hP hel hgl => ?_) (vcheck_eq)
  have hp0 : PxOk cx (vcheck_px (HV [.int .i64])) := ⟨fun t => by rw [hP, hel]; exact tt_ok ttL_ok t, by rw [hgl]; rfl⟩
  have hc0 : CallOk cx (vcheck_px (HV [.int .i64])) := callT_ok rfl (cfs_cons (cf_or (by rw [hP, hel, hgl]; exact vright_ok) (by kernel_rfl)) cfs_nil)
  have hq0 : CallQOk cx (vcheck_px (HV [.int .i64])) := callQT_ok rfl cqfs_nil
  exact ⟨hp0, hc0, hq0, all0⟩
def vcheck (v : Val) : Int :=
  cond (!(vright v)) (
   2) (
   0)
theorem vcheck_tot (x : HV [.sv .val]) : vcheck_body x = some (vcheck x) := by
  first
    | exact rfl
    | simp only [vcheck_body, vcheck, cond_some]
def vcheck_F : FT [.sv .val] [.int .i64] := fun x => some (vcheck x)
theorem vcheck_ok : FnOk Tryd.prog elT glT 17 [.sv .val] [.int .i64] vcheck_F := .fin0 vcheck_run fun x _ _ hx => (vcheck_tot x).trans hx
/-! ## exchequer/value.Add -/
def vadd_px (R : Type) : Px R := ⟨ttOf ttL, glT, callT [], callQT [], loopT []⟩
def vadd_body (x : HV [.int .i64, .int .i64]) : Option (HV [.int .i64, .int .i64]) := match x with
 | (a, b) =>
  cond (!decide ((decide (a < (wr .i64 (a + b)))) = (decide (0 < b)))) (
   some (0, 20)) (
   some ((wr .i64 (a + b)), 0))
theorem vadd_eq : ∀ (x : HV [.int .i64, .int .i64]), runF (vadd_px _) Tryd.f108 [.int .i64, .int .i64] [.int .i64, .int .i64] x some = vadd_body x
  | (a, b) => by kernel_rfl
theorem vadd_run : FnOk Tryd.prog elT glT 108 [.int .i64, .int .i64] [.int .i64, .int .i64] (vadd_body) := by
  refine fnOk_run Tryd.func108 rfl (by kernel_rfl) follows (by kernel_rfl) (n := 0) (by kernel_rfl) (px := vadd_px _) (fun cx hP hel hgl => ?_) (vadd_eq)
  have hp0 : PxOk cx (vadd_px (HV [.int .i64, .int .i64])) := ⟨fun t => by rw [hP, hel]; exact tt_ok ttL_ok t, by rw [hgl]; rfl⟩
  have hc0 : CallOk cx (vadd_px (HV [.int .i64, .int .i64])) := callT_ok rfl cfs_nil
  have hq0 : CallQOk cx (vadd_px (HV [.int .i64, .int .i64])) := callQT_ok rfl cqfs_nil
  exact ⟨hp0, hc0, hq0, all0⟩
def vadd (a : Int) (b : Int) : Int × Int :=
  cond (!decide ((decide (a < (wr .i64 (a + b)))) = (decide (0 < b)))) (
   (0, 20)) (
   ((wr .i64 (a + b)), 0))
theorem vadd_tot (x : HV [.int .i64, .int .i64]) : vadd_body x = some (vadd x.1 x.2) := by
  first
    | exact rfl
    | simp only [vadd_body, vadd, cond_some]
def vadd_F : FT [.int .i64, .int .i64] [.int .i64, .int .i64] := fun x => some (vadd x.1 x.2)
theorem vadd_ok : FnOk Tryd.prog elT glT 108 [.int .i64, .int .i64] [.int .i64, .int .i64] vadd_F := .fin0 vadd_run fun x _ _ hx => (vadd_tot x).trans hx
/-! ## exchequer/value.size -/
def vsize_px (R : Type) : Px R := ⟨ttOf ttL, glT, callT [], callQT [], loopT []⟩
def vsize_body (x : HV [.int .i64]) : Option (HV [.int .u64]) := match x with
 | n =>
  cond (decide (n < 0)) (
   some (wr .u64 (0 - (wr .u64 n)))) (
   some (wr .u64 n))
theorem vsize_eq : ∀ (x : HV [.int .i64]), runF (vsize_px _) Tryd.f77 [.int .i64] [.int .u64] x some = vsize_body x
  | n => by kernel_rfl
theorem vsize_run : FnOk Tryd.prog elT glT 77 [.int .i64] [.int .u64] (vsize_body) := by
  refine fnOk_run Tryd.func77 rfl (by kernel_rfl) follows (by kernel_rfl) (n := 0) (by kernel_rfl) (px := vsize_px _) (fun cx hP hel hgl => ?_) (vsize_eq)
  have hp0 : PxOk cx (vsize_px (HV [.int .u64])) := ⟨fun t => by rw [hP, hel]; exact tt_ok ttL_ok t, by rw [hgl]; rfl⟩
  have hc0 : CallOk cx (vsize_px (HV [.int .u64])) := callT_ok rfl cfs_nil
  have hq0 : CallQOk cx (vsize_px (HV [.int .u64])) := callQT_ok rfl cqfs_nil
  exact ⟨hp0, hc0, hq0, all0⟩
def vsize (n : Int) : Int :=
  cond (decide (n < 0)) (
   (wr .u64 (0 - (wr .u64 n)))) (
   (wr .u64 n))
theorem vsize_tot (x : HV [.int .i64]) : vsize_body x = some (vsize x) := by
  first
    | exact rfl
    | simp only [vsize_body, vsize, cond_some]
def vsize_F : FT [.int .i64] [.int .u64] := fun x => some (vsize x)
theorem vsize_ok : FnOk Tryd.prog elT glT 77 [.int .i64] [.int .u64] vsize_F := .fin0 vsize_run fun x _ _ hx => (vsize_tot x).trans hx
/-! ## math/bits.Mul64 -/
def mul64_px (R : Type) : Px R := ⟨ttOf ttL, glT, callT [], callQT [], loopT []⟩
def mul64_body (x : HV [.int .u64, .int .u64]) : Option (HV [.int .u64, .int .u64]) := match x with
 | (a, b) =>
  some ((wr .u64 ((wr .u64 ((wr .u64 ((ishr .u64 a 32) * (ishr .u64 b 32))) + (ishr .u64 (wr .u64 ((wr .u64 ((ishr .u64 a 32) * (iand .u64 b 4294967295))) + (ishr .u64 (wr .u64 ((iand .u64 a 4294967295) * (iand .u64 b 4294967295))) 32))) 32))) + (ishr .u64 (wr .u64 ((iand .u64 (wr .u64 ((wr .u64 ((ishr .u64 a 32) * (iand .u64 b 4294967295))) + (ishr .u64 (wr .u64 ((iand .u64 a 4294967295) * (iand .u64 b 4294967295))) 32))) 4294967295) + (wr .u64 ((iand .u64 a 4294967295) * (ishr .u64 b 32))))) 32))), (wr .u64 (a * b)))
theorem mul64_eq : ∀ (x : HV [.int .u64, .int .u64]), runF (mul64_px _) Tryd.f117 [.int .u64, .int .u64] [.int .u64, .int .u64] x some = mul64_body x
  | (a, b) => by kernel_rfl
theorem mul64_run : FnOk Tryd.prog elT glT 117 [.int .u64, .int .u64] [.int .u64, .int .u64] (mul64_body) := by
  refine fnOk_run Tryd.func117 rfl (by kernel_rfl) follows (by kernel_rfl) (n := 0) (by kernel_rfl) (px := mul64_px _) (fun cx hP hel hgl => ?_) (mul64_eq)
  have hp0 : PxOk cx (mul64_px (HV [.int .u64, .int .u64])) := ⟨fun t => by rw [hP, hel]; exact tt_ok ttL_ok t, by rw [hgl]; rfl⟩
  have hc0 : CallOk cx (mul64_px (HV [.int .u64, .int .u64])) := callT_ok rfl cfs_nil
  have hq0 : CallQOk cx (mul64_px (HV [.int .u64, .int .u64])) := callQT_ok rfl cqfs_nil
  exact ⟨hp0, hc0, hq0, all0⟩
def mul64 (a : Int) (b : Int) : Int × Int :=
  ((wr .u64 ((wr .u64 ((wr .u64 ((ishr .u64 a 32) * (ishr .u64 b 32))) + (ishr .u64 (wr .u64 ((wr .u64 ((ishr .u64 a 32) * (iand .u64 b 4294967295))) + (ishr .u64 (wr .u64 ((iand .u64 a 4294967295) * (iand .u64 b 4294967295))) 32))) 32))) + (ishr .u64 (wr .u64 ((iand .u64 (wr .u64 ((wr .u64 ((ishr .u64 a 32) * (iand .u64 b 4294967295))) + (ishr .u64 (wr .u64 ((iand .u64 a 4294967295) * (iand .u64 b 4294967295))) 32))) 4294967295) + (wr .u64 ((iand .u64 a 4294967295) * (ishr .u64 b 32))))) 32))), (wr .u64 (a * b)))
theorem mul64_tot (x : HV [.int .u64, .int .u64]) : mul64_body x = some (mul64 x.1 x.2) := by
  first
    | exact rfl
    | simp only [mul64_body, mul64, cond_some]
def mul64_F : FT [.int .u64, .int .u64] [.int .u64, .int .u64] := fun x => some (mul64 x.1 x.2)
theorem mul64_ok : FnOk Tryd.prog elT glT 117 [.int .u64, .int .u64] [.int .u64, .int .u64] mul64_F := .fin0 mul64_run fun x _ _ hx => (mul64_tot x).trans hx
/-! ## exchequer/value.Mul -/
def vmul_px (R : Type) : Px R := ⟨ttOf ttL, glT, callT [(77, callOr [.int .i64] [.int .u64] vsize_F), (117, callOr [.int .u64, .int .u64] [.int .u64, .int .u64] mul64_F)], callQT [], loopT []⟩
def vmul_body (x : HV [.int .i64, .int .i64]) : Option (HV [.int .i64, .int .i64]) := match x with
 | (a, b) =>
  let j1 := fun (p3 : Bool) =>
   cond (p3) (
    some (0, 20)) (
    cond (!decide ((decide (a < 0)) = (decide (b < 0)))) (
     some ((wr .i64 (wr .u64 (0 - (mul64 (vsize a) (vsize b)).2))), 0)) (
     some ((wr .i64 ((mul64 (vsize a) (vsize b)).2)), 0)))
  let j := fun (p : Bool) =>
   cond (p) (
    j1 true) (
    cond (decide ((mul64 (vsize a) (vsize b)).2 = 9223372036854775808)) (
     j1 (!(!decide ((decide (a < 0)) = (decide (b < 0)))))) (
     j1 false))
  cond (decide (0 < (mul64 (vsize a) (vsize b)).1)) (
   j true) (
   j (decide (9223372036854775808 < (mul64 (vsize a) (vsize b)).2)))
theorem vmul_eq : ∀ (x : HV [.int .i64, .int .i64]), runF (vmul_px _) Tryd.f107 [.int .i64, .int .i64] [.int .i64, .int .i64] x some = vmul_body x
  | (a, b) => by kernel_rfl
theorem vmul_run : FnOk Tryd.prog elT glT 107 [.int .i64, .int .i64] [.int .i64, .int .i64] (vmul_body) := by
  refine fnOk_run Tryd.func107 rfl (by kernel_rfl) follows (by kernel_rfl) (n := 0) (by kernel_rfl) (px := vmul_px _) (fun cx hP hel hgl => ?_) (vmul_eq)
  have hp0 : PxOk cx (vmul_px (HV [.int .i64, .int .i64])) := ⟨fun t => by rw [hP, hel]; exact tt_ok ttL_ok t, by rw [hgl]; rfl⟩
  have hc0 : CallOk cx (vmul_px (HV [.int .i64, .int .i64])) := callT_ok rfl (cfs_cons (cf_or (by rw [hP, hel, hgl]; exact vsize_ok) (by kernel_rfl)) (cfs_cons (cf_or (by rw [hP, hel, hgl]; exact mul64_ok) (by kernel_rfl)) cfs_nil))
  have hq0 : CallQOk cx (vmul_px (HV [.int .i64, .int .i64])) := callQT_ok rfl cqfs_nil
  exact ⟨hp0, hc0, hq0, all0⟩
def vmul (a : Int) (b : Int) : Int × Int :=
  let j1 := fun (p3 : Bool) =>
   cond (p3) (
    (0, 20)) (
    cond (!decide ((decide (a < 0)) = (decide (b < 0)))) (
     ((wr .i64 (wr .u64 (0 - (mul64 (vsize a) (vsize b)).2))), 0)) (
     ((wr .i64 ((mul64 (vsize a) (vsize b)).2)), 0)))
  let j := fun (p : Bool) =>
   cond (p) (
    j1 true) (
    cond (decide ((mul64 (vsize a) (vsize b)).2 = 9223372036854775808)) (
     j1 (!(!decide ((decide (a < 0)) = (decide (b < 0)))))) (
     j1 false))
  cond (decide (0 < (mul64 (vsize a) (vsize b)).1)) (
   j true) (
   j (decide (9223372036854775808 < (mul64 (vsize a) (vsize b)).2)))
theorem vmul_tot (x : HV [.int .i64, .int .i64]) : vmul_body x = some (vmul x.1 x.2) := by
  first
    | exact rfl
    | simp only [vmul_body, vmul, cond_some]
def vmul_F : FT [.int .i64, .int .i64] [.int .i64, .int .i64] := fun x => some (vmul x.1 x.2)
theorem vmul_ok : FnOk Tryd.prog elT glT 107 [.int .i64, .int .i64] [.int .i64, .int .i64] vmul_F := .fin0 vmul_run fun x _ _ hx => (vmul_tot x).trans hx
end Go.Proofs.YtjpcghlpkinahaaDoor

/- Names, without the lexer's other functions. -/
namespace Go.Proofs.YtjpcghlpkinahaaDoor
open Go.Ax
theorem inb_i {i : Int} {n : Nat} (h : 0 ≤ i ∧ i < n) : inb i n = true := by simp [inb, h]
/-! ## exchequer/lex.lower -/
def lower_px (R : Type) : Px R := ⟨ttOf ttL, glT, callT [], callQT [], loopT []⟩
def lower_body (x : HV [.int .u8]) : Option (HV [.bool]) := match x with
 | c =>
  cond (decide (97 ≤ c)) (
   some (decide (c ≤ 122))) (
   some false)
theorem lower_eq : ∀ (x : HV [.int .u8]), runF (lower_px _) Tryd.f35 [.int .u8] [.bool] x some = lower_body x
  | c => by kernel_rfl
theorem lower_run : FnOk Tryd.prog elT glT 35 [.int .u8] [.bool] (lower_body) := by
  refine fnOk_run Tryd.func35 rfl (by kernel_rfl) follows (by kernel_rfl) (n := 0) (by kernel_rfl) (px := lower_px _) (fun cx hP hel hgl => ?_) (lower_eq)
  have hp0 : PxOk cx (lower_px (HV [.bool])) := ⟨fun t => by rw [hP, hel]; exact tt_ok ttL_ok t, by rw [hgl]; rfl⟩
  have hc0 : CallOk cx (lower_px (HV [.bool])) := callT_ok rfl cfs_nil
  have hq0 : CallQOk cx (lower_px (HV [.bool])) := callQT_ok rfl cqfs_nil
  exact ⟨hp0, hc0, hq0, all0⟩
def lower (c : Int) : Bool :=
  cond (decide (97 ≤ c)) (
   (decide (c ≤ 122))) (
   false)
theorem lower_tot (x : HV [.int .u8]) : lower_body x = some (lower x) := by
  first
    | exact rfl
    | simp only [lower_body, lower, cond_some]
def lower_F : FT [.int .u8] [.bool] := fun x => some (lower x)
theorem lower_ok : FnOk Tryd.prog elT glT 35 [.int .u8] [.bool] lower_F := .fin0 lower_run fun x _ _ hx => (lower_tot x).trans hx
/-! ## exchequer/lex.digit -/
def digit_px (R : Type) : Px R := ⟨ttOf ttL, glT, callT [], callQT [], loopT []⟩
def digit_body (x : HV [.int .u8]) : Option (HV [.bool]) := match x with
 | c =>
  cond (decide (48 ≤ c)) (
   some (decide (c ≤ 57))) (
   some false)
theorem digit_eq : ∀ (x : HV [.int .u8]), runF (digit_px _) Tryd.f75 [.int .u8] [.bool] x some = digit_body x
  | c => by kernel_rfl
theorem digit_run : FnOk Tryd.prog elT glT 75 [.int .u8] [.bool] (digit_body) := by
  refine fnOk_run Tryd.func75 rfl (by kernel_rfl) follows (by kernel_rfl) (n := 0) (by kernel_rfl) (px := digit_px _) (fun cx hP hel hgl => ?_) (digit_eq)
  have hp0 : PxOk cx (digit_px (HV [.bool])) := ⟨fun t => by rw [hP, hel]; exact tt_ok ttL_ok t, by rw [hgl]; rfl⟩
  have hc0 : CallOk cx (digit_px (HV [.bool])) := callT_ok rfl cfs_nil
  have hq0 : CallQOk cx (digit_px (HV [.bool])) := callQT_ok rfl cqfs_nil
  exact ⟨hp0, hc0, hq0, all0⟩
def digit (c : Int) : Bool :=
  cond (decide (48 ≤ c)) (
   (decide (c ≤ 57))) (
   false)
theorem digit_tot (x : HV [.int .u8]) : digit_body x = some (digit x) := by
  first
    | exact rfl
    | simp only [digit_body, digit, cond_some]
def digit_F : FT [.int .u8] [.bool] := fun x => some (digit x)
theorem digit_ok : FnOk Tryd.prog elT glT 75 [.int .u8] [.bool] digit_F := .fin0 digit_run fun x _ _ hx => (digit_tot x).trans hx
/-! ## exchequer/lex.inner -/
def inner_px (R : Type) : Px R := ⟨ttOf ttL, glT, callT [(35, callOr [.int .u8] [.bool] lower_F), (75, callOr [.int .u8] [.bool] digit_F)], callQT [], loopT []⟩
def inner_body (x : HV [.int .u8]) : Option (HV [.bool]) := match x with
 | c =>
  cond ((lower c)) (
   some true) (
   cond ((digit c)) (
    some true) (
    some (decide (c = 95))))
theorem inner_eq : ∀ (x : HV [.int .u8]), runF (inner_px _) Tryd.f37 [.int .u8] [.bool] x some = inner_body x
  | c => by kernel_rfl
theorem inner_run : FnOk Tryd.prog elT glT 37 [.int .u8] [.bool] (inner_body) := by
  refine fnOk_run Tryd.func37 rfl (by kernel_rfl) follows (by kernel_rfl) (n := 0) (by kernel_rfl) (px := inner_px _) (fun cx hP hel hgl => ?_) (inner_eq)
  have hp0 : PxOk cx (inner_px (HV [.bool])) := ⟨fun t => by rw [hP, hel]; exact tt_ok ttL_ok t, by rw [hgl]; rfl⟩
  have hc0 : CallOk cx (inner_px (HV [.bool])) := callT_ok rfl (cfs_cons (cf_or (by rw [hP, hel, hgl]; exact lower_ok) (by kernel_rfl)) (cfs_cons (cf_or (by rw [hP, hel, hgl]; exact digit_ok) (by kernel_rfl)) cfs_nil))
  have hq0 : CallQOk cx (inner_px (HV [.bool])) := callQT_ok rfl cqfs_nil
  exact ⟨hp0, hc0, hq0, all0⟩
def inner (c : Int) : Bool :=
  cond ((lower c)) (
   true) (
   cond ((digit c)) (
    true) (
    (decide (c = 95))))
theorem inner_tot (x : HV [.int .u8]) : inner_body x = some (inner x) := by
  first
    | exact rfl
    | simp only [inner_body, inner, cond_some]
def inner_F : FT [.int .u8] [.bool] := fun x => some (inner x)
theorem inner_ok : FnOk Tryd.prog elT glT 37 [.int .u8] [.bool] inner_F := .fin0 inner_run fun x _ _ hx => (inner_tot x).trans hx
theorem lower_is (c : Int) : lower c = Lp.isLo c := by simp only [lower, Lp.isLo]; cases decide (97 ≤ c) <;> rfl
theorem digit_is (c : Int) : digit c = Lp.isDi c := by simp only [digit, Lp.isDi]; cases decide (48 ≤ c) <;> rfl
theorem inner_is (c : Int) : inner c = Lp.isIn c := by
  simp only [inner, Lp.isIn, lower_is, digit_is]
  cases Lp.isLo c <;> cases Lp.isDi c <;> rfl
/-! ## exchequer/lex.Name -/
def lname_0_sg : Sig := ⟨21, [(0, .str), (1, .int .i64)], [(2, .fn 37 [])], [], 40, 40, 200, [], []⟩
abbrev lname_0_V := Str × Int
def lname_0 {R : Type} (rec : lname_0_V → Option R) (kx : Ex → lname_0_V → Option R) (v : lname_0_V) : Option R := match v with
 | (v, v1) =>
  cond (decide (v1 < (v.length : Int))) (
   chk (inb v1 v.length) (
    cond ((inner (bat v v1))) (
     rec (v, (wr .i64 (v1 + 1)))) (
     kx (.exit 0) (v, v1)))) (
   kx (.exit 0) (v, v1))
def lname_pxi0 (R : Type) (k : Nat) : Px R := ⟨ttOf ttL, glT, callT [(37, callOr [.int .u8] [.bool] inner_F)], callQT [], loopT [(1, loopOr k lname_0_sg (lname_0))]⟩
noncomputable def lname_px (R : Type) (k : Nat) : Px R := ⟨ttOf ttL, glT, callT [(35, callOr [.int .u8] [.bool] lower_F), (36, callRun 40 200 (lname_pxi0 R k) Tryd.f36)], callQT [], loopT []⟩
theorem lname_0_eq (R : Type) (k : Nat) : ∀ (fr : List Fr) (rec : lname_0_V → Option R) (kx : Ex → lname_0_V → Option R) (v : lname_0_V), round (lname_pxi0 R k) lname_0_sg (lp Tryd.f36 0) fr rec kx v = lname_0 rec kx v
  | fr, rec, kx, (v, v1) => by kernel_rfl
def lname_body (k : Nat) (x : HV [.str]) : Option (HV [.bool]) := match x with
 | s =>
  let j1 := fun (p : Bool) =>
   let j := fun (p1 : Bool) =>
    cond (p1) (
     iter (fun rec => lname_0 rec (fun e vz => match vz with | (_, v3) => match e with
      | .exit 0 =>
       some (decide (v3 = (s.length : Int)))
      | _ => none)) k (s, 0)) (
     some false)
   cond (p) (
    chk (inb 0 s.length) (
     j (lower (bat s 0)))) (
    j false)
  cond (!decide (s = [])) (
   j1 (decide ((s.length : Int) ≤ 30))) (
   j1 false)
theorem lname_eq (k : Nat) : ∀ (x : HV [.str]), runF (lname_px _ k) Tryd.f12 [.str] [.bool] x some = lname_body k x
  | s => by kernel_rfl
theorem lname_run (k : Nat) : FnOk Tryd.prog elT glT 12 [.str] [.bool] (lname_body k) := by
  refine fnOk_run Tryd.func12 rfl (by kernel_rfl) follows (by kernel_rfl) (n := 0) (by kernel_rfl) (px := lname_px _ k) (fun cx hP hel hgl => ?_) (lname_eq k)
  have hp1 : PxOk cx (lname_pxi0 (HV [.bool]) k) := ⟨fun t => by rw [hP, hel]; exact tt_ok ttL_ok t, by rw [hgl]; rfl⟩
  have hc1 : CallOk cx (lname_pxi0 (HV [.bool]) k) := callT_ok rfl (cfs_cons (cf_or (by rw [hP, hel, hgl]; exact inner_ok) (by kernel_rfl)) cfs_nil)
  have hq1 : CallQOk cx (lname_pxi0 (HV [.bool]) k) := callQT_ok rfl cqfs_nil
  have hllname_0 : LoopOk cx (lname_pxi0 (HV [.bool]) k) (lp Tryd.f36 0) := loop_ok hp1 hc1 hq1 (by rw [hP]; exact follows) (k := k) (s := lname_0_sg) (step := lname_0) (fun _ _ => by kernel_rfl) (by kernel_rfl) (lname_0_eq _ k) (loops_in (n := 0) (by kernel_rfl) all0)
  have hp0 : PxOk cx (lname_px (HV [.bool]) k) := ⟨fun t => by rw [hP, hel]; exact tt_ok ttL_ok t, by rw [hgl]; rfl⟩
  have hc0 : CallOk cx (lname_px (HV [.bool]) k) := callT_ok rfl (cfs_cons (cf_or (by rw [hP, hel, hgl]; exact lower_ok) (by kernel_rfl)) (cfs_cons (cf_run hp1 hc1 hq1 (by rw [hP]; exact follows) (by rw [hP]; exact Tryd.func36) rfl (by kernel_rfl) (by kernel_rfl) (n := 1) (by kernel_rfl) ((allS all0 hllname_0))) cfs_nil))
  have hq0 : CallQOk cx (lname_px (HV [.bool]) k) := callQT_ok rfl cqfs_nil
  exact ⟨hp0, hc0, hq0, all0⟩
abbrev lname (s : Str) : Bool := Lp.nameF s
def lname_F : FT [.str] [.bool] := fun x => some (lname x)
theorem lname_0_loop {R : Type} {kx : Ex → lname_0_V → Option R} {s : Str}  {a : Int → Option R} (hs : ln s.length) (h1 : ∀ j, kx (.exit 0) (s, j) = a j) : ∀ (k i : Nat), i ≤ s.length → s.length - i < k → iter (fun rec => lname_0 rec kx) k (s, (i : Int)) = a (Lp.runTo Lp.isIn s i)
  | 0, i, _, h => absurd h (Nat.not_lt_zero _)
  | k + 1, i, hi, h => by
    rw [iter_s]
    by_cases hl : i < s.length
    · have ih := lname_0_loop  hs h1 k (i + 1) (by omega) (by omega)
      have eb : Sx.byt s (i : Int) = (s[i].toNat : Int) := bat_nat hl
      simp only [lname_0, wr_succ hl hs, ih, h1, bat_nat hl, inb_t hl, inner_is]
      rw [decide_eq_true (show (i : Int) < (s.length : Int) by omega)]
      cases hp : Lp.isIn (s[i].toNat : Int) with
      | true =>
        have := Lp.runTo_yes (p := Lp.isIn) (l := s) (j := i) (by omega) (by rw [eb]; exact hp)
        rw [← this]
        rfl
      | false =>
        have := Lp.runTo_no (p := Lp.isIn) (l := s) (j := i) (by omega) (by rw [eb]; exact hp)
        rw [this]
        rfl
    · have := Lp.runTo_end (p := Lp.isIn) (l := s) (j := i) (by omega)
      simp only [lname_0, h1]
      rw [decide_eq_false (by omega), this]
      rfl
theorem lname_ok : FnOk Tryd.prog elT glT 12 [.str] [.bool] lname_F := .fin 0 lname_run fun s r hb hx => ⟨s.length + 1, by
  simp only [lname_F, Option.some.injEq] at hx
  rw [← hx]
  simp only [lname_body, lname, Lp.nameF]
  by_cases he : s = []
  · rw [decide_eq_true he]; rfl
  · rw [decide_eq_false he]
    simp only [Bool.not_false, cond_t, Bool.true_and]
    by_cases h30 : (s.length : Int) ≤ 30
    · have hp : 0 < s.length := List.length_pos_iff.2 he
      rw [decide_eq_true h30, inb_i (by omega), lower_is]
      simp only [chk, cond_t, Bool.true_and]
      have eb : bat s 0 = Sx.byt s 0 := rfl
      rw [eb]
      cases Lp.isLo (Sx.byt s 0) with
      | false => rfl
      | true =>
        simp only [cond_t, Bool.true_and]
        exact lname_0_loop (s := s) (a := fun j => some (decide (j = (s.length : Int)))) hb (fun _ => rfl) (s.length + 1) 0 (Nat.zero_le _) (by omega)
    · rw [decide_eq_false h30]
      rfl⟩
end Go.Proofs.YtjpcghlpkinahaaDoor

/- What sums, differences and products of numbers come to. -/
namespace Go.Proofs.YtjpcghlpkinahaaDoor
open Go.Ax
theorem wru (n : Int) : wr .u64 n = n % 18446744073709551616 := by simp [wr, IntKind.wrap, IntKind.bits, IntKind.signed]
theorem wri (n : Int) : wr .i64 n = if 9223372036854775808 ≤ n % 18446744073709551616 then n % 18446744073709551616 - 18446744073709551616 else n % 18446744073709551616 := by
  simp [wr, IntKind.wrap, IntKind.bits, IntKind.signed]
theorem wru_id {n : Int} (h : 0 ≤ n ∧ n ≤ 18446744073709551615) : wr .u64 n = n := by rw [wru]; omega
theorem iand_lo {a : Int} (h : 0 ≤ a ∧ a ≤ 18446744073709551615) : iand .u64 a 4294967295 = a % 4294967296 := by
  obtain ⟨n, rfl⟩ := Int.eq_ofNat_of_zero_le h.1
  have hn : n < 18446744073709551616 := by omega
  have e2 : (BitVec.ofInt IntKind.u64.bits (n : Int) &&& BitVec.ofInt IntKind.u64.bits 4294967295).toNat = n % 4294967296 := by
    show (BitVec.ofInt 64 (n : Int) &&& BitVec.ofInt 64 ((4294967295 : Nat) : Int)).toNat = n % 4294967296
    rw [BitVec.toNat_and, BitVec.ofInt_natCast, BitVec.ofInt_natCast, BitVec.toNat_ofNat, BitVec.toNat_ofNat]
    rw [Nat.mod_eq_of_lt hn, Nat.mod_eq_of_lt (by decide)]
    exact Nat.and_two_pow_sub_one_eq_mod n 32
  show wr .u64 _ = _
  simp only [e2]
  rw [wru_id (by omega)]
  omega
theorem ishr_hi {a : Int} : ishr .u64 a 32 = a / 4294967296 := by
  show a.fdiv (2 ^ min (32 : Int).toNat IntKind.u64.bits) = _
  rw [show (2 : Int) ^ min (32 : Int).toNat IntKind.u64.bits = 4294967296 from by decide]
  exact Int.fdiv_eq_ediv_of_nonneg _ (by omega)
theorem mul_bd (a b c d : Int) (h : 0 ≤ a ∧ a ≤ c) (h' : 0 ≤ b ∧ b ≤ d) : 0 ≤ a * b ∧ a * b ≤ c * d :=
  ⟨Int.mul_nonneg h.1 h'.1, Int.mul_le_mul h.2 h'.2 h'.1 (by omega)⟩
theorem mul64_split (x y : Int) : x * y = (x / 4294967296) * (y / 4294967296) * 18446744073709551616 + ((x / 4294967296) * (y % 4294967296) + (x % 4294967296) * (y / 4294967296)) * 4294967296 + (x % 4294967296) * (y % 4294967296) := by
  have hx := Int.mul_ediv_add_emod x 4294967296
  have hy := Int.mul_ediv_add_emod y 4294967296
  generalize x / 4294967296 = p at *
  generalize x % 4294967296 = q at *
  generalize y / 4294967296 = r at *
  generalize y % 4294967296 = s at *
  rw [← hx, ← hy]
  simp only [Int.add_mul, Int.mul_add]
  have e1 : 4294967296 * p * (4294967296 * r) = p * r * 18446744073709551616 := by
    rw [Int.mul_assoc, Int.mul_left_comm p, ← Int.mul_assoc]
    omega
  have e2 : 4294967296 * p * s = p * s * 4294967296 := by rw [Int.mul_assoc]; omega
  have e3 : q * (4294967296 * r) = q * r * 4294967296 := by rw [Int.mul_left_comm]; omega
  omega
theorem mul64_z (x y : Int) (hx : 0 ≤ x ∧ x ≤ 18446744073709551615) (hy : 0 ≤ y ∧ y ≤ 18446744073709551615) : mul64 x y = (x * y / 18446744073709551616, x * y % 18446744073709551616) := by
  have b00 := mul_bd (x % 4294967296) (y % 4294967296) 4294967295 4294967295 (by omega) (by omega)
  have b10 := mul_bd (x / 4294967296) (y % 4294967296) 4294967295 4294967295 (by omega) (by omega)
  have b01 := mul_bd (x % 4294967296) (y / 4294967296) 4294967295 4294967295 (by omega) (by omega)
  have b11 := mul_bd (x / 4294967296) (y / 4294967296) 4294967295 4294967295 (by omega) (by omega)
  have sp := mul64_split x y
  simp only [mul64, ishr_hi, iand_lo hx, iand_lo hy]
  generalize (x % 4294967296) * (y % 4294967296) = p00 at *
  generalize (x / 4294967296) * (y % 4294967296) = p10 at *
  generalize (x % 4294967296) * (y / 4294967296) = p01 at *
  generalize (x / 4294967296) * (y / 4294967296) = p11 at *
  rw [wru_id (n := p00) (by omega), wru_id (n := p10) (by omega), wru_id (n := p11) (by omega), wru_id (n := p01) (by omega)]
  rw [wru_id (n := p10 + p00 / 4294967296) (by omega)]
  rw [iand_lo (by omega)]
  rw [wru_id (n := (p10 + p00 / 4294967296) % 4294967296 + p01) (by omega)]
  rw [wru_id (n := p11 + (p10 + p00 / 4294967296) / 4294967296) (by omega)]
  rw [wru_id (n := p11 + (p10 + p00 / 4294967296) / 4294967296 + ((p10 + p00 / 4294967296) % 4294967296 + p01) / 4294967296) (by omega), wru]
  rw [Prod.mk.injEq]
  constructor <;> omega
/-- what has room, or is told to have none -/
def fitZ (n : Int) : Int × Int := if -9223372036854775808 ≤ n ∧ n ≤ 9223372036854775807 then (n, 0) else (0, 20)
def absI (n : Int) : Int := if n < 0 then -n else n
theorem vsize_z {n : Int} (h : inI n) : vsize n = absI n := by
  simp only [inI] at h
  simp only [vsize, absI, Bool.cond_decide, wru]
  split <;> omega
theorem fit_ok {q r : Int} (h : inI q) (hr : r = q) : (r, (0 : Int)) = fitZ q := by
  simp only [inI] at h
  rw [hr, fitZ, if_pos h]
theorem fit_no {q : Int} (h : ¬ inI q) : ((0 : Int), (20 : Int)) = fitZ q := by
  simp only [inI] at h
  rw [fitZ, if_neg h]
theorem vadd_z {a b : Int} (ha : inI a) (hb : inI b) : vadd a b = fitZ (a + b) := by
  simp only [inI] at ha hb
  simp only [vadd, wri]
  by_cases h1 : 0 < b
  · rw [decide_eq_true h1]
    by_cases h2 : a + b ≤ 9223372036854775807
    · have e : (a + b) % 18446744073709551616 < 9223372036854775808 ∨ 9223372036854775808 ≤ (a + b) % 18446744073709551616 := by omega
      rw [← fit_ok (q := a + b) (r := if 9223372036854775808 ≤ (a + b) % 18446744073709551616 then (a + b) % 18446744073709551616 - 18446744073709551616 else (a + b) % 18446744073709551616) (by simp only [inI]; omega) (by split <;> omega)]
      rw [decide_eq_true (p := a < _) (by split <;> omega)]
      rfl
    · rw [← fit_no (q := a + b) (by simp only [inI]; omega)]
      rw [decide_eq_false (p := a < _) (by split <;> omega)]
      rfl
  · rw [decide_eq_false h1]
    by_cases h2 : -9223372036854775808 ≤ a + b
    · rw [← fit_ok (q := a + b) (r := if 9223372036854775808 ≤ (a + b) % 18446744073709551616 then (a + b) % 18446744073709551616 - 18446744073709551616 else (a + b) % 18446744073709551616) (by simp only [inI]; omega) (by split <;> omega)]
      rw [decide_eq_false (p := a < _) (by split <;> omega)]
      rfl
    · rw [← fit_no (q := a + b) (by simp only [inI]; omega)]
      rw [decide_eq_true (p := a < _) (by split <;> omega)]
      rfl
theorem vmul_z {a b : Int} (ha : inI a) (hb : inI b) : vmul a b = fitZ (a * b) := by
  have ha' := ha; have hb' := hb
  simp only [inI] at ha' hb'
  have hA : 0 ≤ absI a ∧ absI a ≤ 9223372036854775808 := by unfold absI; split <;> omega
  have hB : 0 ≤ absI b ∧ absI b ≤ 9223372036854775808 := by unfold absI; split <;> omega
  have hbd := mul_bd _ _ _ _ hA hB
  have hsg : a * b = if decide (a < 0) = decide (b < 0) then absI a * absI b else -(absI a * absI b) := by
    unfold absI
    by_cases h1 : a < 0 <;> by_cases h2 : b < 0 <;> simp [h1, h2, Int.neg_mul, Int.mul_neg]
  simp only [vmul, vsize_z ha, vsize_z hb, mul64_z _ _ (show 0 ≤ absI a ∧ absI a ≤ 18446744073709551615 by omega) (show 0 ≤ absI b ∧ absI b ≤ 18446744073709551615 by omega)]
  clear ha hb ha' hb' hA hB
  generalize absI a * absI b = p at *
  generalize a * b = q at *
  by_cases hs : decide (a < 0) = decide (b < 0)
  · rw [if_pos hs] at hsg
    rw [decide_eq_true hs]
    by_cases h1 : p < 9223372036854775808
    · rw [decide_eq_false (show ¬ 0 < p / 18446744073709551616 by omega), decide_eq_false (show ¬ 9223372036854775808 < p % 18446744073709551616 by omega), decide_eq_false (show ¬ p % 18446744073709551616 = 9223372036854775808 by omega)]
      refine (show _ = (wr .i64 (p % 18446744073709551616), (0 : Int)) from rfl).trans (fit_ok (by simp only [inI]; omega) ?_)
      rw [wri]; split <;> omega
    · rw [← fit_no (q := q) (by simp only [inI]; omega)]
      by_cases h2 : 0 < p / 18446744073709551616
      · rw [decide_eq_true h2]; rfl
      · rw [decide_eq_false h2]
        by_cases h3 : 9223372036854775808 < p % 18446744073709551616
        · rw [decide_eq_true h3]; rfl
        · rw [decide_eq_false h3, decide_eq_true (show p % 18446744073709551616 = 9223372036854775808 by omega)]; rfl
  · rw [if_neg hs] at hsg
    rw [decide_eq_false hs]
    by_cases h1 : p ≤ 9223372036854775808
    · rw [decide_eq_false (show ¬ 0 < p / 18446744073709551616 by omega), decide_eq_false (show ¬ 9223372036854775808 < p % 18446744073709551616 by omega)]
      have : fitZ q = (wr .i64 (wr .u64 (0 - p % 18446744073709551616)), (0 : Int)) := by
        refine (fit_ok (by simp only [inI]; omega) ?_).symm
        rw [wri, wru]; split <;> omega
      rw [this]
      cases decide (p % 18446744073709551616 = 9223372036854775808) <;> rfl
    · rw [← fit_no (q := q) (by simp only [inI]; omega)]
      by_cases h2 : 0 < p / 18446744073709551616
      · rw [decide_eq_true h2]; rfl
      · rw [decide_eq_false h2, decide_eq_true (show 9223372036854775808 < p % 18446744073709551616 by omega)]; rfl
end Go.Proofs.YtjpcghlpkinahaaDoor

/- The library's contract of strings.ReplaceAll at this seat's program (the facts as the kit's tool lays them). -/
namespace Go.Proofs
open Go.Shelf
def Tryd.laysRA_ren : Go.Shelf.Ren := ⟨fun | 155 => 41 | 154 => 78 | 138 => 100 | 165 => 101 | 143 => 102 | 166 => 92 | 197 => 103 | 169 => 47 | 195 => 112 | 218 => 113 | 240 => 110 | 241 => 114 | 219 => 115 | 260 => 116 | 276 => 118 | 277 => 119 | 217 => 79 | 225 => 120 | 224 => 121 | 267 => 122 | 266 => 104 | 314 => 123 | n => n, fun | 9 => 9 | 3 => 3 | 4 => 4 | 72 => 84 | 0 => 0 | 76 => 133 | 105 => 138 | 21 => 21 | 5 => 5 | 70 => 81 | 20 => 20 | 37 => 82 | 75 => 132 | 127 => 129 | 164 => 149 | 46 => 114 | 119 => 152 | 139 => 155 | 138 => 154 | 146 => 157 | 51 => 156 | 80 => 88 | n => n, fun | 1 => 3 | 3 => 4 | 4 => 5 | n => n⟩
theorem Tryd.laysRA : Go.Proofs.Lays.n155 Tryd.prog Tryd.laysRA_ren := {
  mixed := by kernel_rfl
  f138 := Tryd.func100.trans (congrArg some (by kernel_rfl))
  f143 := Tryd.func102.trans (congrArg some (by kernel_rfl))
  f154 := Tryd.func78.trans (congrArg some (by kernel_rfl))
  f155 := Tryd.func41.trans (congrArg some (by kernel_rfl))
  f165 := Tryd.func101.trans (congrArg some (by kernel_rfl))
  f166 := Tryd.func92.trans (congrArg some (by kernel_rfl))
  f169 := Tryd.func47.trans (congrArg some (by kernel_rfl))
  f195 := Tryd.func112.trans (congrArg some (by kernel_rfl))
  f197 := Tryd.func103.trans (congrArg some (by kernel_rfl))
  f217 := Tryd.func79.trans (congrArg some (by kernel_rfl))
  f218 := Tryd.func113.trans (congrArg some (by kernel_rfl))
  f219 := Tryd.func115.trans (congrArg some (by kernel_rfl))
  f224 := Tryd.func121.trans (congrArg some (by kernel_rfl))
  f225 := Tryd.func120.trans (congrArg some (by kernel_rfl))
  f240 := Tryd.func110.trans (congrArg some (by kernel_rfl))
  f241 := Tryd.func114.trans (congrArg some (by kernel_rfl))
  f260 := Tryd.func116.trans (congrArg some (by kernel_rfl))
  f266 := Tryd.func104.trans (congrArg some (by kernel_rfl))
  f267 := Tryd.func122.trans (congrArg some (by kernel_rfl))
  f276 := Tryd.func118.trans (congrArg some (by kernel_rfl))
  f277 := Tryd.func119.trans (congrArg some (by kernel_rfl))
  f314 := Tryd.func123.trans (congrArg some (by kernel_rfl))
  t0 := Tryd.underlying0
  a0 := Tryd.isAgg0
  z0 := Tryd.sizeOf0
  v0 := Tryd.zeroValue0
  t3 := Tryd.underlying3
  a3 := Tryd.isAgg3
  z3 := Tryd.sizeOf3
  v3 := Tryd.zeroValue3
  t4 := Tryd.underlying4
  a4 := Tryd.isAgg4
  z4 := Tryd.sizeOf4
  v4 := Tryd.zeroValue4
  t5 := Tryd.underlying5
  a5 := Tryd.isAgg5
  z5 := Tryd.sizeOf5
  v5 := Tryd.zeroValue5
  t9 := Tryd.underlying9
  a9 := Tryd.isAgg9
  z9 := Tryd.sizeOf9
  v9 := Tryd.zeroValue9
  t20 := Tryd.underlying20
  a20 := Tryd.isAgg20
  z20 := Tryd.sizeOf20
  v20 := Tryd.zeroValue20
  t21 := Tryd.underlying21
  a21 := Tryd.isAgg21
  z21 := Tryd.sizeOf21
  v21 := Tryd.zeroValue21
  t37 := Tryd.underlying82
  a37 := Tryd.isAgg82
  z37 := Tryd.sizeOf82
  v37 := Tryd.zeroValue82
  t46 := Tryd.underlying114
  a46 := Tryd.isAgg114
  z46 := Tryd.sizeOf114
  v46 := Tryd.zeroValue114
  t51 := Tryd.underlying156
  a51 := Tryd.isAgg156
  z51 := Tryd.sizeOf156
  v51 := Tryd.zeroValue156
  t70 := Tryd.underlying81
  a70 := Tryd.isAgg81
  z70 := Tryd.sizeOf81
  v70 := Tryd.zeroValue81
  t72 := Tryd.underlying84
  a72 := Tryd.isAgg84
  z72 := Tryd.sizeOf84
  v72 := Tryd.zeroValue84
  t75 := Tryd.underlying132
  a75 := Tryd.isAgg132
  z75 := Tryd.sizeOf132
  v75 := Tryd.zeroValue132
  t76 := Tryd.underlying133
  a76 := Tryd.isAgg133
  z76 := Tryd.sizeOf133
  v76 := Tryd.zeroValue133
  t105 := Tryd.underlying138
  a105 := Tryd.isAgg138
  z105 := Tryd.sizeOf138
  v105 := Tryd.zeroValue138
  t119 := Tryd.underlying152
  a119 := Tryd.isAgg152
  z119 := Tryd.sizeOf152
  t127 := Tryd.underlying129
  a127 := Tryd.isAgg129
  z127 := Tryd.sizeOf129
  v127 := Tryd.zeroValue129
  t138 := Tryd.underlying154
  a138 := Tryd.isAgg154
  z138 := Tryd.sizeOf154
  v138 := Tryd.zeroValue154
  t139 := Tryd.underlying155
  a139 := Tryd.isAgg155
  z139 := Tryd.sizeOf155
  v139 := Tryd.zeroValue155
  t146 := Tryd.underlying157
  a146 := Tryd.isAgg157
  z146 := Tryd.sizeOf157
  v146 := Tryd.zeroValue157
  t164 := Tryd.underlying149
  a164 := Tryd.isAgg149
  z164 := Tryd.sizeOf149
  v164 := Tryd.zeroValue149
  g1 := by kernel_rfl
  g3 := by kernel_rfl
  g4 := by kernel_rfl }
theorem Tryd.extraRA : Builder.Extra Tryd.prog Tryd.laysRA_ren := {
  sizeBuilder := by kernel_rfl
  liesBuilder := by kernel_rfl
  t5 := Tryd.laysRA.t5
  a5 := Tryd.laysRA.a5
  z5 := Tryd.laysRA.z5
  v5 := Tryd.laysRA.v5
  infoByte := by kernel_rfl
  cellsByte := by kernel_rfl
  sizeByte := by kernel_rfl
  neB5 := by decide }
end Go.Proofs

/- strings.ReplaceAll, by the library's contract. -/
namespace Go.Proofs.YtjpcghlpkinahaaDoor
open Go.Ax
def repAll (s old new : Str) : Option Str := cond (decide (s.length < 4294967281) && decide (1 ≤ old.length) && decide (s.length + Lib.count s old * new.length ≤ 140737488355328) && decide ((Lib.replaceAll s old new).length ≤ maxLen)) (some (Lib.replaceAll s old new)) none
def repAll_F : FT [.str, .str, .str] [.str] := fun x => repAll x.1 x.2.1 x.2.2
theorem repAll_ok : FnOk Tryd.prog elT glT 41 [.str, .str, .str] [.str] repAll_F := by
  refine ⟨Sx.enters_of Tryd.func41 rfl (by kernel_rfl), fun x r hx w M vs hM hgl hr => ?_⟩
  obtain ⟨s, old, new⟩ := x
  simp only [repAll_F, repAll] at hx
  cases hc : decide (s.length < 4294967281) && decide (1 ≤ old.length) && decide (s.length + Lib.count s old * new.length ≤ 140737488355328) && decide ((Lib.replaceAll s old new).length ≤ maxLen) with
  | false => rw [hc] at hx; cases hx
  | true =>
    rw [hc] at hx
    have hx : some (Lib.replaceAll s old new) = some r := hx
    simp only [Option.some.injEq] at hx
    subst hx
    simp only [Bool.and_eq_true, decide_eq_true_eq] at hc
    obtain ⟨⟨⟨h1, h2⟩, h3⟩, h4⟩ := hc
    simp only [encL, enc1, Reps, Rep] at hr
    obtain ⟨u, us, rfl, ⟨rfl, _⟩, u2, us2, rfl, ⟨rfl, _⟩, u3, us3, rfl, ⟨rfl, _⟩, rfl⟩ := hr
    obtain ⟨m, hm⟩ := hgl.2.2 3 .i64 rfl
    have c := Any.strings_ReplaceAll Tryd.laysRA Tryd.extraRA ⟨s.toArray⟩ ⟨old.toArray⟩ ⟨new.toArray⟩ m w (by simpa [ByteArray.size] using h1) (hm w (Chg.refl _ _)) (by simpa [ByteArray.size] using h2) (by simpa [ByteArray.size, Lib.countB] using h3)
    refine Calls.mono (show Calls Tryd.prog 41 _ w _ from c) ?_
    rintro en w' ⟨rfl, hb⟩
    refine ⟨_, ⟨fun _ => 0, fun _ => Option.none⟩, rfl, Chg.of_below hb, fun p g o hp => (by simp [owns] at hp), fun p q g o o2 hp => (by simp [owns] at hp), ?_⟩
    simp only [pack, encL, enc1, Rep]
    exact ⟨by simp, h4⟩
end Go.Proofs.YtjpcghlpkinahaaDoor

/- Plain law: decimal digits, the lowest first. -/
namespace Go.Proofs.YtjpcghlpkinahaaDoor
open Go.Ax
def pw : Nat → Int
  | 0 => 1
  | n + 1 => 10 * pw n
theorem pw_pos : ∀ n, 0 < pw n
  | 0 => by decide
  | n + 1 => by have := pw_pos n; simp only [pw]; omega
theorem pw_add : ∀ a b, pw (a + b) = pw a * pw b
  | 0, b => by simp [pw]
  | a + 1, b => by rw [Nat.add_right_comm]; simp only [pw]; rw [pw_add a b, Int.mul_assoc]
theorem pw_mono {a b : Nat} (h : a ≤ b) : pw a ≤ pw b := by
  induction b with
  | zero => have : a = 0 := by omega
            subst this; exact Int.le_refl _
  | succ b ih =>
    rcases Nat.le_succ_iff.1 h with h | h
    · have := ih h; have := pw_pos b; simp only [pw]; omega
    · subst h; exact Int.le_refl _
def val : List Int → Int
  | [] => 0
  | x :: l => x + 10 * val l
def dg (l : List Int) : Bool := l.all fun x => decide (0 ≤ x) && decide (x ≤ 9)
theorem dg_cons {x : Int} {l : List Int} : dg (x :: l) = true ↔ (0 ≤ x ∧ x ≤ 9) ∧ dg l = true := by
  simp [dg]
theorem dg_nil : dg [] = true := rfl
theorem dg_app {l m : List Int} : dg (l ++ m) = true ↔ dg l = true ∧ dg m = true := by
  simp [dg, List.all_append]
theorem val_nn : ∀ {l : List Int}, dg l = true → 0 ≤ val l
  | [], _ => by simp [val]
  | x :: l, h => by have h := dg_cons.1 h; have := val_nn h.2; simp only [val]; omega
theorem val_lt : ∀ {l : List Int}, dg l = true → val l < pw l.length
  | [], _ => by simp [val, pw]
  | x :: l, h => by have h := dg_cons.1 h; have := val_lt h.2; simp only [val, List.length_cons, pw]; omega
theorem val_app : ∀ (l m : List Int), val (l ++ m) = val l + pw l.length * val m
  | [], m => by simp [val, pw]
  | x :: l, m => by
    simp only [List.cons_append, val, val_app l m, List.length_cons, pw]
    rw [Int.mul_add, Int.add_assoc, Int.mul_assoc]
theorem dg_drop : ∀ {l : List Int} (i : Nat), dg l = true → dg (l.drop i) = true
  | [], i, _ => by simp [dg]
  | x :: l, 0, h => h
  | x :: l, i + 1, h => dg_drop (l := l) i (dg_cons.1 h).2
theorem dg_take : ∀ {l : List Int} (i : Nat), dg l = true → dg (l.take i) = true
  | [], i, _ => by simp [dg]
  | x :: l, 0, h => rfl
  | x :: l, i + 1, h => by
    rw [List.take_succ_cons]
    exact dg_cons.2 ⟨(dg_cons.1 h).1, dg_take i (dg_cons.1 h).2⟩
/-- a digit; 0 beyond -/
def dgt (l : List Int) (i : Nat) : Int := l.getD i 0
theorem dgt_bd {l : List Int} (h : dg l = true) (i : Nat) : 0 ≤ dgt l i ∧ dgt l i ≤ 9 := by
  induction l generalizing i with
  | nil => simp [dgt]
  | cons x l ih =>
    have h := dg_cons.1 h
    cases i with
    | zero => simpa [dgt] using h.1
    | succ i => simpa [dgt] using ih h.2 i
theorem val_drop (l : List Int) (i : Nat) : val (l.drop i) = dgt l i + 10 * val (l.drop (i + 1)) := by
  induction l generalizing i with
  | nil => simp [dgt, val]
  | cons x l ih =>
    cases i with
    | zero => simp [dgt, val]
    | succ i => simpa [dgt] using ih i
theorem val_split {l : List Int} (h : dg l = true) (j : Nat) : ∃ lo, 0 ≤ lo ∧ lo < pw j ∧ val l = lo + pw j * val (l.drop j) := by
  induction l generalizing j with
  | nil => exact ⟨0, Int.le_refl _, pw_pos j, by simp [val]⟩
  | cons x l ih =>
    have h := dg_cons.1 h
    cases j with
    | zero => exact ⟨0, Int.le_refl _, pw_pos 0, by simp [pw]⟩
    | succ j =>
      obtain ⟨lo, h1, h2, h3⟩ := ih h.2 j
      refine ⟨x + 10 * lo, by omega, by simp only [pw]; omega, ?_⟩
      simp only [val, List.drop_succ_cons, pw, h3]
      rw [Int.mul_add, Int.add_assoc, Int.mul_assoc]
theorem val_drop_le {l : List Int} (h : dg l = true) (j : Nat) : val (l.drop j) ≤ val l := by
  obtain ⟨lo, h1, h2, h3⟩ := val_split h j
  have h4 := val_nn (dg_drop j h)
  have h5 : 1 * val (l.drop j) ≤ pw j * val (l.drop j) := Int.mul_le_mul_of_nonneg_right (by have := pw_pos j; omega) h4
  omega
theorem val_take (l : List Int) : ∀ (i : Nat), i < l.length → val (l.take (i + 1)) = val (l.take i) + pw i * dgt l i := by
  induction l with
  | nil => intro i h; simp at h
  | cons x l ih =>
    intro i h
    cases i with
    | zero => simp [val, dgt, pw]
    | succ i =>
      have := ih i (by simpa using h)
      simp only [List.take_succ_cons, val, this, pw]
      have e : dgt (x :: l) (i + 1) = dgt l i := by simp [dgt]
      rw [e, Int.mul_add, Int.add_assoc, Int.mul_assoc]
theorem val_set (l : List Int) (y : Int) : ∀ (i : Nat), i < l.length → val (l.set i y) = val l + pw i * (y - dgt l i) := by
  induction l with
  | nil => intro i h; simp at h
  | cons x l ih =>
    intro i h
    cases i with
    | zero => simp [val, dgt, pw]; omega
    | succ i =>
      have := ih i (by simpa using h)
      simp only [List.set_cons_succ, val, this, pw]
      have e : dgt (x :: l) (i + 1) = dgt l i := by simp [dgt]
      rw [e, Int.mul_add, Int.add_assoc, Int.mul_assoc]
theorem dg_set {l : List Int} {y : Int} (hy : 0 ≤ y ∧ y ≤ 9) : ∀ (i : Nat), dg l = true → dg (l.set i y) = true := by
  induction l with
  | nil => intro i _; rfl
  | cons x l ih =>
    intro i h
    have h := dg_cons.1 h
    cases i with
    | zero => exact dg_cons.2 ⟨hy, h.2⟩
    | succ i => exact dg_cons.2 ⟨h.1, ih i h.2⟩
theorem val_rep (n : Nat) : val (List.replicate n 0) = 0 := by
  induction n with
  | zero => rfl
  | succ n ih => simp [List.replicate_succ, val, ih]
theorem dg_rep (n : Nat) : dg (List.replicate n 0) = true := by
  induction n with
  | zero => rfl
  | succ n ih => rw [List.replicate_succ]; exact dg_cons.2 ⟨by omega, ih⟩
/-! ## the digits of a number -/
def digs (n : Nat) : List Int := if h : n = 0 then [] else ((n % 10 : Nat) : Int) :: digs (n / 10)
termination_by n
decreasing_by omega
theorem digs_zero : digs 0 = [] := by rw [digs]; simp
theorem digs_pos {n : Nat} (h : ¬ n = 0) : digs n = ((n % 10 : Nat) : Int) :: digs (n / 10) := by rw [digs]; simp [h]
theorem digs_val (n : Nat) : val (digs n) = (n : Int) := by
  induction n using Nat.strongRecOn with
  | ind n ih =>
    by_cases h : n = 0
    · subst h; rw [digs_zero]; rfl
    · rw [digs_pos h, val, ih (n / 10) (by omega)]; omega
theorem digs_dg (n : Nat) : dg (digs n) = true := by
  induction n using Nat.strongRecOn with
  | ind n ih =>
    by_cases h : n = 0
    · subst h; rw [digs_zero]; rfl
    · rw [digs_pos h]; exact dg_cons.2 ⟨by omega, ih (n / 10) (by omega)⟩
theorem digs_len : ∀ (k n : Nat), (n : Int) < pw k → (digs n).length ≤ k
  | 0, n, h => by
    have : n = 0 := by simp only [pw] at h; omega
    subst this; rw [digs_zero]; exact Nat.le_refl _
  | k + 1, n, h => by
    by_cases h0 : n = 0
    · subst h0; rw [digs_zero]; simp
    · have := digs_len k (n / 10) (by simp only [pw] at h; omega)
      rw [digs_pos h0]
      simp only [List.length_cons]
      omega
theorem digs_ne {n : Nat} (h : ¬ n = 0) : ¬ digs n = [] := by rw [digs_pos h]; simp
/-- without noughts behind -/
def trimL : List Int → List Int
  | [] => []
  | x :: l => match trimL l with
    | [] => if x = 0 then [] else [x]
    | y :: t => x :: y :: t
theorem trimL_digs : ∀ {l : List Int}, dg l = true → trimL l = digs (val l).toNat
  | [], _ => by simp only [trimL, val]; exact digs_zero.symm
  | x :: l, h => by
    have h := dg_cons.1 h
    have ih := trimL_digs h.2
    have hv := val_nn h.2
    simp only [trimL, ih, val]
    by_cases h0 : val l = 0
    · rw [h0]
      have e : digs (0 : Int).toNat = [] := digs_zero
      rw [e]
      by_cases hx : x = 0
      · subst hx; rw [if_pos rfl]; exact digs_zero.symm
      · rw [if_neg hx, digs_pos (by omega), show (x + 10 * 0).toNat / 10 = 0 by omega, digs_zero, show (((x + 10 * 0).toNat % 10 : Nat) : Int) = x by omega]
    · have hne := digs_ne (n := (val l).toNat) (by omega)
      rw [digs_pos (n := (x + 10 * val l).toNat) (by omega), show (x + 10 * val l).toNat / 10 = (val l).toNat by omega, show (((x + 10 * val l).toNat % 10 : Nat) : Int) = x by omega]
      cases hd : digs (val l).toNat with
      | nil => exact absurd hd hne
      | cons y t => rfl
theorem trimL_zero : ∀ (l : List Int), trimL (l ++ [0]) = trimL l
  | [] => by simp [trimL]
  | x :: l => by simp only [List.cons_append, trimL, trimL_zero l]
theorem trimL_last {y : Int} (hy : ¬ y = 0) : ∀ (l : List Int), trimL (l ++ [y]) = l ++ [y]
  | [] => by simp [trimL, hy]
  | x :: l => by
    simp only [List.cons_append, trimL, trimL_last hy l]
    cases l <;> simp
/-! ## numbers -/
def numS (m : Bool) (v : Int) : Num := ⟨m && decide (0 < v), digs v.toNat⟩
def numZ (z : Int) : Num := numS (decide (z < 0)) (z.natAbs : Int)
def nv (n : Num) : Int := if n.minus = true then -val n.d else val n.d
def okN (n : Num) : Bool := dg n.d && decide (n.d.length ≤ 1000)
theorem okN_spec {n : Num} (h : okN n = true) : dg n.d = true ∧ n.d.length ≤ 1000 := by simpa [okN] using h
theorem nv_Z (z : Int) : nv (numZ z) = z := by
  simp only [nv, numZ, numS, digs_val, Int.toNat_natCast]
  by_cases h : z < 0
  · rw [decide_eq_true h, decide_eq_true (show (0 : Int) < (z.natAbs : Int) by omega)]
    simp only [Bool.and_true, if_pos]
    omega
  · rw [decide_eq_false h]
    simp only [Bool.false_and, Bool.false_eq_true, if_false]
    omega
theorem okZ {z : Int} (h : -(pw 1000) < z ∧ z < pw 1000) : okN (numZ z) = true := by
  have h1 := digs_len 1000 z.natAbs (by omega)
  simp only [okN, numZ, numS, Int.toNat_natCast, digs_dg, Bool.true_and]
  exact decide_eq_true h1
theorem numZ_S (m : Bool) {v : Int} (h : 0 ≤ v) : numS m v = numZ (if m = true then -v else v) := by
  cases m
  · simp only [Bool.false_eq_true, if_false, numZ]
    rw [decide_eq_false (by omega)]
    simp only [numS, Bool.false_and]
    congr 2
    omega
  · simp only [if_true, numZ]
    by_cases h0 : v = 0
    · subst h0; rfl
    · rw [decide_eq_true (by omega), show ((-v).natAbs : Int) = v by omega]
theorem val_td (l : List Int) (j : Nat) : val l = val (l.take j) + pw j * val (l.drop j) := by
  induction l generalizing j with
  | nil => simp [val]
  | cons x l ih =>
    cases j with
    | zero => simp [pw, val]
    | succ j =>
      simp only [List.take_succ_cons, List.drop_succ_cons, val, pw]
      have := ih j
      rw [Int.mul_assoc]
      omega
theorem val_dt (l : List Int) (i n : Nat) : val ((l.drop i).take (n + 1)) = dgt l i + 10 * val ((l.drop (i + 1)).take n) := by
  induction l generalizing i with
  | nil => simp [dgt, val]
  | cons x l ih =>
    cases i with
    | zero => simp [dgt, val]
    | succ i => simpa [dgt] using ih i
theorem ten {x : Int} (h : 0 ≤ x) : Int.tmod x 10 = x % 10 ∧ Int.tdiv x 10 = x / 10 := ⟨Int.tmod_eq_emod_of_nonneg h, Int.tdiv_eq_ediv_of_nonneg h⟩
end Go.Proofs.YtjpcghlpkinahaaDoor

/- The text of a value: the program's. -/
namespace Go.Proofs.YtjpcghlpkinahaaDoor
open Go.Ax
/-! ## two digits to a byte -/
abbrev hexL : Str := [48, 49, 50, 51, 52, 53, 54, 55, 56, 57, 97, 98, 99, 100, 101, 102]
def hex2 (n : Nat) : Str := [hexL.getD (n / 16) 0, hexL.getD (n % 16) 0]
def hexs (s : Str) : Str := s.flatMap fun b => hex2 b.toNat
def hxOk (n : Nat) : Bool := inb (ishr .u8 (n : Int) 4) 16 && inb (iand .u8 (n : Int) 15) 16 && decide ([(UInt8.ofNat ((bat hexL (ishr .u8 (n : Int) 4)) : Int).toNat), (UInt8.ofNat ((bat hexL (iand .u8 (n : Int) 15)) : Int).toNat)] = hex2 n)
theorem hx_all : ((List.range 256).all hxOk) = true := by kernel_rfl
theorem hx (b : UInt8) : inb (ishr .u8 (b.toNat : Int) 4) 16 = true ∧ inb (iand .u8 (b.toNat : Int) 15) 16 = true ∧ [(UInt8.ofNat ((bat hexL (ishr .u8 (b.toNat : Int) 4)) : Int).toNat), (UInt8.ofNat ((bat hexL (iand .u8 (b.toNat : Int) 15)) : Int).toNat)] = hex2 b.toNat := by
  have h := List.all_eq_true.1 hx_all b.toNat (List.mem_range.2 b.toNat_lt)
  simp only [hxOk, Bool.and_eq_true, decide_eq_true_eq] at h
  exact ⟨h.1.1, h.1.2, h.2⟩
theorem hexs_len (s : Str) : (hexs s).length = 2 * s.length := by
  induction s with
  | nil => rfl
  | cons b l ih => simp only [hexs, List.flatMap_cons, hex2, List.length_append, List.length_cons, List.length_nil] at ih ⊢; omega
/-! ## exchequer/value.hex -/
def vhex_0_sg : Sig := ⟨26, [(0, .str), (3, .sl .byte true), (6, .int .i64), (7, .int .i64)], [], [], 0, 0, 0, [], []⟩
abbrev vhex_0_V := Str × List UInt8 × Int × Int
def vhex_0 {R : Type} (rec : vhex_0_V → Option R) (kx : Ex → vhex_0_V → Option R) (v : vhex_0_V) : Option R := match v with
 | (v, v1, v2, v3) =>
  cond (decide (v3 < v2)) (
   chk (inb v3 v.length) (
    chk (inb (ishr .u8 (bat v v3) 4) 16) (
     chk (inb v3 v.length) (
      chk (inb (iand .u8 (bat v v3) 15) 16) (
       chk (decide (v1.length + 2 ≤ maxApp)) (
        rec (v, (v1 ++ [(UInt8.ofNat ((bat [48, 49, 50, 51, 52, 53, 54, 55, 56, 57, 97, 98, 99, 100, 101, 102] (ishr .u8 (bat v v3) 4)) : Int).toNat), (UInt8.ofNat ((bat [48, 49, 50, 51, 52, 53, 54, 55, 56, 57, 97, 98, 99, 100, 101, 102] (iand .u8 (bat v v3) 15)) : Int).toNat)]), v2, (wr .i64 (v3 + 1))))))))) (
   kx (.exit 0) (v, v1, v2, v3))
def vhex_px (R : Type) (k : Nat) : Px R := ⟨ttOf ttL, glT, callT [], callQT [], loopT [(3, loopOr k vhex_0_sg (vhex_0))]⟩
theorem vhex_0_eq (R : Type) (k : Nat) : ∀ (fr : List Fr) (rec : vhex_0_V → Option R) (kx : Ex → vhex_0_V → Option R) (v : vhex_0_V), round (vhex_px R k) vhex_0_sg (lp Tryd.f42 0) fr rec kx v = vhex_0 rec kx v
  | fr, rec, kx, (v, v1, v2, v3) => by kernel_rfl
def vhex_body (k : Nat) (x : HV [.str]) : Option (HV [.str]) := match x with
 | s =>
  iter (fun rec => vhex_0 rec (fun e vz => match vz with | (_, v5, _, _) => match e with
   | .exit 0 =>
    some v5
   | _ => none)) k (s, [], (s.length : Int), 0)
theorem vhex_eq (k : Nat) : ∀ (x : HV [.str]), runF (vhex_px _ k) Tryd.f42 [.str] [.str] x some = vhex_body k x
  | s => by kernel_rfl
theorem vhex_run (k : Nat) : FnOk Tryd.prog elT glT 42 [.str] [.str] (vhex_body k) := by
  refine fnOk_run Tryd.func42 rfl (by kernel_rfl) follows (by kernel_rfl) (n := 1) (by kernel_rfl) (px := vhex_px _ k) (fun cx hP hel hgl => ?_) (vhex_eq k)
  have hp0 : PxOk cx (vhex_px (HV [.str]) k) := ⟨fun t => by rw [hP, hel]; exact tt_ok ttL_ok t, by rw [hgl]; rfl⟩
  have hc0 : CallOk cx (vhex_px (HV [.str]) k) := callT_ok rfl cfs_nil
  have hq0 : CallQOk cx (vhex_px (HV [.str]) k) := callQT_ok rfl cqfs_nil
  have hlvhex_0 : LoopOk cx (vhex_px (HV [.str]) k) (lp Tryd.f42 0) := loop_ok hp0 hc0 hq0 (by rw [hP]; exact follows) (k := k) (s := vhex_0_sg) (step := vhex_0) (fun _ _ => by kernel_rfl) (by kernel_rfl) (vhex_0_eq _ k) (loops_in (n := 0) (by kernel_rfl) all0)
  exact ⟨hp0, hc0, hq0, (allS all0 hlvhex_0)⟩
def vhex (s : Str) : Option Str := cond (decide (s.length ≤ 3000)) (some (hexs s)) none
def vhex_F : FT [.str] [.str] := fun x => vhex x
theorem vhex_loop {R : Type} {kx : Ex → vhex_0_V → Option R} {s : Str} {b : Str → Option R} (hs : s.length ≤ 3000) (h2 : ∀ out j, kx (.exit 0) (s, out, (s.length : Int), j) = b out) : ∀ (k i : Nat) (out : Str), i ≤ s.length → s.length - i < k → out.length ≤ 2 * i → iter (fun rec => vhex_0 rec kx) k (s, out, (s.length : Int), (i : Int)) = b (out ++ hexs (s.drop i))
  | 0, i, _, _, h, _ => absurd h (Nat.not_lt_zero _)
  | k + 1, i, out, hi, h, ho => by
    rw [iter_s]
    by_cases hl : i < s.length
    · obtain ⟨h3, h4, h5⟩ := hx (s[i]'hl)
      have hn : ln s.length := by simp only [ln]; omega
      have ih := vhex_loop hs h2 k (i + 1) (out ++ hex2 (s[i]'hl).toNat) (by omega) (by omega) (by simp only [List.length_append, hex2, List.length_cons, List.length_nil]; omega)
      simp only [vhex_0, wr_succ hl hn, bat_nat hl, inb_t hl, h3, h4, h5, ih, h2]
      rw [decide_eq_true (show (i : Int) < (s.length : Int) by omega), decide_eq_true (show out.length + 2 ≤ maxApp by simp only [maxApp]; omega), drop_cons hl]
      simp only [chk, cond_t, hexs, List.flatMap_cons, List.append_assoc]
    · simp only [vhex_0, h2]
      rw [decide_eq_false (show ¬ (i : Int) < (s.length : Int) by omega), List.drop_eq_nil_of_le (by omega)]
      simp [hexs]
theorem vhex_ok : FnOk Tryd.prog elT glT 42 [.str] [.str] vhex_F := .fin 0 vhex_run fun s r hb hx => ⟨3001, by
  simp only [vhex_F, vhex] at hx
  by_cases hs : s.length ≤ 3000
  · rw [decide_eq_true hs] at hx
    simp only [vhex_body]
    exact (vhex_loop (b := some) hs (fun _ _ => rfl) 3001 0 [] (Nat.zero_le _) (by omega) (by simp)).trans hx
  · rw [decide_eq_false hs] at hx
    cases hx⟩
/-! ## decimal -/
def dch (d : Int) : UInt8 := UInt8.ofNat (48 + d).toNat
def txt (l : List Int) : Str := (l.map dch).reverse
def numT (n : Int) : Str := let t := if n = 0 then [48] else txt (digs n.natAbs)
  if n < 0 then 45 :: t else t
theorem txt_cons (d : Int) (l : List Int) : txt (d :: l) = txt l ++ [dch d] := by simp [txt]
theorem dch_u {d : Int} (h : 0 ≤ d ∧ d ≤ 9) : UInt8.ofNat ((wr .u8 (wr .u64 (48 + d))) : Int).toNat = dch d := by
  have e : wr .u8 (wr .u64 (48 + d)) = 48 + d := by
    rw [wru_id (by omega)]
    simp only [wr, IntKind.wrap, IntKind.bits, IntKind.signed]
    simp
    omega
  rw [e]; rfl
theorem txt_len (l : List Int) : (txt l).length = l.length := by simp [txt]
theorem txt_step (n : Int) : txt (digs (n.natAbs / 10)) ++ [dch ((n.natAbs % 10 : Nat) : Int)] = if n = 0 then [48] else txt (digs n.natAbs) := by
  by_cases h0 : n = 0
  · subst h0
    rw [if_pos rfl, show (0 : Int).natAbs / 10 = 0 from rfl, digs_zero]
    rfl
  · rw [if_neg h0, digs_pos (n := n.natAbs) (by omega), txt_cons]
/-! ## exchequer/value.digits -/
def vdigits_0_sg : Sig := ⟨32, [(0, .int .i64), (3, .sl .byte true), (4, .int .u64)], [], [], 0, 0, 0, [], []⟩
abbrev vdigits_0_V := Int × List UInt8 × Int
def vdigits_0 {R : Type} (rec : vdigits_0_V → Option R) (kx : Ex → vdigits_0_V → Option R) (v : vdigits_0_V) : Option R := match v with
 | (v, v1, v2) =>
  cond (decide (0 < v2)) (
   chk (decide (1 + v1.length ≤ maxApp)) (
    rec (v, ([(UInt8.ofNat ((wr .u8 (wr .u64 (48 + (Int.tmod v2 10)))) : Int).toNat)] ++ v1), (wr .u64 (Int.tdiv v2 10))))) (
   kx (.exit 0) (v, v1, v2))
def vdigits_px (R : Type) (k : Nat) : Px R := ⟨ttOf ttL, glT, callT [(77, callOr [.int .i64] [.int .u64] vsize_F)], callQT [], loopT [(3, loopOr k vdigits_0_sg (vdigits_0))]⟩
theorem vdigits_0_eq (R : Type) (k : Nat) : ∀ (fr : List Fr) (rec : vdigits_0_V → Option R) (kx : Ex → vdigits_0_V → Option R) (v : vdigits_0_V), round (vdigits_px R k) vdigits_0_sg (lp Tryd.f40 0) fr rec kx v = vdigits_0 rec kx v
  | fr, rec, kx, (v, v1, v2) => by kernel_rfl
def vdigits_body (k : Nat) (x : HV [.int .i64]) : Option (HV [.str]) := match x with
 | n =>
  iter (fun rec => vdigits_0 rec (fun e vz => match vz with | (v3, v4, _) => match e with
   | .exit 0 =>
    cond (decide (v3 < 0)) (
     chk (decide ([45].length + v4.length ≤ maxStr)) (
      some ([45] ++ v4))) (
     some v4)
   | _ => none)) k (n, [(UInt8.ofNat ((wr .u8 (wr .u64 (48 + (Int.tmod (vsize n) 10)))) : Int).toNat)], (wr .u64 (Int.tdiv (vsize n) 10)))
theorem vdigits_eq (k : Nat) : ∀ (x : HV [.int .i64]), runF (vdigits_px _ k) Tryd.f40 [.int .i64] [.str] x some = vdigits_body k x
  | n => by kernel_rfl
theorem vdigits_run (k : Nat) : FnOk Tryd.prog elT glT 40 [.int .i64] [.str] (vdigits_body k) := by
  refine fnOk_run Tryd.func40 rfl (by kernel_rfl) follows (by kernel_rfl) (n := 1) (by kernel_rfl) (px := vdigits_px _ k) (fun cx hP hel hgl => ?_) (vdigits_eq k)
  have hp0 : PxOk cx (vdigits_px (HV [.str]) k) := ⟨fun t => by rw [hP, hel]; exact tt_ok ttL_ok t, by rw [hgl]; rfl⟩
  have hc0 : CallOk cx (vdigits_px (HV [.str]) k) := callT_ok rfl (cfs_cons (cf_or (by rw [hP, hel, hgl]; exact vsize_ok) (by kernel_rfl)) cfs_nil)
  have hq0 : CallQOk cx (vdigits_px (HV [.str]) k) := callQT_ok rfl cqfs_nil
  have hlvdigits_0 : LoopOk cx (vdigits_px (HV [.str]) k) (lp Tryd.f40 0) := loop_ok hp0 hc0 hq0 (by rw [hP]; exact follows) (k := k) (s := vdigits_0_sg) (step := vdigits_0) (fun _ _ => by kernel_rfl) (by kernel_rfl) (vdigits_0_eq _ k) (loops_in (n := 0) (by kernel_rfl) all0)
  exact ⟨hp0, hc0, hq0, (allS all0 hlvdigits_0)⟩
abbrev vdigits (n : Int) : Str := numT n
def vdigits_F : FT [.int .i64] [.str] := fun x => some (vdigits x)
theorem absZ {n : Int} (h : inI n) : vsize n = (n.natAbs : Int) := by
  rw [vsize_z h]
  simp only [absI]
  split <;> omega
theorem vdigits_loop {R : Type} {kx : Ex → vdigits_0_V → Option R} {n : Int} {b : Str → Option R} (h2 : ∀ out x, kx (.exit 0) (n, out, x) = b out) : ∀ (k a : Nat) (out : Str), (a : Int) ≤ 18446744073709551615 → (digs a).length < k → out.length + (digs a).length ≤ 1000 → iter (fun rec => vdigits_0 rec kx) k (n, out, (a : Int)) = b (txt (digs a) ++ out)
  | 0, a, out, _, h, _ => absurd h (Nat.not_lt_zero _)
  | k + 1, a, out, ha, h, ho => by
    rw [iter_s]
    by_cases h0 : a = 0
    · subst h0
      simp only [vdigits_0, h2]
      rw [decide_eq_false (by omega), digs_zero]
      rfl
    · have hd := digs_pos h0
      rw [hd, List.length_cons] at h ho
      have e1 : Int.tmod (a : Int) 10 = ((a % 10 : Nat) : Int) := rfl
      have e2 : wr .u64 (Int.tdiv (a : Int) 10) = ((a / 10 : Nat) : Int) := by
        have : Int.tdiv (a : Int) 10 = ((a / 10 : Nat) : Int) := rfl
        rw [this, wru_id (by omega)]
      have ih := vdigits_loop h2 k (a / 10) ([dch ((a % 10 : Nat) : Int)] ++ out) (by omega) (by omega) (by simp only [List.length_append, List.length_cons, List.length_nil]; omega)
      simp only [vdigits_0, e1, e2, dch_u (show 0 ≤ ((a % 10 : Nat) : Int) ∧ ((a % 10 : Nat) : Int) ≤ 9 by omega), ih]
      rw [decide_eq_true (show (0 : Int) < (a : Int) by omega), decide_eq_true (show 1 + out.length ≤ maxApp by simp only [maxApp]; omega), hd, txt_cons]
      simp [chk]
theorem vdigits_ok : FnOk Tryd.prog elT glT 40 [.int .i64] [.str] vdigits_F := .fin 0 vdigits_run fun n r hb hx => ⟨30, by
  have hb := inK_i64 hb
  simp only [vdigits_F, Option.some.injEq] at hx
  subst hx
  have hl : (digs (n.natAbs / 10)).length ≤ 20 := digs_len 20 _ (by
    simp only [inI] at hb
    have : pw 20 = 100000000000000000000 := by kernel_rfl
    omega)
  have e1 : Int.tmod (n.natAbs : Int) 10 = ((n.natAbs % 10 : Nat) : Int) := rfl
  have e2 : wr .u64 (Int.tdiv (n.natAbs : Int) 10) = ((n.natAbs / 10 : Nat) : Int) := by
    have : Int.tdiv (n.natAbs : Int) 10 = ((n.natAbs / 10 : Nat) : Int) := rfl
    simp only [inI] at hb
    rw [this, wru_id (by omega)]
  simp only [vdigits_body, absZ hb, e1, e2, dch_u (show 0 ≤ ((n.natAbs % 10 : Nat) : Int) ∧ ((n.natAbs % 10 : Nat) : Int) ≤ 9 by omega)]
  refine (vdigits_loop (b := fun out => cond (decide (n < 0)) (chk (decide ([45].length + out.length ≤ maxStr)) (some ([45] ++ out))) (some out)) (fun _ _ => rfl) 30 (n.natAbs / 10) [dch ((n.natAbs % 10 : Nat) : Int)] (by simp only [inI] at hb; omega) (by omega) (by simp only [List.length_cons, List.length_nil]; omega)).trans ?_
  have et := txt_step n
  have hlen : (txt (digs (n.natAbs / 10)) ++ [dch ((n.natAbs % 10 : Nat) : Int)]).length ≤ 21 := by
    rw [List.length_append, txt_len]; simp only [List.length_cons, List.length_nil]; omega
  have hc : decide ([45].length + (txt (digs (n.natAbs / 10)) ++ [dch ((n.natAbs % 10 : Nat) : Int)]).length ≤ maxStr) = true := decide_eq_true (by simp only [List.length_cons, List.length_nil, maxStr]; omega)
  simp only [hc, chk, cond_t]
  rw [et]
  simp only [vdigits, numT]
  by_cases h : n < 0
  · rw [decide_eq_true h, if_pos h]; rfl
  · rw [decide_eq_false h, if_neg h]; rfl⟩
/-! ## a text between signs -/
def quo : Str → Str
  | [] => []
  | b :: l => if b = 39 then 39 :: 39 :: quo l else b :: quo l
theorem quo_len (s : Str) : (quo s).length ≤ 2 * s.length := by
  induction s with
  | nil => simp [quo]
  | cons b l ih =>
    simp only [quo]
    split <;> simp only [List.length_cons] <;> omega
theorem quo_index : ∀ s : Str, (Lib.index s [39] = -1 ∧ quo s = s) ∨ ∃ i : Nat, Lib.index s [39] = (i : Int) ∧ i < s.length ∧ quo s = s.take i ++ [39, 39] ++ quo (s.drop (i + 1))
  | [] => .inl ⟨rfl, rfl⟩
  | b :: l => by
    by_cases h : b = 39
    · subst h
      refine .inr ⟨0, rfl, by simp, by simp [quo]⟩
    · have hp : List.isPrefixOf [39] (b :: l) = false := by
        simp only [List.isPrefixOf, Bool.and_true]
        exact beq_eq_false_iff_ne.2 (Ne.symm h)
      rcases quo_index l with ⟨h1, h2⟩ | ⟨i, h1, h2, h3⟩
      · left
        refine ⟨?_, by simp only [quo, if_neg h, h2]⟩
        unfold Lib.index
        rw [hp, h1]
        rfl
      · right
        refine ⟨i + 1, ?_, by simpa using h2, ?_⟩
        · unfold Lib.index
          rw [hp, h1]
          have : ((i : Int) == -1) = false := beq_eq_false_iff_ne.2 (by omega)
          simp [this]
        · simp only [quo, if_neg h, h3, List.take_succ_cons, List.drop_succ_cons, List.cons_append]
theorem quo_count : ∀ (f : Nat) (s : Str), s.length < f → Lib.replaceK [39] [39, 39] (Lib.countFrom [39] f s) s = quo s
  | 0, s, h => absurd h (Nat.not_lt_zero _)
  | f + 1, s, h => by
    rcases quo_index s with ⟨h1, h2⟩ | ⟨i, h1, h2, h3⟩
    · simp only [Lib.countFrom, h1]
      exact h2.symm
    · have hn : ((i : Int) == -1) = false := beq_eq_false_iff_ne.2 (by omega)
      have ih := quo_count f (s.drop (i + 1)) (by rw [List.length_drop]; omega)
      have e : Lib.countFrom [39] (f + 1) s = Lib.countFrom [39] f (s.drop (i + 1)) + 1 := by
        simp only [Lib.countFrom, h1, hn, Int.toNat_natCast, List.length_cons, List.length_nil]
        simp [Nat.add_comm]
      rw [e, Lib.replaceK_hit _ _ _ _ i h1]
      simp only [List.length_cons, List.length_nil, Nat.zero_add]
      rw [ih, h3]
theorem quo_all (s : Str) : Lib.replaceAll s [39] [39, 39] = quo s := by
  have e : Lib.replaceNum s [39] (-1) = Lib.countFrom [39] (s.length + 1) s := by
    unfold Lib.replaceNum
    rw [if_pos (.inl (by decide))]
    rfl
  have hc := quo_count (s.length + 1) s (by omega)
  rw [← e] at hc
  exact hc
theorem repAll_quo {s : Str} (h : s.length ≤ 3000) : repAll s [39] [39, 39] = some (quo s) := by
  have h1 := Lib.countB_mul_le ⟨#[39]⟩ (by decide) s.length ⟨s.toArray⟩ (Nat.le_refl _)
  have h2 : Lib.count s [39] * 1 ≤ s.length := h1
  have h3 := quo_len s
  simp only [repAll, quo_all]
  rw [decide_eq_true (show s.length < 4294967281 by omega), decide_eq_true (show 1 ≤ ([39] : Str).length by decide), decide_eq_true (show s.length + Lib.count s [39] * ([39, 39] : Str).length ≤ 140737488355328 by simp only [List.length_cons, List.length_nil]; omega), decide_eq_true (show (quo s).length ≤ maxLen by simp only [maxLen]; omega)]
  rfl
/-! ## exchequer/value.Print -/
def vprint_px (R : Type) : Px R := ⟨ttOf ttL, glT, callT [(39, callOr [.sv .val] [.bool] vright_F), (40, callOr [.int .i64] [.str] vdigits_F), (41, callOr [.str, .str, .str] [.str] repAll_F), (42, callOr [.str] [.str] vhex_F)], callQT [], loopT []⟩
def vprint_body (x : HV [.sv .val]) : Option (HV [.str]) := match x with
 | v =>
  cond (!(vright v)) (
   some []) (
   cond (decide (v.kind = 2)) (
    chk (inb v.n 2) (
     some (at' .str [[70, 65, 76, 83, 69], [84, 82, 85, 69]] v.n))) (
    cond (decide (v.kind = 3)) (
     some (vdigits v.n)) (
     cond (decide (v.kind = 4)) (
      (repAll v.s [39] [39, 39]).bind fun x =>
       chk (decide ([39].length + x.length ≤ maxStr)) (
        chk (decide (([39] ++ x).length + [39].length ≤ maxStr)) (
         some (([39] ++ x) ++ [39])))) (
      cond (decide (v.kind = 5)) (
       (vhex v.s).bind fun x1 =>
        chk (decide ([120, 39].length + x1.length ≤ maxStr)) (
         chk (decide (([120, 39] ++ x1).length + [39].length ≤ maxStr)) (
          some (([120, 39] ++ x1) ++ [39])))) (
       some [78, 85, 76, 76])))))
theorem vprint_eq : ∀ (x : HV [.sv .val]), runF (vprint_px _) Tryd.f15 [.sv .val] [.str] x some = vprint_body x
  | v => by kernel_rfl
theorem vprint_run : FnOk Tryd.prog elT glT 15 [.sv .val] [.str] (vprint_body) := by
  refine fnOk_run Tryd.func15 rfl (by kernel_rfl) follows (by kernel_rfl) (n := 0) (by kernel_rfl) (px := vprint_px _) (fun cx hP hel hgl => ?_) (vprint_eq)
  have hp0 : PxOk cx (vprint_px (HV [.str])) := ⟨fun t => by rw [hP, hel]; exact tt_ok ttL_ok t, by rw [hgl]; rfl⟩
  have hc0 : CallOk cx (vprint_px (HV [.str])) := callT_ok rfl (cfs_cons (cf_or (by rw [hP, hel, hgl]; exact vright_ok) (by kernel_rfl)) (cfs_cons (cf_or (by rw [hP, hel, hgl]; exact vdigits_ok) (by kernel_rfl)) (cfs_cons (cf_or (by rw [hP, hel, hgl]; exact repAll_ok) (by kernel_rfl)) (cfs_cons (cf_or (by rw [hP, hel, hgl]; exact vhex_ok) (by kernel_rfl)) cfs_nil))))
  have hq0 : CallQOk cx (vprint_px (HV [.str])) := callQT_ok rfl cqfs_nil
  exact ⟨hp0, hc0, hq0, all0⟩
def vprint (v : Val) : Str := cond (vright v) (if v.kind = 2 then (if v.n = 0 then [70, 65, 76, 83, 69] else [84, 82, 85, 69]) else if v.kind = 3 then numT v.n else if v.kind = 4 then 39 :: (quo v.s ++ [39]) else if v.kind = 5 then 120 :: 39 :: (hexs v.s ++ [39]) else [78, 85, 76, 76]) []
def vprint_F : FT [.sv .val] [.str] := fun x => some (vprint x)
theorem right_len {v : Val} (h : vright v = true) (hk : v.kind = 4 ∨ v.kind = 5) : v.s.length ≤ 1000 := by
  rcases hk with h4 | h5
  · simp [vright, h4] at h
    omega
  · simp [vright, h5] at h
    omega
theorem right_bool {v : Val} (h : vright v = true) (hk : v.kind = 2) : v.n = 0 ∨ v.n = 1 := by
  by_cases h0 : v.n = 0
  · exact .inl h0
  · by_cases h1 : v.n = 1
    · exact .inr h1
    · simp [vright, hk, h0, h1] at h
theorem vprint_ok : FnOk Tryd.prog elT glT 15 [.sv .val] [.str] vprint_F := .fin0 vprint_run fun v r _ hx => by
  simp only [vprint_F, Option.some.injEq] at hx
  subst hx
  simp only [vprint_body, vprint]
  cases hr : vright v with
  | false => rfl
  | true =>
    simp only [Bool.not_true, cond_f, cond_t]
    by_cases k2 : v.kind = 2
    · rw [decide_eq_true k2, if_pos k2]
      rcases right_bool hr k2 with h | h <;> rw [h] <;> rfl
    · rw [decide_eq_false k2, if_neg k2]
      by_cases k3 : v.kind = 3
      · rw [decide_eq_true k3, if_pos k3]; rfl
      · rw [decide_eq_false k3, if_neg k3]
        by_cases k4 : v.kind = 4
        · have hl := right_len hr (.inl k4)
          have hq := quo_len v.s
          rw [decide_eq_true k4, if_pos k4]
          simp only [cond_t, cond_f, repAll_quo (show v.s.length ≤ 3000 by omega), Option.bind_some]
          refine (chk_t (decide_eq_true ?_)).trans ((chk_t (decide_eq_true ?_)).trans rfl)
          · simp only [List.length_cons, List.length_nil, maxStr]; omega
          · simp only [List.length_append, List.length_cons, List.length_nil, maxStr]; omega
        · rw [decide_eq_false k4, if_neg k4]
          by_cases k5 : v.kind = 5
          · have hl := right_len hr (.inr k5)
            have hh := hexs_len v.s
            have hv : vhex v.s = some (hexs v.s) := by simp only [vhex]; rw [decide_eq_true (by omega)]; rfl
            rw [decide_eq_true k5, if_pos k5]
            simp only [cond_t, cond_f, hv, Option.bind_some]
            refine (chk_t (decide_eq_true ?_)).trans ((chk_t (decide_eq_true ?_)).trans rfl)
            · simp only [List.length_cons, List.length_nil, maxStr]; omega
            · simp only [List.length_append, List.length_cons, List.length_nil, maxStr]; omega
          · rw [decide_eq_false k5, if_neg k5]; rfl
end Go.Proofs.YtjpcghlpkinahaaDoor

/- How many expressions an expression of a kind is made of. -/
namespace Go.Proofs.YtjpcghlpkinahaaDoor
open Go.Ax
/-! ## exchequer/ast.parts -/
def parts_px (R : Type) : Px R := ⟨ttOf ttL, glT, callT [], callQT [], loopT []⟩
def parts_body (x : HV [.int .i64]) : Option (HV [.int .i64]) := match x with
 | kind =>
  let j1 := fun (p1 : Bool) =>
   cond (p1) (
    some 0) (
    let j := fun (p5 : Bool) =>
     cond (p5) (
      some 1) (
      cond (!decide ((mget signsL kind) = [])) (
       some 2) (
       some (-1)))
    cond (decide (kind = 3)) (
     j true) (
     cond (decide (kind = 15)) (
      j true) (
      j (decide (kind = 16)))))
  cond (decide (kind = 1)) (
   j1 true) (
   j1 (decide (kind = 2)))
theorem parts_eq : ∀ (x : HV [.int .i64]), runF (parts_px _) Tryd.f87 [.int .i64] [.int .i64] x some = parts_body x
  | kind => by kernel_rfl
theorem parts_run : FnOk Tryd.prog elT glT 87 [.int .i64] [.int .i64] (parts_body) := by
  refine fnOk_run Tryd.func87 rfl (by kernel_rfl) follows (by kernel_rfl) (n := 0) (by kernel_rfl) (px := parts_px _) (fun cx hP hel hgl => ?_) (parts_eq)
  have hp0 : PxOk cx (parts_px (HV [.int .i64])) := ⟨fun t => by rw [hP, hel]; exact tt_ok ttL_ok t, by rw [hgl]; rfl⟩
  have hc0 : CallOk cx (parts_px (HV [.int .i64])) := callT_ok rfl cfs_nil
  have hq0 : CallQOk cx (parts_px (HV [.int .i64])) := callQT_ok rfl cqfs_nil
  exact ⟨hp0, hc0, hq0, all0⟩
def parts (kind : Int) : Int :=
  let j1 := fun (p1 : Bool) =>
   cond (p1) (
    0) (
    let j := fun (p5 : Bool) =>
     cond (p5) (
      1) (
      cond (!decide ((mget signsL kind) = [])) (
       2) (
       (-1)))
    cond (decide (kind = 3)) (
     j true) (
     cond (decide (kind = 15)) (
      j true) (
      j (decide (kind = 16)))))
  cond (decide (kind = 1)) (
   j1 true) (
   j1 (decide (kind = 2)))
theorem parts_tot (x : HV [.int .i64]) : parts_body x = some (parts x) := by
  first
    | exact rfl
    | simp only [parts_body, parts, cond_some]
def parts_F : FT [.int .i64] [.int .i64] := fun x => some (parts x)
theorem parts_ok : FnOk Tryd.prog elT glT 87 [.int .i64] [.int .i64] parts_F := .fin0 parts_run fun x _ _ hx => (parts_tot x).trans hx
end Go.Proofs.YtjpcghlpkinahaaDoor

/- Functions that call themselves: whether an expression may be, its kind, its value, how much there is in it. -/
namespace Go.Proofs.YtjpcghlpkinahaaDoor
open Go.Ax
mutual
def esize : Xpr → Nat
  | .mk _ _ _ l => 1 + esizes l
def esizes : List Xpr → Nat
  | [] => 0
  | x :: l => 1 + esize x + esizes l
end
theorem esize_mem : ∀ {l : List Xpr} {x : Xpr}, x ∈ l → esize x < esizes l
  | y :: l, x, h => by
    simp only [List.mem_cons] at h
    simp only [esizes]
    rcases h with rfl | h
    · omega
    · have := esize_mem h; omega
theorem esizes_len : ∀ (l : List Xpr), l.length ≤ esizes l
  | [] => by simp
  | x :: l => by have := esizes_len l; simp only [esizes, List.length_cons]; omega
theorem esize_pos (e : Xpr) : 0 < esize e := by cases e; simp only [esize]; omega
theorem expr_eta (e : Xpr) : Xpr.mk e.kind ⟨e.v.kind, e.v.n, e.v.s⟩ e.name e.l = e := by cases e; rfl
theorem esize_eq (e : Xpr) : esize e = 1 + esizes e.l := by cases e; simp only [esize, Xpr.l]
theorem bd_ls {e : Xpr} (h : BdExpr e) : ln e.l.length ∧ ∀ x, x ∈ e.l → BdExpr x := by
  obtain ⟨_, _, _, _, _, _, _, h4, h5⟩ := h
  exact ⟨h4, h5⟩
theorem bd_v {e : Xpr} (h : BdExpr e) : BdVal e.v ∧ inI e.kind ∧ ln e.name.length := by
  obtain ⟨_, _, _, _, h1, h2, h3, _, _⟩ := h
  exact ⟨h2, h1, h3⟩
/-! ## may it be? -/
/-! ## exchequer/ast.right -/
def eright_0_sg : Sig := ⟨19, [(0, .sl .expr false), (4, .int .i64), (7, .int .i64), (8, .int .i64)], [(1, .fn 89 [.ptr 1 0])], [(1, .cells [.int .i64])], 80, 80, 400, [], []⟩
abbrev eright_0_V := List Xpr × Int × Int × Int × Int
def eright_0 {R : Type} (rf : FT [.sv .expr, .int .i64] [.bool]) (rec : eright_0_V → Option R) (kx : Ex → eright_0_V → Option R) (v : eright_0_V) : Option R := match v with
 | (v, v1, v2, v3, w) =>
  cond (decide (v3 < v2)) (
   chk (inb v3 v.length) (
    (rf ((at' .expr v v3), (wr .i64 (w - 1)))).bind fun x =>
     cond (!x) (
      kx .ret (v, v3, v2, v3, w)) (
      rec (v, v1, v2, (wr .i64 (v3 + 1)), w)))) (
   kx (.exit 0) (v, v1, v2, v3, w))
def eright_pxi0i0i0 (R : Type) (_k : Nat) (rf : FT [.sv .expr, .int .i64] [.bool]) : Px R := ⟨ttOf ttL, glT, callT [(45, callOr [.sv .expr, .int .i64] [.bool] rf)], callQT [], loopT []⟩
noncomputable def eright_pxi0i0 (R : Type) (k : Nat) (rf : FT [.sv .expr, .int .i64] [.bool]) : Px R := ⟨ttOf ttL, glT, callT [(89, callRun 120 600 (eright_pxi0i0i0 R k rf) Tryd.f89)], callQT [], loopT [(2, loopOr k eright_0_sg (eright_0 rf))]⟩
noncomputable def eright_pxi0 (R : Type) (k : Nat) (rf : FT [.sv .expr, .int .i64] [.bool]) : Px R := ⟨ttOf ttL, glT, callT [(109, callRun 80 400 (eright_pxi0i0 R k rf) Tryd.f109)], callQT [], loopT []⟩
noncomputable def eright_px (R : Type) (k : Nat) (rf : FT [.sv .expr, .int .i64] [.bool]) : Px R := ⟨ttOf ttL, glT, callT [(17, callOr [.sv .val] [.int .i64] vcheck_F), (12, callOr [.str] [.bool] lname_F), (88, callRun 40 200 (eright_pxi0 R k rf) Tryd.f88)], callQT [(87, callOrQ [.int .i64] [.int .i64] parts_F)], loopT []⟩
theorem eright_0_eq (R : Type) (k : Nat) (rf : FT [.sv .expr, .int .i64] [.bool]) : ∀ (fr : List Fr) (rec : eright_0_V → Option R) (kx : Ex → eright_0_V → Option R) (v : eright_0_V), round (eright_pxi0i0 R k rf) eright_0_sg (lp Tryd.f109 0) fr rec kx v = eright_0 rf rec kx v
  | fr, rec, kx, (v, v1, v2, v3, w) => by kernel_rfl
def eright_body (k : Nat) (rf : FT [.sv .expr, .int .i64] [.bool]) (x : HV [.sv .expr, .int .i64]) : Option (HV [.bool]) := match x with
 | (e, most) =>
  cond (decide (most = 0)) (
   some false) (
   cond (!decide ((e.l.length : Int) = (parts e.kind))) (
    some false) (
    let j2 := fun (_ : Unit) =>
     let j1 := fun (_ : Unit) =>
      iter (fun rec => eright_0 rf rec (fun e vz => match vz with | (_, v5, _, _, _) => match e with
       | .ret =>
        some (!(decide (0 ≤ v5)))
       | .exit 0 =>
        some true
       | _ => none)) k (e.l, 0, (e.l.length : Int), 0, most)
     let j := fun (p5 : Bool) =>
      cond (p5) (
       some false) (
       cond (!decide (e.kind = 2)) (
        cond (!decide (e.name = [])) (
         some false) (
         j1 ())) (
        j1 ()))
     cond (decide (e.kind = 2)) (
      j (!(lname e.name))) (
      j false)
    cond (decide (e.kind = 1)) (
     cond (!decide ((vcheck e.v) = 0)) (
      some false) (
      cond (decide (e.v.kind = 3)) (
       cond (decide (e.v.n < 0)) (
        some false) (
        j2 ())) (
       j2 ()))) (
     cond (!decide (e.v = (Val.mk 0 0 []))) (
      some false) (
      j2 ()))))
theorem eright_eq (k : Nat) (rf : FT [.sv .expr, .int .i64] [.bool]) : ∀ (x : HV [.sv .expr, .int .i64]), runF (eright_px _ k rf) Tryd.f45 [.sv .expr, .int .i64] [.bool] x some = eright_body k rf x
  | (e, most) => by kernel_rfl
theorem eright_run (k : Nat) (rf : FT [.sv .expr, .int .i64] [.bool]) (hrf : FnOk Tryd.prog elT glT 45 [.sv .expr, .int .i64] [.bool] rf) : FnOk Tryd.prog elT glT 45 [.sv .expr, .int .i64] [.bool] (eright_body k rf) := by
  refine fnOk_run Tryd.func45 rfl (by kernel_rfl) follows (by kernel_rfl) (n := 0) (by kernel_rfl) (px := eright_px _ k rf) (fun cx hP hel hgl => ?_) (eright_eq k rf)
  have hp3 : PxOk cx (eright_pxi0i0i0 (HV [.bool]) k rf) := ⟨fun t => by rw [hP, hel]; exact tt_ok ttL_ok t, by rw [hgl]; rfl⟩
  have hc3 : CallOk cx (eright_pxi0i0i0 (HV [.bool]) k rf) := callT_ok rfl (cfs_cons (cf_or (by rw [hP, hel, hgl]; exact hrf) (by kernel_rfl)) cfs_nil)
  have hq3 : CallQOk cx (eright_pxi0i0i0 (HV [.bool]) k rf) := callQT_ok rfl cqfs_nil
  have hp2 : PxOk cx (eright_pxi0i0 (HV [.bool]) k rf) := ⟨fun t => by rw [hP, hel]; exact tt_ok ttL_ok t, by rw [hgl]; rfl⟩
  have hc2 : CallOk cx (eright_pxi0i0 (HV [.bool]) k rf) := callT_ok rfl (cfs_cons (cf_run hp3 hc3 hq3 (by rw [hP]; exact follows) (by rw [hP]; exact Tryd.func89) rfl (by kernel_rfl) (by kernel_rfl) (n := 0) (by kernel_rfl) (all0)) cfs_nil)
  have hq2 : CallQOk cx (eright_pxi0i0 (HV [.bool]) k rf) := callQT_ok rfl cqfs_nil
  have hleright_0 : LoopOk cx (eright_pxi0i0 (HV [.bool]) k rf) (lp Tryd.f109 0) := loop_ok hp2 hc2 hq2 (by rw [hP]; exact follows) (k := k) (s := eright_0_sg) (step := eright_0 rf) (fun _ _ => by kernel_rfl) (by kernel_rfl) (eright_0_eq _ k rf) (loops_in (n := 0) (by kernel_rfl) all0)
  have hp1 : PxOk cx (eright_pxi0 (HV [.bool]) k rf) := ⟨fun t => by rw [hP, hel]; exact tt_ok ttL_ok t, by rw [hgl]; rfl⟩
  have hc1 : CallOk cx (eright_pxi0 (HV [.bool]) k rf) := callT_ok rfl (cfs_cons (cf_run hp2 hc2 hq2 (by rw [hP]; exact follows) (by rw [hP]; exact Tryd.func109) rfl (by kernel_rfl) (by kernel_rfl) (n := 1) (by kernel_rfl) ((allS all0 hleright_0))) cfs_nil)
  have hq1 : CallQOk cx (eright_pxi0 (HV [.bool]) k rf) := callQT_ok rfl cqfs_nil
  have hp0 : PxOk cx (eright_px (HV [.bool]) k rf) := ⟨fun t => by rw [hP, hel]; exact tt_ok ttL_ok t, by rw [hgl]; rfl⟩
  have hc0 : CallOk cx (eright_px (HV [.bool]) k rf) := callT_ok rfl (cfs_cons (cf_or (by rw [hP, hel, hgl]; exact vcheck_ok) (by kernel_rfl)) (cfs_cons (cf_or (by rw [hP, hel, hgl]; exact lname_ok) (by kernel_rfl)) (cfs_cons (cf_run hp1 hc1 hq1 (by rw [hP]; exact follows) (by rw [hP]; exact Tryd.func88) rfl (by kernel_rfl) (by kernel_rfl) (n := 0) (by kernel_rfl) (all0)) cfs_nil)))
  have hq0 : CallQOk cx (eright_px (HV [.bool]) k rf) := callQT_ok rfl (cqfs_cons (cqf_or (by rw [hP, hel, hgl]; exact parts_ok) (by kernel_rfl)) cqfs_nil)
  exact ⟨hp0, hc0, hq0, all0⟩
def eok (k : Int) (v : Val) (nm : Str) : Bool := cond (decide (k = 1)) (decide (vcheck v = 0) && !(decide (v.kind = 3) && decide (v.n < 0))) (decide (v = ⟨0, 0, []⟩)) && cond (decide (k = 2)) (lname nm) (decide (nm = []))
mutual
def eright : Xpr → Int → Bool
  | .mk k v nm l, m => !decide (m = 0) && decide ((l.length : Int) = parts k) && eok k v nm && erights l (wr .i64 (m - 1))
def erights : List Xpr → Int → Bool
  | [], _ => true
  | x :: l, m => eright x m && erights l m
end
def eright_F : FT [.sv .expr, .int .i64] [.bool] := fun x => some (eright x.1 x.2)
theorem eright_loop {R : Type} {rf : FT [.sv .expr, .int .i64] [.bool]} {kx : Ex → eright_0_V → Option R} {l : List Xpr} {m : Int} {a b : Option R} (hn : ln l.length) (hrf : ∀ x, x ∈ l → rf (x, wr .i64 (m - 1)) = some (eright x (wr .i64 (m - 1)))) (h1 : ∀ (j : Nat), kx .ret (l, (j : Int), (l.length : Int), (j : Int), m) = a) (h2 : ∀ q j, kx (.exit 0) (l, q, (l.length : Int), j, m) = b) : ∀ (k i : Nat) q, i ≤ l.length → l.length - i < k → iter (fun rec => eright_0 rf rec kx) k (l, q, (l.length : Int), (i : Int), m) = cond (erights (l.drop i) (wr .i64 (m - 1))) b a
  | 0, i, q, _, h => by omega
  | k + 1, i, q, hi, h => by
    rw [iter_s]
    by_cases hl : i < l.length
    · have ih := eright_loop hn hrf h1 h2 k (i + 1) q (by omega) (by omega)
      simp only [eright_0, wr_succ hl hn, ih, h1, drop_cons hl, at_nat (c := .expr) hl, inb_t hl, chk, cond_t, Bool.cond_decide, erights, hrf _ (List.getElem_mem hl), Option.bind_some]
      rw [if_pos (by omega)]
      cases eright l[i] (wr .i64 (m - 1)) <;> rfl
    · simp only [eright_0, h2, Bool.cond_decide]
      rw [if_neg (by omega), List.drop_eq_nil_of_le (by omega)]
      rfl
theorem eright_un (e : Xpr) (m : Int) : eright e m = (!decide (m = 0) && decide ((e.l.length : Int) = parts e.kind) && eok e.kind e.v e.name && erights e.l (wr .i64 (m - 1))) := by
  cases e
  simp only [eright]
  rfl
theorem eright_all (k : Nat) : ∀ (n : Nat) (e : Xpr) (m : Int), BdExpr e → esize e ≤ n → esize e ≤ k → iter (eright_body k) n (e, m) = some (eright e m)
  | 0, e, m, _, h, _ => by have := esize_pos e; omega
  | n + 1, e, m, hb, h, hk => by
    obtain ⟨hb4, hb5⟩ := bd_ls hb
    rw [esize_eq] at h hk
    have hl := esizes_len e.l
    have hrf : ∀ x, x ∈ e.l → ∀ m, iter (eright_body k) n (x, m) = some (eright x m) := fun x hx m => eright_all k n x m (hb5 x hx) (by have := esize_mem hx; omega) (by have := esize_mem hx; omega)
    have hloop := eright_loop (R := Bool) (rf := iter (eright_body k) n) (l := e.l) (m := m) (a := some false) (b := some true) (kx := fun e v => match v with
      | (_, v5, _, _, _) => match e with
        | .ret => some (!(decide (0 ≤ v5)))
        | .exit 0 => some true
        | _ => none) hb4 (fun x hx => hrf x hx _) (fun j => by simp) (fun _ _ => rfl) k 0 0 (Nat.zero_le _) (by omega)
    have e0 : ((0 : Nat) : Int) = 0 := rfl
    rw [e0] at hloop
    rw [iter_s, eright_un]
    simp only [eright_body] at hloop ⊢
    rw [hloop]
    simp only [List.drop_zero, eok]
    by_cases hm : m = 0
    · simp [hm]
    · rw [decide_eq_false hm]
      simp only [cond_f, Bool.not_false, Bool.true_and]
      by_cases hp : (e.l.length : Int) = parts e.kind
      · rw [decide_eq_true hp]
        by_cases h1 : e.kind = 1
        · have h2 : ¬ e.kind = 2 := by omega
          rw [decide_eq_true h1, decide_eq_false h2]
          simp only [cond_t, cond_f, Bool.not_false, Bool.not_true, Bool.true_and]
          cases decide (vcheck e.v = 0) <;> cases decide (e.v.kind = 3) <;> cases decide (e.v.n < 0) <;> cases decide (e.name = []) <;> cases erights e.l (wr .i64 (m - 1)) <;> rfl
        · rw [decide_eq_false h1]
          simp only [cond_f, Bool.not_true, Bool.true_and]
          cases decide (e.v = Val.mk 0 0 []) <;> cases decide (e.kind = 2) <;> cases decide (e.name = []) <;> cases lname e.name <;> cases erights e.l (wr .i64 (m - 1)) <;> rfl
      · rw [decide_eq_false hp]; rfl
theorem eright_ok : FnOk Tryd.prog elT glT 45 [.sv .expr, .int .i64] [.bool] eright_F := by
  refine .fin (ι := Nat) 0 (F := fun n => iter (eright_body n) n) (fun n => FnOk.rec' (Sx.enters_of Tryd.func45 rfl rfl) (fun rf hrf => eright_run n rf hrf) n) fun (e, m) r hb hx => ⟨esize e, ?_⟩
  exact (eright_all (esize e) (esize e) e m hb.1 (Nat.le_refl _) (Nat.le_refl _)).trans hx
/-! ## exchequer/ast.Expr -/
def aexpr_px (R : Type) : Px R := ⟨ttOf ttL, glT, callT [(45, callOr [.sv .expr, .int .i64] [.bool] eright_F)], callQT [], loopT []⟩
def aexpr_body (x : HV [.sv .expr]) : Option (HV [.int .i64]) := match x with
 | e =>
  cond (!(eright e 30)) (
   some 2) (
   some 0)
theorem aexpr_eq : ∀ (x : HV [.sv .expr]), runF (aexpr_px _) Tryd.f31 [.sv .expr] [.int .i64] x some = aexpr_body x
  | e => by kernel_rfl
theorem aexpr_run : FnOk Tryd.prog elT glT 31 [.sv .expr] [.int .i64] (aexpr_body) := by
  refine fnOk_run Tryd.func31 rfl (by kernel_rfl) follows (by kernel_rfl) (n := 0) (by kernel_rfl) (px := aexpr_px _) (fun cx hP hel hgl => ?_) (aexpr_eq)
  have hp0 : PxOk cx (aexpr_px (HV [.int .i64])) := ⟨fun t => by rw [hP, hel]; exact tt_ok ttL_ok t, by rw [hgl]; rfl⟩
  have hc0 : CallOk cx (aexpr_px (HV [.int .i64])) := callT_ok rfl (cfs_cons (cf_or (by rw [hP, hel, hgl]; exact eright_ok) (by kernel_rfl)) cfs_nil)
  have hq0 : CallQOk cx (aexpr_px (HV [.int .i64])) := callQT_ok rfl cqfs_nil
  exact ⟨hp0, hc0, hq0, all0⟩
def aexpr (e : Xpr) : Int :=
  cond (!(eright e 30)) (
   2) (
   0)
theorem aexpr_tot (x : HV [.sv .expr]) : aexpr_body x = some (aexpr x) := by
  first
    | exact rfl
    | simp only [aexpr_body, aexpr, cond_some]
def aexpr_F : FT [.sv .expr] [.int .i64] := fun x => some (aexpr x)
theorem aexpr_ok : FnOk Tryd.prog elT glT 31 [.sv .expr] [.int .i64] aexpr_F := .fin0 aexpr_run fun x _ _ hx => (aexpr_tot x).trans hx
/-! ## how much is in it -/
/-! ## exchequer/exchequerref13.Much -/
def much1_0_sg : Sig := ⟨41, [(1, .int .i64), (5, .int .i64), (6, .int .i64)], [(2, .ptr 0 0)], [(0, .one (.sv .expr))], 1, 0, 0, [], []⟩
abbrev much1_0_V := Int × Int × Int × Xpr
def much1_0 {R : Type} (rf : FT [.sv .expr, .int .i64] [.int .i64]) (rec : much1_0_V → Option R) (kx : Ex → much1_0_V → Option R) (v : much1_0_V) : Option R := match v with
 | (v, v1, v2, w) =>
  cond (decide (v2 < (w.l.length : Int))) (
   cond (decide (v1 < v)) (
    chk (inb v2 w.l.length) (
     (rf ((at' .expr w.l v2), (wr .i64 (v - v1)))).bind fun x =>
      rec (v, (wr .i64 (v1 + x)), (wr .i64 (v2 + 1)), w))) (
    kx (.exit 0) (v, v1, v2, w))) (
   kx (.exit 0) (v, v1, v2, w))
def much1_px (R : Type) (k : Nat) (rf : FT [.sv .expr, .int .i64] [.int .i64]) : Px R := ⟨ttOf ttL, glT, callT [(18, callOr [.sv .expr, .int .i64] [.int .i64] rf)], callQT [], loopT [(3, loopOr k much1_0_sg (much1_0 rf))]⟩
theorem much1_0_eq (R : Type) (k : Nat) (rf : FT [.sv .expr, .int .i64] [.int .i64]) : ∀ (fr : List Fr) (rec : much1_0_V → Option R) (kx : Ex → much1_0_V → Option R) (v : much1_0_V), round (much1_px R k rf) much1_0_sg (lp Tryd.f18 0) fr rec kx v = much1_0 rf rec kx v
  | fr, rec, kx, (v, v1, v2, w) => by kernel_rfl
def much1_body (k : Nat) (rf : FT [.sv .expr, .int .i64] [.int .i64]) (x : HV [.sv .expr, .int .i64]) : Option (HV [.int .i64]) := match x with
 | (e, most) =>
  iter (fun rec => much1_0 rf rec (fun e vz => match vz with | (_, v4, _, _) => match e with
   | .exit 0 =>
    some v4
   | _ => none)) k (most, (wr .i64 (1 + (wr .i64 (Int.tdiv (wr .i64 ((e.v.s.length : Int) + (e.name.length : Int))) 30)))), 0, e)
theorem much1_eq (k : Nat) (rf : FT [.sv .expr, .int .i64] [.int .i64]) : ∀ (x : HV [.sv .expr, .int .i64]), runF (much1_px _ k rf) Tryd.f18 [.sv .expr, .int .i64] [.int .i64] x some = much1_body k rf x
  | (e, most) => by kernel_rfl
theorem much1_run (k : Nat) (rf : FT [.sv .expr, .int .i64] [.int .i64]) (hrf : FnOk Tryd.prog elT glT 18 [.sv .expr, .int .i64] [.int .i64] rf) : FnOk Tryd.prog elT glT 18 [.sv .expr, .int .i64] [.int .i64] (much1_body k rf) := by
  refine fnOk_run Tryd.func18 rfl (by kernel_rfl) follows (by kernel_rfl) (n := 1) (by kernel_rfl) (px := much1_px _ k rf) (fun cx hP hel hgl => ?_) (much1_eq k rf)
  have hp0 : PxOk cx (much1_px (HV [.int .i64]) k rf) := ⟨fun t => by rw [hP, hel]; exact tt_ok ttL_ok t, by rw [hgl]; rfl⟩
  have hc0 : CallOk cx (much1_px (HV [.int .i64]) k rf) := callT_ok rfl (cfs_cons (cf_or (by rw [hP, hel, hgl]; exact hrf) (by kernel_rfl)) cfs_nil)
  have hq0 : CallQOk cx (much1_px (HV [.int .i64]) k rf) := callQT_ok rfl cqfs_nil
  have hlmuch1_0 : LoopOk cx (much1_px (HV [.int .i64]) k rf) (lp Tryd.f18 0) := loop_ok hp0 hc0 hq0 (by rw [hP]; exact follows) (k := k) (s := much1_0_sg) (step := much1_0 rf) (fun _ _ => by kernel_rfl) (by kernel_rfl) (much1_0_eq _ k rf) (loops_in (n := 0) (by kernel_rfl) all0)
  exact ⟨hp0, hc0, hq0, (allS all0 hlmuch1_0)⟩
mutual
def much1 : Xpr → Int → Int
  | .mk _ v nm l, most => muchL l most (wr .i64 (1 + wr .i64 (Int.tdiv (wr .i64 ((v.s.length : Int) + (nm.length : Int))) 30)))
def muchL : List Xpr → Int → Int → Int
  | [], _, n => n
  | x :: l, most, n => cond (decide (n < most)) (muchL l most (wr .i64 (n + much1 x (wr .i64 (most - n))))) n
end
def much1_F : FT [.sv .expr, .int .i64] [.int .i64] := fun x => some (much1 x.1 x.2)
theorem much1_loop {R : Type} {rf : FT [.sv .expr, .int .i64] [.int .i64]} {kx : Ex → much1_0_V → Option R} {e : Xpr} {most : Int} {g : Int → Option R} (hn : ln e.l.length) (hrf : ∀ x, x ∈ e.l → ∀ m, rf (x, m) = some (much1 x m)) (h2 : ∀ n j, kx (.exit 0) (most, n, j, e) = g n) : ∀ (k i : Nat) n, i ≤ e.l.length → e.l.length - i < k → iter (fun rec => much1_0 rf rec kx) k (most, n, (i : Int), e) = g (muchL (e.l.drop i) most n)
  | 0, i, n, _, h => by omega
  | k + 1, i, n, hi, h => by
    rw [iter_s]
    by_cases hl : i < e.l.length
    · have ih := fun n => much1_loop hn hrf h2 k (i + 1) n (by omega) (by omega)
      simp only [much1_0, wr_succ hl hn, ih, h2, drop_cons hl, at_nat (c := .expr) hl, inb_t hl, chk, cond_t, Bool.cond_decide, muchL, hrf _ (List.getElem_mem hl), Option.bind_some]
      rw [if_pos (by omega)]
      split <;> rfl
    · simp only [much1_0, h2, Bool.cond_decide]
      rw [if_neg (by omega), List.drop_eq_nil_of_le (by omega)]
      rfl
theorem much1_all (k : Nat) : ∀ (n : Nat) (e : Xpr) (m : Int), BdExpr e → esize e ≤ n → esize e ≤ k → iter (much1_body k) n (e, m) = some (much1 e m)
  | 0, e, m, _, h, _ => by have := esize_pos e; omega
  | n + 1, .mk kd v nm l, m, hb, h, hk => by
    obtain ⟨_, _, _, _, hb1, hb2, hb3, hb4, hb5⟩ := hb
    simp only [esize] at h hk
    have hl := esizes_len l
    have hrf : ∀ x, x ∈ l → ∀ m, iter (much1_body k) n (x, m) = some (much1 x m) := fun x hx m => much1_all k n x m (hb5 x hx) (by have := esize_mem hx; omega) (by have := esize_mem hx; omega)
    rw [iter_s]
    simp only [much1_body]
    refine (much1_loop (e := .mk kd v nm l) (g := some) hb4 hrf ?_ k 0 _ (Nat.zero_le _) (by simp only [Xpr.l]; omega)).trans ?_
    · exact fun _ _ => rfl
    · simp only [much1, Xpr.l, List.drop_zero, Xpr.v, Xpr.name]
theorem much1_ok : FnOk Tryd.prog elT glT 18 [.sv .expr, .int .i64] [.int .i64] much1_F := by
  refine .fin (ι := Nat) 0 (F := fun n => iter (much1_body n) n) (fun n => FnOk.rec' (Sx.enters_of Tryd.func18 rfl rfl) (fun rf hrf => much1_run n rf hrf) n) fun (e, m) r hb hx => ⟨esize e, ?_⟩
  exact (much1_all (esize e) (esize e) e m hb.1 (Nat.le_refl _) (Nat.le_refl _)).trans hx
end Go.Proofs.YtjpcghlpkinahaaDoor

/- Expressions: are two the same; the names in one. -/
namespace Go.Proofs.YtjpcghlpkinahaaDoor
open Go.Ax
/-! ## the same? -/
mutual
def xsame : Xpr → Xpr → Bool
  | .mk k v n l, .mk k' v' n' l' => decide (k = k') && decide (v = v') && decide (n = n') && xsames l l'
def xsames : List Xpr → List Xpr → Bool
  | [], [] => true
  | x :: l, y :: m => xsame x y && xsames l m
  | _, _ => false
end
mutual
theorem xsame_iff : ∀ a b : Xpr, xsame a b = true ↔ a = b
  | .mk k v n l, .mk k' v' n' l' => by
    simp only [xsame, Bool.and_eq_true, decide_eq_true_eq, xsames_iff l l', Xpr.mk.injEq]
    constructor
    · rintro ⟨⟨⟨h1, h2⟩, h3⟩, h4⟩; exact ⟨h1, h2, h3, h4⟩
    · rintro ⟨h1, h2, h3, h4⟩; exact ⟨⟨⟨h1, h2⟩, h3⟩, h4⟩
theorem xsames_iff : ∀ a b : List Xpr, xsames a b = true ↔ a = b
  | [], [] => by simp [xsames]
  | x :: l, y :: m => by simp only [xsames, Bool.and_eq_true, xsame_iff x y, xsames_iff l m, List.cons.injEq]
  | [], _ :: _ => by simp [xsames]
  | _ :: _, [] => by simp [xsames]
end
instance : DecidableEq Xpr := fun a b => decidable_of_iff (xsame a b = true) (xsame_iff a b)
theorem xsame_dec (a b : Xpr) : xsame a b = decide (a = b) := by
  rw [Bool.eq_iff_iff, xsame_iff, decide_eq_true_eq]
theorem xsames_dec (a b : List Xpr) : xsames a b = decide (a = b) := by
  rw [Bool.eq_iff_iff, xsames_iff, decide_eq_true_eq]
theorem xsames_len {a b : List Xpr} (h : xsames a b = true) : a.length = b.length := by rw [(xsames_iff a b).1 h]
theorem xsame_un (a b : Xpr) : xsame a b = (decide (a.kind = b.kind) && decide (a.v = b.v) && decide (a.name = b.name) && xsames a.l b.l) := by
  cases a; cases b
  simp only [xsame]
  rfl
/-! ## exchequer/ast.SameExpr -/
def asame_0_sg : Sig := ⟨32, [(1, .sl .expr false), (6, .bool), (15, .sl .expr false), (16, .int .i64), (17, .int .i64)], [(2, .fn 23 [])], [], 40, 40, 200, [], []⟩
abbrev asame_0_V := List Xpr × Bool × List Xpr × Int × Int
def asame_0 {R : Type} (rf : FT [.sv .expr, .sv .expr] [.bool]) (rec : asame_0_V → Option R) (kx : Ex → asame_0_V → Option R) (v : asame_0_V) : Option R := match v with
 | (v, v1, v2, v3, v4) =>
  cond (decide (v4 < v3)) (
   chk (inb v4 v2.length) (
    chk (inb v4 v.length) (
     (rf ((at' .expr v2 v4), (at' .expr v v4))).bind fun x =>
      cond (!x) (
       kx .ret (v, false, v2, v3, v4)) (
       rec (v, v1, v2, v3, (wr .i64 (v4 + 1))))))) (
   kx (.exit 0) (v, v1, v2, v3, v4))
def asame_pxi0 (R : Type) (k : Nat) (rf : FT [.sv .expr, .sv .expr] [.bool]) : Px R := ⟨ttOf ttL, glT, callT [(23, callOr [.sv .expr, .sv .expr] [.bool] rf)], callQT [], loopT [(4, loopOr k asame_0_sg (asame_0 rf))]⟩
noncomputable def asame_px (R : Type) (k : Nat) (rf : FT [.sv .expr, .sv .expr] [.bool]) : Px R := ⟨ttOf ttL, glT, callT [(57, callRun 40 200 (asame_pxi0 R k rf) Tryd.f57)], callQT [], loopT []⟩
theorem asame_0_eq (R : Type) (k : Nat) (rf : FT [.sv .expr, .sv .expr] [.bool]) : ∀ (fr : List Fr) (rec : asame_0_V → Option R) (kx : Ex → asame_0_V → Option R) (v : asame_0_V), round (asame_pxi0 R k rf) asame_0_sg (lp Tryd.f57 0) fr rec kx v = asame_0 rf rec kx v
  | fr, rec, kx, (v, v1, v2, v3, v4) => by kernel_rfl
def asame_body (k : Nat) (rf : FT [.sv .expr, .sv .expr] [.bool]) (x : HV [.sv .expr, .sv .expr]) : Option (HV [.bool]) := match x with
 | (a, b) =>
  let j1 := fun (p : Bool) =>
   let j := fun (p1 : Bool) =>
    cond (p1) (
     cond (!decide ((a.l.length : Int) = (b.l.length : Int))) (
      some false) (
      iter (fun rec => asame_0 rf rec (fun e vz => match vz with | (_, v6, _, _, _) => match e with
       | .ret =>
        some v6
       | .exit 0 =>
        some true
       | _ => none)) k (b.l, false, a.l, (a.l.length : Int), 0))) (
     some false)
   cond (p) (
    j (decide (a.name = b.name))) (
    j false)
  cond (decide (a.kind = b.kind)) (
   j1 (decide (a.v = b.v))) (
   j1 false)
theorem asame_eq (k : Nat) (rf : FT [.sv .expr, .sv .expr] [.bool]) : ∀ (x : HV [.sv .expr, .sv .expr]), runF (asame_px _ k rf) Tryd.f23 [.sv .expr, .sv .expr] [.bool] x some = asame_body k rf x
  | (a, b) => by kernel_rfl
theorem asame_run (k : Nat) (rf : FT [.sv .expr, .sv .expr] [.bool]) (hrf : FnOk Tryd.prog elT glT 23 [.sv .expr, .sv .expr] [.bool] rf) : FnOk Tryd.prog elT glT 23 [.sv .expr, .sv .expr] [.bool] (asame_body k rf) := by
  refine fnOk_run Tryd.func23 rfl (by kernel_rfl) follows (by kernel_rfl) (n := 0) (by kernel_rfl) (px := asame_px _ k rf) (fun cx hP hel hgl => ?_) (asame_eq k rf)
  have hp1 : PxOk cx (asame_pxi0 (HV [.bool]) k rf) := ⟨fun t => by rw [hP, hel]; exact tt_ok ttL_ok t, by rw [hgl]; rfl⟩
  have hc1 : CallOk cx (asame_pxi0 (HV [.bool]) k rf) := callT_ok rfl (cfs_cons (cf_or (by rw [hP, hel, hgl]; exact hrf) (by kernel_rfl)) cfs_nil)
  have hq1 : CallQOk cx (asame_pxi0 (HV [.bool]) k rf) := callQT_ok rfl cqfs_nil
  have hlasame_0 : LoopOk cx (asame_pxi0 (HV [.bool]) k rf) (lp Tryd.f57 0) := loop_ok hp1 hc1 hq1 (by rw [hP]; exact follows) (k := k) (s := asame_0_sg) (step := asame_0 rf) (fun _ _ => by kernel_rfl) (by kernel_rfl) (asame_0_eq _ k rf) (loops_in (n := 0) (by kernel_rfl) all0)
  have hp0 : PxOk cx (asame_px (HV [.bool]) k rf) := ⟨fun t => by rw [hP, hel]; exact tt_ok ttL_ok t, by rw [hgl]; rfl⟩
  have hc0 : CallOk cx (asame_px (HV [.bool]) k rf) := callT_ok rfl (cfs_cons (cf_run hp1 hc1 hq1 (by rw [hP]; exact follows) (by rw [hP]; exact Tryd.func57) rfl (by kernel_rfl) (by kernel_rfl) (n := 1) (by kernel_rfl) ((allS all0 hlasame_0))) cfs_nil)
  have hq0 : CallQOk cx (asame_px (HV [.bool]) k rf) := callQT_ok rfl cqfs_nil
  exact ⟨hp0, hc0, hq0, all0⟩
def asame (a b : Xpr) : Bool := xsame a b
def asame_F : FT [.sv .expr, .sv .expr] [.bool] := fun x => some (asame x.1 x.2)
theorem asame_loop {R : Type} {rf : FT [.sv .expr, .sv .expr] [.bool]} {kx : Ex → asame_0_V → Option R} {l m : List Xpr} {c : Bool → Option R} (hn : ln l.length) (hm : l.length = m.length) (hrf : ∀ x, x ∈ l → ∀ y, y ∈ m → rf (x, y) = some (xsame x y))
    (h1 : ∀ i, kx .ret (m, false, l, (l.length : Int), i) = c false) (h2 : ∀ q i, kx (.exit 0) (m, q, l, (l.length : Int), i) = c true) (k : Nat) (hk : l.length < k) : iter (fun rec => asame_0 rf rec kx) k (m, false, l, (l.length : Int), 0) = c (xsames l m) := by
  refine (iter_ind0 l.length (fun i => (m, false, l, (l.length : Int), (i : Int))) (fun i => c (xsames (l.drop i) (m.drop i))) (fun i hi rec hr => ?_) (fun rec => ?_) k 0 (Nat.zero_le _) (by omega)).trans (by rw [List.drop_zero, List.drop_zero])
  · have hi2 : i < m.length := by omega
    simp only [asame_0, lt_t hi, cond_t, inb_t hi, inb_t hi2, chk, at_nat (c := .expr) hi, at_nat (c := .expr) hi2, hrf _ (List.getElem_mem hi) _ (List.getElem_mem hi2), Option.bind_some, wr_succ hi hn, hr, h1, drop_cons hi, drop_cons hi2, xsames]
    cases xsame l[i] m[i] <;> rfl
  · simp only [asame_0, lt_n, cond_f, h2]
    rw [List.drop_eq_nil_of_le (Nat.le_refl _), List.drop_eq_nil_of_le (by omega)]
    rfl
theorem asame_all (k : Nat) : ∀ (n : Nat) (a b : Xpr), BdExpr a → BdExpr b → esize a ≤ n → esize a ≤ k → iter (asame_body k) n (a, b) = some (xsame a b)
  | 0, a, b, _, _, h, _ => by have := esize_pos a; omega
  | n + 1, a, b, ha, hb, h, hk => by
    obtain ⟨hb4, hb5⟩ := bd_ls ha
    obtain ⟨hc4, hc5⟩ := bd_ls hb
    rw [esize_eq] at h hk
    have hl := esizes_len a.l
    have hrf : ∀ x, x ∈ a.l → ∀ y, y ∈ b.l → iter (asame_body k) n (x, y) = some (xsame x y) := fun x hx y hy => asame_all k n x y (hb5 x hx) (hc5 y hy) (by have := esize_mem hx; omega) (by have := esize_mem hx; omega)
    rw [iter_s, xsame_un]
    simp only [asame_body]
    by_cases hlen : a.l.length = b.l.length
    · have hloop := asame_loop (R := Bool) (rf := iter (asame_body k) n) (l := a.l) (m := b.l) (c := some) (kx := fun e v => match v with
        | (_, v6, _, _, _) => match e with
          | .ret => some v6
          | .exit 0 => some true
          | _ => none) hb4 hlen hrf (fun _ => rfl) (fun _ _ => rfl) k (by omega)
      rw [hloop, decide_eq_true (show (a.l.length : Int) = (b.l.length : Int) by omega)]
      cases decide (a.kind = b.kind) <;> cases decide (a.v = b.v) <;> cases decide (a.name = b.name) <;> cases xsames a.l b.l <;> rfl
    · have hno : xsames a.l b.l = false := by
        cases hs : xsames a.l b.l with
        | false => rfl
        | true => exact absurd (xsames_len hs) hlen
      rw [hno, decide_eq_false (show ¬ (a.l.length : Int) = (b.l.length : Int) by omega)]
      cases decide (a.kind = b.kind) <;> cases decide (a.v = b.v) <;> cases decide (a.name = b.name) <;> rfl
theorem asame_ok : FnOk Tryd.prog elT glT 23 [.sv .expr, .sv .expr] [.bool] asame_F := by
  refine .fin (ι := Nat) 0 (F := fun n => iter (asame_body n) n) (fun n => FnOk.rec' (Sx.enters_of Tryd.func23 rfl rfl) (fun rf hrf => asame_run n rf hrf) n) fun (a, b) r hb hx => ⟨esize a, ?_⟩
  exact (asame_all (esize a) (esize a) a b hb.1 hb.2 (Nat.le_refl _) (Nat.le_refl _)).trans hx
end Go.Proofs.YtjpcghlpkinahaaDoor

/- The names in an expression. -/
namespace Go.Proofs.YtjpcghlpkinahaaDoor
open Go.Ax
/-! ## the place of a text among others -/
/-! ## slices.Index[[]string,string] -/
def sidx_0_sg : Sig := ⟨19, [(0, .sl .str false), (1, .str), (4, .int .i64), (7, .int .i64), (8, .int .i64)], [], [], 0, 0, 0, [], []⟩
abbrev sidx_0_V := List Str × Str × Int × Int × Int
def sidx_0 {R : Type} (rec : sidx_0_V → Option R) (kx : Ex → sidx_0_V → Option R) (v : sidx_0_V) : Option R := match v with
 | (v, v1, v2, v3, v4) =>
  cond (decide (v4 < v3)) (
   chk (inb v4 v.length) (
    cond (decide (v1 = (at' .str v v4))) (
     kx .ret (v, v1, v4, v3, v4)) (
     rec (v, v1, v2, v3, (wr .i64 (v4 + 1)))))) (
   kx (.exit 0) (v, v1, v2, v3, v4))
def sidx_px (R : Type) (k : Nat) : Px R := ⟨ttOf ttL, glT, callT [], callQT [], loopT [(2, loopOr k sidx_0_sg (sidx_0))]⟩
theorem sidx_0_eq (R : Type) (k : Nat) : ∀ (fr : List Fr) (rec : sidx_0_V → Option R) (kx : Ex → sidx_0_V → Option R) (v : sidx_0_V), round (sidx_px R k) sidx_0_sg (lp Tryd.f74 0) fr rec kx v = sidx_0 rec kx v
  | fr, rec, kx, (v, v1, v2, v3, v4) => by kernel_rfl
def sidx_body (k : Nat) (x : HV [.sl .str false, .str]) : Option (HV [.int .i64]) := match x with
 | (l, s) =>
  iter (fun rec => sidx_0 rec (fun e vz => match vz with | (_, _, v7, _, _) => match e with
   | .ret =>
    some v7
   | .exit 0 =>
    some (-1)
   | _ => none)) k (l, s, 0, (l.length : Int), 0)
theorem sidx_eq (k : Nat) : ∀ (x : HV [.sl .str false, .str]), runF (sidx_px _ k) Tryd.f74 [.sl .str false, .str] [.int .i64] x some = sidx_body k x
  | (l, s) => by kernel_rfl
theorem sidx_run (k : Nat) : FnOk Tryd.prog elT glT 74 [.sl .str false, .str] [.int .i64] (sidx_body k) := by
  refine fnOk_run Tryd.func74 rfl (by kernel_rfl) follows (by kernel_rfl) (n := 1) (by kernel_rfl) (px := sidx_px _ k) (fun cx hP hel hgl => ?_) (sidx_eq k)
  have hp0 : PxOk cx (sidx_px (HV [.int .i64]) k) := ⟨fun t => by rw [hP, hel]; exact tt_ok ttL_ok t, by rw [hgl]; rfl⟩
  have hc0 : CallOk cx (sidx_px (HV [.int .i64]) k) := callT_ok rfl cfs_nil
  have hq0 : CallQOk cx (sidx_px (HV [.int .i64]) k) := callQT_ok rfl cqfs_nil
  have hlsidx_0 : LoopOk cx (sidx_px (HV [.int .i64]) k) (lp Tryd.f74 0) := loop_ok hp0 hc0 hq0 (by rw [hP]; exact follows) (k := k) (s := sidx_0_sg) (step := sidx_0) (fun _ _ => by kernel_rfl) (by kernel_rfl) (sidx_0_eq _ k) (loops_in (n := 0) (by kernel_rfl) all0)
  exact ⟨hp0, hc0, hq0, (allS all0 hlsidx_0)⟩
def sidx (l : List Str) (s : Str) : Int := Lp.idx s l 0
def sidx_F : FT [.sl .str false, .str] [.int .i64] := fun x => some (sidx x.1 x.2)
theorem sidx_loop {R : Type} {kx : Ex → sidx_0_V → Option R} {l : List Str} {s : Str} {c : Int → Option R} (hl : ln l.length) (h1 : ∀ (r : Int) (i : Int), kx .ret (l, s, r, (l.length : Int), i) = c r) (h2 : ∀ q : Int, kx (.exit 0) (l, s, q, (l.length : Int), (l.length : Int)) = c (-1))
    (k : Nat) (hk : l.length < k) : iter (fun rec => sidx_0 rec kx) k (l, s, 0, (l.length : Int), 0) = c (Lp.idx s l 0) := by
  refine (iter_ind0 l.length (fun i => (l, s, (0 : Int), (l.length : Int), (i : Int))) (fun i => c (Lp.idx s (l.drop i) i)) (fun i hi rec hr => ?_) (fun rec => ?_) k 0 (Nat.zero_le _) (by omega)).trans (by rw [List.drop_zero]; rfl)
  · have en : ((i + 1 : Nat) : Int) = (i : Int) + 1 := by omega
    simp only [sidx_0, lt_t hi, cond_t, inb_t hi, chk, at_nat (c := .str) hi, wr_succ hi hl, hr, h1]
    rw [drop_cons hi, Lp.idx, en]
    by_cases hx : s = l[i]
    · rw [decide_eq_true hx, if_pos hx, cond_t]
    · rw [decide_eq_false hx, if_neg hx, cond_f]
  · simp only [sidx_0, lt_n, cond_f, h2, List.drop_length, Lp.idx]
theorem sidx_ok : FnOk Tryd.prog elT glT 74 [.sl .str false, .str] [.int .i64] sidx_F := .fin 0 sidx_run fun (l, s) r hb hx => ⟨l.length + 1, by
  simp only [sidx_F, Option.some.injEq] at hx
  rw [← hx]
  simp only [sidx_body]
  exact sidx_loop (c := fun q => some q) hb.1.1 (fun _ _ => rfl) (fun _ => rfl) (l.length + 1) (by omega)⟩
/-! ## slices.Contains[[]string,string] -/
def shas_px (R : Type) : Px R := ⟨ttOf ttL, glT, callT [(74, callOr [.sl .str false, .str] [.int .i64] sidx_F)], callQT [], loopT []⟩
def shas_body (x : HV [.sl .str false, .str]) : Option (HV [.bool]) := match x with
 | (l, s) =>
  some (decide (0 ≤ (sidx l s)))
theorem shas_eq : ∀ (x : HV [.sl .str false, .str]), runF (shas_px _) Tryd.f34 [.sl .str false, .str] [.bool] x some = shas_body x
  | (l, s) => by kernel_rfl
theorem shas_run : FnOk Tryd.prog elT glT 34 [.sl .str false, .str] [.bool] (shas_body) := by
  refine fnOk_run Tryd.func34 rfl (by kernel_rfl) follows (by kernel_rfl) (n := 0) (by kernel_rfl) (px := shas_px _) (fun cx hP hel hgl => ?_) (shas_eq)
  have hp0 : PxOk cx (shas_px (HV [.bool])) := ⟨fun t => by rw [hP, hel]; exact tt_ok ttL_ok t, by rw [hgl]; rfl⟩
  have hc0 : CallOk cx (shas_px (HV [.bool])) := callT_ok rfl (cfs_cons (cf_or (by rw [hP, hel, hgl]; exact sidx_ok) (by kernel_rfl)) cfs_nil)
  have hq0 : CallQOk cx (shas_px (HV [.bool])) := callQT_ok rfl cqfs_nil
  exact ⟨hp0, hc0, hq0, all0⟩
def shas (l : List Str) (s : Str) : Bool :=
  (decide (0 ≤ (sidx l s)))
theorem shas_tot (x : HV [.sl .str false, .str]) : shas_body x = some (shas x.1 x.2) := by
  first
    | exact rfl
    | simp only [shas_body, shas, cond_some]
def shas_F : FT [.sl .str false, .str] [.bool] := fun x => some (shas x.1 x.2)
theorem shas_ok : FnOk Tryd.prog elT glT 34 [.sl .str false, .str] [.bool] shas_F := .fin0 shas_run fun x _ _ hx => (shas_tot x).trans hx
theorem shas_is (l : List Str) (s : Str) : shas l s = l.contains s := by
  have e : shas l s = decide (0 ≤ Lp.idx s l 0) := rfl
  rw [e, Bool.eq_iff_iff, decide_eq_true_eq, Lp.idx_ge s l 0 (Int.le_refl 0)]
  simp
/-! ## names, as they come -/
def addN (out : List Str) (m : Str) : List Str := if out.contains m then out else out ++ [m]
mutual
def nwalk : Xpr → List Str → List Str
  | .mk k _ n l, out => nwalks l (if k = 2 then addN out n else out)
def nwalks : List Xpr → List Str → List Str
  | [], out => out
  | x :: l, out => nwalks l (nwalk x out)
end
theorem nwalk_un (e : Xpr) (out : List Str) : nwalk e out = nwalks e.l (if e.kind = 2 then addN out e.name else out) := by
  cases e
  simp only [nwalk]
  rfl
theorem addN_len (out : List Str) (m : Str) : (addN out m).length ≤ out.length + 1 := by
  simp only [addN]
  split
  · omega
  · simp
mutual
theorem nwalk_len : ∀ (e : Xpr) (out : List Str), (nwalk e out).length ≤ out.length + esize e
  | .mk k v n l, out => by
    simp only [nwalk, esize]
    split
    · have h1 := nwalks_len l (addN out n)
      have h2 := addN_len out n
      omega
    · have h1 := nwalks_len l out
      omega
theorem nwalks_len : ∀ (l : List Xpr) (out : List Str), (nwalks l out).length ≤ out.length + esizes l
  | [], out => by simp [nwalks, esizes]
  | x :: l, out => by
    simp only [nwalks, esizes]
    have h1 := nwalks_len l (nwalk x out)
    have h2 := nwalk_len x out
    omega
end
/-! ## exchequer/ast.Names$1 -/
def nwk_si : Sig := ⟨3, [(0, .sv .expr)], [(1, .ptr 1 0), (2, .ptr 2 0)], [(1, .cells [.sl .str true]), (2, .fx [.fn 65 [.ptr 1 0, .ptr 2 0]])], 3, 3, 0, [], []⟩
def nwk_so : Sig := ⟨0, [], [], [(1, .cells [.sl .str true]), (2, .fx [.fn 65 [.ptr 1 0, .ptr 2 0]])], 3, 3, 0, [], []⟩
abbrev nwk_I := Xpr × List Str
abbrev nwk_O := List Str
def nwk_0_sg : Sig := ⟨32, [(22, .sl .expr false), (23, .int .i64), (24, .int .i64)], [(2, .ptr 2 0)], [(1, .cells [.sl .str true]), (2, .fx [.fn 65 [.ptr 1 0, .ptr 2 0]])], 3, 3, 0, [], []⟩
abbrev nwk_0_V := List Xpr × Int × Int × List Str
def nwk_0 {R : Type} (rf : nwk_I → Option nwk_O) (rec : nwk_0_V → Option R) (kx : Ex → nwk_0_V → Option R) (v : nwk_0_V) : Option R := match v with
 | (v, v1, v2, w) =>
  cond (decide (v2 < v1)) (
   chk (inb v2 v.length) (
    (rf ((at' .expr v v2), w)).bind fun x =>
     rec (v, v1, (wr .i64 (v2 + 1)), x))) (
   kx (.exit 0) (v, v1, v2, w))
def nwk_px (R : Type) (k : Nat) (rf : nwk_I → Option nwk_O) : Px R := ⟨ttOf ttL, glT, callT [(34, callOr [.sl .str false, .str] [.bool] shas_F), (65, callLn nwk_si nwk_so rf)], callQT [], loopT [(4, loopOr k nwk_0_sg (nwk_0 rf))]⟩
theorem nwk_0_eq (R : Type) (k : Nat) (rf : nwk_I → Option nwk_O) : ∀ (fr : List Fr) (rec : nwk_0_V → Option R) (kx : Ex → nwk_0_V → Option R) (v : nwk_0_V), round (nwk_px R k rf) nwk_0_sg (lp Tryd.f65 0) fr rec kx v = nwk_0 rf rec kx v
  | fr, rec, kx, (v, v1, v2, w) => by kernel_rfl
def nwk_body (k : Nat) (rf : nwk_I → Option nwk_O) (x : nwk_I) : Option (nwk_O) := match x with
 | (e, out) =>
  let j1 := fun (q : List Str) =>
   iter (fun rec => nwk_0 rf rec (fun e vz => match vz with | (_, _, _, v6) => match e with
    | .exit 0 =>
     some v6
    | _ => none)) k (e.l, (e.l.length : Int), 0, q)
  let j := fun (p1 : Bool) =>
   cond (p1) (
    chk (decide (out.length + 1 ≤ maxApp)) (
     j1 (out ++ [e.name]))) (
    j1 out)
  cond (decide (e.kind = 2)) (
   j (!(shas out e.name))) (
   j false)
theorem nwk_eq (k : Nat) (rf : nwk_I → Option nwk_O) : ∀ (x : nwk_I), runLn (nwk_px _ k rf) Tryd.f65 nwk_si nwk_so x some = nwk_body k rf x
  | (e, out) => by kernel_rfl
theorem nwk_run (k : Nat) (rf : nwk_I → Option nwk_O) (hrf : FnLn Tryd.prog elT glT 65 nwk_si nwk_so rf) : FnLn Tryd.prog elT glT 65 nwk_si nwk_so (nwk_body k rf) := by
  refine fnLn_run Tryd.func65 rfl (by kernel_rfl) follows (by kernel_rfl) (n := 1) (by kernel_rfl) (px := nwk_px _ k rf) (fun cx hP hel hgl => ?_) (nwk_eq k rf)
  have hp0 : PxOk cx (nwk_px (nwk_O) k rf) := ⟨fun t => by rw [hP, hel]; exact tt_ok ttL_ok t, by rw [hgl]; rfl⟩
  have hc0 : CallOk cx (nwk_px (nwk_O) k rf) := callT_ok rfl (cfs_cons (cf_or (by rw [hP, hel, hgl]; exact shas_ok) (by kernel_rfl)) (cfs_cons (cf_ln (by rw [hP, hel, hgl]; exact hrf) (by kernel_rfl)) cfs_nil))
  have hq0 : CallQOk cx (nwk_px (nwk_O) k rf) := callQT_ok rfl cqfs_nil
  have hlnwk_0 : LoopOk cx (nwk_px (nwk_O) k rf) (lp Tryd.f65 0) := loop_ok hp0 hc0 hq0 (by rw [hP]; exact follows) (k := k) (s := nwk_0_sg) (step := nwk_0 rf) (fun _ _ => by kernel_rfl) (by kernel_rfl) (nwk_0_eq _ k rf) (loops_in (n := 0) (by kernel_rfl) all0)
  exact ⟨hp0, hc0, hq0, (allS all0 hlnwk_0)⟩
def nwk (e : Xpr) (out : List Str) : Option (List Str) := if out.length + esize e ≤ 1000000 then some (nwalk e out) else none
def nwk_F : nwk_I → Option nwk_O := fun x => nwk x.1 x.2
theorem esizes_drop {l : List Xpr} {i : Nat} (hi : i < l.length) : esizes (l.drop i) = 1 + esize l[i] + esizes (l.drop (i + 1)) := by
  rw [drop_cons hi]
  simp only [esizes]
theorem nwk_loop {R : Type} {rf : nwk_I → Option nwk_O} {kx : Ex → nwk_0_V → Option R} {l : List Xpr} {c : List Str → Option R} (hn : ln l.length) (hrf : ∀ x, x ∈ l → ∀ out : List Str, out.length + esize x ≤ 1000000 → rf (x, out) = some (nwalk x out)) (h2 : ∀ i out, kx (.exit 0) (l, (l.length : Int), i, out) = c out)
    (k : Nat) (hk : l.length < k) (out : List Str) (ho : out.length + esizes l ≤ 1000000) : iter (fun rec => nwk_0 rf rec kx) k (l, (l.length : Int), 0, out) = c (nwalks l out) := by
  refine (iter_ind l.length (fun i out => (l, (l.length : Int), (i : Int), out)) (fun i out => List.length out + esizes (l.drop i) ≤ 1000000) (fun i out => c (nwalks (l.drop i) out)) (fun i hi out ha rec hr => ?_) (fun out _ rec => ?_) k 0 out (Nat.zero_le _) (by omega) (by rw [List.drop_zero]; exact ho)).trans (by rw [List.drop_zero])
  · have hd := esizes_drop hi
    have hr := hr (nwalk l[i] out) (by have := nwalk_len l[i] out; omega)
    simp only [nwk_0, lt_t hi, cond_t, inb_t hi, chk, at_nat (c := .expr) hi, hrf _ (List.getElem_mem hi) out (by omega), Option.bind_some, wr_succ hi hn, hr, drop_cons hi, nwalks]
  · simp only [nwk_0, lt_n, cond_f, h2]
    rw [List.drop_eq_nil_of_le (Nat.le_refl _)]
    rfl
theorem nwk_all (k : Nat) : ∀ (n : Nat) (e : Xpr) (out : List Str), BdExpr e → esize e ≤ n → esize e ≤ k → out.length + esize e ≤ 1000000 → iter (nwk_body k) n (e, out) = some (nwalk e out)
  | 0, e, _, _, h, _, _ => by have := esize_pos e; omega
  | n + 1, e, out, hb, h, hk, ho => by
    obtain ⟨hb4, hb5⟩ := bd_ls hb
    rw [esize_eq] at h hk ho
    have hl := esizes_len e.l
    have hrf : ∀ x, x ∈ e.l → ∀ out : List Str, out.length + esize x ≤ 1000000 → iter (nwk_body k) n (x, out) = some (nwalk x out) := fun x hx out h0 => nwk_all k n x out (hb5 x hx) (by have := esize_mem hx; omega) (by have := esize_mem hx; omega) h0
    have hloop := fun (q : List Str) (hq : q.length + esizes e.l ≤ 1000000) => nwk_loop (R := nwk_O) (rf := iter (nwk_body k) n) (l := e.l) (c := some) (kx := fun e v => match v with
      | (_, _, _, v6) => match e with
        | .exit 0 => some v6
        | _ => none) hb4 hrf (fun _ _ => rfl) k (by omega) q hq
    rw [iter_s, nwalk_un]
    simp only [nwk_body, shas_is]
    by_cases h2 : e.kind = 2
    · have ha := addN_len out e.name
      have hq := hloop (addN out e.name) (by omega)
      rw [decide_eq_true h2, if_pos h2, ← hq, cond_t]
      simp only [addN]
      cases hc : out.contains e.name with
      | true => rfl
      | false =>
        rw [decide_eq_true (show out.length + 1 ≤ maxApp by simp only [maxApp]; omega)]
        rfl
    · have hq := hloop out (by omega)
      rw [decide_eq_false h2, if_neg h2, ← hq]
      rfl
theorem nwk_ok : FnLn Tryd.prog elT glT 65 nwk_si nwk_so nwk_F := by
  refine .fin (ι := Nat) (sg := nwk_si) (so := nwk_so) 0 (F := fun n => iter (V := nwk_I) (R := nwk_O) (nwk_body n) n) (fun n => FnLn.rec' (Sx.enters_of Tryd.func65 rfl rfl) (fun rf hrf => nwk_run n rf hrf) n) fun (e, out) r hb hx => ⟨esize e, ?_⟩
  simp only [nwk_F, nwk] at hx
  split at hx
  · rename_i h
    exact (nwk_all (esize e) (esize e) e out hb.1 (Nat.le_refl _) (Nat.le_refl _) h).trans hx
  · cases hx
/-! ## exchequer/ast.Names -/
def anames_px (R : Type) : Px R := ⟨ttOf ttL, glT, callT [(65, callLn nwk_si nwk_so nwk_F)], callQT [], loopT []⟩
def anames_body (x : HV [.sv .expr]) : Option (HV [.sl .str true]) := match x with
 | e =>
  (nwk_F (e, [])).bind fun x =>
   some x
theorem anames_eq : ∀ (x : HV [.sv .expr]), runF (anames_px _) Tryd.f28 [.sv .expr] [.sl .str true] x some = anames_body x
  | e => by kernel_rfl
theorem anames_run : FnOk Tryd.prog elT glT 28 [.sv .expr] [.sl .str true] (anames_body) := by
  refine fnOk_run Tryd.func28 rfl (by kernel_rfl) follows (by kernel_rfl) (n := 0) (by kernel_rfl) (px := anames_px _) (fun cx hP hel hgl => ?_) (anames_eq)
  have hp0 : PxOk cx (anames_px (HV [.sl .str true])) := ⟨fun t => by rw [hP, hel]; exact tt_ok ttL_ok t, by rw [hgl]; rfl⟩
  have hc0 : CallOk cx (anames_px (HV [.sl .str true])) := callT_ok rfl (cfs_cons (cf_ln (by rw [hP, hel, hgl]; exact nwk_ok) (by kernel_rfl)) cfs_nil)
  have hq0 : CallQOk cx (anames_px (HV [.sl .str true])) := callQT_ok rfl cqfs_nil
  exact ⟨hp0, hc0, hq0, all0⟩
def anames (e : Xpr) : Option (List Str) := if esize e ≤ 1000000 then some (nwalk e []) else none
def anames_F : FT [.sv .expr] [.sl .str true] := fun x => anames x
theorem anames_ok : FnOk Tryd.prog elT glT 28 [.sv .expr] [.sl .str true] anames_F := .fin0 anames_run fun e r hb hx => by
  simp only [anames_F, anames] at hx
  split at hx
  · rename_i h
    rw [← hx]
    simp only [anames_body, nwk_F, nwk]
    rw [if_pos (by simpa using h)]
    rfl
  · cases hx
end Go.Proofs.YtjpcghlpkinahaaDoor

/- What an expression that may be is made of. -/
namespace Go.Proofs.YtjpcghlpkinahaaDoor
open Go.Ax
theorem parts_spec (k : Int) : (parts k = 0 ∧ (k = 1 ∨ k = 2)) ∨ (parts k = 1 ∧ (k = 3 ∨ k = 15 ∨ k = 16)) ∨ (parts k = 2 ∧ 4 ≤ k ∧ k ≤ 14) ∨ parts k = -1 := by
  by_cases h1 : k = 1
  · subst h1; left; decide
  by_cases h2 : k = 2
  · subst h2; left; decide
  by_cases h3 : k = 3
  · subst h3; right; left; decide
  by_cases h15 : k = 15
  · subst h15; right; left; decide
  by_cases h16 : k = 16
  · subst h16; right; left; decide
  right; right
  by_cases h : 4 ≤ k ∧ k ≤ 14
  · left
    refine ⟨?_, h⟩
    have : k = 4 ∨ k = 5 ∨ k = 6 ∨ k = 7 ∨ k = 8 ∨ k = 9 ∨ k = 10 ∨ k = 11 ∨ k = 12 ∨ k = 13 ∨ k = 14 := by omega
    rcases this with rfl | rfl | rfl | rfl | rfl | rfl | rfl | rfl | rfl | rfl | rfl <;> decide
  · right
    have hm : mget signsL k = [] := by
      simp only [signsL, mget]
      rw [decide_eq_false (by omega), decide_eq_false (by omega), decide_eq_false (by omega), decide_eq_false (by omega), decide_eq_false (by omega), decide_eq_false (by omega), decide_eq_false (by omega), decide_eq_false (by omega), decide_eq_false (by omega), decide_eq_false (by omega), decide_eq_false (by omega)]
    simp [parts, hm, h1, h2, h3, h15, h16]
theorem eright_parts {e : Xpr} {m : Int} (h : eright e m = true) : (e.l.length : Int) = parts e.kind ∧ eok e.kind e.v e.name = true ∧ erights e.l (wr .i64 (m - 1)) = true := by
  rw [eright_un] at h
  simp only [Bool.and_eq_true, decide_eq_true_eq] at h
  exact ⟨h.1.1.2, h.1.2, h.2⟩
theorem aexpr_iff {e : Xpr} : aexpr e = 0 ↔ eright e 30 = true := by
  simp only [aexpr]
  cases eright e 30 <;> simp
end Go.Proofs.YtjpcghlpkinahaaDoor

/- Statements: are two the same; may one be. -/
namespace Go.Proofs.YtjpcghlpkinahaaDoor
open Go.Ax
/-! ## slices.Equal[[]exchequer/api.Col,exchequer/api.Col] -/
def aeqc_0_sg : Sig := ⟨26, [(0, .sl .col false), (1, .sl .col false), (4, .bool), (12, .int .i64), (13, .int .i64)], [], [], 0, 0, 0, [], []⟩
abbrev aeqc_0_V := List Col × List Col × Bool × Int × Int
def aeqc_0 {R : Type} (rec : aeqc_0_V → Option R) (kx : Ex → aeqc_0_V → Option R) (v : aeqc_0_V) : Option R := match v with
 | (v, v1, v2, v3, v4) =>
  cond (decide (v4 < v3)) (
   chk (inb v4 v.length) (
    chk (inb v4 v1.length) (
     cond (!decide ((at' .col v v4) = (at' .col v1 v4))) (
      kx .ret (v, v1, false, v3, v4)) (
      rec (v, v1, v2, v3, (wr .i64 (v4 + 1))))))) (
   kx (.exit 0) (v, v1, v2, v3, v4))
def aeqc_px (R : Type) (k : Nat) : Px R := ⟨ttOf ttL, glT, callT [], callQT [], loopT [(4, loopOr k aeqc_0_sg (aeqc_0))]⟩
theorem aeqc_0_eq (R : Type) (k : Nat) : ∀ (fr : List Fr) (rec : aeqc_0_V → Option R) (kx : Ex → aeqc_0_V → Option R) (v : aeqc_0_V), round (aeqc_px R k) aeqc_0_sg (lp Tryd.f58 0) fr rec kx v = aeqc_0 rec kx v
  | fr, rec, kx, (v, v1, v2, v3, v4) => by kernel_rfl
def aeqc_body (k : Nat) (x : HV [.sl .col false, .sl .col false]) : Option (HV [.bool]) := match x with
 | (a, b) =>
  cond (!decide ((a.length : Int) = (b.length : Int))) (
   some false) (
   iter (fun rec => aeqc_0 rec (fun e vz => match vz with | (_, _, v7, _, _) => match e with
    | .ret =>
     some v7
    | .exit 0 =>
     some true
    | _ => none)) k (a, b, false, (a.length : Int), 0))
theorem aeqc_eq (k : Nat) : ∀ (x : HV [.sl .col false, .sl .col false]), runF (aeqc_px _ k) Tryd.f58 [.sl .col false, .sl .col false] [.bool] x some = aeqc_body k x
  | (a, b) => by kernel_rfl
theorem aeqc_run (k : Nat) : FnOk Tryd.prog elT glT 58 [.sl .col false, .sl .col false] [.bool] (aeqc_body k) := by
  refine fnOk_run Tryd.func58 rfl (by kernel_rfl) follows (by kernel_rfl) (n := 1) (by kernel_rfl) (px := aeqc_px _ k) (fun cx hP hel hgl => ?_) (aeqc_eq k)
  have hp0 : PxOk cx (aeqc_px (HV [.bool]) k) := ⟨fun t => by rw [hP, hel]; exact tt_ok ttL_ok t, by rw [hgl]; rfl⟩
  have hc0 : CallOk cx (aeqc_px (HV [.bool]) k) := callT_ok rfl cfs_nil
  have hq0 : CallQOk cx (aeqc_px (HV [.bool]) k) := callQT_ok rfl cqfs_nil
  have hlaeqc_0 : LoopOk cx (aeqc_px (HV [.bool]) k) (lp Tryd.f58 0) := loop_ok hp0 hc0 hq0 (by rw [hP]; exact follows) (k := k) (s := aeqc_0_sg) (step := aeqc_0) (fun _ _ => by kernel_rfl) (by kernel_rfl) (aeqc_0_eq _ k) (loops_in (n := 0) (by kernel_rfl) all0)
  exact ⟨hp0, hc0, hq0, (allS all0 hlaeqc_0)⟩
def aeqc (a b : List Col) : Bool := decide (a = b)
def aeqc_F : FT [.sl .col false, .sl .col false] [.bool] := fun x => some (aeqc x.1 x.2)
theorem aeqc_loop {R : Type} {kx : Ex → aeqc_0_V → Option R} {a b : List Col} {c : Bool → Option R} (hn : ln a.length) (he : a.length = b.length) (h1 : ∀ i, kx .ret (a, b, false, (a.length : Int), i) = c false) (h2 : ∀ q i, kx (.exit 0) (a, b, q, (a.length : Int), i) = c true) (k : Nat) (hk : a.length < k) :
    iter (fun rec => aeqc_0 rec kx) k (a, b, false, (a.length : Int), 0) = c (decide (a = b)) := by
  refine (iter_ind0 a.length (fun i => (a, b, false, (a.length : Int), (i : Int))) (fun i => c (decide (a.drop i = b.drop i))) (fun i hi rec hr => ?_) (fun rec => ?_) k 0 (Nat.zero_le _) (by omega)).trans (by rw [List.drop_zero, List.drop_zero])
  · have hi2 : i < b.length := by omega
    simp only [aeqc_0, lt_t hi, cond_t, inb_t hi, inb_t hi2, chk, at_nat (c := .col) hi, at_nat (c := .col) hi2, wr_succ hi hn, hr, h1, drop_cons hi, drop_cons hi2, List.cons.injEq]
    by_cases hx : a[i] = b[i]
    · rw [decide_eq_true hx]
      simp [hx]
    · rw [decide_eq_false hx]
      simp [hx]
  · simp only [aeqc_0, lt_n, cond_f, h2]
    rw [List.drop_eq_nil_of_le (Nat.le_refl _), List.drop_eq_nil_of_le (by omega)]
    rfl
theorem aeqc_ok : FnOk Tryd.prog elT glT 58 [.sl .col false, .sl .col false] [.bool] aeqc_F := .fin 0 aeqc_run fun (a, b) r hb hx => ⟨a.length + 1, by
  simp only [aeqc_F, Option.some.injEq] at hx
  rw [← hx]
  simp only [aeqc_body, aeqc]
  by_cases he : a.length = b.length
  · rw [decide_eq_true (show (a.length : Int) = (b.length : Int) by omega), Bool.not_true, cond_f]
    exact aeqc_loop (c := some) hb.1.1 he (fun _ => rfl) (fun _ _ => rfl) (a.length + 1) (by omega)
  · rw [decide_eq_false (show ¬ (a.length : Int) = (b.length : Int) by omega), decide_eq_false (fun h => he (by rw [h]))]
    rfl⟩
/-! ## slices.Equal[[]string,string] -/
def aeqs_0_sg : Sig := ⟨26, [(0, .sl .str false), (1, .sl .str false), (4, .bool), (12, .int .i64), (13, .int .i64)], [], [], 0, 0, 0, [], []⟩
abbrev aeqs_0_V := List Str × List Str × Bool × Int × Int
def aeqs_0 {R : Type} (rec : aeqs_0_V → Option R) (kx : Ex → aeqs_0_V → Option R) (v : aeqs_0_V) : Option R := match v with
 | (v, v1, v2, v3, v4) =>
  cond (decide (v4 < v3)) (
   chk (inb v4 v.length) (
    chk (inb v4 v1.length) (
     cond (!decide ((at' .str v v4) = (at' .str v1 v4))) (
      kx .ret (v, v1, false, v3, v4)) (
      rec (v, v1, v2, v3, (wr .i64 (v4 + 1))))))) (
   kx (.exit 0) (v, v1, v2, v3, v4))
def aeqs_px (R : Type) (k : Nat) : Px R := ⟨ttOf ttL, glT, callT [], callQT [], loopT [(4, loopOr k aeqs_0_sg (aeqs_0))]⟩
theorem aeqs_0_eq (R : Type) (k : Nat) : ∀ (fr : List Fr) (rec : aeqs_0_V → Option R) (kx : Ex → aeqs_0_V → Option R) (v : aeqs_0_V), round (aeqs_px R k) aeqs_0_sg (lp Tryd.f59 0) fr rec kx v = aeqs_0 rec kx v
  | fr, rec, kx, (v, v1, v2, v3, v4) => by kernel_rfl
def aeqs_body (k : Nat) (x : HV [.sl .str false, .sl .str false]) : Option (HV [.bool]) := match x with
 | (a, b) =>
  cond (!decide ((a.length : Int) = (b.length : Int))) (
   some false) (
   iter (fun rec => aeqs_0 rec (fun e vz => match vz with | (_, _, v7, _, _) => match e with
    | .ret =>
     some v7
    | .exit 0 =>
     some true
    | _ => none)) k (a, b, false, (a.length : Int), 0))
theorem aeqs_eq (k : Nat) : ∀ (x : HV [.sl .str false, .sl .str false]), runF (aeqs_px _ k) Tryd.f59 [.sl .str false, .sl .str false] [.bool] x some = aeqs_body k x
  | (a, b) => by kernel_rfl
theorem aeqs_run (k : Nat) : FnOk Tryd.prog elT glT 59 [.sl .str false, .sl .str false] [.bool] (aeqs_body k) := by
  refine fnOk_run Tryd.func59 rfl (by kernel_rfl) follows (by kernel_rfl) (n := 1) (by kernel_rfl) (px := aeqs_px _ k) (fun cx hP hel hgl => ?_) (aeqs_eq k)
  have hp0 : PxOk cx (aeqs_px (HV [.bool]) k) := ⟨fun t => by rw [hP, hel]; exact tt_ok ttL_ok t, by rw [hgl]; rfl⟩
  have hc0 : CallOk cx (aeqs_px (HV [.bool]) k) := callT_ok rfl cfs_nil
  have hq0 : CallQOk cx (aeqs_px (HV [.bool]) k) := callQT_ok rfl cqfs_nil
  have hlaeqs_0 : LoopOk cx (aeqs_px (HV [.bool]) k) (lp Tryd.f59 0) := loop_ok hp0 hc0 hq0 (by rw [hP]; exact follows) (k := k) (s := aeqs_0_sg) (step := aeqs_0) (fun _ _ => by kernel_rfl) (by kernel_rfl) (aeqs_0_eq _ k) (loops_in (n := 0) (by kernel_rfl) all0)
  exact ⟨hp0, hc0, hq0, (allS all0 hlaeqs_0)⟩
def aeqs (a b : List Str) : Bool := decide (a = b)
def aeqs_F : FT [.sl .str false, .sl .str false] [.bool] := fun x => some (aeqs x.1 x.2)
theorem aeqs_loop {R : Type} {kx : Ex → aeqs_0_V → Option R} {a b : List Str} {c : Bool → Option R} (hn : ln a.length) (he : a.length = b.length) (h1 : ∀ i, kx .ret (a, b, false, (a.length : Int), i) = c false) (h2 : ∀ q i, kx (.exit 0) (a, b, q, (a.length : Int), i) = c true) (k : Nat) (hk : a.length < k) :
    iter (fun rec => aeqs_0 rec kx) k (a, b, false, (a.length : Int), 0) = c (decide (a = b)) := by
  refine (iter_ind0 a.length (fun i => (a, b, false, (a.length : Int), (i : Int))) (fun i => c (decide (a.drop i = b.drop i))) (fun i hi rec hr => ?_) (fun rec => ?_) k 0 (Nat.zero_le _) (by omega)).trans (by rw [List.drop_zero, List.drop_zero])
  · have hi2 : i < b.length := by omega
    simp only [aeqs_0, lt_t hi, cond_t, inb_t hi, inb_t hi2, chk, at_nat (c := .str) hi, at_nat (c := .str) hi2, wr_succ hi hn, hr, h1, drop_cons hi, drop_cons hi2, List.cons.injEq]
    by_cases hx : a[i] = b[i]
    · rw [decide_eq_true hx]
      simp [hx]
    · rw [decide_eq_false hx]
      simp [hx]
  · simp only [aeqs_0, lt_n, cond_f, h2]
    rw [List.drop_eq_nil_of_le (Nat.le_refl _), List.drop_eq_nil_of_le (by omega)]
    rfl
theorem aeqs_ok : FnOk Tryd.prog elT glT 59 [.sl .str false, .sl .str false] [.bool] aeqs_F := .fin 0 aeqs_run fun (a, b) r hb hx => ⟨a.length + 1, by
  simp only [aeqs_F, Option.some.injEq] at hx
  rw [← hx]
  simp only [aeqs_body, aeqs]
  by_cases he : a.length = b.length
  · rw [decide_eq_true (show (a.length : Int) = (b.length : Int) by omega), Bool.not_true, cond_f]
    exact aeqs_loop (c := some) hb.1.1 he (fun _ => rfl) (fun _ _ => rfl) (a.length + 1) (by omega)
  · rw [decide_eq_false (show ¬ (a.length : Int) = (b.length : Int) by omega), decide_eq_false (fun h => he (by rw [h]))]
    rfl⟩
/-! ## slices.Equal[[]bool,bool] -/
def aeqb_0_sg : Sig := ⟨26, [(0, .sl .bool false), (1, .sl .bool false), (4, .bool), (12, .int .i64), (13, .int .i64)], [], [], 0, 0, 0, [], []⟩
abbrev aeqb_0_V := List Bool × List Bool × Bool × Int × Int
def aeqb_0 {R : Type} (rec : aeqb_0_V → Option R) (kx : Ex → aeqb_0_V → Option R) (v : aeqb_0_V) : Option R := match v with
 | (v, v1, v2, v3, v4) =>
  cond (decide (v4 < v3)) (
   chk (inb v4 v.length) (
    chk (inb v4 v1.length) (
     cond (!decide ((at' .bool v v4) = (at' .bool v1 v4))) (
      kx .ret (v, v1, false, v3, v4)) (
      rec (v, v1, v2, v3, (wr .i64 (v4 + 1))))))) (
   kx (.exit 0) (v, v1, v2, v3, v4))
def aeqb_px (R : Type) (k : Nat) : Px R := ⟨ttOf ttL, glT, callT [], callQT [], loopT [(4, loopOr k aeqb_0_sg (aeqb_0))]⟩
theorem aeqb_0_eq (R : Type) (k : Nat) : ∀ (fr : List Fr) (rec : aeqb_0_V → Option R) (kx : Ex → aeqb_0_V → Option R) (v : aeqb_0_V), round (aeqb_px R k) aeqb_0_sg (lp Tryd.f60 0) fr rec kx v = aeqb_0 rec kx v
  | fr, rec, kx, (v, v1, v2, v3, v4) => by kernel_rfl
def aeqb_body (k : Nat) (x : HV [.sl .bool false, .sl .bool false]) : Option (HV [.bool]) := match x with
 | (a, b) =>
  cond (!decide ((a.length : Int) = (b.length : Int))) (
   some false) (
   iter (fun rec => aeqb_0 rec (fun e vz => match vz with | (_, _, v7, _, _) => match e with
    | .ret =>
     some v7
    | .exit 0 =>
     some true
    | _ => none)) k (a, b, false, (a.length : Int), 0))
theorem aeqb_eq (k : Nat) : ∀ (x : HV [.sl .bool false, .sl .bool false]), runF (aeqb_px _ k) Tryd.f60 [.sl .bool false, .sl .bool false] [.bool] x some = aeqb_body k x
  | (a, b) => by kernel_rfl
theorem aeqb_run (k : Nat) : FnOk Tryd.prog elT glT 60 [.sl .bool false, .sl .bool false] [.bool] (aeqb_body k) := by
  refine fnOk_run Tryd.func60 rfl (by kernel_rfl) follows (by kernel_rfl) (n := 1) (by kernel_rfl) (px := aeqb_px _ k) (fun cx hP hel hgl => ?_) (aeqb_eq k)
  have hp0 : PxOk cx (aeqb_px (HV [.bool]) k) := ⟨fun t => by rw [hP, hel]; exact tt_ok ttL_ok t, by rw [hgl]; rfl⟩
  have hc0 : CallOk cx (aeqb_px (HV [.bool]) k) := callT_ok rfl cfs_nil
  have hq0 : CallQOk cx (aeqb_px (HV [.bool]) k) := callQT_ok rfl cqfs_nil
  have hlaeqb_0 : LoopOk cx (aeqb_px (HV [.bool]) k) (lp Tryd.f60 0) := loop_ok hp0 hc0 hq0 (by rw [hP]; exact follows) (k := k) (s := aeqb_0_sg) (step := aeqb_0) (fun _ _ => by kernel_rfl) (by kernel_rfl) (aeqb_0_eq _ k) (loops_in (n := 0) (by kernel_rfl) all0)
  exact ⟨hp0, hc0, hq0, (allS all0 hlaeqb_0)⟩
def aeqb (a b : List Bool) : Bool := decide (a = b)
def aeqb_F : FT [.sl .bool false, .sl .bool false] [.bool] := fun x => some (aeqb x.1 x.2)
theorem aeqb_loop {R : Type} {kx : Ex → aeqb_0_V → Option R} {a b : List Bool} {c : Bool → Option R} (hn : ln a.length) (he : a.length = b.length) (h1 : ∀ i, kx .ret (a, b, false, (a.length : Int), i) = c false) (h2 : ∀ q i, kx (.exit 0) (a, b, q, (a.length : Int), i) = c true) (k : Nat) (hk : a.length < k) :
    iter (fun rec => aeqb_0 rec kx) k (a, b, false, (a.length : Int), 0) = c (decide (a = b)) := by
  refine (iter_ind0 a.length (fun i => (a, b, false, (a.length : Int), (i : Int))) (fun i => c (decide (a.drop i = b.drop i))) (fun i hi rec hr => ?_) (fun rec => ?_) k 0 (Nat.zero_le _) (by omega)).trans (by rw [List.drop_zero, List.drop_zero])
  · have hi2 : i < b.length := by omega
    simp only [aeqb_0, lt_t hi, cond_t, inb_t hi, inb_t hi2, chk, at_nat (c := .bool) hi, at_nat (c := .bool) hi2, wr_succ hi hn, hr, h1, drop_cons hi, drop_cons hi2, List.cons.injEq]
    by_cases hx : a[i] = b[i]
    · rw [decide_eq_true hx]
      simp [hx]
    · rw [decide_eq_false hx]
      simp [hx]
  · simp only [aeqb_0, lt_n, cond_f, h2]
    rw [List.drop_eq_nil_of_le (Nat.le_refl _), List.drop_eq_nil_of_le (by omega)]
    rfl
theorem aeqb_ok : FnOk Tryd.prog elT glT 60 [.sl .bool false, .sl .bool false] [.bool] aeqb_F := .fin 0 aeqb_run fun (a, b) r hb hx => ⟨a.length + 1, by
  simp only [aeqb_F, Option.some.injEq] at hx
  rw [← hx]
  simp only [aeqb_body, aeqb]
  by_cases he : a.length = b.length
  · rw [decide_eq_true (show (a.length : Int) = (b.length : Int) by omega), Bool.not_true, cond_f]
    exact aeqb_loop (c := some) hb.1.1 he (fun _ => rfl) (fun _ _ => rfl) (a.length + 1) (by omega)
  · rw [decide_eq_false (show ¬ (a.length : Int) = (b.length : Int) by omega), decide_eq_false (fun h => he (by rw [h]))]
    rfl⟩
/-! ## statements: the same? -/
instance : DecidableEq SetE := fun a b => decidable_of_iff (a.name = b.name ∧ a.e = b.e) (by
  cases a; cases b
  simp)
def setsame (a b : SetE) : Bool := decide (a.name = b.name) && xsame a.e b.e
theorem setsame_dec (a b : SetE) : setsame a b = decide (a = b) := by
  cases a; cases b
  simp only [setsame, xsame_dec, SetE.mk.injEq, Bool.decide_and]
def ssame (a b : Stm) : Bool := decide (a.kind = b.kind) && decide (a.name = b.name) && decide (a.on = b.on) && decide (a.has = b.has) && decide (a.most = b.most) && decide (a.whr = b.whr) && (decide (a.cols = b.cols) && decide (a.names = b.names) && decide (a.order = b.order) && decide (a.desc = b.desc) && decide (a.l = b.l)) && decide (a.rows = b.rows) && decide (a.sets = b.sets)
theorem ssame_iff (a b : Stm) : ssame a b = true ↔ a = b := by
  cases a; cases b
  simp only [ssame, Bool.and_eq_true, decide_eq_true_eq, Stm.mk.injEq]
  constructor
  · rintro ⟨⟨⟨⟨⟨⟨⟨⟨h1, h2⟩, h3⟩, h4⟩, h5⟩, h6⟩, ⟨⟨⟨h7, h8⟩, h9⟩, h10⟩, h11⟩, h12⟩, h13⟩
    exact ⟨h1, h2, h3, h7, h8, h11, h12, h13, h4, h6, h9, h10, h5⟩
  · rintro ⟨h1, h2, h3, h7, h8, h11, h12, h13, h4, h6, h9, h10, h5⟩
    exact ⟨⟨⟨⟨⟨⟨⟨⟨h1, h2⟩, h3⟩, h4⟩, h5⟩, h6⟩, ⟨⟨⟨h7, h8⟩, h9⟩, h10⟩, h11⟩, h12⟩, h13⟩
/-! ## exchequer/ast.Same -/
def astmts_3_sg : Sig := ⟨32, [(1, .sl .set false), (6, .bool), (15, .sl .set false), (16, .int .i64), (17, .int .i64)], [(2, .fn 64 [])], [], 40, 40, 600, [], []⟩
abbrev astmts_3_V := List SetE × Bool × List SetE × Int × Int
def astmts_3 {R : Type} (rec : astmts_3_V → Option R) (kx : Ex → astmts_3_V → Option R) (v : astmts_3_V) : Option R := match v with
 | (v36, v37, v38, v39, v40) =>
  cond (decide (v40 < v39)) (
   chk (inb v40 v38.length) (
    chk (inb v40 v36.length) (
     cond (decide (((at' .set v38 v40).name) = ((at' .set v36 v40).name))) (
      cond (!(asame (xeta ((at' .set v38 v40).e)) (xeta ((at' .set v36 v40).e)))) (
       kx .ret (v36, false, v38, v39, v40)) (
       rec (v36, v37, v38, v39, (wr .i64 (v40 + 1))))) (
      kx .ret (v36, false, v38, v39, v40))))) (
   kx (.exit 0) (v36, v37, v38, v39, v40))
def astmts_2_sg : Sig := ⟨32, [(1, .sl .expr false), (6, .bool), (15, .sl .expr false), (16, .int .i64), (17, .int .i64)], [(2, .fn 23 [])], [(0, .one (.sv .stmt)), (1, .one (.sv .stmt))], 120, 120, 600, [], []⟩
abbrev astmts_2_V := List Xpr × Bool × List Xpr × Int × Int × Stm × Stm
def astmts_2 {R : Type} (rec : astmts_2_V → Option R) (kx : Ex → astmts_2_V → Option R) (v : astmts_2_V) : Option R := match v with
 | (v17, v18, v19, v20, v21, w4, w5) =>
  cond (decide (v21 < v20)) (
   chk (inb v21 v19.length) (
    chk (inb v21 v17.length) (
     cond (!(asame (at' .expr v19 v21) (at' .expr v17 v21))) (
      kx .ret (v17, false, v19, v20, v21, w4, w5)) (
      rec (v17, v18, v19, v20, (wr .i64 (v21 + 1)), w4, w5))))) (
   kx (.exit 0) (v17, v18, v19, v20, v21, w4, w5))
def astmts_1_sg : Sig := ⟨32, [(1, .sl .exprs false), (6, .bool), (15, .sl .exprs false), (16, .int .i64), (17, .int .i64)], [(2, .fn 62 [])], [(0, .one (.sv .stmt)), (1, .one (.sv .stmt))], 40, 40, 400, [], []⟩
abbrev astmts_1_V := List (List Xpr) × Bool × List (List Xpr) × Int × Int × Stm × Stm
def astmts_1 {R : Type} (k : Nat) (rec : astmts_1_V → Option R) (kx : Ex → astmts_1_V → Option R) (v : astmts_1_V) : Option R := match v with
 | (v12, v13, v14, v15, v16, w2, w3) =>
  cond (decide (v16 < v15)) (
   chk (inb v16 v14.length) (
    chk (inb v16 v12.length) (
     cond (!decide (((at' .exprs v14 v16).length : Int) = ((at' .exprs v12 v16).length : Int))) (
      kx .ret (v12, false, v14, v15, v16, w2, w3)) (
      iter (fun rc => astmts_2 rc (fun e vz => match vz with | (_, v23, _, _, _, v27, v28) => match e with
       | .ret =>
        cond (!v23) (
         kx .ret (v12, false, v14, v15, v16, v27, v28)) (
         rec (v12, v13, v14, v15, (wr .i64 (v16 + 1)), v27, v28))
       | .exit 0 =>
        rec (v12, v13, v14, v15, (wr .i64 (v16 + 1)), v27, v28)
       | _ => none)) k ((at' .exprs v12 v16), false, (at' .exprs v14 v16), ((at' .exprs v14 v16).length : Int), 0, w2, w3))))) (
   kx (.exit 0) (v12, v13, v14, v15, v16, w2, w3))
def astmts_0_sg : Sig := ⟨32, [(1, .sl .expr false), (6, .bool), (15, .sl .expr false), (16, .int .i64), (17, .int .i64)], [(2, .fn 23 [])], [(0, .one (.sv .stmt)), (1, .one (.sv .stmt))], 40, 40, 200, [], []⟩
abbrev astmts_0_V := List Xpr × Bool × List Xpr × Int × Int × Stm × Stm
def astmts_0 {R : Type} (rec : astmts_0_V → Option R) (kx : Ex → astmts_0_V → Option R) (v : astmts_0_V) : Option R := match v with
 | (v, v1, v2, v3, v4, w, w1) =>
  cond (decide (v4 < v3)) (
   chk (inb v4 v2.length) (
    chk (inb v4 v.length) (
     cond (!(asame (at' .expr v2 v4) (at' .expr v v4))) (
      kx .ret (v, false, v2, v3, v4, w, w1)) (
      rec (v, v1, v2, v3, (wr .i64 (v4 + 1)), w, w1))))) (
   kx (.exit 0) (v, v1, v2, v3, v4, w, w1))
def astmts_pxi0 (R : Type) (k : Nat) : Px R := ⟨ttOf ttL, glT, callT [(23, callOr [.sv .expr, .sv .expr] [.bool] asame_F)], callQT [], loopT [(4, loopOr k astmts_0_sg (astmts_0))]⟩
def astmts_pxi1i0i0 (R : Type) (k : Nat) : Px R := ⟨ttOf ttL, glT, callT [(23, callOr [.sv .expr, .sv .expr] [.bool] asame_F)], callQT [], loopT [(4, loopOr k astmts_2_sg (astmts_2))]⟩
noncomputable def astmts_pxi1i0 (R : Type) (k : Nat) : Px R := ⟨ttOf ttL, glT, callT [(57, callRun 120 600 (astmts_pxi1i0i0 R k) Tryd.f57)], callQT [], loopT []⟩
noncomputable def astmts_pxi1 (R : Type) (k : Nat) : Px R := ⟨ttOf ttL, glT, callT [(62, callRun 80 600 (astmts_pxi1i0 R k) Tryd.f62)], callQT [], loopT [(4, loopOr k astmts_1_sg (astmts_1 k))]⟩
def astmts_pxi2i0 (R : Type) (_k : Nat) : Px R := ⟨ttOf ttL, glT, callT [(23, callOr [.sv .expr, .sv .expr] [.bool] asame_F)], callQT [], loopT []⟩
noncomputable def astmts_pxi2 (R : Type) (k : Nat) : Px R := ⟨ttOf ttL, glT, callT [(64, callRun 80 800 (astmts_pxi2i0 R k) Tryd.f64)], callQT [], loopT [(4, loopOr k astmts_3_sg (astmts_3))]⟩
noncomputable def astmts_px (R : Type) (k : Nat) : Px R := ⟨ttOf ttL, glT, callT [(23, callOr [.sv .expr, .sv .expr] [.bool] asame_F), (58, callOr [.sl .col false, .sl .col false] [.bool] aeqc_F), (59, callOr [.sl .str false, .sl .str false] [.bool] aeqs_F), (60, callOr [.sl .bool false, .sl .bool false] [.bool] aeqb_F), (57, callRun 40 200 (astmts_pxi0 R k) Tryd.f57), (61, callRun 40 400 (astmts_pxi1 R k) Tryd.f61), (63, callRun 40 600 (astmts_pxi2 R k) Tryd.f63)], callQT [], loopT []⟩
theorem astmts_0_eq (R : Type) (k : Nat) : ∀ (fr : List Fr) (rec : astmts_0_V → Option R) (kx : Ex → astmts_0_V → Option R) (v : astmts_0_V), round (astmts_pxi0 R k) astmts_0_sg (lp Tryd.f57 0) fr rec kx v = astmts_0 rec kx v
  | fr, rec, kx, (v, v1, v2, v3, v4, w, w1) => by kernel_rfl
theorem astmts_2_eq (R : Type) (k : Nat) : ∀ (fr : List Fr) (rec : astmts_2_V → Option R) (kx : Ex → astmts_2_V → Option R) (v : astmts_2_V), round (astmts_pxi1i0i0 R k) astmts_2_sg (lp Tryd.f57 0) fr rec kx v = astmts_2 rec kx v
  | fr, rec, kx, (v17, v18, v19, v20, v21, w4, w5) => by kernel_rfl
theorem astmts_1_eq (R : Type) (k : Nat) : ∀ (fr : List Fr) (rec : astmts_1_V → Option R) (kx : Ex → astmts_1_V → Option R) (v : astmts_1_V), round (astmts_pxi1 R k) astmts_1_sg (lp Tryd.f61 0) fr rec kx v = astmts_1 k rec kx v
  | fr, rec, kx, (v12, v13, v14, v15, v16, w2, w3) => by kernel_rfl
theorem astmts_3_eq (R : Type) (k : Nat) : ∀ (fr : List Fr) (rec : astmts_3_V → Option R) (kx : Ex → astmts_3_V → Option R) (v : astmts_3_V), round (astmts_pxi2 R k) astmts_3_sg (lp Tryd.f63 0) fr rec kx v = astmts_3 rec kx v
  | fr, rec, kx, (v36, v37, v38, v39, v40) => by kernel_rfl
def astmts_body (k : Nat) (x : HV [.sv .stmt, .sv .stmt]) : Option (HV [.bool]) := match x with
 | (a, b) =>
  let j9 := fun (p6 : Bool) =>
   let j8 := fun (p13 : Bool) (q6 : Stm) (q7 : Stm) =>
    let j7 := fun (p14 : Bool) =>
     let j6 := fun (p23 : Bool) (q24 : Stm) (q25 : Stm) =>
      cond (p23) (
       cond (!decide ((q24.sets.length : Int) = (q25.sets.length : Int))) (
        some false) (
        iter (fun rec => astmts_3 rec (fun e vz => match vz with | (_, v42, _, _, _) => match e with
         | .ret =>
          some v42
         | .exit 0 =>
          some true
         | _ => none)) k (q25.sets, false, q24.sets, (q24.sets.length : Int), 0))) (
       some false)
     cond (p14) (
      cond (!decide ((q6.rows.length : Int) = (q7.rows.length : Int))) (
       j6 false q6 q7) (
       iter (fun rec => astmts_1 k rec (fun e vz => match vz with | (_, v30, _, _, _, v34, v35) => match e with
        | .ret =>
         j6 v30 v34 v35
        | .exit 0 =>
         j6 true v34 v35
        | _ => none)) k (q7.rows, false, q6.rows, (q6.rows.length : Int), 0, q6, q7))) (
      j6 false q6 q7)
    cond (p6) (
     j7 p13) (
     j7 false)
   let j5 := fun (p7 : Bool) =>
    let j4 := fun (p8 : Bool) =>
     let j3 := fun (p9 : Bool) =>
      cond (p9) (
       cond (!decide ((a.l.length : Int) = (b.l.length : Int))) (
        j8 false a b) (
        iter (fun rec => astmts_0 rec (fun e vz => match vz with | (_, v6, _, _, _, v10, v11) => match e with
         | .ret =>
          j8 v6 v10 v11
         | .exit 0 =>
          j8 true v10 v11
         | _ => none)) k (b.l, false, a.l, (a.l.length : Int), 0, a, b))) (
       j8 false a b)
     cond (p8) (
      j3 (aeqb a.desc b.desc)) (
      j3 false)
    cond (p7) (
     j4 (aeqs a.order b.order)) (
     j4 false)
   cond ((aeqc a.cols b.cols)) (
    j5 (aeqs a.names b.names)) (
    j5 false)
  let j2 := fun (p : Bool) =>
   let j1 := fun (p1 : Bool) =>
    let j := fun (p2 : Bool) =>
     cond (p2) (
      cond (decide (a.most = b.most)) (
       j9 (asame (xeta a.whr) (xeta b.whr))) (
       j9 false)) (
      j9 false)
    cond (p1) (
     j (decide (a.has = b.has))) (
     j false)
   cond (p) (
    j1 (decide (a.on = b.on))) (
    j1 false)
  cond (decide (a.kind = b.kind)) (
   j2 (decide (a.name = b.name))) (
   j2 false)
theorem astmts_eq (k : Nat) : ∀ (x : HV [.sv .stmt, .sv .stmt]), runF (astmts_px _ k) Tryd.f24 [.sv .stmt, .sv .stmt] [.bool] x some = astmts_body k x
  | (a, b) => by kernel_rfl
theorem astmts_run (k : Nat) : FnOk Tryd.prog elT glT 24 [.sv .stmt, .sv .stmt] [.bool] (astmts_body k) := by
  refine fnOk_run Tryd.func24 rfl (by kernel_rfl) follows (by kernel_rfl) (n := 0) (by kernel_rfl) (px := astmts_px _ k) (fun cx hP hel hgl => ?_) (astmts_eq k)
  have hp1 : PxOk cx (astmts_pxi0 (HV [.bool]) k) := ⟨fun t => by rw [hP, hel]; exact tt_ok ttL_ok t, by rw [hgl]; rfl⟩
  have hc1 : CallOk cx (astmts_pxi0 (HV [.bool]) k) := callT_ok rfl (cfs_cons (cf_or (by rw [hP, hel, hgl]; exact asame_ok) (by kernel_rfl)) cfs_nil)
  have hq1 : CallQOk cx (astmts_pxi0 (HV [.bool]) k) := callQT_ok rfl cqfs_nil
  have hlastmts_0 : LoopOk cx (astmts_pxi0 (HV [.bool]) k) (lp Tryd.f57 0) := loop_ok hp1 hc1 hq1 (by rw [hP]; exact follows) (k := k) (s := astmts_0_sg) (step := astmts_0) (fun _ _ => by kernel_rfl) (by kernel_rfl) (astmts_0_eq _ k) (loops_in (n := 0) (by kernel_rfl) all0)
  have hp4 : PxOk cx (astmts_pxi1i0i0 (HV [.bool]) k) := ⟨fun t => by rw [hP, hel]; exact tt_ok ttL_ok t, by rw [hgl]; rfl⟩
  have hc4 : CallOk cx (astmts_pxi1i0i0 (HV [.bool]) k) := callT_ok rfl (cfs_cons (cf_or (by rw [hP, hel, hgl]; exact asame_ok) (by kernel_rfl)) cfs_nil)
  have hq4 : CallQOk cx (astmts_pxi1i0i0 (HV [.bool]) k) := callQT_ok rfl cqfs_nil
  have hlastmts_2 : LoopOk cx (astmts_pxi1i0i0 (HV [.bool]) k) (lp Tryd.f57 0) := loop_ok hp4 hc4 hq4 (by rw [hP]; exact follows) (k := k) (s := astmts_2_sg) (step := astmts_2) (fun _ _ => by kernel_rfl) (by kernel_rfl) (astmts_2_eq _ k) (loops_in (n := 0) (by kernel_rfl) all0)
  have hp3 : PxOk cx (astmts_pxi1i0 (HV [.bool]) k) := ⟨fun t => by rw [hP, hel]; exact tt_ok ttL_ok t, by rw [hgl]; rfl⟩
  have hc3 : CallOk cx (astmts_pxi1i0 (HV [.bool]) k) := callT_ok rfl (cfs_cons (cf_run hp4 hc4 hq4 (by rw [hP]; exact follows) (by rw [hP]; exact Tryd.func57) rfl (by kernel_rfl) (by kernel_rfl) (n := 1) (by kernel_rfl) ((allS all0 hlastmts_2))) cfs_nil)
  have hq3 : CallQOk cx (astmts_pxi1i0 (HV [.bool]) k) := callQT_ok rfl cqfs_nil
  have hp2 : PxOk cx (astmts_pxi1 (HV [.bool]) k) := ⟨fun t => by rw [hP, hel]; exact tt_ok ttL_ok t, by rw [hgl]; rfl⟩
  have hc2 : CallOk cx (astmts_pxi1 (HV [.bool]) k) := callT_ok rfl (cfs_cons (cf_run hp3 hc3 hq3 (by rw [hP]; exact follows) (by rw [hP]; exact Tryd.func62) rfl (by kernel_rfl) (by kernel_rfl) (n := 0) (by kernel_rfl) (all0)) cfs_nil)
  have hq2 : CallQOk cx (astmts_pxi1 (HV [.bool]) k) := callQT_ok rfl cqfs_nil
  have hlastmts_1 : LoopOk cx (astmts_pxi1 (HV [.bool]) k) (lp Tryd.f61 0) := loop_ok hp2 hc2 hq2 (by rw [hP]; exact follows) (k := k) (s := astmts_1_sg) (step := astmts_1 k) (fun _ _ => by kernel_rfl) (by kernel_rfl) (astmts_1_eq _ k) (loops_in (n := 0) (by kernel_rfl) all0)
  have hp6 : PxOk cx (astmts_pxi2i0 (HV [.bool]) k) := ⟨fun t => by rw [hP, hel]; exact tt_ok ttL_ok t, by rw [hgl]; rfl⟩
  have hc6 : CallOk cx (astmts_pxi2i0 (HV [.bool]) k) := callT_ok rfl (cfs_cons (cf_or (by rw [hP, hel, hgl]; exact asame_ok) (by kernel_rfl)) cfs_nil)
  have hq6 : CallQOk cx (astmts_pxi2i0 (HV [.bool]) k) := callQT_ok rfl cqfs_nil
  have hp5 : PxOk cx (astmts_pxi2 (HV [.bool]) k) := ⟨fun t => by rw [hP, hel]; exact tt_ok ttL_ok t, by rw [hgl]; rfl⟩
  have hc5 : CallOk cx (astmts_pxi2 (HV [.bool]) k) := callT_ok rfl (cfs_cons (cf_run hp6 hc6 hq6 (by rw [hP]; exact follows) (by rw [hP]; exact Tryd.func64) rfl (by kernel_rfl) (by kernel_rfl) (n := 0) (by kernel_rfl) (all0)) cfs_nil)
  have hq5 : CallQOk cx (astmts_pxi2 (HV [.bool]) k) := callQT_ok rfl cqfs_nil
  have hlastmts_3 : LoopOk cx (astmts_pxi2 (HV [.bool]) k) (lp Tryd.f63 0) := loop_ok hp5 hc5 hq5 (by rw [hP]; exact follows) (k := k) (s := astmts_3_sg) (step := astmts_3) (fun _ _ => by kernel_rfl) (by kernel_rfl) (astmts_3_eq _ k) (loops_in (n := 0) (by kernel_rfl) all0)
  have hp0 : PxOk cx (astmts_px (HV [.bool]) k) := ⟨fun t => by rw [hP, hel]; exact tt_ok ttL_ok t, by rw [hgl]; rfl⟩
  have hc0 : CallOk cx (astmts_px (HV [.bool]) k) := callT_ok rfl (cfs_cons (cf_or (by rw [hP, hel, hgl]; exact asame_ok) (by kernel_rfl)) (cfs_cons (cf_or (by rw [hP, hel, hgl]; exact aeqc_ok) (by kernel_rfl)) (cfs_cons (cf_or (by rw [hP, hel, hgl]; exact aeqs_ok) (by kernel_rfl)) (cfs_cons (cf_or (by rw [hP, hel, hgl]; exact aeqb_ok) (by kernel_rfl)) (cfs_cons (cf_run hp1 hc1 hq1 (by rw [hP]; exact follows) (by rw [hP]; exact Tryd.func57) rfl (by kernel_rfl) (by kernel_rfl) (n := 1) (by kernel_rfl) ((allS all0 hlastmts_0))) (cfs_cons (cf_run hp2 hc2 hq2 (by rw [hP]; exact follows) (by rw [hP]; exact Tryd.func61) rfl (by kernel_rfl) (by kernel_rfl) (n := 1) (by kernel_rfl) ((allS all0 hlastmts_1))) (cfs_cons (cf_run hp5 hc5 hq5 (by rw [hP]; exact follows) (by rw [hP]; exact Tryd.func63) rfl (by kernel_rfl) (by kernel_rfl) (n := 1) (by kernel_rfl) ((allS all0 hlastmts_3))) cfs_nil)))))))
  have hq0 : CallQOk cx (astmts_px (HV [.bool]) k) := callQT_ok rfl cqfs_nil
  exact ⟨hp0, hc0, hq0, all0⟩
def astmts (a b : Stm) : Bool := ssame a b
def astmts_F : FT [.sv .stmt, .sv .stmt] [.bool] := fun x => some (astmts x.1 x.2)
theorem dec_cons {α : Type} [DecidableEq α] (x y : α) (l m : List α) : decide (x :: l = y :: m) = (decide (x = y) && decide (l = m)) := by
  simp only [List.cons.injEq, Bool.decide_and]
theorem astmts_0_loop {R : Type} {kx : Ex → astmts_0_V → Option R} {l m : List Xpr} {s t : Stm} {c : Bool → Option R} (hn : ln l.length) (hm : l.length = m.length)
    (h1 : ∀ i, kx .ret (m, false, l, (l.length : Int), i, s, t) = c false) (h2 : ∀ q i, kx (.exit 0) (m, q, l, (l.length : Int), i, s, t) = c true) (k : Nat) (hk : l.length < k) : iter (fun rec => astmts_0 rec kx) k (m, false, l, (l.length : Int), 0, s, t) = c (decide (l = m)) := by
  refine (iter_ind0 l.length (fun i => (m, false, l, (l.length : Int), (i : Int), s, t)) (fun i => c (decide (l.drop i = m.drop i))) (fun i hi rec hr => ?_) (fun rec => ?_) k 0 (Nat.zero_le _) (by omega)).trans (by rw [List.drop_zero, List.drop_zero])
  · have hi2 : i < m.length := by omega
    simp only [astmts_0, lt_t hi, cond_t, inb_t hi, inb_t hi2, chk, at_nat (c := .expr) hi, at_nat (c := .expr) hi2, wr_succ hi hn, hr, h1, drop_cons hi, drop_cons hi2, dec_cons, asame, xsame_dec]
    cases decide (l[i] = m[i]) <;> rfl
  · simp only [astmts_0, lt_n, cond_f, h2]
    rw [List.drop_eq_nil_of_le (Nat.le_refl _), List.drop_eq_nil_of_le (by omega)]
    rfl
theorem astmts_2_loop {R : Type} {kx : Ex → astmts_2_V → Option R} {l m : List Xpr} {s t : Stm} {c : Bool → Option R} (hn : ln l.length) (hm : l.length = m.length)
    (h1 : ∀ i, kx .ret (m, false, l, (l.length : Int), i, s, t) = c false) (h2 : ∀ q i, kx (.exit 0) (m, q, l, (l.length : Int), i, s, t) = c true) (k : Nat) (hk : l.length < k) : iter (fun rec => astmts_2 rec kx) k (m, false, l, (l.length : Int), 0, s, t) = c (decide (l = m)) := by
  refine (iter_ind0 l.length (fun i => (m, false, l, (l.length : Int), (i : Int), s, t)) (fun i => c (decide (l.drop i = m.drop i))) (fun i hi rec hr => ?_) (fun rec => ?_) k 0 (Nat.zero_le _) (by omega)).trans (by rw [List.drop_zero, List.drop_zero])
  · have hi2 : i < m.length := by omega
    simp only [astmts_2, lt_t hi, cond_t, inb_t hi, inb_t hi2, chk, at_nat (c := .expr) hi, at_nat (c := .expr) hi2, wr_succ hi hn, hr, h1, drop_cons hi, drop_cons hi2, dec_cons, asame, xsame_dec]
    cases decide (l[i] = m[i]) <;> rfl
  · simp only [astmts_2, lt_n, cond_f, h2]
    rw [List.drop_eq_nil_of_le (Nat.le_refl _), List.drop_eq_nil_of_le (by omega)]
    rfl
theorem astmts_1_loop {R : Type} {kx : Ex → astmts_1_V → Option R} {l m : List (List Xpr)} {s t : Stm} {c : Bool → Option R} (hn : ln l.length) (hm : l.length = m.length) (hr0 : ∀ x, x ∈ l → ln x.length) (k : Nat) (hkr : ∀ x, x ∈ l → List.length x < k)
    (h1 : ∀ i, kx .ret (m, false, l, (l.length : Int), i, s, t) = c false) (h2 : ∀ q i, kx (.exit 0) (m, q, l, (l.length : Int), i, s, t) = c true) (hk : l.length < k) : iter (fun rec => astmts_1 k rec kx) k (m, false, l, (l.length : Int), 0, s, t) = c (decide (l = m)) := by
  refine (iter_ind0 l.length (fun i => (m, false, l, (l.length : Int), (i : Int), s, t)) (fun i => c (decide (l.drop i = m.drop i))) (fun i hi rec hr => ?_) (fun rec => ?_) k 0 (Nat.zero_le _) (by omega)).trans (by rw [List.drop_zero, List.drop_zero])
  · have hi2 : i < m.length := by omega
    simp only [astmts_1, lt_t hi, cond_t, inb_t hi, inb_t hi2, chk, at_nat (c := .exprs) hi, at_nat (c := .exprs) hi2, wr_succ hi hn, drop_cons hi, drop_cons hi2, dec_cons]
    by_cases hlen : l[i].length = m[i].length
    · rw [decide_eq_true (show (l[i].length : Int) = (m[i].length : Int) by omega), Bool.not_true, cond_f]
      rw [astmts_2_loop (c := fun b => cond b (c (decide (l.drop (i + 1) = m.drop (i + 1)))) (c false)) (hr0 _ (List.getElem_mem hi)) hlen (fun _ => h1 _) (fun _ _ => hr) k (hkr _ (List.getElem_mem hi))]
      cases decide (l[i] = m[i]) <;> rfl
    · rw [decide_eq_false (show ¬ (l[i].length : Int) = (m[i].length : Int) by omega), decide_eq_false (fun h => hlen (by rw [h])), h1]
      rfl
  · simp only [astmts_1, lt_n, cond_f, h2]
    rw [List.drop_eq_nil_of_le (Nat.le_refl _), List.drop_eq_nil_of_le (by omega)]
    rfl
theorem astmts_3_loop {R : Type} {kx : Ex → astmts_3_V → Option R} {l m : List SetE} {c : Bool → Option R} (hn : ln l.length) (hm : l.length = m.length)
    (h1 : ∀ i, kx .ret (m, false, l, (l.length : Int), i) = c false) (h2 : ∀ q i, kx (.exit 0) (m, q, l, (l.length : Int), i) = c true) (k : Nat) (hk : l.length < k) : iter (fun rec => astmts_3 rec kx) k (m, false, l, (l.length : Int), 0) = c (decide (l = m)) := by
  refine (iter_ind0 l.length (fun i => (m, false, l, (l.length : Int), (i : Int))) (fun i => c (decide (l.drop i = m.drop i))) (fun i hi rec hr => ?_) (fun rec => ?_) k 0 (Nat.zero_le _) (by omega)).trans (by rw [List.drop_zero, List.drop_zero])
  · have hi2 : i < m.length := by omega
    simp only [astmts_3, lt_t hi, cond_t, inb_t hi, inb_t hi2, chk, at_nat (c := .set) hi, at_nat (c := .set) hi2, wr_succ hi hn, hr, h1, drop_cons hi, drop_cons hi2, dec_cons, asame, ← setsame_dec, setsame, xeta_eq]
    cases decide (l[i].name = m[i].name) <;> cases xsame l[i].e m[i].e <;> rfl
  · simp only [astmts_3, lt_n, cond_f, h2]
    rw [List.drop_eq_nil_of_le (Nat.le_refl _), List.drop_eq_nil_of_le (by omega)]
    rfl
theorem dec_len {α : Type} [DecidableEq α] {l m : List α} (h : ¬ l.length = m.length) : decide (l = m) = false := decide_eq_false fun e => h (by rw [e])
def smax (s : Stm) : Nat := s.l.length + s.rows.length + s.sets.length + (s.rows.map List.length).sum
theorem sum_mem {l : List (List Xpr)} {x : List Xpr} (h : x ∈ l) : x.length ≤ (l.map List.length).sum := by
  induction l with
  | nil => cases h
  | cons y l ih =>
    simp only [List.map_cons, List.sum_cons]
    rcases List.mem_cons.1 h with rfl | h
    · omega
    · have := ih h; omega
theorem astmts_b (k : Nat) (a b : Stm) (hb : BdStm a) (hk : smax a < k) : astmts_body k (a, b) = some (ssame a b) := by
  have hk2 := hk
  simp only [smax] at hk2
  simp -zeta only [astmts_body, asame, xsame_dec, xeta_eq, aeqc, aeqs, aeqb]
  extract_lets j6 j9 j j1 j2
  have h6 : ∀ q, j6 q a b = some (q && decide (a.sets = b.sets)) := fun q => by
    simp -zeta only [j6]
    cases q with
    | false => rfl
    | true =>
      rw [cond_t, Bool.true_and]
      by_cases hs : a.sets.length = b.sets.length
      · rw [decide_eq_true (show (a.sets.length : Int) = (b.sets.length : Int) by omega), Bool.not_true, cond_f]
        exact astmts_3_loop (c := some) hb.sets.1 hs (fun _ => rfl) (fun _ _ => rfl) k (by omega)
      · rw [decide_eq_false (show ¬ (a.sets.length : Int) = (b.sets.length : Int) by omega), dec_len hs]
        rfl
  have h9 : ∀ p, j9 p = some (p && (decide (a.cols = b.cols) && decide (a.names = b.names) && decide (a.order = b.order) && decide (a.desc = b.desc) && decide (a.l = b.l)) && decide (a.rows = b.rows) && decide (a.sets = b.sets)) := fun p => by
    simp -zeta only [j9]
    extract_lets j8 j3 j4 j5
    have h8 : ∀ q, j8 q a b = some (p && q && decide (a.rows = b.rows) && decide (a.sets = b.sets)) := fun q => by
      simp -zeta only [j8]
      extract_lets j7
      have h7 : ∀ q, j7 q = some (q && decide (a.rows = b.rows) && decide (a.sets = b.sets)) := fun q => by
        simp -zeta only [j7]
        cases q with
        | false => exact (h6 false).trans rfl
        | true =>
          rw [cond_t, Bool.true_and]
          by_cases hs : a.rows.length = b.rows.length
          · rw [decide_eq_true (show (a.rows.length : Int) = (b.rows.length : Int) by omega), Bool.not_true, cond_f]
            refine (astmts_1_loop (c := fun q => j6 q a b) hb.rows.1 hs (fun x hx => (hb.rows.2 x hx).1) k (fun x hx => by have := sum_mem hx; omega) (fun _ => rfl) (fun _ _ => rfl) (by omega)).trans (h6 _)
          · rw [decide_eq_false (show ¬ (a.rows.length : Int) = (b.rows.length : Int) by omega), dec_len hs]
            exact (h6 false).trans rfl
      cases p with
      | false => exact (h7 false).trans rfl
      | true => exact (h7 q).trans (by rw [Bool.true_and])
    have h3 : ∀ q, j3 q = some (p && (q && decide (a.l = b.l)) && decide (a.rows = b.rows) && decide (a.sets = b.sets)) := fun q => by
      simp -zeta only [j3]
      cases q with
      | false => exact h8 false
      | true =>
        rw [cond_t, Bool.true_and]
        by_cases hs : a.l.length = b.l.length
        · rw [decide_eq_true (show (a.l.length : Int) = (b.l.length : Int) by omega), Bool.not_true, cond_f]
          exact (astmts_0_loop (c := fun q => j8 q a b) hb.l.1 hs (fun _ => rfl) (fun _ _ => rfl) k (by omega)).trans (h8 _)
        · rw [decide_eq_false (show ¬ (a.l.length : Int) = (b.l.length : Int) by omega), dec_len hs]
          exact h8 false
    have h4 : ∀ q, j4 q = some (p && (q && decide (a.desc = b.desc) && decide (a.l = b.l)) && decide (a.rows = b.rows) && decide (a.sets = b.sets)) := fun q => by
      simp -zeta only [j4]
      cases q with
      | false => exact h3 false
      | true => exact (h3 _).trans (by rw [Bool.true_and])
    have h5 : ∀ q, j5 q = some (p && (q && decide (a.order = b.order) && decide (a.desc = b.desc) && decide (a.l = b.l)) && decide (a.rows = b.rows) && decide (a.sets = b.sets)) := fun q => by
      simp -zeta only [j5]
      cases q with
      | false => exact h4 false
      | true => exact (h4 _).trans (by rw [Bool.true_and])
    cases decide (a.cols = b.cols) with
    | false => exact h5 false
    | true => exact (h5 _).trans (by simp only [Bool.true_and])
  simp -zeta only [j2, j1, j, ssame]
  cases decide (a.kind = b.kind) with
  | false => exact (h9 false).trans rfl
  | true =>
    cases decide (a.name = b.name) with
    | false => exact (h9 false).trans rfl
    | true =>
      cases decide (a.on = b.on) with
      | false => exact (h9 false).trans rfl
      | true =>
        cases decide (a.has = b.has) with
        | false => exact (h9 false).trans rfl
        | true =>
          cases decide (a.most = b.most) with
          | false => exact (h9 false).trans rfl
          | true => exact (h9 _).trans (by simp only [Bool.true_and])
theorem astmts_ok : FnOk Tryd.prog elT glT 24 [.sv .stmt, .sv .stmt] [.bool] astmts_F := .fin 0 astmts_run fun (a, b) r hb hx => ⟨smax a + 1, (astmts_b (smax a + 1) a b hb.1 (by omega)).trans hx⟩
end Go.Proofs.YtjpcghlpkinahaaDoor
