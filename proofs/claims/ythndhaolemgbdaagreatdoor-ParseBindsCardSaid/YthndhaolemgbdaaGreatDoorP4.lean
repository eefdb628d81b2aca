/- Texts of the proof, one behind the other: Tw, Pa, Lc, Na, Lm, Ar, Lx, Ix, Ly, Lz, Shp, Sr, Dg, Nc, Eb, Fc, Es, En, Ep, Ac. -/
import Derived.Test.YthndhaolemgbdaaGreatDoorP3
import Derived.Test.YthndhaolemgbdaaGreatDoorProg
import Derived.KernelRfl
import Derived.Lib.Bytealg
import Derived.Shelf.Strings.Replace
/- What the machine is told: the seat's types, package-level variables. -/
namespace Go.Proofs.YthndhaolemgbdaaGreatDoor
open Go.Ax
def signsL : List (Int × Str) := [(4, [65, 78, 68]), (5, [79, 82]), (6, [61]), (7, [60, 62]), (8, [60]), (9, [60, 61]), (10, [62]), (11, [62, 61]), (12, [43]), (13, [45]), (14, [42])]
def wordsL : List Str := [[65, 68, 68], [65, 78, 68], [65, 83, 67], [66, 79, 79, 76], [66, 89], [66, 89, 84, 69, 83], [67, 72, 69, 67, 75], [67, 82, 69, 65, 84, 69], [68, 69, 76, 69, 84, 69], [68, 69, 83, 67], [68, 82, 79, 80], [70, 65, 76, 83, 69], [70, 82, 79, 77], [73, 78, 68, 69, 88], [73, 78, 83, 69, 82, 84], [73, 78, 84], [73, 78, 84, 79], [73, 83], [75, 69, 89], [76, 73, 77, 73, 84], [78, 79, 84], [78, 85, 76, 76], [79, 78], [79, 82], [79, 82, 68, 69, 82], [80, 82, 73, 77, 65, 82, 89], [82, 69, 70, 69, 82, 69, 78, 67, 69, 83], [83, 69, 76, 69, 67, 84], [83, 69, 84], [84, 65, 66, 76, 69], [84, 69, 88, 84], [84, 82, 85, 69], [85, 78, 73, 81, 85, 69], [85, 80, 68, 65, 84, 69], [86, 65, 76, 85, 69, 83], [87, 72, 69, 82, 69]]
def kindsL : List Str := [[], [], [66, 79, 79, 76], [73, 78, 84], [84, 69, 88, 84], [66, 89, 84, 69, 83]]
/-- the types -/
def ttL : List (Nat × Ax.Ty) := [
  (1, .fn),
  (3, .int .i64),
  (4, .bool),
  (5, .int .u8),
  (9, .str),
  (21, .int .i32),
  (23, .st (some .val) [(0, 3), (1, 3), (2, 9)] [.int .i64 0, .int .i64 0, .str []]),
  (24, .sl .expr),
  (26, .st (some .expr) [(0, 3), (1, 23), (4, 9), (5, 24)] [.int .i64 0, .int .i64 0, .int .i64 0, .str [], .str [], .sl .expr [] .nil]),
  (29, .int .i64),
  (34, .sl .str),
  (38, .fn),
  (39, .sl .col),
  (40, .sl .exprs),
  (41, .sl .set),
  (42, .sl .bool),
  (44, .st (some .stmt) [(0, 3), (1, 9), (2, 9), (3, 39), (4, 34), (5, 24), (6, 40), (7, 41), (8, 4), (9, 26), (15, 34), (16, 42), (17, 3)] [.int .i64 0, .str [], .str [], .sl .col [] .nil, .sl .str [] .nil, .sl .expr [] .nil, .sl .exprs [] .nil, .sl .set [] .nil, .bool false, .int .i64 0, .int .i64 0, .int .i64 0, .str [], .str [], .sl .expr [] .nil, .sl .str [] .nil, .sl .bool [] .nil, .int .i64 0]),
  (63, .sl .tok),
  (67, .st (some .tok) [(0, 3), (1, 3), (2, 9), (3, 3)] [.int .i64 0, .int .i64 0, .str [], .int .i64 0]),
  (68, .int .u64),
  (71, .sl .int),
  (77, .ptr),
  (78, .sl .byte),
  (80, .st none [(0, 77), (1, 78)] [.nilp, .sl .byte [] .nil]),
  (82, .st none [(0, 80)] [.nilp, .sl .byte [] .nil]),
  (83, .fn),
  (89, .st (some .set) [(0, 9), (1, 26)] [.str [], .int .i64 0, .int .i64 0, .int .i64 0, .str [], .str [], .sl .expr [] .nil]),
  (94, .fn),
  (100, .st (some .num) [(0, 4), (1, 71)] [.bool false, .sl .int [] .nil]),
  (106, .fn),
  (111, .st (some .col) [(0, 9), (1, 3), (2, 4), (3, 4), (4, 9)] [.str [], .int .i64 0, .bool false, .bool false, .str []]),
  (118, .fn),
  (120, .fn),
  (121, .ptr),
  (126, .st none [(0, 63), (1, 3)] [.sl .tok [] .nil, .int .i64 0]),
  (128, .st none [(0, 126), (2, 4), (3, 3)] [.sl .tok [] .nil, .int .i64 0, .bool false, .int .i64 0]),
  (130, .st (some .got) [(0, 3), (1, 4)] [.int .i64 0, .bool false]),
  (135, .fn),
  (144, .fn),
  (145, .ptr),
  (147, .map),
  (148, .ptr),
  (158, .fn),
  (164, .ptr),
  (176, .st (some .pair) [(0, 9), (1, 3)] [.str [], .int .i64 0]),
  (188, .arr 2 .str),
  (191, .arr 6 .str),
  (194, .ptr),
  (201, .sl .pair),
  (202, .int .u64),
  (221, .arr 36 .str),
  (226, .arr 256 .byte),
  (228, .st none [(0, 5), (1, 5)] [.int .u8 0, .int .u8 0]),
  (230, .int .u32),
  (233, .fn)]
def elT : Ck → TypeId
  | .byte => 5
  | .int => 3
  | .u64 => 202
  | .str => 9
  | .bool => 4
  | .val => 23
  | .tok => 67
  | .col => 111
  | .expr => 26
  | .num => 100
  | .set => 89
  | .stmt => 44
  | .got => 130
  | .pair => 176
  | .exprs => 24
  | .strs => 34
  | .bytes => 78
  | _ => 0
theorem ttL_ok : (ttL.all fun p => tyOk Tryz.prog elT (ttOf ttL) p.1) = true := by kernel_rfl
def glT : Nat → Option Gv := tbl [(0, .map signsL), (1, .arr .str kindsL), (2, .arr .str wordsL), (3, .num .i64)]
theorem follows : Tryz.prog.follows .mixedOrders = true := by kernel_rfl
end Go.Proofs.YthndhaolemgbdaaGreatDoor

/- The lexer as plain Lean: what the program's functions and the document's come to; the document's is the program's; tokens of a text as a relation. -/
namespace Go.Proofs.YthndhaolemgbdaaGreatDoor.Lp
open Go.Sx Go.RowKit
abbrev Tok := Go.Ax.Tok
/-! from Lib -/
/-- does a text begin with another? -/
def pre (l m : List UInt8) : Bool := decide (m.length ≤ l.length) && decide (l.take m.length = m)

/-! from Va -/
theorem mul_bd (a b c d : Int) (h : 0 ≤ a ∧ a ≤ c) (h' : 0 ≤ b ∧ b ≤ d) : 0 ≤ a * b ∧ a * b ≤ c * d :=
  ⟨Int.mul_nonneg h.1 h'.1, Int.mul_le_mul h.2 h'.2 h'.1 (by omega)⟩
theorem mul64_split (x y : Int) : x * y = (x / 4294967296) * (y / 4294967296) * 18446744073709551616 + ((x / 4294967296) * (y % 4294967296) + (x % 4294967296) * (y / 4294967296)) * 4294967296 + (x % 4294967296) * (y % 4294967296) := by
  have hx := Int.mul_ediv_add_emod x 4294967296
  have hy := Int.mul_ediv_add_emod y 4294967296
  generalize x / 4294967296 = p at *
  generalize x % 4294967296 = q at *
  generalize y / 4294967296 = r at *
  generalize y % 4294967296 = s at *
  rw [← hx, ← hy]
  simp only [Int.add_mul, Int.mul_add]
  have e1 : 4294967296 * p * (4294967296 * r) = p * r * 18446744073709551616 := by
    rw [Int.mul_assoc, Int.mul_left_comm p, ← Int.mul_assoc]
    omega
  have e2 : 4294967296 * p * s = p * s * 4294967296 := by rw [Int.mul_assoc]; omega
  have e3 : q * (4294967296 * r) = q * r * 4294967296 := by rw [Int.mul_left_comm]; omega
  omega
def inI (n : Int) : Prop := -9223372036854775808 ≤ n ∧ n ≤ 9223372036854775807
instance (n : Int) : Decidable (inI n) := by unfold inI; infer_instance
def absI (n : Int) : Int := if n < 0 then -n else n

/-! from Vb -/
def vis (c : Int) : Bool := decide (32 ≤ c) && decide (c ≤ 126)
def visF (l : List UInt8) : Bool := l.all fun b => vis b.toNat
theorem getD_drop (l : List UInt8) (j : Int) (h : 0 ≤ j ∧ j < l.length) : l.drop j.toNat = l.getD j.toNat 0 :: l.drop (j + 1).toNat := by
  have h1 : j.toNat < l.length := by omega
  have h2 : (j + 1).toNat = j.toNat + 1 := by omega
  rw [h2, List.drop_eq_getElem_cons h1]
  simp [List.getD_eq_getElem?_getD, h1]
theorem all_drop (p : Int → Bool) (l : List UInt8) (j : Int) (h : 0 ≤ j ∧ j < l.length) : ((l.drop j.toNat).all fun b => p b.toNat) = (p (byt l j) && (l.drop (j + 1).toNat).all fun b => p b.toNat) := by
  rw [getD_drop l j h]
  rfl
/-- may it be? -/
def rightF (k n : Int) (s : List UInt8) : Bool :=
  if k = 1 then n == 0 && decide (s = []) else if k = 2 then (n == 0 || n == 1) && decide (s = []) else if k = 3 then decide (s = [])
  else if k = 4 then n == 0 && decide ((s.length : Int) ≤ 1000) && visF s else if k = 5 then n == 0 && decide ((s.length : Int) ≤ 1000) else false
def checkF (k n : Int) (s : List UInt8) : Int := if rightF k n s then 0 else 2

/-! from LxA -/
def isUp (c : Int) : Bool := decide (65 ≤ c) && decide (c ≤ 90)
def isLo (c : Int) : Bool := decide (97 ≤ c) && decide (c ≤ 122)
def isDi (c : Int) : Bool := decide (48 ≤ c) && decide (c ≤ 57)
def isIn (c : Int) : Bool := isLo c || isDi c || c == 95
/-- where bytes of a kind end -/
def runTo (p : Int → Bool) (l : List UInt8) (i : Int) : Int := i + ((l.drop i.toNat).takeWhile fun b => p b.toNat).length
theorem drop_at (l : List UInt8) (j : Int) (h : 0 ≤ j ∧ j < l.length) : l.drop j.toNat = l.getD j.toNat 0 :: l.drop (j + 1).toNat := by
  have h1 : j.toNat < l.length := by omega
  have h2 : (j + 1).toNat = j.toNat + 1 := by omega
  rw [h2, List.drop_eq_getElem_cons h1]
  simp [List.getD_eq_getElem?_getD, h1]
theorem runTo_yes {p : Int → Bool} {l : List UInt8} {j : Int} (h : 0 ≤ j ∧ j < l.length) (hp : p (byt l j) = true) : runTo p l (j + 1) = runTo p l j := by
  unfold runTo
  rw [drop_at l j h]
  have : p ((l.getD j.toNat 0).toNat : Int) = true := hp
  simp only [List.takeWhile_cons, this, if_true, List.length_cons]
  omega
theorem runTo_no {p : Int → Bool} {l : List UInt8} {j : Int} (h : 0 ≤ j ∧ j < l.length) (hp : p (byt l j) = false) : runTo p l j = j := by
  unfold runTo
  rw [drop_at l j h]
  have : p ((l.getD j.toNat 0).toNat : Int) = false := hp
  simp only [List.takeWhile_cons, this, Bool.false_eq_true, if_false, List.length_nil]
  omega
theorem runTo_end {p : Int → Bool} {l : List UInt8} {j : Int} (h : (l.length : Int) ≤ j) : runTo p l j = j := by
  unfold runTo
  rw [List.drop_eq_nil_of_le (by omega)]
  simp
def aloneF (l : List UInt8) (i : Int) : Bool := i == l.length || !isIn (byt l i) && !isUp (byt l i)

/-! from LxB -/
/-- the digit that a byte is -/
def dg (c : Int) : Int := IntKind.i64.wrap (IntKind.u8.wrap (c - 48))
theorem dg_in (c : Int) : 0 ≤ dg c ∧ dg c ≤ 255 := by
  have e1 : IntKind.u8.wrap (c - 48) = (c - 48) % 256 := by simp [IntKind.wrap, IntKind.bits, IntKind.signed]
  unfold dg
  rw [e1, IntWalk.i64_in _ (by omega)]
  omega
/-- a number out of digits -/
def numGo : List UInt8 → Int → Option Int
  | [], n => some n
  | c :: r, n => if inI (n * 10) ∧ inI (n * 10 + dg c.toNat) then numGo r (n * 10 + dg c.toNat) else none
theorem inI_dg (c : Int) : inI (dg c) := by have := dg_in c; unfold inI; omega
/-- what is meant between quotes, and where it ends -/
def qGo : List UInt8 → List UInt8 → Int → List UInt8 × Int
  | [], _, _ => ([], -1)
  | [c], acc, i => if c = 39 then (acc, i + 1) else ([], -1)
  | c :: d :: r, acc, i => if c = 39 then (if d = 39 then qGo r (acc ++ [39]) (i + 2) else (acc, i + 1)) else qGo (d :: r) (acc ++ [c]) (i + 1)
theorem byt_lit {l : List UInt8} {j : Int} {c : UInt8} : byt l j = (c.toNat : Int) ↔ l.getD j.toNat 0 = c := by
  unfold byt
  rw [← UInt8.toNat_inj]
  omega
theorem q_end {l acc : List UInt8} {j : Int} (h : (l.length : Int) ≤ j) : qGo (l.drop j.toNat) acc j = ([], -1) := by
  rw [List.drop_eq_nil_of_le (by omega)]
  rfl
theorem q_last {l acc : List UInt8} {j : Int} (h : 0 ≤ j) (hl : j + 1 = l.length) (hc : byt l j = 39) : qGo (l.drop j.toNat) acc j = (acc, j + 1) := by
  rw [drop_at l j (by omega), (byt_lit (c := 39)).1 hc, List.drop_eq_nil_of_le (by omega)]
  rfl
theorem q_close {l acc : List UInt8} {j : Int} (h : 0 ≤ j) (hl : j + 1 < l.length) (hc : byt l j = 39) (hd : byt l (j + 1) ≠ 39) : qGo (l.drop j.toNat) acc j = (acc, j + 1) := by
  have hd' : ¬ l.getD (j + 1).toNat 0 = 39 := fun hh => hd ((byt_lit (c := 39)).2 hh)
  rw [drop_at l j (by omega), (byt_lit (c := 39)).1 hc, drop_at l (j + 1) (by omega)]
  simp only [qGo, if_true, if_neg hd']
theorem q_two {l acc : List UInt8} {j : Int} (h : 0 ≤ j) (hl : j + 1 < l.length) (hc : byt l j = 39) (hd : byt l (j + 1) = 39) : qGo (l.drop j.toNat) acc j = qGo (l.drop (j + 1 + 1).toNat) (acc ++ [39]) (j + 1 + 1) := by
  rw [drop_at l j (by omega), (byt_lit (c := 39)).1 hc, drop_at l (j + 1) (by omega), (byt_lit (c := 39)).1 hd]
  simp only [qGo, if_true]
  rw [show j + 2 = j + 1 + 1 by omega]
theorem q_other {l acc : List UInt8} {j : Int} (h : 0 ≤ j) (hl : j < l.length) (hc : ¬ byt l j = 39) : qGo (l.drop j.toNat) acc j = qGo (l.drop (j + 1).toNat) (acc ++ [l.getD j.toNat 0]) (j + 1) := by
  have hc' : ¬ l.getD j.toNat 0 = 39 := fun hh => hc ((byt_lit (c := 39)).2 hh)
  rw [drop_at l j (by omega)]
  cases hd : l.drop (j + 1).toNat with
  | nil => simp only [qGo, if_neg hc']
  | cons d r => simp only [qGo, if_neg hc']

/-! from LxC -/
def hexD (c : Int) : Option Int := if 48 ≤ c ∧ c ≤ 57 then some (c - 48) else if 97 ≤ c ∧ c ≤ 102 then some (c - 87) else none
theorem hexD_lt {c n : Int} (h : hexD c = some n) : 0 ≤ n ∧ n ≤ 15 := by
  unfold hexD at h
  split at h
  · cases h; omega
  · split at h
    · cases h; omega
    · cases h
/-- bytes out of hex digits, behind what was read -/
def unGo : List UInt8 → List UInt8 → Option (List UInt8)
  | [], acc => some acc
  | [_], _ => none
  | a :: b :: r, acc => match hexD a.toNat, hexD b.toNat with
    | some x, some y => unGo r (acc ++ [UInt8.ofNat (x * 16 + y).toNat])
    | _, _ => none
theorem joinhex : ∀ a b : Fin 16, IntKind.u8.wrap (((BitVec.ofInt IntKind.u8.bits (IntKind.u8.wrap ((a.val : Int) * 2 ^ min (4 : Int).toNat IntKind.u8.bits)) ||| BitVec.ofInt IntKind.u8.bits (b.val : Int)).toNat : Nat) : Int) = ((a.val * 16 + b.val : Nat) : Int) := by decide +kernel
theorem joinhex' {x y : Int} (hx : 0 ≤ x ∧ x ≤ 15) (hy : 0 ≤ y ∧ y ≤ 15) : IntKind.u8.wrap (((BitVec.ofInt IntKind.u8.bits (IntKind.u8.wrap (x * 2 ^ min (4 : Int).toNat IntKind.u8.bits)) ||| BitVec.ofInt IntKind.u8.bits y).toNat : Nat) : Int) = ((UInt8.ofNat (x * 16 + y).toNat).toNat : Int) := by
  obtain ⟨a, rfl⟩ := Int.eq_ofNat_of_zero_le hx.1
  obtain ⟨b, rfl⟩ := Int.eq_ofNat_of_zero_le hy.1
  have := joinhex ⟨a, by omega⟩ ⟨b, by omega⟩
  simp only at this
  rw [this]
  rw [show ((a : Int) * 16 + (b : Int)).toNat = a * 16 + b by omega, UInt8.toNat_ofNat']
  omega
theorem un_step {l acc : List UInt8} {j : Int} (h : 0 ≤ j) (hl : j + 1 < l.length) : unGo (l.drop j.toNat) acc = match hexD (byt l j), hexD (byt l (j + 1)) with
    | some x, some y => unGo (l.drop (j + 2).toNat) (acc ++ [UInt8.ofNat (x * 16 + y).toNat])
    | _, _ => none := by
  rw [drop_at l j (by omega), drop_at l (j + 1) (by omega), show j + 1 + 1 = j + 2 by omega]
  rfl

/-! from LxD -/
def signs : List UInt8 := [40, 41, 44, 42, 61, 60, 62, 43, 45, 59]
def signF (l : List UInt8) : Int := if pre l [60, 62] || pre l [60, 61] || pre l [62, 61] then 2 else if 0 ≤ Lib.indexByte signs (byt l 0).toNat.toUInt8 then 1 else 0
/-- the place of a text among others -/
def idx (x : List UInt8) : List (List UInt8) → Int → Int
  | [], _ => -1
  | l :: r, i => if x = l then i else idx x r (i + 1)
theorem idx_ge (x : List UInt8) : ∀ (ls : List (List UInt8)) (i : Int), 0 ≤ i → (0 ≤ idx x ls i ↔ x ∈ ls)
  | [], i, _ => by simp [idx]
  | l :: r, i, h => by
    by_cases hx : x = l
    · simp [idx, hx, h]
    · simp [idx, hx, idx_ge x r (i + 1) (by omega)]

/-! from LxE -/
def wordF (l : List UInt8) : Bool := wordsL.contains l
def nameF (l : List UInt8) : Bool := !decide (l = []) && decide ((l.length : Int) ≤ 30) && isLo (byt l 0) && (runTo isIn l 0 == l.length)
/-- the token at a place: its kind, its text, its number, where it ends -/
def tokF (l : List UInt8) (i : Int) : Option (Int × List UInt8 × Int × Int) :=
  if pre (l.drop i.toNat) [120, 39] then
    let n := Lib.indexByte (l.drop (i + 2).toNat) 39
    if n < 0 then none else
    let x := cut l (i + 2) (i + 2 + n)
    match (if x.length % 2 = 0 then unGo x [] else none) with
    | none => none
    | some b => if 1000 < (b.length : Int) then none else some (5, b, 0, i + 3 + n)
  else if isUp (byt l i) then
    if wordF (cut l i (runTo isUp l i)) && aloneF l (runTo isUp l i) then some (1, cut l i (runTo isUp l i), 0, runTo isUp l i) else none
  else if isLo (byt l i) then
    if nameF (cut l i (runTo isIn l i)) && aloneF l (runTo isIn l i) then some (2, cut l i (runTo isIn l i), 0, runTo isIn l i) else none
  else if isDi (byt l i) then
    match numGo (cut l i (runTo isDi l i)) 0 with
    | none => none
    | some n => if (decide (cut l i (runTo isDi l i) = [48]) || byt (cut l i (runTo isDi l i)) 0 != 48) && aloneF l (runTo isDi l i) then some (3, cut l i (runTo isDi l i), n, runTo isDi l i) else none
  else if byt l i = 39 then
    let q := qGo (l.drop (i + 1).toNat) [] (i + 1)
    if rightF 4 0 q.1 then (if q.2 < 0 then none else some (4, q.1, 0, q.2)) else none
  else if signF (l.drop i.toNat) = 0 then none else some (6, cut l i (i + signF (l.drop i.toNat)), 0, i + signF (l.drop i.toNat))

/-! from LxF -/
theorem runTo_range (p : Int → Bool) (l : List UInt8) (i : Int) (h : 0 ≤ i ∧ i ≤ l.length) : i ≤ runTo p l i ∧ runTo p l i ≤ l.length := by
  unfold runTo
  have h1 := (List.takeWhile_prefix (fun b : UInt8 => p b.toNat) (l := l.drop i.toNat)).length_le
  rw [List.length_drop] at h1
  omega
/-! from LxG -/
theorem runTo_gt {p : Int → Bool} {l : List UInt8} {i : Int} (h : 0 ≤ i ∧ i < l.length) (hp : p (byt l i) = true) : i + 1 ≤ runTo p l i := by
  have h1 := runTo_yes h hp
  have h2 := runTo_range p l (i + 1) (by omega)
  omega
theorem cut_length (l : List UInt8) (a b : Int) (h : 0 ≤ a ∧ a ≤ b ∧ b ≤ l.length) : ((cut l a b).length : Int) = b - a := by
  unfold cut
  rw [List.length_take, List.length_drop]
  omega

/-! from LxH -/
theorem signF_in (l : List UInt8) (h : 0 < l.length) : signF l = 0 ∨ signF l = 1 ∨ (signF l = 2 ∧ 2 ≤ l.length) := by
  unfold signF
  split
  · rename_i hp
    right; right
    refine ⟨rfl, ?_⟩
    simp only [pre, Bool.or_eq_true, Bool.and_eq_true, decide_eq_true_eq, List.length_cons, List.length_nil] at hp
    omega
  · split
    · exact .inr (.inl rfl)
    · exact .inl rfl
theorem qGo_in : ∀ (n : Nat) (l acc : List UInt8) (i : Int), l.length ≤ n → 0 ≤ i → (qGo l acc i).2 = -1 ∨ (i + 1 ≤ (qGo l acc i).2 ∧ (qGo l acc i).2 ≤ i + l.length)
  | n, [], acc, i, _, h => by left; rfl
  | n, [c], acc, i, _, h => by
    simp only [qGo]
    split
    · right; simp
    · left; rfl
  | 0, _ :: _ :: _, _, _, hn, _ => by simp at hn
  | n + 1, c :: d :: r, acc, i, hn, h => by
    simp only [List.length_cons] at hn ⊢
    simp only [qGo]
    split
    · split
      · rcases qGo_in n r (acc ++ [39]) (i + 2) (by omega) (by omega) with h1 | h1
        · exact .inl h1
        · right; omega
      · right; simp; omega
    · rcases qGo_in n (d :: r) (acc ++ [c]) (i + 1) (by simp; omega) (by omega) with h1 | h1
      · exact .inl h1
      · right; simp at h1; omega

/-! from LxI -/
theorem indexByte_in : ∀ (l : List UInt8) (c : UInt8), Lib.indexByte l c = -1 ∨ (0 ≤ Lib.indexByte l c ∧ Lib.indexByte l c < l.length)
  | [], c => .inl rfl
  | b :: l, c => by
    simp only [Lib.indexByte, List.length_cons]
    split
    · right; omega
    · rcases indexByte_in l c with h | h
      · left; simp [h]
      · right
        have : ¬ ((Lib.indexByte l c == -1) = true) := by simp; omega
        rw [if_neg this]
        omega

/-! from LxJ -/
def blankF (c : Int) : Bool := decide (0 ≤ Lib.indexByte [32, 9, 10, 13] c.toNat.toUInt8)
/-- all tokens from a place on, behind others; or the place that is wrong -/
def allGo : Nat → List UInt8 → Int → List Tok → Except Int (List Tok)
  | 0, _, _, acc => .ok acc
  | f + 1, l, i, acc =>
    if (l.length : Int) ≤ i then .ok acc
    else if blankF (byt l i) then allGo f l (i + 1) acc
    else match tokF l i with
      | none => .error i
      | some (k, s, n, e) => allGo f l e (acc ++ [⟨k, i, s, n⟩])
def allF (l : List UInt8) : Except Int (List Tok) := allGo (l.length + 1) l 0 []
theorem tok_end {l : List UInt8} {i : Int} (h0 : 0 ≤ i ∧ i < l.length) {k : Int} {s : List UInt8} {n e : Int} (h : tokF l i = some (k, s, n, e)) : i < e ∧ e ≤ l.length := by
  unfold tokF at h
  split at h
  · rename_i hx
    have hdl : (l.drop i.toNat).length = l.length - i.toNat := List.length_drop
    have h2 : 2 ≤ (l.drop i.toNat).length := by
      simp only [pre, Bool.and_eq_true, decide_eq_true_eq, List.length_cons, List.length_nil] at hx
      omega
    have hdl2 : (l.drop (i + 2).toNat).length = l.length - (i + 2).toNat := List.length_drop
    have hib := indexByte_in (l.drop (i + 2).toNat) 39
    simp only at h
    split at h
    · cases h
    · split at h
      · cases h
      · split at h
        · cases h
        · cases h; omega
  · split at h
    · rename_i hu
      have hr := runTo_range isUp l i (by omega)
      have hg := runTo_gt h0 hu
      split at h
      · cases h; omega
      · cases h
    · split at h
      · rename_i hlo
        have hr := runTo_range isIn l i (by omega)
        have hg := runTo_gt (p := isIn) h0 (by simp [isIn, hlo])
        split at h
        · cases h; omega
        · cases h
      · split at h
        · rename_i hd
          have hr := runTo_range isDi l i (by omega)
          have hg := runTo_gt h0 hd
          split at h
          · cases h
          · split at h
            · cases h; omega
            · cases h
        · split at h
          · have hqi := qGo_in _ (l.drop (i + 1).toNat) [] (i + 1) (Nat.le_refl _) (by omega)
            have hdl : (l.drop (i + 1).toNat).length = l.length - (i + 1).toNat := List.length_drop
            simp only at h
            split at h
            · split at h
              · cases h
              · cases h; omega
            · cases h
          · split at h
            · cases h
            · have hdl : (l.drop i.toNat).length = l.length - i.toNat := List.length_drop
              have hs := signF_in (l.drop i.toNat) (by omega)
              cases h
              omega

/-! from RxA -/
def signsI : List Int := [40, 41, 44, 42, 61, 60, 62, 43, 45, 59]
def clsF (c : Int) : Int :=
  if isUp c then 1 else if isLo c then 2 else if isDi c then 3 else if c = 95 then 4 else if c = 39 then 5
  else if c = 32 ∨ c = 9 ∨ c = 10 ∨ c = 13 then 6 else if signsI.contains c then 7 else 0
/-! from RxB -/
def isWd (c : Int) : Bool := decide (1 ≤ clsF c) && decide (clsF c ≤ 4)
/-- the reference's number -/
def rnumGo : List UInt8 → Int → Option Int
  | [], n => some n
  | c :: r, n => if clsF c.toNat ≠ 3 ∨ 922337203685477580 < n ∨ (n = 922337203685477580 ∧ 7 < (c.toNat : Int) - 48) then none else rnumGo r (10 * n + ((c.toNat : Int) - 48))
def rnumF (l : List UInt8) : Int := match rnumGo l 0 with
  | none => -1
  | some n => if 1 < (l.length : Int) ∧ byt l 0 = 48 then -1 else n
/-! from RxC -/
/-! from RxD -/
/-! from RxE -/
/-! from RxF -/
/-! from RxG -/
def nmOk (j c : Int) : Bool := decide (clsF c = 2) || (!decide (j = 0) && (decide (clsF c = 3) || decide (clsF c = 4)))
def okGo : List UInt8 → Int → Bool
  | [], _ => true
  | c :: r, j => nmOk j c.toNat && okGo r (j + 1)
def rnameF (l : List UInt8) : Bool := okGo l 0 && (decide (1 ≤ (l.length : Int)) && decide ((l.length : Int) ≤ 30))

/-! from RxH -/
/-- bytes in hex begin here, by the reference -/
def HexAt (l : List UInt8) (i : Int) : Prop := cut l i (runTo isWd l i) = [120] ∧ runTo isWd l i < l.length ∧ byt l (runTo isWd l i) = 39
instance (l : List UInt8) (i : Int) : Decidable (HexAt l i) := by unfold HexAt; infer_instance
def twoR (l : List UInt8) (i : Int) : Prop := i + 1 < l.length ∧ (cut l i (i + 2) = [60, 62] ∨ cut l i (i + 2) = [60, 61] ∨ cut l i (i + 2) = [62, 61])
instance (l : List UInt8) (i : Int) : Decidable (twoR l i) := by unfold twoR; infer_instance
def tokR (l : List UInt8) (i : Int) : Option (Int × List UInt8 × Int × Int) :=
  if HexAt l i then
    let t := runTo isWd l i
    let q := runTo (fun c => !decide (c = 39)) l (t + 1)
    if q = l.length then none else
    match (if (cut l (t + 1) q).length % 2 = 0 then unGo (cut l (t + 1) q) [] else none) with
    | none => none
    | some b => if 1000 < (b.length : Int) then none else some (5, b, 0, q + 1)
  else if clsF (byt l i) = 1 then (if wordF (cut l i (runTo isWd l i)) then some (1, cut l i (runTo isWd l i), 0, runTo isWd l i) else none)
  else if clsF (byt l i) = 2 then (if rnameF (cut l i (runTo isWd l i)) then some (2, cut l i (runTo isWd l i), 0, runTo isWd l i) else none)
  else if clsF (byt l i) = 3 then (if 0 ≤ rnumF (cut l i (runTo isWd l i)) then some (3, cut l i (runTo isWd l i), rnumF (cut l i (runTo isWd l i)), runTo isWd l i) else none)
  else if clsF (byt l i) = 5 then
    let q := qGo (l.drop (i + 1).toNat) [] (i + 1)
    if ¬ q.2 = -1 ∧ checkF 4 0 q.1 = 0 then some (4, q.1, 0, q.2) else none
  else if clsF (byt l i) = 7 then (if twoR l i then some (6, cut l i (i + 2), 0, i + 2) else some (6, cut l i (i + 1), 0, i + 1))
  else none

/-! from RxI -/
/-! from RxJ -/
/-! from RxK -/
/-! from RxL -/
/-! from RxM -/
/-! from RxN -/
/-! from RxO -/
theorem tokR_end {l : List UInt8} {i : Int} (h0 : 0 ≤ i ∧ i < l.length) {k : Int} {s : List UInt8} {n e : Int} (h : tokR l i = some (k, s, n, e)) : i < e ∧ e ≤ l.length := by
  unfold tokR at h
  have hr := runTo_range isWd l i (by omega)
  split at h
  · rename_i hx
    have hx1 := hx.2.1
    have hq := runTo_range (fun c => !decide (c = 39)) l (runTo isWd l i + 1) (by omega)
    simp only at h
    split at h
    · cases h
    · split at h
      · cases h
      · split at h
        · cases h
        · cases h; omega
  · have hg : ∀ c : Int, 1 ≤ c ∧ c ≤ 4 → clsF (byt l i) = c → i + 1 ≤ runTo isWd l i := fun c hc he => runTo_gt h0 (by simp [isWd]; omega)
    split at h
    · rename_i h1
      have := hg 1 (by omega) h1
      split at h
      · cases h; omega
      · cases h
    · split at h
      · rename_i h1
        have := hg 2 (by omega) h1
        split at h
        · cases h; omega
        · cases h
      · split at h
        · rename_i h1
          have := hg 3 (by omega) h1
          split at h
          · cases h; omega
          · cases h
        · split at h
          · have hqi := qGo_in _ (l.drop (i + 1).toNat) [] (i + 1) (Nat.le_refl _) (by omega)
            have hdl : (l.drop (i + 1).toNat).length = l.length - (i + 1).toNat := List.length_drop
            simp only at h
            split at h
            · rename_i h2
              cases h
              have := h2.1
              omega
            · cases h
          · split at h
            · split at h
              · rename_i h2
                have := h2.1
                cases h; omega
              · cases h; omega
            · cases h
/-! from PlA -/
theorem of256 {p : Int → Prop} (h : ∀ n : Fin 256, p (n.val : Int)) (c : Int) (hc : 0 ≤ c ∧ c ≤ 255) : p c := by
  have := h ⟨c.toNat, by omega⟩
  simpa [Int.toNat_of_nonneg hc.1] using this
theorem u8_range (b : UInt8) : 0 ≤ (b.toNat : Int) ∧ (b.toNat : Int) ≤ 255 := by
  have := b.toNat_lt
  omega
def tw (p : Int → Bool) (m : List UInt8) : List UInt8 := m.takeWhile fun b => p b.toNat
theorem runTo_eq (p : Int → Bool) (l : List UInt8) (i : Int) : runTo p l i = i + (tw p (l.drop i.toNat)).length := rfl
theorem tw_len (p : Int → Bool) : ∀ m : List UInt8, (tw p m).length ≤ m.length
  | [] => by simp [tw]
  | x :: m => by
    have := tw_len p m
    unfold tw at *
    simp only [List.takeWhile_cons]
    split <;> simp <;> omega
theorem tw_take (p : Int → Bool) : ∀ m : List UInt8, m.take (tw p m).length = tw p m
  | [] => by simp [tw]
  | x :: m => by
    have := tw_take p m
    unfold tw at *
    simp only [List.takeWhile_cons]
    split
    · simp [this]
    · simp
theorem cut_run (p : Int → Bool) (l : List UInt8) (i : Int) (h : 0 ≤ i) : cut l i (runTo p l i) = tw p (l.drop i.toNat) := by
  unfold cut
  rw [runTo_eq, show (i + ((tw p (l.drop i.toNat)).length : Int)).toNat - i.toNat = (tw p (l.drop i.toNat)).length by omega]
  exact tw_take p _
theorem byt_drop (l : List UInt8) (i : Int) (h : 0 ≤ i) (j : Nat) : byt (l.drop i.toNat) j = byt l (i + j) := by
  unfold byt
  rw [List.getD_eq_getElem?_getD, List.getD_eq_getElem?_getD, List.getElem?_drop, show i.toNat + (j : Int).toNat = (i + j).toNat by omega]
/-! from PlB -/
theorem lead {x : List UInt8} (hne : x ≠ []) : (decide (x = [48]) || byt x 0 != 48) = true ↔ ¬ (1 < (x.length : Int) ∧ byt x 0 = 48) := by
  cases x with
  | nil => exact absurd rfl hne
  | cons c x =>
    have hb : byt (c :: x) 0 = (c.toNat : Int) := rfl
    have hc : (c.toNat : Int) = 48 ↔ c = 48 := by rw [← UInt8.toNat_inj]; simp; omega
    rw [hb]
    simp only [Bool.or_eq_true, decide_eq_true_eq, bne_iff_ne, ne_eq, List.cons.injEq, List.length_cons, hc]
    constructor
    · rintro (⟨_, h⟩ | h) ⟨h1, h2⟩
      · subst h; simp at h1
      · exact h h2
    · intro h
      by_cases h2 : c = 48
      · left
        refine ⟨h2, ?_⟩
        cases x with
        | nil => rfl
        | cons d x => exact absurd ⟨by simp; omega, h2⟩ h
      · exact .inr h2
theorem hex_iff (l : List UInt8) (i : Int) (h : 0 ≤ i ∧ i < l.length) : HexAt l i ↔ pre (l.drop i.toNat) [120, 39] = true := by
  have hdl : (l.drop i.toNat).length = l.length - i.toNat := List.length_drop
  have hb1 := byt_drop l i h.1 1
  unfold HexAt
  rw [cut_run _ _ _ h.1, runTo_eq]
  generalize l.drop i.toNat = m at *
  have w120 : isWd ((120 : UInt8).toNat : Int) = true := by decide +kernel
  have w39 : isWd ((39 : UInt8).toNat : Int) = false := by decide +kernel
  match m with
  | [] => simp at hdl; omega
  | [a] =>
    simp only [List.length_singleton] at hdl
    constructor
    · rintro ⟨h1, h2, _⟩
      rw [h1] at h2
      simp at h2
      omega
    · intro h; simp [pre] at h
  | a :: b :: r =>
    have hbb : byt (a :: b :: r) ((1 : Nat) : Int) = (b.toNat : Int) := rfl
    constructor
    · rintro ⟨h1, h2, h3⟩
      rw [h1] at h3
      have hb : b = 39 := by
        have : byt l (i + (([120] : List UInt8).length : Int)) = (b.toNat : Int) := by rw [← hbb, hb1]; rfl
        rw [this] at h3
        rw [← UInt8.toNat_inj]; simp; omega
      have ha : a = 120 := by
        unfold tw at h1
        cases hw : isWd a.toNat with
        | true => simp [hw] at h1; exact h1.1
        | false => simp [hw] at h1
      subst hb; subst ha
      simp [pre]
    · intro h
      simp only [pre, Bool.and_eq_true, decide_eq_true_eq, List.length_cons, List.length_nil, List.take_succ_cons, List.take_zero, List.cons.injEq, and_true] at h
      obtain ⟨_, rfl, rfl⟩ := h
      have e1 : tw isWd (120 :: 39 :: r) = [120] := by
        unfold tw
        rw [List.takeWhile_cons, if_pos w120, List.takeWhile_cons, if_neg (by rw [w39]; simp)]
      rw [e1]
      refine ⟨rfl, ?_, ?_⟩
      · simp only [List.length_cons] at hdl ⊢
        simp
        omega
      · have : byt l (i + (([120] : List UInt8).length : Int)) = (((39 : UInt8).toNat : Nat) : Int) := by
          rw [← hbb, hb1]; rfl
        rw [this]; rfl
theorem pre_two (l : List UInt8) (i : Int) (h : 0 ≤ i ∧ i < l.length) (a b : UInt8) : pre (l.drop i.toNat) [a, b] = true ↔ i + 1 < l.length ∧ cut l i (i + 2) = [a, b] := by
  unfold pre cut
  have hdl : (l.drop i.toNat).length = l.length - i.toNat := List.length_drop
  rw [show (i + 2).toNat - i.toNat = 2 by omega]
  simp only [Bool.and_eq_true, decide_eq_true_eq, List.length_cons, List.length_nil, hdl]
  constructor
  · rintro ⟨h1, h2⟩; exact ⟨by omega, h2⟩
  · rintro ⟨h1, h2⟩; exact ⟨by omega, h2⟩
/-! from PlC -/
/-- between quotes: what is meant, and how many bytes it takes, the quote that ends it among them -/
def qS : List UInt8 → List UInt8 → Option (List UInt8 × Nat)
  | [], _ => none
  | [c], acc => if c = 39 then some (acc, 1) else none
  | c :: d :: r, acc => if c = 39 then (if d = 39 then (qS r (acc ++ [39])).map fun x => (x.1, x.2 + 2) else some (acc, 1)) else (qS (d :: r) (acc ++ [c])).map fun x => (x.1, x.2 + 1)
theorem qGo_eq : ∀ (f : Nat) (l acc : List UInt8) (i : Int), l.length ≤ f → qGo l acc i = match qS l acc with
    | none => ([], -1)
    | some (s, n) => (s, i + (n : Int))
  | _, [], _, _, _ => rfl
  | _, [c], acc, i, _ => by
    by_cases hc : c = 39 <;> simp [qGo, qS, hc]
  | 0, c :: d :: r, _, _, h => by simp at h
  | f + 1, c :: d :: r, acc, i, h => by
    simp only [List.length_cons] at h
    rw [qGo, qS]
    by_cases hc : c = 39
    · rw [if_pos hc, if_pos hc]
      by_cases hd : d = 39
      · rw [if_pos hd, if_pos hd, qGo_eq f r (acc ++ [39]) (i + 2) (by omega)]
        cases qS r (acc ++ [39]) with
        | none => rfl
        | some x => simp; omega
      · rw [if_neg hd, if_neg hd]; rfl
    · rw [if_neg hc, if_neg hc, qGo_eq f (d :: r) (acc ++ [c]) (i + 1) (by simp; omega)]
      cases qS (d :: r) (acc ++ [c]) with
      | none => rfl
      | some x => simp; omega
theorem qS_len : ∀ (f : Nat) (l acc s : List UInt8) (n : Nat), l.length ≤ f → qS l acc = some (s, n) → 1 ≤ n ∧ n ≤ l.length
  | _, [], _, _, _, _, h => by cases h
  | _, [c], acc, s, n, _, h => by
    by_cases hc : c = 39 <;> simp [qS, hc] at h
    simp [← h.2]
  | 0, c :: d :: r, _, _, _, h, _ => by simp at h
  | f + 1, c :: d :: r, acc, s, n, hl, h => by
    simp only [List.length_cons] at hl ⊢
    rw [qS] at h
    by_cases hc : c = 39
    · rw [if_pos hc] at h
      by_cases hd : d = 39
      · rw [if_pos hd] at h
        obtain ⟨⟨s', n'⟩, hq, he⟩ := Option.map_eq_some_iff.1 h
        have := qS_len f r (acc ++ [39]) s' n' (by omega) hq
        simp at he; omega
      · rw [if_neg hd] at h
        simp at h; omega
    · rw [if_neg hc] at h
      obtain ⟨⟨s', n'⟩, hq, he⟩ := Option.map_eq_some_iff.1 h
      have := qS_len f (d :: r) (acc ++ [c]) s' n' (by simp; omega) hq
      simp at he this; omega
/-- what stands behind, if it begins with no quote, does not matter -/
theorem qS_app : ∀ (f : Nat) (l acc s : List UInt8) (n : Nat) (t : List UInt8), l.length ≤ f → (∀ c b, t = c :: b → c ≠ 39) → qS l acc = some (s, n) → qS (l ++ t) acc = some (s, n)
  | _, [], _, _, _, _, _, _, h => by cases h
  | _, [c], acc, s, n, t, _, ht, h => by
    by_cases hc : c = 39 <;> simp [qS, hc] at h
    cases t with
    | nil => simp [qS, hc, h]
    | cons d t => simp [qS, hc, ht d t rfl, h]
  | 0, c :: d :: r, _, _, _, _, h, _, _ => by simp at h
  | f + 1, c :: d :: r, acc, s, n, t, hl, ht, h => by
    simp only [List.length_cons] at hl
    simp only [List.cons_append]
    rw [qS] at h ⊢
    by_cases hc : c = 39
    · rw [if_pos hc] at h ⊢
      by_cases hd : d = 39
      · rw [if_pos hd] at h ⊢
        obtain ⟨⟨s', n'⟩, hq, he⟩ := Option.map_eq_some_iff.1 h
        rw [qS_app f r (acc ++ [39]) s' n' t (by omega) ht hq]
        exact congrArg some he
      · rw [if_neg hd] at h ⊢
        exact h
    · rw [if_neg hc] at h ⊢
      obtain ⟨⟨s', n'⟩, hq, he⟩ := Option.map_eq_some_iff.1 h
      have := qS_app f (d :: r) (acc ++ [c]) s' n' t (by simp; omega) ht hq
      simp only [List.cons_append] at this
      rw [this]
      exact congrArg some he
/-- what is cut off behind does not matter -/
theorem qS_take : ∀ (f : Nat) (l acc s : List UInt8) (n j : Nat), l.length ≤ f → n ≤ j → qS l acc = some (s, n) → qS (l.take j) acc = some (s, n)
  | _, [], _, _, _, _, _, _, h => by cases h
  | _, [c], acc, s, n, j, _, hj, h => by
    have hl := qS_len 1 [c] acc s n (by simp) h
    obtain ⟨j, rfl⟩ : ∃ i, j = i + 1 := ⟨j - 1, by omega⟩
    simpa using h
  | 0, c :: d :: r, _, _, _, _, h, _, _ => by simp at h
  | f + 1, c :: d :: r, acc, s, n, j, hl, hj, h => by
    have hn := qS_len (f + 1) (c :: d :: r) acc s n hl h
    simp only [List.length_cons] at hl
    obtain ⟨j, rfl⟩ : ∃ i, j = i + 1 := ⟨j - 1, by omega⟩
    rw [qS] at h
    by_cases hc : c = 39
    · rw [if_pos hc] at h
      by_cases hd : d = 39
      · rw [if_pos hd] at h
        obtain ⟨⟨s', n'⟩, hq, he⟩ := Option.map_eq_some_iff.1 h
        simp only [Prod.mk.injEq] at he
        obtain ⟨j, rfl⟩ : ∃ i, j = i + 1 := ⟨j - 1, by omega⟩
        simp only [List.take_succ_cons]
        rw [qS, if_pos hc, if_pos hd, qS_take f r (acc ++ [39]) s' n' j (by omega) (by omega) hq]
        simp [he]
      · rw [if_neg hd] at h
        cases j with
        | zero => simp [qS, hc]; simpa using h
        | succ j => simp only [List.take_succ_cons]; rw [qS, if_pos hc, if_neg hd]; exact h
    · rw [if_neg hc] at h
      obtain ⟨⟨s', n'⟩, hq, he⟩ := Option.map_eq_some_iff.1 h
      simp only [Prod.mk.injEq] at he
      have hn' := qS_len f (d :: r) (acc ++ [c]) s' n' (by simp; omega) hq
      obtain ⟨j, rfl⟩ : ∃ i, j = i + 1 := ⟨j - 1, by omega⟩
      have := qS_take f (d :: r) (acc ++ [c]) s' n' (j + 1) (by simp; omega) (by omega) hq
      simp only [List.take_succ_cons] at this ⊢
      rw [qS, if_neg hc, this]
      simp [he]
theorem tw_app {p : Int → Bool} (t : List UInt8) (ht : ∀ c b, t = c :: b → p c.toNat = false) : ∀ m : List UInt8, tw p (m ++ t) = tw p m
  | [] => by
    cases t with
    | nil => rfl
    | cons c t => simp [tw, ht c t rfl]
  | x :: m => by
    have ih := tw_app t ht m
    unfold tw at *
    cases hp : p x.toNat with
    | true => simp [hp]; exact ih
    | false => simp [hp]
theorem tw_take' {p : Int → Bool} : ∀ (m : List UInt8) (j : Nat), tw p (m.take j) = (tw p m).take j
  | [], j => by simp [tw]
  | x :: m, 0 => by simp [tw]
  | x :: m, j + 1 => by
    have ih := tw_take' (p := p) m j
    unfold tw at *
    cases hp : p x.toNat with
    | true => simp [hp]; exact ih
    | false => simp [hp]
def nq (c : Int) : Bool := !decide (c = 39)
def twoS (m : List UInt8) : Bool := pre m [60, 62] || pre m [60, 61] || pre m [62, 61]
/-- the token at the head of a text: kind, text, number, how many bytes it takes -/
def tokS (m : List UInt8) : Option (Int × List UInt8 × Int × Nat) :=
  if pre m [120, 39] then
    (if (tw nq (m.drop 2)).length = (m.drop 2).length then none else
    match (if (tw nq (m.drop 2)).length % 2 = 0 then unGo (tw nq (m.drop 2)) [] else none) with
    | none => none
    | some b => if 1000 < (b.length : Int) then none else some (5, b, 0, (tw nq (m.drop 2)).length + 3))
  else if clsF (byt m 0) = 1 then (if wordF (tw isWd m) then some (1, tw isWd m, 0, (tw isWd m).length) else none)
  else if clsF (byt m 0) = 2 then (if rnameF (tw isWd m) then some (2, tw isWd m, 0, (tw isWd m).length) else none)
  else if clsF (byt m 0) = 3 then (if 0 ≤ rnumF (tw isWd m) then some (3, tw isWd m, rnumF (tw isWd m), (tw isWd m).length) else none)
  else if clsF (byt m 0) = 5 then
    match qS (m.drop 1) [] with
    | none => none
    | some (s, n) => if checkF 4 0 s = 0 then some (4, s, 0, n + 1) else none
  else if clsF (byt m 0) = 7 then (if twoS m then some (6, m.take 2, 0, 2) else some (6, m.take 1, 0, 1))
  else none
theorem tokR_S (l : List UInt8) (i : Int) (h : 0 ≤ i ∧ i < l.length) : tokR l i = (tokS (l.drop i.toNat)).map fun x => (x.1, x.2.1, x.2.2.1, i + (x.2.2.2 : Int)) := by
  have hb0 : byt (l.drop i.toNat) 0 = byt l i := by simpa using byt_drop l i h.1 0
  have hdl : (l.drop i.toNat).length = l.length - i.toNat := List.length_drop
  have hd1 : (l.drop i.toNat).drop 1 = l.drop (i + 1).toNat := by rw [List.drop_drop]; congr 1; omega
  have hd2 : (l.drop i.toNat).drop 2 = l.drop (i + 2).toNat := by rw [List.drop_drop]; congr 1; omega
  unfold tokR tokS
  by_cases hx : HexAt l i
  · rw [if_pos hx, if_pos ((hex_iff l i h).1 hx)]
    have hr1 : runTo isWd l i = i + 1 := by
      rw [runTo_eq, ← cut_run _ _ _ h.1, hx.1]; rfl
    have hlt : i + 1 < l.length := by have := hx.2.1; omega
    have hdl2 : (l.drop (i + 2).toNat).length = l.length - (i + 2).toNat := List.length_drop
    rw [hr1]
    simp only
    rw [show i + 1 + 1 = i + 2 by omega, hd2, cut_run _ _ _ (by omega), runTo_eq]
    change (if i + 2 + ((tw nq (l.drop (i + 2).toNat)).length : Int) = l.length then none else match (if (tw nq (l.drop (i + 2).toNat)).length % 2 = 0 then unGo (tw nq (l.drop (i + 2).toNat)) [] else none) with | none => none | some b => if 1000 < (b.length : Int) then none else some ((5 : Int), b, (0 : Int), i + 2 + ((tw nq (l.drop (i + 2).toNat)).length : Int) + 1)) = _
    generalize tw nq (l.drop (i + 2).toNat) = r at *
    by_cases hf : r.length = (l.drop (i + 2).toNat).length
    · rw [if_pos (show i + 2 + (r.length : Int) = l.length by omega), if_pos hf]; rfl
    · rw [if_neg (show ¬ i + 2 + (r.length : Int) = l.length by omega), if_neg hf]
      generalize (if r.length % 2 = 0 then unGo r [] else none) = u
      cases u with
      | none => rfl
      | some b =>
        by_cases hbig : 1000 < (b.length : Int)
        · simp only [if_pos hbig]; rfl
        · simp only [if_neg hbig, Option.map_some, Option.some.injEq, Prod.mk.injEq, true_and]
          omega
  · rw [if_neg hx, if_neg (fun hh => hx ((hex_iff l i h).2 hh)), hb0, cut_run _ _ _ h.1, runTo_eq]
    split
    · split <;> rfl
    · split
      · split <;> rfl
      · split
        · split <;> rfl
        · split
          · rw [hd1, qGo_eq _ _ _ _ (Nat.le_refl _)]
            cases qS (l.drop (i + 1).toNat) [] with
            | none => rfl
            | some x =>
              obtain ⟨s, n⟩ := x
              by_cases hk : checkF 4 0 s = 0
              · simp only [if_pos hk]
                rw [if_pos ⟨by omega, hk⟩]
                simp; omega
              · simp [hk]
          · split
            · have htwo : twoR l i ↔ twoS (l.drop i.toNat) = true := by
                simp only [twoS, Bool.or_eq_true, pre_two l i h, twoR]
                constructor
                · rintro ⟨h1, h2 | h2 | h2⟩
                  · exact .inl (.inl ⟨h1, h2⟩)
                  · exact .inl (.inr ⟨h1, h2⟩)
                  · exact .inr ⟨h1, h2⟩
                · rintro ((⟨h1, h2⟩ | ⟨h1, h2⟩) | ⟨h1, h2⟩)
                  · exact ⟨h1, .inl h2⟩
                  · exact ⟨h1, .inr (.inl h2)⟩
                  · exact ⟨h1, .inr (.inr h2)⟩
              have hc : ∀ k : Nat, cut l i (i + k) = (l.drop i.toNat).take k := fun k => by
                unfold cut; congr 1; omega
              have h1 := hc 1
              have h2 := hc 2
              by_cases ht : twoR l i
              · rw [if_pos ht, if_pos (htwo.1 ht)]
                simp only [Option.map_some]
                rw [← h2]; rfl
              · rw [if_neg ht, if_neg (fun hh => ht (htwo.2 hh))]
                simp only [Option.map_some]
                rw [← h1]; rfl
            · rfl

/-! from PlD -/
theorem pre_take {m x : List UInt8} {j : Nat} (h : pre (m.take j) x = true) : pre m x = true := by
  simp only [pre, Bool.and_eq_true, decide_eq_true_eq, List.length_take, List.take_take] at h ⊢
  have h2 := h.2
  rw [show min x.length j = x.length by omega] at h2
  exact ⟨by omega, h2⟩
theorem pre_take' {m x : List UInt8} {j : Nat} (h : pre m x = true) (hj : x.length ≤ j) : pre (m.take j) x = true := by
  simp only [pre, Bool.and_eq_true, decide_eq_true_eq, List.length_take, List.take_take] at h ⊢
  refine ⟨by omega, ?_⟩
  rw [show min x.length j = x.length by omega]
  exact h.2
theorem byt_take {m : List UInt8} {j : Nat} (h : 1 ≤ j) : byt (m.take j) 0 = byt m 0 := by
  unfold byt
  simp [List.getD_eq_getElem?_getD, show 0 < j by omega]
theorem twoS_take {m : List UInt8} {j : Nat} (h : twoS (m.take j) = true) : twoS m = true := by
  simp only [twoS, Bool.or_eq_true] at h ⊢
  exact h.imp (Or.imp pre_take pre_take) pre_take
theorem twoS_take' {m : List UInt8} {j : Nat} (h : twoS m = true) (hj : 2 ≤ j) : twoS (m.take j) = true := by
  simp only [twoS, Bool.or_eq_true] at h ⊢
  exact h.imp (Or.imp (fun h => pre_take' h hj) (fun h => pre_take' h hj)) (fun h => pre_take' h hj)
theorem tokS_len {m : List UInt8} {k : Int} {s : List UInt8} {n : Int} {e : Nat} (h : tokS m = some (k, s, n, e)) : 1 ≤ e ∧ e ≤ m.length := by
  cases m with
  | nil => exact absurd (h.symm.trans (show tokS [] = none by decide +kernel)) (by simp)
  | cons c m =>
    have h0 : (0 : Int) ≤ 0 ∧ (0 : Int) < ((c :: m).length : Int) := by simp
    have hr := tokR_S (c :: m) 0 h0
    simp only [Int.toNat_zero, List.drop_zero, h, Option.map_some] at hr
    have := tokR_end h0 hr
    omega
theorem tokS_take {m : List UInt8} {k : Int} {s : List UInt8} {n : Int} {e j : Nat} (h : tokS m = some (k, s, n, e)) (hj : e ≤ j) : tokS (m.take j) = some (k, s, n, e) := by
  have hlen := tokS_len h
  have hb := byt_take (m := m) (j := j) (by omega)
  have htw : ∀ p : Int → Bool, (tw p m).length ≤ j → tw p (m.take j) = tw p m := fun p hp => by
    rw [tw_take', List.take_of_length_le hp]
  unfold tokS at h ⊢
  by_cases hx : pre m [120, 39] = true
  · rw [if_pos hx] at h
    have e3 : ∀ r : List UInt8, (if r.length = (m.drop 2).length then none else match (if r.length % 2 = 0 then unGo r [] else none) with | none => none | some b => if 1000 < (b.length : Int) then none else some ((5 : Int), b, (0 : Int), r.length + 3)) = some (k, s, n, e) → e = r.length + 3 ∧ r.length ≠ (m.drop 2).length := by
      intro r hr
      split at hr
      · cases hr
      · rename_i hne
        split at hr
        · cases hr
        · split at hr
          · cases hr
          · simp only [Option.some.injEq, Prod.mk.injEq] at hr
            exact ⟨hr.2.2.2.symm, hne⟩
    obtain ⟨he, hne⟩ := e3 _ h
    have hdt : (m.take j).drop 2 = (m.drop 2).take (j - 2) := by rw [List.drop_take]
    have hq : tw nq ((m.take j).drop 2) = tw nq (m.drop 2) := by
      rw [hdt, tw_take', List.take_of_length_le (by omega)]
    have hl := tw_len nq (m.drop 2)
    rw [if_pos (pre_take' hx (by simp; omega)), hq]
    have hne' : ¬ (tw nq (m.drop 2)).length = ((m.take j).drop 2).length := by
      rw [hdt, List.length_take]; omega
    rw [if_neg hne']
    rw [if_neg hne] at h
    exact h
  · rw [if_neg hx] at h
    rw [if_neg (fun hh => hx (pre_take hh)), hb]
    have key : ∀ (b : Bool) (kk vv : Int), (if b = true then some (kk, tw isWd m, vv, (tw isWd m).length) else none) = some (k, s, n, e) → tw isWd (m.take j) = tw isWd m := by
      intro b kk vv hh
      cases b
      · cases hh
      · simp only [if_true, Option.some.injEq, Prod.mk.injEq] at hh
        exact htw isWd (by omega)
    split
    · rename_i h1; rw [if_pos h1] at h; rw [key _ _ _ h]; exact h
    · rename_i h1; rw [if_neg h1] at h
      split
      · rename_i h2; rw [if_pos h2] at h; rw [key _ _ _ h]; exact h
      · rename_i h2; rw [if_neg h2] at h
        split
        · rename_i h3; rw [if_pos h3] at h
          have : tw isWd (m.take j) = tw isWd m := by
            split at h
            · simp only [Option.some.injEq, Prod.mk.injEq] at h
              exact htw isWd (by omega)
            · cases h
          rw [this]; exact h
        · rename_i h3; rw [if_neg h3] at h
          split
          · rename_i h5; rw [if_pos h5] at h
            rw [List.drop_take]
            cases hq : qS (m.drop 1) [] with
            | none => rw [hq] at h; cases h
            | some x =>
              obtain ⟨s', n'⟩ := x
              rw [hq] at h
              have hle : n' ≤ j - 1 := by
                simp only at h
                split at h
                · simp only [Option.some.injEq, Prod.mk.injEq] at h; omega
                · cases h
              rw [qS_take _ _ _ s' n' (j - 1) (Nat.le_refl _) hle hq]
              exact h
          · rename_i h5; rw [if_neg h5] at h
            split
            · rename_i h7; rw [if_pos h7] at h
              by_cases h2' : twoS m = true
              · rw [if_pos h2'] at h
                have : 2 ≤ j := by simp only [Option.some.injEq, Prod.mk.injEq] at h; omega
                rw [if_pos (twoS_take' h2' this), List.take_take, show min 2 j = 2 by omega]
                exact h
              · rw [if_neg h2'] at h
                rw [if_neg (fun hh => h2' (twoS_take hh)), List.take_take, show min 1 j = 1 by omega]
                exact h
            · rename_i h7; rw [if_neg h7] at h; exact h
theorem blank_facts : ∀ n : Fin 256, clsF (n.val : Int) = 6 → isWd (n.val : Int) = false ∧ (n.val : Int) ≠ 39 ∧ (n.val : Int) ≠ 61 ∧ (n.val : Int) ≠ 62 := by decide +kernel
theorem blank_c {c : UInt8} (h : clsF c.toNat = 6) : isWd c.toNat = false ∧ c ≠ 39 ∧ c ≠ 61 ∧ c ≠ 62 := by
  have := of256 (p := fun c => clsF c = 6 → isWd c = false ∧ c ≠ 39 ∧ c ≠ 61 ∧ c ≠ 62) blank_facts c.toNat (u8_range c) h
  refine ⟨this.1, ?_, ?_, ?_⟩
  · rintro rfl; exact this.2.1 rfl
  · rintro rfl; exact this.2.2.1 rfl
  · rintro rfl; exact this.2.2.2 rfl
theorem pre_app {m : List UInt8} (hm : m ≠ []) (c : UInt8) (b : List UInt8) {x y : UInt8} (h : c ≠ y) : pre (m ++ c :: b) [x, y] = pre m [x, y] := by
  match m with
  | [] => exact absurd rfl hm
  | [a] =>
    have : pre [a] [x, y] = false := by simp [pre]
    rw [this]
    simp [pre, h]
  | a :: a' :: r => simp [pre]
theorem twoS_app {m : List UInt8} (hm : m ≠ []) {c : UInt8} (b : List UInt8) (hc : clsF c.toNat = 6) : twoS (m ++ c :: b) = twoS m := by
  have h := blank_c hc
  simp only [twoS, pre_app hm c b h.2.2.1, pre_app hm c b h.2.2.2]
theorem byt_app {m : List UInt8} (hm : m ≠ []) (t : List UInt8) : byt (m ++ t) 0 = byt m 0 := by
  cases m with
  | nil => exact absurd rfl hm
  | cons a m => rfl
/-- a token that a quote opens -/
def openB (m : List UInt8) : Prop := byt m 0 = 39 ∨ pre m [120, 39] = true
theorem cls39 {c : Int} (h : clsF c = 5) : c = 39 := by
  unfold clsF at h
  split at h; · omega
  split at h; · omega
  split at h; · omega
  split at h; · omega
  split at h; · assumption
  split at h; · omega
  split at h <;> omega
/-- with a blank behind it a token is the same; what is none, and is not open, is none -/
theorem tokS_app {m : List UInt8} (hm : m ≠ []) {c : UInt8} (b : List UInt8) (hc : clsF c.toNat = 6) : (tokS m ≠ none ∨ ¬ openB m) → tokS (m ++ c :: b) = tokS m := by
  intro hor
  have hbl := blank_c hc
  have htw : tw isWd (m ++ c :: b) = tw isWd m := tw_app _ (fun d t hd => by cases hd; exact hbl.1) m
  unfold tokS at hor ⊢
  rw [pre_app hm c b hbl.2.1, htw, byt_app hm, twoS_app hm b hc]
  by_cases hx : pre m [120, 39] = true
  · rw [if_pos hx] at hor
    rw [if_pos hx, if_pos hx]
    have h2 : 2 ≤ m.length := by
      simp only [pre, Bool.and_eq_true, decide_eq_true_eq, List.length_cons, List.length_nil] at hx; omega
    have hd : (m ++ c :: b).drop 2 = m.drop 2 ++ c :: b := by rw [List.drop_append_of_le_length h2]
    rcases hor with hor | hor
    · have hne : ¬ (tw nq (m.drop 2)).length = (m.drop 2).length := fun hh => by rw [if_pos hh] at hor; exact hor rfl
      have hfull : ∃ r1 d r2, m.drop 2 = r1 ++ d :: r2 ∧ nq d.toNat = false := by
        have hsp : ∀ x : List UInt8, (tw nq x).length ≠ x.length → ∃ r1 d r2, x = r1 ++ d :: r2 ∧ nq d.toNat = false := by
          intro x
          induction x with
          | nil => intro h; simp [tw] at h
          | cons y x ih =>
            intro hne
            cases hy : nq y.toNat with
            | false => exact ⟨[], y, x, rfl, hy⟩
            | true =>
              have : (tw nq x).length ≠ x.length := by
                unfold tw at hne ⊢
                simp [hy] at hne
                exact hne
              obtain ⟨r1, d, r2, h1, h2⟩ := ih this
              exact ⟨y :: r1, d, r2, by rw [h1]; rfl, h2⟩
        exact hsp _ hne
      have htq : tw nq ((m ++ c :: b).drop 2) = tw nq (m.drop 2) := by
        obtain ⟨r1, d, r2, h1, h2'⟩ := hfull
        rw [hd, h1, List.append_assoc, List.cons_append]
        rw [tw_app (p := nq) (d :: (r2 ++ c :: b)) (fun x t hx => by cases hx; exact h2') r1, tw_app (p := nq) (d :: r2) (fun x t hx => by cases hx; exact h2') r1]
      have hl := tw_len nq (m.drop 2)
      have hne' : ¬ (tw nq (m.drop 2)).length = ((m ++ c :: b).drop 2).length := by
        rw [hd, List.length_append]; omega
      rw [htq, if_neg hne', if_neg hne]
    · exact absurd (.inr hx) hor
  · rw [if_neg hx] at hor
    rw [if_neg hx, if_neg hx]
    have ht1 : (m ++ c :: b).take 1 = m.take 1 := by
      cases m with
      | nil => exact absurd rfl hm
      | cons a m => rfl
    have ht2 : twoS m = true → (m ++ c :: b).take 2 = m.take 2 := fun h2 => by
      have : 2 ≤ m.length := by
        simp only [twoS, Bool.or_eq_true, pre, Bool.and_eq_true, decide_eq_true_eq, List.length_cons, List.length_nil] at h2
        omega
      rw [List.take_append_of_le_length this]
    by_cases h1 : clsF (byt m 0) = 1
    · rw [if_pos h1, if_pos h1]
    · by_cases h2 : clsF (byt m 0) = 2
      · rw [if_neg h1, if_neg h1, if_pos h2, if_pos h2]
      · by_cases h3 : clsF (byt m 0) = 3
        · rw [if_neg h1, if_neg h1, if_neg h2, if_neg h2, if_pos h3, if_pos h3]
        · rw [if_neg h1, if_neg h1, if_neg h2, if_neg h2, if_neg h3, if_neg h3]
          rw [if_neg h1, if_neg h2, if_neg h3] at hor
          by_cases h5 : clsF (byt m 0) = 5
          · rw [if_pos h5] at hor
            rw [if_pos h5, if_pos h5]
            rcases hor with hor | hor
            · have hd : (m ++ c :: b).drop 1 = m.drop 1 ++ c :: b := by
                cases m with
                | nil => exact absurd rfl hm
                | cons a m => rfl
              cases hq : qS (m.drop 1) [] with
              | none => rw [hq] at hor; exact absurd rfl hor
              | some x =>
                rw [hd, qS_app _ _ _ x.1 x.2 (c :: b) (Nat.le_refl _) (fun d t hd => by cases hd; exact hbl.2.1) hq]
            · exact absurd (.inl (cls39 h5)) hor
          · rw [if_neg h5, if_neg h5]
            by_cases h7 : clsF (byt m 0) = 7
            · rw [if_pos h7, if_pos h7]
              by_cases h2' : twoS m = true
              · rw [if_pos h2', if_pos h2', ht2 h2']
              · rw [if_neg h2', if_neg h2', ht1]
            · rw [if_neg h7, if_neg h7]

/-! from PlE -/
/-- the tokens of a text that begins at a place -/
inductive Sc : List UInt8 → Int → List Tok → Prop where
  | nil {p : Int} : Sc [] p []
  | blank {c : UInt8} {r : List UInt8} {p : Int} {ts : List Tok} : clsF c.toNat = 6 → Sc r (p + 1) ts → Sc (c :: r) p ts
  | tok {m : List UInt8} {p : Int} {k : Int} {s : List UInt8} {n : Int} {e : Nat} {ts : List Tok} : clsF (byt m 0) ≠ 6 → tokS m = some (k, s, n, e) → Sc (m.drop e) (p + e) ts → Sc m p (⟨k, p, s, n⟩ :: ts)
/-- the place at which a text is wrong -/
inductive Er : List UInt8 → Int → Int → Prop where
  | blank {c : UInt8} {r : List UInt8} {p j : Int} : clsF c.toNat = 6 → Er r (p + 1) j → Er (c :: r) p j
  | tok {m : List UInt8} {p : Int} {k : Int} {s : List UInt8} {n : Int} {e : Nat} {j : Int} : clsF (byt m 0) ≠ 6 → tokS m = some (k, s, n, e) → Er (m.drop e) (p + e) j → Er m p j
  | bad {m : List UInt8} {p : Int} : m ≠ [] → clsF (byt m 0) ≠ 6 → tokS m = none → Er m p p
theorem tokS_nil : tokS [] = none := by decide +kernel
def tokOff (d : Int) (t : Tok) : Tok := ⟨t.kind, t.pos + d, t.s, t.n⟩
theorem Sc.off {m : List UInt8} {p : Int} {ts : List Tok} (h : Sc m p ts) (d : Int) : Sc m (p + d) (ts.map (tokOff d)) := by
  induction h with
  | nil => exact .nil
  | blank hc _ ih => exact .blank hc (by rw [show ∀ x : Int, x + d + 1 = x + 1 + d from fun x => by omega]; exact ih)
  | tok h1 h2 _ ih => exact .tok h1 h2 (by rw [show ∀ x y : Int, x + d + y = x + y + d from fun x y => by omega]; exact ih)
theorem Er.off {m : List UInt8} {p j : Int} (h : Er m p j) (d : Int) : Er m (p + d) (j + d) := by
  induction h with
  | blank hc _ ih => exact .blank hc (by rw [show ∀ x : Int, x + d + 1 = x + 1 + d from fun x => by omega]; exact ih)
  | tok h1 h2 _ ih => exact .tok h1 h2 (by rw [show ∀ x y : Int, x + d + y = x + y + d from fun x y => by omega]; exact ih)
  | bad h0 h1 h2 => exact .bad h0 h1 h2
theorem ne_of_tok {m : List UInt8} {x : Int × List UInt8 × Int × Nat} (h : tokS m = some x) : m ≠ [] := by
  rintro rfl; rw [tokS_nil] at h; cases h
theorem Sc.app {a : List UInt8} {p : Int} {ts : List Tok} (h : Sc a p ts) {c : UInt8} (hc : clsF c.toNat = 6) (b : List UInt8) : ∀ {us : List Tok}, Sc b (p + a.length + 1) us → Sc (a ++ c :: b) p (ts ++ us) := by
  induction h with
  | nil => intro us hb; exact .blank hc (by simpa using hb)
  | blank hx _ ih =>
    intro us hb
    refine .blank hx (ih ?_)
    rename_i r p _ _
    rw [show p + 1 + (r.length : Int) + 1 = p + ((r.length + 1 : Nat) : Int) + 1 by omega]
    exact hb
  | tok h1 h2 _ ih =>
    intro us hb
    have hm := ne_of_tok h2
    have hl := tokS_len h2
    refine .tok (by rw [byt_app hm]; exact h1) ((tokS_app hm b hc (.inl (by rw [h2]; simp))).trans h2) ?_
    rw [List.drop_append_of_le_length hl.2]
    refine ih ?_
    rename_i m p _ _ _ e _ _
    rw [List.length_drop, show p + (e : Int) + ((m.length - e : Nat) : Int) + 1 = p + (m.length : Int) + 1 by omega]
    exact hb
/-- wrong ahead of the blank: there, if no quote opens it -/
theorem Er.app {a : List UInt8} {p j : Int} (h : Er a p j) {c : UInt8} (hc : clsF c.toNat = 6) (b : List UInt8) : ∃ i : Nat, j = p + i ∧ i < a.length ∧ (openB (a.drop i) ∨ Er (a ++ c :: b) p j) := by
  induction h with
  | blank hx _ ih =>
    obtain ⟨i, h1, h2, h3⟩ := ih
    refine ⟨i + 1, by omega, by simp; omega, ?_⟩
    exact h3.imp (fun h => h) (fun h => .blank hx h)
  | tok h1 h2 _ ih =>
    obtain ⟨i, h3, h4, h5⟩ := ih
    have hm := ne_of_tok h2
    have hl := tokS_len h2
    rename_i m p _ _ _ e _ _
    rw [List.length_drop] at h4
    refine ⟨e + i, by omega, by omega, ?_⟩
    rw [List.drop_drop] at h5
    refine h5.imp (fun h => h) (fun h => ?_)
    refine .tok (by rw [byt_app hm]; exact h1) ((tokS_app hm b hc (.inl (by rw [h2]; simp))).trans h2) ?_
    rw [List.drop_append_of_le_length hl.2]
    exact h
  | bad h0 h1 h2 =>
    rename_i m p
    refine ⟨0, by omega, List.length_pos_iff.2 h0, ?_⟩
    by_cases ho : openB m
    · exact .inl ho
    · right
      exact .bad (by simp) (by rw [byt_app h0]; exact h1) ((tokS_app h0 b hc (.inr ho)).trans h2)
theorem Sc.le {m : List UInt8} {p : Int} {ts : List Tok} (h : Sc m p ts) : ∀ t, t ∈ ts → p ≤ t.pos := by
  induction h with
  | nil => intro t h; cases h
  | blank _ _ ih => intro t h; have := ih t h; omega
  | tok _ _ _ ih =>
    intro t h
    simp only [List.mem_cons] at h
    rcases h with rfl | h
    · exact Int.le_refl _
    · have := ih t h; omega
theorem Sc.part {m : List UInt8} {p : Int} {ts : List Tok} (h : Sc m p ts) : ∀ (k : Nat) (t : Tok), ts[k]? = some t → ∃ A : Nat, t.pos = p + A ∧ A < m.length ∧ Sc (m.take A) p (ts.take k) ∧ Sc (m.drop A) t.pos (ts.drop k) := by
  induction h with
  | nil => intro k t h; simp at h
  | blank hc _ ih =>
    intro k t h
    obtain ⟨A, h1, h2, h3, h4⟩ := ih k t h
    exact ⟨A + 1, by omega, by simp; omega, by rw [List.take_succ_cons]; exact .blank hc h3, h4⟩
  | tok h1 h2 h3 ih =>
    intro k t h
    have hl := tokS_len h2
    rename_i m p _ _ _ e _
    cases k with
    | zero =>
      simp only [List.getElem?_cons_zero, Option.some.injEq] at h
      subst h
      exact ⟨0, by simp, by omega, by simp; exact .nil, by simp; exact .tok h1 h2 h3⟩
    | succ k =>
      obtain ⟨A, h4, h5, h6, h7⟩ := ih k t (by simpa using h)
      rw [List.length_drop] at h5
      refine ⟨e + A, by omega, by omega, ?_, by rw [← List.drop_drop]; exact h7⟩
      rw [List.take_succ_cons]
      refine .tok (by rw [byt_take (by omega)]; exact h1) (tokS_take h2 (by omega)) ?_
      rw [List.drop_take, show e + A - e = A by omega]
      exact h6
/-- the next token is farther behind -/
theorem Sc.next {m : List UInt8} {p : Int} {t : Tok} {ts : List Tok} (h : Sc m p (t :: ts)) (ht : t.pos = p) : ∀ u, u ∈ ts → p < u.pos := by
  cases h with
  | blank hc h2 => have := h2.le t (by simp); omega
  | tok _ h2 h3 =>
    intro u hu
    have := h3.le u hu
    have := tokS_len h2
    omega
end Go.Proofs.YthndhaolemgbdaaGreatDoor.Lp

/- Contracts of the library's functions, from walks. -/
namespace Go.Ax
/-- from a walk: results of which nothing lies in memory -/
theorem FnOk.ofIs {P : Program} {el : Ck → TypeId} {gl : Nat → Option Gv} {f : FuncId} {sa sr : List Sg} {F : FT sa sr} (he : Sx.Enters P f) (ho : owns 0 sr = []) (h : ∀ x r, F x = some r → ∃ (us : List Value) (v : Value), (∀ X vs, Reps X (encL 0 sa x) vs → vs = us) ∧ Sx.Con P f us [] (fun _ => True) (Sx.Is v) ∧ ∀ X, BdL sa x → Rep X (pack (encL 0 sr r)) v) : FnOk P el gl f sa sr F := by
  refine ⟨he, fun x r hx w M vs hM hgl hr => ?_⟩
  obtain ⟨us, v, h1, h2, h3⟩ := h x r hx
  obtain rfl := h1 _ _ hr
  refine (h2.calls w (fun _ _ => trivial)).mono ?_
  rintro en w' ⟨u, L', F', rfl, ⟨rfl, _, _⟩, _, hb⟩
  refine ⟨u, ⟨fun _ => 0, fun _ => Option.none⟩, rfl, Chg.of_below hb, fun p g o hp => ?_, fun p q g o o' hp => ?_, h3 _ (reps_bd hr)⟩
  · rw [ho] at hp; cases hp
  · rw [ho] at hp; cases hp
end Go.Ax
namespace Go.Proofs.YthndhaolemgbdaaGreatDoor
open Go.Ax
open Go.Sx (Con S Is con_intro rt_is)
end Go.Proofs.YthndhaolemgbdaaGreatDoor

/- The values' own functions: may it be, does it fit, how do two stand, sums, differences, products. -/
namespace Go.Proofs.YthndhaolemgbdaaGreatDoor
open Go.Ax
/-! ## exchequer/value.visible -/
def visible_0_sg : Sig := ⟨20, [(0, .str), (2, .bool), (5, .int .i64), (6, .int .i64)], [], [], 0, 0, 0, [], []⟩
abbrev visible_0_V := Str × Bool × Int × Int
def visible_0 {R : Type} (rec : visible_0_V → Option R) (kx : Ex → visible_0_V → Option R) (v : visible_0_V) : Option R := match v with
 | (v, v1, v2, v3) =>
  cond (decide (v3 < v2)) (
   chk (inb v3 v.length) (
    cond (decide ((bat v v3) < 32)) (
     kx .ret (v, false, v2, v3)) (
     chk (inb v3 v.length) (
      cond (decide (126 < (bat v v3))) (
       kx .ret (v, false, v2, v3)) (
       rec (v, v1, v2, (wr .i64 (v3 + 1)))))))) (
   kx (.exit 0) (v, v1, v2, v3))
def visible_px (R : Type) (k : Nat) : Px R := ⟨ttOf ttL, glT, callT [], callQT [], loopT [(2, loopOr k visible_0_sg (visible_0))], tbl []⟩
theorem visible_0_eq (R : Type) (k : Nat) : ∀ (fr : List Fr) (rec : visible_0_V → Option R) (kx : Ex → visible_0_V → Option R) (v : visible_0_V), round (visible_px R k) visible_0_sg (lp Tryz.f169 0) fr rec kx v = visible_0 rec kx v
  | fr, rec, kx, (v, v1, v2, v3) => by kernel_rfl
def visible_body (k : Nat) (x : HV [.str]) : Option (HV [.bool]) := match x with
 | s =>
  iter (fun rec => visible_0 rec (fun e vz => match vz with | (_, v5, _, _) => match e with
   | .ret =>
    some v5
   | .exit 0 =>
    some true
   | _ => none)) k (s, false, (s.length : Int), 0)
theorem visible_eq (k : Nat) : ∀ (x : HV [.str]), runF (visible_px _ k) Tryz.f169 [.str] [.bool] x some = visible_body k x
  | s => by kernel_rfl
theorem visible_run (k : Nat) : FnOk Tryz.prog elT glT 169 [.str] [.bool] (visible_body k) := by
  refine fnOk_run Tryz.func169 rfl (by kernel_rfl) follows (by kernel_rfl) (n := 1) (by kernel_rfl) (px := visible_px _ k) (fun cx hP hel hgl => ?_) (visible_eq k)
  have hp0 : PxOk cx (visible_px (HV [.bool]) k) := ⟨fun t => by rw [hP, hel]; exact tt_ok ttL_ok t, by rw [hgl]; rfl⟩
  have hc0 : CallOk cx (visible_px (HV [.bool]) k) := callT_ok rfl cfs_nil
  have hq0 : CallQOk cx (visible_px (HV [.bool]) k) := callQT_ok rfl rfl cqfs_nil cwfs_nil
  have hlvisible_0 : LoopOk cx (visible_px (HV [.bool]) k) (lp Tryz.f169 0) := loop_ok hp0 hc0 hq0 (by rw [hP]; exact follows) (k := k) (s := visible_0_sg) (step := visible_0) (fun _ _ => by kernel_rfl) (by kernel_rfl) (visible_0_eq _ k) (loops_in (n := 0) (by kernel_rfl) all0)
  exact ⟨hp0, hc0, hq0, (allS all0 hlvisible_0)⟩
def vis (b : UInt8) : Bool := decide (32 ≤ b.toNat) && decide (b.toNat ≤ 126)
def visible (s : Str) : Bool := s.all vis
def visible_F : FT [.str] [.bool] := fun x => some (visible x)
theorem visible_loop {R : Type} {kx : Ex → visible_0_V → Option R} {s : Str} {a b : Option R} (hs : ln s.length) (h1 : ∀ r j, kx .ret (s, false, r, j) = a) (h2 : ∀ q r j, kx (.exit 0) (s, q, r, j) = b) : ∀ (k i : Nat) q, i ≤ s.length → s.length - i < k → iter (fun rec => visible_0 rec kx) k (s, q, (s.length : Int), (i : Int)) = cond ((s.drop i).all vis) b a
  | 0, i, q, _, h => by omega
  | k + 1, i, q, hi, h => by
    rw [iter_s]
    by_cases hl : i < s.length
    · have ih := visible_loop hs h1 h2 k (i + 1) q (by omega) (by omega)
      simp only [visible_0, wr_succ hl hs, ih, h1, drop_cons hl, bat_nat hl, inb_t hl, List.all_cons, chk, cond_t, Bool.cond_decide]
      rw [if_pos (by omega)]
      simp only [vis]
      split
      · rw [decide_eq_false (by omega)]; rfl
      · split
        · rw [decide_eq_true (by omega), decide_eq_false (by omega)]; rfl
        · rw [decide_eq_true (by omega), decide_eq_true (by omega)]; rfl
    · simp only [visible_0, h2, Bool.cond_decide]
      rw [if_neg (by omega), List.drop_eq_nil_of_le (by omega)]
      rfl
theorem visible_ok : FnOk Tryz.prog elT glT 169 [.str] [.bool] visible_F := .fin 0 visible_run fun x r hb hx => ⟨x.length + 1, by
  simp only [visible_F, Option.some.injEq] at hx
  have := visible_loop (a := some false) (b := some true) hb (kx := fun e v => match v with | (_, v5, _, _) => match e with | .ret => some v5 | .exit 0 => some true | _ => none) (fun _ _ => rfl) (fun _ _ _ => rfl) (x.length + 1) 0 false (Nat.zero_le _) (by omega)
  refine Eq.trans this ?_
  rw [← hx, List.drop_zero, visible]
  cases x.all vis <;> rfl⟩
/-! ## exchequer/value.right -/
def vright_px (R : Type) : Px R := ⟨ttOf ttL, glT, callT [(169, callOr [.str] [.bool] visible_F)], callQT [], loopT [], tbl []⟩
def vright_body (x : HV [.sv .val]) : Option (HV [.bool]) := match x with
 | v =>
  cond (decide (v.kind = 1)) (
   cond (decide (v.n = 0)) (
    some (decide (v.s = []))) (
    some false)) (
   cond (decide (v.kind = 2)) (
    cond (decide (v.n = 0)) (
     some (decide (v.s = []))) (
     cond (decide (v.n = 1)) (
      some (decide (v.s = []))) (
      some false))) (
    cond (decide (v.kind = 3)) (
     some (decide (v.s = []))) (
     cond (decide (v.kind = 4)) (
      cond (decide (v.n = 0)) (
       cond (decide ((v.s.length : Int) ≤ 1000)) (
        some (visible v.s)) (
        some false)) (
       some false)) (
      cond (decide (v.kind = 5)) (
       cond (decide (v.n = 0)) (
        some (decide ((v.s.length : Int) ≤ 1000))) (
        some false)) (
       some false)))))
theorem vright_eq : ∀ (x : HV [.sv .val]), runF (vright_px _) Tryz.f147 [.sv .val] [.bool] x some = vright_body x
  | v => by kernel_rfl
theorem vright_run : FnOk Tryz.prog elT glT 147 [.sv .val] [.bool] (vright_body) := by
  refine fnOk_run Tryz.func147 rfl (by kernel_rfl) follows (by kernel_rfl) (n := 0) (by kernel_rfl) (px := vright_px _) (fun cx hP hel hgl => ?_) (vright_eq)
  have hp0 : PxOk cx (vright_px (HV [.bool])) := ⟨fun t => by rw [hP, hel]; exact tt_ok ttL_ok t, by rw [hgl]; rfl⟩
  have hc0 : CallOk cx (vright_px (HV [.bool])) := callT_ok rfl (cfs_cons (cf_or (by rw [hP, hel, hgl]; exact visible_ok) (by kernel_rfl)) cfs_nil)
  have hq0 : CallQOk cx (vright_px (HV [.bool])) := callQT_ok rfl rfl cqfs_nil cwfs_nil
  exact ⟨hp0, hc0, hq0, all0⟩
def vright (v : Val) : Bool :=
  cond (decide (v.kind = 1)) (
   cond (decide (v.n = 0)) (
    (decide (v.s = []))) (
    false)) (
   cond (decide (v.kind = 2)) (
    cond (decide (v.n = 0)) (
     (decide (v.s = []))) (
     cond (decide (v.n = 1)) (
      (decide (v.s = []))) (
      false))) (
    cond (decide (v.kind = 3)) (
     (decide (v.s = []))) (
     cond (decide (v.kind = 4)) (
      cond (decide (v.n = 0)) (
       cond (decide ((v.s.length : Int) ≤ 1000)) (
        (visible v.s)) (
        false)) (
       false)) (
      cond (decide (v.kind = 5)) (
       cond (decide (v.n = 0)) (
        (decide ((v.s.length : Int) ≤ 1000))) (
        false)) (
       false)))))
theorem vright_tot (x : HV [.sv .val]) : vright_body x = some (vright x) := by
  first
    | exact rfl
    | simp only [vright_body, vright, cond_some]
def vright_F : FT [.sv .val] [.bool] := fun x => some (vright x)
theorem vright_ok : FnOk Tryz.prog elT glT 147 [.sv .val] [.bool] vright_F := .fin0 vright_run fun x _ _ hx => (vright_tot x).trans hx
/-! ## exchequer/value.Check -/
def vcheck_px (R : Type) : Px R := ⟨ttOf ttL, glT, callT [(147, callOr [.sv .val] [.bool] vright_F)], callQT [], loopT [], tbl []⟩
def vcheck_body (x : HV [.sv .val]) : Option (HV [.int .i64]) := match x with
 | v =>
  cond (!(vright v)) (
   some 2) (
   some 0)
theorem vcheck_eq : ∀ (x : HV [.sv .val]), runF (vcheck_px _) Tryz.f95 [.sv .val] [.int .i64] x some = vcheck_body x
  | v => by kernel_rfl
theorem vcheck_run : FnOk Tryz.prog elT glT 95 [.sv .val] [.int .i64] (vcheck_body) := by
  refine fnOk_run Tryz.func95 rfl (by kernel_rfl) follows (by kernel_rfl) (n := 0) (by kernel_rfl) (px := vcheck_px _) (fun cx hP hel hgl => ?_) (vcheck_eq)
  have hp0 : PxOk cx (vcheck_px (HV [.int .i64])) := ⟨fun t => by rw [hP, hel]; exact tt_ok ttL_ok t, by rw [hgl]; rfl⟩
  have hc0 : CallOk cx (vcheck_px (HV [.int .i64])) := callT_ok rfl (cfs_cons (cf_or (by rw [hP, hel, hgl]; exact vright_ok) (by kernel_rfl)) cfs_nil)
  have hq0 : CallQOk cx (vcheck_px (HV [.int .i64])) := callQT_ok rfl rfl cqfs_nil cwfs_nil
  exact ⟨hp0, hc0, hq0, all0⟩
def vcheck (v : Val) : Int :=
  cond (!(vright v)) (
   2) (
   0)
theorem vcheck_tot (x : HV [.sv .val]) : vcheck_body x = some (vcheck x) := by
  first
    | exact rfl
    | simp only [vcheck_body, vcheck, cond_some]
def vcheck_F : FT [.sv .val] [.int .i64] := fun x => some (vcheck x)
theorem vcheck_ok : FnOk Tryz.prog elT glT 95 [.sv .val] [.int .i64] vcheck_F := .fin0 vcheck_run fun x _ _ hx => (vcheck_tot x).trans hx
/-! ## exchequer/value.Add -/
def vadd_px (R : Type) : Px R := ⟨ttOf ttL, glT, callT [], callQT [], loopT [], tbl []⟩
def vadd_body (x : HV [.int .i64, .int .i64]) : Option (HV [.int .i64, .int .i64]) := match x with
 | (a, b) =>
  cond (!decide ((decide (a < (wr .i64 (a + b)))) = (decide (0 < b)))) (
   some (0, 20)) (
   some ((wr .i64 (a + b)), 0))
theorem vadd_eq : ∀ (x : HV [.int .i64, .int .i64]), runF (vadd_px _) Tryz.f195 [.int .i64, .int .i64] [.int .i64, .int .i64] x some = vadd_body x
  | (a, b) => by kernel_rfl
theorem vadd_run : FnOk Tryz.prog elT glT 195 [.int .i64, .int .i64] [.int .i64, .int .i64] (vadd_body) := by
  refine fnOk_run Tryz.func195 rfl (by kernel_rfl) follows (by kernel_rfl) (n := 0) (by kernel_rfl) (px := vadd_px _) (fun cx hP hel hgl => ?_) (vadd_eq)
  have hp0 : PxOk cx (vadd_px (HV [.int .i64, .int .i64])) := ⟨fun t => by rw [hP, hel]; exact tt_ok ttL_ok t, by rw [hgl]; rfl⟩
  have hc0 : CallOk cx (vadd_px (HV [.int .i64, .int .i64])) := callT_ok rfl cfs_nil
  have hq0 : CallQOk cx (vadd_px (HV [.int .i64, .int .i64])) := callQT_ok rfl rfl cqfs_nil cwfs_nil
  exact ⟨hp0, hc0, hq0, all0⟩
def vadd (a : Int) (b : Int) : Int × Int :=
  cond (!decide ((decide (a < (wr .i64 (a + b)))) = (decide (0 < b)))) (
   (0, 20)) (
   ((wr .i64 (a + b)), 0))
theorem vadd_tot (x : HV [.int .i64, .int .i64]) : vadd_body x = some (vadd x.1 x.2) := by
  first
    | exact rfl
    | simp only [vadd_body, vadd, cond_some]
def vadd_F : FT [.int .i64, .int .i64] [.int .i64, .int .i64] := fun x => some (vadd x.1 x.2)
theorem vadd_ok : FnOk Tryz.prog elT glT 195 [.int .i64, .int .i64] [.int .i64, .int .i64] vadd_F := .fin0 vadd_run fun x _ _ hx => (vadd_tot x).trans hx
/-! ## exchequer/value.size -/
def vsize_px (R : Type) : Px R := ⟨ttOf ttL, glT, callT [], callQT [], loopT [], tbl []⟩
def vsize_body (x : HV [.int .i64]) : Option (HV [.int .u64]) := match x with
 | n =>
  cond (decide (n < 0)) (
   some (wr .u64 (0 - (wr .u64 n)))) (
   some (wr .u64 n))
theorem vsize_eq : ∀ (x : HV [.int .i64]), runF (vsize_px _) Tryz.f170 [.int .i64] [.int .u64] x some = vsize_body x
  | n => by kernel_rfl
theorem vsize_run : FnOk Tryz.prog elT glT 170 [.int .i64] [.int .u64] (vsize_body) := by
  refine fnOk_run Tryz.func170 rfl (by kernel_rfl) follows (by kernel_rfl) (n := 0) (by kernel_rfl) (px := vsize_px _) (fun cx hP hel hgl => ?_) (vsize_eq)
  have hp0 : PxOk cx (vsize_px (HV [.int .u64])) := ⟨fun t => by rw [hP, hel]; exact tt_ok ttL_ok t, by rw [hgl]; rfl⟩
  have hc0 : CallOk cx (vsize_px (HV [.int .u64])) := callT_ok rfl cfs_nil
  have hq0 : CallQOk cx (vsize_px (HV [.int .u64])) := callQT_ok rfl rfl cqfs_nil cwfs_nil
  exact ⟨hp0, hc0, hq0, all0⟩
def vsize (n : Int) : Int :=
  cond (decide (n < 0)) (
   (wr .u64 (0 - (wr .u64 n)))) (
   (wr .u64 n))
theorem vsize_tot (x : HV [.int .i64]) : vsize_body x = some (vsize x) := by
  first
    | exact rfl
    | simp only [vsize_body, vsize, cond_some]
def vsize_F : FT [.int .i64] [.int .u64] := fun x => some (vsize x)
theorem vsize_ok : FnOk Tryz.prog elT glT 170 [.int .i64] [.int .u64] vsize_F := .fin0 vsize_run fun x _ _ hx => (vsize_tot x).trans hx
/-! ## math/bits.Mul64 -/
def mul64_px (R : Type) : Px R := ⟨ttOf ttL, glT, callT [], callQT [], loopT [], tbl []⟩
def mul64_body (x : HV [.int .u64, .int .u64]) : Option (HV [.int .u64, .int .u64]) := match x with
 | (a, b) =>
  some ((wr .u64 ((wr .u64 ((wr .u64 ((ishr .u64 a 32) * (ishr .u64 b 32))) + (ishr .u64 (wr .u64 ((wr .u64 ((ishr .u64 a 32) * (iand .u64 b 4294967295))) + (ishr .u64 (wr .u64 ((iand .u64 a 4294967295) * (iand .u64 b 4294967295))) 32))) 32))) + (ishr .u64 (wr .u64 ((iand .u64 (wr .u64 ((wr .u64 ((ishr .u64 a 32) * (iand .u64 b 4294967295))) + (ishr .u64 (wr .u64 ((iand .u64 a 4294967295) * (iand .u64 b 4294967295))) 32))) 4294967295) + (wr .u64 ((iand .u64 a 4294967295) * (ishr .u64 b 32))))) 32))), (wr .u64 (a * b)))
theorem mul64_eq : ∀ (x : HV [.int .u64, .int .u64]), runF (mul64_px _) Tryz.f201 [.int .u64, .int .u64] [.int .u64, .int .u64] x some = mul64_body x
  | (a, b) => by kernel_rfl
theorem mul64_run : FnOk Tryz.prog elT glT 201 [.int .u64, .int .u64] [.int .u64, .int .u64] (mul64_body) := by
  refine fnOk_run Tryz.func201 rfl (by kernel_rfl) follows (by kernel_rfl) (n := 0) (by kernel_rfl) (px := mul64_px _) (fun cx hP hel hgl => ?_) (mul64_eq)
  have hp0 : PxOk cx (mul64_px (HV [.int .u64, .int .u64])) := ⟨fun t => by rw [hP, hel]; exact tt_ok ttL_ok t, by rw [hgl]; rfl⟩
  have hc0 : CallOk cx (mul64_px (HV [.int .u64, .int .u64])) := callT_ok rfl cfs_nil
  have hq0 : CallQOk cx (mul64_px (HV [.int .u64, .int .u64])) := callQT_ok rfl rfl cqfs_nil cwfs_nil
  exact ⟨hp0, hc0, hq0, all0⟩
def mul64 (a : Int) (b : Int) : Int × Int :=
  ((wr .u64 ((wr .u64 ((wr .u64 ((ishr .u64 a 32) * (ishr .u64 b 32))) + (ishr .u64 (wr .u64 ((wr .u64 ((ishr .u64 a 32) * (iand .u64 b 4294967295))) + (ishr .u64 (wr .u64 ((iand .u64 a 4294967295) * (iand .u64 b 4294967295))) 32))) 32))) + (ishr .u64 (wr .u64 ((iand .u64 (wr .u64 ((wr .u64 ((ishr .u64 a 32) * (iand .u64 b 4294967295))) + (ishr .u64 (wr .u64 ((iand .u64 a 4294967295) * (iand .u64 b 4294967295))) 32))) 4294967295) + (wr .u64 ((iand .u64 a 4294967295) * (ishr .u64 b 32))))) 32))), (wr .u64 (a * b)))
theorem mul64_tot (x : HV [.int .u64, .int .u64]) : mul64_body x = some (mul64 x.1 x.2) := by
  first
    | exact rfl
    | simp only [mul64_body, mul64, cond_some]
def mul64_F : FT [.int .u64, .int .u64] [.int .u64, .int .u64] := fun x => some (mul64 x.1 x.2)
theorem mul64_ok : FnOk Tryz.prog elT glT 201 [.int .u64, .int .u64] [.int .u64, .int .u64] mul64_F := .fin0 mul64_run fun x _ _ hx => (mul64_tot x).trans hx
/-! ## exchequer/value.Mul -/
def vmul_px (R : Type) : Px R := ⟨ttOf ttL, glT, callT [(170, callOr [.int .i64] [.int .u64] vsize_F), (201, callOr [.int .u64, .int .u64] [.int .u64, .int .u64] mul64_F)], callQT [], loopT [], tbl []⟩
def vmul_body (x : HV [.int .i64, .int .i64]) : Option (HV [.int .i64, .int .i64]) := match x with
 | (a, b) =>
  let j1 := fun (p3 : Bool) =>
   cond (p3) (
    some (0, 20)) (
    cond (!decide ((decide (a < 0)) = (decide (b < 0)))) (
     some ((wr .i64 (wr .u64 (0 - (mul64 (vsize a) (vsize b)).2))), 0)) (
     some ((wr .i64 ((mul64 (vsize a) (vsize b)).2)), 0)))
  let j := fun (p : Bool) =>
   cond (p) (
    j1 true) (
    cond (decide ((mul64 (vsize a) (vsize b)).2 = 9223372036854775808)) (
     j1 (!(!decide ((decide (a < 0)) = (decide (b < 0)))))) (
     j1 false))
  cond (decide (0 < (mul64 (vsize a) (vsize b)).1)) (
   j true) (
   j (decide (9223372036854775808 < (mul64 (vsize a) (vsize b)).2)))
theorem vmul_eq : ∀ (x : HV [.int .i64, .int .i64]), runF (vmul_px _) Tryz.f194 [.int .i64, .int .i64] [.int .i64, .int .i64] x some = vmul_body x
  | (a, b) => by kernel_rfl
theorem vmul_run : FnOk Tryz.prog elT glT 194 [.int .i64, .int .i64] [.int .i64, .int .i64] (vmul_body) := by
  refine fnOk_run Tryz.func194 rfl (by kernel_rfl) follows (by kernel_rfl) (n := 0) (by kernel_rfl) (px := vmul_px _) (fun cx hP hel hgl => ?_) (vmul_eq)
  have hp0 : PxOk cx (vmul_px (HV [.int .i64, .int .i64])) := ⟨fun t => by rw [hP, hel]; exact tt_ok ttL_ok t, by rw [hgl]; rfl⟩
  have hc0 : CallOk cx (vmul_px (HV [.int .i64, .int .i64])) := callT_ok rfl (cfs_cons (cf_or (by rw [hP, hel, hgl]; exact vsize_ok) (by kernel_rfl)) (cfs_cons (cf_or (by rw [hP, hel, hgl]; exact mul64_ok) (by kernel_rfl)) cfs_nil))
  have hq0 : CallQOk cx (vmul_px (HV [.int .i64, .int .i64])) := callQT_ok rfl rfl cqfs_nil cwfs_nil
  exact ⟨hp0, hc0, hq0, all0⟩
def vmul (a : Int) (b : Int) : Int × Int :=
  let j1 := fun (p3 : Bool) =>
   cond (p3) (
    (0, 20)) (
    cond (!decide ((decide (a < 0)) = (decide (b < 0)))) (
     ((wr .i64 (wr .u64 (0 - (mul64 (vsize a) (vsize b)).2))), 0)) (
     ((wr .i64 ((mul64 (vsize a) (vsize b)).2)), 0)))
  let j := fun (p : Bool) =>
   cond (p) (
    j1 true) (
    cond (decide ((mul64 (vsize a) (vsize b)).2 = 9223372036854775808)) (
     j1 (!(!decide ((decide (a < 0)) = (decide (b < 0)))))) (
     j1 false))
  cond (decide (0 < (mul64 (vsize a) (vsize b)).1)) (
   j true) (
   j (decide (9223372036854775808 < (mul64 (vsize a) (vsize b)).2)))
theorem vmul_tot (x : HV [.int .i64, .int .i64]) : vmul_body x = some (vmul x.1 x.2) := by
  first
    | exact rfl
    | simp only [vmul_body, vmul, cond_some]
def vmul_F : FT [.int .i64, .int .i64] [.int .i64, .int .i64] := fun x => some (vmul x.1 x.2)
theorem vmul_ok : FnOk Tryz.prog elT glT 194 [.int .i64, .int .i64] [.int .i64, .int .i64] vmul_F := .fin0 vmul_run fun x _ _ hx => (vmul_tot x).trans hx
end Go.Proofs.YthndhaolemgbdaaGreatDoor

/- Names, without the lexer's other functions. -/
namespace Go.Proofs.YthndhaolemgbdaaGreatDoor
open Go.Ax
theorem inb_i {i : Int} {n : Nat} (h : 0 ≤ i ∧ i < n) : inb i n = true := by simp [inb, h]
/-! ## exchequer/lex.lower -/
def lower_px (R : Type) : Px R := ⟨ttOf ttL, glT, callT [], callQT [], loopT [], tbl []⟩
def lower_body (x : HV [.int .u8]) : Option (HV [.bool]) := match x with
 | c =>
  cond (decide (97 ≤ c)) (
   some (decide (c ≤ 122))) (
   some false)
theorem lower_eq : ∀ (x : HV [.int .u8]), runF (lower_px _) Tryz.f109 [.int .u8] [.bool] x some = lower_body x
  | c => by kernel_rfl
theorem lower_run : FnOk Tryz.prog elT glT 109 [.int .u8] [.bool] (lower_body) := by
  refine fnOk_run Tryz.func109 rfl (by kernel_rfl) follows (by kernel_rfl) (n := 0) (by kernel_rfl) (px := lower_px _) (fun cx hP hel hgl => ?_) (lower_eq)
  have hp0 : PxOk cx (lower_px (HV [.bool])) := ⟨fun t => by rw [hP, hel]; exact tt_ok ttL_ok t, by rw [hgl]; rfl⟩
  have hc0 : CallOk cx (lower_px (HV [.bool])) := callT_ok rfl cfs_nil
  have hq0 : CallQOk cx (lower_px (HV [.bool])) := callQT_ok rfl rfl cqfs_nil cwfs_nil
  exact ⟨hp0, hc0, hq0, all0⟩
def lower (c : Int) : Bool :=
  cond (decide (97 ≤ c)) (
   (decide (c ≤ 122))) (
   false)
theorem lower_tot (x : HV [.int .u8]) : lower_body x = some (lower x) := by
  first
    | exact rfl
    | simp only [lower_body, lower, cond_some]
def lower_F : FT [.int .u8] [.bool] := fun x => some (lower x)
theorem lower_ok : FnOk Tryz.prog elT glT 109 [.int .u8] [.bool] lower_F := .fin0 lower_run fun x _ _ hx => (lower_tot x).trans hx
/-! ## exchequer/lex.digit -/
def digit_px (R : Type) : Px R := ⟨ttOf ttL, glT, callT [], callQT [], loopT [], tbl []⟩
def digit_body (x : HV [.int .u8]) : Option (HV [.bool]) := match x with
 | c =>
  cond (decide (48 ≤ c)) (
   some (decide (c ≤ 57))) (
   some false)
theorem digit_eq : ∀ (x : HV [.int .u8]), runF (digit_px _) Tryz.f154 [.int .u8] [.bool] x some = digit_body x
  | c => by kernel_rfl
theorem digit_run : FnOk Tryz.prog elT glT 154 [.int .u8] [.bool] (digit_body) := by
  refine fnOk_run Tryz.func154 rfl (by kernel_rfl) follows (by kernel_rfl) (n := 0) (by kernel_rfl) (px := digit_px _) (fun cx hP hel hgl => ?_) (digit_eq)
  have hp0 : PxOk cx (digit_px (HV [.bool])) := ⟨fun t => by rw [hP, hel]; exact tt_ok ttL_ok t, by rw [hgl]; rfl⟩
  have hc0 : CallOk cx (digit_px (HV [.bool])) := callT_ok rfl cfs_nil
  have hq0 : CallQOk cx (digit_px (HV [.bool])) := callQT_ok rfl rfl cqfs_nil cwfs_nil
  exact ⟨hp0, hc0, hq0, all0⟩
def digit (c : Int) : Bool :=
  cond (decide (48 ≤ c)) (
   (decide (c ≤ 57))) (
   false)
theorem digit_tot (x : HV [.int .u8]) : digit_body x = some (digit x) := by
  first
    | exact rfl
    | simp only [digit_body, digit, cond_some]
def digit_F : FT [.int .u8] [.bool] := fun x => some (digit x)
theorem digit_ok : FnOk Tryz.prog elT glT 154 [.int .u8] [.bool] digit_F := .fin0 digit_run fun x _ _ hx => (digit_tot x).trans hx
/-! ## exchequer/lex.inner -/
def inner_px (R : Type) : Px R := ⟨ttOf ttL, glT, callT [(109, callOr [.int .u8] [.bool] lower_F), (154, callOr [.int .u8] [.bool] digit_F)], callQT [], loopT [], tbl []⟩
def inner_body (x : HV [.int .u8]) : Option (HV [.bool]) := match x with
 | c =>
  cond ((lower c)) (
   some true) (
   cond ((digit c)) (
    some true) (
    some (decide (c = 95))))
theorem inner_eq : ∀ (x : HV [.int .u8]), runF (inner_px _) Tryz.f111 [.int .u8] [.bool] x some = inner_body x
  | c => by kernel_rfl
theorem inner_run : FnOk Tryz.prog elT glT 111 [.int .u8] [.bool] (inner_body) := by
  refine fnOk_run Tryz.func111 rfl (by kernel_rfl) follows (by kernel_rfl) (n := 0) (by kernel_rfl) (px := inner_px _) (fun cx hP hel hgl => ?_) (inner_eq)
  have hp0 : PxOk cx (inner_px (HV [.bool])) := ⟨fun t => by rw [hP, hel]; exact tt_ok ttL_ok t, by rw [hgl]; rfl⟩
  have hc0 : CallOk cx (inner_px (HV [.bool])) := callT_ok rfl (cfs_cons (cf_or (by rw [hP, hel, hgl]; exact lower_ok) (by kernel_rfl)) (cfs_cons (cf_or (by rw [hP, hel, hgl]; exact digit_ok) (by kernel_rfl)) cfs_nil))
  have hq0 : CallQOk cx (inner_px (HV [.bool])) := callQT_ok rfl rfl cqfs_nil cwfs_nil
  exact ⟨hp0, hc0, hq0, all0⟩
def inner (c : Int) : Bool :=
  cond ((lower c)) (
   true) (
   cond ((digit c)) (
    true) (
    (decide (c = 95))))
theorem inner_tot (x : HV [.int .u8]) : inner_body x = some (inner x) := by
  first
    | exact rfl
    | simp only [inner_body, inner, cond_some]
def inner_F : FT [.int .u8] [.bool] := fun x => some (inner x)
theorem inner_ok : FnOk Tryz.prog elT glT 111 [.int .u8] [.bool] inner_F := .fin0 inner_run fun x _ _ hx => (inner_tot x).trans hx
theorem lower_is (c : Int) : lower c = Lp.isLo c := by simp only [lower, Lp.isLo]; cases decide (97 ≤ c) <;> rfl
theorem digit_is (c : Int) : digit c = Lp.isDi c := by simp only [digit, Lp.isDi]; cases decide (48 ≤ c) <;> rfl
theorem inner_is (c : Int) : inner c = Lp.isIn c := by
  simp only [inner, Lp.isIn, lower_is, digit_is]
  cases Lp.isLo c <;> cases Lp.isDi c <;> rfl
/-! ## exchequer/lex.Name -/
def lname_0_sg : Sig := ⟨21, [(0, .str), (1, .int .i64)], [(2, .fn 111 [])], [], 40, 40, 200, [], []⟩
abbrev lname_0_V := Str × Int
def lname_0 {R : Type} (rec : lname_0_V → Option R) (kx : Ex → lname_0_V → Option R) (v : lname_0_V) : Option R := match v with
 | (v, v1) =>
  cond (decide (v1 < (v.length : Int))) (
   chk (inb v1 v.length) (
    cond ((inner (bat v v1))) (
     rec (v, (wr .i64 (v1 + 1)))) (
     kx (.exit 0) (v, v1)))) (
   kx (.exit 0) (v, v1))
def lname_pxi0 (R : Type) (k : Nat) : Px R := ⟨ttOf ttL, glT, callT [(111, callOr [.int .u8] [.bool] inner_F)], callQT [], loopT [(1, loopOr k lname_0_sg (lname_0))], tbl []⟩
noncomputable def lname_px (R : Type) (k : Nat) : Px R := ⟨ttOf ttL, glT, callT [(109, callOr [.int .u8] [.bool] lower_F), (110, callRun 40 200 (lname_pxi0 R k) Tryz.f110)], callQT [], loopT [], tbl []⟩
theorem lname_0_eq (R : Type) (k : Nat) : ∀ (fr : List Fr) (rec : lname_0_V → Option R) (kx : Ex → lname_0_V → Option R) (v : lname_0_V), round (lname_pxi0 R k) lname_0_sg (lp Tryz.f110 0) fr rec kx v = lname_0 rec kx v
  | fr, rec, kx, (v, v1) => by kernel_rfl
def lname_body (k : Nat) (x : HV [.str]) : Option (HV [.bool]) := match x with
 | s =>
  let j1 := fun (p : Bool) =>
   let j := fun (p1 : Bool) =>
    cond (p1) (
     iter (fun rec => lname_0 rec (fun e vz => match vz with | (_, v3) => match e with
      | .exit 0 =>
       some (decide (v3 = (s.length : Int)))
      | _ => none)) k (s, 0)) (
     some false)
   cond (p) (
    chk (inb 0 s.length) (
     j (lower (bat s 0)))) (
    j false)
  cond (!decide (s = [])) (
   j1 (decide ((s.length : Int) ≤ 30))) (
   j1 false)
theorem lname_eq (k : Nat) : ∀ (x : HV [.str]), runF (lname_px _ k) Tryz.f63 [.str] [.bool] x some = lname_body k x
  | s => by kernel_rfl
theorem lname_run (k : Nat) : FnOk Tryz.prog elT glT 63 [.str] [.bool] (lname_body k) := by
  refine fnOk_run Tryz.func63 rfl (by kernel_rfl) follows (by kernel_rfl) (n := 0) (by kernel_rfl) (px := lname_px _ k) (fun cx hP hel hgl => ?_) (lname_eq k)
  have hp1 : PxOk cx (lname_pxi0 (HV [.bool]) k) := ⟨fun t => by rw [hP, hel]; exact tt_ok ttL_ok t, by rw [hgl]; rfl⟩
  have hc1 : CallOk cx (lname_pxi0 (HV [.bool]) k) := callT_ok rfl (cfs_cons (cf_or (by rw [hP, hel, hgl]; exact inner_ok) (by kernel_rfl)) cfs_nil)
  have hq1 : CallQOk cx (lname_pxi0 (HV [.bool]) k) := callQT_ok rfl rfl cqfs_nil cwfs_nil
  have hllname_0 : LoopOk cx (lname_pxi0 (HV [.bool]) k) (lp Tryz.f110 0) := loop_ok hp1 hc1 hq1 (by rw [hP]; exact follows) (k := k) (s := lname_0_sg) (step := lname_0) (fun _ _ => by kernel_rfl) (by kernel_rfl) (lname_0_eq _ k) (loops_in (n := 0) (by kernel_rfl) all0)
  have hp0 : PxOk cx (lname_px (HV [.bool]) k) := ⟨fun t => by rw [hP, hel]; exact tt_ok ttL_ok t, by rw [hgl]; rfl⟩
  have hc0 : CallOk cx (lname_px (HV [.bool]) k) := callT_ok rfl (cfs_cons (cf_or (by rw [hP, hel, hgl]; exact lower_ok) (by kernel_rfl)) (cfs_cons (cf_run hp1 hc1 hq1 (by rw [hP]; exact follows) (by rw [hP]; exact Tryz.func110) rfl (by kernel_rfl) (by kernel_rfl) (n := 1) (by kernel_rfl) ((allS all0 hllname_0))) cfs_nil))
  have hq0 : CallQOk cx (lname_px (HV [.bool]) k) := callQT_ok rfl rfl cqfs_nil cwfs_nil
  exact ⟨hp0, hc0, hq0, all0⟩
abbrev lname (s : Str) : Bool := Lp.nameF s
def lname_F : FT [.str] [.bool] := fun x => some (lname x)
theorem lname_0_loop {R : Type} {kx : Ex → lname_0_V → Option R} {s : Str}  {a : Int → Option R} (hs : ln s.length) (h1 : ∀ j, kx (.exit 0) (s, j) = a j) : ∀ (k i : Nat), i ≤ s.length → s.length - i < k → iter (fun rec => lname_0 rec kx) k (s, (i : Int)) = a (Lp.runTo Lp.isIn s i)
  | 0, i, _, h => absurd h (Nat.not_lt_zero _)
  | k + 1, i, hi, h => by
    rw [iter_s]
    by_cases hl : i < s.length
    · have ih := lname_0_loop  hs h1 k (i + 1) (by omega) (by omega)
      have eb : Sx.byt s (i : Int) = (s[i].toNat : Int) := bat_nat hl
      simp only [lname_0, wr_succ hl hs, ih, h1, bat_nat hl, inb_t hl, inner_is]
      rw [decide_eq_true (show (i : Int) < (s.length : Int) by omega)]
      cases hp : Lp.isIn (s[i].toNat : Int) with
      | true =>
        have := Lp.runTo_yes (p := Lp.isIn) (l := s) (j := i) (by omega) (by rw [eb]; exact hp)
        rw [← this]
        rfl
      | false =>
        have := Lp.runTo_no (p := Lp.isIn) (l := s) (j := i) (by omega) (by rw [eb]; exact hp)
        rw [this]
        rfl
    · have := Lp.runTo_end (p := Lp.isIn) (l := s) (j := i) (by omega)
      simp only [lname_0, h1]
      rw [decide_eq_false (by omega), this]
      rfl
theorem lname_ok : FnOk Tryz.prog elT glT 63 [.str] [.bool] lname_F := .fin 0 lname_run fun s r hb hx => ⟨s.length + 1, by
  simp only [lname_F, Option.some.injEq] at hx
  rw [← hx]
  simp only [lname_body, lname, Lp.nameF]
  by_cases he : s = []
  · rw [decide_eq_true he]; rfl
  · rw [decide_eq_false he]
    simp only [Bool.not_false, cond_t, Bool.true_and]
    by_cases h30 : (s.length : Int) ≤ 30
    · have hp : 0 < s.length := List.length_pos_iff.2 he
      rw [decide_eq_true h30, inb_i (by omega), lower_is]
      simp only [chk, cond_t, Bool.true_and]
      have eb : bat s 0 = Sx.byt s 0 := rfl
      rw [eb]
      cases Lp.isLo (Sx.byt s 0) with
      | false => rfl
      | true =>
        simp only [cond_t, Bool.true_and]
        exact lname_0_loop (s := s) (a := fun j => some (decide (j = (s.length : Int)))) hb (fun _ => rfl) (s.length + 1) 0 (Nat.zero_le _) (by omega)
    · rw [decide_eq_false h30]
      rfl⟩
end Go.Proofs.YthndhaolemgbdaaGreatDoor

/- What sums, differences and products of numbers come to. -/
namespace Go.Proofs.YthndhaolemgbdaaGreatDoor
open Go.Ax
theorem wru (n : Int) : wr .u64 n = n % 18446744073709551616 := by simp [wr, IntKind.wrap, IntKind.bits, IntKind.signed]
theorem wri (n : Int) : wr .i64 n = if 9223372036854775808 ≤ n % 18446744073709551616 then n % 18446744073709551616 - 18446744073709551616 else n % 18446744073709551616 := by
  simp [wr, IntKind.wrap, IntKind.bits, IntKind.signed]
theorem wru_id {n : Int} (h : 0 ≤ n ∧ n ≤ 18446744073709551615) : wr .u64 n = n := by rw [wru]; omega
theorem iand_lo {a : Int} (h : 0 ≤ a ∧ a ≤ 18446744073709551615) : iand .u64 a 4294967295 = a % 4294967296 := by
  obtain ⟨n, rfl⟩ := Int.eq_ofNat_of_zero_le h.1
  have hn : n < 18446744073709551616 := by omega
  have e2 : (BitVec.ofInt IntKind.u64.bits (n : Int) &&& BitVec.ofInt IntKind.u64.bits 4294967295).toNat = n % 4294967296 := by
    show (BitVec.ofInt 64 (n : Int) &&& BitVec.ofInt 64 ((4294967295 : Nat) : Int)).toNat = n % 4294967296
    rw [BitVec.toNat_and, BitVec.ofInt_natCast, BitVec.ofInt_natCast, BitVec.toNat_ofNat, BitVec.toNat_ofNat]
    rw [Nat.mod_eq_of_lt hn, Nat.mod_eq_of_lt (by decide)]
    exact Nat.and_two_pow_sub_one_eq_mod n 32
  show wr .u64 _ = _
  simp only [e2]
  rw [wru_id (by omega)]
  omega
theorem ishr_hi {a : Int} : ishr .u64 a 32 = a / 4294967296 := by
  show a.fdiv (2 ^ min (32 : Int).toNat IntKind.u64.bits) = _
  rw [show (2 : Int) ^ min (32 : Int).toNat IntKind.u64.bits = 4294967296 from by decide]
  exact Int.fdiv_eq_ediv_of_nonneg _ (by omega)
theorem mul_bd (a b c d : Int) (h : 0 ≤ a ∧ a ≤ c) (h' : 0 ≤ b ∧ b ≤ d) : 0 ≤ a * b ∧ a * b ≤ c * d :=
  ⟨Int.mul_nonneg h.1 h'.1, Int.mul_le_mul h.2 h'.2 h'.1 (by omega)⟩
theorem mul64_split (x y : Int) : x * y = (x / 4294967296) * (y / 4294967296) * 18446744073709551616 + ((x / 4294967296) * (y % 4294967296) + (x % 4294967296) * (y / 4294967296)) * 4294967296 + (x % 4294967296) * (y % 4294967296) := by
  have hx := Int.mul_ediv_add_emod x 4294967296
  have hy := Int.mul_ediv_add_emod y 4294967296
  generalize x / 4294967296 = p at *
  generalize x % 4294967296 = q at *
  generalize y / 4294967296 = r at *
  generalize y % 4294967296 = s at *
  rw [← hx, ← hy]
  simp only [Int.add_mul, Int.mul_add]
  have e1 : 4294967296 * p * (4294967296 * r) = p * r * 18446744073709551616 := by
    rw [Int.mul_assoc, Int.mul_left_comm p, ← Int.mul_assoc]
    omega
  have e2 : 4294967296 * p * s = p * s * 4294967296 := by rw [Int.mul_assoc]; omega
  have e3 : q * (4294967296 * r) = q * r * 4294967296 := by rw [Int.mul_left_comm]; omega
  omega
theorem mul64_z (x y : Int) (hx : 0 ≤ x ∧ x ≤ 18446744073709551615) (hy : 0 ≤ y ∧ y ≤ 18446744073709551615) : mul64 x y = (x * y / 18446744073709551616, x * y % 18446744073709551616) := by
  have b00 := mul_bd (x % 4294967296) (y % 4294967296) 4294967295 4294967295 (by omega) (by omega)
  have b10 := mul_bd (x / 4294967296) (y % 4294967296) 4294967295 4294967295 (by omega) (by omega)
  have b01 := mul_bd (x % 4294967296) (y / 4294967296) 4294967295 4294967295 (by omega) (by omega)
  have b11 := mul_bd (x / 4294967296) (y / 4294967296) 4294967295 4294967295 (by omega) (by omega)
  have sp := mul64_split x y
  simp only [mul64, ishr_hi, iand_lo hx, iand_lo hy]
  generalize (x % 4294967296) * (y % 4294967296) = p00 at *
  generalize (x / 4294967296) * (y % 4294967296) = p10 at *
  generalize (x % 4294967296) * (y / 4294967296) = p01 at *
  generalize (x / 4294967296) * (y / 4294967296) = p11 at *
  rw [wru_id (n := p00) (by omega), wru_id (n := p10) (by omega), wru_id (n := p11) (by omega), wru_id (n := p01) (by omega)]
  rw [wru_id (n := p10 + p00 / 4294967296) (by omega)]
  rw [iand_lo (by omega)]
  rw [wru_id (n := (p10 + p00 / 4294967296) % 4294967296 + p01) (by omega)]
  rw [wru_id (n := p11 + (p10 + p00 / 4294967296) / 4294967296) (by omega)]
  rw [wru_id (n := p11 + (p10 + p00 / 4294967296) / 4294967296 + ((p10 + p00 / 4294967296) % 4294967296 + p01) / 4294967296) (by omega), wru]
  rw [Prod.mk.injEq]
  constructor <;> omega
/-- what has room, or is told to have none -/
def fitZ (n : Int) : Int × Int := if -9223372036854775808 ≤ n ∧ n ≤ 9223372036854775807 then (n, 0) else (0, 20)
def absI (n : Int) : Int := if n < 0 then -n else n
theorem vsize_z {n : Int} (h : inI n) : vsize n = absI n := by
  simp only [inI] at h
  simp only [vsize, absI, Bool.cond_decide, wru]
  split <;> omega
theorem fit_ok {q r : Int} (h : inI q) (hr : r = q) : (r, (0 : Int)) = fitZ q := by
  simp only [inI] at h
  rw [hr, fitZ, if_pos h]
theorem fit_no {q : Int} (h : ¬ inI q) : ((0 : Int), (20 : Int)) = fitZ q := by
  simp only [inI] at h
  rw [fitZ, if_neg h]
theorem vadd_z {a b : Int} (ha : inI a) (hb : inI b) : vadd a b = fitZ (a + b) := by
  simp only [inI] at ha hb
  simp only [vadd, wri]
  by_cases h1 : 0 < b
  · rw [decide_eq_true h1]
    by_cases h2 : a + b ≤ 9223372036854775807
    · have e : (a + b) % 18446744073709551616 < 9223372036854775808 ∨ 9223372036854775808 ≤ (a + b) % 18446744073709551616 := by omega
      rw [← fit_ok (q := a + b) (r := if 9223372036854775808 ≤ (a + b) % 18446744073709551616 then (a + b) % 18446744073709551616 - 18446744073709551616 else (a + b) % 18446744073709551616) (by simp only [inI]; omega) (by split <;> omega)]
      rw [decide_eq_true (p := a < _) (by split <;> omega)]
      rfl
    · rw [← fit_no (q := a + b) (by simp only [inI]; omega)]
      rw [decide_eq_false (p := a < _) (by split <;> omega)]
      rfl
  · rw [decide_eq_false h1]
    by_cases h2 : -9223372036854775808 ≤ a + b
    · rw [← fit_ok (q := a + b) (r := if 9223372036854775808 ≤ (a + b) % 18446744073709551616 then (a + b) % 18446744073709551616 - 18446744073709551616 else (a + b) % 18446744073709551616) (by simp only [inI]; omega) (by split <;> omega)]
      rw [decide_eq_false (p := a < _) (by split <;> omega)]
      rfl
    · rw [← fit_no (q := a + b) (by simp only [inI]; omega)]
      rw [decide_eq_true (p := a < _) (by split <;> omega)]
      rfl
theorem vmul_z {a b : Int} (ha : inI a) (hb : inI b) : vmul a b = fitZ (a * b) := by
  have ha' := ha; have hb' := hb
  simp only [inI] at ha' hb'
  have hA : 0 ≤ absI a ∧ absI a ≤ 9223372036854775808 := by unfold absI; split <;> omega
  have hB : 0 ≤ absI b ∧ absI b ≤ 9223372036854775808 := by unfold absI; split <;> omega
  have hbd := mul_bd _ _ _ _ hA hB
  have hsg : a * b = if decide (a < 0) = decide (b < 0) then absI a * absI b else -(absI a * absI b) := by
    unfold absI
    by_cases h1 : a < 0 <;> by_cases h2 : b < 0 <;> simp [h1, h2, Int.neg_mul, Int.mul_neg]
  simp only [vmul, vsize_z ha, vsize_z hb, mul64_z _ _ (show 0 ≤ absI a ∧ absI a ≤ 18446744073709551615 by omega) (show 0 ≤ absI b ∧ absI b ≤ 18446744073709551615 by omega)]
  clear ha hb ha' hb' hA hB
  generalize absI a * absI b = p at *
  generalize a * b = q at *
  by_cases hs : decide (a < 0) = decide (b < 0)
  · rw [if_pos hs] at hsg
    rw [decide_eq_true hs]
    by_cases h1 : p < 9223372036854775808
    · rw [decide_eq_false (show ¬ 0 < p / 18446744073709551616 by omega), decide_eq_false (show ¬ 9223372036854775808 < p % 18446744073709551616 by omega), decide_eq_false (show ¬ p % 18446744073709551616 = 9223372036854775808 by omega)]
      refine (show _ = (wr .i64 (p % 18446744073709551616), (0 : Int)) from rfl).trans (fit_ok (by simp only [inI]; omega) ?_)
      rw [wri]; split <;> omega
    · rw [← fit_no (q := q) (by simp only [inI]; omega)]
      by_cases h2 : 0 < p / 18446744073709551616
      · rw [decide_eq_true h2]; rfl
      · rw [decide_eq_false h2]
        by_cases h3 : 9223372036854775808 < p % 18446744073709551616
        · rw [decide_eq_true h3]; rfl
        · rw [decide_eq_false h3, decide_eq_true (show p % 18446744073709551616 = 9223372036854775808 by omega)]; rfl
  · rw [if_neg hs] at hsg
    rw [decide_eq_false hs]
    by_cases h1 : p ≤ 9223372036854775808
    · rw [decide_eq_false (show ¬ 0 < p / 18446744073709551616 by omega), decide_eq_false (show ¬ 9223372036854775808 < p % 18446744073709551616 by omega)]
      have : fitZ q = (wr .i64 (wr .u64 (0 - p % 18446744073709551616)), (0 : Int)) := by
        refine (fit_ok (by simp only [inI]; omega) ?_).symm
        rw [wri, wru]; split <;> omega
      rw [this]
      cases decide (p % 18446744073709551616 = 9223372036854775808) <;> rfl
    · rw [← fit_no (q := q) (by simp only [inI]; omega)]
      by_cases h2 : 0 < p / 18446744073709551616
      · rw [decide_eq_true h2]; rfl
      · rw [decide_eq_false h2, decide_eq_true (show 9223372036854775808 < p % 18446744073709551616 by omega)]; rfl
end Go.Proofs.YthndhaolemgbdaaGreatDoor

/- The lexer's own functions: what they come to. -/
namespace Go.Proofs.YthndhaolemgbdaaGreatDoor
open Go.Ax
theorem upto_len {m n : Nat} (h : m ≤ n) : upto 0 (m : Int) n = true := by simp [upto]; omega
/-! ## texts: does one begin with another; where a byte stands -/
/-! ## internal/stringslite.HasPrefix -/
def hpre0_px (R : Type) : Px R := ⟨ttOf ttL, glT, callT [], callQT [], loopT [], tbl []⟩
def hpre0_body (x : HV [.str, .str]) : Option (HV [.bool]) := match x with
 | (l, m) =>
  cond (decide ((m.length : Int) ≤ (l.length : Int))) (
   chk (upto 0 (m.length : Int) l.length) (
    some (decide ((l.take ((m.length : Int) : Int).toNat) = m)))) (
   some false)
theorem hpre0_eq : ∀ (x : HV [.str, .str]), runF (hpre0_px _) Tryz.f192 [.str, .str] [.bool] x some = hpre0_body x
  | (l, m) => by kernel_rfl
theorem hpre0_run : FnOk Tryz.prog elT glT 192 [.str, .str] [.bool] (hpre0_body) := by
  refine fnOk_run Tryz.func192 rfl (by kernel_rfl) follows (by kernel_rfl) (n := 0) (by kernel_rfl) (px := hpre0_px _) (fun cx hP hel hgl => ?_) (hpre0_eq)
  have hp0 : PxOk cx (hpre0_px (HV [.bool])) := ⟨fun t => by rw [hP, hel]; exact tt_ok ttL_ok t, by rw [hgl]; rfl⟩
  have hc0 : CallOk cx (hpre0_px (HV [.bool])) := callT_ok rfl cfs_nil
  have hq0 : CallQOk cx (hpre0_px (HV [.bool])) := callQT_ok rfl rfl cqfs_nil cwfs_nil
  exact ⟨hp0, hc0, hq0, all0⟩
def hpre0 (l m : Str) : Bool := Lp.pre l m
def hpre0_F : FT [.str, .str] [.bool] := fun x => some (hpre0 x.1 x.2)
theorem hpre0_ok : FnOk Tryz.prog elT glT 192 [.str, .str] [.bool] hpre0_F := .fin0 hpre0_run fun (l, m) r hb hx => by
  simp only [hpre0_F, Option.some.injEq] at hx
  subst hx
  simp only [hpre0_body, hpre0, Lp.pre]
  have e : decide ((m.length : Int) ≤ (l.length : Int)) = decide (m.length ≤ l.length) := decide_eq_decide.2 (by omega)
  rw [e]
  by_cases h : m.length ≤ l.length
  · rw [decide_eq_true h, cond_t, upto_len h, Int.toNat_natCast]
    rfl
  · rw [decide_eq_false h]
    rfl
/-! ## strings.HasPrefix -/
def hpre_px (R : Type) : Px R := ⟨ttOf ttL, glT, callT [(192, callOr [.str, .str] [.bool] hpre0_F)], callQT [], loopT [], tbl []⟩
def hpre_body (x : HV [.str, .str]) : Option (HV [.bool]) := match x with
 | (l, m) =>
  some (hpre0 l m)
theorem hpre_eq : ∀ (x : HV [.str, .str]), runF (hpre_px _) Tryz.f175 [.str, .str] [.bool] x some = hpre_body x
  | (l, m) => by kernel_rfl
theorem hpre_run : FnOk Tryz.prog elT glT 175 [.str, .str] [.bool] (hpre_body) := by
  refine fnOk_run Tryz.func175 rfl (by kernel_rfl) follows (by kernel_rfl) (n := 0) (by kernel_rfl) (px := hpre_px _) (fun cx hP hel hgl => ?_) (hpre_eq)
  have hp0 : PxOk cx (hpre_px (HV [.bool])) := ⟨fun t => by rw [hP, hel]; exact tt_ok ttL_ok t, by rw [hgl]; rfl⟩
  have hc0 : CallOk cx (hpre_px (HV [.bool])) := callT_ok rfl (cfs_cons (cf_or (by rw [hP, hel, hgl]; exact hpre0_ok) (by kernel_rfl)) cfs_nil)
  have hq0 : CallQOk cx (hpre_px (HV [.bool])) := callQT_ok rfl rfl cqfs_nil cwfs_nil
  exact ⟨hp0, hc0, hq0, all0⟩
def hpre (l : Str) (m : Str) : Bool :=
  (hpre0 l m)
theorem hpre_tot (x : HV [.str, .str]) : hpre_body x = some (hpre x.1 x.2) := by
  first
    | exact rfl
    | simp only [hpre_body, hpre, cond_some]
def hpre_F : FT [.str, .str] [.bool] := fun x => some (hpre x.1 x.2)
theorem hpre_ok : FnOk Tryz.prog elT glT 175 [.str, .str] [.bool] hpre_F := .fin0 hpre_run fun x _ _ hx => (hpre_tot x).trans hx
set_option maxRecDepth 20000 in
open Go.Sx in
theorem indexByte0_con (l : Str) (c : Int) : Con Tryz.prog 174 [S l, .int .u8 c] [] (fun _ => True) (Is (.int .i64 (Lib.indexByte l c.toNat.toUInt8))) := by
  have run : ∀ w, (callFunc 191 #[S l, .int .u8 c]).run Tryz.prog w = .ok (.value (.int .i64 (Lib.indexByte l c.toNat.toUInt8))) w := fun w => by
    rw [run_callFunc_extern Tryz.func191 (by kernel_rfl) rfl (by kernel_rfl) (e := Extern.BytealgIndexByte.indexByte) (by kernel_rfl)]
    simp [Lib.run_indexByteString, go_sem]
  refine con_intro Tryz.func174 Tryz.ntmps174 rfl (by kernel_rfl) rfl fun w M => ?_
  repeat' (first | refine g_seq ?_ | refine g_region ?_ | refine o_nil ?_ | refine n_seq ?_ | refine n_blk ?_ | refine g_block ?_ | refine g_skip ?_ | refine g_exit ?_ | refine x_here ?_ | refine x_seq ?_ | refine x_loop ?_ | refine x_blk rfl ?_ | refine g_scope ?_ | refine n_scope ?_ | refine x_scope ?_ | refine g_label ?_ | (apply o_pure rfl rfl; (first | exact p_move rfl | exact p_assign rfl | exact p_lens (by dsimp only; decide +kernel) rfl | exact p_lensl (by dsimp only; decide +kernel) rfl | exact p_extract rfl rfl | exact p_pick_t rfl rfl | exact p_pick_f rfl rfl | exact p_eql rfl rfl | exact p_neq rfl rfl | exact p_lss rfl rfl | exact p_leq rfl rfl | exact p_gtr rfl rfl | exact p_geq rfl rfl | exact p_not rfl | exact p_eqls rfl rfl | exact p_neqs rfl rfl | exact p_add64 rfl rfl (by omega) | exact p_sub64 rfl rfl (by omega) | exact p_index (by dsimp only; decide +kernel) rfl rfl (by omega) | exact p_cut (by dsimp only; decide +kernel) rfl rfl rfl (by omega) | exact p_cutlo (by dsimp only; decide +kernel) rfl rfl (by omega) | exact p_cuthi (by dsimp only; decide +kernel) rfl rfl (by omega) | exact p_fa (fo := 0) (by dsimp only; decide +kernel) rfl | exact p_fa (fo := 1) (by dsimp only; decide +kernel) rfl | exact p_fa (fo := 2) (by dsimp only; decide +kernel) rfl | exact p_fa (fo := 3) (by dsimp only; decide +kernel) rfl | exact p_nil rfl)) | refine o_off rfl rfl ?_ | refine o_off_none rfl ?_ | (apply o_pure rfl rfl (p_callx rfl rfl run)) | (refine o_gsd rfl rfl ?_ ?_ <;> intro hc) | (refine o_gse rfl rfl ?_ ?_ <;> intro hc) | (refine o_gsn rfl rfl ?_ ?_ <;> intro hc) | (refine o_gsxd rfl rfl ?_ ?_ <;> intro hc) | (refine o_gsx rfl rfl ?_ ?_ <;> intro hc) | (refine o_gs rfl rfl ?_ ?_ <;> intro hc) | refine g_cond_t rfl rfl ?_ | refine g_cond_f rfl rfl ?_ | refine g_cond_t rfl (decide_eq_true (by omega)) ?_ | refine g_cond_f rfl (decide_eq_false (by omega)) ?_ | (refine g_condd rfl ?_ ?_ <;> intro hc) | (refine g_conde rfl ?_ ?_ <;> intro hc) | (refine g_condn rfl ?_ ?_ <;> intro hc) | (refine g_condxd rfl ?_ ?_ <;> intro hc) | (refine g_condx rfl ?_ ?_ <;> intro hc) | (refine g_cond rfl ?_ ?_ <;> intro hc) | refine g_ret1 rfl rfl ?_ | refine g_ret2 rfl rfl rfl ?_ | refine g_ret3 rfl rfl rfl rfl ?_)
  exact rt_is rfl
def sib (l : Str) (c : Int) : Int := Lib.indexByte l c.toNat.toUInt8
def sib_F : FT [.str, .int .u8] [.int .i64] := fun x => some (sib x.1 x.2)
theorem sib_rng (l : Str) (c : Int) : -1 ≤ sib l c ∧ sib l c < l.length + 1 := by
  have := Lp.indexByte_in l c.toNat.toUInt8
  simp only [sib]
  omega
theorem sib_ok : FnOk Tryz.prog elT glT 174 [.str, .int .u8] [.int .i64] sib_F := by
  refine FnOk.ofIs (indexByte0_con [] 0).enters rfl fun x r hx => ?_
  obtain ⟨l, c⟩ := x
  simp only [sib_F, Option.some.injEq] at hx
  subst hx
  refine ⟨[Sx.S l, .int .u8 c], _, fun X vs h => ?_, indexByte0_con l c, fun X hb => ?_⟩
  · simp only [encL, enc1, Reps, Rep] at h
    obtain ⟨u, us, rfl, ⟨rfl, _⟩, u2, us2, rfl, ⟨rfl, _⟩, rfl⟩ := h
    rfl
  · simp only [pack, encL, enc1]
    have h := sib_rng l c
    have hl : ln l.length := hb.1
    refine rep_int (u8_of ?_)
    simp only [IntKind.min, IntKind.max, IntKind.signed, IntKind.bits, sib, ln] at *
    simp only [if_true]
    omega
/-! ## strings.IndexByte -/
def sidxb_px (R : Type) : Px R := ⟨ttOf ttL, glT, callT [(174, callOr [.str, .int .u8] [.int .i64] sib_F)], callQT [], loopT [], tbl []⟩
def sidxb_body (x : HV [.str, .int .u8]) : Option (HV [.int .i64]) := match x with
 | (l, c) =>
  some (sib l c)
theorem sidxb_eq : ∀ (x : HV [.str, .int .u8]), runF (sidxb_px _) Tryz.f156 [.str, .int .u8] [.int .i64] x some = sidxb_body x
  | (l, c) => by kernel_rfl
theorem sidxb_run : FnOk Tryz.prog elT glT 156 [.str, .int .u8] [.int .i64] (sidxb_body) := by
  refine fnOk_run Tryz.func156 rfl (by kernel_rfl) follows (by kernel_rfl) (n := 0) (by kernel_rfl) (px := sidxb_px _) (fun cx hP hel hgl => ?_) (sidxb_eq)
  have hp0 : PxOk cx (sidxb_px (HV [.int .i64])) := ⟨fun t => by rw [hP, hel]; exact tt_ok ttL_ok t, by rw [hgl]; rfl⟩
  have hc0 : CallOk cx (sidxb_px (HV [.int .i64])) := callT_ok rfl (cfs_cons (cf_or (by rw [hP, hel, hgl]; exact sib_ok) (by kernel_rfl)) cfs_nil)
  have hq0 : CallQOk cx (sidxb_px (HV [.int .i64])) := callQT_ok rfl rfl cqfs_nil cwfs_nil
  exact ⟨hp0, hc0, hq0, all0⟩
def sidxb (l : Str) (c : Int) : Int :=
  (sib l c)
theorem sidxb_tot (x : HV [.str, .int .u8]) : sidxb_body x = some (sidxb x.1 x.2) := by
  first
    | exact rfl
    | simp only [sidxb_body, sidxb, cond_some]
def sidxb_F : FT [.str, .int .u8] [.int .i64] := fun x => some (sidxb x.1 x.2)
theorem sidxb_ok : FnOk Tryz.prog elT glT 156 [.str, .int .u8] [.int .i64] sidxb_F := .fin0 sidxb_run fun x _ _ hx => (sidxb_tot x).trans hx
/-! ## exchequer/lex.upper -/
def upper_px (R : Type) : Px R := ⟨ttOf ttL, glT, callT [], callQT [], loopT [], tbl []⟩
def upper_body (x : HV [.int .u8]) : Option (HV [.bool]) := match x with
 | c =>
  cond (decide (65 ≤ c)) (
   some (decide (c ≤ 90))) (
   some false)
theorem upper_eq : ∀ (x : HV [.int .u8]), runF (upper_px _) Tryz.f177 [.int .u8] [.bool] x some = upper_body x
  | c => by kernel_rfl
theorem upper_run : FnOk Tryz.prog elT glT 177 [.int .u8] [.bool] (upper_body) := by
  refine fnOk_run Tryz.func177 rfl (by kernel_rfl) follows (by kernel_rfl) (n := 0) (by kernel_rfl) (px := upper_px _) (fun cx hP hel hgl => ?_) (upper_eq)
  have hp0 : PxOk cx (upper_px (HV [.bool])) := ⟨fun t => by rw [hP, hel]; exact tt_ok ttL_ok t, by rw [hgl]; rfl⟩
  have hc0 : CallOk cx (upper_px (HV [.bool])) := callT_ok rfl cfs_nil
  have hq0 : CallQOk cx (upper_px (HV [.bool])) := callQT_ok rfl rfl cqfs_nil cwfs_nil
  exact ⟨hp0, hc0, hq0, all0⟩
def upper (c : Int) : Bool :=
  cond (decide (65 ≤ c)) (
   (decide (c ≤ 90))) (
   false)
theorem upper_tot (x : HV [.int .u8]) : upper_body x = some (upper x) := by
  first
    | exact rfl
    | simp only [upper_body, upper, cond_some]
def upper_F : FT [.int .u8] [.bool] := fun x => some (upper x)
theorem upper_ok : FnOk Tryz.prog elT glT 177 [.int .u8] [.bool] upper_F := .fin0 upper_run fun x _ _ hx => (upper_tot x).trans hx
theorem upper_is (c : Int) : upper c = Lp.isUp c := by simp only [upper, Lp.isUp]; cases decide (65 ≤ c) <;> rfl
/-! ## exchequer/lex.alone -/
def alone_px (R : Type) : Px R := ⟨ttOf ttL, glT, callT [(111, callOr [.int .u8] [.bool] inner_F), (177, callOr [.int .u8] [.bool] upper_F)], callQT [], loopT [], tbl []⟩
def alone_body (x : HV [.str, .int .i64]) : Option (HV [.bool]) := match x with
 | (s, i) =>
  cond (decide (i = (s.length : Int))) (
   some true) (
   chk (inb i s.length) (
    cond (!(inner (bat s i))) (
     chk (inb i s.length) (
      some (!(upper (bat s i))))) (
     some false)))
theorem alone_eq : ∀ (x : HV [.str, .int .i64]), runF (alone_px _) Tryz.f179 [.str, .int .i64] [.bool] x some = alone_body x
  | (s, i) => by kernel_rfl
theorem alone_run : FnOk Tryz.prog elT glT 179 [.str, .int .i64] [.bool] (alone_body) := by
  refine fnOk_run Tryz.func179 rfl (by kernel_rfl) follows (by kernel_rfl) (n := 0) (by kernel_rfl) (px := alone_px _) (fun cx hP hel hgl => ?_) (alone_eq)
  have hp0 : PxOk cx (alone_px (HV [.bool])) := ⟨fun t => by rw [hP, hel]; exact tt_ok ttL_ok t, by rw [hgl]; rfl⟩
  have hc0 : CallOk cx (alone_px (HV [.bool])) := callT_ok rfl (cfs_cons (cf_or (by rw [hP, hel, hgl]; exact inner_ok) (by kernel_rfl)) (cfs_cons (cf_or (by rw [hP, hel, hgl]; exact upper_ok) (by kernel_rfl)) cfs_nil))
  have hq0 : CallQOk cx (alone_px (HV [.bool])) := callQT_ok rfl rfl cqfs_nil cwfs_nil
  exact ⟨hp0, hc0, hq0, all0⟩
def alone (s : Str) (i : Int) : Option Bool := if 0 ≤ i ∧ i ≤ s.length then some (Lp.aloneF s i) else none
def alone_F : FT [.str, .int .i64] [.bool] := fun x => alone x.1 x.2
theorem beq_int (a b : Int) : (a == b) = decide (a = b) := rfl
theorem alone_b (s : Str) (i : Int) (h : 0 ≤ i ∧ i ≤ s.length) : alone_body (s, i) = some (Lp.aloneF s i) := by
  simp only [alone_body, Lp.aloneF, inner_is, upper_is, beq_int]
  by_cases he : i = s.length
  · rw [decide_eq_true he]; rfl
  · rw [decide_eq_false he, inb_i (by omega)]
    show cond (!Lp.isIn (bat s i)) (some (!Lp.isUp (bat s i))) (some false) = some (!Lp.isIn (bat s i) && !Lp.isUp (bat s i))
    cases Lp.isIn (bat s i) <;> rfl
theorem alone_ok : FnOk Tryz.prog elT glT 179 [.str, .int .i64] [.bool] alone_F := .fin0 alone_run fun (s, i) r hb hx => by
  simp only [alone_F, alone] at hx
  split at hx
  · rename_i h
    exact (alone_b s i h).trans hx
  · cases hx
/-! ## numbers -/
/-! ## exchequer/lex.number -/
def number_0_sg : Sig := ⟨46, [(0, .str), (2, .int .i64), (3, .bool), (4, .int .i64), (11, .int .i64), (12, .int .i64)], [], [], 0, 0, 0, [], []⟩
abbrev number_0_V := Str × Int × Bool × Int × Int × Int
def number_0 {R : Type} (rec : number_0_V → Option R) (kx : Ex → number_0_V → Option R) (v : number_0_V) : Option R := match v with
 | (v, v1, v2, v3, v4, v5) =>
  cond (decide (v5 < v4)) (
   chk (inb v5 v.length) (
    cond (!decide ((vmul v3 10).2 = 0)) (
     kx .ret (v, 0, false, v3, v4, v5)) (
     cond (!decide ((vadd ((vmul v3 10).1) (wr .i64 (wr .u8 ((bat v v5) - 48)))).2 = 0)) (
      kx .ret (v, 0, false, v3, v4, v5)) (
      rec (v, v1, v2, (vadd ((vmul v3 10).1) (wr .i64 (wr .u8 ((bat v v5) - 48)))).1, v4, (wr .i64 (v5 + 1))))))) (
   kx (.exit 0) (v, v1, v2, v3, v4, v5))
def number_px (R : Type) (k : Nat) : Px R := ⟨ttOf ttL, glT, callT [(194, callOr [.int .i64, .int .i64] [.int .i64, .int .i64] vmul_F), (195, callOr [.int .i64, .int .i64] [.int .i64, .int .i64] vadd_F)], callQT [], loopT [(3, loopOr k number_0_sg (number_0))], tbl []⟩
theorem number_0_eq (R : Type) (k : Nat) : ∀ (fr : List Fr) (rec : number_0_V → Option R) (kx : Ex → number_0_V → Option R) (v : number_0_V), round (number_px R k) number_0_sg (lp Tryz.f180 0) fr rec kx v = number_0 rec kx v
  | fr, rec, kx, (v, v1, v2, v3, v4, v5) => by kernel_rfl
def number_body (k : Nat) (x : HV [.str]) : Option (HV [.int .i64, .bool]) := match x with
 | s =>
  iter (fun rec => number_0 rec (fun e vz => match vz with | (v6, v7, v8, v9, _, _) => match e with
   | .ret =>
    some (v7, v8)
   | .exit 0 =>
    cond (decide (v6 = [48])) (
     some (v9, true)) (
     chk (inb 0 v6.length) (
      some (v9, !decide ((bat v6 0) = 48))))
   | _ => none)) k (s, 0, false, 0, (s.length : Int), 0)
theorem number_eq (k : Nat) : ∀ (x : HV [.str]), runF (number_px _ k) Tryz.f180 [.str] [.int .i64, .bool] x some = number_body k x
  | s => by kernel_rfl
theorem number_run (k : Nat) : FnOk Tryz.prog elT glT 180 [.str] [.int .i64, .bool] (number_body k) := by
  refine fnOk_run Tryz.func180 rfl (by kernel_rfl) follows (by kernel_rfl) (n := 1) (by kernel_rfl) (px := number_px _ k) (fun cx hP hel hgl => ?_) (number_eq k)
  have hp0 : PxOk cx (number_px (HV [.int .i64, .bool]) k) := ⟨fun t => by rw [hP, hel]; exact tt_ok ttL_ok t, by rw [hgl]; rfl⟩
  have hc0 : CallOk cx (number_px (HV [.int .i64, .bool]) k) := callT_ok rfl (cfs_cons (cf_or (by rw [hP, hel, hgl]; exact vmul_ok) (by kernel_rfl)) (cfs_cons (cf_or (by rw [hP, hel, hgl]; exact vadd_ok) (by kernel_rfl)) cfs_nil))
  have hq0 : CallQOk cx (number_px (HV [.int .i64, .bool]) k) := callQT_ok rfl rfl cqfs_nil cwfs_nil
  have hlnumber_0 : LoopOk cx (number_px (HV [.int .i64, .bool]) k) (lp Tryz.f180 0) := loop_ok hp0 hc0 hq0 (by rw [hP]; exact follows) (k := k) (s := number_0_sg) (step := number_0) (fun _ _ => by kernel_rfl) (by kernel_rfl) (number_0_eq _ k) (loops_in (n := 0) (by kernel_rfl) all0)
  exact ⟨hp0, hc0, hq0, (allS all0 hlnumber_0)⟩
def numP (s : Str) : Int × Bool := match Lp.numGo s 0 with
  | some n => (n, decide (s = [48]) || !decide (bat s 0 = 48))
  | none => (0, false)
def number (s : Str) : Option (Int × Bool) := match s with
  | [] => none
  | _ => some (numP s)
def number_F : FT [.str] [.int .i64, .bool] := fun x => number x
theorem number_loop {R : Type} {kx : Ex → number_0_V → Option R} {s : Str} {c : Option Int → Option R} (hs : ln s.length) (h1 : ∀ n j, kx .ret (s, 0, false, n, (s.length : Int), j) = c none) (h2 : ∀ q r n j, kx (.exit 0) (s, q, r, n, (s.length : Int), j) = c (some n)) : ∀ (k i : Nat) (q : Int) (r : Bool) (n : Int), inI n → i ≤ s.length → s.length - i < k → iter (fun rec => number_0 rec kx) k (s, q, r, n, (s.length : Int), (i : Int)) = c (Lp.numGo (s.drop i) n)
  | 0, i, q, r, n, _, _, h => absurd h (Nat.not_lt_zero _)
  | k + 1, i, q, r, n, hn, hi, h => by
    rw [iter_s]
    by_cases hl : i < s.length
    · have hd := Lp.inI_dg (s[i].toNat : Int)
      have e10 : inI (10 : Int) := by simp only [inI]; omega
      have em := vmul_z hn e10
      simp only [number_0, inb_t hl, bat_nat hl, em]
      rw [decide_eq_true (show (i : Int) < (s.length : Int) by omega), drop_cons hl]
      simp only [cond_t, chk, Lp.numGo]
      by_cases hm : inI (n * 10)
      · have hm' := hm
        simp only [inI] at hm'
        have ef : fitZ (n * 10) = (n * 10, 0) := by rw [fitZ, if_pos hm']
        have ea := vadd_z hm (show inI (wr .i64 (wr .u8 ((s[i].toNat : Int) - 48))) from hd)
        simp only [ef, ea]
        by_cases hf : inI (n * 10 + Lp.dg (s[i].toNat : Int))
        · have hf' := hf
          simp only [inI] at hf'
          have eg : fitZ (n * 10 + wr .i64 (wr .u8 ((s[i].toNat : Int) - 48))) = (n * 10 + Lp.dg (s[i].toNat : Int), 0) := by
            have hf2 : -9223372036854775808 ≤ n * 10 + wr .i64 (wr .u8 ((s[i].toNat : Int) - 48)) ∧ n * 10 + wr .i64 (wr .u8 ((s[i].toNat : Int) - 48)) ≤ 9223372036854775807 := hf'
            rw [fitZ, if_pos hf2]; rfl
          rw [eg, if_pos (show Lp.inI _ ∧ Lp.inI _ from ⟨hm, hf⟩)]
          have ih := number_loop hs h1 h2 k (i + 1) q r (n * 10 + Lp.dg (s[i].toNat : Int)) hf (by omega) (by omega)
          rw [wr_succ hl hs]
          exact ih
        · have hf' := hf
          simp only [inI] at hf'
          have eg : fitZ (n * 10 + wr .i64 (wr .u8 ((s[i].toNat : Int) - 48))) = (0, 20) := by
            have hf2 : ¬ (-9223372036854775808 ≤ n * 10 + wr .i64 (wr .u8 ((s[i].toNat : Int) - 48)) ∧ n * 10 + wr .i64 (wr .u8 ((s[i].toNat : Int) - 48)) ≤ 9223372036854775807) := hf'
            rw [fitZ, if_neg hf2]
          rw [eg, if_neg (fun h => hf h.2)]
          exact h1 _ _
      · have hm' := hm
        simp only [inI] at hm'
        have ef : fitZ (n * 10) = (0, 20) := by rw [fitZ, if_neg hm']
        rw [if_neg (fun h => hm h.1)]
        simp only [ef]
        exact h1 _ _
    · simp only [number_0, h2]
      rw [decide_eq_false (by omega), List.drop_eq_nil_of_le (by omega)]
      rfl
theorem number_ok : FnOk Tryz.prog elT glT 180 [.str] [.int .i64, .bool] number_F := .fin 0 number_run fun s r hb hx => ⟨s.length + 1, by
  simp only [number_F] at hx
  cases s with
  | nil => cases hx
  | cons b l =>
    have hx : some (numP (b :: l)) = some r := hx
    rw [← hx]
    simp only [number_body]
    refine (number_loop (s := b :: l) (c := fun o => match o with | some n => some (n, decide (b :: l = [48]) || !decide (bat (b :: l) 0 = 48)) | none => some (0, false)) hb (fun _ _ => rfl) (fun _ _ n _ => ?_) ((b :: l).length + 1) 0 0 false 0 (by simp [inI]) (Nat.zero_le _) (by omega)).trans ?_
    · show cond (decide (b :: l = [48])) (some (n, true)) (chk (inb 0 (b :: l).length) (some (n, !decide (bat (b :: l) 0 = 48)))) = _
      rw [inb_i (by simp only [List.length_cons]; omega)]
      cases decide (b :: l = [48]) <;> rfl
    · simp only [List.drop_zero, numP]
      cases Lp.numGo (b :: l) 0 <;> rfl⟩
/-! ## between quotes -/
/-! ## exchequer/lex.quoted -/
def quoted_0_sg : Sig := ⟨40, [(0, .str), (4, .str), (5, .int .i64), (6, .sl .byte true), (7, .int .i64)], [], [], 0, 0, 0, [], []⟩
abbrev quoted_0_V := Str × Str × Int × List UInt8 × Int
def quoted_0 {R : Type} (rec : quoted_0_V → Option R) (kx : Ex → quoted_0_V → Option R) (v : quoted_0_V) : Option R := match v with
 | (v, v1, v2, v3, v4) =>
  cond (decide (v4 < (v.length : Int))) (
   chk (inb v4 v.length) (
    cond (decide ((bat v v4) = 39)) (
     cond (decide ((wr .i64 (v4 + 1)) = (v.length : Int))) (
      kx .ret (v, v3, (wr .i64 (v4 + 1)), v3, (wr .i64 (v4 + 1)))) (
      chk (inb (wr .i64 (v4 + 1)) v.length) (
       cond (!decide ((bat v (wr .i64 (v4 + 1))) = 39)) (
        kx .ret (v, v3, (wr .i64 (v4 + 1)), v3, (wr .i64 (v4 + 1)))) (
        chk (inb (wr .i64 (v4 + 1)) v.length) (
         chk (decide (v3.length + 1 ≤ maxApp)) (
          rec (v, v1, v2, (v3 ++ [(UInt8.ofNat ((bat v (wr .i64 (v4 + 1))) : Int).toNat)]), (wr .i64 ((wr .i64 (v4 + 1)) + 1))))))))) (
     chk (inb v4 v.length) (
      chk (decide (v3.length + 1 ≤ maxApp)) (
       rec (v, v1, v2, (v3 ++ [(UInt8.ofNat ((bat v v4) : Int).toNat)]), (wr .i64 (v4 + 1)))))))) (
   kx (.exit 0) (v, v1, v2, v3, v4))
def quoted_px (R : Type) (k : Nat) : Px R := ⟨ttOf ttL, glT, callT [], callQT [], loopT [(3, loopOr k quoted_0_sg (quoted_0))], tbl []⟩
theorem quoted_0_eq (R : Type) (k : Nat) : ∀ (fr : List Fr) (rec : quoted_0_V → Option R) (kx : Ex → quoted_0_V → Option R) (v : quoted_0_V), round (quoted_px R k) quoted_0_sg (lp Tryz.f181 0) fr rec kx v = quoted_0 rec kx v
  | fr, rec, kx, (v, v1, v2, v3, v4) => by kernel_rfl
def quoted_body (k : Nat) (x : HV [.str, .int .i64]) : Option (HV [.str, .int .i64]) := match x with
 | (s, i) =>
  iter (fun rec => quoted_0 rec (fun e vz => match vz with | (_, v6, v7, _, _) => match e with
   | .ret =>
    some (v6, v7)
   | .exit 0 =>
    some ([], (-1))
   | _ => none)) k (s, [], 0, [], i)
theorem quoted_eq (k : Nat) : ∀ (x : HV [.str, .int .i64]), runF (quoted_px _ k) Tryz.f181 [.str, .int .i64] [.str, .int .i64] x some = quoted_body k x
  | (s, i) => by kernel_rfl
theorem quoted_run (k : Nat) : FnOk Tryz.prog elT glT 181 [.str, .int .i64] [.str, .int .i64] (quoted_body k) := by
  refine fnOk_run Tryz.func181 rfl (by kernel_rfl) follows (by kernel_rfl) (n := 1) (by kernel_rfl) (px := quoted_px _ k) (fun cx hP hel hgl => ?_) (quoted_eq k)
  have hp0 : PxOk cx (quoted_px (HV [.str, .int .i64]) k) := ⟨fun t => by rw [hP, hel]; exact tt_ok ttL_ok t, by rw [hgl]; rfl⟩
  have hc0 : CallOk cx (quoted_px (HV [.str, .int .i64]) k) := callT_ok rfl cfs_nil
  have hq0 : CallQOk cx (quoted_px (HV [.str, .int .i64]) k) := callQT_ok rfl rfl cqfs_nil cwfs_nil
  have hlquoted_0 : LoopOk cx (quoted_px (HV [.str, .int .i64]) k) (lp Tryz.f181 0) := loop_ok hp0 hc0 hq0 (by rw [hP]; exact follows) (k := k) (s := quoted_0_sg) (step := quoted_0) (fun _ _ => by kernel_rfl) (by kernel_rfl) (quoted_0_eq _ k) (loops_in (n := 0) (by kernel_rfl) all0)
  exact ⟨hp0, hc0, hq0, (allS all0 hlquoted_0)⟩
def quoted (s : Str) (i : Int) : Option (Str × Int) := if 0 ≤ i ∧ i ≤ s.length ∧ s.length ≤ 1000000 then some (Lp.qGo (s.drop i.toNat) [] i) else none
def quoted_F : FT [.str, .int .i64] [.str, .int .i64] := fun x => quoted x.1 x.2
theorem byte_nat (b : UInt8) : UInt8.ofNat ((b.toNat : Int)).toNat = b := by simp
theorem quoted_loop {R : Type} {kx : Ex → quoted_0_V → Option R} {s : Str} {c : Str × Int → Option R} (hs : s.length ≤ 1000000) (h1 : ∀ a j, kx .ret (s, a, j, a, j) = c (a, j)) (h2 : ∀ q r a j, kx (.exit 0) (s, q, r, a, j) = c ([], -1)) : ∀ (k i : Nat) (q : Str) (r : Int) (a : Str), a.length ≤ i → i ≤ s.length → s.length - i < k → iter (fun rec => quoted_0 rec kx) k (s, q, r, a, (i : Int)) = c (Lp.qGo (s.drop (i : Int).toNat) a i)
  | 0, i, q, r, a, _, _, h => absurd h (Nat.not_lt_zero _)
  | k + 1, i, q, r, a, ha, hi, h => by
    rw [iter_s]
    by_cases hl : i < s.length
    · have hln : ln s.length := by simp only [ln]; omega
      have ea : decide (a.length + 1 ≤ maxApp) = true := decide_eq_true (by simp only [maxApp]; omega)
      have eb : Sx.byt s (i : Int) = (s[i].toNat : Int) := bat_nat hl
      simp only [quoted_0, inb_t hl, wr_succ hl hln, bat_nat hl, ea, byte_nat]
      rw [decide_eq_true (show (i : Int) < (s.length : Int) by omega)]
      simp only [cond_t, chk]
      by_cases h39 : (s[i].toNat : Int) = 39
      · rw [decide_eq_true h39, cond_t]
        by_cases he : i + 1 = s.length
        · rw [decide_eq_true (show ((i + 1 : Nat) : Int) = (s.length : Int) by omega), cond_t, h1, Lp.q_last (by omega) (by omega) (eb.trans h39)]
          rfl
        · have hl2 : i + 1 < s.length := by omega
          have eb2 : Sx.byt s ((i : Int) + 1) = (s[i + 1].toNat : Int) := bat_nat hl2
          rw [decide_eq_false (show ¬ ((i + 1 : Nat) : Int) = (s.length : Int) by omega), inb_t hl2, cond_f]
          simp only [cond_t, bat_nat hl2, byte_nat]
          by_cases h3 : (s[i + 1].toNat : Int) = 39
          · have ih := quoted_loop hs h1 h2 k (i + 1 + 1) q r (a ++ [s[i + 1]]) (by simp only [List.length_append, List.length_cons, List.length_nil]; omega) (by omega) (by omega)
            have e39 : s[i + 1] = 39 := by rw [← UInt8.toNat_inj]; exact Int.ofNat.inj h3
            rw [decide_eq_true h3, Lp.q_two (by omega) (by omega) (eb.trans h39) (eb2.trans h3), wr_succ hl2 hln]
            simp only [Bool.not_true, cond_f]
            rw [ih, e39]
            rfl
          · rw [decide_eq_false h3, Lp.q_close (by omega) (by omega) (eb.trans h39) (fun e => h3 (eb2.symm.trans e))]
            simp only [Bool.not_false, cond_t, h1]
            rfl
      · have ih := quoted_loop hs h1 h2 k (i + 1) q r (a ++ [s[i]]) (by simp only [List.length_append, List.length_cons, List.length_nil]; omega) (by omega) (by omega)
        rw [decide_eq_false h39, cond_f, ih, Lp.q_other (by omega) (by omega) (fun e => h39 (eb.symm.trans e))]
        have eg : s.getD (i : Int).toNat 0 = s[i] := by simp [List.getD_eq_getElem?_getD, hl]
        rw [eg]
        rfl
    · simp only [quoted_0, h2]
      rw [decide_eq_false (by omega), Lp.q_end (by omega)]
      rfl
theorem quoted_ok : FnOk Tryz.prog elT glT 181 [.str, .int .i64] [.str, .int .i64] quoted_F := .fin 0 quoted_run fun (s, i) r hb hx => ⟨s.length + 1, by
  simp only [quoted_F, quoted] at hx
  split at hx
  · rename_i h
    rw [← hx]
    obtain ⟨n, rfl⟩ := Int.eq_ofNat_of_zero_le h.1
    simp only [quoted_body]
    exact quoted_loop (c := some) h.2.2 (fun _ _ => rfl) (fun _ _ _ _ => rfl) (s.length + 1) n [] 0 [] (Nat.zero_le _) (by omega) (by omega)
  · cases hx⟩
/-! ## signs -/
/-! ## exchequer/lex.sign -/
def lsign_0_sg : Sig := ⟨19, [(0, .str), (2, .int .i64), (5, .sl .str true), (6, .int .i64), (7, .int .i64)], [], [], 0, 0, 0, [], []⟩
abbrev lsign_0_V := Str × Int × List Str × Int × Int
def lsign_0 {R : Type} (rec : lsign_0_V → Option R) (kx : Ex → lsign_0_V → Option R) (v : lsign_0_V) : Option R := match v with
 | (v, v1, v2, v3, v4) =>
  cond (decide (v4 < v3)) (
   chk (inb v4 v2.length) (
    cond ((hpre v (at' .str v2 v4))) (
     kx .ret (v, 2, v2, v3, v4)) (
     rec (v, v1, v2, v3, (wr .i64 (v4 + 1)))))) (
   kx (.exit 0) (v, v1, v2, v3, v4))
def lsign_px (R : Type) (k : Nat) : Px R := ⟨ttOf ttL, glT, callT [(175, callOr [.str, .str] [.bool] hpre_F), (156, callOr [.str, .int .u8] [.int .i64] sidxb_F)], callQT [], loopT [(2, loopOr k lsign_0_sg (lsign_0))], tbl []⟩
theorem lsign_0_eq (R : Type) (k : Nat) : ∀ (fr : List Fr) (rec : lsign_0_V → Option R) (kx : Ex → lsign_0_V → Option R) (v : lsign_0_V), round (lsign_px R k) lsign_0_sg (lp Tryz.f182 0) fr rec kx v = lsign_0 rec kx v
  | fr, rec, kx, (v, v1, v2, v3, v4) => by kernel_rfl
def lsign_body (k : Nat) (x : HV [.str]) : Option (HV [.int .i64]) := match x with
 | s =>
  iter (fun rec => lsign_0 rec (fun e vz => match vz with | (v5, v6, _, _, _) => match e with
   | .ret =>
    some v6
   | .exit 0 =>
    chk (inb 0 v5.length) (
     cond (decide (0 ≤ (sidxb [40, 41, 44, 42, 61, 60, 62, 43, 45, 59] (bat v5 0)))) (
      some 1) (
      some 0))
   | _ => none)) k (s, 0, [[60, 62], [60, 61], [62, 61]], 3, 0)
theorem lsign_eq (k : Nat) : ∀ (x : HV [.str]), runF (lsign_px _ k) Tryz.f182 [.str] [.int .i64] x some = lsign_body k x
  | s => by kernel_rfl
theorem lsign_run (k : Nat) : FnOk Tryz.prog elT glT 182 [.str] [.int .i64] (lsign_body k) := by
  refine fnOk_run Tryz.func182 rfl (by kernel_rfl) follows (by kernel_rfl) (n := 1) (by kernel_rfl) (px := lsign_px _ k) (fun cx hP hel hgl => ?_) (lsign_eq k)
  have hp0 : PxOk cx (lsign_px (HV [.int .i64]) k) := ⟨fun t => by rw [hP, hel]; exact tt_ok ttL_ok t, by rw [hgl]; rfl⟩
  have hc0 : CallOk cx (lsign_px (HV [.int .i64]) k) := callT_ok rfl (cfs_cons (cf_or (by rw [hP, hel, hgl]; exact hpre_ok) (by kernel_rfl)) (cfs_cons (cf_or (by rw [hP, hel, hgl]; exact sidxb_ok) (by kernel_rfl)) cfs_nil))
  have hq0 : CallQOk cx (lsign_px (HV [.int .i64]) k) := callQT_ok rfl rfl cqfs_nil cwfs_nil
  have hllsign_0 : LoopOk cx (lsign_px (HV [.int .i64]) k) (lp Tryz.f182 0) := loop_ok hp0 hc0 hq0 (by rw [hP]; exact follows) (k := k) (s := lsign_0_sg) (step := lsign_0) (fun _ _ => by kernel_rfl) (by kernel_rfl) (lsign_0_eq _ k) (loops_in (n := 0) (by kernel_rfl) all0)
  exact ⟨hp0, hc0, hq0, (allS all0 hllsign_0)⟩
def lsign (s : Str) : Option Int := match s with
  | [] => none
  | _ => some (Lp.signF s)
def lsign_F : FT [.str] [.int .i64] := fun x => lsign x
theorem lsign_ok : FnOk Tryz.prog elT glT 182 [.str] [.int .i64] lsign_F := .fin 0 lsign_run fun s r hb hx => ⟨4, by
  simp only [lsign_F] at hx
  cases s with
  | nil => cases hx
  | cons b l =>
    have hx : some (Lp.signF (b :: l)) = some r := hx
    rw [← hx]
    have e0 : inb 0 (b :: l).length = true := inb_i (by simp only [List.length_cons]; omega)
    have e1 : hpre (b :: l) [60, 62] = Lp.pre (b :: l) [60, 62] := rfl
    have e2 : hpre (b :: l) [60, 61] = Lp.pre (b :: l) [60, 61] := rfl
    have e3 : hpre (b :: l) [62, 61] = Lp.pre (b :: l) [62, 61] := rfl
    have ei : sidxb [40, 41, 44, 42, 61, 60, 62, 43, 45, 59] (bat (b :: l) 0) = Lib.indexByte Lp.signs (Sx.byt (b :: l) 0).toNat.toUInt8 := rfl
    simp only [lsign_body, Lp.signF, ← ei, ← e1, ← e2, ← e3]
    show cond (hpre (b :: l) [60, 62]) (some 2) (cond (hpre (b :: l) [60, 61]) (some 2) (cond (hpre (b :: l) [62, 61]) (some 2) (chk (inb 0 (b :: l).length) (cond (decide (0 ≤ sidxb [40, 41, 44, 42, 61, 60, 62, 43, 45, 59] (bat (b :: l) 0))) (some 1) (some 0))))) = _
    generalize sidxb [40, 41, 44, 42, 61, 60, 62, 43, 45, 59] (bat (b :: l) 0) = z
    rw [e0]
    by_cases hz : 0 ≤ z
    · rw [decide_eq_true hz, if_pos hz]
      cases hpre (b :: l) [60, 62] <;> cases hpre (b :: l) [60, 61] <;> cases hpre (b :: l) [62, 61] <;> rfl
    · rw [decide_eq_false hz, if_neg hz]
      cases hpre (b :: l) [60, 62] <;> cases hpre (b :: l) [60, 61] <;> cases hpre (b :: l) [62, 61] <;> rfl⟩
/-! ## hex -/
/-! ## exchequer/digest.digit -/
def hdigit_px (R : Type) : Px R := ⟨ttOf ttL, glT, callT [], callQT [], loopT [], tbl []⟩
def hdigit_body (x : HV [.int .u8]) : Option (HV [.int .u8, .bool]) := match x with
 | c =>
  let j := fun (p1 : Bool) =>
   cond (p1) (
    some ((wr .u8 (c - 48)), true)) (
    cond (decide (97 ≤ c)) (
     cond (decide (c ≤ 102)) (
      some ((wr .u8 ((wr .u8 (c - 97)) + 10)), true)) (
      some (0, false))) (
     some (0, false)))
  cond (decide (48 ≤ c)) (
   j (decide (c ≤ 57))) (
   j false)
theorem hdigit_eq : ∀ (x : HV [.int .u8]), runF (hdigit_px _) Tryz.f193 [.int .u8] [.int .u8, .bool] x some = hdigit_body x
  | c => by kernel_rfl
theorem hdigit_run : FnOk Tryz.prog elT glT 193 [.int .u8] [.int .u8, .bool] (hdigit_body) := by
  refine fnOk_run Tryz.func193 rfl (by kernel_rfl) follows (by kernel_rfl) (n := 0) (by kernel_rfl) (px := hdigit_px _) (fun cx hP hel hgl => ?_) (hdigit_eq)
  have hp0 : PxOk cx (hdigit_px (HV [.int .u8, .bool])) := ⟨fun t => by rw [hP, hel]; exact tt_ok ttL_ok t, by rw [hgl]; rfl⟩
  have hc0 : CallOk cx (hdigit_px (HV [.int .u8, .bool])) := callT_ok rfl cfs_nil
  have hq0 : CallQOk cx (hdigit_px (HV [.int .u8, .bool])) := callQT_ok rfl rfl cqfs_nil cwfs_nil
  exact ⟨hp0, hc0, hq0, all0⟩
def hdigit (c : Int) : Int × Bool :=
  let j := fun (p1 : Bool) =>
   cond (p1) (
    ((wr .u8 (c - 48)), true)) (
    cond (decide (97 ≤ c)) (
     cond (decide (c ≤ 102)) (
      ((wr .u8 ((wr .u8 (c - 97)) + 10)), true)) (
      (0, false))) (
     (0, false)))
  cond (decide (48 ≤ c)) (
   j (decide (c ≤ 57))) (
   j false)
theorem hdigit_tot (x : HV [.int .u8]) : hdigit_body x = some (hdigit x) := by
  first
    | exact rfl
    | simp only [hdigit_body, hdigit, cond_some]
def hdigit_F : FT [.int .u8] [.int .u8, .bool] := fun x => some (hdigit x)
theorem hdigit_ok : FnOk Tryz.prog elT glT 193 [.int .u8] [.int .u8, .bool] hdigit_F := .fin0 hdigit_run fun x _ _ hx => (hdigit_tot x).trans hx
def hexP (c : Int) : Int × Bool := match Lp.hexD c with
  | some n => (n, true)
  | none => (0, false)
theorem hdigit_all : ((List.range 256).all fun n => decide (hdigit (n : Int) = hexP (n : Int))) = true := by kernel_rfl
theorem hdigit_is (b : UInt8) : hdigit (b.toNat : Int) = hexP (b.toNat : Int) := by
  have h := List.all_eq_true.1 hdigit_all b.toNat (List.mem_range.2 b.toNat_lt)
  exact of_decide_eq_true h
/-! ## exchequer/digest.Unhex -/
def unhex_0_sg : Sig := ⟨49, [(0, .str), (2, .sl .byte true), (3, .int .i64), (4, .sl .byte true), (5, .int .i64)], [], [], 0, 0, 0, [], []⟩
abbrev unhex_0_V := Str × List UInt8 × Int × List UInt8 × Int
def unhex_0 {R : Type} (rec : unhex_0_V → Option R) (kx : Ex → unhex_0_V → Option R) (v : unhex_0_V) : Option R := match v with
 | (v, v1, v2, v3, v4) =>
  cond (decide (v4 < (v.length : Int))) (
   chk (inb v4 v.length) (
    chk (inb (wr .i64 (v4 + 1)) v.length) (
     cond (!((hdigit (bat v v4)).2)) (
      kx .ret (v, [], 11, v3, v4)) (
      cond (!((hdigit (bat v (wr .i64 (v4 + 1)))).2)) (
       kx .ret (v, [], 11, v3, v4)) (
       chk (decide (v3.length + 1 ≤ maxApp)) (
        rec (v, v1, v2, (v3 ++ [(UInt8.ofNat ((ior .u8 (ishl .u8 ((hdigit (bat v v4)).1) 4) ((hdigit (bat v (wr .i64 (v4 + 1)))).1)) : Int).toNat)]), (wr .i64 (v4 + 2))))))))) (
   kx (.exit 0) (v, v1, v2, v3, v4))
def unhex_px (R : Type) (k : Nat) : Px R := ⟨ttOf ttL, glT, callT [(193, callOr [.int .u8] [.int .u8, .bool] hdigit_F)], callQT [], loopT [(5, loopOr k unhex_0_sg (unhex_0))], tbl []⟩
theorem unhex_0_eq (R : Type) (k : Nat) : ∀ (fr : List Fr) (rec : unhex_0_V → Option R) (kx : Ex → unhex_0_V → Option R) (v : unhex_0_V), round (unhex_px R k) unhex_0_sg (lp Tryz.f176 0) fr rec kx v = unhex_0 rec kx v
  | fr, rec, kx, (v, v1, v2, v3, v4) => by kernel_rfl
def unhex_body (k : Nat) (x : HV [.str]) : Option (HV [.sl .byte true, .int .i64]) := match x with
 | s =>
  cond (!decide ((Int.tmod (s.length : Int) 2) = 0)) (
   some ([], 11)) (
   iter (fun rec => unhex_0 rec (fun e vz => match vz with | (_, v6, v7, v8, _) => match e with
    | .ret =>
     some (v6, v7)
    | .exit 0 =>
     some (v8, 0)
    | _ => none)) k (s, [], 0, [], 0))
theorem unhex_eq (k : Nat) : ∀ (x : HV [.str]), runF (unhex_px _ k) Tryz.f176 [.str] [.sl .byte true, .int .i64] x some = unhex_body k x
  | s => by kernel_rfl
theorem unhex_run (k : Nat) : FnOk Tryz.prog elT glT 176 [.str] [.sl .byte true, .int .i64] (unhex_body k) := by
  refine fnOk_run Tryz.func176 rfl (by kernel_rfl) follows (by kernel_rfl) (n := 1) (by kernel_rfl) (px := unhex_px _ k) (fun cx hP hel hgl => ?_) (unhex_eq k)
  have hp0 : PxOk cx (unhex_px (HV [.sl .byte true, .int .i64]) k) := ⟨fun t => by rw [hP, hel]; exact tt_ok ttL_ok t, by rw [hgl]; rfl⟩
  have hc0 : CallOk cx (unhex_px (HV [.sl .byte true, .int .i64]) k) := callT_ok rfl (cfs_cons (cf_or (by rw [hP, hel, hgl]; exact hdigit_ok) (by kernel_rfl)) cfs_nil)
  have hq0 : CallQOk cx (unhex_px (HV [.sl .byte true, .int .i64]) k) := callQT_ok rfl rfl cqfs_nil cwfs_nil
  have hlunhex_0 : LoopOk cx (unhex_px (HV [.sl .byte true, .int .i64]) k) (lp Tryz.f176 0) := loop_ok hp0 hc0 hq0 (by rw [hP]; exact follows) (k := k) (s := unhex_0_sg) (step := unhex_0) (fun _ _ => by kernel_rfl) (by kernel_rfl) (unhex_0_eq _ k) (loops_in (n := 0) (by kernel_rfl) all0)
  exact ⟨hp0, hc0, hq0, (allS all0 hlunhex_0)⟩
def unP (s : Str) : Str × Int := match (if s.length % 2 = 0 then Lp.unGo s [] else none) with
  | some b => (b, 0)
  | none => ([], 11)
def unhex (s : Str) : Option (Str × Int) := if s.length ≤ 1000000 then some (unP s) else none
def unhex_F : FT [.str] [.sl .byte true, .int .i64] := fun x => unhex x
theorem unhex_loop {R : Type} {kx : Ex → unhex_0_V → Option R} {s : Str} {c : Option Str → Option R} (hs : s.length ≤ 1000000) (h1 : ∀ a j, kx .ret (s, [], 11, a, j) = c none) (h2 : ∀ q r a j, kx (.exit 0) (s, q, r, a, j) = c (some a)) : ∀ (k i : Nat) (q : Str) (r : Int) (a : Str), a.length ≤ i → i ≤ s.length → (s.length - i) % 2 = 0 → s.length - i < k → iter (fun rec => unhex_0 rec kx) k (s, q, r, a, (i : Int)) = c (Lp.unGo (s.drop (i : Int).toNat) a)
  | 0, i, q, r, a, _, _, _, h => absurd h (Nat.not_lt_zero _)
  | k + 1, i, q, r, a, ha, hi, hev, h => by
    rw [iter_s]
    by_cases hl : i < s.length
    · have hl2 : i + 1 < s.length := by omega
      have hln : ln s.length := by simp only [ln]; omega
      have ea : decide (a.length + 1 ≤ maxApp) = true := decide_eq_true (by simp only [maxApp]; omega)
      have eb : Sx.byt s (i : Int) = (s[i].toNat : Int) := bat_nat hl
      have eb2 : Sx.byt s ((i : Int) + 1) = (s[i + 1].toNat : Int) := bat_nat hl2
      have ew : wr .i64 ((i : Int) + 2) = ((i + 1 + 1 : Nat) : Int) := by rw [wr_id (by simp only [inI]; omega)]; omega
      simp only [unhex_0, inb_t hl, wr_succ hl hln, bat_nat hl, bat_nat hl2, inb_t hl2, ea, ew, hdigit_is]
      rw [decide_eq_true (show (i : Int) < (s.length : Int) by omega), Lp.un_step (by omega) (by omega), eb, eb2]
      simp only [cond_t, chk, hexP]
      cases hx : Lp.hexD (s[i].toNat : Int) with
      | none => exact h1 _ _
      | some x =>
        cases hy : Lp.hexD (s[i + 1].toNat : Int) with
        | none => exact h1 _ _
        | some y =>
          have ih := unhex_loop hs h1 h2 k (i + 1 + 1) q r (a ++ [UInt8.ofNat (x * 16 + y).toNat]) (by simp only [List.length_append, List.length_cons, List.length_nil]; omega) (by omega) (by omega) (by omega)
          have ej : ior .u8 (ishl .u8 x 4) y = _ := Lp.joinhex' (Lp.hexD_lt hx) (Lp.hexD_lt hy)
          simp only [Bool.not_true, cond_f, ej, byte_nat]
          exact ih
    · simp only [unhex_0, h2]
      rw [decide_eq_false (by omega), List.drop_eq_nil_of_le (by omega)]
      rfl
theorem unhex_ok : FnOk Tryz.prog elT glT 176 [.str] [.sl .byte true, .int .i64] unhex_F := .fin 0 unhex_run fun s r hb hx => ⟨s.length + 1, by
  simp only [unhex_F, unhex] at hx
  split at hx
  · rename_i h
    rw [← hx]
    have et : Int.tmod (s.length : Int) 2 = ((s.length % 2 : Nat) : Int) := rfl
    simp only [unhex_body, et, unP]
    by_cases h2 : s.length % 2 = 0
    · rw [decide_eq_true (show ((s.length % 2 : Nat) : Int) = 0 by omega), if_pos h2, Bool.not_true, cond_f]
      refine (unhex_loop (c := fun o => match o with | some b => some (b, (0 : Int)) | none => some ([], 11)) h (fun _ _ => ?_) (fun _ _ _ _ => ?_) (s.length + 1) 0 [] 0 [] (Nat.zero_le _) (Nat.zero_le _) h2 (by omega)).trans ?_
      · rfl
      · rfl
      simp only [Int.toNat_natCast, List.drop_zero]
      cases Lp.unGo s [] <;> rfl
    · rw [decide_eq_false (show ¬ ((s.length % 2 : Nat) : Int) = 0 by omega), if_neg h2]
      rfl
  · cases hx⟩
end Go.Proofs.YthndhaolemgbdaaGreatDoor

/- The place of a text among others. -/
namespace Go.Proofs.YthndhaolemgbdaaGreatDoor
open Go.Ax
/-! ## slices.Index[[]string,string] -/
def sidx_0_sg : Sig := ⟨19, [(0, .sl .str false), (1, .str), (4, .int .i64), (7, .int .i64), (8, .int .i64)], [], [], 0, 0, 0, [], []⟩
abbrev sidx_0_V := List Str × Str × Int × Int × Int
def sidx_0 {R : Type} (rec : sidx_0_V → Option R) (kx : Ex → sidx_0_V → Option R) (v : sidx_0_V) : Option R := match v with
 | (v, v1, v2, v3, v4) =>
  cond (decide (v4 < v3)) (
   chk (inb v4 v.length) (
    cond (decide (v1 = (at' .str v v4))) (
     kx .ret (v, v1, v4, v3, v4)) (
     rec (v, v1, v2, v3, (wr .i64 (v4 + 1)))))) (
   kx (.exit 0) (v, v1, v2, v3, v4))
def sidx_px (R : Type) (k : Nat) : Px R := ⟨ttOf ttL, glT, callT [], callQT [], loopT [(2, loopOr k sidx_0_sg (sidx_0))], tbl []⟩
theorem sidx_0_eq (R : Type) (k : Nat) : ∀ (fr : List Fr) (rec : sidx_0_V → Option R) (kx : Ex → sidx_0_V → Option R) (v : sidx_0_V), round (sidx_px R k) sidx_0_sg (lp Tryz.f100 0) fr rec kx v = sidx_0 rec kx v
  | fr, rec, kx, (v, v1, v2, v3, v4) => by kernel_rfl
def sidx_body (k : Nat) (x : HV [.sl .str false, .str]) : Option (HV [.int .i64]) := match x with
 | (l, s) =>
  iter (fun rec => sidx_0 rec (fun e vz => match vz with | (_, _, v7, _, _) => match e with
   | .ret =>
    some v7
   | .exit 0 =>
    some (-1)
   | _ => none)) k (l, s, 0, (l.length : Int), 0)
theorem sidx_eq (k : Nat) : ∀ (x : HV [.sl .str false, .str]), runF (sidx_px _ k) Tryz.f100 [.sl .str false, .str] [.int .i64] x some = sidx_body k x
  | (l, s) => by kernel_rfl
theorem sidx_run (k : Nat) : FnOk Tryz.prog elT glT 100 [.sl .str false, .str] [.int .i64] (sidx_body k) := by
  refine fnOk_run Tryz.func100 rfl (by kernel_rfl) follows (by kernel_rfl) (n := 1) (by kernel_rfl) (px := sidx_px _ k) (fun cx hP hel hgl => ?_) (sidx_eq k)
  have hp0 : PxOk cx (sidx_px (HV [.int .i64]) k) := ⟨fun t => by rw [hP, hel]; exact tt_ok ttL_ok t, by rw [hgl]; rfl⟩
  have hc0 : CallOk cx (sidx_px (HV [.int .i64]) k) := callT_ok rfl cfs_nil
  have hq0 : CallQOk cx (sidx_px (HV [.int .i64]) k) := callQT_ok rfl rfl cqfs_nil cwfs_nil
  have hlsidx_0 : LoopOk cx (sidx_px (HV [.int .i64]) k) (lp Tryz.f100 0) := loop_ok hp0 hc0 hq0 (by rw [hP]; exact follows) (k := k) (s := sidx_0_sg) (step := sidx_0) (fun _ _ => by kernel_rfl) (by kernel_rfl) (sidx_0_eq _ k) (loops_in (n := 0) (by kernel_rfl) all0)
  exact ⟨hp0, hc0, hq0, (allS all0 hlsidx_0)⟩
def sidx (l : List Str) (s : Str) : Int := Lp.idx s l 0
def sidx_F : FT [.sl .str false, .str] [.int .i64] := fun x => some (sidx x.1 x.2)
theorem sidx_loop {R : Type} {kx : Ex → sidx_0_V → Option R} {l : List Str} {s : Str} {c : Int → Option R} (hl : ln l.length) (h1 : ∀ (r : Int) (i : Int), kx .ret (l, s, r, (l.length : Int), i) = c r) (h2 : ∀ q : Int, kx (.exit 0) (l, s, q, (l.length : Int), (l.length : Int)) = c (-1)) :
    ∀ (k i : Nat) (q : Int), i ≤ l.length → l.length - i < k → iter (fun rec => sidx_0 rec kx) k (l, s, q, (l.length : Int), (i : Int)) = c (Lp.idx s (l.drop i) i)
  | 0, i, _, _, h => absurd h (Nat.not_lt_zero _)
  | k + 1, i, q, hi, h => by
    rw [iter_s]
    by_cases hlt : i < l.length
    · have ih := sidx_loop hl h1 h2 k (i + 1) q (by omega) (by omega)
      have e1 : decide ((i : Int) < (l.length : Int)) = true := decide_eq_true (by omega)
      have en : ((i + 1 : Nat) : Int) = (i : Int) + 1 := by omega
      simp only [sidx_0, e1, cond_t, inb_t hlt, chk, at_nat (c := .str) hlt, wr_succ hlt hl, ih, h1]
      rw [drop_cons hlt, Lp.idx, en]
      by_cases hx : s = l[i]
      · rw [decide_eq_true hx, if_pos hx, cond_t]
      · rw [decide_eq_false hx, if_neg hx, cond_f]
    · have hi : i = l.length := by omega
      subst hi
      simp only [sidx_0, decide_eq_false (show ¬ ((l.length : Nat) : Int) < (l.length : Int) by omega), cond_f, h2, List.drop_length, Lp.idx]
theorem sidx_ok : FnOk Tryz.prog elT glT 100 [.sl .str false, .str] [.int .i64] sidx_F := .fin 0 sidx_run fun (l, s) r hb hx => ⟨l.length + 1, by
  simp only [sidx_F, Option.some.injEq] at hx
  rw [← hx]
  simp only [sidx_body]
  exact sidx_loop (c := fun q => some q) hb.1.1 (fun _ _ => rfl) (fun _ => rfl) (l.length + 1) 0 0 (Nat.zero_le _) (by omega)⟩
/-! ## slices.Contains[[]string,string] -/
def shas_px (R : Type) : Px R := ⟨ttOf ttL, glT, callT [(100, callOr [.sl .str false, .str] [.int .i64] sidx_F)], callQT [], loopT [], tbl []⟩
def shas_body (x : HV [.sl .str false, .str]) : Option (HV [.bool]) := match x with
 | (l, s) =>
  some (decide (0 ≤ (sidx l s)))
theorem shas_eq : ∀ (x : HV [.sl .str false, .str]), runF (shas_px _) Tryz.f44 [.sl .str false, .str] [.bool] x some = shas_body x
  | (l, s) => by kernel_rfl
theorem shas_run : FnOk Tryz.prog elT glT 44 [.sl .str false, .str] [.bool] (shas_body) := by
  refine fnOk_run Tryz.func44 rfl (by kernel_rfl) follows (by kernel_rfl) (n := 0) (by kernel_rfl) (px := shas_px _) (fun cx hP hel hgl => ?_) (shas_eq)
  have hp0 : PxOk cx (shas_px (HV [.bool])) := ⟨fun t => by rw [hP, hel]; exact tt_ok ttL_ok t, by rw [hgl]; rfl⟩
  have hc0 : CallOk cx (shas_px (HV [.bool])) := callT_ok rfl (cfs_cons (cf_or (by rw [hP, hel, hgl]; exact sidx_ok) (by kernel_rfl)) cfs_nil)
  have hq0 : CallQOk cx (shas_px (HV [.bool])) := callQT_ok rfl rfl cqfs_nil cwfs_nil
  exact ⟨hp0, hc0, hq0, all0⟩
def shas (l : List Str) (s : Str) : Bool :=
  (decide (0 ≤ (sidx l s)))
theorem shas_tot (x : HV [.sl .str false, .str]) : shas_body x = some (shas x.1 x.2) := by
  first
    | exact rfl
    | simp only [shas_body, shas, cond_some]
def shas_F : FT [.sl .str false, .str] [.bool] := fun x => some (shas x.1 x.2)
theorem shas_ok : FnOk Tryz.prog elT glT 44 [.sl .str false, .str] [.bool] shas_F := .fin0 shas_run fun x _ _ hx => (shas_tot x).trans hx
theorem shas_is (l : List Str) (s : Str) : shas l s = l.contains s := by
  have e : shas l s = decide (0 ≤ Lp.idx s l 0) := rfl
  rw [e, Bool.eq_iff_iff, decide_eq_true_eq, Lp.idx_ge s l 0 (Int.le_refl 0)]
  simp
end Go.Proofs.YthndhaolemgbdaaGreatDoor

/- Words and names: the lexer's. -/
namespace Go.Proofs.YthndhaolemgbdaaGreatDoor
open Go.Ax
/-! ## words -/
/-! ## exchequer/lex.Word -/
def lword_px (R : Type) : Px R := ⟨ttOf ttL, glT, callT [(44, callOr [.sl .str false, .str] [.bool] shas_F)], callQT [], loopT [], tbl []⟩
def lword_body (x : HV [.str]) : Option (HV [.bool]) := match x with
 | s =>
  some (shas wordsL s)
theorem lword_eq : ∀ (x : HV [.str]), runF (lword_px _) Tryz.f178 [.str] [.bool] x some = lword_body x
  | s => by kernel_rfl
theorem lword_run : FnOk Tryz.prog elT glT 178 [.str] [.bool] (lword_body) := by
  refine fnOk_run Tryz.func178 rfl (by kernel_rfl) follows (by kernel_rfl) (n := 0) (by kernel_rfl) (px := lword_px _) (fun cx hP hel hgl => ?_) (lword_eq)
  have hp0 : PxOk cx (lword_px (HV [.bool])) := ⟨fun t => by rw [hP, hel]; exact tt_ok ttL_ok t, by rw [hgl]; rfl⟩
  have hc0 : CallOk cx (lword_px (HV [.bool])) := callT_ok rfl (cfs_cons (cf_or (by rw [hP, hel, hgl]; exact shas_ok) (by kernel_rfl)) cfs_nil)
  have hq0 : CallQOk cx (lword_px (HV [.bool])) := callQT_ok rfl rfl cqfs_nil cwfs_nil
  exact ⟨hp0, hc0, hq0, all0⟩
def lword (s : Str) : Bool :=
  (shas wordsL s)
theorem lword_tot (x : HV [.str]) : lword_body x = some (lword x) := by
  first
    | exact rfl
    | simp only [lword_body, lword, cond_some]
def lword_F : FT [.str] [.bool] := fun x => some (lword x)
theorem lword_ok : FnOk Tryz.prog elT glT 178 [.str] [.bool] lword_F := .fin0 lword_run fun x _ _ hx => (lword_tot x).trans hx
theorem lword_is (s : Str) : lword s = Lp.wordF s := shas_is wordsL s
end Go.Proofs.YthndhaolemgbdaaGreatDoor

/- Tokens: the lexer's. -/
namespace Go.Proofs.YthndhaolemgbdaaGreatDoor
open Go.Ax
/-! ## exchequer/lex.token -/
def ltoken_2_sg : Sig := ⟨21, [(0, .str), (1, .int .i64)], [(2, .fn 154 [])], [(0, .one (.sv .tok)), (1, .one (.sv .tok))], 40, 40, 200, [], []⟩
abbrev ltoken_2_V := Str × Int × Tok × Tok
def ltoken_2 {R : Type} (rec : ltoken_2_V → Option R) (kx : Ex → ltoken_2_V → Option R) (v : ltoken_2_V) : Option R := match v with
 | (v12, v13, w4, w5) =>
  cond (decide (v13 < (v12.length : Int))) (
   chk (inb v13 v12.length) (
    cond ((digit (bat v12 v13))) (
     rec (v12, (wr .i64 (v13 + 1)), w4, w5)) (
     kx (.exit 0) (v12, v13, w4, w5)))) (
   kx (.exit 0) (v12, v13, w4, w5))
def ltoken_1_sg : Sig := ⟨21, [(0, .str), (1, .int .i64)], [(2, .fn 111 [])], [(0, .one (.sv .tok)), (1, .one (.sv .tok))], 40, 40, 200, [], []⟩
abbrev ltoken_1_V := Str × Int × Tok × Tok
def ltoken_1 {R : Type} (rec : ltoken_1_V → Option R) (kx : Ex → ltoken_1_V → Option R) (v : ltoken_1_V) : Option R := match v with
 | (v6, v7, w2, w3) =>
  cond (decide (v7 < (v6.length : Int))) (
   chk (inb v7 v6.length) (
    cond ((inner (bat v6 v7))) (
     rec (v6, (wr .i64 (v7 + 1)), w2, w3)) (
     kx (.exit 0) (v6, v7, w2, w3)))) (
   kx (.exit 0) (v6, v7, w2, w3))
def ltoken_0_sg : Sig := ⟨21, [(0, .str), (1, .int .i64)], [(2, .fn 177 [])], [(0, .one (.sv .tok)), (1, .one (.sv .tok))], 40, 40, 200, [], []⟩
abbrev ltoken_0_V := Str × Int × Tok × Tok
def ltoken_0 {R : Type} (rec : ltoken_0_V → Option R) (kx : Ex → ltoken_0_V → Option R) (v : ltoken_0_V) : Option R := match v with
 | (v, v1, w, w1) =>
  cond (decide (v1 < (v.length : Int))) (
   chk (inb v1 v.length) (
    cond ((upper (bat v v1))) (
     rec (v, (wr .i64 (v1 + 1)), w, w1)) (
     kx (.exit 0) (v, v1, w, w1)))) (
   kx (.exit 0) (v, v1, w, w1))
def ltoken_pxi0 (R : Type) (k : Nat) : Px R := ⟨ttOf ttL, glT, callT [(177, callOr [.int .u8] [.bool] upper_F), (111, callOr [.int .u8] [.bool] inner_F), (154, callOr [.int .u8] [.bool] digit_F)], callQT [], loopT [(1, loopTry k ltoken_0_sg (ltoken_0) (loopTry k ltoken_1_sg (ltoken_1) (loopOr k ltoken_2_sg (ltoken_2))))], tbl []⟩
noncomputable def ltoken_px (R : Type) (k : Nat) : Px R := ⟨ttOf ttL, glT, callT [(175, callOr [.str, .str] [.bool] hpre_F), (156, callOr [.str, .int .u8] [.int .i64] sidxb_F), (176, callOr [.str] [.sl .byte true, .int .i64] unhex_F), (177, callOr [.int .u8] [.bool] upper_F), (178, callOr [.str] [.bool] lword_F), (179, callOr [.str, .int .i64] [.bool] alone_F), (109, callOr [.int .u8] [.bool] lower_F), (63, callOr [.str] [.bool] lname_F), (154, callOr [.int .u8] [.bool] digit_F), (180, callOr [.str] [.int .i64, .bool] number_F), (181, callOr [.str, .int .i64] [.str, .int .i64] quoted_F), (95, callOr [.sv .val] [.int .i64] vcheck_F), (182, callOr [.str] [.int .i64] lsign_F), (110, callRun 40 200 (ltoken_pxi0 R k) Tryz.f110)], callQT [], loopT [], tbl []⟩
theorem ltoken_0_eq (R : Type) (k : Nat) : ∀ (fr : List Fr) (rec : ltoken_0_V → Option R) (kx : Ex → ltoken_0_V → Option R) (v : ltoken_0_V), round (ltoken_pxi0 R k) ltoken_0_sg (lp Tryz.f110 0) fr rec kx v = ltoken_0 rec kx v
  | fr, rec, kx, (v, v1, w, w1) => by kernel_rfl
theorem ltoken_1_eq (R : Type) (k : Nat) : ∀ (fr : List Fr) (rec : ltoken_1_V → Option R) (kx : Ex → ltoken_1_V → Option R) (v : ltoken_1_V), round (ltoken_pxi0 R k) ltoken_1_sg (lp Tryz.f110 0) fr rec kx v = ltoken_1 rec kx v
  | fr, rec, kx, (v6, v7, w2, w3) => by kernel_rfl
theorem ltoken_2_eq (R : Type) (k : Nat) : ∀ (fr : List Fr) (rec : ltoken_2_V → Option R) (kx : Ex → ltoken_2_V → Option R) (v : ltoken_2_V), round (ltoken_pxi0 R k) ltoken_2_sg (lp Tryz.f110 0) fr rec kx v = ltoken_2 rec kx v
  | fr, rec, kx, (v12, v13, w4, w5) => by kernel_rfl
def ltoken_body (k : Nat) (x : HV [.str, .int .i64]) : Option (HV [.sv .tok, .int .i64]) := match x with
 | (s, i) =>
  chk (inb i s.length) (
   chk (upto i s.length s.length) (
    cond ((hpre (s.drop (i : Int).toNat) [120, 39])) (
     chk (upto (wr .i64 (i + 2)) s.length s.length) (
      cond (decide ((sidxb (s.drop ((wr .i64 (i + 2)) : Int).toNat) 39) < 0)) (
       some ((Tok.mk 0 i [] 0), (-1))) (
       chk (upto (wr .i64 (i + 2)) (wr .i64 ((wr .i64 (i + 2)) + (sidxb (s.drop ((wr .i64 (i + 2)) : Int).toNat) 39))) s.length) (
        (unhex (cut s (wr .i64 (i + 2)) (wr .i64 ((wr .i64 (i + 2)) + (sidxb (s.drop ((wr .i64 (i + 2)) : Int).toNat) 39))))).bind fun (x, x1) =>
         cond (!decide (x1 = 0)) (
          some ((Tok.mk 5 i x 0), (-1))) (
          cond (decide (1000 < (x.length : Int))) (
           some ((Tok.mk 5 i x 0), (-1))) (
           some ((Tok.mk 5 i x 0), (wr .i64 ((wr .i64 (i + 3)) + (sidxb (s.drop ((wr .i64 (i + 2)) : Int).toNat) 39)))))))))) (
     cond ((upper (bat s i))) (
      iter (fun rec => ltoken_0 rec (fun e vz => match vz with | (_, v3, _, v5) => match e with
       | .exit 0 =>
        chk (upto i v3 s.length) (
         cond (!(lword (cut s i v3))) (
          some ((Tok.mk 1 v5.pos (cut s i v3) v5.n), (-1))) (
          (alone s v3).bind fun x2 =>
           cond (!x2) (
            some ((Tok.mk 1 v5.pos (cut s i v3) v5.n), (-1))) (
            some ((Tok.mk 1 v5.pos (cut s i v3) v5.n), v3))))
       | _ => none)) k (s, i, (Tok.mk 0 0 [] 0), (Tok.mk 0 i [] 0))) (
      cond ((lower (bat s i))) (
       iter (fun rec => ltoken_1 rec (fun e vz => match vz with | (_, v9, _, v11) => match e with
        | .exit 0 =>
         chk (upto i v9 s.length) (
          cond (!(lname (cut s i v9))) (
           some ((Tok.mk 2 v11.pos (cut s i v9) v11.n), (-1))) (
           (alone s v9).bind fun x3 =>
            cond (!x3) (
             some ((Tok.mk 2 v11.pos (cut s i v9) v11.n), (-1))) (
             some ((Tok.mk 2 v11.pos (cut s i v9) v11.n), v9))))
        | _ => none)) k (s, i, (Tok.mk 0 0 [] 0), (Tok.mk 0 i [] 0))) (
       cond ((digit (bat s i))) (
        iter (fun rec => ltoken_2 rec (fun e vz => match vz with | (_, v15, _, v17) => match e with
         | .exit 0 =>
          chk (upto i v15 s.length) (
           (number (cut s i v15)).bind fun (x4, x5) =>
            chk (upto i v15 s.length) (
             cond (!x5) (
              some ((Tok.mk 3 v17.pos (cut s i v15) x4), (-1))) (
              (alone s v15).bind fun x6 =>
               cond (!x6) (
                some ((Tok.mk 3 v17.pos (cut s i v15) x4), (-1))) (
                some ((Tok.mk 3 v17.pos (cut s i v15) x4), v15)))))
         | _ => none)) k (s, i, (Tok.mk 0 0 [] 0), (Tok.mk 0 i [] 0))) (
        cond (decide ((bat s i) = 39)) (
         (quoted s (wr .i64 (i + 1))).bind fun (x7, x8) =>
          cond (!decide ((vcheck (Val.mk 4 0 x7)) = 0)) (
           some ((Tok.mk 4 i x7 0), (-1))) (
           some ((Tok.mk 4 i x7 0), x8))) (
         chk (upto i s.length s.length) (
          (lsign (s.drop (i : Int).toNat)).bind fun x9 =>
           chk (upto i (wr .i64 (i + x9)) s.length) (
            cond (decide (x9 = 0)) (
             some ((Tok.mk 6 i (cut s i (wr .i64 (i + x9))) 0), (-1))) (
             some ((Tok.mk 6 i (cut s i (wr .i64 (i + x9))) 0), (wr .i64 (i + x9)))))))))))))
theorem ltoken_eq (k : Nat) : ∀ (x : HV [.str, .int .i64]), runF (ltoken_px _ k) Tryz.f157 [.str, .int .i64] [.sv .tok, .int .i64] x some = ltoken_body k x
  | (s, i) => by kernel_rfl
theorem ltoken_run (k : Nat) : FnOk Tryz.prog elT glT 157 [.str, .int .i64] [.sv .tok, .int .i64] (ltoken_body k) := by
  refine fnOk_run Tryz.func157 rfl (by kernel_rfl) follows (by kernel_rfl) (n := 0) (by kernel_rfl) (px := ltoken_px _ k) (fun cx hP hel hgl => ?_) (ltoken_eq k)
  have hp1 : PxOk cx (ltoken_pxi0 (HV [.sv .tok, .int .i64]) k) := ⟨fun t => by rw [hP, hel]; exact tt_ok ttL_ok t, by rw [hgl]; rfl⟩
  have hc1 : CallOk cx (ltoken_pxi0 (HV [.sv .tok, .int .i64]) k) := callT_ok rfl (cfs_cons (cf_or (by rw [hP, hel, hgl]; exact upper_ok) (by kernel_rfl)) (cfs_cons (cf_or (by rw [hP, hel, hgl]; exact inner_ok) (by kernel_rfl)) (cfs_cons (cf_or (by rw [hP, hel, hgl]; exact digit_ok) (by kernel_rfl)) cfs_nil)))
  have hq1 : CallQOk cx (ltoken_pxi0 (HV [.sv .tok, .int .i64]) k) := callQT_ok rfl rfl cqfs_nil cwfs_nil
  have hlltoken_0 : LoopOk cx (ltoken_pxi0 (HV [.sv .tok, .int .i64]) k) (lp Tryz.f110 0) := loop_of (fun _ _ => by kernel_rfl) (loopW_try (loopW_or hp1 hc1 hq1 (by rw [hP]; exact follows) (k := k) (s := ltoken_0_sg) (step := ltoken_0) (by kernel_rfl) (ltoken_0_eq _ k) (loops_in (n := 0) (by kernel_rfl) all0)) (loopW_try (loopW_or hp1 hc1 hq1 (by rw [hP]; exact follows) (k := k) (s := ltoken_1_sg) (step := ltoken_1) (by kernel_rfl) (ltoken_1_eq _ k) (loops_in (n := 0) (by kernel_rfl) all0)) (loopW_or hp1 hc1 hq1 (by rw [hP]; exact follows) (k := k) (s := ltoken_2_sg) (step := ltoken_2) (by kernel_rfl) (ltoken_2_eq _ k) (loops_in (n := 0) (by kernel_rfl) all0))))
  have hp0 : PxOk cx (ltoken_px (HV [.sv .tok, .int .i64]) k) := ⟨fun t => by rw [hP, hel]; exact tt_ok ttL_ok t, by rw [hgl]; rfl⟩
  have hc0 : CallOk cx (ltoken_px (HV [.sv .tok, .int .i64]) k) := callT_ok rfl (cfs_cons (cf_or (by rw [hP, hel, hgl]; exact hpre_ok) (by kernel_rfl)) (cfs_cons (cf_or (by rw [hP, hel, hgl]; exact sidxb_ok) (by kernel_rfl)) (cfs_cons (cf_or (by rw [hP, hel, hgl]; exact unhex_ok) (by kernel_rfl)) (cfs_cons (cf_or (by rw [hP, hel, hgl]; exact upper_ok) (by kernel_rfl)) (cfs_cons (cf_or (by rw [hP, hel, hgl]; exact lword_ok) (by kernel_rfl)) (cfs_cons (cf_or (by rw [hP, hel, hgl]; exact alone_ok) (by kernel_rfl)) (cfs_cons (cf_or (by rw [hP, hel, hgl]; exact lower_ok) (by kernel_rfl)) (cfs_cons (cf_or (by rw [hP, hel, hgl]; exact lname_ok) (by kernel_rfl)) (cfs_cons (cf_or (by rw [hP, hel, hgl]; exact digit_ok) (by kernel_rfl)) (cfs_cons (cf_or (by rw [hP, hel, hgl]; exact number_ok) (by kernel_rfl)) (cfs_cons (cf_or (by rw [hP, hel, hgl]; exact quoted_ok) (by kernel_rfl)) (cfs_cons (cf_or (by rw [hP, hel, hgl]; exact vcheck_ok) (by kernel_rfl)) (cfs_cons (cf_or (by rw [hP, hel, hgl]; exact lsign_ok) (by kernel_rfl)) (cfs_cons (cf_run hp1 hc1 hq1 (by rw [hP]; exact follows) (by rw [hP]; exact Tryz.func110) rfl (by kernel_rfl) (by kernel_rfl) (n := 1) (by kernel_rfl) ((allS all0 hlltoken_0))) cfs_nil))))))))))))))
  have hq0 : CallQOk cx (ltoken_px (HV [.sv .tok, .int .i64]) k) := callQT_ok rfl rfl cqfs_nil cwfs_nil
  exact ⟨hp0, hc0, hq0, all0⟩
def ltoken (s : Str) (i : Int) : Option (Tok × Int) := if s.length ≤ 20000 then ltoken_body 20001 (s, i) else none
def ltoken_F : FT [.str, .int .i64] [.sv .tok, .int .i64] := fun x => ltoken x.1 x.2
theorem ltoken_ok : FnOk Tryz.prog elT glT 157 [.str, .int .i64] [.sv .tok, .int .i64] ltoken_F := .fin 0 ltoken_run fun (s, i) r hb hx => ⟨20001, by
  simp only [ltoken_F, ltoken] at hx
  split at hx
  · exact hx
  · cases hx⟩
theorem ltoken_0_loop {R : Type} {kx : Ex → ltoken_0_V → Option R} {s : Str} (w w1 : Tok) {a : Int → Option R} (hs : ln s.length) (h1 : ∀ j, kx (.exit 0) (s, j, w, w1) = a j) : ∀ (k i : Nat), i ≤ s.length → s.length - i < k → iter (fun rec => ltoken_0 rec kx) k (s, (i : Int), w, w1) = a (Lp.runTo Lp.isUp s i)
  | 0, i, _, h => absurd h (Nat.not_lt_zero _)
  | k + 1, i, hi, h => by
    rw [iter_s]
    by_cases hl : i < s.length
    · have ih := ltoken_0_loop w w1 hs h1 k (i + 1) (by omega) (by omega)
      have eb : Sx.byt s (i : Int) = (s[i].toNat : Int) := bat_nat hl
      simp only [ltoken_0, wr_succ hl hs, ih, h1, bat_nat hl, inb_t hl, upper_is]
      rw [decide_eq_true (show (i : Int) < (s.length : Int) by omega)]
      cases hp : Lp.isUp (s[i].toNat : Int) with
      | true =>
        have := Lp.runTo_yes (p := Lp.isUp) (l := s) (j := i) (by omega) (by rw [eb]; exact hp)
        rw [← this]
        rfl
      | false =>
        have := Lp.runTo_no (p := Lp.isUp) (l := s) (j := i) (by omega) (by rw [eb]; exact hp)
        rw [this]
        rfl
    · have := Lp.runTo_end (p := Lp.isUp) (l := s) (j := i) (by omega)
      simp only [ltoken_0, h1]
      rw [decide_eq_false (by omega), this]
      rfl
theorem ltoken_1_loop {R : Type} {kx : Ex → ltoken_1_V → Option R} {s : Str} (w w1 : Tok) {a : Int → Option R} (hs : ln s.length) (h1 : ∀ j, kx (.exit 0) (s, j, w, w1) = a j) : ∀ (k i : Nat), i ≤ s.length → s.length - i < k → iter (fun rec => ltoken_1 rec kx) k (s, (i : Int), w, w1) = a (Lp.runTo Lp.isIn s i)
  | 0, i, _, h => absurd h (Nat.not_lt_zero _)
  | k + 1, i, hi, h => by
    rw [iter_s]
    by_cases hl : i < s.length
    · have ih := ltoken_1_loop w w1 hs h1 k (i + 1) (by omega) (by omega)
      have eb : Sx.byt s (i : Int) = (s[i].toNat : Int) := bat_nat hl
      simp only [ltoken_1, wr_succ hl hs, ih, h1, bat_nat hl, inb_t hl, inner_is]
      rw [decide_eq_true (show (i : Int) < (s.length : Int) by omega)]
      cases hp : Lp.isIn (s[i].toNat : Int) with
      | true =>
        have := Lp.runTo_yes (p := Lp.isIn) (l := s) (j := i) (by omega) (by rw [eb]; exact hp)
        rw [← this]
        rfl
      | false =>
        have := Lp.runTo_no (p := Lp.isIn) (l := s) (j := i) (by omega) (by rw [eb]; exact hp)
        rw [this]
        rfl
    · have := Lp.runTo_end (p := Lp.isIn) (l := s) (j := i) (by omega)
      simp only [ltoken_1, h1]
      rw [decide_eq_false (by omega), this]
      rfl
theorem ltoken_2_loop {R : Type} {kx : Ex → ltoken_2_V → Option R} {s : Str} (w w1 : Tok) {a : Int → Option R} (hs : ln s.length) (h1 : ∀ j, kx (.exit 0) (s, j, w, w1) = a j) : ∀ (k i : Nat), i ≤ s.length → s.length - i < k → iter (fun rec => ltoken_2 rec kx) k (s, (i : Int), w, w1) = a (Lp.runTo Lp.isDi s i)
  | 0, i, _, h => absurd h (Nat.not_lt_zero _)
  | k + 1, i, hi, h => by
    rw [iter_s]
    by_cases hl : i < s.length
    · have ih := ltoken_2_loop w w1 hs h1 k (i + 1) (by omega) (by omega)
      have eb : Sx.byt s (i : Int) = (s[i].toNat : Int) := bat_nat hl
      simp only [ltoken_2, wr_succ hl hs, ih, h1, bat_nat hl, inb_t hl, digit_is]
      rw [decide_eq_true (show (i : Int) < (s.length : Int) by omega)]
      cases hp : Lp.isDi (s[i].toNat : Int) with
      | true =>
        have := Lp.runTo_yes (p := Lp.isDi) (l := s) (j := i) (by omega) (by rw [eb]; exact hp)
        rw [← this]
        rfl
      | false =>
        have := Lp.runTo_no (p := Lp.isDi) (l := s) (j := i) (by omega) (by rw [eb]; exact hp)
        rw [this]
        rfl
    · have := Lp.runTo_end (p := Lp.isDi) (l := s) (j := i) (by omega)
      simp only [ltoken_2, h1]
      rw [decide_eq_false (by omega), this]
      rfl
theorem upto_i {i j : Int} {n : Nat} (h : 0 ≤ i ∧ i ≤ j ∧ j ≤ n) : upto i j n = true := by simp [upto, h]
theorem wr_i {n : Int} (h : 0 ≤ n ∧ n ≤ 1000000) : wr .i64 n = n := wr_id (by simp only [inI]; omega)
theorem number_ne {x : Str} (h : x ≠ []) : number x = some (numP x) := by
  cases x with
  | nil => exact absurd rfl h
  | cons b l => rfl
theorem lsign_ne {x : Str} (h : x ≠ []) : lsign x = some (Lp.signF x) := by
  cases x with
  | nil => exact absurd rfl h
  | cons b l => rfl
theorem alone_in {s : Str} {i : Int} (h : 0 ≤ i ∧ i ≤ s.length) : alone s i = some (Lp.aloneF s i) := if_pos h
theorem visible_is (x : Str) : visible x = Lp.visF x := by
  have e : ∀ b : UInt8, vis b = Lp.vis (b.toNat : Int) := fun b => by
    simp only [vis, Lp.vis]
    rw [show decide (32 ≤ b.toNat) = decide (32 ≤ (b.toNat : Int)) from decide_eq_decide.2 (by omega), show decide (b.toNat ≤ 126) = decide ((b.toNat : Int) ≤ 126) from decide_eq_decide.2 (by omega)]
  simp only [visible, Lp.visF]
  congr 1
  funext b
  exact e b
theorem vright_four (x : Str) : vright (Val.mk 4 0 x) = Lp.rightF 4 0 x := by
  show cond (decide ((x.length : Int) ≤ 1000)) (visible x) false = (decide ((x.length : Int) ≤ 1000) && Lp.visF x)
  rw [visible_is]
  cases decide ((x.length : Int) ≤ 1000) <;> rfl
theorem vcheck_four (x : Str) : decide (vcheck (Val.mk 4 0 x) = 0) = Lp.rightF 4 0 x := by
  have key : ∀ b : Bool, decide (cond (!b) (2 : Int) 0 = 0) = b := by decide
  rw [← vright_four]
  exact key _
/-- the token at a place, as the plain law has it -/
theorem ltoken_tok {s : Str} {i : Int} (hl : 0 ≤ i ∧ i < s.length) (hs : s.length ≤ 20000) : match Lp.tokF s i with
    | some (k, x, n, e) => ltoken s i = some (⟨k, i, x, n⟩, e)
    | none => ∃ t, ltoken s i = some (t, -1) := by
  have hln : ln s.length := by simp only [ln]; omega
  have hd : (s.drop i.toNat).length = s.length - i.toNat := List.length_drop
  have hd2 : (s.drop (i + 2).toNat).length = s.length - (i + 2).toNat := List.length_drop
  have hne : s.drop i.toNat ≠ [] := List.ne_nil_of_length_pos (by omega)
  obtain ⟨m, rfl⟩ := Int.eq_ofNat_of_zero_le hl.1
  have hm : m < s.length := by omega
  have ep : ∀ p q, hpre p q = Lp.pre p q := fun _ _ => rfl
  have eb : bat s (m : Int) = Sx.byt s (m : Int) := rfl
  have e39 : sidxb (s.drop ((m : Int) + 2).toNat) 39 = Lib.indexByte (s.drop ((m : Int) + 2).toNat) 39 := rfl
  simp only [ltoken, if_pos hs, ltoken_body, inb_t hm, upto_i (show 0 ≤ (m : Int) ∧ (m : Int) ≤ (s.length : Int) ∧ (s.length : Int) ≤ s.length by omega), ep, eb, upper_is, lower_is, digit_is, chk, cond_t, Lp.tokF, wr_i (show 0 ≤ (m : Int) + 2 ∧ (m : Int) + 2 ≤ 1000000 by omega), wr_i (show 0 ≤ (m : Int) + 3 ∧ (m : Int) + 3 ≤ 1000000 by omega), wr_i (show 0 ≤ (m : Int) + 1 ∧ (m : Int) + 1 ≤ 1000000 by omega)]
  cases hx : Lp.pre (s.drop (m : Int).toNat) [120, 39] with
  | true =>
    have h2 : 2 ≤ (s.drop (m : Int).toNat).length := by
      simp only [Lp.pre, Bool.and_eq_true, decide_eq_true_eq, List.length_cons, List.length_nil] at hx
      omega
    have hib := Lp.indexByte_in (s.drop ((m : Int) + 2).toNat) 39
    simp only [if_true, cond_t]
    rw [upto_i (show 0 ≤ (m : Int) + 2 ∧ (m : Int) + 2 ≤ (s.length : Int) ∧ (s.length : Int) ≤ s.length by omega), e39, cond_t]
    generalize Lib.indexByte (s.drop ((m : Int) + 2).toNat) 39 = z at hib ⊢
    by_cases hz : z < 0
    · rw [if_pos hz, decide_eq_true hz]
      exact ⟨_, rfl⟩
    · rw [if_neg hz, decide_eq_false hz, wr_i (show 0 ≤ (m : Int) + 2 + z ∧ (m : Int) + 2 + z ≤ 1000000 by omega), wr_i (show 0 ≤ (m : Int) + 3 + z ∧ (m : Int) + 3 + z ≤ 1000000 by omega), upto_i (show 0 ≤ (m : Int) + 2 ∧ (m : Int) + 2 ≤ (m : Int) + 2 + z ∧ (m : Int) + 2 + z ≤ s.length by omega), cond_f, cond_t]
      have hcl := Lp.cut_length s ((m : Int) + 2) ((m : Int) + 2 + z) (by omega)
      have ec : cut s ((m : Int) + 2) ((m : Int) + 2 + z) = Sx.cut s ((m : Int) + 2) ((m : Int) + 2 + z) := rfl
      rw [ec]
      generalize Sx.cut s ((m : Int) + 2) ((m : Int) + 2 + z) = y at hcl ⊢
      have eu : unhex y = some (unP y) := if_pos (by omega)
      rw [eu, unP]
      cases (if y.length % 2 = 0 then Lp.unGo y [] else none) with
      | none => exact ⟨_, rfl⟩
      | some b =>
        by_cases hb : 1000 < (b.length : Int)
        · simp only [Option.bind_some]
          rw [if_pos hb, decide_eq_true hb]
          exact ⟨_, rfl⟩
        · simp only [Option.bind_some]
          rw [if_neg hb, decide_eq_false hb]
          rfl
  | false =>
    simp only [cond_f, Bool.false_eq_true, if_false]
    cases hu : Lp.isUp (Sx.byt s (m : Int)) with
    | true =>
      have hr := Lp.runTo_range Lp.isUp s m (by omega)
      simp only [cond_t, if_true]
      rw [ltoken_0_loop (s := s) (w := Tok.mk 0 0 [] 0) (w1 := Tok.mk 0 m [] 0) (a := fun v3 => cond (upto (m : Int) v3 s.length) (cond (!(lword (cut s m v3))) (some ((Tok.mk 1 m (cut s m v3) 0), (-1))) ((alone s v3).bind fun x2 => cond (!x2) (some ((Tok.mk 1 m (cut s m v3) 0), (-1))) (some ((Tok.mk 1 m (cut s m v3) 0), v3)))) none) hln (fun _ => rfl) 20001 m (by omega) (by omega)]
      rw [upto_i (by omega), alone_in (by omega), lword_is]
      have ec : cut s (m : Int) (Lp.runTo Lp.isUp s m) = Sx.cut s (m : Int) (Lp.runTo Lp.isUp s m) := rfl
      rw [ec]
      cases Lp.wordF (Sx.cut s (m : Int) (Lp.runTo Lp.isUp s m)) with
      | false => exact ⟨_, rfl⟩
      | true =>
        cases Lp.aloneF s (Lp.runTo Lp.isUp s m) with
        | false => exact ⟨_, rfl⟩
        | true => rfl
    | false =>
      simp only [cond_f, Bool.false_eq_true, if_false]
      cases hu2 : Lp.isLo (Sx.byt s (m : Int)) with
      | true =>
        have hr := Lp.runTo_range Lp.isIn s m (by omega)
        simp only [cond_t, if_true]
        rw [ltoken_1_loop (s := s) (w := Tok.mk 0 0 [] 0) (w1 := Tok.mk 0 m [] 0) (a := fun v3 => cond (upto (m : Int) v3 s.length) (cond (!(lname (cut s m v3))) (some ((Tok.mk 2 m (cut s m v3) 0), (-1))) ((alone s v3).bind fun x2 => cond (!x2) (some ((Tok.mk 2 m (cut s m v3) 0), (-1))) (some ((Tok.mk 2 m (cut s m v3) 0), v3)))) none) hln (fun _ => rfl) 20001 m (by omega) (by omega)]
        rw [upto_i (by omega), alone_in (by omega)]
        have ec : cut s (m : Int) (Lp.runTo Lp.isIn s m) = Sx.cut s (m : Int) (Lp.runTo Lp.isIn s m) := rfl
        rw [ec]
        simp only [lname]
        cases Lp.nameF (Sx.cut s (m : Int) (Lp.runTo Lp.isIn s m)) with
        | false => exact ⟨_, rfl⟩
        | true =>
          cases Lp.aloneF s (Lp.runTo Lp.isIn s m) with
          | false => exact ⟨_, rfl⟩
          | true => rfl
      | false =>
        simp only [cond_f, Bool.false_eq_true, if_false]
        cases hu3 : Lp.isDi (Sx.byt s (m : Int)) with
        | true =>
          have hr := Lp.runTo_range Lp.isDi s m (by omega)
          have hg := Lp.runTo_gt (p := Lp.isDi) (by omega) hu3
          have hcl := Lp.cut_length s (m : Int) (Lp.runTo Lp.isDi s m) (by omega)
          simp only [cond_t, if_true]
          rw [ltoken_2_loop (s := s) (w := Tok.mk 0 0 [] 0) (w1 := Tok.mk 0 m [] 0) (a := fun v3 => cond (upto (m : Int) v3 s.length) ((number (cut s m v3)).bind fun (x4, x5) => cond (upto (m : Int) v3 s.length) (cond (!x5) (some ((Tok.mk 3 m (cut s m v3) x4), (-1))) ((alone s v3).bind fun x6 => cond (!x6) (some ((Tok.mk 3 m (cut s m v3) x4), (-1))) (some ((Tok.mk 3 m (cut s m v3) x4), v3)))) none) none) hln (fun _ => rfl) 20001 m (by omega) (by omega)]
          have ec : cut s (m : Int) (Lp.runTo Lp.isDi s m) = Sx.cut s (m : Int) (Lp.runTo Lp.isDi s m) := rfl
          rw [upto_i (by omega), alone_in (by omega), ec]
          generalize Sx.cut s (m : Int) (Lp.runTo Lp.isDi s m) = y at hcl ⊢
          rw [number_ne (List.ne_nil_of_length_pos (by omega)), numP]
          cases Lp.numGo y 0 with
          | none => exact ⟨_, rfl⟩
          | some n =>
            simp only [Option.bind_some, cond_t]
            have e0 : (decide (y = [48]) || !decide (bat y 0 = 48)) = (decide (y = [48]) || Sx.byt y 0 != 48) := rfl
            rw [e0]
            cases (decide (y = [48]) || Sx.byt y 0 != 48) with
            | false => exact ⟨_, rfl⟩
            | true =>
              cases Lp.aloneF s (Lp.runTo Lp.isDi s m) with
              | false => exact ⟨_, rfl⟩
              | true => rfl
        | false =>
          simp only [cond_f, Bool.false_eq_true, if_false]
          by_cases h39 : Sx.byt s (m : Int) = 39
          · have hqi := Lp.qGo_in _ (s.drop ((m : Int) + 1).toNat) [] ((m : Int) + 1) (Nat.le_refl _) (by omega)
            have eq : quoted s ((m : Int) + 1) = some (Lp.qGo (s.drop ((m : Int) + 1).toNat) [] ((m : Int) + 1)) := if_pos (by omega)
            rw [decide_eq_true h39, if_pos h39, eq]
            simp only [cond_t, Option.bind_some, vcheck_four]
            generalize Lp.qGo (s.drop ((m : Int) + 1).toNat) [] ((m : Int) + 1) = q at hqi ⊢
            obtain ⟨y, z⟩ := q
            cases Lp.rightF 4 0 y with
            | false => exact ⟨_, rfl⟩
            | true =>
              simp only [if_true, Bool.not_true, cond_f]
              by_cases hz : z < 0
              · rw [if_pos hz]
                obtain rfl : z = -1 := by simp only at hqi; omega
                exact ⟨_, rfl⟩
              · rw [if_neg hz]
          · have hsi := Lp.signF_in (s.drop (m : Int).toNat) (by omega)
            rw [decide_eq_false h39, if_neg h39, lsign_ne hne]
            simp only [cond_f, Option.bind_some]
            generalize Lp.signF (s.drop (m : Int).toNat) = z at hsi ⊢
            rw [wr_i (show 0 ≤ (m : Int) + z ∧ (m : Int) + z ≤ 1000000 by omega), upto_i (by omega)]
            by_cases hz : z = 0
            · rw [decide_eq_true hz, if_pos hz]
              exact ⟨_, rfl⟩
            · rw [decide_eq_false hz, if_neg hz]
              rfl
/-! ## exchequer/lex.All -/
def lall_0_sg : Sig := ⟨38, [(0, .str), (2, .sl .tok true), (3, .int .i64), (4, .int .i64), (5, .sl .tok true), (6, .int .i64)], [], [], 0, 0, 0, [], []⟩
abbrev lall_0_V := Str × List Tok × Int × Int × List Tok × Int
def lall_0 {R : Type} (rec : lall_0_V → Option R) (kx : Ex → lall_0_V → Option R) (v : lall_0_V) : Option R := match v with
 | (v, v1, v2, v3, v4, v5) =>
  cond (decide (v5 < (v.length : Int))) (
   chk (inb v5 v.length) (
    cond (decide (0 ≤ (sidxb [32, 9, 10, 13] (bat v v5)))) (
     rec (v, v1, v2, v3, v4, (wr .i64 (v5 + 1)))) (
     (ltoken v v5).bind fun (x, x1) =>
      cond (decide (x1 < 0)) (
       kx .ret (v, [], v5, 11, v4, v5)) (
       chk (decide (v4.length + 1 ≤ maxApp)) (
        rec (v, v1, v2, v3, (v4 ++ [x]), x1)))))) (
   kx (.exit 0) (v, v1, v2, v3, v4, v5))
def lall_px (R : Type) (k : Nat) : Px R := ⟨ttOf ttL, glT, callT [(156, callOr [.str, .int .u8] [.int .i64] sidxb_F), (157, callOr [.str, .int .i64] [.sv .tok, .int .i64] ltoken_F)], callQT [], loopT [(5, loopOr k lall_0_sg (lall_0))], tbl []⟩
theorem lall_0_eq (R : Type) (k : Nat) : ∀ (fr : List Fr) (rec : lall_0_V → Option R) (kx : Ex → lall_0_V → Option R) (v : lall_0_V), round (lall_px R k) lall_0_sg (lp Tryz.f116 0) fr rec kx v = lall_0 rec kx v
  | fr, rec, kx, (v, v1, v2, v3, v4, v5) => by kernel_rfl
def lall_body (k : Nat) (x : HV [.str]) : Option (HV [.sl .tok true, .int .i64, .int .i64]) := match x with
 | s =>
  cond (decide (20000 < (s.length : Int))) (
   some ([], 0, 3)) (
   iter (fun rec => lall_0 rec (fun e vz => match vz with | (_, v7, v8, v9, v10, _) => match e with
    | .ret =>
     some (v7, v8, v9)
    | .exit 0 =>
     some (v10, 0, 0)
    | _ => none)) k (s, [], 0, 0, [], 0))
theorem lall_eq (k : Nat) : ∀ (x : HV [.str]), runF (lall_px _ k) Tryz.f116 [.str] [.sl .tok true, .int .i64, .int .i64] x some = lall_body k x
  | s => by kernel_rfl
theorem lall_run (k : Nat) : FnOk Tryz.prog elT glT 116 [.str] [.sl .tok true, .int .i64, .int .i64] (lall_body k) := by
  refine fnOk_run Tryz.func116 rfl (by kernel_rfl) follows (by kernel_rfl) (n := 1) (by kernel_rfl) (px := lall_px _ k) (fun cx hP hel hgl => ?_) (lall_eq k)
  have hp0 : PxOk cx (lall_px (HV [.sl .tok true, .int .i64, .int .i64]) k) := ⟨fun t => by rw [hP, hel]; exact tt_ok ttL_ok t, by rw [hgl]; rfl⟩
  have hc0 : CallOk cx (lall_px (HV [.sl .tok true, .int .i64, .int .i64]) k) := callT_ok rfl (cfs_cons (cf_or (by rw [hP, hel, hgl]; exact sidxb_ok) (by kernel_rfl)) (cfs_cons (cf_or (by rw [hP, hel, hgl]; exact ltoken_ok) (by kernel_rfl)) cfs_nil))
  have hq0 : CallQOk cx (lall_px (HV [.sl .tok true, .int .i64, .int .i64]) k) := callQT_ok rfl rfl cqfs_nil cwfs_nil
  have hllall_0 : LoopOk cx (lall_px (HV [.sl .tok true, .int .i64, .int .i64]) k) (lp Tryz.f116 0) := loop_ok hp0 hc0 hq0 (by rw [hP]; exact follows) (k := k) (s := lall_0_sg) (step := lall_0) (fun _ _ => by kernel_rfl) (by kernel_rfl) (lall_0_eq _ k) (loops_in (n := 0) (by kernel_rfl) all0)
  exact ⟨hp0, hc0, hq0, (allS all0 hllall_0)⟩
def allP (s : Str) : List Tok × Int × Int := if 20000 < (s.length : Int) then ([], 0, 3) else match Lp.allF s with
  | .error i => ([], i, 11)
  | .ok ts => (ts, 0, 0)
abbrev lall (s : Str) : List Tok × Int × Int := allP s
def lall_F : FT [.str] [.sl .tok true, .int .i64, .int .i64] := fun x => some (lall x)
theorem blank_is (c : Int) : decide (0 ≤ sidxb [32, 9, 10, 13] c) = Lp.blankF c := rfl
theorem lall_loop {R : Type} {kx : Ex → lall_0_V → Option R} {s : Str} {c : Except Int (List Tok) → Option R} (hs : s.length ≤ 20000) (h1 : ∀ a i j, kx .ret (s, [], i, 11, a, j) = c (.error i)) (h2 : ∀ q r t a j, kx (.exit 0) (s, q, r, t, a, j) = c (.ok a)) : ∀ (k : Nat) (i : Int) (f : Nat) (q : List Tok) (r t : Int) (a : List Tok), (a.length : Int) ≤ i → 0 ≤ i → i ≤ s.length → (s.length : Int) - i < k → (s.length : Int) - i < f → iter (fun rec => lall_0 rec kx) k (s, q, r, t, a, i) = c (Lp.allGo f s i a)
  | 0, i, f, q, r, t, a, _, _, _, h, _ => by omega
  | k + 1, i, 0, q, r, t, a, _, _, _, _, h => by omega
  | k + 1, i, f + 1, q, r, t, a, ha, h0, hi, h, hf => by
    rw [iter_s]
    by_cases hl : i < s.length
    · have ea : decide (a.length + 1 ≤ maxApp) = true := decide_eq_true (by simp only [maxApp]; omega)
      have eb : bat s i = Sx.byt s i := rfl
      simp only [lall_0, inb_i (show 0 ≤ i ∧ i < (s.length : Int) from ⟨h0, hl⟩), blank_is, ea, eb, Lp.allGo]
      rw [decide_eq_true hl, if_neg (show ¬ (s.length : Int) ≤ i by omega)]
      simp only [cond_t, chk]
      cases hbl : Lp.blankF (Sx.byt s i) with
      | true =>
        rw [wr_i (by omega)]
        simp only [cond_t, if_true]
        exact lall_loop hs h1 h2 k (i + 1) f q r t a (by omega) (by omega) (by omega) (by omega) (by omega)
      | false =>
        have ht := ltoken_tok (s := s) (i := i) ⟨h0, hl⟩ hs
        simp only [cond_f, Bool.false_eq_true, if_false]
        cases hk : Lp.tokF s i with
        | none =>
          rw [hk] at ht
          obtain ⟨u, hu⟩ := ht
          rw [hu]
          exact h1 _ _ _
        | some y =>
          obtain ⟨y1, y2, y3, e⟩ := y
          rw [hk] at ht
          have hte := Lp.tok_end ⟨h0, hl⟩ hk
          simp only at ht
          rw [ht]
          simp only [Option.bind_some]
          rw [decide_eq_false (show ¬ e < 0 by omega), cond_f]
          exact lall_loop hs h1 h2 k e f q r t (a ++ [⟨y1, i, y2, y3⟩]) (by simp only [List.length_append, List.length_cons, List.length_nil]; omega) (by omega) (by omega) (by omega) (by omega)
    · simp only [lall_0, h2, Lp.allGo]
      rw [decide_eq_false hl, if_pos (show (s.length : Int) ≤ i by omega)]
      rfl
theorem lall_ok : FnOk Tryz.prog elT glT 116 [.str] [.sl .tok true, .int .i64, .int .i64] lall_F := .fin 0 lall_run fun s r hb hx => ⟨20001, by
  simp only [lall_F, Option.some.injEq] at hx
  rw [← hx]
  simp only [lall_body, lall, allP]
  by_cases hbig : 20000 < (s.length : Int)
  · rw [decide_eq_true hbig, if_pos hbig]
    rfl
  · rw [decide_eq_false hbig, if_neg hbig, cond_f]
    refine (lall_loop (s := s) (c := fun o => match o with | .error i => some ([], i, (11 : Int)) | .ok ts => some (ts, (0 : Int), (0 : Int))) (by omega) (fun _ _ _ => ?_) (fun _ _ _ _ _ => ?_) 20001 0 (s.length + 1) [] 0 0 [] (by simp) (by omega) (by omega) (by omega) (by omega)).trans ?_
    · rfl
    · rfl
    · show _ = some (match Lp.allGo (s.length + 1) s 0 [] with | .error i => ([], i, (11 : Int)) | .ok ts => (ts, (0 : Int), (0 : Int)))
      cases Lp.allGo (s.length + 1) s 0 [] <;> rfl⟩
end Go.Proofs.YthndhaolemgbdaaGreatDoor

/- The library's contract of strings.ReplaceAll at this seat's program (the facts as the kit's tool lays them). -/
namespace Go.Proofs
open Go.Shelf
def Tryz.laysRA_ren : Go.Shelf.Ren := ⟨fun | 155 => 150 | 154 => 171 | 138 => 187 | 165 => 153 | 143 => 188 | 166 => 104 | 197 => 189 | 169 => 41 | 195 => 197 | 218 => 198 | 240 => 152 | 241 => 173 | 219 => 199 | 260 => 200 | 276 => 172 | 277 => 190 | 217 => 174 | 225 => 203 | 224 => 204 | 267 => 205 | 266 => 191 | 314 => 207 | n => n, fun | 9 => 9 | 3 => 3 | 4 => 4 | 72 => 80 | 0 => 0 | 76 => 154 | 105 => 216 | 21 => 21 | 5 => 5 | 70 => 77 | 20 => 20 | 37 => 78 | 75 => 153 | 127 => 148 | 164 => 205 | 46 => 68 | 119 => 226 | 139 => 229 | 138 => 228 | 146 => 231 | 51 => 230 | 80 => 84 | n => n, fun | 1 => 3 | 3 => 4 | 4 => 5 | n => n⟩
theorem Tryz.laysRA : Go.Proofs.Lays.n155 Tryz.prog Tryz.laysRA_ren := {
  mixed := by kernel_rfl
  f138 := Tryz.func187.trans (congrArg some (by kernel_rfl))
  f143 := Tryz.func188.trans (congrArg some (by kernel_rfl))
  f154 := Tryz.func171.trans (congrArg some (by kernel_rfl))
  f155 := Tryz.func150.trans (congrArg some (by kernel_rfl))
  f165 := Tryz.func153.trans (congrArg some (by kernel_rfl))
  f166 := Tryz.func104.trans (congrArg some (by kernel_rfl))
  f169 := Tryz.func41.trans (congrArg some (by kernel_rfl))
  f195 := Tryz.func197.trans (congrArg some (by kernel_rfl))
  f197 := Tryz.func189.trans (congrArg some (by kernel_rfl))
  f217 := Tryz.func174.trans (congrArg some (by kernel_rfl))
  f218 := Tryz.func198.trans (congrArg some (by kernel_rfl))
  f219 := Tryz.func199.trans (congrArg some (by kernel_rfl))
  f224 := Tryz.func204.trans (congrArg some (by kernel_rfl))
  f225 := Tryz.func203.trans (congrArg some (by kernel_rfl))
  f240 := Tryz.func152.trans (congrArg some (by kernel_rfl))
  f241 := Tryz.func173.trans (congrArg some (by kernel_rfl))
  f260 := Tryz.func200.trans (congrArg some (by kernel_rfl))
  f266 := Tryz.func191.trans (congrArg some (by kernel_rfl))
  f267 := Tryz.func205.trans (congrArg some (by kernel_rfl))
  f276 := Tryz.func172.trans (congrArg some (by kernel_rfl))
  f277 := Tryz.func190.trans (congrArg some (by kernel_rfl))
  f314 := Tryz.func207.trans (congrArg some (by kernel_rfl))
  t0 := Tryz.underlying0
  a0 := Tryz.isAgg0
  z0 := Tryz.sizeOf0
  v0 := Tryz.zeroValue0
  t3 := Tryz.underlying3
  a3 := Tryz.isAgg3
  z3 := Tryz.sizeOf3
  v3 := Tryz.zeroValue3
  t4 := Tryz.underlying4
  a4 := Tryz.isAgg4
  z4 := Tryz.sizeOf4
  v4 := Tryz.zeroValue4
  t5 := Tryz.underlying5
  a5 := Tryz.isAgg5
  z5 := Tryz.sizeOf5
  v5 := Tryz.zeroValue5
  t9 := Tryz.underlying9
  a9 := Tryz.isAgg9
  z9 := Tryz.sizeOf9
  v9 := Tryz.zeroValue9
  t20 := Tryz.underlying20
  a20 := Tryz.isAgg20
  z20 := Tryz.sizeOf20
  v20 := Tryz.zeroValue20
  t21 := Tryz.underlying21
  a21 := Tryz.isAgg21
  z21 := Tryz.sizeOf21
  v21 := Tryz.zeroValue21
  t37 := Tryz.underlying78
  a37 := Tryz.isAgg78
  z37 := Tryz.sizeOf78
  v37 := Tryz.zeroValue78
  t46 := Tryz.underlying68
  a46 := Tryz.isAgg68
  z46 := Tryz.sizeOf68
  v46 := Tryz.zeroValue68
  t51 := Tryz.underlying230
  a51 := Tryz.isAgg230
  z51 := Tryz.sizeOf230
  v51 := Tryz.zeroValue230
  t70 := Tryz.underlying77
  a70 := Tryz.isAgg77
  z70 := Tryz.sizeOf77
  v70 := Tryz.zeroValue77
  t72 := Tryz.underlying80
  a72 := Tryz.isAgg80
  z72 := Tryz.sizeOf80
  v72 := Tryz.zeroValue80
  t75 := Tryz.underlying153
  a75 := Tryz.isAgg153
  z75 := Tryz.sizeOf153
  v75 := Tryz.zeroValue153
  t76 := Tryz.underlying154
  a76 := Tryz.isAgg154
  z76 := Tryz.sizeOf154
  v76 := Tryz.zeroValue154
  t105 := Tryz.underlying216
  a105 := Tryz.isAgg216
  z105 := Tryz.sizeOf216
  v105 := Tryz.zeroValue216
  t119 := Tryz.underlying226
  a119 := Tryz.isAgg226
  z119 := Tryz.sizeOf226
  t127 := Tryz.underlying148
  a127 := Tryz.isAgg148
  z127 := Tryz.sizeOf148
  v127 := Tryz.zeroValue148
  t138 := Tryz.underlying228
  a138 := Tryz.isAgg228
  z138 := Tryz.sizeOf228
  v138 := Tryz.zeroValue228
  t139 := Tryz.underlying229
  a139 := Tryz.isAgg229
  z139 := Tryz.sizeOf229
  v139 := Tryz.zeroValue229
  t146 := Tryz.underlying231
  a146 := Tryz.isAgg231
  z146 := Tryz.sizeOf231
  v146 := Tryz.zeroValue231
  t164 := Tryz.underlying205
  a164 := Tryz.isAgg205
  z164 := Tryz.sizeOf205
  v164 := Tryz.zeroValue205
  g1 := by kernel_rfl
  g3 := by kernel_rfl
  g4 := by kernel_rfl }
theorem Tryz.extraRA : Builder.Extra Tryz.prog Tryz.laysRA_ren := {
  sizeBuilder := by kernel_rfl
  liesBuilder := by kernel_rfl
  t5 := Tryz.laysRA.t5
  a5 := Tryz.laysRA.a5
  z5 := Tryz.laysRA.z5
  v5 := Tryz.laysRA.v5
  infoByte := by kernel_rfl
  cellsByte := by kernel_rfl
  sizeByte := by kernel_rfl
  neB5 := by decide }
end Go.Proofs

/- strings.ReplaceAll, by the library's contract. -/
namespace Go.Proofs.YthndhaolemgbdaaGreatDoor
open Go.Ax
def repAll (s old new : Str) : Option Str := cond (decide (s.length < 4294967281) && decide (1 ≤ old.length) && decide (s.length + Lib.count s old * new.length ≤ 140737488355328) && decide ((Lib.replaceAll s old new).length ≤ maxLen)) (some (Lib.replaceAll s old new)) none
def repAll_F : FT [.str, .str, .str] [.str] := fun x => repAll x.1 x.2.1 x.2.2
theorem repAll_ok : FnOk Tryz.prog elT glT 150 [.str, .str, .str] [.str] repAll_F := by
  refine ⟨Sx.enters_of Tryz.func150 rfl (by kernel_rfl), fun x r hx w M vs hM hgl hr => ?_⟩
  obtain ⟨s, old, new⟩ := x
  simp only [repAll_F, repAll] at hx
  cases hc : decide (s.length < 4294967281) && decide (1 ≤ old.length) && decide (s.length + Lib.count s old * new.length ≤ 140737488355328) && decide ((Lib.replaceAll s old new).length ≤ maxLen) with
  | false => rw [hc] at hx; cases hx
  | true =>
    rw [hc] at hx
    have hx : some (Lib.replaceAll s old new) = some r := hx
    simp only [Option.some.injEq] at hx
    subst hx
    simp only [Bool.and_eq_true, decide_eq_true_eq] at hc
    obtain ⟨⟨⟨h1, h2⟩, h3⟩, h4⟩ := hc
    simp only [encL, enc1, Reps, Rep] at hr
    obtain ⟨u, us, rfl, ⟨rfl, _⟩, u2, us2, rfl, ⟨rfl, _⟩, u3, us3, rfl, ⟨rfl, _⟩, rfl⟩ := hr
    obtain ⟨m, hm⟩ := hgl.2.2 3 .i64 rfl
    have c := Any.strings_ReplaceAll Tryz.laysRA Tryz.extraRA ⟨s.toArray⟩ ⟨old.toArray⟩ ⟨new.toArray⟩ m w (by simpa [ByteArray.size] using h1) (hm w (Chg.refl _ _)) (by simpa [ByteArray.size] using h2) (by simpa [ByteArray.size, Lib.countB] using h3)
    refine Calls.mono (show Calls Tryz.prog 150 _ w _ from c) ?_
    rintro en w' ⟨rfl, hb⟩
    refine ⟨_, ⟨fun _ => 0, fun _ => Option.none⟩, rfl, Chg.of_below hb, fun p g o hp => (by simp [owns] at hp), fun p q g o o2 hp => (by simp [owns] at hp), ?_⟩
    simp only [pack, encL, enc1, Rep]
    exact ⟨by simp, h4⟩
end Go.Proofs.YthndhaolemgbdaaGreatDoor

/- Plain law: decimal digits, the lowest first. -/
namespace Go.Proofs.YthndhaolemgbdaaGreatDoor
open Go.Ax
def pw : Nat → Int
  | 0 => 1
  | n + 1 => 10 * pw n
def val : List Int → Int
  | [] => 0
  | x :: l => x + 10 * val l
def dg (l : List Int) : Bool := l.all fun x => decide (0 ≤ x) && decide (x ≤ 9)
/-! ## the digits of a number -/
def digs (n : Nat) : List Int := if h : n = 0 then [] else ((n % 10 : Nat) : Int) :: digs (n / 10)
termination_by n
decreasing_by omega
theorem digs_zero : digs 0 = [] := by rw [digs]; simp
theorem digs_pos {n : Nat} (h : ¬ n = 0) : digs n = ((n % 10 : Nat) : Int) :: digs (n / 10) := by rw [digs]; simp [h]
theorem digs_len : ∀ (k n : Nat), (n : Int) < pw k → (digs n).length ≤ k
  | 0, n, h => by
    have : n = 0 := by simp only [pw] at h; omega
    subst this; rw [digs_zero]; exact Nat.le_refl _
  | k + 1, n, h => by
    by_cases h0 : n = 0
    · subst h0; rw [digs_zero]; simp
    · have := digs_len k (n / 10) (by simp only [pw] at h; omega)
      rw [digs_pos h0]
      simp only [List.length_cons]
      omega
/-! ## numbers -/
end Go.Proofs.YthndhaolemgbdaaGreatDoor

/- The text of a value: the program's. -/
namespace Go.Proofs.YthndhaolemgbdaaGreatDoor
open Go.Ax
/-! ## two digits to a byte -/
abbrev hexL : Str := [48, 49, 50, 51, 52, 53, 54, 55, 56, 57, 97, 98, 99, 100, 101, 102]
def hex2 (n : Nat) : Str := [hexL.getD (n / 16) 0, hexL.getD (n % 16) 0]
def hexs (s : Str) : Str := s.flatMap fun b => hex2 b.toNat
def hxOk (n : Nat) : Bool := inb (ishr .u8 (n : Int) 4) 16 && inb (iand .u8 (n : Int) 15) 16 && decide ([(UInt8.ofNat ((bat hexL (ishr .u8 (n : Int) 4)) : Int).toNat), (UInt8.ofNat ((bat hexL (iand .u8 (n : Int) 15)) : Int).toNat)] = hex2 n)
theorem hx_all : ((List.range 256).all hxOk) = true := by kernel_rfl
theorem hx (b : UInt8) : inb (ishr .u8 (b.toNat : Int) 4) 16 = true ∧ inb (iand .u8 (b.toNat : Int) 15) 16 = true ∧ [(UInt8.ofNat ((bat hexL (ishr .u8 (b.toNat : Int) 4)) : Int).toNat), (UInt8.ofNat ((bat hexL (iand .u8 (b.toNat : Int) 15)) : Int).toNat)] = hex2 b.toNat := by
  have h := List.all_eq_true.1 hx_all b.toNat (List.mem_range.2 b.toNat_lt)
  simp only [hxOk, Bool.and_eq_true, decide_eq_true_eq] at h
  exact ⟨h.1.1, h.1.2, h.2⟩
theorem hexs_len (s : Str) : (hexs s).length = 2 * s.length := by
  induction s with
  | nil => rfl
  | cons b l ih => simp only [hexs, List.flatMap_cons, hex2, List.length_append, List.length_cons, List.length_nil] at ih ⊢; omega
/-! ## exchequer/value.hex -/
def vhex_0_sg : Sig := ⟨26, [(0, .str), (3, .sl .byte true), (6, .int .i64), (7, .int .i64)], [], [], 0, 0, 0, [], []⟩
abbrev vhex_0_V := Str × List UInt8 × Int × Int
def vhex_0 {R : Type} (rec : vhex_0_V → Option R) (kx : Ex → vhex_0_V → Option R) (v : vhex_0_V) : Option R := match v with
 | (v, v1, v2, v3) =>
  cond (decide (v3 < v2)) (
   chk (inb v3 v.length) (
    chk (inb (ishr .u8 (bat v v3) 4) 16) (
     chk (inb v3 v.length) (
      chk (inb (iand .u8 (bat v v3) 15) 16) (
       chk (decide (v1.length + 2 ≤ maxApp)) (
        rec (v, (v1 ++ [(UInt8.ofNat ((bat [48, 49, 50, 51, 52, 53, 54, 55, 56, 57, 97, 98, 99, 100, 101, 102] (ishr .u8 (bat v v3) 4)) : Int).toNat), (UInt8.ofNat ((bat [48, 49, 50, 51, 52, 53, 54, 55, 56, 57, 97, 98, 99, 100, 101, 102] (iand .u8 (bat v v3) 15)) : Int).toNat)]), v2, (wr .i64 (v3 + 1))))))))) (
   kx (.exit 0) (v, v1, v2, v3))
def vhex_px (R : Type) (k : Nat) : Px R := ⟨ttOf ttL, glT, callT [], callQT [], loopT [(3, loopOr k vhex_0_sg (vhex_0))], tbl []⟩
theorem vhex_0_eq (R : Type) (k : Nat) : ∀ (fr : List Fr) (rec : vhex_0_V → Option R) (kx : Ex → vhex_0_V → Option R) (v : vhex_0_V), round (vhex_px R k) vhex_0_sg (lp Tryz.f151 0) fr rec kx v = vhex_0 rec kx v
  | fr, rec, kx, (v, v1, v2, v3) => by kernel_rfl
def vhex_body (k : Nat) (x : HV [.str]) : Option (HV [.str]) := match x with
 | s =>
  iter (fun rec => vhex_0 rec (fun e vz => match vz with | (_, v5, _, _) => match e with
   | .exit 0 =>
    some v5
   | _ => none)) k (s, [], (s.length : Int), 0)
theorem vhex_eq (k : Nat) : ∀ (x : HV [.str]), runF (vhex_px _ k) Tryz.f151 [.str] [.str] x some = vhex_body k x
  | s => by kernel_rfl
theorem vhex_run (k : Nat) : FnOk Tryz.prog elT glT 151 [.str] [.str] (vhex_body k) := by
  refine fnOk_run Tryz.func151 rfl (by kernel_rfl) follows (by kernel_rfl) (n := 1) (by kernel_rfl) (px := vhex_px _ k) (fun cx hP hel hgl => ?_) (vhex_eq k)
  have hp0 : PxOk cx (vhex_px (HV [.str]) k) := ⟨fun t => by rw [hP, hel]; exact tt_ok ttL_ok t, by rw [hgl]; rfl⟩
  have hc0 : CallOk cx (vhex_px (HV [.str]) k) := callT_ok rfl cfs_nil
  have hq0 : CallQOk cx (vhex_px (HV [.str]) k) := callQT_ok rfl rfl cqfs_nil cwfs_nil
  have hlvhex_0 : LoopOk cx (vhex_px (HV [.str]) k) (lp Tryz.f151 0) := loop_ok hp0 hc0 hq0 (by rw [hP]; exact follows) (k := k) (s := vhex_0_sg) (step := vhex_0) (fun _ _ => by kernel_rfl) (by kernel_rfl) (vhex_0_eq _ k) (loops_in (n := 0) (by kernel_rfl) all0)
  exact ⟨hp0, hc0, hq0, (allS all0 hlvhex_0)⟩
def vhex (s : Str) : Option Str := cond (decide (s.length ≤ 3000)) (some (hexs s)) none
def vhex_F : FT [.str] [.str] := fun x => vhex x
theorem vhex_loop {R : Type} {kx : Ex → vhex_0_V → Option R} {s : Str} {b : Str → Option R} (hs : s.length ≤ 3000) (h2 : ∀ out j, kx (.exit 0) (s, out, (s.length : Int), j) = b out) : ∀ (k i : Nat) (out : Str), i ≤ s.length → s.length - i < k → out.length ≤ 2 * i → iter (fun rec => vhex_0 rec kx) k (s, out, (s.length : Int), (i : Int)) = b (out ++ hexs (s.drop i))
  | 0, i, _, _, h, _ => absurd h (Nat.not_lt_zero _)
  | k + 1, i, out, hi, h, ho => by
    rw [iter_s]
    by_cases hl : i < s.length
    · obtain ⟨h3, h4, h5⟩ := hx (s[i]'hl)
      have hn : ln s.length := by simp only [ln]; omega
      have ih := vhex_loop hs h2 k (i + 1) (out ++ hex2 (s[i]'hl).toNat) (by omega) (by omega) (by simp only [List.length_append, hex2, List.length_cons, List.length_nil]; omega)
      simp only [vhex_0, wr_succ hl hn, bat_nat hl, inb_t hl, h3, h4, h5, ih, h2]
      rw [decide_eq_true (show (i : Int) < (s.length : Int) by omega), decide_eq_true (show out.length + 2 ≤ maxApp by simp only [maxApp]; omega), drop_cons hl]
      simp only [chk, cond_t, hexs, List.flatMap_cons, List.append_assoc]
    · simp only [vhex_0, h2]
      rw [decide_eq_false (show ¬ (i : Int) < (s.length : Int) by omega), List.drop_eq_nil_of_le (by omega)]
      simp [hexs]
theorem vhex_ok : FnOk Tryz.prog elT glT 151 [.str] [.str] vhex_F := .fin 0 vhex_run fun s r hb hx => ⟨3001, by
  simp only [vhex_F, vhex] at hx
  by_cases hs : s.length ≤ 3000
  · rw [decide_eq_true hs] at hx
    simp only [vhex_body]
    exact (vhex_loop (b := some) hs (fun _ _ => rfl) 3001 0 [] (Nat.zero_le _) (by omega) (by simp)).trans hx
  · rw [decide_eq_false hs] at hx
    cases hx⟩
/-! ## decimal -/
def dch (d : Int) : UInt8 := UInt8.ofNat (48 + d).toNat
def txt (l : List Int) : Str := (l.map dch).reverse
def numT (n : Int) : Str := let t := if n = 0 then [48] else txt (digs n.natAbs)
  if n < 0 then 45 :: t else t
theorem txt_cons (d : Int) (l : List Int) : txt (d :: l) = txt l ++ [dch d] := by simp [txt]
theorem dch_u {d : Int} (h : 0 ≤ d ∧ d ≤ 9) : UInt8.ofNat ((wr .u8 (wr .u64 (48 + d))) : Int).toNat = dch d := by
  have e : wr .u8 (wr .u64 (48 + d)) = 48 + d := by
    rw [wru_id (by omega)]
    simp only [wr, IntKind.wrap, IntKind.bits, IntKind.signed]
    simp
    omega
  rw [e]; rfl
theorem txt_len (l : List Int) : (txt l).length = l.length := by simp [txt]
theorem txt_step (n : Int) : txt (digs (n.natAbs / 10)) ++ [dch ((n.natAbs % 10 : Nat) : Int)] = if n = 0 then [48] else txt (digs n.natAbs) := by
  by_cases h0 : n = 0
  · subst h0
    rw [if_pos rfl, show (0 : Int).natAbs / 10 = 0 from rfl, digs_zero]
    rfl
  · rw [if_neg h0, digs_pos (n := n.natAbs) (by omega), txt_cons]
/-! ## exchequer/value.digits -/
def vdigits_0_sg : Sig := ⟨32, [(0, .int .i64), (3, .sl .byte true), (4, .int .u64)], [], [], 0, 0, 0, [], []⟩
abbrev vdigits_0_V := Int × List UInt8 × Int
def vdigits_0 {R : Type} (rec : vdigits_0_V → Option R) (kx : Ex → vdigits_0_V → Option R) (v : vdigits_0_V) : Option R := match v with
 | (v, v1, v2) =>
  cond (decide (0 < v2)) (
   chk (decide (1 + v1.length ≤ maxApp)) (
    rec (v, ([(UInt8.ofNat ((wr .u8 (wr .u64 (48 + (Int.tmod v2 10)))) : Int).toNat)] ++ v1), (wr .u64 (Int.tdiv v2 10))))) (
   kx (.exit 0) (v, v1, v2))
def vdigits_px (R : Type) (k : Nat) : Px R := ⟨ttOf ttL, glT, callT [(170, callOr [.int .i64] [.int .u64] vsize_F)], callQT [], loopT [(3, loopOr k vdigits_0_sg (vdigits_0))], tbl []⟩
theorem vdigits_0_eq (R : Type) (k : Nat) : ∀ (fr : List Fr) (rec : vdigits_0_V → Option R) (kx : Ex → vdigits_0_V → Option R) (v : vdigits_0_V), round (vdigits_px R k) vdigits_0_sg (lp Tryz.f149 0) fr rec kx v = vdigits_0 rec kx v
  | fr, rec, kx, (v, v1, v2) => by kernel_rfl
def vdigits_body (k : Nat) (x : HV [.int .i64]) : Option (HV [.str]) := match x with
 | n =>
  iter (fun rec => vdigits_0 rec (fun e vz => match vz with | (v3, v4, _) => match e with
   | .exit 0 =>
    cond (decide (v3 < 0)) (
     chk (decide ([45].length + v4.length ≤ maxStr)) (
      some ([45] ++ v4))) (
     some v4)
   | _ => none)) k (n, [(UInt8.ofNat ((wr .u8 (wr .u64 (48 + (Int.tmod (vsize n) 10)))) : Int).toNat)], (wr .u64 (Int.tdiv (vsize n) 10)))
theorem vdigits_eq (k : Nat) : ∀ (x : HV [.int .i64]), runF (vdigits_px _ k) Tryz.f149 [.int .i64] [.str] x some = vdigits_body k x
  | n => by kernel_rfl
theorem vdigits_run (k : Nat) : FnOk Tryz.prog elT glT 149 [.int .i64] [.str] (vdigits_body k) := by
  refine fnOk_run Tryz.func149 rfl (by kernel_rfl) follows (by kernel_rfl) (n := 1) (by kernel_rfl) (px := vdigits_px _ k) (fun cx hP hel hgl => ?_) (vdigits_eq k)
  have hp0 : PxOk cx (vdigits_px (HV [.str]) k) := ⟨fun t => by rw [hP, hel]; exact tt_ok ttL_ok t, by rw [hgl]; rfl⟩
  have hc0 : CallOk cx (vdigits_px (HV [.str]) k) := callT_ok rfl (cfs_cons (cf_or (by rw [hP, hel, hgl]; exact vsize_ok) (by kernel_rfl)) cfs_nil)
  have hq0 : CallQOk cx (vdigits_px (HV [.str]) k) := callQT_ok rfl rfl cqfs_nil cwfs_nil
  have hlvdigits_0 : LoopOk cx (vdigits_px (HV [.str]) k) (lp Tryz.f149 0) := loop_ok hp0 hc0 hq0 (by rw [hP]; exact follows) (k := k) (s := vdigits_0_sg) (step := vdigits_0) (fun _ _ => by kernel_rfl) (by kernel_rfl) (vdigits_0_eq _ k) (loops_in (n := 0) (by kernel_rfl) all0)
  exact ⟨hp0, hc0, hq0, (allS all0 hlvdigits_0)⟩
abbrev vdigits (n : Int) : Str := numT n
def vdigits_F : FT [.int .i64] [.str] := fun x => some (vdigits x)
theorem absZ {n : Int} (h : inI n) : vsize n = (n.natAbs : Int) := by
  rw [vsize_z h]
  simp only [absI]
  split <;> omega
theorem vdigits_loop {R : Type} {kx : Ex → vdigits_0_V → Option R} {n : Int} {b : Str → Option R} (h2 : ∀ out x, kx (.exit 0) (n, out, x) = b out) : ∀ (k a : Nat) (out : Str), (a : Int) ≤ 18446744073709551615 → (digs a).length < k → out.length + (digs a).length ≤ 1000 → iter (fun rec => vdigits_0 rec kx) k (n, out, (a : Int)) = b (txt (digs a) ++ out)
  | 0, a, out, _, h, _ => absurd h (Nat.not_lt_zero _)
  | k + 1, a, out, ha, h, ho => by
    rw [iter_s]
    by_cases h0 : a = 0
    · subst h0
      simp only [vdigits_0, h2]
      rw [decide_eq_false (by omega), digs_zero]
      rfl
    · have hd := digs_pos h0
      rw [hd, List.length_cons] at h ho
      have e1 : Int.tmod (a : Int) 10 = ((a % 10 : Nat) : Int) := rfl
      have e2 : wr .u64 (Int.tdiv (a : Int) 10) = ((a / 10 : Nat) : Int) := by
        have : Int.tdiv (a : Int) 10 = ((a / 10 : Nat) : Int) := rfl
        rw [this, wru_id (by omega)]
      have ih := vdigits_loop h2 k (a / 10) ([dch ((a % 10 : Nat) : Int)] ++ out) (by omega) (by omega) (by simp only [List.length_append, List.length_cons, List.length_nil]; omega)
      simp only [vdigits_0, e1, e2, dch_u (show 0 ≤ ((a % 10 : Nat) : Int) ∧ ((a % 10 : Nat) : Int) ≤ 9 by omega), ih]
      rw [decide_eq_true (show (0 : Int) < (a : Int) by omega), decide_eq_true (show 1 + out.length ≤ maxApp by simp only [maxApp]; omega), hd, txt_cons]
      simp [chk]
theorem vdigits_ok : FnOk Tryz.prog elT glT 149 [.int .i64] [.str] vdigits_F := .fin 0 vdigits_run fun n r hb hx => ⟨30, by
  have hb := inK_i64 hb
  simp only [vdigits_F, Option.some.injEq] at hx
  subst hx
  have hl : (digs (n.natAbs / 10)).length ≤ 20 := digs_len 20 _ (by
    simp only [inI] at hb
    have : pw 20 = 100000000000000000000 := by kernel_rfl
    omega)
  have e1 : Int.tmod (n.natAbs : Int) 10 = ((n.natAbs % 10 : Nat) : Int) := rfl
  have e2 : wr .u64 (Int.tdiv (n.natAbs : Int) 10) = ((n.natAbs / 10 : Nat) : Int) := by
    have : Int.tdiv (n.natAbs : Int) 10 = ((n.natAbs / 10 : Nat) : Int) := rfl
    simp only [inI] at hb
    rw [this, wru_id (by omega)]
  simp only [vdigits_body, absZ hb, e1, e2, dch_u (show 0 ≤ ((n.natAbs % 10 : Nat) : Int) ∧ ((n.natAbs % 10 : Nat) : Int) ≤ 9 by omega)]
  refine (vdigits_loop (b := fun out => cond (decide (n < 0)) (chk (decide ([45].length + out.length ≤ maxStr)) (some ([45] ++ out))) (some out)) (fun _ _ => rfl) 30 (n.natAbs / 10) [dch ((n.natAbs % 10 : Nat) : Int)] (by simp only [inI] at hb; omega) (by omega) (by simp only [List.length_cons, List.length_nil]; omega)).trans ?_
  have et := txt_step n
  have hlen : (txt (digs (n.natAbs / 10)) ++ [dch ((n.natAbs % 10 : Nat) : Int)]).length ≤ 21 := by
    rw [List.length_append, txt_len]; simp only [List.length_cons, List.length_nil]; omega
  have hc : decide ([45].length + (txt (digs (n.natAbs / 10)) ++ [dch ((n.natAbs % 10 : Nat) : Int)]).length ≤ maxStr) = true := decide_eq_true (by simp only [List.length_cons, List.length_nil, maxStr]; omega)
  simp only [hc, chk, cond_t]
  rw [et]
  simp only [vdigits, numT]
  by_cases h : n < 0
  · rw [decide_eq_true h, if_pos h]; rfl
  · rw [decide_eq_false h, if_neg h]; rfl⟩
/-! ## a text between signs -/
def quo : Str → Str
  | [] => []
  | b :: l => if b = 39 then 39 :: 39 :: quo l else b :: quo l
theorem quo_len (s : Str) : (quo s).length ≤ 2 * s.length := by
  induction s with
  | nil => simp [quo]
  | cons b l ih =>
    simp only [quo]
    split <;> simp only [List.length_cons] <;> omega
theorem quo_index : ∀ s : Str, (Lib.index s [39] = -1 ∧ quo s = s) ∨ ∃ i : Nat, Lib.index s [39] = (i : Int) ∧ i < s.length ∧ quo s = s.take i ++ [39, 39] ++ quo (s.drop (i + 1))
  | [] => .inl ⟨rfl, rfl⟩
  | b :: l => by
    by_cases h : b = 39
    · subst h
      refine .inr ⟨0, rfl, by simp, by simp [quo]⟩
    · have hp : List.isPrefixOf [39] (b :: l) = false := by
        simp only [List.isPrefixOf, Bool.and_true]
        exact beq_eq_false_iff_ne.2 (Ne.symm h)
      rcases quo_index l with ⟨h1, h2⟩ | ⟨i, h1, h2, h3⟩
      · left
        refine ⟨?_, by simp only [quo, if_neg h, h2]⟩
        unfold Lib.index
        rw [hp, h1]
        rfl
      · right
        refine ⟨i + 1, ?_, by simpa using h2, ?_⟩
        · unfold Lib.index
          rw [hp, h1]
          have : ((i : Int) == -1) = false := beq_eq_false_iff_ne.2 (by omega)
          simp [this]
        · simp only [quo, if_neg h, h3, List.take_succ_cons, List.drop_succ_cons, List.cons_append]
theorem quo_count : ∀ (f : Nat) (s : Str), s.length < f → Lib.replaceK [39] [39, 39] (Lib.countFrom [39] f s) s = quo s
  | 0, s, h => absurd h (Nat.not_lt_zero _)
  | f + 1, s, h => by
    rcases quo_index s with ⟨h1, h2⟩ | ⟨i, h1, h2, h3⟩
    · simp only [Lib.countFrom, h1]
      exact h2.symm
    · have hn : ((i : Int) == -1) = false := beq_eq_false_iff_ne.2 (by omega)
      have ih := quo_count f (s.drop (i + 1)) (by rw [List.length_drop]; omega)
      have e : Lib.countFrom [39] (f + 1) s = Lib.countFrom [39] f (s.drop (i + 1)) + 1 := by
        simp only [Lib.countFrom, h1, hn, Int.toNat_natCast, List.length_cons, List.length_nil]
        simp [Nat.add_comm]
      rw [e, Lib.replaceK_hit _ _ _ _ i h1]
      simp only [List.length_cons, List.length_nil, Nat.zero_add]
      rw [ih, h3]
theorem quo_all (s : Str) : Lib.replaceAll s [39] [39, 39] = quo s := by
  have e : Lib.replaceNum s [39] (-1) = Lib.countFrom [39] (s.length + 1) s := by
    unfold Lib.replaceNum
    rw [if_pos (.inl (by decide))]
    rfl
  have hc := quo_count (s.length + 1) s (by omega)
  rw [← e] at hc
  exact hc
theorem repAll_quo {s : Str} (h : s.length ≤ 3000) : repAll s [39] [39, 39] = some (quo s) := by
  have h1 := Lib.countB_mul_le ⟨#[39]⟩ (by decide) s.length ⟨s.toArray⟩ (Nat.le_refl _)
  have h2 : Lib.count s [39] * 1 ≤ s.length := h1
  have h3 := quo_len s
  simp only [repAll, quo_all]
  rw [decide_eq_true (show s.length < 4294967281 by omega), decide_eq_true (show 1 ≤ ([39] : Str).length by decide), decide_eq_true (show s.length + Lib.count s [39] * ([39, 39] : Str).length ≤ 140737488355328 by simp only [List.length_cons, List.length_nil]; omega), decide_eq_true (show (quo s).length ≤ maxLen by simp only [maxLen]; omega)]
  rfl
/-! ## exchequer/value.Print -/
def vprint_px (R : Type) : Px R := ⟨ttOf ttL, glT, callT [(147, callOr [.sv .val] [.bool] vright_F), (149, callOr [.int .i64] [.str] vdigits_F), (150, callOr [.str, .str, .str] [.str] repAll_F), (151, callOr [.str] [.str] vhex_F)], callQT [], loopT [], tbl []⟩
def vprint_body (x : HV [.sv .val]) : Option (HV [.str]) := match x with
 | v =>
  cond (!(vright v)) (
   some []) (
   cond (decide (v.kind = 2)) (
    chk (inb v.n 2) (
     some (at' .str [[70, 65, 76, 83, 69], [84, 82, 85, 69]] v.n))) (
    cond (decide (v.kind = 3)) (
     some (vdigits v.n)) (
     cond (decide (v.kind = 4)) (
      (repAll v.s [39] [39, 39]).bind fun x =>
       chk (decide ([39].length + x.length ≤ maxStr)) (
        chk (decide (([39] ++ x).length + [39].length ≤ maxStr)) (
         some (([39] ++ x) ++ [39])))) (
      cond (decide (v.kind = 5)) (
       (vhex v.s).bind fun x1 =>
        chk (decide ([120, 39].length + x1.length ≤ maxStr)) (
         chk (decide (([120, 39] ++ x1).length + [39].length ≤ maxStr)) (
          some (([120, 39] ++ x1) ++ [39])))) (
       some [78, 85, 76, 76])))))
theorem vprint_eq : ∀ (x : HV [.sv .val]), runF (vprint_px _) Tryz.f98 [.sv .val] [.str] x some = vprint_body x
  | v => by kernel_rfl
theorem vprint_run : FnOk Tryz.prog elT glT 98 [.sv .val] [.str] (vprint_body) := by
  refine fnOk_run Tryz.func98 rfl (by kernel_rfl) follows (by kernel_rfl) (n := 0) (by kernel_rfl) (px := vprint_px _) (fun cx hP hel hgl => ?_) (vprint_eq)
  have hp0 : PxOk cx (vprint_px (HV [.str])) := ⟨fun t => by rw [hP, hel]; exact tt_ok ttL_ok t, by rw [hgl]; rfl⟩
  have hc0 : CallOk cx (vprint_px (HV [.str])) := callT_ok rfl (cfs_cons (cf_or (by rw [hP, hel, hgl]; exact vright_ok) (by kernel_rfl)) (cfs_cons (cf_or (by rw [hP, hel, hgl]; exact vdigits_ok) (by kernel_rfl)) (cfs_cons (cf_or (by rw [hP, hel, hgl]; exact repAll_ok) (by kernel_rfl)) (cfs_cons (cf_or (by rw [hP, hel, hgl]; exact vhex_ok) (by kernel_rfl)) cfs_nil))))
  have hq0 : CallQOk cx (vprint_px (HV [.str])) := callQT_ok rfl rfl cqfs_nil cwfs_nil
  exact ⟨hp0, hc0, hq0, all0⟩
def vprint (v : Val) : Str := cond (vright v) (if v.kind = 2 then (if v.n = 0 then [70, 65, 76, 83, 69] else [84, 82, 85, 69]) else if v.kind = 3 then numT v.n else if v.kind = 4 then 39 :: (quo v.s ++ [39]) else if v.kind = 5 then 120 :: 39 :: (hexs v.s ++ [39]) else [78, 85, 76, 76]) []
def vprint_F : FT [.sv .val] [.str] := fun x => some (vprint x)
theorem right_len {v : Val} (h : vright v = true) (hk : v.kind = 4 ∨ v.kind = 5) : v.s.length ≤ 1000 := by
  rcases hk with h4 | h5
  · simp [vright, h4] at h
    omega
  · simp [vright, h5] at h
    omega
theorem right_bool {v : Val} (h : vright v = true) (hk : v.kind = 2) : v.n = 0 ∨ v.n = 1 := by
  by_cases h0 : v.n = 0
  · exact .inl h0
  · by_cases h1 : v.n = 1
    · exact .inr h1
    · simp [vright, hk, h0, h1] at h
theorem vprint_ok : FnOk Tryz.prog elT glT 98 [.sv .val] [.str] vprint_F := .fin0 vprint_run fun v r _ hx => by
  simp only [vprint_F, Option.some.injEq] at hx
  subst hx
  simp only [vprint_body, vprint]
  cases hr : vright v with
  | false => rfl
  | true =>
    simp only [Bool.not_true, cond_f, cond_t]
    by_cases k2 : v.kind = 2
    · rw [decide_eq_true k2, if_pos k2]
      rcases right_bool hr k2 with h | h <;> rw [h] <;> rfl
    · rw [decide_eq_false k2, if_neg k2]
      by_cases k3 : v.kind = 3
      · rw [decide_eq_true k3, if_pos k3]; rfl
      · rw [decide_eq_false k3, if_neg k3]
        by_cases k4 : v.kind = 4
        · have hl := right_len hr (.inl k4)
          have hq := quo_len v.s
          rw [decide_eq_true k4, if_pos k4]
          simp only [cond_t, cond_f, repAll_quo (show v.s.length ≤ 3000 by omega), Option.bind_some]
          refine (chk_t (decide_eq_true ?_)).trans ((chk_t (decide_eq_true ?_)).trans rfl)
          · simp only [List.length_cons, List.length_nil, maxStr]; omega
          · simp only [List.length_append, List.length_cons, List.length_nil, maxStr]; omega
        · rw [decide_eq_false k4, if_neg k4]
          by_cases k5 : v.kind = 5
          · have hl := right_len hr (.inr k5)
            have hh := hexs_len v.s
            have hv : vhex v.s = some (hexs v.s) := by simp only [vhex]; rw [decide_eq_true (by omega)]; rfl
            rw [decide_eq_true k5, if_pos k5]
            simp only [cond_t, cond_f, hv, Option.bind_some]
            refine (chk_t (decide_eq_true ?_)).trans ((chk_t (decide_eq_true ?_)).trans rfl)
            · simp only [List.length_cons, List.length_nil, maxStr]; omega
            · simp only [List.length_append, List.length_cons, List.length_nil, maxStr]; omega
          · rw [decide_eq_false k5, if_neg k5]; rfl
end Go.Proofs.YthndhaolemgbdaaGreatDoor

/- How many expressions an expression of a kind is made of. -/
namespace Go.Proofs.YthndhaolemgbdaaGreatDoor
open Go.Ax
/-! ## exchequer/ast.parts -/
def parts_px (R : Type) : Px R := ⟨ttOf ttL, glT, callT [], callQT [], loopT [], tbl []⟩
def parts_body (x : HV [.int .i64]) : Option (HV [.int .i64]) := match x with
 | kind =>
  let j1 := fun (p1 : Bool) =>
   cond (p1) (
    some 0) (
    let j := fun (p5 : Bool) =>
     cond (p5) (
      some 1) (
      cond (!decide ((mget signsL kind) = [])) (
       some 2) (
       some (-1)))
    cond (decide (kind = 3)) (
     j true) (
     cond (decide (kind = 15)) (
      j true) (
      j (decide (kind = 16)))))
  cond (decide (kind = 1)) (
   j1 true) (
   j1 (decide (kind = 2)))
theorem parts_eq : ∀ (x : HV [.int .i64]), runF (parts_px _) Tryz.f94 [.int .i64] [.int .i64] x some = parts_body x
  | kind => by kernel_rfl
theorem parts_run : FnOk Tryz.prog elT glT 94 [.int .i64] [.int .i64] (parts_body) := by
  refine fnOk_run Tryz.func94 rfl (by kernel_rfl) follows (by kernel_rfl) (n := 0) (by kernel_rfl) (px := parts_px _) (fun cx hP hel hgl => ?_) (parts_eq)
  have hp0 : PxOk cx (parts_px (HV [.int .i64])) := ⟨fun t => by rw [hP, hel]; exact tt_ok ttL_ok t, by rw [hgl]; rfl⟩
  have hc0 : CallOk cx (parts_px (HV [.int .i64])) := callT_ok rfl cfs_nil
  have hq0 : CallQOk cx (parts_px (HV [.int .i64])) := callQT_ok rfl rfl cqfs_nil cwfs_nil
  exact ⟨hp0, hc0, hq0, all0⟩
def parts (kind : Int) : Int :=
  let j1 := fun (p1 : Bool) =>
   cond (p1) (
    0) (
    let j := fun (p5 : Bool) =>
     cond (p5) (
      1) (
      cond (!decide ((mget signsL kind) = [])) (
       2) (
       (-1)))
    cond (decide (kind = 3)) (
     j true) (
     cond (decide (kind = 15)) (
      j true) (
      j (decide (kind = 16)))))
  cond (decide (kind = 1)) (
   j1 true) (
   j1 (decide (kind = 2)))
theorem parts_tot (x : HV [.int .i64]) : parts_body x = some (parts x) := by
  first
    | exact rfl
    | simp only [parts_body, parts, cond_some]
def parts_F : FT [.int .i64] [.int .i64] := fun x => some (parts x)
theorem parts_ok : FnOk Tryz.prog elT glT 94 [.int .i64] [.int .i64] parts_F := .fin0 parts_run fun x _ _ hx => (parts_tot x).trans hx
end Go.Proofs.YthndhaolemgbdaaGreatDoor

/- Functions that call themselves: whether an expression may be, its kind, its value, how much there is in it. -/
namespace Go.Proofs.YthndhaolemgbdaaGreatDoor
open Go.Ax
mutual
def esize : Xpr → Nat
  | .mk _ _ _ l => 1 + esizes l
def esizes : List Xpr → Nat
  | [] => 0
  | x :: l => 1 + esize x + esizes l
end
theorem esize_mem : ∀ {l : List Xpr} {x : Xpr}, x ∈ l → esize x < esizes l
  | y :: l, x, h => by
    simp only [List.mem_cons] at h
    simp only [esizes]
    rcases h with rfl | h
    · omega
    · have := esize_mem h; omega
theorem esizes_len : ∀ (l : List Xpr), l.length ≤ esizes l
  | [] => by simp
  | x :: l => by have := esizes_len l; simp only [esizes, List.length_cons]; omega
theorem esize_pos (e : Xpr) : 0 < esize e := by cases e; simp only [esize]; omega
theorem esize_eq (e : Xpr) : esize e = 1 + esizes e.l := by cases e; simp only [esize, Xpr.l]
theorem bd_ls {e : Xpr} (h : BdExpr e) : ln e.l.length ∧ ∀ x, x ∈ e.l → BdExpr x := by
  obtain ⟨_, _, _, _, _, _, _, h4, h5⟩ := h
  exact ⟨h4, h5⟩
/-! ## may it be? -/
/-! ## exchequer/ast.right -/
def eright_0_sg : Sig := ⟨19, [(0, .sl .expr false), (4, .int .i64), (7, .int .i64), (8, .int .i64)], [(1, .fn 97 [.ptr 1 0])], [(1, .cells [.int .i64])], 80, 80, 400, [], []⟩
abbrev eright_0_V := List Xpr × Int × Int × Int × Int
def eright_0 {R : Type} (rf : FT [.sv .expr, .int .i64] [.bool]) (rec : eright_0_V → Option R) (kx : Ex → eright_0_V → Option R) (v : eright_0_V) : Option R := match v with
 | (v, v1, v2, v3, w) =>
  cond (decide (v3 < v2)) (
   chk (inb v3 v.length) (
    (rf ((at' .expr v v3), (wr .i64 (w - 1)))).bind fun x =>
     cond (!x) (
      kx .ret (v, v3, v2, v3, w)) (
      rec (v, v1, v2, (wr .i64 (v3 + 1)), w)))) (
   kx (.exit 0) (v, v1, v2, v3, w))
def eright_pxi0i0i0 (R : Type) (_k : Nat) (rf : FT [.sv .expr, .int .i64] [.bool]) : Px R := ⟨ttOf ttL, glT, callT [(39, callOr [.sv .expr, .int .i64] [.bool] rf)], callQT [], loopT [], tbl []⟩
noncomputable def eright_pxi0i0 (R : Type) (k : Nat) (rf : FT [.sv .expr, .int .i64] [.bool]) : Px R := ⟨ttOf ttL, glT, callT [(97, callRun 120 600 (eright_pxi0i0i0 R k rf) Tryz.f97)], callQT [], loopT [(2, loopOr k eright_0_sg (eright_0 rf))], tbl []⟩
noncomputable def eright_pxi0 (R : Type) (k : Nat) (rf : FT [.sv .expr, .int .i64] [.bool]) : Px R := ⟨ttOf ttL, glT, callT [(148, callRun 80 400 (eright_pxi0i0 R k rf) Tryz.f148)], callQT [], loopT [], tbl []⟩
noncomputable def eright_px (R : Type) (k : Nat) (rf : FT [.sv .expr, .int .i64] [.bool]) : Px R := ⟨ttOf ttL, glT, callT [(95, callOr [.sv .val] [.int .i64] vcheck_F), (63, callOr [.str] [.bool] lname_F), (96, callRun 40 200 (eright_pxi0 R k rf) Tryz.f96)], callQT [(94, callOrQ [.int .i64] [.int .i64] parts_F)], loopT [], tbl []⟩
theorem eright_0_eq (R : Type) (k : Nat) (rf : FT [.sv .expr, .int .i64] [.bool]) : ∀ (fr : List Fr) (rec : eright_0_V → Option R) (kx : Ex → eright_0_V → Option R) (v : eright_0_V), round (eright_pxi0i0 R k rf) eright_0_sg (lp Tryz.f148 0) fr rec kx v = eright_0 rf rec kx v
  | fr, rec, kx, (v, v1, v2, v3, w) => by kernel_rfl
def eright_body (k : Nat) (rf : FT [.sv .expr, .int .i64] [.bool]) (x : HV [.sv .expr, .int .i64]) : Option (HV [.bool]) := match x with
 | (e, most) =>
  cond (decide (most = 0)) (
   some false) (
   cond (!decide ((e.l.length : Int) = (parts e.kind))) (
    some false) (
    let j2 := fun (_ : Unit) =>
     let j1 := fun (_ : Unit) =>
      iter (fun rec => eright_0 rf rec (fun e vz => match vz with | (_, v5, _, _, _) => match e with
       | .ret =>
        some (!(decide (0 ≤ v5)))
       | .exit 0 =>
        some true
       | _ => none)) k (e.l, 0, (e.l.length : Int), 0, most)
     let j := fun (p5 : Bool) =>
      cond (p5) (
       some false) (
       cond (!decide (e.kind = 2)) (
        cond (!decide (e.name = [])) (
         some false) (
         j1 ())) (
        j1 ()))
     cond (decide (e.kind = 2)) (
      j (!(lname e.name))) (
      j false)
    cond (decide (e.kind = 1)) (
     cond (!decide ((vcheck e.v) = 0)) (
      some false) (
      cond (decide (e.v.kind = 3)) (
       cond (decide (e.v.n < 0)) (
        some false) (
        j2 ())) (
       j2 ()))) (
     cond (!decide (e.v = (Val.mk 0 0 []))) (
      some false) (
      j2 ()))))
theorem eright_eq (k : Nat) (rf : FT [.sv .expr, .int .i64] [.bool]) : ∀ (x : HV [.sv .expr, .int .i64]), runF (eright_px _ k rf) Tryz.f39 [.sv .expr, .int .i64] [.bool] x some = eright_body k rf x
  | (e, most) => by kernel_rfl
theorem eright_run (k : Nat) (rf : FT [.sv .expr, .int .i64] [.bool]) (hrf : FnOk Tryz.prog elT glT 39 [.sv .expr, .int .i64] [.bool] rf) : FnOk Tryz.prog elT glT 39 [.sv .expr, .int .i64] [.bool] (eright_body k rf) := by
  refine fnOk_run Tryz.func39 rfl (by kernel_rfl) follows (by kernel_rfl) (n := 0) (by kernel_rfl) (px := eright_px _ k rf) (fun cx hP hel hgl => ?_) (eright_eq k rf)
  have hp3 : PxOk cx (eright_pxi0i0i0 (HV [.bool]) k rf) := ⟨fun t => by rw [hP, hel]; exact tt_ok ttL_ok t, by rw [hgl]; rfl⟩
  have hc3 : CallOk cx (eright_pxi0i0i0 (HV [.bool]) k rf) := callT_ok rfl (cfs_cons (cf_or (by rw [hP, hel, hgl]; exact hrf) (by kernel_rfl)) cfs_nil)
  have hq3 : CallQOk cx (eright_pxi0i0i0 (HV [.bool]) k rf) := callQT_ok rfl rfl cqfs_nil cwfs_nil
  have hp2 : PxOk cx (eright_pxi0i0 (HV [.bool]) k rf) := ⟨fun t => by rw [hP, hel]; exact tt_ok ttL_ok t, by rw [hgl]; rfl⟩
  have hc2 : CallOk cx (eright_pxi0i0 (HV [.bool]) k rf) := callT_ok rfl (cfs_cons (cf_run hp3 hc3 hq3 (by rw [hP]; exact follows) (by rw [hP]; exact Tryz.func97) rfl (by kernel_rfl) (by kernel_rfl) (n := 0) (by kernel_rfl) (all0)) cfs_nil)
  have hq2 : CallQOk cx (eright_pxi0i0 (HV [.bool]) k rf) := callQT_ok rfl rfl cqfs_nil cwfs_nil
  have hleright_0 : LoopOk cx (eright_pxi0i0 (HV [.bool]) k rf) (lp Tryz.f148 0) := loop_ok hp2 hc2 hq2 (by rw [hP]; exact follows) (k := k) (s := eright_0_sg) (step := eright_0 rf) (fun _ _ => by kernel_rfl) (by kernel_rfl) (eright_0_eq _ k rf) (loops_in (n := 0) (by kernel_rfl) all0)
  have hp1 : PxOk cx (eright_pxi0 (HV [.bool]) k rf) := ⟨fun t => by rw [hP, hel]; exact tt_ok ttL_ok t, by rw [hgl]; rfl⟩
  have hc1 : CallOk cx (eright_pxi0 (HV [.bool]) k rf) := callT_ok rfl (cfs_cons (cf_run hp2 hc2 hq2 (by rw [hP]; exact follows) (by rw [hP]; exact Tryz.func148) rfl (by kernel_rfl) (by kernel_rfl) (n := 1) (by kernel_rfl) ((allS all0 hleright_0))) cfs_nil)
  have hq1 : CallQOk cx (eright_pxi0 (HV [.bool]) k rf) := callQT_ok rfl rfl cqfs_nil cwfs_nil
  have hp0 : PxOk cx (eright_px (HV [.bool]) k rf) := ⟨fun t => by rw [hP, hel]; exact tt_ok ttL_ok t, by rw [hgl]; rfl⟩
  have hc0 : CallOk cx (eright_px (HV [.bool]) k rf) := callT_ok rfl (cfs_cons (cf_or (by rw [hP, hel, hgl]; exact vcheck_ok) (by kernel_rfl)) (cfs_cons (cf_or (by rw [hP, hel, hgl]; exact lname_ok) (by kernel_rfl)) (cfs_cons (cf_run hp1 hc1 hq1 (by rw [hP]; exact follows) (by rw [hP]; exact Tryz.func96) rfl (by kernel_rfl) (by kernel_rfl) (n := 0) (by kernel_rfl) (all0)) cfs_nil)))
  have hq0 : CallQOk cx (eright_px (HV [.bool]) k rf) := callQT_ok rfl rfl (cqfs_cons (cqf_or (by rw [hP, hel, hgl]; exact parts_ok) (by kernel_rfl)) cqfs_nil) cwfs_nil
  exact ⟨hp0, hc0, hq0, all0⟩
def eok (k : Int) (v : Val) (nm : Str) : Bool := cond (decide (k = 1)) (decide (vcheck v = 0) && !(decide (v.kind = 3) && decide (v.n < 0))) (decide (v = ⟨0, 0, []⟩)) && cond (decide (k = 2)) (lname nm) (decide (nm = []))
mutual
def eright : Xpr → Int → Bool
  | .mk k v nm l, m => !decide (m = 0) && decide ((l.length : Int) = parts k) && eok k v nm && erights l (wr .i64 (m - 1))
def erights : List Xpr → Int → Bool
  | [], _ => true
  | x :: l, m => eright x m && erights l m
end
def eright_F : FT [.sv .expr, .int .i64] [.bool] := fun x => some (eright x.1 x.2)
theorem eright_loop {R : Type} {rf : FT [.sv .expr, .int .i64] [.bool]} {kx : Ex → eright_0_V → Option R} {l : List Xpr} {m : Int} {a b : Option R} (hn : ln l.length) (hrf : ∀ x, x ∈ l → rf (x, wr .i64 (m - 1)) = some (eright x (wr .i64 (m - 1)))) (h1 : ∀ (j : Nat), kx .ret (l, (j : Int), (l.length : Int), (j : Int), m) = a) (h2 : ∀ q j, kx (.exit 0) (l, q, (l.length : Int), j, m) = b) : ∀ (k i : Nat) q, i ≤ l.length → l.length - i < k → iter (fun rec => eright_0 rf rec kx) k (l, q, (l.length : Int), (i : Int), m) = cond (erights (l.drop i) (wr .i64 (m - 1))) b a
  | 0, i, q, _, h => by omega
  | k + 1, i, q, hi, h => by
    rw [iter_s]
    by_cases hl : i < l.length
    · have ih := eright_loop hn hrf h1 h2 k (i + 1) q (by omega) (by omega)
      simp only [eright_0, wr_succ hl hn, ih, h1, drop_cons hl, at_nat (c := .expr) hl, inb_t hl, chk, cond_t, Bool.cond_decide, erights, hrf _ (List.getElem_mem hl), Option.bind_some]
      rw [if_pos (by omega)]
      cases eright l[i] (wr .i64 (m - 1)) <;> rfl
    · simp only [eright_0, h2, Bool.cond_decide]
      rw [if_neg (by omega), List.drop_eq_nil_of_le (by omega)]
      rfl
theorem eright_un (e : Xpr) (m : Int) : eright e m = (!decide (m = 0) && decide ((e.l.length : Int) = parts e.kind) && eok e.kind e.v e.name && erights e.l (wr .i64 (m - 1))) := by
  cases e
  simp only [eright]
  rfl
theorem eright_all (k : Nat) : ∀ (n : Nat) (e : Xpr) (m : Int), BdExpr e → esize e ≤ n → esize e ≤ k → iter (eright_body k) n (e, m) = some (eright e m)
  | 0, e, m, _, h, _ => by have := esize_pos e; omega
  | n + 1, e, m, hb, h, hk => by
    obtain ⟨hb4, hb5⟩ := bd_ls hb
    rw [esize_eq] at h hk
    have hl := esizes_len e.l
    have hrf : ∀ x, x ∈ e.l → ∀ m, iter (eright_body k) n (x, m) = some (eright x m) := fun x hx m => eright_all k n x m (hb5 x hx) (by have := esize_mem hx; omega) (by have := esize_mem hx; omega)
    have hloop := eright_loop (R := Bool) (rf := iter (eright_body k) n) (l := e.l) (m := m) (a := some false) (b := some true) (kx := fun e v => match v with
      | (_, v5, _, _, _) => match e with
        | .ret => some (!(decide (0 ≤ v5)))
        | .exit 0 => some true
        | _ => none) hb4 (fun x hx => hrf x hx _) (fun j => by simp) (fun _ _ => rfl) k 0 0 (Nat.zero_le _) (by omega)
    have e0 : ((0 : Nat) : Int) = 0 := rfl
    rw [e0] at hloop
    rw [iter_s, eright_un]
    simp only [eright_body] at hloop ⊢
    rw [hloop]
    simp only [List.drop_zero, eok]
    by_cases hm : m = 0
    · simp [hm]
    · rw [decide_eq_false hm]
      simp only [cond_f, Bool.not_false, Bool.true_and]
      by_cases hp : (e.l.length : Int) = parts e.kind
      · rw [decide_eq_true hp]
        by_cases h1 : e.kind = 1
        · have h2 : ¬ e.kind = 2 := by omega
          rw [decide_eq_true h1, decide_eq_false h2]
          simp only [cond_t, cond_f, Bool.not_false, Bool.not_true, Bool.true_and]
          cases decide (vcheck e.v = 0) <;> cases decide (e.v.kind = 3) <;> cases decide (e.v.n < 0) <;> cases decide (e.name = []) <;> cases erights e.l (wr .i64 (m - 1)) <;> rfl
        · rw [decide_eq_false h1]
          simp only [cond_f, Bool.not_true, Bool.true_and]
          cases decide (e.v = Val.mk 0 0 []) <;> cases decide (e.kind = 2) <;> cases decide (e.name = []) <;> cases lname e.name <;> cases erights e.l (wr .i64 (m - 1)) <;> rfl
      · rw [decide_eq_false hp]; rfl
theorem eright_ok : FnOk Tryz.prog elT glT 39 [.sv .expr, .int .i64] [.bool] eright_F := by
  refine .fin (ι := Nat) 0 (F := fun n => iter (eright_body n) n) (fun n => FnOk.rec' (Sx.enters_of Tryz.func39 rfl rfl) (fun rf hrf => eright_run n rf hrf) n) fun (e, m) r hb hx => ⟨esize e, ?_⟩
  exact (eright_all (esize e) (esize e) e m hb.1 (Nat.le_refl _) (Nat.le_refl _)).trans hx
/-! ## exchequer/ast.Expr -/
def aexpr_px (R : Type) : Px R := ⟨ttOf ttL, glT, callT [(39, callOr [.sv .expr, .int .i64] [.bool] eright_F)], callQT [], loopT [], tbl []⟩
def aexpr_body (x : HV [.sv .expr]) : Option (HV [.int .i64]) := match x with
 | e =>
  cond (!(eright e 30)) (
   some 2) (
   some 0)
theorem aexpr_eq : ∀ (x : HV [.sv .expr]), runF (aexpr_px _) Tryz.f18 [.sv .expr] [.int .i64] x some = aexpr_body x
  | e => by kernel_rfl
theorem aexpr_run : FnOk Tryz.prog elT glT 18 [.sv .expr] [.int .i64] (aexpr_body) := by
  refine fnOk_run Tryz.func18 rfl (by kernel_rfl) follows (by kernel_rfl) (n := 0) (by kernel_rfl) (px := aexpr_px _) (fun cx hP hel hgl => ?_) (aexpr_eq)
  have hp0 : PxOk cx (aexpr_px (HV [.int .i64])) := ⟨fun t => by rw [hP, hel]; exact tt_ok ttL_ok t, by rw [hgl]; rfl⟩
  have hc0 : CallOk cx (aexpr_px (HV [.int .i64])) := callT_ok rfl (cfs_cons (cf_or (by rw [hP, hel, hgl]; exact eright_ok) (by kernel_rfl)) cfs_nil)
  have hq0 : CallQOk cx (aexpr_px (HV [.int .i64])) := callQT_ok rfl rfl cqfs_nil cwfs_nil
  exact ⟨hp0, hc0, hq0, all0⟩
def aexpr (e : Xpr) : Int :=
  cond (!(eright e 30)) (
   2) (
   0)
theorem aexpr_tot (x : HV [.sv .expr]) : aexpr_body x = some (aexpr x) := by
  first
    | exact rfl
    | simp only [aexpr_body, aexpr, cond_some]
def aexpr_F : FT [.sv .expr] [.int .i64] := fun x => some (aexpr x)
theorem aexpr_ok : FnOk Tryz.prog elT glT 18 [.sv .expr] [.int .i64] aexpr_F := .fin0 aexpr_run fun x _ _ hx => (aexpr_tot x).trans hx
/-! ## how much is in it -/
/-! ## exchequer/exchequerref13.Much -/
end Go.Proofs.YthndhaolemgbdaaGreatDoor

/- Expressions: are two the same; the names in one. -/
namespace Go.Proofs.YthndhaolemgbdaaGreatDoor
open Go.Ax
/-! ## the same? -/
mutual
def xsame : Xpr → Xpr → Bool
  | .mk k v n l, .mk k' v' n' l' => decide (k = k') && decide (v = v') && decide (n = n') && xsames l l'
def xsames : List Xpr → List Xpr → Bool
  | [], [] => true
  | x :: l, y :: m => xsame x y && xsames l m
  | _, _ => false
end
mutual
theorem xsame_iff : ∀ a b : Xpr, xsame a b = true ↔ a = b
  | .mk k v n l, .mk k' v' n' l' => by
    simp only [xsame, Bool.and_eq_true, decide_eq_true_eq, xsames_iff l l', Xpr.mk.injEq]
    constructor
    · rintro ⟨⟨⟨h1, h2⟩, h3⟩, h4⟩; exact ⟨h1, h2, h3, h4⟩
    · rintro ⟨h1, h2, h3, h4⟩; exact ⟨⟨⟨h1, h2⟩, h3⟩, h4⟩
theorem xsames_iff : ∀ a b : List Xpr, xsames a b = true ↔ a = b
  | [], [] => by simp [xsames]
  | x :: l, y :: m => by simp only [xsames, Bool.and_eq_true, xsame_iff x y, xsames_iff l m, List.cons.injEq]
  | [], _ :: _ => by simp [xsames]
  | _ :: _, [] => by simp [xsames]
end
instance : DecidableEq Xpr := fun a b => decidable_of_iff (xsame a b = true) (xsame_iff a b)
theorem xsame_dec (a b : Xpr) : xsame a b = decide (a = b) := by
  rw [Bool.eq_iff_iff, xsame_iff, decide_eq_true_eq]
theorem xsames_len {a b : List Xpr} (h : xsames a b = true) : a.length = b.length := by rw [(xsames_iff a b).1 h]
theorem xsame_un (a b : Xpr) : xsame a b = (decide (a.kind = b.kind) && decide (a.v = b.v) && decide (a.name = b.name) && xsames a.l b.l) := by
  cases a; cases b
  simp only [xsame]
  rfl
/-! ## exchequer/ast.SameExpr -/
def asame_0_sg : Sig := ⟨32, [(1, .sl .expr false), (6, .bool), (15, .sl .expr false), (16, .int .i64), (17, .int .i64)], [(2, .fn 20 [])], [], 40, 40, 200, [], []⟩
abbrev asame_0_V := List Xpr × Bool × List Xpr × Int × Int
def asame_0 {R : Type} (rf : FT [.sv .expr, .sv .expr] [.bool]) (rec : asame_0_V → Option R) (kx : Ex → asame_0_V → Option R) (v : asame_0_V) : Option R := match v with
 | (v, v1, v2, v3, v4) =>
  cond (decide (v4 < v3)) (
   chk (inb v4 v2.length) (
    chk (inb v4 v.length) (
     (rf ((at' .expr v2 v4), (at' .expr v v4))).bind fun x =>
      cond (!x) (
       kx .ret (v, false, v2, v3, v4)) (
       rec (v, v1, v2, v3, (wr .i64 (v4 + 1))))))) (
   kx (.exit 0) (v, v1, v2, v3, v4))
def asame_pxi0 (R : Type) (k : Nat) (rf : FT [.sv .expr, .sv .expr] [.bool]) : Px R := ⟨ttOf ttL, glT, callT [(20, callOr [.sv .expr, .sv .expr] [.bool] rf)], callQT [], loopT [(4, loopOr k asame_0_sg (asame_0 rf))], tbl []⟩
noncomputable def asame_px (R : Type) (k : Nat) (rf : FT [.sv .expr, .sv .expr] [.bool]) : Px R := ⟨ttOf ttL, glT, callT [(47, callRun 40 200 (asame_pxi0 R k rf) Tryz.f47)], callQT [], loopT [], tbl []⟩
theorem asame_0_eq (R : Type) (k : Nat) (rf : FT [.sv .expr, .sv .expr] [.bool]) : ∀ (fr : List Fr) (rec : asame_0_V → Option R) (kx : Ex → asame_0_V → Option R) (v : asame_0_V), round (asame_pxi0 R k rf) asame_0_sg (lp Tryz.f47 0) fr rec kx v = asame_0 rf rec kx v
  | fr, rec, kx, (v, v1, v2, v3, v4) => by kernel_rfl
def asame_body (k : Nat) (rf : FT [.sv .expr, .sv .expr] [.bool]) (x : HV [.sv .expr, .sv .expr]) : Option (HV [.bool]) := match x with
 | (a, b) =>
  let j1 := fun (p : Bool) =>
   let j := fun (p1 : Bool) =>
    cond (p1) (
     cond (!decide ((a.l.length : Int) = (b.l.length : Int))) (
      some false) (
      iter (fun rec => asame_0 rf rec (fun e vz => match vz with | (_, v6, _, _, _) => match e with
       | .ret =>
        some v6
       | .exit 0 =>
        some true
       | _ => none)) k (b.l, false, a.l, (a.l.length : Int), 0))) (
     some false)
   cond (p) (
    j (decide (a.name = b.name))) (
    j false)
  cond (decide (a.kind = b.kind)) (
   j1 (decide (a.v = b.v))) (
   j1 false)
theorem asame_eq (k : Nat) (rf : FT [.sv .expr, .sv .expr] [.bool]) : ∀ (x : HV [.sv .expr, .sv .expr]), runF (asame_px _ k rf) Tryz.f20 [.sv .expr, .sv .expr] [.bool] x some = asame_body k rf x
  | (a, b) => by kernel_rfl
theorem asame_run (k : Nat) (rf : FT [.sv .expr, .sv .expr] [.bool]) (hrf : FnOk Tryz.prog elT glT 20 [.sv .expr, .sv .expr] [.bool] rf) : FnOk Tryz.prog elT glT 20 [.sv .expr, .sv .expr] [.bool] (asame_body k rf) := by
  refine fnOk_run Tryz.func20 rfl (by kernel_rfl) follows (by kernel_rfl) (n := 0) (by kernel_rfl) (px := asame_px _ k rf) (fun cx hP hel hgl => ?_) (asame_eq k rf)
  have hp1 : PxOk cx (asame_pxi0 (HV [.bool]) k rf) := ⟨fun t => by rw [hP, hel]; exact tt_ok ttL_ok t, by rw [hgl]; rfl⟩
  have hc1 : CallOk cx (asame_pxi0 (HV [.bool]) k rf) := callT_ok rfl (cfs_cons (cf_or (by rw [hP, hel, hgl]; exact hrf) (by kernel_rfl)) cfs_nil)
  have hq1 : CallQOk cx (asame_pxi0 (HV [.bool]) k rf) := callQT_ok rfl rfl cqfs_nil cwfs_nil
  have hlasame_0 : LoopOk cx (asame_pxi0 (HV [.bool]) k rf) (lp Tryz.f47 0) := loop_ok hp1 hc1 hq1 (by rw [hP]; exact follows) (k := k) (s := asame_0_sg) (step := asame_0 rf) (fun _ _ => by kernel_rfl) (by kernel_rfl) (asame_0_eq _ k rf) (loops_in (n := 0) (by kernel_rfl) all0)
  have hp0 : PxOk cx (asame_px (HV [.bool]) k rf) := ⟨fun t => by rw [hP, hel]; exact tt_ok ttL_ok t, by rw [hgl]; rfl⟩
  have hc0 : CallOk cx (asame_px (HV [.bool]) k rf) := callT_ok rfl (cfs_cons (cf_run hp1 hc1 hq1 (by rw [hP]; exact follows) (by rw [hP]; exact Tryz.func47) rfl (by kernel_rfl) (by kernel_rfl) (n := 1) (by kernel_rfl) ((allS all0 hlasame_0))) cfs_nil)
  have hq0 : CallQOk cx (asame_px (HV [.bool]) k rf) := callQT_ok rfl rfl cqfs_nil cwfs_nil
  exact ⟨hp0, hc0, hq0, all0⟩
def asame (a b : Xpr) : Bool := xsame a b
def asame_F : FT [.sv .expr, .sv .expr] [.bool] := fun x => some (asame x.1 x.2)
theorem asame_loop {R : Type} {rf : FT [.sv .expr, .sv .expr] [.bool]} {kx : Ex → asame_0_V → Option R} {l m : List Xpr} {c : Bool → Option R} (hn : ln l.length) (hm : l.length = m.length) (hrf : ∀ x, x ∈ l → ∀ y, y ∈ m → rf (x, y) = some (xsame x y))
    (h1 : ∀ i, kx .ret (m, false, l, (l.length : Int), i) = c false) (h2 : ∀ q i, kx (.exit 0) (m, q, l, (l.length : Int), i) = c true) (k : Nat) (hk : l.length < k) : iter (fun rec => asame_0 rf rec kx) k (m, false, l, (l.length : Int), 0) = c (xsames l m) := by
  refine (iter_ind0 l.length (fun i => (m, false, l, (l.length : Int), (i : Int))) (fun i => c (xsames (l.drop i) (m.drop i))) (fun i hi rec hr => ?_) (fun rec => ?_) k 0 (Nat.zero_le _) (by omega)).trans (by rw [List.drop_zero, List.drop_zero])
  · have hi2 : i < m.length := by omega
    simp only [asame_0, lt_t hi, cond_t, inb_t hi, inb_t hi2, chk, at_nat (c := .expr) hi, at_nat (c := .expr) hi2, hrf _ (List.getElem_mem hi) _ (List.getElem_mem hi2), Option.bind_some, wr_succ hi hn, hr, h1, drop_cons hi, drop_cons hi2, xsames]
    cases xsame l[i] m[i] <;> rfl
  · simp only [asame_0, lt_n, cond_f, h2]
    rw [List.drop_eq_nil_of_le (Nat.le_refl _), List.drop_eq_nil_of_le (by omega)]
    rfl
theorem asame_all (k : Nat) : ∀ (n : Nat) (a b : Xpr), BdExpr a → BdExpr b → esize a ≤ n → esize a ≤ k → iter (asame_body k) n (a, b) = some (xsame a b)
  | 0, a, b, _, _, h, _ => by have := esize_pos a; omega
  | n + 1, a, b, ha, hb, h, hk => by
    obtain ⟨hb4, hb5⟩ := bd_ls ha
    obtain ⟨hc4, hc5⟩ := bd_ls hb
    rw [esize_eq] at h hk
    have hl := esizes_len a.l
    have hrf : ∀ x, x ∈ a.l → ∀ y, y ∈ b.l → iter (asame_body k) n (x, y) = some (xsame x y) := fun x hx y hy => asame_all k n x y (hb5 x hx) (hc5 y hy) (by have := esize_mem hx; omega) (by have := esize_mem hx; omega)
    rw [iter_s, xsame_un]
    simp only [asame_body]
    by_cases hlen : a.l.length = b.l.length
    · have hloop := asame_loop (R := Bool) (rf := iter (asame_body k) n) (l := a.l) (m := b.l) (c := some) (kx := fun e v => match v with
        | (_, v6, _, _, _) => match e with
          | .ret => some v6
          | .exit 0 => some true
          | _ => none) hb4 hlen hrf (fun _ => rfl) (fun _ _ => rfl) k (by omega)
      rw [hloop, decide_eq_true (show (a.l.length : Int) = (b.l.length : Int) by omega)]
      cases decide (a.kind = b.kind) <;> cases decide (a.v = b.v) <;> cases decide (a.name = b.name) <;> cases xsames a.l b.l <;> rfl
    · have hno : xsames a.l b.l = false := by
        cases hs : xsames a.l b.l with
        | false => rfl
        | true => exact absurd (xsames_len hs) hlen
      rw [hno, decide_eq_false (show ¬ (a.l.length : Int) = (b.l.length : Int) by omega)]
      cases decide (a.kind = b.kind) <;> cases decide (a.v = b.v) <;> cases decide (a.name = b.name) <;> rfl
theorem asame_ok : FnOk Tryz.prog elT glT 20 [.sv .expr, .sv .expr] [.bool] asame_F := by
  refine .fin (ι := Nat) 0 (F := fun n => iter (asame_body n) n) (fun n => FnOk.rec' (Sx.enters_of Tryz.func20 rfl rfl) (fun rf hrf => asame_run n rf hrf) n) fun (a, b) r hb hx => ⟨esize a, ?_⟩
  exact (asame_all (esize a) (esize a) a b hb.1 hb.2 (Nat.le_refl _) (Nat.le_refl _)).trans hx
/-! ## exchequer/exchequerref13.Same -/
end Go.Proofs.YthndhaolemgbdaaGreatDoor

/- The names in an expression. -/
namespace Go.Proofs.YthndhaolemgbdaaGreatDoor
open Go.Ax
/-! ## names, as they come -/
/-! ## exchequer/ast.Names$1 -/
/-! ## exchequer/ast.Names -/
end Go.Proofs.YthndhaolemgbdaaGreatDoor

/- What an expression that may be is made of. -/
namespace Go.Proofs.YthndhaolemgbdaaGreatDoor
open Go.Ax
end Go.Proofs.YthndhaolemgbdaaGreatDoor

/- Statements: are two the same; may one be. -/
namespace Go.Proofs.YthndhaolemgbdaaGreatDoor
open Go.Ax
/-! ## slices.Equal[[]exchequer/api.Col,exchequer/api.Col] -/
def aeqc_0_sg : Sig := ⟨26, [(0, .sl .col false), (1, .sl .col false), (4, .bool), (12, .int .i64), (13, .int .i64)], [], [], 0, 0, 0, [], []⟩
abbrev aeqc_0_V := List Col × List Col × Bool × Int × Int
def aeqc_0 {R : Type} (rec : aeqc_0_V → Option R) (kx : Ex → aeqc_0_V → Option R) (v : aeqc_0_V) : Option R := match v with
 | (v, v1, v2, v3, v4) =>
  cond (decide (v4 < v3)) (
   chk (inb v4 v.length) (
    chk (inb v4 v1.length) (
     cond (!decide ((at' .col v v4) = (at' .col v1 v4))) (
      kx .ret (v, v1, false, v3, v4)) (
      rec (v, v1, v2, v3, (wr .i64 (v4 + 1))))))) (
   kx (.exit 0) (v, v1, v2, v3, v4))
def aeqc_px (R : Type) (k : Nat) : Px R := ⟨ttOf ttL, glT, callT [], callQT [], loopT [(4, loopOr k aeqc_0_sg (aeqc_0))], tbl []⟩
theorem aeqc_0_eq (R : Type) (k : Nat) : ∀ (fr : List Fr) (rec : aeqc_0_V → Option R) (kx : Ex → aeqc_0_V → Option R) (v : aeqc_0_V), round (aeqc_px R k) aeqc_0_sg (lp Tryz.f75 0) fr rec kx v = aeqc_0 rec kx v
  | fr, rec, kx, (v, v1, v2, v3, v4) => by kernel_rfl
def aeqc_body (k : Nat) (x : HV [.sl .col false, .sl .col false]) : Option (HV [.bool]) := match x with
 | (a, b) =>
  cond (!decide ((a.length : Int) = (b.length : Int))) (
   some false) (
   iter (fun rec => aeqc_0 rec (fun e vz => match vz with | (_, _, v7, _, _) => match e with
    | .ret =>
     some v7
    | .exit 0 =>
     some true
    | _ => none)) k (a, b, false, (a.length : Int), 0))
theorem aeqc_eq (k : Nat) : ∀ (x : HV [.sl .col false, .sl .col false]), runF (aeqc_px _ k) Tryz.f75 [.sl .col false, .sl .col false] [.bool] x some = aeqc_body k x
  | (a, b) => by kernel_rfl
theorem aeqc_run (k : Nat) : FnOk Tryz.prog elT glT 75 [.sl .col false, .sl .col false] [.bool] (aeqc_body k) := by
  refine fnOk_run Tryz.func75 rfl (by kernel_rfl) follows (by kernel_rfl) (n := 1) (by kernel_rfl) (px := aeqc_px _ k) (fun cx hP hel hgl => ?_) (aeqc_eq k)
  have hp0 : PxOk cx (aeqc_px (HV [.bool]) k) := ⟨fun t => by rw [hP, hel]; exact tt_ok ttL_ok t, by rw [hgl]; rfl⟩
  have hc0 : CallOk cx (aeqc_px (HV [.bool]) k) := callT_ok rfl cfs_nil
  have hq0 : CallQOk cx (aeqc_px (HV [.bool]) k) := callQT_ok rfl rfl cqfs_nil cwfs_nil
  have hlaeqc_0 : LoopOk cx (aeqc_px (HV [.bool]) k) (lp Tryz.f75 0) := loop_ok hp0 hc0 hq0 (by rw [hP]; exact follows) (k := k) (s := aeqc_0_sg) (step := aeqc_0) (fun _ _ => by kernel_rfl) (by kernel_rfl) (aeqc_0_eq _ k) (loops_in (n := 0) (by kernel_rfl) all0)
  exact ⟨hp0, hc0, hq0, (allS all0 hlaeqc_0)⟩
def aeqc (a b : List Col) : Bool := decide (a = b)
def aeqc_F : FT [.sl .col false, .sl .col false] [.bool] := fun x => some (aeqc x.1 x.2)
theorem aeqc_loop {R : Type} {kx : Ex → aeqc_0_V → Option R} {a b : List Col} {c : Bool → Option R} (hn : ln a.length) (he : a.length = b.length) (h1 : ∀ i, kx .ret (a, b, false, (a.length : Int), i) = c false) (h2 : ∀ q i, kx (.exit 0) (a, b, q, (a.length : Int), i) = c true) (k : Nat) (hk : a.length < k) :
    iter (fun rec => aeqc_0 rec kx) k (a, b, false, (a.length : Int), 0) = c (decide (a = b)) := by
  refine (iter_ind0 a.length (fun i => (a, b, false, (a.length : Int), (i : Int))) (fun i => c (decide (a.drop i = b.drop i))) (fun i hi rec hr => ?_) (fun rec => ?_) k 0 (Nat.zero_le _) (by omega)).trans (by rw [List.drop_zero, List.drop_zero])
  · have hi2 : i < b.length := by omega
    simp only [aeqc_0, lt_t hi, cond_t, inb_t hi, inb_t hi2, chk, at_nat (c := .col) hi, at_nat (c := .col) hi2, wr_succ hi hn, hr, h1, drop_cons hi, drop_cons hi2, List.cons.injEq]
    by_cases hx : a[i] = b[i]
    · rw [decide_eq_true hx]
      simp [hx]
    · rw [decide_eq_false hx]
      simp [hx]
  · simp only [aeqc_0, lt_n, cond_f, h2]
    rw [List.drop_eq_nil_of_le (Nat.le_refl _), List.drop_eq_nil_of_le (by omega)]
    rfl
theorem aeqc_ok : FnOk Tryz.prog elT glT 75 [.sl .col false, .sl .col false] [.bool] aeqc_F := .fin 0 aeqc_run fun (a, b) r hb hx => ⟨a.length + 1, by
  simp only [aeqc_F, Option.some.injEq] at hx
  rw [← hx]
  simp only [aeqc_body, aeqc]
  by_cases he : a.length = b.length
  · rw [decide_eq_true (show (a.length : Int) = (b.length : Int) by omega), Bool.not_true, cond_f]
    exact aeqc_loop (c := some) hb.1.1 he (fun _ => rfl) (fun _ _ => rfl) (a.length + 1) (by omega)
  · rw [decide_eq_false (show ¬ (a.length : Int) = (b.length : Int) by omega), decide_eq_false (fun h => he (by rw [h]))]
    rfl⟩
/-! ## slices.Equal[[]string,string] -/
def aeqs_0_sg : Sig := ⟨26, [(0, .sl .str false), (1, .sl .str false), (4, .bool), (12, .int .i64), (13, .int .i64)], [], [], 0, 0, 0, [], []⟩
abbrev aeqs_0_V := List Str × List Str × Bool × Int × Int
def aeqs_0 {R : Type} (rec : aeqs_0_V → Option R) (kx : Ex → aeqs_0_V → Option R) (v : aeqs_0_V) : Option R := match v with
 | (v, v1, v2, v3, v4) =>
  cond (decide (v4 < v3)) (
   chk (inb v4 v.length) (
    chk (inb v4 v1.length) (
     cond (!decide ((at' .str v v4) = (at' .str v1 v4))) (
      kx .ret (v, v1, false, v3, v4)) (
      rec (v, v1, v2, v3, (wr .i64 (v4 + 1))))))) (
   kx (.exit 0) (v, v1, v2, v3, v4))
def aeqs_px (R : Type) (k : Nat) : Px R := ⟨ttOf ttL, glT, callT [], callQT [], loopT [(4, loopOr k aeqs_0_sg (aeqs_0))], tbl []⟩
theorem aeqs_0_eq (R : Type) (k : Nat) : ∀ (fr : List Fr) (rec : aeqs_0_V → Option R) (kx : Ex → aeqs_0_V → Option R) (v : aeqs_0_V), round (aeqs_px R k) aeqs_0_sg (lp Tryz.f76 0) fr rec kx v = aeqs_0 rec kx v
  | fr, rec, kx, (v, v1, v2, v3, v4) => by kernel_rfl
def aeqs_body (k : Nat) (x : HV [.sl .str false, .sl .str false]) : Option (HV [.bool]) := match x with
 | (a, b) =>
  cond (!decide ((a.length : Int) = (b.length : Int))) (
   some false) (
   iter (fun rec => aeqs_0 rec (fun e vz => match vz with | (_, _, v7, _, _) => match e with
    | .ret =>
     some v7
    | .exit 0 =>
     some true
    | _ => none)) k (a, b, false, (a.length : Int), 0))
theorem aeqs_eq (k : Nat) : ∀ (x : HV [.sl .str false, .sl .str false]), runF (aeqs_px _ k) Tryz.f76 [.sl .str false, .sl .str false] [.bool] x some = aeqs_body k x
  | (a, b) => by kernel_rfl
theorem aeqs_run (k : Nat) : FnOk Tryz.prog elT glT 76 [.sl .str false, .sl .str false] [.bool] (aeqs_body k) := by
  refine fnOk_run Tryz.func76 rfl (by kernel_rfl) follows (by kernel_rfl) (n := 1) (by kernel_rfl) (px := aeqs_px _ k) (fun cx hP hel hgl => ?_) (aeqs_eq k)
  have hp0 : PxOk cx (aeqs_px (HV [.bool]) k) := ⟨fun t => by rw [hP, hel]; exact tt_ok ttL_ok t, by rw [hgl]; rfl⟩
  have hc0 : CallOk cx (aeqs_px (HV [.bool]) k) := callT_ok rfl cfs_nil
  have hq0 : CallQOk cx (aeqs_px (HV [.bool]) k) := callQT_ok rfl rfl cqfs_nil cwfs_nil
  have hlaeqs_0 : LoopOk cx (aeqs_px (HV [.bool]) k) (lp Tryz.f76 0) := loop_ok hp0 hc0 hq0 (by rw [hP]; exact follows) (k := k) (s := aeqs_0_sg) (step := aeqs_0) (fun _ _ => by kernel_rfl) (by kernel_rfl) (aeqs_0_eq _ k) (loops_in (n := 0) (by kernel_rfl) all0)
  exact ⟨hp0, hc0, hq0, (allS all0 hlaeqs_0)⟩
def aeqs (a b : List Str) : Bool := decide (a = b)
def aeqs_F : FT [.sl .str false, .sl .str false] [.bool] := fun x => some (aeqs x.1 x.2)
theorem aeqs_loop {R : Type} {kx : Ex → aeqs_0_V → Option R} {a b : List Str} {c : Bool → Option R} (hn : ln a.length) (he : a.length = b.length) (h1 : ∀ i, kx .ret (a, b, false, (a.length : Int), i) = c false) (h2 : ∀ q i, kx (.exit 0) (a, b, q, (a.length : Int), i) = c true) (k : Nat) (hk : a.length < k) :
    iter (fun rec => aeqs_0 rec kx) k (a, b, false, (a.length : Int), 0) = c (decide (a = b)) := by
  refine (iter_ind0 a.length (fun i => (a, b, false, (a.length : Int), (i : Int))) (fun i => c (decide (a.drop i = b.drop i))) (fun i hi rec hr => ?_) (fun rec => ?_) k 0 (Nat.zero_le _) (by omega)).trans (by rw [List.drop_zero, List.drop_zero])
  · have hi2 : i < b.length := by omega
    simp only [aeqs_0, lt_t hi, cond_t, inb_t hi, inb_t hi2, chk, at_nat (c := .str) hi, at_nat (c := .str) hi2, wr_succ hi hn, hr, h1, drop_cons hi, drop_cons hi2, List.cons.injEq]
    by_cases hx : a[i] = b[i]
    · rw [decide_eq_true hx]
      simp [hx]
    · rw [decide_eq_false hx]
      simp [hx]
  · simp only [aeqs_0, lt_n, cond_f, h2]
    rw [List.drop_eq_nil_of_le (Nat.le_refl _), List.drop_eq_nil_of_le (by omega)]
    rfl
theorem aeqs_ok : FnOk Tryz.prog elT glT 76 [.sl .str false, .sl .str false] [.bool] aeqs_F := .fin 0 aeqs_run fun (a, b) r hb hx => ⟨a.length + 1, by
  simp only [aeqs_F, Option.some.injEq] at hx
  rw [← hx]
  simp only [aeqs_body, aeqs]
  by_cases he : a.length = b.length
  · rw [decide_eq_true (show (a.length : Int) = (b.length : Int) by omega), Bool.not_true, cond_f]
    exact aeqs_loop (c := some) hb.1.1 he (fun _ => rfl) (fun _ _ => rfl) (a.length + 1) (by omega)
  · rw [decide_eq_false (show ¬ (a.length : Int) = (b.length : Int) by omega), decide_eq_false (fun h => he (by rw [h]))]
    rfl⟩
/-! ## slices.Equal[[]bool,bool] -/
def aeqb_0_sg : Sig := ⟨26, [(0, .sl .bool false), (1, .sl .bool false), (4, .bool), (12, .int .i64), (13, .int .i64)], [], [], 0, 0, 0, [], []⟩
abbrev aeqb_0_V := List Bool × List Bool × Bool × Int × Int
def aeqb_0 {R : Type} (rec : aeqb_0_V → Option R) (kx : Ex → aeqb_0_V → Option R) (v : aeqb_0_V) : Option R := match v with
 | (v, v1, v2, v3, v4) =>
  cond (decide (v4 < v3)) (
   chk (inb v4 v.length) (
    chk (inb v4 v1.length) (
     cond (!decide ((at' .bool v v4) = (at' .bool v1 v4))) (
      kx .ret (v, v1, false, v3, v4)) (
      rec (v, v1, v2, v3, (wr .i64 (v4 + 1))))))) (
   kx (.exit 0) (v, v1, v2, v3, v4))
def aeqb_px (R : Type) (k : Nat) : Px R := ⟨ttOf ttL, glT, callT [], callQT [], loopT [(4, loopOr k aeqb_0_sg (aeqb_0))], tbl []⟩
theorem aeqb_0_eq (R : Type) (k : Nat) : ∀ (fr : List Fr) (rec : aeqb_0_V → Option R) (kx : Ex → aeqb_0_V → Option R) (v : aeqb_0_V), round (aeqb_px R k) aeqb_0_sg (lp Tryz.f77 0) fr rec kx v = aeqb_0 rec kx v
  | fr, rec, kx, (v, v1, v2, v3, v4) => by kernel_rfl
def aeqb_body (k : Nat) (x : HV [.sl .bool false, .sl .bool false]) : Option (HV [.bool]) := match x with
 | (a, b) =>
  cond (!decide ((a.length : Int) = (b.length : Int))) (
   some false) (
   iter (fun rec => aeqb_0 rec (fun e vz => match vz with | (_, _, v7, _, _) => match e with
    | .ret =>
     some v7
    | .exit 0 =>
     some true
    | _ => none)) k (a, b, false, (a.length : Int), 0))
theorem aeqb_eq (k : Nat) : ∀ (x : HV [.sl .bool false, .sl .bool false]), runF (aeqb_px _ k) Tryz.f77 [.sl .bool false, .sl .bool false] [.bool] x some = aeqb_body k x
  | (a, b) => by kernel_rfl
theorem aeqb_run (k : Nat) : FnOk Tryz.prog elT glT 77 [.sl .bool false, .sl .bool false] [.bool] (aeqb_body k) := by
  refine fnOk_run Tryz.func77 rfl (by kernel_rfl) follows (by kernel_rfl) (n := 1) (by kernel_rfl) (px := aeqb_px _ k) (fun cx hP hel hgl => ?_) (aeqb_eq k)
  have hp0 : PxOk cx (aeqb_px (HV [.bool]) k) := ⟨fun t => by rw [hP, hel]; exact tt_ok ttL_ok t, by rw [hgl]; rfl⟩
  have hc0 : CallOk cx (aeqb_px (HV [.bool]) k) := callT_ok rfl cfs_nil
  have hq0 : CallQOk cx (aeqb_px (HV [.bool]) k) := callQT_ok rfl rfl cqfs_nil cwfs_nil
  have hlaeqb_0 : LoopOk cx (aeqb_px (HV [.bool]) k) (lp Tryz.f77 0) := loop_ok hp0 hc0 hq0 (by rw [hP]; exact follows) (k := k) (s := aeqb_0_sg) (step := aeqb_0) (fun _ _ => by kernel_rfl) (by kernel_rfl) (aeqb_0_eq _ k) (loops_in (n := 0) (by kernel_rfl) all0)
  exact ⟨hp0, hc0, hq0, (allS all0 hlaeqb_0)⟩
def aeqb (a b : List Bool) : Bool := decide (a = b)
def aeqb_F : FT [.sl .bool false, .sl .bool false] [.bool] := fun x => some (aeqb x.1 x.2)
theorem aeqb_loop {R : Type} {kx : Ex → aeqb_0_V → Option R} {a b : List Bool} {c : Bool → Option R} (hn : ln a.length) (he : a.length = b.length) (h1 : ∀ i, kx .ret (a, b, false, (a.length : Int), i) = c false) (h2 : ∀ q i, kx (.exit 0) (a, b, q, (a.length : Int), i) = c true) (k : Nat) (hk : a.length < k) :
    iter (fun rec => aeqb_0 rec kx) k (a, b, false, (a.length : Int), 0) = c (decide (a = b)) := by
  refine (iter_ind0 a.length (fun i => (a, b, false, (a.length : Int), (i : Int))) (fun i => c (decide (a.drop i = b.drop i))) (fun i hi rec hr => ?_) (fun rec => ?_) k 0 (Nat.zero_le _) (by omega)).trans (by rw [List.drop_zero, List.drop_zero])
  · have hi2 : i < b.length := by omega
    simp only [aeqb_0, lt_t hi, cond_t, inb_t hi, inb_t hi2, chk, at_nat (c := .bool) hi, at_nat (c := .bool) hi2, wr_succ hi hn, hr, h1, drop_cons hi, drop_cons hi2, List.cons.injEq]
    by_cases hx : a[i] = b[i]
    · rw [decide_eq_true hx]
      simp [hx]
    · rw [decide_eq_false hx]
      simp [hx]
  · simp only [aeqb_0, lt_n, cond_f, h2]
    rw [List.drop_eq_nil_of_le (Nat.le_refl _), List.drop_eq_nil_of_le (by omega)]
    rfl
theorem aeqb_ok : FnOk Tryz.prog elT glT 77 [.sl .bool false, .sl .bool false] [.bool] aeqb_F := .fin 0 aeqb_run fun (a, b) r hb hx => ⟨a.length + 1, by
  simp only [aeqb_F, Option.some.injEq] at hx
  rw [← hx]
  simp only [aeqb_body, aeqb]
  by_cases he : a.length = b.length
  · rw [decide_eq_true (show (a.length : Int) = (b.length : Int) by omega), Bool.not_true, cond_f]
    exact aeqb_loop (c := some) hb.1.1 he (fun _ => rfl) (fun _ _ => rfl) (a.length + 1) (by omega)
  · rw [decide_eq_false (show ¬ (a.length : Int) = (b.length : Int) by omega), decide_eq_false (fun h => he (by rw [h]))]
    rfl⟩
/-! ## statements: the same? -/
instance : DecidableEq SetE := fun a b => decidable_of_iff (a.name = b.name ∧ a.e = b.e) (by
  cases a; cases b
  simp)
def setsame (a b : SetE) : Bool := decide (a.name = b.name) && xsame a.e b.e
theorem setsame_dec (a b : SetE) : setsame a b = decide (a = b) := by
  cases a; cases b
  simp only [setsame, xsame_dec, SetE.mk.injEq, Bool.decide_and]
def ssame (a b : Stm) : Bool := decide (a.kind = b.kind) && decide (a.name = b.name) && decide (a.on = b.on) && decide (a.has = b.has) && decide (a.most = b.most) && decide (a.whr = b.whr) && (decide (a.cols = b.cols) && decide (a.names = b.names) && decide (a.order = b.order) && decide (a.desc = b.desc) && decide (a.l = b.l)) && decide (a.rows = b.rows) && decide (a.sets = b.sets)
theorem ssame_iff (a b : Stm) : ssame a b = true ↔ a = b := by
  cases a; cases b
  simp only [ssame, Bool.and_eq_true, decide_eq_true_eq, Stm.mk.injEq]
  constructor
  · rintro ⟨⟨⟨⟨⟨⟨⟨⟨h1, h2⟩, h3⟩, h4⟩, h5⟩, h6⟩, ⟨⟨⟨h7, h8⟩, h9⟩, h10⟩, h11⟩, h12⟩, h13⟩
    exact ⟨h1, h2, h3, h7, h8, h11, h12, h13, h4, h6, h9, h10, h5⟩
  · rintro ⟨h1, h2, h3, h7, h8, h11, h12, h13, h4, h6, h9, h10, h5⟩
    exact ⟨⟨⟨⟨⟨⟨⟨⟨h1, h2⟩, h3⟩, h4⟩, h5⟩, h6⟩, ⟨⟨⟨h7, h8⟩, h9⟩, h10⟩, h11⟩, h12⟩, h13⟩
/-! ## exchequer/ast.Same -/
def astmts_3_sg : Sig := ⟨32, [(1, .sl .set false), (6, .bool), (15, .sl .set false), (16, .int .i64), (17, .int .i64)], [(2, .fn 81 [])], [], 40, 40, 600, [], []⟩
abbrev astmts_3_V := List SetE × Bool × List SetE × Int × Int
def astmts_3 {R : Type} (rec : astmts_3_V → Option R) (kx : Ex → astmts_3_V → Option R) (v : astmts_3_V) : Option R := match v with
 | (v36, v37, v38, v39, v40) =>
  cond (decide (v40 < v39)) (
   chk (inb v40 v38.length) (
    chk (inb v40 v36.length) (
     cond (decide (((at' .set v38 v40).name) = ((at' .set v36 v40).name))) (
      cond (!(asame (xeta ((at' .set v38 v40).e)) (xeta ((at' .set v36 v40).e)))) (
       kx .ret (v36, false, v38, v39, v40)) (
       rec (v36, v37, v38, v39, (wr .i64 (v40 + 1))))) (
      kx .ret (v36, false, v38, v39, v40))))) (
   kx (.exit 0) (v36, v37, v38, v39, v40))
def astmts_2_sg : Sig := ⟨32, [(1, .sl .expr false), (6, .bool), (15, .sl .expr false), (16, .int .i64), (17, .int .i64)], [(2, .fn 20 [])], [(0, .one (.sv .stmt)), (1, .one (.sv .stmt))], 120, 120, 600, [], []⟩
abbrev astmts_2_V := List Xpr × Bool × List Xpr × Int × Int × Stm × Stm
def astmts_2 {R : Type} (rec : astmts_2_V → Option R) (kx : Ex → astmts_2_V → Option R) (v : astmts_2_V) : Option R := match v with
 | (v17, v18, v19, v20, v21, w4, w5) =>
  cond (decide (v21 < v20)) (
   chk (inb v21 v19.length) (
    chk (inb v21 v17.length) (
     cond (!(asame (at' .expr v19 v21) (at' .expr v17 v21))) (
      kx .ret (v17, false, v19, v20, v21, w4, w5)) (
      rec (v17, v18, v19, v20, (wr .i64 (v21 + 1)), w4, w5))))) (
   kx (.exit 0) (v17, v18, v19, v20, v21, w4, w5))
def astmts_1_sg : Sig := ⟨32, [(1, .sl .exprs false), (6, .bool), (15, .sl .exprs false), (16, .int .i64), (17, .int .i64)], [(2, .fn 79 [])], [(0, .one (.sv .stmt)), (1, .one (.sv .stmt))], 40, 40, 400, [], []⟩
abbrev astmts_1_V := List (List Xpr) × Bool × List (List Xpr) × Int × Int × Stm × Stm
def astmts_1 {R : Type} (k : Nat) (rec : astmts_1_V → Option R) (kx : Ex → astmts_1_V → Option R) (v : astmts_1_V) : Option R := match v with
 | (v12, v13, v14, v15, v16, w2, w3) =>
  cond (decide (v16 < v15)) (
   chk (inb v16 v14.length) (
    chk (inb v16 v12.length) (
     cond (!decide (((at' .exprs v14 v16).length : Int) = ((at' .exprs v12 v16).length : Int))) (
      kx .ret (v12, false, v14, v15, v16, w2, w3)) (
      iter (fun rc => astmts_2 rc (fun e vz => match vz with | (_, v23, _, _, _, v27, v28) => match e with
       | .ret =>
        cond (!v23) (
         kx .ret (v12, false, v14, v15, v16, v27, v28)) (
         rec (v12, v13, v14, v15, (wr .i64 (v16 + 1)), v27, v28))
       | .exit 0 =>
        rec (v12, v13, v14, v15, (wr .i64 (v16 + 1)), v27, v28)
       | _ => none)) k ((at' .exprs v12 v16), false, (at' .exprs v14 v16), ((at' .exprs v14 v16).length : Int), 0, w2, w3))))) (
   kx (.exit 0) (v12, v13, v14, v15, v16, w2, w3))
def astmts_0_sg : Sig := ⟨32, [(1, .sl .expr false), (6, .bool), (15, .sl .expr false), (16, .int .i64), (17, .int .i64)], [(2, .fn 20 [])], [(0, .one (.sv .stmt)), (1, .one (.sv .stmt))], 40, 40, 200, [], []⟩
abbrev astmts_0_V := List Xpr × Bool × List Xpr × Int × Int × Stm × Stm
def astmts_0 {R : Type} (rec : astmts_0_V → Option R) (kx : Ex → astmts_0_V → Option R) (v : astmts_0_V) : Option R := match v with
 | (v, v1, v2, v3, v4, w, w1) =>
  cond (decide (v4 < v3)) (
   chk (inb v4 v2.length) (
    chk (inb v4 v.length) (
     cond (!(asame (at' .expr v2 v4) (at' .expr v v4))) (
      kx .ret (v, false, v2, v3, v4, w, w1)) (
      rec (v, v1, v2, v3, (wr .i64 (v4 + 1)), w, w1))))) (
   kx (.exit 0) (v, v1, v2, v3, v4, w, w1))
def astmts_pxi0 (R : Type) (k : Nat) : Px R := ⟨ttOf ttL, glT, callT [(20, callOr [.sv .expr, .sv .expr] [.bool] asame_F)], callQT [], loopT [(4, loopOr k astmts_0_sg (astmts_0))], tbl []⟩
def astmts_pxi1i0i0 (R : Type) (k : Nat) : Px R := ⟨ttOf ttL, glT, callT [(20, callOr [.sv .expr, .sv .expr] [.bool] asame_F)], callQT [], loopT [(4, loopOr k astmts_2_sg (astmts_2))], tbl []⟩
noncomputable def astmts_pxi1i0 (R : Type) (k : Nat) : Px R := ⟨ttOf ttL, glT, callT [(47, callRun 120 600 (astmts_pxi1i0i0 R k) Tryz.f47)], callQT [], loopT [], tbl []⟩
noncomputable def astmts_pxi1 (R : Type) (k : Nat) : Px R := ⟨ttOf ttL, glT, callT [(79, callRun 80 600 (astmts_pxi1i0 R k) Tryz.f79)], callQT [], loopT [(4, loopOr k astmts_1_sg (astmts_1 k))], tbl []⟩
def astmts_pxi2i0 (R : Type) (_k : Nat) : Px R := ⟨ttOf ttL, glT, callT [(20, callOr [.sv .expr, .sv .expr] [.bool] asame_F)], callQT [], loopT [], tbl []⟩
noncomputable def astmts_pxi2 (R : Type) (k : Nat) : Px R := ⟨ttOf ttL, glT, callT [(81, callRun 80 800 (astmts_pxi2i0 R k) Tryz.f81)], callQT [], loopT [(4, loopOr k astmts_3_sg (astmts_3))], tbl []⟩
noncomputable def astmts_px (R : Type) (k : Nat) : Px R := ⟨ttOf ttL, glT, callT [(20, callOr [.sv .expr, .sv .expr] [.bool] asame_F), (75, callOr [.sl .col false, .sl .col false] [.bool] aeqc_F), (76, callOr [.sl .str false, .sl .str false] [.bool] aeqs_F), (77, callOr [.sl .bool false, .sl .bool false] [.bool] aeqb_F), (47, callRun 40 200 (astmts_pxi0 R k) Tryz.f47), (78, callRun 40 400 (astmts_pxi1 R k) Tryz.f78), (80, callRun 40 600 (astmts_pxi2 R k) Tryz.f80)], callQT [], loopT [], tbl []⟩
theorem astmts_0_eq (R : Type) (k : Nat) : ∀ (fr : List Fr) (rec : astmts_0_V → Option R) (kx : Ex → astmts_0_V → Option R) (v : astmts_0_V), round (astmts_pxi0 R k) astmts_0_sg (lp Tryz.f47 0) fr rec kx v = astmts_0 rec kx v
  | fr, rec, kx, (v, v1, v2, v3, v4, w, w1) => by kernel_rfl
theorem astmts_2_eq (R : Type) (k : Nat) : ∀ (fr : List Fr) (rec : astmts_2_V → Option R) (kx : Ex → astmts_2_V → Option R) (v : astmts_2_V), round (astmts_pxi1i0i0 R k) astmts_2_sg (lp Tryz.f47 0) fr rec kx v = astmts_2 rec kx v
  | fr, rec, kx, (v17, v18, v19, v20, v21, w4, w5) => by kernel_rfl
theorem astmts_1_eq (R : Type) (k : Nat) : ∀ (fr : List Fr) (rec : astmts_1_V → Option R) (kx : Ex → astmts_1_V → Option R) (v : astmts_1_V), round (astmts_pxi1 R k) astmts_1_sg (lp Tryz.f78 0) fr rec kx v = astmts_1 k rec kx v
  | fr, rec, kx, (v12, v13, v14, v15, v16, w2, w3) => by kernel_rfl
theorem astmts_3_eq (R : Type) (k : Nat) : ∀ (fr : List Fr) (rec : astmts_3_V → Option R) (kx : Ex → astmts_3_V → Option R) (v : astmts_3_V), round (astmts_pxi2 R k) astmts_3_sg (lp Tryz.f80 0) fr rec kx v = astmts_3 rec kx v
  | fr, rec, kx, (v36, v37, v38, v39, v40) => by kernel_rfl
def astmts_body (k : Nat) (x : HV [.sv .stmt, .sv .stmt]) : Option (HV [.bool]) := match x with
 | (a, b) =>
  let j9 := fun (p6 : Bool) =>
   let j8 := fun (p13 : Bool) (q6 : Stm) (q7 : Stm) =>
    let j7 := fun (p14 : Bool) =>
     let j6 := fun (p23 : Bool) (q24 : Stm) (q25 : Stm) =>
      cond (p23) (
       cond (!decide ((q24.sets.length : Int) = (q25.sets.length : Int))) (
        some false) (
        iter (fun rec => astmts_3 rec (fun e vz => match vz with | (_, v42, _, _, _) => match e with
         | .ret =>
          some v42
         | .exit 0 =>
          some true
         | _ => none)) k (q25.sets, false, q24.sets, (q24.sets.length : Int), 0))) (
       some false)
     cond (p14) (
      cond (!decide ((q6.rows.length : Int) = (q7.rows.length : Int))) (
       j6 false q6 q7) (
       iter (fun rec => astmts_1 k rec (fun e vz => match vz with | (_, v30, _, _, _, v34, v35) => match e with
        | .ret =>
         j6 v30 v34 v35
        | .exit 0 =>
         j6 true v34 v35
        | _ => none)) k (q7.rows, false, q6.rows, (q6.rows.length : Int), 0, q6, q7))) (
      j6 false q6 q7)
    cond (p6) (
     j7 p13) (
     j7 false)
   let j5 := fun (p7 : Bool) =>
    let j4 := fun (p8 : Bool) =>
     let j3 := fun (p9 : Bool) =>
      cond (p9) (
       cond (!decide ((a.l.length : Int) = (b.l.length : Int))) (
        j8 false a b) (
        iter (fun rec => astmts_0 rec (fun e vz => match vz with | (_, v6, _, _, _, v10, v11) => match e with
         | .ret =>
          j8 v6 v10 v11
         | .exit 0 =>
          j8 true v10 v11
         | _ => none)) k (b.l, false, a.l, (a.l.length : Int), 0, a, b))) (
       j8 false a b)
     cond (p8) (
      j3 (aeqb a.desc b.desc)) (
      j3 false)
    cond (p7) (
     j4 (aeqs a.order b.order)) (
     j4 false)
   cond ((aeqc a.cols b.cols)) (
    j5 (aeqs a.names b.names)) (
    j5 false)
  let j2 := fun (p : Bool) =>
   let j1 := fun (p1 : Bool) =>
    let j := fun (p2 : Bool) =>
     cond (p2) (
      cond (decide (a.most = b.most)) (
       j9 (asame (xeta a.whr) (xeta b.whr))) (
       j9 false)) (
      j9 false)
    cond (p1) (
     j (decide (a.has = b.has))) (
     j false)
   cond (p) (
    j1 (decide (a.on = b.on))) (
    j1 false)
  cond (decide (a.kind = b.kind)) (
   j2 (decide (a.name = b.name))) (
   j2 false)
theorem astmts_eq (k : Nat) : ∀ (x : HV [.sv .stmt, .sv .stmt]), runF (astmts_px _ k) Tryz.f27 [.sv .stmt, .sv .stmt] [.bool] x some = astmts_body k x
  | (a, b) => by kernel_rfl
theorem astmts_run (k : Nat) : FnOk Tryz.prog elT glT 27 [.sv .stmt, .sv .stmt] [.bool] (astmts_body k) := by
  refine fnOk_run Tryz.func27 rfl (by kernel_rfl) follows (by kernel_rfl) (n := 0) (by kernel_rfl) (px := astmts_px _ k) (fun cx hP hel hgl => ?_) (astmts_eq k)
  have hp1 : PxOk cx (astmts_pxi0 (HV [.bool]) k) := ⟨fun t => by rw [hP, hel]; exact tt_ok ttL_ok t, by rw [hgl]; rfl⟩
  have hc1 : CallOk cx (astmts_pxi0 (HV [.bool]) k) := callT_ok rfl (cfs_cons (cf_or (by rw [hP, hel, hgl]; exact asame_ok) (by kernel_rfl)) cfs_nil)
  have hq1 : CallQOk cx (astmts_pxi0 (HV [.bool]) k) := callQT_ok rfl rfl cqfs_nil cwfs_nil
  have hlastmts_0 : LoopOk cx (astmts_pxi0 (HV [.bool]) k) (lp Tryz.f47 0) := loop_ok hp1 hc1 hq1 (by rw [hP]; exact follows) (k := k) (s := astmts_0_sg) (step := astmts_0) (fun _ _ => by kernel_rfl) (by kernel_rfl) (astmts_0_eq _ k) (loops_in (n := 0) (by kernel_rfl) all0)
  have hp4 : PxOk cx (astmts_pxi1i0i0 (HV [.bool]) k) := ⟨fun t => by rw [hP, hel]; exact tt_ok ttL_ok t, by rw [hgl]; rfl⟩
  have hc4 : CallOk cx (astmts_pxi1i0i0 (HV [.bool]) k) := callT_ok rfl (cfs_cons (cf_or (by rw [hP, hel, hgl]; exact asame_ok) (by kernel_rfl)) cfs_nil)
  have hq4 : CallQOk cx (astmts_pxi1i0i0 (HV [.bool]) k) := callQT_ok rfl rfl cqfs_nil cwfs_nil
  have hlastmts_2 : LoopOk cx (astmts_pxi1i0i0 (HV [.bool]) k) (lp Tryz.f47 0) := loop_ok hp4 hc4 hq4 (by rw [hP]; exact follows) (k := k) (s := astmts_2_sg) (step := astmts_2) (fun _ _ => by kernel_rfl) (by kernel_rfl) (astmts_2_eq _ k) (loops_in (n := 0) (by kernel_rfl) all0)
  have hp3 : PxOk cx (astmts_pxi1i0 (HV [.bool]) k) := ⟨fun t => by rw [hP, hel]; exact tt_ok ttL_ok t, by rw [hgl]; rfl⟩
  have hc3 : CallOk cx (astmts_pxi1i0 (HV [.bool]) k) := callT_ok rfl (cfs_cons (cf_run hp4 hc4 hq4 (by rw [hP]; exact follows) (by rw [hP]; exact Tryz.func47) rfl (by kernel_rfl) (by kernel_rfl) (n := 1) (by kernel_rfl) ((allS all0 hlastmts_2))) cfs_nil)
  have hq3 : CallQOk cx (astmts_pxi1i0 (HV [.bool]) k) := callQT_ok rfl rfl cqfs_nil cwfs_nil
  have hp2 : PxOk cx (astmts_pxi1 (HV [.bool]) k) := ⟨fun t => by rw [hP, hel]; exact tt_ok ttL_ok t, by rw [hgl]; rfl⟩
  have hc2 : CallOk cx (astmts_pxi1 (HV [.bool]) k) := callT_ok rfl (cfs_cons (cf_run hp3 hc3 hq3 (by rw [hP]; exact follows) (by rw [hP]; exact Tryz.func79) rfl (by kernel_rfl) (by kernel_rfl) (n := 0) (by kernel_rfl) (all0)) cfs_nil)
  have hq2 : CallQOk cx (astmts_pxi1 (HV [.bool]) k) := callQT_ok rfl rfl cqfs_nil cwfs_nil
  have hlastmts_1 : LoopOk cx (astmts_pxi1 (HV [.bool]) k) (lp Tryz.f78 0) := loop_ok hp2 hc2 hq2 (by rw [hP]; exact follows) (k := k) (s := astmts_1_sg) (step := astmts_1 k) (fun _ _ => by kernel_rfl) (by kernel_rfl) (astmts_1_eq _ k) (loops_in (n := 0) (by kernel_rfl) all0)
  have hp6 : PxOk cx (astmts_pxi2i0 (HV [.bool]) k) := ⟨fun t => by rw [hP, hel]; exact tt_ok ttL_ok t, by rw [hgl]; rfl⟩
  have hc6 : CallOk cx (astmts_pxi2i0 (HV [.bool]) k) := callT_ok rfl (cfs_cons (cf_or (by rw [hP, hel, hgl]; exact asame_ok) (by kernel_rfl)) cfs_nil)
  have hq6 : CallQOk cx (astmts_pxi2i0 (HV [.bool]) k) := callQT_ok rfl rfl cqfs_nil cwfs_nil
  have hp5 : PxOk cx (astmts_pxi2 (HV [.bool]) k) := ⟨fun t => by rw [hP, hel]; exact tt_ok ttL_ok t, by rw [hgl]; rfl⟩
  have hc5 : CallOk cx (astmts_pxi2 (HV [.bool]) k) := callT_ok rfl (cfs_cons (cf_run hp6 hc6 hq6 (by rw [hP]; exact follows) (by rw [hP]; exact Tryz.func81) rfl (by kernel_rfl) (by kernel_rfl) (n := 0) (by kernel_rfl) (all0)) cfs_nil)
  have hq5 : CallQOk cx (astmts_pxi2 (HV [.bool]) k) := callQT_ok rfl rfl cqfs_nil cwfs_nil
  have hlastmts_3 : LoopOk cx (astmts_pxi2 (HV [.bool]) k) (lp Tryz.f80 0) := loop_ok hp5 hc5 hq5 (by rw [hP]; exact follows) (k := k) (s := astmts_3_sg) (step := astmts_3) (fun _ _ => by kernel_rfl) (by kernel_rfl) (astmts_3_eq _ k) (loops_in (n := 0) (by kernel_rfl) all0)
  have hp0 : PxOk cx (astmts_px (HV [.bool]) k) := ⟨fun t => by rw [hP, hel]; exact tt_ok ttL_ok t, by rw [hgl]; rfl⟩
  have hc0 : CallOk cx (astmts_px (HV [.bool]) k) := callT_ok rfl (cfs_cons (cf_or (by rw [hP, hel, hgl]; exact asame_ok) (by kernel_rfl)) (cfs_cons (cf_or (by rw [hP, hel, hgl]; exact aeqc_ok) (by kernel_rfl)) (cfs_cons (cf_or (by rw [hP, hel, hgl]; exact aeqs_ok) (by kernel_rfl)) (cfs_cons (cf_or (by rw [hP, hel, hgl]; exact aeqb_ok) (by kernel_rfl)) (cfs_cons (cf_run hp1 hc1 hq1 (by rw [hP]; exact follows) (by rw [hP]; exact Tryz.func47) rfl (by kernel_rfl) (by kernel_rfl) (n := 1) (by kernel_rfl) ((allS all0 hlastmts_0))) (cfs_cons (cf_run hp2 hc2 hq2 (by rw [hP]; exact follows) (by rw [hP]; exact Tryz.func78) rfl (by kernel_rfl) (by kernel_rfl) (n := 1) (by kernel_rfl) ((allS all0 hlastmts_1))) (cfs_cons (cf_run hp5 hc5 hq5 (by rw [hP]; exact follows) (by rw [hP]; exact Tryz.func80) rfl (by kernel_rfl) (by kernel_rfl) (n := 1) (by kernel_rfl) ((allS all0 hlastmts_3))) cfs_nil)))))))
  have hq0 : CallQOk cx (astmts_px (HV [.bool]) k) := callQT_ok rfl rfl cqfs_nil cwfs_nil
  exact ⟨hp0, hc0, hq0, all0⟩
def astmts (a b : Stm) : Bool := ssame a b
def astmts_F : FT [.sv .stmt, .sv .stmt] [.bool] := fun x => some (astmts x.1 x.2)
theorem dec_cons {α : Type} [DecidableEq α] (x y : α) (l m : List α) : decide (x :: l = y :: m) = (decide (x = y) && decide (l = m)) := by
  simp only [List.cons.injEq, Bool.decide_and]
theorem astmts_0_loop {R : Type} {kx : Ex → astmts_0_V → Option R} {l m : List Xpr} {s t : Stm} {c : Bool → Option R} (hn : ln l.length) (hm : l.length = m.length)
    (h1 : ∀ i, kx .ret (m, false, l, (l.length : Int), i, s, t) = c false) (h2 : ∀ q i, kx (.exit 0) (m, q, l, (l.length : Int), i, s, t) = c true) (k : Nat) (hk : l.length < k) : iter (fun rec => astmts_0 rec kx) k (m, false, l, (l.length : Int), 0, s, t) = c (decide (l = m)) := by
  refine (iter_ind0 l.length (fun i => (m, false, l, (l.length : Int), (i : Int), s, t)) (fun i => c (decide (l.drop i = m.drop i))) (fun i hi rec hr => ?_) (fun rec => ?_) k 0 (Nat.zero_le _) (by omega)).trans (by rw [List.drop_zero, List.drop_zero])
  · have hi2 : i < m.length := by omega
    simp only [astmts_0, lt_t hi, cond_t, inb_t hi, inb_t hi2, chk, at_nat (c := .expr) hi, at_nat (c := .expr) hi2, wr_succ hi hn, hr, h1, drop_cons hi, drop_cons hi2, dec_cons, asame, xsame_dec]
    cases decide (l[i] = m[i]) <;> rfl
  · simp only [astmts_0, lt_n, cond_f, h2]
    rw [List.drop_eq_nil_of_le (Nat.le_refl _), List.drop_eq_nil_of_le (by omega)]
    rfl
theorem astmts_2_loop {R : Type} {kx : Ex → astmts_2_V → Option R} {l m : List Xpr} {s t : Stm} {c : Bool → Option R} (hn : ln l.length) (hm : l.length = m.length)
    (h1 : ∀ i, kx .ret (m, false, l, (l.length : Int), i, s, t) = c false) (h2 : ∀ q i, kx (.exit 0) (m, q, l, (l.length : Int), i, s, t) = c true) (k : Nat) (hk : l.length < k) : iter (fun rec => astmts_2 rec kx) k (m, false, l, (l.length : Int), 0, s, t) = c (decide (l = m)) := by
  refine (iter_ind0 l.length (fun i => (m, false, l, (l.length : Int), (i : Int), s, t)) (fun i => c (decide (l.drop i = m.drop i))) (fun i hi rec hr => ?_) (fun rec => ?_) k 0 (Nat.zero_le _) (by omega)).trans (by rw [List.drop_zero, List.drop_zero])
  · have hi2 : i < m.length := by omega
    simp only [astmts_2, lt_t hi, cond_t, inb_t hi, inb_t hi2, chk, at_nat (c := .expr) hi, at_nat (c := .expr) hi2, wr_succ hi hn, hr, h1, drop_cons hi, drop_cons hi2, dec_cons, asame, xsame_dec]
    cases decide (l[i] = m[i]) <;> rfl
  · simp only [astmts_2, lt_n, cond_f, h2]
    rw [List.drop_eq_nil_of_le (Nat.le_refl _), List.drop_eq_nil_of_le (by omega)]
    rfl
theorem astmts_1_loop {R : Type} {kx : Ex → astmts_1_V → Option R} {l m : List (List Xpr)} {s t : Stm} {c : Bool → Option R} (hn : ln l.length) (hm : l.length = m.length) (hr0 : ∀ x, x ∈ l → ln x.length) (k : Nat) (hkr : ∀ x, x ∈ l → List.length x < k)
    (h1 : ∀ i, kx .ret (m, false, l, (l.length : Int), i, s, t) = c false) (h2 : ∀ q i, kx (.exit 0) (m, q, l, (l.length : Int), i, s, t) = c true) (hk : l.length < k) : iter (fun rec => astmts_1 k rec kx) k (m, false, l, (l.length : Int), 0, s, t) = c (decide (l = m)) := by
  refine (iter_ind0 l.length (fun i => (m, false, l, (l.length : Int), (i : Int), s, t)) (fun i => c (decide (l.drop i = m.drop i))) (fun i hi rec hr => ?_) (fun rec => ?_) k 0 (Nat.zero_le _) (by omega)).trans (by rw [List.drop_zero, List.drop_zero])
  · have hi2 : i < m.length := by omega
    simp only [astmts_1, lt_t hi, cond_t, inb_t hi, inb_t hi2, chk, at_nat (c := .exprs) hi, at_nat (c := .exprs) hi2, wr_succ hi hn, drop_cons hi, drop_cons hi2, dec_cons]
    by_cases hlen : l[i].length = m[i].length
    · rw [decide_eq_true (show (l[i].length : Int) = (m[i].length : Int) by omega), Bool.not_true, cond_f]
      rw [astmts_2_loop (c := fun b => cond b (c (decide (l.drop (i + 1) = m.drop (i + 1)))) (c false)) (hr0 _ (List.getElem_mem hi)) hlen (fun _ => h1 _) (fun _ _ => hr) k (hkr _ (List.getElem_mem hi))]
      cases decide (l[i] = m[i]) <;> rfl
    · rw [decide_eq_false (show ¬ (l[i].length : Int) = (m[i].length : Int) by omega), decide_eq_false (fun h => hlen (by rw [h])), h1]
      rfl
  · simp only [astmts_1, lt_n, cond_f, h2]
    rw [List.drop_eq_nil_of_le (Nat.le_refl _), List.drop_eq_nil_of_le (by omega)]
    rfl
theorem astmts_3_loop {R : Type} {kx : Ex → astmts_3_V → Option R} {l m : List SetE} {c : Bool → Option R} (hn : ln l.length) (hm : l.length = m.length)
    (h1 : ∀ i, kx .ret (m, false, l, (l.length : Int), i) = c false) (h2 : ∀ q i, kx (.exit 0) (m, q, l, (l.length : Int), i) = c true) (k : Nat) (hk : l.length < k) : iter (fun rec => astmts_3 rec kx) k (m, false, l, (l.length : Int), 0) = c (decide (l = m)) := by
  refine (iter_ind0 l.length (fun i => (m, false, l, (l.length : Int), (i : Int))) (fun i => c (decide (l.drop i = m.drop i))) (fun i hi rec hr => ?_) (fun rec => ?_) k 0 (Nat.zero_le _) (by omega)).trans (by rw [List.drop_zero, List.drop_zero])
  · have hi2 : i < m.length := by omega
    simp only [astmts_3, lt_t hi, cond_t, inb_t hi, inb_t hi2, chk, at_nat (c := .set) hi, at_nat (c := .set) hi2, wr_succ hi hn, hr, h1, drop_cons hi, drop_cons hi2, dec_cons, asame, ← setsame_dec, setsame, xeta_eq]
    cases decide (l[i].name = m[i].name) <;> cases xsame l[i].e m[i].e <;> rfl
  · simp only [astmts_3, lt_n, cond_f, h2]
    rw [List.drop_eq_nil_of_le (Nat.le_refl _), List.drop_eq_nil_of_le (by omega)]
    rfl
theorem dec_len {α : Type} [DecidableEq α] {l m : List α} (h : ¬ l.length = m.length) : decide (l = m) = false := decide_eq_false fun e => h (by rw [e])
def smax (s : Stm) : Nat := s.l.length + s.rows.length + s.sets.length + (s.rows.map List.length).sum
theorem sum_mem {l : List (List Xpr)} {x : List Xpr} (h : x ∈ l) : x.length ≤ (l.map List.length).sum := by
  induction l with
  | nil => cases h
  | cons y l ih =>
    simp only [List.map_cons, List.sum_cons]
    rcases List.mem_cons.1 h with rfl | h
    · omega
    · have := ih h; omega
theorem astmts_b (k : Nat) (a b : Stm) (hb : BdStm a) (hk : smax a < k) : astmts_body k (a, b) = some (ssame a b) := by
  have hk2 := hk
  simp only [smax] at hk2
  simp -zeta only [astmts_body, asame, xsame_dec, xeta_eq, aeqc, aeqs, aeqb]
  extract_lets j6 j9 j j1 j2
  have h6 : ∀ q, j6 q a b = some (q && decide (a.sets = b.sets)) := fun q => by
    simp -zeta only [j6]
    cases q with
    | false => rfl
    | true =>
      rw [cond_t, Bool.true_and]
      by_cases hs : a.sets.length = b.sets.length
      · rw [decide_eq_true (show (a.sets.length : Int) = (b.sets.length : Int) by omega), Bool.not_true, cond_f]
        exact astmts_3_loop (c := some) hb.sets.1 hs (fun _ => rfl) (fun _ _ => rfl) k (by omega)
      · rw [decide_eq_false (show ¬ (a.sets.length : Int) = (b.sets.length : Int) by omega), dec_len hs]
        rfl
  have h9 : ∀ p, j9 p = some (p && (decide (a.cols = b.cols) && decide (a.names = b.names) && decide (a.order = b.order) && decide (a.desc = b.desc) && decide (a.l = b.l)) && decide (a.rows = b.rows) && decide (a.sets = b.sets)) := fun p => by
    simp -zeta only [j9]
    extract_lets j8 j3 j4 j5
    have h8 : ∀ q, j8 q a b = some (p && q && decide (a.rows = b.rows) && decide (a.sets = b.sets)) := fun q => by
      simp -zeta only [j8]
      extract_lets j7
      have h7 : ∀ q, j7 q = some (q && decide (a.rows = b.rows) && decide (a.sets = b.sets)) := fun q => by
        simp -zeta only [j7]
        cases q with
        | false => exact (h6 false).trans rfl
        | true =>
          rw [cond_t, Bool.true_and]
          by_cases hs : a.rows.length = b.rows.length
          · rw [decide_eq_true (show (a.rows.length : Int) = (b.rows.length : Int) by omega), Bool.not_true, cond_f]
            refine (astmts_1_loop (c := fun q => j6 q a b) hb.rows.1 hs (fun x hx => (hb.rows.2 x hx).1) k (fun x hx => by have := sum_mem hx; omega) (fun _ => rfl) (fun _ _ => rfl) (by omega)).trans (h6 _)
          · rw [decide_eq_false (show ¬ (a.rows.length : Int) = (b.rows.length : Int) by omega), dec_len hs]
            exact (h6 false).trans rfl
      cases p with
      | false => exact (h7 false).trans rfl
      | true => exact (h7 q).trans (by rw [Bool.true_and])
    have h3 : ∀ q, j3 q = some (p && (q && decide (a.l = b.l)) && decide (a.rows = b.rows) && decide (a.sets = b.sets)) := fun q => by
      simp -zeta only [j3]
      cases q with
      | false => exact h8 false
      | true =>
        rw [cond_t, Bool.true_and]
        by_cases hs : a.l.length = b.l.length
        · rw [decide_eq_true (show (a.l.length : Int) = (b.l.length : Int) by omega), Bool.not_true, cond_f]
          exact (astmts_0_loop (c := fun q => j8 q a b) hb.l.1 hs (fun _ => rfl) (fun _ _ => rfl) k (by omega)).trans (h8 _)
        · rw [decide_eq_false (show ¬ (a.l.length : Int) = (b.l.length : Int) by omega), dec_len hs]
          exact h8 false
    have h4 : ∀ q, j4 q = some (p && (q && decide (a.desc = b.desc) && decide (a.l = b.l)) && decide (a.rows = b.rows) && decide (a.sets = b.sets)) := fun q => by
      simp -zeta only [j4]
      cases q with
      | false => exact h3 false
      | true => exact (h3 _).trans (by rw [Bool.true_and])
    have h5 : ∀ q, j5 q = some (p && (q && decide (a.order = b.order) && decide (a.desc = b.desc) && decide (a.l = b.l)) && decide (a.rows = b.rows) && decide (a.sets = b.sets)) := fun q => by
      simp -zeta only [j5]
      cases q with
      | false => exact h4 false
      | true => exact (h4 _).trans (by rw [Bool.true_and])
    cases decide (a.cols = b.cols) with
    | false => exact h5 false
    | true => exact (h5 _).trans (by simp only [Bool.true_and])
  simp -zeta only [j2, j1, j, ssame]
  cases decide (a.kind = b.kind) with
  | false => exact (h9 false).trans rfl
  | true =>
    cases decide (a.name = b.name) with
    | false => exact (h9 false).trans rfl
    | true =>
      cases decide (a.on = b.on) with
      | false => exact (h9 false).trans rfl
      | true =>
        cases decide (a.has = b.has) with
        | false => exact (h9 false).trans rfl
        | true =>
          cases decide (a.most = b.most) with
          | false => exact (h9 false).trans rfl
          | true => exact (h9 _).trans (by simp only [Bool.true_and])
theorem astmts_ok : FnOk Tryz.prog elT glT 27 [.sv .stmt, .sv .stmt] [.bool] astmts_F := .fin 0 astmts_run fun (a, b) r hb hx => ⟨smax a + 1, (astmts_b (smax a + 1) a b hb.1 (by omega)).trans hx⟩
end Go.Proofs.YthndhaolemgbdaaGreatDoor
