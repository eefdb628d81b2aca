/- Texts of the proof, one behind the other: Tw, Pa, Lc, Na, Lm, Ar, Shp, Sr, Dg, Nc, Eb, Fc, Es, En, Ep, Ac, Ad, Bw, Shj, Sj. -/
import Derived.Test.YthndhaolemgbdaaGreatDoorA3
import Derived.Test.YthndhaolemgbdaaGreatDoorProg
import Derived.KernelRfl
import Derived.Lib.Bytealg
import Derived.Shelf.Strings.Replace
import Derived.Lib.Walk
import Derived.Lib.Strings
import Derived.Lib.Slices
import Derived.Lib.Builder
import Derived.Lib.UnsafeStr
import Derived.Lib.FrozenHead
import Derived.Laws.Externs
import Derived.Shelf.RegionOpenPlain
import Derived.Shelf.Strings.OnBuilder
/- What the machine is told: the seat's types, package-level variables. -/
namespace Go.Proofs.YthndhaolemgbdaaGreatDoor
open Go.Ax
def signsL : List (Int × Str) := [(4, [65, 78, 68]), (5, [79, 82]), (6, [61]), (7, [60, 62]), (8, [60]), (9, [60, 61]), (10, [62]), (11, [62, 61]), (12, [43]), (13, [45]), (14, [42])]
def wordsL : List Str := [[65, 68, 68], [65, 78, 68], [65, 83, 67], [66, 79, 79, 76], [66, 89], [66, 89, 84, 69, 83], [67, 72, 69, 67, 75], [67, 82, 69, 65, 84, 69], [68, 69, 76, 69, 84, 69], [68, 69, 83, 67], [68, 82, 79, 80], [70, 65, 76, 83, 69], [70, 82, 79, 77], [73, 78, 68, 69, 88], [73, 78, 83, 69, 82, 84], [73, 78, 84], [73, 78, 84, 79], [73, 83], [75, 69, 89], [76, 73, 77, 73, 84], [78, 79, 84], [78, 85, 76, 76], [79, 78], [79, 82], [79, 82, 68, 69, 82], [80, 82, 73, 77, 65, 82, 89], [82, 69, 70, 69, 82, 69, 78, 67, 69, 83], [83, 69, 76, 69, 67, 84], [83, 69, 84], [84, 65, 66, 76, 69], [84, 69, 88, 84], [84, 82, 85, 69], [85, 78, 73, 81, 85, 69], [85, 80, 68, 65, 84, 69], [86, 65, 76, 85, 69, 83], [87, 72, 69, 82, 69]]
def kindsL : List Str := [[], [], [66, 79, 79, 76], [73, 78, 84], [84, 69, 88, 84], [66, 89, 84, 69, 83]]
/-- the types -/
def ttL : List (Nat × Ax.Ty) := [
  (1, .fn),
  (3, .int .i64),
  (4, .bool),
  (5, .int .u8),
  (9, .str),
  (21, .int .i32),
  (23, .st (some .val) [(0, 3), (1, 3), (2, 9)] [.int .i64 0, .int .i64 0, .str []]),
  (24, .sl .expr),
  (26, .st (some .expr) [(0, 3), (1, 23), (4, 9), (5, 24)] [.int .i64 0, .int .i64 0, .int .i64 0, .str [], .str [], .sl .expr [] .nil]),
  (29, .int .i64),
  (34, .sl .str),
  (38, .fn),
  (39, .sl .col),
  (40, .sl .exprs),
  (41, .sl .set),
  (42, .sl .bool),
  (44, .st (some .stmt) [(0, 3), (1, 9), (2, 9), (3, 39), (4, 34), (5, 24), (6, 40), (7, 41), (8, 4), (9, 26), (15, 34), (16, 42), (17, 3)] [.int .i64 0, .str [], .str [], .sl .col [] .nil, .sl .str [] .nil, .sl .expr [] .nil, .sl .exprs [] .nil, .sl .set [] .nil, .bool false, .int .i64 0, .int .i64 0, .int .i64 0, .str [], .str [], .sl .expr [] .nil, .sl .str [] .nil, .sl .bool [] .nil, .int .i64 0]),
  (63, .sl .tok),
  (67, .st (some .tok) [(0, 3), (1, 3), (2, 9), (3, 3)] [.int .i64 0, .int .i64 0, .str [], .int .i64 0]),
  (68, .int .u64),
  (71, .sl .int),
  (77, .ptr),
  (78, .sl .byte),
  (80, .st none [(0, 77), (1, 78)] [.nilp, .sl .byte [] .nil]),
  (82, .st none [(0, 80)] [.nilp, .sl .byte [] .nil]),
  (83, .fn),
  (89, .st (some .set) [(0, 9), (1, 26)] [.str [], .int .i64 0, .int .i64 0, .int .i64 0, .str [], .str [], .sl .expr [] .nil]),
  (94, .fn),
  (100, .st (some .num) [(0, 4), (1, 71)] [.bool false, .sl .int [] .nil]),
  (106, .fn),
  (111, .st (some .col) [(0, 9), (1, 3), (2, 4), (3, 4), (4, 9)] [.str [], .int .i64 0, .bool false, .bool false, .str []]),
  (118, .fn),
  (120, .fn),
  (121, .ptr),
  (126, .st none [(0, 63), (1, 3)] [.sl .tok [] .nil, .int .i64 0]),
  (128, .st none [(0, 126), (2, 4), (3, 3)] [.sl .tok [] .nil, .int .i64 0, .bool false, .int .i64 0]),
  (130, .st (some .got) [(0, 3), (1, 4)] [.int .i64 0, .bool false]),
  (135, .fn),
  (144, .fn),
  (145, .ptr),
  (147, .map),
  (148, .ptr),
  (158, .fn),
  (164, .ptr),
  (176, .st (some .pair) [(0, 9), (1, 3)] [.str [], .int .i64 0]),
  (188, .arr 2 .str),
  (191, .arr 6 .str),
  (194, .ptr),
  (201, .sl .pair),
  (202, .int .u64),
  (221, .arr 36 .str),
  (226, .arr 256 .byte),
  (228, .st none [(0, 5), (1, 5)] [.int .u8 0, .int .u8 0]),
  (230, .int .u32),
  (233, .fn)]
def elT : Ck → TypeId
  | .byte => 5
  | .int => 3
  | .u64 => 202
  | .str => 9
  | .bool => 4
  | .val => 23
  | .tok => 67
  | .col => 111
  | .expr => 26
  | .num => 100
  | .set => 89
  | .stmt => 44
  | .got => 130
  | .pair => 176
  | .exprs => 24
  | .strs => 34
  | .bytes => 78
  | _ => 0
theorem ttL_ok : (ttL.all fun p => tyOk Tryz.prog elT (ttOf ttL) p.1) = true := by kernel_rfl
def glT : Nat → Option Gv := tbl [(0, .map signsL), (1, .arr .str kindsL), (3, .num .i64)]
theorem follows : Tryz.prog.follows .mixedOrders = true := by kernel_rfl
end Go.Proofs.YthndhaolemgbdaaGreatDoor

/- The lexer as plain Lean: what the program's functions and the document's come to; the document's is the program's; tokens of a text as a relation. -/
namespace Go.Proofs.YthndhaolemgbdaaGreatDoor.Lp
open Go.Sx Go.RowKit
abbrev Tok := Go.Ax.Tok
/-! from Lib -/
/-- does a text begin with another? -/
def pre (l m : List UInt8) : Bool := decide (m.length ≤ l.length) && decide (l.take m.length = m)

/-! from Va -/
def inI (n : Int) : Prop := -9223372036854775808 ≤ n ∧ n ≤ 9223372036854775807
instance (n : Int) : Decidable (inI n) := by unfold inI; infer_instance
def absI (n : Int) : Int := if n < 0 then -n else n

/-! from Vb -/
def vis (c : Int) : Bool := decide (32 ≤ c) && decide (c ≤ 126)
def visF (l : List UInt8) : Bool := l.all fun b => vis b.toNat
/-- may it be? -/
def rightF (k n : Int) (s : List UInt8) : Bool :=
  if k = 1 then n == 0 && decide (s = []) else if k = 2 then (n == 0 || n == 1) && decide (s = []) else if k = 3 then decide (s = [])
  else if k = 4 then n == 0 && decide ((s.length : Int) ≤ 1000) && visF s else if k = 5 then n == 0 && decide ((s.length : Int) ≤ 1000) else false
def checkF (k n : Int) (s : List UInt8) : Int := if rightF k n s then 0 else 2

/-! from LxA -/
def isUp (c : Int) : Bool := decide (65 ≤ c) && decide (c ≤ 90)
def isLo (c : Int) : Bool := decide (97 ≤ c) && decide (c ≤ 122)
def isDi (c : Int) : Bool := decide (48 ≤ c) && decide (c ≤ 57)
def isIn (c : Int) : Bool := isLo c || isDi c || c == 95
/-- where bytes of a kind end -/
def runTo (p : Int → Bool) (l : List UInt8) (i : Int) : Int := i + ((l.drop i.toNat).takeWhile fun b => p b.toNat).length
theorem drop_at (l : List UInt8) (j : Int) (h : 0 ≤ j ∧ j < l.length) : l.drop j.toNat = l.getD j.toNat 0 :: l.drop (j + 1).toNat := by
  have h1 : j.toNat < l.length := by omega
  have h2 : (j + 1).toNat = j.toNat + 1 := by omega
  rw [h2, List.drop_eq_getElem_cons h1]
  simp [List.getD_eq_getElem?_getD, h1]
theorem runTo_yes {p : Int → Bool} {l : List UInt8} {j : Int} (h : 0 ≤ j ∧ j < l.length) (hp : p (byt l j) = true) : runTo p l (j + 1) = runTo p l j := by
  unfold runTo
  rw [drop_at l j h]
  have : p ((l.getD j.toNat 0).toNat : Int) = true := hp
  simp only [List.takeWhile_cons, this, if_true, List.length_cons]
  omega
theorem runTo_no {p : Int → Bool} {l : List UInt8} {j : Int} (h : 0 ≤ j ∧ j < l.length) (hp : p (byt l j) = false) : runTo p l j = j := by
  unfold runTo
  rw [drop_at l j h]
  have : p ((l.getD j.toNat 0).toNat : Int) = false := hp
  simp only [List.takeWhile_cons, this, Bool.false_eq_true, if_false, List.length_nil]
  omega
theorem runTo_end {p : Int → Bool} {l : List UInt8} {j : Int} (h : (l.length : Int) ≤ j) : runTo p l j = j := by
  unfold runTo
  rw [List.drop_eq_nil_of_le (by omega)]
  simp
/-! from LxB -/
/-- the digit that a byte is -/
def dg (c : Int) : Int := IntKind.i64.wrap (IntKind.u8.wrap (c - 48))
/-- what is meant between quotes, and where it ends -/
def qGo : List UInt8 → List UInt8 → Int → List UInt8 × Int
  | [], _, _ => ([], -1)
  | [c], acc, i => if c = 39 then (acc, i + 1) else ([], -1)
  | c :: d :: r, acc, i => if c = 39 then (if d = 39 then qGo r (acc ++ [39]) (i + 2) else (acc, i + 1)) else qGo (d :: r) (acc ++ [c]) (i + 1)
/-! from LxC -/
def hexD (c : Int) : Option Int := if 48 ≤ c ∧ c ≤ 57 then some (c - 48) else if 97 ≤ c ∧ c ≤ 102 then some (c - 87) else none
/-- bytes out of hex digits, behind what was read -/
def unGo : List UInt8 → List UInt8 → Option (List UInt8)
  | [], acc => some acc
  | [_], _ => none
  | a :: b :: r, acc => match hexD a.toNat, hexD b.toNat with
    | some x, some y => unGo r (acc ++ [UInt8.ofNat (x * 16 + y).toNat])
    | _, _ => none
/-! from LxD -/
def signs : List UInt8 := [40, 41, 44, 42, 61, 60, 62, 43, 45, 59]
/-- the place of a text among others -/
def idx (x : List UInt8) : List (List UInt8) → Int → Int
  | [], _ => -1
  | l :: r, i => if x = l then i else idx x r (i + 1)
theorem idx_ge (x : List UInt8) : ∀ (ls : List (List UInt8)) (i : Int), 0 ≤ i → (0 ≤ idx x ls i ↔ x ∈ ls)
  | [], i, _ => by simp [idx]
  | l :: r, i, h => by
    by_cases hx : x = l
    · simp [idx, hx, h]
    · simp [idx, hx, idx_ge x r (i + 1) (by omega)]

/-! from LxE -/
def wordF (l : List UInt8) : Bool := wordsL.contains l
def nameF (l : List UInt8) : Bool := !decide (l = []) && decide ((l.length : Int) ≤ 30) && isLo (byt l 0) && (runTo isIn l 0 == l.length)
/-! from LxF -/
theorem runTo_range (p : Int → Bool) (l : List UInt8) (i : Int) (h : 0 ≤ i ∧ i ≤ l.length) : i ≤ runTo p l i ∧ runTo p l i ≤ l.length := by
  unfold runTo
  have h1 := (List.takeWhile_prefix (fun b : UInt8 => p b.toNat) (l := l.drop i.toNat)).length_le
  rw [List.length_drop] at h1
  omega
/-! from LxG -/
theorem runTo_gt {p : Int → Bool} {l : List UInt8} {i : Int} (h : 0 ≤ i ∧ i < l.length) (hp : p (byt l i) = true) : i + 1 ≤ runTo p l i := by
  have h1 := runTo_yes h hp
  have h2 := runTo_range p l (i + 1) (by omega)
  omega
/-! from LxH -/
theorem qGo_in : ∀ (n : Nat) (l acc : List UInt8) (i : Int), l.length ≤ n → 0 ≤ i → (qGo l acc i).2 = -1 ∨ (i + 1 ≤ (qGo l acc i).2 ∧ (qGo l acc i).2 ≤ i + l.length)
  | n, [], acc, i, _, h => by left; rfl
  | n, [c], acc, i, _, h => by
    simp only [qGo]
    split
    · right; simp
    · left; rfl
  | 0, _ :: _ :: _, _, _, hn, _ => by simp at hn
  | n + 1, c :: d :: r, acc, i, hn, h => by
    simp only [List.length_cons] at hn ⊢
    simp only [qGo]
    split
    · split
      · rcases qGo_in n r (acc ++ [39]) (i + 2) (by omega) (by omega) with h1 | h1
        · exact .inl h1
        · right; omega
      · right; simp; omega
    · rcases qGo_in n (d :: r) (acc ++ [c]) (i + 1) (by simp; omega) (by omega) with h1 | h1
      · exact .inl h1
      · right; simp at h1; omega

/-! from LxI -/
/-! from LxJ -/
/-! from RxA -/
def signsI : List Int := [40, 41, 44, 42, 61, 60, 62, 43, 45, 59]
def clsF (c : Int) : Int :=
  if isUp c then 1 else if isLo c then 2 else if isDi c then 3 else if c = 95 then 4 else if c = 39 then 5
  else if c = 32 ∨ c = 9 ∨ c = 10 ∨ c = 13 then 6 else if signsI.contains c then 7 else 0
/-! from RxB -/
def isWd (c : Int) : Bool := decide (1 ≤ clsF c) && decide (clsF c ≤ 4)
/-- the reference's number -/
def rnumGo : List UInt8 → Int → Option Int
  | [], n => some n
  | c :: r, n => if clsF c.toNat ≠ 3 ∨ 922337203685477580 < n ∨ (n = 922337203685477580 ∧ 7 < (c.toNat : Int) - 48) then none else rnumGo r (10 * n + ((c.toNat : Int) - 48))
def rnumF (l : List UInt8) : Int := match rnumGo l 0 with
  | none => -1
  | some n => if 1 < (l.length : Int) ∧ byt l 0 = 48 then -1 else n
/-! from RxC -/
theorem cut_one (l : List UInt8) (j : Int) (h : 0 ≤ j ∧ j < l.length) : cut l j (j + 1) = [l.getD j.toNat 0] := by
  unfold cut
  rw [drop_at l j h, show (j + 1).toNat - j.toNat = 1 by omega]
  rfl

/-! from RxD -/
/-! from RxE -/
/-! from RxF -/
/-! from RxG -/
def nmOk (j c : Int) : Bool := decide (clsF c = 2) || (!decide (j = 0) && (decide (clsF c = 3) || decide (clsF c = 4)))
def okGo : List UInt8 → Int → Bool
  | [], _ => true
  | c :: r, j => nmOk j c.toNat && okGo r (j + 1)
def rnameF (l : List UInt8) : Bool := okGo l 0 && (decide (1 ≤ (l.length : Int)) && decide ((l.length : Int) ≤ 30))

/-! from RxH -/
/-- bytes in hex begin here, by the reference -/
def HexAt (l : List UInt8) (i : Int) : Prop := cut l i (runTo isWd l i) = [120] ∧ runTo isWd l i < l.length ∧ byt l (runTo isWd l i) = 39
instance (l : List UInt8) (i : Int) : Decidable (HexAt l i) := by unfold HexAt; infer_instance
def twoR (l : List UInt8) (i : Int) : Prop := i + 1 < l.length ∧ (cut l i (i + 2) = [60, 62] ∨ cut l i (i + 2) = [60, 61] ∨ cut l i (i + 2) = [62, 61])
instance (l : List UInt8) (i : Int) : Decidable (twoR l i) := by unfold twoR; infer_instance
def tokR (l : List UInt8) (i : Int) : Option (Int × List UInt8 × Int × Int) :=
  if HexAt l i then
    let t := runTo isWd l i
    let q := runTo (fun c => !decide (c = 39)) l (t + 1)
    if q = l.length then none else
    match (if (cut l (t + 1) q).length % 2 = 0 then unGo (cut l (t + 1) q) [] else none) with
    | none => none
    | some b => if 1000 < (b.length : Int) then none else some (5, b, 0, q + 1)
  else if clsF (byt l i) = 1 then (if wordF (cut l i (runTo isWd l i)) then some (1, cut l i (runTo isWd l i), 0, runTo isWd l i) else none)
  else if clsF (byt l i) = 2 then (if rnameF (cut l i (runTo isWd l i)) then some (2, cut l i (runTo isWd l i), 0, runTo isWd l i) else none)
  else if clsF (byt l i) = 3 then (if 0 ≤ rnumF (cut l i (runTo isWd l i)) then some (3, cut l i (runTo isWd l i), rnumF (cut l i (runTo isWd l i)), runTo isWd l i) else none)
  else if clsF (byt l i) = 5 then
    let q := qGo (l.drop (i + 1).toNat) [] (i + 1)
    if ¬ q.2 = -1 ∧ checkF 4 0 q.1 = 0 then some (4, q.1, 0, q.2) else none
  else if clsF (byt l i) = 7 then (if twoR l i then some (6, cut l i (i + 2), 0, i + 2) else some (6, cut l i (i + 1), 0, i + 1))
  else none

/-! from RxI -/
/-! from RxJ -/
/-! from RxK -/
/-! from RxL -/
/-! from RxM -/
/-! from RxN -/
/-! from RxO -/
theorem tokR_end {l : List UInt8} {i : Int} (h0 : 0 ≤ i ∧ i < l.length) {k : Int} {s : List UInt8} {n e : Int} (h : tokR l i = some (k, s, n, e)) : i < e ∧ e ≤ l.length := by
  unfold tokR at h
  have hr := runTo_range isWd l i (by omega)
  split at h
  · rename_i hx
    have hx1 := hx.2.1
    have hq := runTo_range (fun c => !decide (c = 39)) l (runTo isWd l i + 1) (by omega)
    simp only at h
    split at h
    · cases h
    · split at h
      · cases h
      · split at h
        · cases h
        · cases h; omega
  · have hg : ∀ c : Int, 1 ≤ c ∧ c ≤ 4 → clsF (byt l i) = c → i + 1 ≤ runTo isWd l i := fun c hc he => runTo_gt h0 (by simp [isWd]; omega)
    split at h
    · rename_i h1
      have := hg 1 (by omega) h1
      split at h
      · cases h; omega
      · cases h
    · split at h
      · rename_i h1
        have := hg 2 (by omega) h1
        split at h
        · cases h; omega
        · cases h
      · split at h
        · rename_i h1
          have := hg 3 (by omega) h1
          split at h
          · cases h; omega
          · cases h
        · split at h
          · have hqi := qGo_in _ (l.drop (i + 1).toNat) [] (i + 1) (Nat.le_refl _) (by omega)
            have hdl : (l.drop (i + 1).toNat).length = l.length - (i + 1).toNat := List.length_drop
            simp only at h
            split at h
            · rename_i h2
              cases h
              have := h2.1
              omega
            · cases h
          · split at h
            · split at h
              · rename_i h2
                have := h2.1
                cases h; omega
              · cases h; omega
            · cases h
/-! from PlA -/
theorem of256 {p : Int → Prop} (h : ∀ n : Fin 256, p (n.val : Int)) (c : Int) (hc : 0 ≤ c ∧ c ≤ 255) : p c := by
  have := h ⟨c.toNat, by omega⟩
  simpa [Int.toNat_of_nonneg hc.1] using this
theorem u8_range (b : UInt8) : 0 ≤ (b.toNat : Int) ∧ (b.toNat : Int) ≤ 255 := by
  have := b.toNat_lt
  omega
def tw (p : Int → Bool) (m : List UInt8) : List UInt8 := m.takeWhile fun b => p b.toNat
theorem runTo_eq (p : Int → Bool) (l : List UInt8) (i : Int) : runTo p l i = i + (tw p (l.drop i.toNat)).length := rfl
theorem tw_len (p : Int → Bool) : ∀ m : List UInt8, (tw p m).length ≤ m.length
  | [] => by simp [tw]
  | x :: m => by
    have := tw_len p m
    unfold tw at *
    simp only [List.takeWhile_cons]
    split <;> simp <;> omega
theorem tw_take (p : Int → Bool) : ∀ m : List UInt8, m.take (tw p m).length = tw p m
  | [] => by simp [tw]
  | x :: m => by
    have := tw_take p m
    unfold tw at *
    simp only [List.takeWhile_cons]
    split
    · simp [this]
    · simp
theorem cut_run (p : Int → Bool) (l : List UInt8) (i : Int) (h : 0 ≤ i) : cut l i (runTo p l i) = tw p (l.drop i.toNat) := by
  unfold cut
  rw [runTo_eq, show (i + ((tw p (l.drop i.toNat)).length : Int)).toNat - i.toNat = (tw p (l.drop i.toNat)).length by omega]
  exact tw_take p _
theorem byt_drop (l : List UInt8) (i : Int) (h : 0 ≤ i) (j : Nat) : byt (l.drop i.toNat) j = byt l (i + j) := by
  unfold byt
  rw [List.getD_eq_getElem?_getD, List.getD_eq_getElem?_getD, List.getElem?_drop, show i.toNat + (j : Int).toNat = (i + j).toNat by omega]
theorem okGo_ne (l : List UInt8) : ∀ j : Int, 0 < j → okGo l j = l.all fun b => isIn b.toNat := by
  induction l with
  | nil => intro j _; rfl
  | cons c l ih =>
    intro j hj
    have hc := u8_range c
    have key : ∀ n : Fin 256, (decide (clsF (n.val : Int) = 2) || (decide (clsF (n.val : Int) = 3) || decide (clsF (n.val : Int) = 4))) = isIn (n.val : Int) := by decide +kernel
    have hk := of256 (p := fun c => (decide (clsF c = 2) || (decide (clsF c = 3) || decide (clsF c = 4))) = isIn c) key c.toNat hc
    simp only [okGo, List.all_cons, ih (j + 1) (by omega), nmOk, show decide (j = 0) = false by simp; omega, Bool.not_false, Bool.true_and, hk]
theorem okGo_zero (c : UInt8) (l : List UInt8) : okGo (c :: l) 0 = (isLo c.toNat && l.all fun b => isIn b.toNat) := by
  have hc := u8_range c
  have key : ∀ n : Fin 256, decide (clsF (n.val : Int) = 2) = isLo (n.val : Int) := by decide +kernel
  have hk := of256 (p := fun c => decide (clsF c = 2) = isLo c) key c.toNat hc
  simp only [okGo, nmOk, decide_true, Bool.not_true, Bool.false_and, Bool.or_false, hk]
  rw [okGo_ne l (0 + 1) (by omega)]
theorem tw_full {p : Int → Bool} : ∀ m : List UInt8, (tw p m).length = m.length ↔ m.all (fun b => p b.toNat) = true
  | [] => by simp [tw]
  | x :: m => by
    have ih := tw_full (p := p) m
    unfold tw at *
    cases hp : p x.toNat with
    | true => simp only [List.takeWhile_cons, hp, if_true, List.length_cons, List.all_cons, Bool.true_and, ← ih]; omega
    | false => simp [hp]
theorem lo_in {c : Int} (h : isLo c = true) : isIn c = true := by simp [isIn, h]
theorem name_eq (x : List UInt8) : nameF x = rnameF x := by
  cases x with
  | nil => rfl
  | cons c x =>
    have hrun : (runTo isIn (c :: x) 0 == ((c :: x).length : Int)) = (c :: x).all fun b => isIn b.toNat := by
      rw [Bool.eq_iff_iff, ← tw_full, beq_iff_eq, runTo_eq]
      simp only [Int.toNat_zero, List.drop_zero]
      omega
    have hb : byt (c :: x) 0 = (c.toNat : Int) := rfl
    simp only [nameF, rnameF, okGo_zero, hrun, hb]
    rw [Bool.eq_iff_iff]
    simp only [Bool.and_eq_true, Bool.not_eq_true', decide_eq_true_eq, decide_eq_false_iff_not, List.all_cons, List.length_cons]
    constructor
    · rintro ⟨⟨⟨_, h1⟩, h2⟩, h3⟩
      exact ⟨⟨h2, h3.2⟩, by omega, h1⟩
    · rintro ⟨⟨h2, h3⟩, _, h1⟩
      exact ⟨⟨⟨by simp, h1⟩, h2⟩, lo_in h2, h3⟩
/-! from PlB -/
theorem lead {x : List UInt8} (hne : x ≠ []) : (decide (x = [48]) || byt x 0 != 48) = true ↔ ¬ (1 < (x.length : Int) ∧ byt x 0 = 48) := by
  cases x with
  | nil => exact absurd rfl hne
  | cons c x =>
    have hb : byt (c :: x) 0 = (c.toNat : Int) := rfl
    have hc : (c.toNat : Int) = 48 ↔ c = 48 := by rw [← UInt8.toNat_inj]; simp; omega
    rw [hb]
    simp only [Bool.or_eq_true, decide_eq_true_eq, bne_iff_ne, ne_eq, List.cons.injEq, List.length_cons, hc]
    constructor
    · rintro (⟨_, h⟩ | h) ⟨h1, h2⟩
      · subst h; simp at h1
      · exact h h2
    · intro h
      by_cases h2 : c = 48
      · left
        refine ⟨h2, ?_⟩
        cases x with
        | nil => rfl
        | cons d x => exact absurd ⟨by simp; omega, h2⟩ h
      · exact .inr h2
theorem hex_iff (l : List UInt8) (i : Int) (h : 0 ≤ i ∧ i < l.length) : HexAt l i ↔ pre (l.drop i.toNat) [120, 39] = true := by
  have hdl : (l.drop i.toNat).length = l.length - i.toNat := List.length_drop
  have hb1 := byt_drop l i h.1 1
  unfold HexAt
  rw [cut_run _ _ _ h.1, runTo_eq]
  generalize l.drop i.toNat = m at *
  have w120 : isWd ((120 : UInt8).toNat : Int) = true := by decide +kernel
  have w39 : isWd ((39 : UInt8).toNat : Int) = false := by decide +kernel
  match m with
  | [] => simp at hdl; omega
  | [a] =>
    simp only [List.length_singleton] at hdl
    constructor
    · rintro ⟨h1, h2, _⟩
      rw [h1] at h2
      simp at h2
      omega
    · intro h; simp [pre] at h
  | a :: b :: r =>
    have hbb : byt (a :: b :: r) ((1 : Nat) : Int) = (b.toNat : Int) := rfl
    constructor
    · rintro ⟨h1, h2, h3⟩
      rw [h1] at h3
      have hb : b = 39 := by
        have : byt l (i + (([120] : List UInt8).length : Int)) = (b.toNat : Int) := by rw [← hbb, hb1]; rfl
        rw [this] at h3
        rw [← UInt8.toNat_inj]; simp; omega
      have ha : a = 120 := by
        unfold tw at h1
        cases hw : isWd a.toNat with
        | true => simp [hw] at h1; exact h1.1
        | false => simp [hw] at h1
      subst hb; subst ha
      simp [pre]
    · intro h
      simp only [pre, Bool.and_eq_true, decide_eq_true_eq, List.length_cons, List.length_nil, List.take_succ_cons, List.take_zero, List.cons.injEq, and_true] at h
      obtain ⟨_, rfl, rfl⟩ := h
      have e1 : tw isWd (120 :: 39 :: r) = [120] := by
        unfold tw
        rw [List.takeWhile_cons, if_pos w120, List.takeWhile_cons, if_neg (by rw [w39]; simp)]
      rw [e1]
      refine ⟨rfl, ?_, ?_⟩
      · simp only [List.length_cons] at hdl ⊢
        simp
        omega
      · have : byt l (i + (([120] : List UInt8).length : Int)) = (((39 : UInt8).toNat : Nat) : Int) := by
          rw [← hbb, hb1]; rfl
        rw [this]; rfl
theorem pre_two (l : List UInt8) (i : Int) (h : 0 ≤ i ∧ i < l.length) (a b : UInt8) : pre (l.drop i.toNat) [a, b] = true ↔ i + 1 < l.length ∧ cut l i (i + 2) = [a, b] := by
  unfold pre cut
  have hdl : (l.drop i.toNat).length = l.length - i.toNat := List.length_drop
  rw [show (i + 2).toNat - i.toNat = 2 by omega]
  simp only [Bool.and_eq_true, decide_eq_true_eq, List.length_cons, List.length_nil, hdl]
  constructor
  · rintro ⟨h1, h2⟩; exact ⟨by omega, h2⟩
  · rintro ⟨h1, h2⟩; exact ⟨by omega, h2⟩
/-! from PlC -/
/-- between quotes: what is meant, and how many bytes it takes, the quote that ends it among them -/
def qS : List UInt8 → List UInt8 → Option (List UInt8 × Nat)
  | [], _ => none
  | [c], acc => if c = 39 then some (acc, 1) else none
  | c :: d :: r, acc => if c = 39 then (if d = 39 then (qS r (acc ++ [39])).map fun x => (x.1, x.2 + 2) else some (acc, 1)) else (qS (d :: r) (acc ++ [c])).map fun x => (x.1, x.2 + 1)
theorem qGo_eq : ∀ (f : Nat) (l acc : List UInt8) (i : Int), l.length ≤ f → qGo l acc i = match qS l acc with
    | none => ([], -1)
    | some (s, n) => (s, i + (n : Int))
  | _, [], _, _, _ => rfl
  | _, [c], acc, i, _ => by
    by_cases hc : c = 39 <;> simp [qGo, qS, hc]
  | 0, c :: d :: r, _, _, h => by simp at h
  | f + 1, c :: d :: r, acc, i, h => by
    simp only [List.length_cons] at h
    rw [qGo, qS]
    by_cases hc : c = 39
    · rw [if_pos hc, if_pos hc]
      by_cases hd : d = 39
      · rw [if_pos hd, if_pos hd, qGo_eq f r (acc ++ [39]) (i + 2) (by omega)]
        cases qS r (acc ++ [39]) with
        | none => rfl
        | some x => simp; omega
      · rw [if_neg hd, if_neg hd]; rfl
    · rw [if_neg hc, if_neg hc, qGo_eq f (d :: r) (acc ++ [c]) (i + 1) (by simp; omega)]
      cases qS (d :: r) (acc ++ [c]) with
      | none => rfl
      | some x => simp; omega
theorem qS_len : ∀ (f : Nat) (l acc s : List UInt8) (n : Nat), l.length ≤ f → qS l acc = some (s, n) → 1 ≤ n ∧ n ≤ l.length
  | _, [], _, _, _, _, h => by cases h
  | _, [c], acc, s, n, _, h => by
    by_cases hc : c = 39 <;> simp [qS, hc] at h
    simp [← h.2]
  | 0, c :: d :: r, _, _, _, h, _ => by simp at h
  | f + 1, c :: d :: r, acc, s, n, hl, h => by
    simp only [List.length_cons] at hl ⊢
    rw [qS] at h
    by_cases hc : c = 39
    · rw [if_pos hc] at h
      by_cases hd : d = 39
      · rw [if_pos hd] at h
        obtain ⟨⟨s', n'⟩, hq, he⟩ := Option.map_eq_some_iff.1 h
        have := qS_len f r (acc ++ [39]) s' n' (by omega) hq
        simp at he; omega
      · rw [if_neg hd] at h
        simp at h; omega
    · rw [if_neg hc] at h
      obtain ⟨⟨s', n'⟩, hq, he⟩ := Option.map_eq_some_iff.1 h
      have := qS_len f (d :: r) (acc ++ [c]) s' n' (by simp; omega) hq
      simp at he this; omega
/-- what stands behind, if it begins with no quote, does not matter -/
theorem qS_app : ∀ (f : Nat) (l acc s : List UInt8) (n : Nat) (t : List UInt8), l.length ≤ f → (∀ c b, t = c :: b → c ≠ 39) → qS l acc = some (s, n) → qS (l ++ t) acc = some (s, n)
  | _, [], _, _, _, _, _, _, h => by cases h
  | _, [c], acc, s, n, t, _, ht, h => by
    by_cases hc : c = 39 <;> simp [qS, hc] at h
    cases t with
    | nil => simp [qS, hc, h]
    | cons d t => simp [qS, hc, ht d t rfl, h]
  | 0, c :: d :: r, _, _, _, _, h, _, _ => by simp at h
  | f + 1, c :: d :: r, acc, s, n, t, hl, ht, h => by
    simp only [List.length_cons] at hl
    simp only [List.cons_append]
    rw [qS] at h ⊢
    by_cases hc : c = 39
    · rw [if_pos hc] at h ⊢
      by_cases hd : d = 39
      · rw [if_pos hd] at h ⊢
        obtain ⟨⟨s', n'⟩, hq, he⟩ := Option.map_eq_some_iff.1 h
        rw [qS_app f r (acc ++ [39]) s' n' t (by omega) ht hq]
        exact congrArg some he
      · rw [if_neg hd] at h ⊢
        exact h
    · rw [if_neg hc] at h ⊢
      obtain ⟨⟨s', n'⟩, hq, he⟩ := Option.map_eq_some_iff.1 h
      have := qS_app f (d :: r) (acc ++ [c]) s' n' t (by simp; omega) ht hq
      simp only [List.cons_append] at this
      rw [this]
      exact congrArg some he
/-- what is cut off behind does not matter -/
theorem qS_take : ∀ (f : Nat) (l acc s : List UInt8) (n j : Nat), l.length ≤ f → n ≤ j → qS l acc = some (s, n) → qS (l.take j) acc = some (s, n)
  | _, [], _, _, _, _, _, _, h => by cases h
  | _, [c], acc, s, n, j, _, hj, h => by
    have hl := qS_len 1 [c] acc s n (by simp) h
    obtain ⟨j, rfl⟩ : ∃ i, j = i + 1 := ⟨j - 1, by omega⟩
    simpa using h
  | 0, c :: d :: r, _, _, _, _, h, _, _ => by simp at h
  | f + 1, c :: d :: r, acc, s, n, j, hl, hj, h => by
    have hn := qS_len (f + 1) (c :: d :: r) acc s n hl h
    simp only [List.length_cons] at hl
    obtain ⟨j, rfl⟩ : ∃ i, j = i + 1 := ⟨j - 1, by omega⟩
    rw [qS] at h
    by_cases hc : c = 39
    · rw [if_pos hc] at h
      by_cases hd : d = 39
      · rw [if_pos hd] at h
        obtain ⟨⟨s', n'⟩, hq, he⟩ := Option.map_eq_some_iff.1 h
        simp only [Prod.mk.injEq] at he
        obtain ⟨j, rfl⟩ : ∃ i, j = i + 1 := ⟨j - 1, by omega⟩
        simp only [List.take_succ_cons]
        rw [qS, if_pos hc, if_pos hd, qS_take f r (acc ++ [39]) s' n' j (by omega) (by omega) hq]
        simp [he]
      · rw [if_neg hd] at h
        cases j with
        | zero => simp [qS, hc]; simpa using h
        | succ j => simp only [List.take_succ_cons]; rw [qS, if_pos hc, if_neg hd]; exact h
    · rw [if_neg hc] at h
      obtain ⟨⟨s', n'⟩, hq, he⟩ := Option.map_eq_some_iff.1 h
      simp only [Prod.mk.injEq] at he
      have hn' := qS_len f (d :: r) (acc ++ [c]) s' n' (by simp; omega) hq
      obtain ⟨j, rfl⟩ : ∃ i, j = i + 1 := ⟨j - 1, by omega⟩
      have := qS_take f (d :: r) (acc ++ [c]) s' n' (j + 1) (by simp; omega) (by omega) hq
      simp only [List.take_succ_cons] at this ⊢
      rw [qS, if_neg hc, this]
      simp [he]
theorem tw_app {p : Int → Bool} (t : List UInt8) (ht : ∀ c b, t = c :: b → p c.toNat = false) : ∀ m : List UInt8, tw p (m ++ t) = tw p m
  | [] => by
    cases t with
    | nil => rfl
    | cons c t => simp [tw, ht c t rfl]
  | x :: m => by
    have ih := tw_app t ht m
    unfold tw at *
    cases hp : p x.toNat with
    | true => simp [hp]; exact ih
    | false => simp [hp]
theorem tw_take' {p : Int → Bool} : ∀ (m : List UInt8) (j : Nat), tw p (m.take j) = (tw p m).take j
  | [], j => by simp [tw]
  | x :: m, 0 => by simp [tw]
  | x :: m, j + 1 => by
    have ih := tw_take' (p := p) m j
    unfold tw at *
    cases hp : p x.toNat with
    | true => simp [hp]; exact ih
    | false => simp [hp]
def nq (c : Int) : Bool := !decide (c = 39)
def twoS (m : List UInt8) : Bool := pre m [60, 62] || pre m [60, 61] || pre m [62, 61]
/-- the token at the head of a text: kind, text, number, how many bytes it takes -/
def tokS (m : List UInt8) : Option (Int × List UInt8 × Int × Nat) :=
  if pre m [120, 39] then
    (if (tw nq (m.drop 2)).length = (m.drop 2).length then none else
    match (if (tw nq (m.drop 2)).length % 2 = 0 then unGo (tw nq (m.drop 2)) [] else none) with
    | none => none
    | some b => if 1000 < (b.length : Int) then none else some (5, b, 0, (tw nq (m.drop 2)).length + 3))
  else if clsF (byt m 0) = 1 then (if wordF (tw isWd m) then some (1, tw isWd m, 0, (tw isWd m).length) else none)
  else if clsF (byt m 0) = 2 then (if rnameF (tw isWd m) then some (2, tw isWd m, 0, (tw isWd m).length) else none)
  else if clsF (byt m 0) = 3 then (if 0 ≤ rnumF (tw isWd m) then some (3, tw isWd m, rnumF (tw isWd m), (tw isWd m).length) else none)
  else if clsF (byt m 0) = 5 then
    match qS (m.drop 1) [] with
    | none => none
    | some (s, n) => if checkF 4 0 s = 0 then some (4, s, 0, n + 1) else none
  else if clsF (byt m 0) = 7 then (if twoS m then some (6, m.take 2, 0, 2) else some (6, m.take 1, 0, 1))
  else none
theorem tokR_S (l : List UInt8) (i : Int) (h : 0 ≤ i ∧ i < l.length) : tokR l i = (tokS (l.drop i.toNat)).map fun x => (x.1, x.2.1, x.2.2.1, i + (x.2.2.2 : Int)) := by
  have hb0 : byt (l.drop i.toNat) 0 = byt l i := by simpa using byt_drop l i h.1 0
  have hdl : (l.drop i.toNat).length = l.length - i.toNat := List.length_drop
  have hd1 : (l.drop i.toNat).drop 1 = l.drop (i + 1).toNat := by rw [List.drop_drop]; congr 1; omega
  have hd2 : (l.drop i.toNat).drop 2 = l.drop (i + 2).toNat := by rw [List.drop_drop]; congr 1; omega
  unfold tokR tokS
  by_cases hx : HexAt l i
  · rw [if_pos hx, if_pos ((hex_iff l i h).1 hx)]
    have hr1 : runTo isWd l i = i + 1 := by
      rw [runTo_eq, ← cut_run _ _ _ h.1, hx.1]; rfl
    have hlt : i + 1 < l.length := by have := hx.2.1; omega
    have hdl2 : (l.drop (i + 2).toNat).length = l.length - (i + 2).toNat := List.length_drop
    rw [hr1]
    simp only
    rw [show i + 1 + 1 = i + 2 by omega, hd2, cut_run _ _ _ (by omega), runTo_eq]
    change (if i + 2 + ((tw nq (l.drop (i + 2).toNat)).length : Int) = l.length then none else match (if (tw nq (l.drop (i + 2).toNat)).length % 2 = 0 then unGo (tw nq (l.drop (i + 2).toNat)) [] else none) with | none => none | some b => if 1000 < (b.length : Int) then none else some ((5 : Int), b, (0 : Int), i + 2 + ((tw nq (l.drop (i + 2).toNat)).length : Int) + 1)) = _
    generalize tw nq (l.drop (i + 2).toNat) = r at *
    by_cases hf : r.length = (l.drop (i + 2).toNat).length
    · rw [if_pos (show i + 2 + (r.length : Int) = l.length by omega), if_pos hf]; rfl
    · rw [if_neg (show ¬ i + 2 + (r.length : Int) = l.length by omega), if_neg hf]
      generalize (if r.length % 2 = 0 then unGo r [] else none) = u
      cases u with
      | none => rfl
      | some b =>
        by_cases hbig : 1000 < (b.length : Int)
        · simp only [if_pos hbig]; rfl
        · simp only [if_neg hbig, Option.map_some, Option.some.injEq, Prod.mk.injEq, true_and]
          omega
  · rw [if_neg hx, if_neg (fun hh => hx ((hex_iff l i h).2 hh)), hb0, cut_run _ _ _ h.1, runTo_eq]
    split
    · split <;> rfl
    · split
      · split <;> rfl
      · split
        · split <;> rfl
        · split
          · rw [hd1, qGo_eq _ _ _ _ (Nat.le_refl _)]
            cases qS (l.drop (i + 1).toNat) [] with
            | none => rfl
            | some x =>
              obtain ⟨s, n⟩ := x
              by_cases hk : checkF 4 0 s = 0
              · simp only [if_pos hk]
                rw [if_pos ⟨by omega, hk⟩]
                simp; omega
              · simp [hk]
          · split
            · have htwo : twoR l i ↔ twoS (l.drop i.toNat) = true := by
                simp only [twoS, Bool.or_eq_true, pre_two l i h, twoR]
                constructor
                · rintro ⟨h1, h2 | h2 | h2⟩
                  · exact .inl (.inl ⟨h1, h2⟩)
                  · exact .inl (.inr ⟨h1, h2⟩)
                  · exact .inr ⟨h1, h2⟩
                · rintro ((⟨h1, h2⟩ | ⟨h1, h2⟩) | ⟨h1, h2⟩)
                  · exact ⟨h1, .inl h2⟩
                  · exact ⟨h1, .inr (.inl h2)⟩
                  · exact ⟨h1, .inr (.inr h2)⟩
              have hc : ∀ k : Nat, cut l i (i + k) = (l.drop i.toNat).take k := fun k => by
                unfold cut; congr 1; omega
              have h1 := hc 1
              have h2 := hc 2
              by_cases ht : twoR l i
              · rw [if_pos ht, if_pos (htwo.1 ht)]
                simp only [Option.map_some]
                rw [← h2]; rfl
              · rw [if_neg ht, if_neg (fun hh => ht (htwo.2 hh))]
                simp only [Option.map_some]
                rw [← h1]; rfl
            · rfl

/-! from PlD -/
theorem pre_take {m x : List UInt8} {j : Nat} (h : pre (m.take j) x = true) : pre m x = true := by
  simp only [pre, Bool.and_eq_true, decide_eq_true_eq, List.length_take, List.take_take] at h ⊢
  have h2 := h.2
  rw [show min x.length j = x.length by omega] at h2
  exact ⟨by omega, h2⟩
theorem pre_take' {m x : List UInt8} {j : Nat} (h : pre m x = true) (hj : x.length ≤ j) : pre (m.take j) x = true := by
  simp only [pre, Bool.and_eq_true, decide_eq_true_eq, List.length_take, List.take_take] at h ⊢
  refine ⟨by omega, ?_⟩
  rw [show min x.length j = x.length by omega]
  exact h.2
theorem byt_take {m : List UInt8} {j : Nat} (h : 1 ≤ j) : byt (m.take j) 0 = byt m 0 := by
  unfold byt
  simp [List.getD_eq_getElem?_getD, show 0 < j by omega]
theorem twoS_take {m : List UInt8} {j : Nat} (h : twoS (m.take j) = true) : twoS m = true := by
  simp only [twoS, Bool.or_eq_true] at h ⊢
  exact h.imp (Or.imp pre_take pre_take) pre_take
theorem twoS_take' {m : List UInt8} {j : Nat} (h : twoS m = true) (hj : 2 ≤ j) : twoS (m.take j) = true := by
  simp only [twoS, Bool.or_eq_true] at h ⊢
  exact h.imp (Or.imp (fun h => pre_take' h hj) (fun h => pre_take' h hj)) (fun h => pre_take' h hj)
theorem tokS_len {m : List UInt8} {k : Int} {s : List UInt8} {n : Int} {e : Nat} (h : tokS m = some (k, s, n, e)) : 1 ≤ e ∧ e ≤ m.length := by
  cases m with
  | nil => exact absurd (h.symm.trans (show tokS [] = none by decide +kernel)) (by simp)
  | cons c m =>
    have h0 : (0 : Int) ≤ 0 ∧ (0 : Int) < ((c :: m).length : Int) := by simp
    have hr := tokR_S (c :: m) 0 h0
    simp only [Int.toNat_zero, List.drop_zero, h, Option.map_some] at hr
    have := tokR_end h0 hr
    omega
theorem tokS_take {m : List UInt8} {k : Int} {s : List UInt8} {n : Int} {e j : Nat} (h : tokS m = some (k, s, n, e)) (hj : e ≤ j) : tokS (m.take j) = some (k, s, n, e) := by
  have hlen := tokS_len h
  have hb := byt_take (m := m) (j := j) (by omega)
  have htw : ∀ p : Int → Bool, (tw p m).length ≤ j → tw p (m.take j) = tw p m := fun p hp => by
    rw [tw_take', List.take_of_length_le hp]
  unfold tokS at h ⊢
  by_cases hx : pre m [120, 39] = true
  · rw [if_pos hx] at h
    have e3 : ∀ r : List UInt8, (if r.length = (m.drop 2).length then none else match (if r.length % 2 = 0 then unGo r [] else none) with | none => none | some b => if 1000 < (b.length : Int) then none else some ((5 : Int), b, (0 : Int), r.length + 3)) = some (k, s, n, e) → e = r.length + 3 ∧ r.length ≠ (m.drop 2).length := by
      intro r hr
      split at hr
      · cases hr
      · rename_i hne
        split at hr
        · cases hr
        · split at hr
          · cases hr
          · simp only [Option.some.injEq, Prod.mk.injEq] at hr
            exact ⟨hr.2.2.2.symm, hne⟩
    obtain ⟨he, hne⟩ := e3 _ h
    have hdt : (m.take j).drop 2 = (m.drop 2).take (j - 2) := by rw [List.drop_take]
    have hq : tw nq ((m.take j).drop 2) = tw nq (m.drop 2) := by
      rw [hdt, tw_take', List.take_of_length_le (by omega)]
    have hl := tw_len nq (m.drop 2)
    rw [if_pos (pre_take' hx (by simp; omega)), hq]
    have hne' : ¬ (tw nq (m.drop 2)).length = ((m.take j).drop 2).length := by
      rw [hdt, List.length_take]; omega
    rw [if_neg hne']
    rw [if_neg hne] at h
    exact h
  · rw [if_neg hx] at h
    rw [if_neg (fun hh => hx (pre_take hh)), hb]
    have key : ∀ (b : Bool) (kk vv : Int), (if b = true then some (kk, tw isWd m, vv, (tw isWd m).length) else none) = some (k, s, n, e) → tw isWd (m.take j) = tw isWd m := by
      intro b kk vv hh
      cases b
      · cases hh
      · simp only [if_true, Option.some.injEq, Prod.mk.injEq] at hh
        exact htw isWd (by omega)
    split
    · rename_i h1; rw [if_pos h1] at h; rw [key _ _ _ h]; exact h
    · rename_i h1; rw [if_neg h1] at h
      split
      · rename_i h2; rw [if_pos h2] at h; rw [key _ _ _ h]; exact h
      · rename_i h2; rw [if_neg h2] at h
        split
        · rename_i h3; rw [if_pos h3] at h
          have : tw isWd (m.take j) = tw isWd m := by
            split at h
            · simp only [Option.some.injEq, Prod.mk.injEq] at h
              exact htw isWd (by omega)
            · cases h
          rw [this]; exact h
        · rename_i h3; rw [if_neg h3] at h
          split
          · rename_i h5; rw [if_pos h5] at h
            rw [List.drop_take]
            cases hq : qS (m.drop 1) [] with
            | none => rw [hq] at h; cases h
            | some x =>
              obtain ⟨s', n'⟩ := x
              rw [hq] at h
              have hle : n' ≤ j - 1 := by
                simp only at h
                split at h
                · simp only [Option.some.injEq, Prod.mk.injEq] at h; omega
                · cases h
              rw [qS_take _ _ _ s' n' (j - 1) (Nat.le_refl _) hle hq]
              exact h
          · rename_i h5; rw [if_neg h5] at h
            split
            · rename_i h7; rw [if_pos h7] at h
              by_cases h2' : twoS m = true
              · rw [if_pos h2'] at h
                have : 2 ≤ j := by simp only [Option.some.injEq, Prod.mk.injEq] at h; omega
                rw [if_pos (twoS_take' h2' this), List.take_take, show min 2 j = 2 by omega]
                exact h
              · rw [if_neg h2'] at h
                rw [if_neg (fun hh => h2' (twoS_take hh)), List.take_take, show min 1 j = 1 by omega]
                exact h
            · rename_i h7; rw [if_neg h7] at h; exact h
theorem blank_facts : ∀ n : Fin 256, clsF (n.val : Int) = 6 → isWd (n.val : Int) = false ∧ (n.val : Int) ≠ 39 ∧ (n.val : Int) ≠ 61 ∧ (n.val : Int) ≠ 62 := by decide +kernel
theorem blank_c {c : UInt8} (h : clsF c.toNat = 6) : isWd c.toNat = false ∧ c ≠ 39 ∧ c ≠ 61 ∧ c ≠ 62 := by
  have := of256 (p := fun c => clsF c = 6 → isWd c = false ∧ c ≠ 39 ∧ c ≠ 61 ∧ c ≠ 62) blank_facts c.toNat (u8_range c) h
  refine ⟨this.1, ?_, ?_, ?_⟩
  · rintro rfl; exact this.2.1 rfl
  · rintro rfl; exact this.2.2.1 rfl
  · rintro rfl; exact this.2.2.2 rfl
theorem pre_app {m : List UInt8} (hm : m ≠ []) (c : UInt8) (b : List UInt8) {x y : UInt8} (h : c ≠ y) : pre (m ++ c :: b) [x, y] = pre m [x, y] := by
  match m with
  | [] => exact absurd rfl hm
  | [a] =>
    have : pre [a] [x, y] = false := by simp [pre]
    rw [this]
    simp [pre, h]
  | a :: a' :: r => simp [pre]
theorem twoS_app {m : List UInt8} (hm : m ≠ []) {c : UInt8} (b : List UInt8) (hc : clsF c.toNat = 6) : twoS (m ++ c :: b) = twoS m := by
  have h := blank_c hc
  simp only [twoS, pre_app hm c b h.2.2.1, pre_app hm c b h.2.2.2]
theorem byt_app {m : List UInt8} (hm : m ≠ []) (t : List UInt8) : byt (m ++ t) 0 = byt m 0 := by
  cases m with
  | nil => exact absurd rfl hm
  | cons a m => rfl
/-- a token that a quote opens -/
def openB (m : List UInt8) : Prop := byt m 0 = 39 ∨ pre m [120, 39] = true
theorem cls39 {c : Int} (h : clsF c = 5) : c = 39 := by
  unfold clsF at h
  split at h; · omega
  split at h; · omega
  split at h; · omega
  split at h; · omega
  split at h; · assumption
  split at h; · omega
  split at h <;> omega
/-- with a blank behind it a token is the same; what is none, and is not open, is none -/
theorem tokS_app {m : List UInt8} (hm : m ≠ []) {c : UInt8} (b : List UInt8) (hc : clsF c.toNat = 6) : (tokS m ≠ none ∨ ¬ openB m) → tokS (m ++ c :: b) = tokS m := by
  intro hor
  have hbl := blank_c hc
  have htw : tw isWd (m ++ c :: b) = tw isWd m := tw_app _ (fun d t hd => by cases hd; exact hbl.1) m
  unfold tokS at hor ⊢
  rw [pre_app hm c b hbl.2.1, htw, byt_app hm, twoS_app hm b hc]
  by_cases hx : pre m [120, 39] = true
  · rw [if_pos hx] at hor
    rw [if_pos hx, if_pos hx]
    have h2 : 2 ≤ m.length := by
      simp only [pre, Bool.and_eq_true, decide_eq_true_eq, List.length_cons, List.length_nil] at hx; omega
    have hd : (m ++ c :: b).drop 2 = m.drop 2 ++ c :: b := by rw [List.drop_append_of_le_length h2]
    rcases hor with hor | hor
    · have hne : ¬ (tw nq (m.drop 2)).length = (m.drop 2).length := fun hh => by rw [if_pos hh] at hor; exact hor rfl
      have hfull : ∃ r1 d r2, m.drop 2 = r1 ++ d :: r2 ∧ nq d.toNat = false := by
        have hsp : ∀ x : List UInt8, (tw nq x).length ≠ x.length → ∃ r1 d r2, x = r1 ++ d :: r2 ∧ nq d.toNat = false := by
          intro x
          induction x with
          | nil => intro h; simp [tw] at h
          | cons y x ih =>
            intro hne
            cases hy : nq y.toNat with
            | false => exact ⟨[], y, x, rfl, hy⟩
            | true =>
              have : (tw nq x).length ≠ x.length := by
                unfold tw at hne ⊢
                simp [hy] at hne
                exact hne
              obtain ⟨r1, d, r2, h1, h2⟩ := ih this
              exact ⟨y :: r1, d, r2, by rw [h1]; rfl, h2⟩
        exact hsp _ hne
      have htq : tw nq ((m ++ c :: b).drop 2) = tw nq (m.drop 2) := by
        obtain ⟨r1, d, r2, h1, h2'⟩ := hfull
        rw [hd, h1, List.append_assoc, List.cons_append]
        rw [tw_app (p := nq) (d :: (r2 ++ c :: b)) (fun x t hx => by cases hx; exact h2') r1, tw_app (p := nq) (d :: r2) (fun x t hx => by cases hx; exact h2') r1]
      have hl := tw_len nq (m.drop 2)
      have hne' : ¬ (tw nq (m.drop 2)).length = ((m ++ c :: b).drop 2).length := by
        rw [hd, List.length_append]; omega
      rw [htq, if_neg hne', if_neg hne]
    · exact absurd (.inr hx) hor
  · rw [if_neg hx] at hor
    rw [if_neg hx, if_neg hx]
    have ht1 : (m ++ c :: b).take 1 = m.take 1 := by
      cases m with
      | nil => exact absurd rfl hm
      | cons a m => rfl
    have ht2 : twoS m = true → (m ++ c :: b).take 2 = m.take 2 := fun h2 => by
      have : 2 ≤ m.length := by
        simp only [twoS, Bool.or_eq_true, pre, Bool.and_eq_true, decide_eq_true_eq, List.length_cons, List.length_nil] at h2
        omega
      rw [List.take_append_of_le_length this]
    by_cases h1 : clsF (byt m 0) = 1
    · rw [if_pos h1, if_pos h1]
    · by_cases h2 : clsF (byt m 0) = 2
      · rw [if_neg h1, if_neg h1, if_pos h2, if_pos h2]
      · by_cases h3 : clsF (byt m 0) = 3
        · rw [if_neg h1, if_neg h1, if_neg h2, if_neg h2, if_pos h3, if_pos h3]
        · rw [if_neg h1, if_neg h1, if_neg h2, if_neg h2, if_neg h3, if_neg h3]
          rw [if_neg h1, if_neg h2, if_neg h3] at hor
          by_cases h5 : clsF (byt m 0) = 5
          · rw [if_pos h5] at hor
            rw [if_pos h5, if_pos h5]
            rcases hor with hor | hor
            · have hd : (m ++ c :: b).drop 1 = m.drop 1 ++ c :: b := by
                cases m with
                | nil => exact absurd rfl hm
                | cons a m => rfl
              cases hq : qS (m.drop 1) [] with
              | none => rw [hq] at hor; exact absurd rfl hor
              | some x =>
                rw [hd, qS_app _ _ _ x.1 x.2 (c :: b) (Nat.le_refl _) (fun d t hd => by cases hd; exact hbl.2.1) hq]
            · exact absurd (.inl (cls39 h5)) hor
          · rw [if_neg h5, if_neg h5]
            by_cases h7 : clsF (byt m 0) = 7
            · rw [if_pos h7, if_pos h7]
              by_cases h2' : twoS m = true
              · rw [if_pos h2', if_pos h2', ht2 h2']
              · rw [if_neg h2', if_neg h2', ht1]
            · rw [if_neg h7, if_neg h7]

/-! from PlE -/
/-- the tokens of a text that begins at a place -/
inductive Sc : List UInt8 → Int → List Tok → Prop where
  | nil {p : Int} : Sc [] p []
  | blank {c : UInt8} {r : List UInt8} {p : Int} {ts : List Tok} : clsF c.toNat = 6 → Sc r (p + 1) ts → Sc (c :: r) p ts
  | tok {m : List UInt8} {p : Int} {k : Int} {s : List UInt8} {n : Int} {e : Nat} {ts : List Tok} : clsF (byt m 0) ≠ 6 → tokS m = some (k, s, n, e) → Sc (m.drop e) (p + e) ts → Sc m p (⟨k, p, s, n⟩ :: ts)
/-- the place at which a text is wrong -/
inductive Er : List UInt8 → Int → Int → Prop where
  | blank {c : UInt8} {r : List UInt8} {p j : Int} : clsF c.toNat = 6 → Er r (p + 1) j → Er (c :: r) p j
  | tok {m : List UInt8} {p : Int} {k : Int} {s : List UInt8} {n : Int} {e : Nat} {j : Int} : clsF (byt m 0) ≠ 6 → tokS m = some (k, s, n, e) → Er (m.drop e) (p + e) j → Er m p j
  | bad {m : List UInt8} {p : Int} : m ≠ [] → clsF (byt m 0) ≠ 6 → tokS m = none → Er m p p
theorem tokS_nil : tokS [] = none := by decide +kernel
def tokOff (d : Int) (t : Tok) : Tok := ⟨t.kind, t.pos + d, t.s, t.n⟩
theorem Sc.off {m : List UInt8} {p : Int} {ts : List Tok} (h : Sc m p ts) (d : Int) : Sc m (p + d) (ts.map (tokOff d)) := by
  induction h with
  | nil => exact .nil
  | blank hc _ ih => exact .blank hc (by rw [show ∀ x : Int, x + d + 1 = x + 1 + d from fun x => by omega]; exact ih)
  | tok h1 h2 _ ih => exact .tok h1 h2 (by rw [show ∀ x y : Int, x + d + y = x + y + d from fun x y => by omega]; exact ih)
theorem Er.off {m : List UInt8} {p j : Int} (h : Er m p j) (d : Int) : Er m (p + d) (j + d) := by
  induction h with
  | blank hc _ ih => exact .blank hc (by rw [show ∀ x : Int, x + d + 1 = x + 1 + d from fun x => by omega]; exact ih)
  | tok h1 h2 _ ih => exact .tok h1 h2 (by rw [show ∀ x y : Int, x + d + y = x + y + d from fun x y => by omega]; exact ih)
  | bad h0 h1 h2 => exact .bad h0 h1 h2
theorem ne_of_tok {m : List UInt8} {x : Int × List UInt8 × Int × Nat} (h : tokS m = some x) : m ≠ [] := by
  rintro rfl; rw [tokS_nil] at h; cases h
theorem Sc.app {a : List UInt8} {p : Int} {ts : List Tok} (h : Sc a p ts) {c : UInt8} (hc : clsF c.toNat = 6) (b : List UInt8) : ∀ {us : List Tok}, Sc b (p + a.length + 1) us → Sc (a ++ c :: b) p (ts ++ us) := by
  induction h with
  | nil => intro us hb; exact .blank hc (by simpa using hb)
  | blank hx _ ih =>
    intro us hb
    refine .blank hx (ih ?_)
    rename_i r p _ _
    rw [show p + 1 + (r.length : Int) + 1 = p + ((r.length + 1 : Nat) : Int) + 1 by omega]
    exact hb
  | tok h1 h2 _ ih =>
    intro us hb
    have hm := ne_of_tok h2
    have hl := tokS_len h2
    refine .tok (by rw [byt_app hm]; exact h1) ((tokS_app hm b hc (.inl (by rw [h2]; simp))).trans h2) ?_
    rw [List.drop_append_of_le_length hl.2]
    refine ih ?_
    rename_i m p _ _ _ e _ _
    rw [List.length_drop, show p + (e : Int) + ((m.length - e : Nat) : Int) + 1 = p + (m.length : Int) + 1 by omega]
    exact hb
/-- wrong ahead of the blank: there, if no quote opens it -/
theorem Er.app {a : List UInt8} {p j : Int} (h : Er a p j) {c : UInt8} (hc : clsF c.toNat = 6) (b : List UInt8) : ∃ i : Nat, j = p + i ∧ i < a.length ∧ (openB (a.drop i) ∨ Er (a ++ c :: b) p j) := by
  induction h with
  | blank hx _ ih =>
    obtain ⟨i, h1, h2, h3⟩ := ih
    refine ⟨i + 1, by omega, by simp; omega, ?_⟩
    exact h3.imp (fun h => h) (fun h => .blank hx h)
  | tok h1 h2 _ ih =>
    obtain ⟨i, h3, h4, h5⟩ := ih
    have hm := ne_of_tok h2
    have hl := tokS_len h2
    rename_i m p _ _ _ e _ _
    rw [List.length_drop] at h4
    refine ⟨e + i, by omega, by omega, ?_⟩
    rw [List.drop_drop] at h5
    refine h5.imp (fun h => h) (fun h => ?_)
    refine .tok (by rw [byt_app hm]; exact h1) ((tokS_app hm b hc (.inl (by rw [h2]; simp))).trans h2) ?_
    rw [List.drop_append_of_le_length hl.2]
    exact h
  | bad h0 h1 h2 =>
    rename_i m p
    refine ⟨0, by omega, List.length_pos_iff.2 h0, ?_⟩
    by_cases ho : openB m
    · exact .inl ho
    · right
      exact .bad (by simp) (by rw [byt_app h0]; exact h1) ((tokS_app h0 b hc (.inr ho)).trans h2)
theorem Sc.le {m : List UInt8} {p : Int} {ts : List Tok} (h : Sc m p ts) : ∀ t, t ∈ ts → p ≤ t.pos := by
  induction h with
  | nil => intro t h; cases h
  | blank _ _ ih => intro t h; have := ih t h; omega
  | tok _ _ _ ih =>
    intro t h
    simp only [List.mem_cons] at h
    rcases h with rfl | h
    · exact Int.le_refl _
    · have := ih t h; omega
theorem Sc.part {m : List UInt8} {p : Int} {ts : List Tok} (h : Sc m p ts) : ∀ (k : Nat) (t : Tok), ts[k]? = some t → ∃ A : Nat, t.pos = p + A ∧ A < m.length ∧ Sc (m.take A) p (ts.take k) ∧ Sc (m.drop A) t.pos (ts.drop k) := by
  induction h with
  | nil => intro k t h; simp at h
  | blank hc _ ih =>
    intro k t h
    obtain ⟨A, h1, h2, h3, h4⟩ := ih k t h
    exact ⟨A + 1, by omega, by simp; omega, by rw [List.take_succ_cons]; exact .blank hc h3, h4⟩
  | tok h1 h2 h3 ih =>
    intro k t h
    have hl := tokS_len h2
    rename_i m p _ _ _ e _
    cases k with
    | zero =>
      simp only [List.getElem?_cons_zero, Option.some.injEq] at h
      subst h
      exact ⟨0, by simp, by omega, by simp; exact .nil, by simp; exact .tok h1 h2 h3⟩
    | succ k =>
      obtain ⟨A, h4, h5, h6, h7⟩ := ih k t (by simpa using h)
      rw [List.length_drop] at h5
      refine ⟨e + A, by omega, by omega, ?_, by rw [← List.drop_drop]; exact h7⟩
      rw [List.take_succ_cons]
      refine .tok (by rw [byt_take (by omega)]; exact h1) (tokS_take h2 (by omega)) ?_
      rw [List.drop_take, show e + A - e = A by omega]
      exact h6
/-- the next token is farther behind -/
theorem Sc.next {m : List UInt8} {p : Int} {t : Tok} {ts : List Tok} (h : Sc m p (t :: ts)) (ht : t.pos = p) : ∀ u, u ∈ ts → p < u.pos := by
  cases h with
  | blank hc h2 => have := h2.le t (by simp); omega
  | tok _ h2 h3 =>
    intro u hu
    have := h3.le u hu
    have := tokS_len h2
    omega
end Go.Proofs.YthndhaolemgbdaaGreatDoor.Lp

/- Contracts of the library's functions, from walks. -/
namespace Go.Ax
end Go.Ax
namespace Go.Proofs.YthndhaolemgbdaaGreatDoor
open Go.Ax
open Go.Sx (Con S Is con_intro rt_is)
end Go.Proofs.YthndhaolemgbdaaGreatDoor

/- The values' own functions: may it be, does it fit, how do two stand, sums, differences, products. -/
namespace Go.Proofs.YthndhaolemgbdaaGreatDoor
open Go.Ax
/-! ## exchequer/value.visible -/
def visible_0_sg : Sig := ⟨20, [(0, .str), (2, .bool), (5, .int .i64), (6, .int .i64)], [], [], 0, 0, 0, [], []⟩
abbrev visible_0_V := Str × Bool × Int × Int
def visible_0 {R : Type} (rec : visible_0_V → Option R) (kx : Ex → visible_0_V → Option R) (v : visible_0_V) : Option R := match v with
 | (v, v1, v2, v3) =>
  cond (decide (v3 < v2)) (
   chk (inb v3 v.length) (
    cond (decide ((bat v v3) < 32)) (
     kx .ret (v, false, v2, v3)) (
     chk (inb v3 v.length) (
      cond (decide (126 < (bat v v3))) (
       kx .ret (v, false, v2, v3)) (
       rec (v, v1, v2, (wr .i64 (v3 + 1)))))))) (
   kx (.exit 0) (v, v1, v2, v3))
def visible_px (R : Type) (k : Nat) : Px R := ⟨ttOf ttL, glT, callT [], callQT [], loopT [(2, loopOr k visible_0_sg (visible_0))]⟩
theorem visible_0_eq (R : Type) (k : Nat) : ∀ (fr : List Fr) (rec : visible_0_V → Option R) (kx : Ex → visible_0_V → Option R) (v : visible_0_V), round (visible_px R k) visible_0_sg (lp Tryz.f169 0) fr rec kx v = visible_0 rec kx v
  | fr, rec, kx, (v, v1, v2, v3) => by kernel_rfl
def visible_body (k : Nat) (x : HV [.str]) : Option (HV [.bool]) := match x with
 | s =>
  iter (fun rec => visible_0 rec (fun e vz => match vz with | (_, v5, _, _) => match e with
   | .ret =>
    some v5
   | .exit 0 =>
    some true
   | _ => none)) k (s, false, (s.length : Int), 0)
theorem visible_eq (k : Nat) : ∀ (x : HV [.str]), runF (visible_px _ k) Tryz.f169 [.str] [.bool] x some = visible_body k x
  | s => by kernel_rfl
theorem visible_run (k : Nat) : FnOk Tryz.prog elT glT 169 [.str] [.bool] (visible_body k) := by
  refine fnOk_run Tryz.func169 rfl (by kernel_rfl) follows (by kernel_rfl) (n := 1) (by kernel_rfl) (px := visible_px _ k) (fun cx hP hel hgl => ?_) (visible_eq k)
  have hp0 : PxOk cx (visible_px (HV [.bool]) k) := ⟨fun t => by rw [hP, hel]; exact tt_ok ttL_ok t, by rw [hgl]; rfl⟩
  have hc0 : CallOk cx (visible_px (HV [.bool]) k) := callT_ok rfl cfs_nil
  have hq0 : CallQOk cx (visible_px (HV [.bool]) k) := callQT_ok rfl cqfs_nil
  have hlvisible_0 : LoopOk cx (visible_px (HV [.bool]) k) (lp Tryz.f169 0) := loop_ok hp0 hc0 hq0 (by rw [hP]; exact follows) (k := k) (s := visible_0_sg) (step := visible_0) (fun _ _ => by kernel_rfl) (by kernel_rfl) (visible_0_eq _ k) (loops_in (n := 0) (by kernel_rfl) all0)
  exact ⟨hp0, hc0, hq0, (allS all0 hlvisible_0)⟩
def vis (b : UInt8) : Bool := decide (32 ≤ b.toNat) && decide (b.toNat ≤ 126)
def visible (s : Str) : Bool := s.all vis
def visible_F : FT [.str] [.bool] := fun x => some (visible x)
theorem visible_loop {R : Type} {kx : Ex → visible_0_V → Option R} {s : Str} {a b : Option R} (hs : ln s.length) (h1 : ∀ r j, kx .ret (s, false, r, j) = a) (h2 : ∀ q r j, kx (.exit 0) (s, q, r, j) = b) : ∀ (k i : Nat) q, i ≤ s.length → s.length - i < k → iter (fun rec => visible_0 rec kx) k (s, q, (s.length : Int), (i : Int)) = cond ((s.drop i).all vis) b a
  | 0, i, q, _, h => by omega
  | k + 1, i, q, hi, h => by
    rw [iter_s]
    by_cases hl : i < s.length
    · have ih := visible_loop hs h1 h2 k (i + 1) q (by omega) (by omega)
      simp only [visible_0, wr_succ hl hs, ih, h1, drop_cons hl, bat_nat hl, inb_t hl, List.all_cons, chk, cond_t, Bool.cond_decide]
      rw [if_pos (by omega)]
      simp only [vis]
      split
      · rw [decide_eq_false (by omega)]; rfl
      · split
        · rw [decide_eq_true (by omega), decide_eq_false (by omega)]; rfl
        · rw [decide_eq_true (by omega), decide_eq_true (by omega)]; rfl
    · simp only [visible_0, h2, Bool.cond_decide]
      rw [if_neg (by omega), List.drop_eq_nil_of_le (by omega)]
      rfl
theorem visible_ok : FnOk Tryz.prog elT glT 169 [.str] [.bool] visible_F := .fin 0 visible_run fun x r hb hx => ⟨x.length + 1, by
  simp only [visible_F, Option.some.injEq] at hx
  have := visible_loop (a := some false) (b := some true) hb (kx := fun e v => match v with | (_, v5, _, _) => match e with | .ret => some v5 | .exit 0 => some true | _ => none) (fun _ _ => rfl) (fun _ _ _ => rfl) (x.length + 1) 0 false (Nat.zero_le _) (by omega)
  refine Eq.trans this ?_
  rw [← hx, List.drop_zero, visible]
  cases x.all vis <;> rfl⟩
/-! ## exchequer/value.right -/
def vright_px (R : Type) : Px R := ⟨ttOf ttL, glT, callT [(169, callOr [.str] [.bool] visible_F)], callQT [], loopT []⟩
def vright_body (x : HV [.sv .val]) : Option (HV [.bool]) := match x with
 | v =>
  cond (decide (v.kind = 1)) (
   cond (decide (v.n = 0)) (
    some (decide (v.s = []))) (
    some false)) (
   cond (decide (v.kind = 2)) (
    cond (decide (v.n = 0)) (
     some (decide (v.s = []))) (
     cond (decide (v.n = 1)) (
      some (decide (v.s = []))) (
      some false))) (
    cond (decide (v.kind = 3)) (
     some (decide (v.s = []))) (
     cond (decide (v.kind = 4)) (
      cond (decide (v.n = 0)) (
       cond (decide ((v.s.length : Int) ≤ 1000)) (
        some (visible v.s)) (
        some false)) (
       some false)) (
      cond (decide (v.kind = 5)) (
       cond (decide (v.n = 0)) (
        some (decide ((v.s.length : Int) ≤ 1000))) (
        some false)) (
       some false)))))
theorem vright_eq : ∀ (x : HV [.sv .val]), runF (vright_px _) Tryz.f147 [.sv .val] [.bool] x some = vright_body x
  | v => by kernel_rfl
theorem vright_run : FnOk Tryz.prog elT glT 147 [.sv .val] [.bool] (vright_body) := by
  refine fnOk_run Tryz.func147 rfl (by kernel_rfl) follows (by kernel_rfl) (n := 0) (by kernel_rfl) (px := vright_px _) (fun cx hP hel hgl => ?_) (vright_eq)
  have hp0 : PxOk cx (vright_px (HV [.bool])) := ⟨fun t => by rw [hP, hel]; exact tt_ok ttL_ok t, by rw [hgl]; rfl⟩
  have hc0 : CallOk cx (vright_px (HV [.bool])) := callT_ok rfl (cfs_cons (cf_or (by rw [hP, hel, hgl]; exact visible_ok) (by kernel_rfl)) cfs_nil)
  have hq0 : CallQOk cx (vright_px (HV [.bool])) := callQT_ok rfl cqfs_nil
  exact ⟨hp0, hc0, hq0, all0⟩
def vright (v : Val) : Bool :=
  cond (decide (v.kind = 1)) (
   cond (decide (v.n = 0)) (
    (decide (v.s = []))) (
    false)) (
   cond (decide (v.kind = 2)) (
    cond (decide (v.n = 0)) (
     (decide (v.s = []))) (
     cond (decide (v.n = 1)) (
      (decide (v.s = []))) (
      false))) (
    cond (decide (v.kind = 3)) (
     (decide (v.s = []))) (
     cond (decide (v.kind = 4)) (
      cond (decide (v.n = 0)) (
       cond (decide ((v.s.length : Int) ≤ 1000)) (
        (visible v.s)) (
        false)) (
       false)) (
      cond (decide (v.kind = 5)) (
       cond (decide (v.n = 0)) (
        (decide ((v.s.length : Int) ≤ 1000))) (
        false)) (
       false)))))
theorem vright_tot (x : HV [.sv .val]) : vright_body x = some (vright x) := by
  first
    | exact rfl
    | simp only [vright_body, vright, cond_some]
def vright_F : FT [.sv .val] [.bool] := fun x => some (vright x)
theorem vright_ok : FnOk Tryz.prog elT glT 147 [.sv .val] [.bool] vright_F := .fin0 vright_run fun x _ _ hx => (vright_tot x).trans hx
/-! ## exchequer/value.Check -/
def vcheck_px (R : Type) : Px R := ⟨ttOf ttL, glT, callT [(147, callOr [.sv .val] [.bool] vright_F)], callQT [], loopT []⟩
def vcheck_body (x : HV [.sv .val]) : Option (HV [.int .i64]) := match x with
 | v =>
  cond (!(vright v)) (
   some 2) (
   some 0)
theorem vcheck_eq : ∀ (x : HV [.sv .val]), runF (vcheck_px _) Tryz.f95 [.sv .val] [.int .i64] x some = vcheck_body x
  | v => by kernel_rfl
theorem vcheck_run : FnOk Tryz.prog elT glT 95 [.sv .val] [.int .i64] (vcheck_body) := by
  refine fnOk_run Tryz.func95 rfl (by kernel_rfl) follows (by kernel_rfl) (n := 0) (by kernel_rfl) (px := vcheck_px _) (fun cx hP hel hgl => ?_) (vcheck_eq)
  have hp0 : PxOk cx (vcheck_px (HV [.int .i64])) := ⟨fun t => by rw [hP, hel]; exact tt_ok ttL_ok t, by rw [hgl]; rfl⟩
  have hc0 : CallOk cx (vcheck_px (HV [.int .i64])) := callT_ok rfl (cfs_cons (cf_or (by rw [hP, hel, hgl]; exact vright_ok) (by kernel_rfl)) cfs_nil)
  have hq0 : CallQOk cx (vcheck_px (HV [.int .i64])) := callQT_ok rfl cqfs_nil
  exact ⟨hp0, hc0, hq0, all0⟩
def vcheck (v : Val) : Int :=
  cond (!(vright v)) (
   2) (
   0)
theorem vcheck_tot (x : HV [.sv .val]) : vcheck_body x = some (vcheck x) := by
  first
    | exact rfl
    | simp only [vcheck_body, vcheck, cond_some]
def vcheck_F : FT [.sv .val] [.int .i64] := fun x => some (vcheck x)
theorem vcheck_ok : FnOk Tryz.prog elT glT 95 [.sv .val] [.int .i64] vcheck_F := .fin0 vcheck_run fun x _ _ hx => (vcheck_tot x).trans hx
/-! ## exchequer/value.Add -/
/-! ## exchequer/value.size -/
def vsize_px (R : Type) : Px R := ⟨ttOf ttL, glT, callT [], callQT [], loopT []⟩
def vsize_body (x : HV [.int .i64]) : Option (HV [.int .u64]) := match x with
 | n =>
  cond (decide (n < 0)) (
   some (wr .u64 (0 - (wr .u64 n)))) (
   some (wr .u64 n))
theorem vsize_eq : ∀ (x : HV [.int .i64]), runF (vsize_px _) Tryz.f170 [.int .i64] [.int .u64] x some = vsize_body x
  | n => by kernel_rfl
theorem vsize_run : FnOk Tryz.prog elT glT 170 [.int .i64] [.int .u64] (vsize_body) := by
  refine fnOk_run Tryz.func170 rfl (by kernel_rfl) follows (by kernel_rfl) (n := 0) (by kernel_rfl) (px := vsize_px _) (fun cx hP hel hgl => ?_) (vsize_eq)
  have hp0 : PxOk cx (vsize_px (HV [.int .u64])) := ⟨fun t => by rw [hP, hel]; exact tt_ok ttL_ok t, by rw [hgl]; rfl⟩
  have hc0 : CallOk cx (vsize_px (HV [.int .u64])) := callT_ok rfl cfs_nil
  have hq0 : CallQOk cx (vsize_px (HV [.int .u64])) := callQT_ok rfl cqfs_nil
  exact ⟨hp0, hc0, hq0, all0⟩
def vsize (n : Int) : Int :=
  cond (decide (n < 0)) (
   (wr .u64 (0 - (wr .u64 n)))) (
   (wr .u64 n))
theorem vsize_tot (x : HV [.int .i64]) : vsize_body x = some (vsize x) := by
  first
    | exact rfl
    | simp only [vsize_body, vsize, cond_some]
def vsize_F : FT [.int .i64] [.int .u64] := fun x => some (vsize x)
theorem vsize_ok : FnOk Tryz.prog elT glT 170 [.int .i64] [.int .u64] vsize_F := .fin0 vsize_run fun x _ _ hx => (vsize_tot x).trans hx
/-! ## math/bits.Mul64 -/
/-! ## exchequer/value.Mul -/
end Go.Proofs.YthndhaolemgbdaaGreatDoor

/- Names, without the lexer's other functions. -/
namespace Go.Proofs.YthndhaolemgbdaaGreatDoor
open Go.Ax
theorem inb_i {i : Int} {n : Nat} (h : 0 ≤ i ∧ i < n) : inb i n = true := by simp [inb, h]
/-! ## exchequer/lex.lower -/
def lower_px (R : Type) : Px R := ⟨ttOf ttL, glT, callT [], callQT [], loopT []⟩
def lower_body (x : HV [.int .u8]) : Option (HV [.bool]) := match x with
 | c =>
  cond (decide (97 ≤ c)) (
   some (decide (c ≤ 122))) (
   some false)
theorem lower_eq : ∀ (x : HV [.int .u8]), runF (lower_px _) Tryz.f109 [.int .u8] [.bool] x some = lower_body x
  | c => by kernel_rfl
theorem lower_run : FnOk Tryz.prog elT glT 109 [.int .u8] [.bool] (lower_body) := by
  refine fnOk_run Tryz.func109 rfl (by kernel_rfl) follows (by kernel_rfl) (n := 0) (by kernel_rfl) (px := lower_px _) (fun cx hP hel hgl => ?_) (lower_eq)
  have hp0 : PxOk cx (lower_px (HV [.bool])) := ⟨fun t => by rw [hP, hel]; exact tt_ok ttL_ok t, by rw [hgl]; rfl⟩
  have hc0 : CallOk cx (lower_px (HV [.bool])) := callT_ok rfl cfs_nil
  have hq0 : CallQOk cx (lower_px (HV [.bool])) := callQT_ok rfl cqfs_nil
  exact ⟨hp0, hc0, hq0, all0⟩
def lower (c : Int) : Bool :=
  cond (decide (97 ≤ c)) (
   (decide (c ≤ 122))) (
   false)
theorem lower_tot (x : HV [.int .u8]) : lower_body x = some (lower x) := by
  first
    | exact rfl
    | simp only [lower_body, lower, cond_some]
def lower_F : FT [.int .u8] [.bool] := fun x => some (lower x)
theorem lower_ok : FnOk Tryz.prog elT glT 109 [.int .u8] [.bool] lower_F := .fin0 lower_run fun x _ _ hx => (lower_tot x).trans hx
/-! ## exchequer/lex.digit -/
def digit_px (R : Type) : Px R := ⟨ttOf ttL, glT, callT [], callQT [], loopT []⟩
def digit_body (x : HV [.int .u8]) : Option (HV [.bool]) := match x with
 | c =>
  cond (decide (48 ≤ c)) (
   some (decide (c ≤ 57))) (
   some false)
theorem digit_eq : ∀ (x : HV [.int .u8]), runF (digit_px _) Tryz.f154 [.int .u8] [.bool] x some = digit_body x
  | c => by kernel_rfl
theorem digit_run : FnOk Tryz.prog elT glT 154 [.int .u8] [.bool] (digit_body) := by
  refine fnOk_run Tryz.func154 rfl (by kernel_rfl) follows (by kernel_rfl) (n := 0) (by kernel_rfl) (px := digit_px _) (fun cx hP hel hgl => ?_) (digit_eq)
  have hp0 : PxOk cx (digit_px (HV [.bool])) := ⟨fun t => by rw [hP, hel]; exact tt_ok ttL_ok t, by rw [hgl]; rfl⟩
  have hc0 : CallOk cx (digit_px (HV [.bool])) := callT_ok rfl cfs_nil
  have hq0 : CallQOk cx (digit_px (HV [.bool])) := callQT_ok rfl cqfs_nil
  exact ⟨hp0, hc0, hq0, all0⟩
def digit (c : Int) : Bool :=
  cond (decide (48 ≤ c)) (
   (decide (c ≤ 57))) (
   false)
theorem digit_tot (x : HV [.int .u8]) : digit_body x = some (digit x) := by
  first
    | exact rfl
    | simp only [digit_body, digit, cond_some]
def digit_F : FT [.int .u8] [.bool] := fun x => some (digit x)
theorem digit_ok : FnOk Tryz.prog elT glT 154 [.int .u8] [.bool] digit_F := .fin0 digit_run fun x _ _ hx => (digit_tot x).trans hx
/-! ## exchequer/lex.inner -/
def inner_px (R : Type) : Px R := ⟨ttOf ttL, glT, callT [(109, callOr [.int .u8] [.bool] lower_F), (154, callOr [.int .u8] [.bool] digit_F)], callQT [], loopT []⟩
def inner_body (x : HV [.int .u8]) : Option (HV [.bool]) := match x with
 | c =>
  cond ((lower c)) (
   some true) (
   cond ((digit c)) (
    some true) (
    some (decide (c = 95))))
theorem inner_eq : ∀ (x : HV [.int .u8]), runF (inner_px _) Tryz.f111 [.int .u8] [.bool] x some = inner_body x
  | c => by kernel_rfl
theorem inner_run : FnOk Tryz.prog elT glT 111 [.int .u8] [.bool] (inner_body) := by
  refine fnOk_run Tryz.func111 rfl (by kernel_rfl) follows (by kernel_rfl) (n := 0) (by kernel_rfl) (px := inner_px _) (fun cx hP hel hgl => ?_) (inner_eq)
  have hp0 : PxOk cx (inner_px (HV [.bool])) := ⟨fun t => by rw [hP, hel]; exact tt_ok ttL_ok t, by rw [hgl]; rfl⟩
  have hc0 : CallOk cx (inner_px (HV [.bool])) := callT_ok rfl (cfs_cons (cf_or (by rw [hP, hel, hgl]; exact lower_ok) (by kernel_rfl)) (cfs_cons (cf_or (by rw [hP, hel, hgl]; exact digit_ok) (by kernel_rfl)) cfs_nil))
  have hq0 : CallQOk cx (inner_px (HV [.bool])) := callQT_ok rfl cqfs_nil
  exact ⟨hp0, hc0, hq0, all0⟩
def inner (c : Int) : Bool :=
  cond ((lower c)) (
   true) (
   cond ((digit c)) (
    true) (
    (decide (c = 95))))
theorem inner_tot (x : HV [.int .u8]) : inner_body x = some (inner x) := by
  first
    | exact rfl
    | simp only [inner_body, inner, cond_some]
def inner_F : FT [.int .u8] [.bool] := fun x => some (inner x)
theorem inner_ok : FnOk Tryz.prog elT glT 111 [.int .u8] [.bool] inner_F := .fin0 inner_run fun x _ _ hx => (inner_tot x).trans hx
theorem lower_is (c : Int) : lower c = Lp.isLo c := by simp only [lower, Lp.isLo]; cases decide (97 ≤ c) <;> rfl
theorem digit_is (c : Int) : digit c = Lp.isDi c := by simp only [digit, Lp.isDi]; cases decide (48 ≤ c) <;> rfl
theorem inner_is (c : Int) : inner c = Lp.isIn c := by
  simp only [inner, Lp.isIn, lower_is, digit_is]
  cases Lp.isLo c <;> cases Lp.isDi c <;> rfl
/-! ## exchequer/lex.Name -/
def lname_0_sg : Sig := ⟨21, [(0, .str), (1, .int .i64)], [(2, .fn 111 [])], [], 40, 40, 200, [], []⟩
abbrev lname_0_V := Str × Int
def lname_0 {R : Type} (rec : lname_0_V → Option R) (kx : Ex → lname_0_V → Option R) (v : lname_0_V) : Option R := match v with
 | (v, v1) =>
  cond (decide (v1 < (v.length : Int))) (
   chk (inb v1 v.length) (
    cond ((inner (bat v v1))) (
     rec (v, (wr .i64 (v1 + 1)))) (
     kx (.exit 0) (v, v1)))) (
   kx (.exit 0) (v, v1))
def lname_pxi0 (R : Type) (k : Nat) : Px R := ⟨ttOf ttL, glT, callT [(111, callOr [.int .u8] [.bool] inner_F)], callQT [], loopT [(1, loopOr k lname_0_sg (lname_0))]⟩
noncomputable def lname_px (R : Type) (k : Nat) : Px R := ⟨ttOf ttL, glT, callT [(109, callOr [.int .u8] [.bool] lower_F), (110, callRun 40 200 (lname_pxi0 R k) Tryz.f110)], callQT [], loopT []⟩
theorem lname_0_eq (R : Type) (k : Nat) : ∀ (fr : List Fr) (rec : lname_0_V → Option R) (kx : Ex → lname_0_V → Option R) (v : lname_0_V), round (lname_pxi0 R k) lname_0_sg (lp Tryz.f110 0) fr rec kx v = lname_0 rec kx v
  | fr, rec, kx, (v, v1) => by kernel_rfl
def lname_body (k : Nat) (x : HV [.str]) : Option (HV [.bool]) := match x with
 | s =>
  let j1 := fun (p : Bool) =>
   let j := fun (p1 : Bool) =>
    cond (p1) (
     iter (fun rec => lname_0 rec (fun e vz => match vz with | (_, v3) => match e with
      | .exit 0 =>
       some (decide (v3 = (s.length : Int)))
      | _ => none)) k (s, 0)) (
     some false)
   cond (p) (
    chk (inb 0 s.length) (
     j (lower (bat s 0)))) (
    j false)
  cond (!decide (s = [])) (
   j1 (decide ((s.length : Int) ≤ 30))) (
   j1 false)
theorem lname_eq (k : Nat) : ∀ (x : HV [.str]), runF (lname_px _ k) Tryz.f63 [.str] [.bool] x some = lname_body k x
  | s => by kernel_rfl
theorem lname_run (k : Nat) : FnOk Tryz.prog elT glT 63 [.str] [.bool] (lname_body k) := by
  refine fnOk_run Tryz.func63 rfl (by kernel_rfl) follows (by kernel_rfl) (n := 0) (by kernel_rfl) (px := lname_px _ k) (fun cx hP hel hgl => ?_) (lname_eq k)
  have hp1 : PxOk cx (lname_pxi0 (HV [.bool]) k) := ⟨fun t => by rw [hP, hel]; exact tt_ok ttL_ok t, by rw [hgl]; rfl⟩
  have hc1 : CallOk cx (lname_pxi0 (HV [.bool]) k) := callT_ok rfl (cfs_cons (cf_or (by rw [hP, hel, hgl]; exact inner_ok) (by kernel_rfl)) cfs_nil)
  have hq1 : CallQOk cx (lname_pxi0 (HV [.bool]) k) := callQT_ok rfl cqfs_nil
  have hllname_0 : LoopOk cx (lname_pxi0 (HV [.bool]) k) (lp Tryz.f110 0) := loop_ok hp1 hc1 hq1 (by rw [hP]; exact follows) (k := k) (s := lname_0_sg) (step := lname_0) (fun _ _ => by kernel_rfl) (by kernel_rfl) (lname_0_eq _ k) (loops_in (n := 0) (by kernel_rfl) all0)
  have hp0 : PxOk cx (lname_px (HV [.bool]) k) := ⟨fun t => by rw [hP, hel]; exact tt_ok ttL_ok t, by rw [hgl]; rfl⟩
  have hc0 : CallOk cx (lname_px (HV [.bool]) k) := callT_ok rfl (cfs_cons (cf_or (by rw [hP, hel, hgl]; exact lower_ok) (by kernel_rfl)) (cfs_cons (cf_run hp1 hc1 hq1 (by rw [hP]; exact follows) (by rw [hP]; exact Tryz.func110) rfl (by kernel_rfl) (by kernel_rfl) (n := 1) (by kernel_rfl) ((allS all0 hllname_0))) cfs_nil))
  have hq0 : CallQOk cx (lname_px (HV [.bool]) k) := callQT_ok rfl cqfs_nil
  exact ⟨hp0, hc0, hq0, all0⟩
abbrev lname (s : Str) : Bool := Lp.nameF s
def lname_F : FT [.str] [.bool] := fun x => some (lname x)
theorem lname_0_loop {R : Type} {kx : Ex → lname_0_V → Option R} {s : Str}  {a : Int → Option R} (hs : ln s.length) (h1 : ∀ j, kx (.exit 0) (s, j) = a j) : ∀ (k i : Nat), i ≤ s.length → s.length - i < k → iter (fun rec => lname_0 rec kx) k (s, (i : Int)) = a (Lp.runTo Lp.isIn s i)
  | 0, i, _, h => absurd h (Nat.not_lt_zero _)
  | k + 1, i, hi, h => by
    rw [iter_s]
    by_cases hl : i < s.length
    · have ih := lname_0_loop  hs h1 k (i + 1) (by omega) (by omega)
      have eb : Sx.byt s (i : Int) = (s[i].toNat : Int) := bat_nat hl
      simp only [lname_0, wr_succ hl hs, ih, h1, bat_nat hl, inb_t hl, inner_is]
      rw [decide_eq_true (show (i : Int) < (s.length : Int) by omega)]
      cases hp : Lp.isIn (s[i].toNat : Int) with
      | true =>
        have := Lp.runTo_yes (p := Lp.isIn) (l := s) (j := i) (by omega) (by rw [eb]; exact hp)
        rw [← this]
        rfl
      | false =>
        have := Lp.runTo_no (p := Lp.isIn) (l := s) (j := i) (by omega) (by rw [eb]; exact hp)
        rw [this]
        rfl
    · have := Lp.runTo_end (p := Lp.isIn) (l := s) (j := i) (by omega)
      simp only [lname_0, h1]
      rw [decide_eq_false (by omega), this]
      rfl
theorem lname_ok : FnOk Tryz.prog elT glT 63 [.str] [.bool] lname_F := .fin 0 lname_run fun s r hb hx => ⟨s.length + 1, by
  simp only [lname_F, Option.some.injEq] at hx
  rw [← hx]
  simp only [lname_body, lname, Lp.nameF]
  by_cases he : s = []
  · rw [decide_eq_true he]; rfl
  · rw [decide_eq_false he]
    simp only [Bool.not_false, cond_t, Bool.true_and]
    by_cases h30 : (s.length : Int) ≤ 30
    · have hp : 0 < s.length := List.length_pos_iff.2 he
      rw [decide_eq_true h30, inb_i (by omega), lower_is]
      simp only [chk, cond_t, Bool.true_and]
      have eb : bat s 0 = Sx.byt s 0 := rfl
      rw [eb]
      cases Lp.isLo (Sx.byt s 0) with
      | false => rfl
      | true =>
        simp only [cond_t, Bool.true_and]
        exact lname_0_loop (s := s) (a := fun j => some (decide (j = (s.length : Int)))) hb (fun _ => rfl) (s.length + 1) 0 (Nat.zero_le _) (by omega)
    · rw [decide_eq_false h30]
      rfl⟩
end Go.Proofs.YthndhaolemgbdaaGreatDoor

/- What sums, differences and products of numbers come to. -/
namespace Go.Proofs.YthndhaolemgbdaaGreatDoor
open Go.Ax
theorem wru (n : Int) : wr .u64 n = n % 18446744073709551616 := by simp [wr, IntKind.wrap, IntKind.bits, IntKind.signed]
theorem wru_id {n : Int} (h : 0 ≤ n ∧ n ≤ 18446744073709551615) : wr .u64 n = n := by rw [wru]; omega
def absI (n : Int) : Int := if n < 0 then -n else n
theorem vsize_z {n : Int} (h : inI n) : vsize n = absI n := by
  simp only [inI] at h
  simp only [vsize, absI, Bool.cond_decide, wru]
  split <;> omega
end Go.Proofs.YthndhaolemgbdaaGreatDoor

/- The library's contract of strings.ReplaceAll at this seat's program (the facts as the kit's tool lays them). -/
namespace Go.Proofs
open Go.Shelf
def Tryz.laysRA_ren : Go.Shelf.Ren := ⟨fun | 155 => 150 | 154 => 171 | 138 => 187 | 165 => 153 | 143 => 188 | 166 => 104 | 197 => 189 | 169 => 41 | 195 => 197 | 218 => 198 | 240 => 152 | 241 => 173 | 219 => 199 | 260 => 200 | 276 => 172 | 277 => 190 | 217 => 174 | 225 => 203 | 224 => 204 | 267 => 205 | 266 => 191 | 314 => 207 | n => n, fun | 9 => 9 | 3 => 3 | 4 => 4 | 72 => 80 | 0 => 0 | 76 => 154 | 105 => 216 | 21 => 21 | 5 => 5 | 70 => 77 | 20 => 20 | 37 => 78 | 75 => 153 | 127 => 148 | 164 => 205 | 46 => 68 | 119 => 226 | 139 => 229 | 138 => 228 | 146 => 231 | 51 => 230 | 80 => 84 | n => n, fun | 1 => 3 | 3 => 4 | 4 => 5 | n => n⟩
theorem Tryz.laysRA : Go.Proofs.Lays.n155 Tryz.prog Tryz.laysRA_ren := {
  mixed := by kernel_rfl
  f138 := Tryz.func187.trans (congrArg some (by kernel_rfl))
  f143 := Tryz.func188.trans (congrArg some (by kernel_rfl))
  f154 := Tryz.func171.trans (congrArg some (by kernel_rfl))
  f155 := Tryz.func150.trans (congrArg some (by kernel_rfl))
  f165 := Tryz.func153.trans (congrArg some (by kernel_rfl))
  f166 := Tryz.func104.trans (congrArg some (by kernel_rfl))
  f169 := Tryz.func41.trans (congrArg some (by kernel_rfl))
  f195 := Tryz.func197.trans (congrArg some (by kernel_rfl))
  f197 := Tryz.func189.trans (congrArg some (by kernel_rfl))
  f217 := Tryz.func174.trans (congrArg some (by kernel_rfl))
  f218 := Tryz.func198.trans (congrArg some (by kernel_rfl))
  f219 := Tryz.func199.trans (congrArg some (by kernel_rfl))
  f224 := Tryz.func204.trans (congrArg some (by kernel_rfl))
  f225 := Tryz.func203.trans (congrArg some (by kernel_rfl))
  f240 := Tryz.func152.trans (congrArg some (by kernel_rfl))
  f241 := Tryz.func173.trans (congrArg some (by kernel_rfl))
  f260 := Tryz.func200.trans (congrArg some (by kernel_rfl))
  f266 := Tryz.func191.trans (congrArg some (by kernel_rfl))
  f267 := Tryz.func205.trans (congrArg some (by kernel_rfl))
  f276 := Tryz.func172.trans (congrArg some (by kernel_rfl))
  f277 := Tryz.func190.trans (congrArg some (by kernel_rfl))
  f314 := Tryz.func207.trans (congrArg some (by kernel_rfl))
  t0 := Tryz.underlying0
  a0 := Tryz.isAgg0
  z0 := Tryz.sizeOf0
  v0 := Tryz.zeroValue0
  t3 := Tryz.underlying3
  a3 := Tryz.isAgg3
  z3 := Tryz.sizeOf3
  v3 := Tryz.zeroValue3
  t4 := Tryz.underlying4
  a4 := Tryz.isAgg4
  z4 := Tryz.sizeOf4
  v4 := Tryz.zeroValue4
  t5 := Tryz.underlying5
  a5 := Tryz.isAgg5
  z5 := Tryz.sizeOf5
  v5 := Tryz.zeroValue5
  t9 := Tryz.underlying9
  a9 := Tryz.isAgg9
  z9 := Tryz.sizeOf9
  v9 := Tryz.zeroValue9
  t20 := Tryz.underlying20
  a20 := Tryz.isAgg20
  z20 := Tryz.sizeOf20
  v20 := Tryz.zeroValue20
  t21 := Tryz.underlying21
  a21 := Tryz.isAgg21
  z21 := Tryz.sizeOf21
  v21 := Tryz.zeroValue21
  t37 := Tryz.underlying78
  a37 := Tryz.isAgg78
  z37 := Tryz.sizeOf78
  v37 := Tryz.zeroValue78
  t46 := Tryz.underlying68
  a46 := Tryz.isAgg68
  z46 := Tryz.sizeOf68
  v46 := Tryz.zeroValue68
  t51 := Tryz.underlying230
  a51 := Tryz.isAgg230
  z51 := Tryz.sizeOf230
  v51 := Tryz.zeroValue230
  t70 := Tryz.underlying77
  a70 := Tryz.isAgg77
  z70 := Tryz.sizeOf77
  v70 := Tryz.zeroValue77
  t72 := Tryz.underlying80
  a72 := Tryz.isAgg80
  z72 := Tryz.sizeOf80
  v72 := Tryz.zeroValue80
  t75 := Tryz.underlying153
  a75 := Tryz.isAgg153
  z75 := Tryz.sizeOf153
  v75 := Tryz.zeroValue153
  t76 := Tryz.underlying154
  a76 := Tryz.isAgg154
  z76 := Tryz.sizeOf154
  v76 := Tryz.zeroValue154
  t105 := Tryz.underlying216
  a105 := Tryz.isAgg216
  z105 := Tryz.sizeOf216
  v105 := Tryz.zeroValue216
  t119 := Tryz.underlying226
  a119 := Tryz.isAgg226
  z119 := Tryz.sizeOf226
  t127 := Tryz.underlying148
  a127 := Tryz.isAgg148
  z127 := Tryz.sizeOf148
  v127 := Tryz.zeroValue148
  t138 := Tryz.underlying228
  a138 := Tryz.isAgg228
  z138 := Tryz.sizeOf228
  v138 := Tryz.zeroValue228
  t139 := Tryz.underlying229
  a139 := Tryz.isAgg229
  z139 := Tryz.sizeOf229
  v139 := Tryz.zeroValue229
  t146 := Tryz.underlying231
  a146 := Tryz.isAgg231
  z146 := Tryz.sizeOf231
  v146 := Tryz.zeroValue231
  t164 := Tryz.underlying205
  a164 := Tryz.isAgg205
  z164 := Tryz.sizeOf205
  v164 := Tryz.zeroValue205
  g1 := by kernel_rfl
  g3 := by kernel_rfl
  g4 := by kernel_rfl }
theorem Tryz.extraRA : Builder.Extra Tryz.prog Tryz.laysRA_ren := {
  sizeBuilder := by kernel_rfl
  liesBuilder := by kernel_rfl
  t5 := Tryz.laysRA.t5
  a5 := Tryz.laysRA.a5
  z5 := Tryz.laysRA.z5
  v5 := Tryz.laysRA.v5
  infoByte := by kernel_rfl
  cellsByte := by kernel_rfl
  sizeByte := by kernel_rfl
  neB5 := by decide }
end Go.Proofs

/- strings.ReplaceAll, by the library's contract. -/
namespace Go.Proofs.YthndhaolemgbdaaGreatDoor
open Go.Ax
def repAll (s old new : Str) : Option Str := cond (decide (s.length < 4294967281) && decide (1 ≤ old.length) && decide (s.length + Lib.count s old * new.length ≤ 140737488355328) && decide ((Lib.replaceAll s old new).length ≤ maxLen)) (some (Lib.replaceAll s old new)) none
def repAll_F : FT [.str, .str, .str] [.str] := fun x => repAll x.1 x.2.1 x.2.2
theorem repAll_ok : FnOk Tryz.prog elT glT 150 [.str, .str, .str] [.str] repAll_F := by
  refine ⟨Sx.enters_of Tryz.func150 rfl (by kernel_rfl), fun x r hx w M vs hM hgl hr => ?_⟩
  obtain ⟨s, old, new⟩ := x
  simp only [repAll_F, repAll] at hx
  cases hc : decide (s.length < 4294967281) && decide (1 ≤ old.length) && decide (s.length + Lib.count s old * new.length ≤ 140737488355328) && decide ((Lib.replaceAll s old new).length ≤ maxLen) with
  | false => rw [hc] at hx; cases hx
  | true =>
    rw [hc] at hx
    have hx : some (Lib.replaceAll s old new) = some r := hx
    simp only [Option.some.injEq] at hx
    subst hx
    simp only [Bool.and_eq_true, decide_eq_true_eq] at hc
    obtain ⟨⟨⟨h1, h2⟩, h3⟩, h4⟩ := hc
    simp only [encL, enc1, Reps, Rep] at hr
    obtain ⟨u, us, rfl, ⟨rfl, _⟩, u2, us2, rfl, ⟨rfl, _⟩, u3, us3, rfl, ⟨rfl, _⟩, rfl⟩ := hr
    obtain ⟨m, hm⟩ := hgl.2.2 3 .i64 rfl
    have c := Any.strings_ReplaceAll Tryz.laysRA Tryz.extraRA ⟨s.toArray⟩ ⟨old.toArray⟩ ⟨new.toArray⟩ m w (by simpa [ByteArray.size] using h1) (hm w (Chg.refl _ _)) (by simpa [ByteArray.size] using h2) (by simpa [ByteArray.size, Lib.countB] using h3)
    refine Calls.mono (show Calls Tryz.prog 150 _ w _ from c) ?_
    rintro en w' ⟨rfl, hb⟩
    refine ⟨_, ⟨fun _ => 0, fun _ => Option.none⟩, rfl, Chg.of_below hb, fun p g o hp => (by simp [owns] at hp), fun p q g o o2 hp => (by simp [owns] at hp), ?_⟩
    simp only [pack, encL, enc1, Rep]
    exact ⟨by simp, h4⟩
end Go.Proofs.YthndhaolemgbdaaGreatDoor

/- Plain law: decimal digits, the lowest first. -/
namespace Go.Proofs.YthndhaolemgbdaaGreatDoor
open Go.Ax
def pw : Nat → Int
  | 0 => 1
  | n + 1 => 10 * pw n
def val : List Int → Int
  | [] => 0
  | x :: l => x + 10 * val l
def dg (l : List Int) : Bool := l.all fun x => decide (0 ≤ x) && decide (x ≤ 9)
theorem dg_cons {x : Int} {l : List Int} : dg (x :: l) = true ↔ (0 ≤ x ∧ x ≤ 9) ∧ dg l = true := by
  simp [dg]
theorem dg_app {l m : List Int} : dg (l ++ m) = true ↔ dg l = true ∧ dg m = true := by
  simp [dg, List.all_append]
theorem val_nn : ∀ {l : List Int}, dg l = true → 0 ≤ val l
  | [], _ => by simp [val]
  | x :: l, h => by have h := dg_cons.1 h; have := val_nn h.2; simp only [val]; omega
/-- a digit; 0 beyond -/
def dgt (l : List Int) (i : Nat) : Int := l.getD i 0
theorem dgt_bd {l : List Int} (h : dg l = true) (i : Nat) : 0 ≤ dgt l i ∧ dgt l i ≤ 9 := by
  induction l generalizing i with
  | nil => simp [dgt]
  | cons x l ih =>
    have h := dg_cons.1 h
    cases i with
    | zero => simpa [dgt] using h.1
    | succ i => simpa [dgt] using ih h.2 i
/-! ## the digits of a number -/
def digs (n : Nat) : List Int := if h : n = 0 then [] else ((n % 10 : Nat) : Int) :: digs (n / 10)
termination_by n
decreasing_by omega
theorem digs_zero : digs 0 = [] := by rw [digs]; simp
theorem digs_pos {n : Nat} (h : ¬ n = 0) : digs n = ((n % 10 : Nat) : Int) :: digs (n / 10) := by rw [digs]; simp [h]
theorem digs_val (n : Nat) : val (digs n) = (n : Int) := by
  induction n using Nat.strongRecOn with
  | ind n ih =>
    by_cases h : n = 0
    · subst h; rw [digs_zero]; rfl
    · rw [digs_pos h, val, ih (n / 10) (by omega)]; omega
theorem digs_dg (n : Nat) : dg (digs n) = true := by
  induction n using Nat.strongRecOn with
  | ind n ih =>
    by_cases h : n = 0
    · subst h; rw [digs_zero]; rfl
    · rw [digs_pos h]; exact dg_cons.2 ⟨by omega, ih (n / 10) (by omega)⟩
theorem digs_len : ∀ (k n : Nat), (n : Int) < pw k → (digs n).length ≤ k
  | 0, n, h => by
    have : n = 0 := by simp only [pw] at h; omega
    subst this; rw [digs_zero]; exact Nat.le_refl _
  | k + 1, n, h => by
    by_cases h0 : n = 0
    · subst h0; rw [digs_zero]; simp
    · have := digs_len k (n / 10) (by simp only [pw] at h; omega)
      rw [digs_pos h0]
      simp only [List.length_cons]
      omega
theorem digs_ne {n : Nat} (h : ¬ n = 0) : ¬ digs n = [] := by rw [digs_pos h]; simp
/-- without noughts behind -/
def trimL : List Int → List Int
  | [] => []
  | x :: l => match trimL l with
    | [] => if x = 0 then [] else [x]
    | y :: t => x :: y :: t
theorem trimL_digs : ∀ {l : List Int}, dg l = true → trimL l = digs (val l).toNat
  | [], _ => by simp only [trimL, val]; exact digs_zero.symm
  | x :: l, h => by
    have h := dg_cons.1 h
    have ih := trimL_digs h.2
    have hv := val_nn h.2
    simp only [trimL, ih, val]
    by_cases h0 : val l = 0
    · rw [h0]
      have e : digs (0 : Int).toNat = [] := digs_zero
      rw [e]
      by_cases hx : x = 0
      · subst hx; rw [if_pos rfl]; exact digs_zero.symm
      · rw [if_neg hx, digs_pos (by omega), show (x + 10 * 0).toNat / 10 = 0 by omega, digs_zero, show (((x + 10 * 0).toNat % 10 : Nat) : Int) = x by omega]
    · have hne := digs_ne (n := (val l).toNat) (by omega)
      rw [digs_pos (n := (x + 10 * val l).toNat) (by omega), show (x + 10 * val l).toNat / 10 = (val l).toNat by omega, show (((x + 10 * val l).toNat % 10 : Nat) : Int) = x by omega]
      cases hd : digs (val l).toNat with
      | nil => exact absurd hd hne
      | cons y t => rfl
theorem trimL_zero : ∀ (l : List Int), trimL (l ++ [0]) = trimL l
  | [] => by simp [trimL]
  | x :: l => by simp only [List.cons_append, trimL, trimL_zero l]
theorem trimL_last {y : Int} (hy : ¬ y = 0) : ∀ (l : List Int), trimL (l ++ [y]) = l ++ [y]
  | [] => by simp [trimL, hy]
  | x :: l => by
    simp only [List.cons_append, trimL, trimL_last hy l]
    cases l <;> simp
/-! ## numbers -/
def numS (m : Bool) (v : Int) : Num := ⟨m && decide (0 < v), digs v.toNat⟩
def numZ (z : Int) : Num := numS (decide (z < 0)) (z.natAbs : Int)
end Go.Proofs.YthndhaolemgbdaaGreatDoor

/- The text of a value: the program's. -/
namespace Go.Proofs.YthndhaolemgbdaaGreatDoor
open Go.Ax
/-! ## two digits to a byte -/
abbrev hexL : Str := [48, 49, 50, 51, 52, 53, 54, 55, 56, 57, 97, 98, 99, 100, 101, 102]
def hex2 (n : Nat) : Str := [hexL.getD (n / 16) 0, hexL.getD (n % 16) 0]
def hexs (s : Str) : Str := s.flatMap fun b => hex2 b.toNat
def hxOk (n : Nat) : Bool := inb (ishr .u8 (n : Int) 4) 16 && inb (iand .u8 (n : Int) 15) 16 && decide ([(UInt8.ofNat ((bat hexL (ishr .u8 (n : Int) 4)) : Int).toNat), (UInt8.ofNat ((bat hexL (iand .u8 (n : Int) 15)) : Int).toNat)] = hex2 n)
theorem hx_all : ((List.range 256).all hxOk) = true := by kernel_rfl
theorem hx (b : UInt8) : inb (ishr .u8 (b.toNat : Int) 4) 16 = true ∧ inb (iand .u8 (b.toNat : Int) 15) 16 = true ∧ [(UInt8.ofNat ((bat hexL (ishr .u8 (b.toNat : Int) 4)) : Int).toNat), (UInt8.ofNat ((bat hexL (iand .u8 (b.toNat : Int) 15)) : Int).toNat)] = hex2 b.toNat := by
  have h := List.all_eq_true.1 hx_all b.toNat (List.mem_range.2 b.toNat_lt)
  simp only [hxOk, Bool.and_eq_true, decide_eq_true_eq] at h
  exact ⟨h.1.1, h.1.2, h.2⟩
theorem hexs_len (s : Str) : (hexs s).length = 2 * s.length := by
  induction s with
  | nil => rfl
  | cons b l ih => simp only [hexs, List.flatMap_cons, hex2, List.length_append, List.length_cons, List.length_nil] at ih ⊢; omega
/-! ## exchequer/value.hex -/
def vhex_0_sg : Sig := ⟨26, [(0, .str), (3, .sl .byte true), (6, .int .i64), (7, .int .i64)], [], [], 0, 0, 0, [], []⟩
abbrev vhex_0_V := Str × List UInt8 × Int × Int
def vhex_0 {R : Type} (rec : vhex_0_V → Option R) (kx : Ex → vhex_0_V → Option R) (v : vhex_0_V) : Option R := match v with
 | (v, v1, v2, v3) =>
  cond (decide (v3 < v2)) (
   chk (inb v3 v.length) (
    chk (inb (ishr .u8 (bat v v3) 4) 16) (
     chk (inb v3 v.length) (
      chk (inb (iand .u8 (bat v v3) 15) 16) (
       chk (decide (v1.length + 2 ≤ maxApp)) (
        rec (v, (v1 ++ [(UInt8.ofNat ((bat [48, 49, 50, 51, 52, 53, 54, 55, 56, 57, 97, 98, 99, 100, 101, 102] (ishr .u8 (bat v v3) 4)) : Int).toNat), (UInt8.ofNat ((bat [48, 49, 50, 51, 52, 53, 54, 55, 56, 57, 97, 98, 99, 100, 101, 102] (iand .u8 (bat v v3) 15)) : Int).toNat)]), v2, (wr .i64 (v3 + 1))))))))) (
   kx (.exit 0) (v, v1, v2, v3))
def vhex_px (R : Type) (k : Nat) : Px R := ⟨ttOf ttL, glT, callT [], callQT [], loopT [(3, loopOr k vhex_0_sg (vhex_0))]⟩
theorem vhex_0_eq (R : Type) (k : Nat) : ∀ (fr : List Fr) (rec : vhex_0_V → Option R) (kx : Ex → vhex_0_V → Option R) (v : vhex_0_V), round (vhex_px R k) vhex_0_sg (lp Tryz.f151 0) fr rec kx v = vhex_0 rec kx v
  | fr, rec, kx, (v, v1, v2, v3) => by kernel_rfl
def vhex_body (k : Nat) (x : HV [.str]) : Option (HV [.str]) := match x with
 | s =>
  iter (fun rec => vhex_0 rec (fun e vz => match vz with | (_, v5, _, _) => match e with
   | .exit 0 =>
    some v5
   | _ => none)) k (s, [], (s.length : Int), 0)
theorem vhex_eq (k : Nat) : ∀ (x : HV [.str]), runF (vhex_px _ k) Tryz.f151 [.str] [.str] x some = vhex_body k x
  | s => by kernel_rfl
theorem vhex_run (k : Nat) : FnOk Tryz.prog elT glT 151 [.str] [.str] (vhex_body k) := by
  refine fnOk_run Tryz.func151 rfl (by kernel_rfl) follows (by kernel_rfl) (n := 1) (by kernel_rfl) (px := vhex_px _ k) (fun cx hP hel hgl => ?_) (vhex_eq k)
  have hp0 : PxOk cx (vhex_px (HV [.str]) k) := ⟨fun t => by rw [hP, hel]; exact tt_ok ttL_ok t, by rw [hgl]; rfl⟩
  have hc0 : CallOk cx (vhex_px (HV [.str]) k) := callT_ok rfl cfs_nil
  have hq0 : CallQOk cx (vhex_px (HV [.str]) k) := callQT_ok rfl cqfs_nil
  have hlvhex_0 : LoopOk cx (vhex_px (HV [.str]) k) (lp Tryz.f151 0) := loop_ok hp0 hc0 hq0 (by rw [hP]; exact follows) (k := k) (s := vhex_0_sg) (step := vhex_0) (fun _ _ => by kernel_rfl) (by kernel_rfl) (vhex_0_eq _ k) (loops_in (n := 0) (by kernel_rfl) all0)
  exact ⟨hp0, hc0, hq0, (allS all0 hlvhex_0)⟩
def vhex (s : Str) : Option Str := cond (decide (s.length ≤ 3000)) (some (hexs s)) none
def vhex_F : FT [.str] [.str] := fun x => vhex x
theorem vhex_loop {R : Type} {kx : Ex → vhex_0_V → Option R} {s : Str} {b : Str → Option R} (hs : s.length ≤ 3000) (h2 : ∀ out j, kx (.exit 0) (s, out, (s.length : Int), j) = b out) : ∀ (k i : Nat) (out : Str), i ≤ s.length → s.length - i < k → out.length ≤ 2 * i → iter (fun rec => vhex_0 rec kx) k (s, out, (s.length : Int), (i : Int)) = b (out ++ hexs (s.drop i))
  | 0, i, _, _, h, _ => absurd h (Nat.not_lt_zero _)
  | k + 1, i, out, hi, h, ho => by
    rw [iter_s]
    by_cases hl : i < s.length
    · obtain ⟨h3, h4, h5⟩ := hx (s[i]'hl)
      have hn : ln s.length := by simp only [ln]; omega
      have ih := vhex_loop hs h2 k (i + 1) (out ++ hex2 (s[i]'hl).toNat) (by omega) (by omega) (by simp only [List.length_append, hex2, List.length_cons, List.length_nil]; omega)
      simp only [vhex_0, wr_succ hl hn, bat_nat hl, inb_t hl, h3, h4, h5, ih, h2]
      rw [decide_eq_true (show (i : Int) < (s.length : Int) by omega), decide_eq_true (show out.length + 2 ≤ maxApp by simp only [maxApp]; omega), drop_cons hl]
      simp only [chk, cond_t, hexs, List.flatMap_cons, List.append_assoc]
    · simp only [vhex_0, h2]
      rw [decide_eq_false (show ¬ (i : Int) < (s.length : Int) by omega), List.drop_eq_nil_of_le (by omega)]
      simp [hexs]
theorem vhex_ok : FnOk Tryz.prog elT glT 151 [.str] [.str] vhex_F := .fin 0 vhex_run fun s r hb hx => ⟨3001, by
  simp only [vhex_F, vhex] at hx
  by_cases hs : s.length ≤ 3000
  · rw [decide_eq_true hs] at hx
    simp only [vhex_body]
    exact (vhex_loop (b := some) hs (fun _ _ => rfl) 3001 0 [] (Nat.zero_le _) (by omega) (by simp)).trans hx
  · rw [decide_eq_false hs] at hx
    cases hx⟩
/-! ## decimal -/
def dch (d : Int) : UInt8 := UInt8.ofNat (48 + d).toNat
def txt (l : List Int) : Str := (l.map dch).reverse
def numT (n : Int) : Str := let t := if n = 0 then [48] else txt (digs n.natAbs)
  if n < 0 then 45 :: t else t
theorem txt_cons (d : Int) (l : List Int) : txt (d :: l) = txt l ++ [dch d] := by simp [txt]
theorem dch_u {d : Int} (h : 0 ≤ d ∧ d ≤ 9) : UInt8.ofNat ((wr .u8 (wr .u64 (48 + d))) : Int).toNat = dch d := by
  have e : wr .u8 (wr .u64 (48 + d)) = 48 + d := by
    rw [wru_id (by omega)]
    simp only [wr, IntKind.wrap, IntKind.bits, IntKind.signed]
    simp
    omega
  rw [e]; rfl
theorem txt_len (l : List Int) : (txt l).length = l.length := by simp [txt]
theorem txt_step (n : Int) : txt (digs (n.natAbs / 10)) ++ [dch ((n.natAbs % 10 : Nat) : Int)] = if n = 0 then [48] else txt (digs n.natAbs) := by
  by_cases h0 : n = 0
  · subst h0
    rw [if_pos rfl, show (0 : Int).natAbs / 10 = 0 from rfl, digs_zero]
    rfl
  · rw [if_neg h0, digs_pos (n := n.natAbs) (by omega), txt_cons]
/-! ## exchequer/value.digits -/
def vdigits_0_sg : Sig := ⟨32, [(0, .int .i64), (3, .sl .byte true), (4, .int .u64)], [], [], 0, 0, 0, [], []⟩
abbrev vdigits_0_V := Int × List UInt8 × Int
def vdigits_0 {R : Type} (rec : vdigits_0_V → Option R) (kx : Ex → vdigits_0_V → Option R) (v : vdigits_0_V) : Option R := match v with
 | (v, v1, v2) =>
  cond (decide (0 < v2)) (
   chk (decide (1 + v1.length ≤ maxApp)) (
    rec (v, ([(UInt8.ofNat ((wr .u8 (wr .u64 (48 + (Int.tmod v2 10)))) : Int).toNat)] ++ v1), (wr .u64 (Int.tdiv v2 10))))) (
   kx (.exit 0) (v, v1, v2))
def vdigits_px (R : Type) (k : Nat) : Px R := ⟨ttOf ttL, glT, callT [(170, callOr [.int .i64] [.int .u64] vsize_F)], callQT [], loopT [(3, loopOr k vdigits_0_sg (vdigits_0))]⟩
theorem vdigits_0_eq (R : Type) (k : Nat) : ∀ (fr : List Fr) (rec : vdigits_0_V → Option R) (kx : Ex → vdigits_0_V → Option R) (v : vdigits_0_V), round (vdigits_px R k) vdigits_0_sg (lp Tryz.f149 0) fr rec kx v = vdigits_0 rec kx v
  | fr, rec, kx, (v, v1, v2) => by kernel_rfl
def vdigits_body (k : Nat) (x : HV [.int .i64]) : Option (HV [.str]) := match x with
 | n =>
  iter (fun rec => vdigits_0 rec (fun e vz => match vz with | (v3, v4, _) => match e with
   | .exit 0 =>
    cond (decide (v3 < 0)) (
     chk (decide ([45].length + v4.length ≤ maxStr)) (
      some ([45] ++ v4))) (
     some v4)
   | _ => none)) k (n, [(UInt8.ofNat ((wr .u8 (wr .u64 (48 + (Int.tmod (vsize n) 10)))) : Int).toNat)], (wr .u64 (Int.tdiv (vsize n) 10)))
theorem vdigits_eq (k : Nat) : ∀ (x : HV [.int .i64]), runF (vdigits_px _ k) Tryz.f149 [.int .i64] [.str] x some = vdigits_body k x
  | n => by kernel_rfl
theorem vdigits_run (k : Nat) : FnOk Tryz.prog elT glT 149 [.int .i64] [.str] (vdigits_body k) := by
  refine fnOk_run Tryz.func149 rfl (by kernel_rfl) follows (by kernel_rfl) (n := 1) (by kernel_rfl) (px := vdigits_px _ k) (fun cx hP hel hgl => ?_) (vdigits_eq k)
  have hp0 : PxOk cx (vdigits_px (HV [.str]) k) := ⟨fun t => by rw [hP, hel]; exact tt_ok ttL_ok t, by rw [hgl]; rfl⟩
  have hc0 : CallOk cx (vdigits_px (HV [.str]) k) := callT_ok rfl (cfs_cons (cf_or (by rw [hP, hel, hgl]; exact vsize_ok) (by kernel_rfl)) cfs_nil)
  have hq0 : CallQOk cx (vdigits_px (HV [.str]) k) := callQT_ok rfl cqfs_nil
  have hlvdigits_0 : LoopOk cx (vdigits_px (HV [.str]) k) (lp Tryz.f149 0) := loop_ok hp0 hc0 hq0 (by rw [hP]; exact follows) (k := k) (s := vdigits_0_sg) (step := vdigits_0) (fun _ _ => by kernel_rfl) (by kernel_rfl) (vdigits_0_eq _ k) (loops_in (n := 0) (by kernel_rfl) all0)
  exact ⟨hp0, hc0, hq0, (allS all0 hlvdigits_0)⟩
abbrev vdigits (n : Int) : Str := numT n
def vdigits_F : FT [.int .i64] [.str] := fun x => some (vdigits x)
theorem absZ {n : Int} (h : inI n) : vsize n = (n.natAbs : Int) := by
  rw [vsize_z h]
  simp only [absI]
  split <;> omega
theorem vdigits_loop {R : Type} {kx : Ex → vdigits_0_V → Option R} {n : Int} {b : Str → Option R} (h2 : ∀ out x, kx (.exit 0) (n, out, x) = b out) : ∀ (k a : Nat) (out : Str), (a : Int) ≤ 18446744073709551615 → (digs a).length < k → out.length + (digs a).length ≤ 1000 → iter (fun rec => vdigits_0 rec kx) k (n, out, (a : Int)) = b (txt (digs a) ++ out)
  | 0, a, out, _, h, _ => absurd h (Nat.not_lt_zero _)
  | k + 1, a, out, ha, h, ho => by
    rw [iter_s]
    by_cases h0 : a = 0
    · subst h0
      simp only [vdigits_0, h2]
      rw [decide_eq_false (by omega), digs_zero]
      rfl
    · have hd := digs_pos h0
      rw [hd, List.length_cons] at h ho
      have e1 : Int.tmod (a : Int) 10 = ((a % 10 : Nat) : Int) := rfl
      have e2 : wr .u64 (Int.tdiv (a : Int) 10) = ((a / 10 : Nat) : Int) := by
        have : Int.tdiv (a : Int) 10 = ((a / 10 : Nat) : Int) := rfl
        rw [this, wru_id (by omega)]
      have ih := vdigits_loop h2 k (a / 10) ([dch ((a % 10 : Nat) : Int)] ++ out) (by omega) (by omega) (by simp only [List.length_append, List.length_cons, List.length_nil]; omega)
      simp only [vdigits_0, e1, e2, dch_u (show 0 ≤ ((a % 10 : Nat) : Int) ∧ ((a % 10 : Nat) : Int) ≤ 9 by omega), ih]
      rw [decide_eq_true (show (0 : Int) < (a : Int) by omega), decide_eq_true (show 1 + out.length ≤ maxApp by simp only [maxApp]; omega), hd, txt_cons]
      simp [chk]
theorem vdigits_ok : FnOk Tryz.prog elT glT 149 [.int .i64] [.str] vdigits_F := .fin 0 vdigits_run fun n r hb hx => ⟨30, by
  have hb := inK_i64 hb
  simp only [vdigits_F, Option.some.injEq] at hx
  subst hx
  have hl : (digs (n.natAbs / 10)).length ≤ 20 := digs_len 20 _ (by
    simp only [inI] at hb
    have : pw 20 = 100000000000000000000 := by kernel_rfl
    omega)
  have e1 : Int.tmod (n.natAbs : Int) 10 = ((n.natAbs % 10 : Nat) : Int) := rfl
  have e2 : wr .u64 (Int.tdiv (n.natAbs : Int) 10) = ((n.natAbs / 10 : Nat) : Int) := by
    have : Int.tdiv (n.natAbs : Int) 10 = ((n.natAbs / 10 : Nat) : Int) := rfl
    simp only [inI] at hb
    rw [this, wru_id (by omega)]
  simp only [vdigits_body, absZ hb, e1, e2, dch_u (show 0 ≤ ((n.natAbs % 10 : Nat) : Int) ∧ ((n.natAbs % 10 : Nat) : Int) ≤ 9 by omega)]
  refine (vdigits_loop (b := fun out => cond (decide (n < 0)) (chk (decide ([45].length + out.length ≤ maxStr)) (some ([45] ++ out))) (some out)) (fun _ _ => rfl) 30 (n.natAbs / 10) [dch ((n.natAbs % 10 : Nat) : Int)] (by simp only [inI] at hb; omega) (by omega) (by simp only [List.length_cons, List.length_nil]; omega)).trans ?_
  have et := txt_step n
  have hlen : (txt (digs (n.natAbs / 10)) ++ [dch ((n.natAbs % 10 : Nat) : Int)]).length ≤ 21 := by
    rw [List.length_append, txt_len]; simp only [List.length_cons, List.length_nil]; omega
  have hc : decide ([45].length + (txt (digs (n.natAbs / 10)) ++ [dch ((n.natAbs % 10 : Nat) : Int)]).length ≤ maxStr) = true := decide_eq_true (by simp only [List.length_cons, List.length_nil, maxStr]; omega)
  simp only [hc, chk, cond_t]
  rw [et]
  simp only [vdigits, numT]
  by_cases h : n < 0
  · rw [decide_eq_true h, if_pos h]; rfl
  · rw [decide_eq_false h, if_neg h]; rfl⟩
/-! ## a text between signs -/
def quo : Str → Str
  | [] => []
  | b :: l => if b = 39 then 39 :: 39 :: quo l else b :: quo l
theorem quo_len (s : Str) : (quo s).length ≤ 2 * s.length := by
  induction s with
  | nil => simp [quo]
  | cons b l ih =>
    simp only [quo]
    split <;> simp only [List.length_cons] <;> omega
theorem quo_index : ∀ s : Str, (Lib.index s [39] = -1 ∧ quo s = s) ∨ ∃ i : Nat, Lib.index s [39] = (i : Int) ∧ i < s.length ∧ quo s = s.take i ++ [39, 39] ++ quo (s.drop (i + 1))
  | [] => .inl ⟨rfl, rfl⟩
  | b :: l => by
    by_cases h : b = 39
    · subst h
      refine .inr ⟨0, rfl, by simp, by simp [quo]⟩
    · have hp : List.isPrefixOf [39] (b :: l) = false := by
        simp only [List.isPrefixOf, Bool.and_true]
        exact beq_eq_false_iff_ne.2 (Ne.symm h)
      rcases quo_index l with ⟨h1, h2⟩ | ⟨i, h1, h2, h3⟩
      · left
        refine ⟨?_, by simp only [quo, if_neg h, h2]⟩
        unfold Lib.index
        rw [hp, h1]
        rfl
      · right
        refine ⟨i + 1, ?_, by simpa using h2, ?_⟩
        · unfold Lib.index
          rw [hp, h1]
          have : ((i : Int) == -1) = false := beq_eq_false_iff_ne.2 (by omega)
          simp [this]
        · simp only [quo, if_neg h, h3, List.take_succ_cons, List.drop_succ_cons, List.cons_append]
theorem quo_count : ∀ (f : Nat) (s : Str), s.length < f → Lib.replaceK [39] [39, 39] (Lib.countFrom [39] f s) s = quo s
  | 0, s, h => absurd h (Nat.not_lt_zero _)
  | f + 1, s, h => by
    rcases quo_index s with ⟨h1, h2⟩ | ⟨i, h1, h2, h3⟩
    · simp only [Lib.countFrom, h1]
      exact h2.symm
    · have hn : ((i : Int) == -1) = false := beq_eq_false_iff_ne.2 (by omega)
      have ih := quo_count f (s.drop (i + 1)) (by rw [List.length_drop]; omega)
      have e : Lib.countFrom [39] (f + 1) s = Lib.countFrom [39] f (s.drop (i + 1)) + 1 := by
        simp only [Lib.countFrom, h1, hn, Int.toNat_natCast, List.length_cons, List.length_nil]
        simp [Nat.add_comm]
      rw [e, Lib.replaceK_hit _ _ _ _ i h1]
      simp only [List.length_cons, List.length_nil, Nat.zero_add]
      rw [ih, h3]
theorem quo_all (s : Str) : Lib.replaceAll s [39] [39, 39] = quo s := by
  have e : Lib.replaceNum s [39] (-1) = Lib.countFrom [39] (s.length + 1) s := by
    unfold Lib.replaceNum
    rw [if_pos (.inl (by decide))]
    rfl
  have hc := quo_count (s.length + 1) s (by omega)
  rw [← e] at hc
  exact hc
theorem repAll_quo {s : Str} (h : s.length ≤ 3000) : repAll s [39] [39, 39] = some (quo s) := by
  have h1 := Lib.countB_mul_le ⟨#[39]⟩ (by decide) s.length ⟨s.toArray⟩ (Nat.le_refl _)
  have h2 : Lib.count s [39] * 1 ≤ s.length := h1
  have h3 := quo_len s
  simp only [repAll, quo_all]
  rw [decide_eq_true (show s.length < 4294967281 by omega), decide_eq_true (show 1 ≤ ([39] : Str).length by decide), decide_eq_true (show s.length + Lib.count s [39] * ([39, 39] : Str).length ≤ 140737488355328 by simp only [List.length_cons, List.length_nil]; omega), decide_eq_true (show (quo s).length ≤ maxLen by simp only [maxLen]; omega)]
  rfl
/-! ## exchequer/value.Print -/
def vprint_px (R : Type) : Px R := ⟨ttOf ttL, glT, callT [(147, callOr [.sv .val] [.bool] vright_F), (149, callOr [.int .i64] [.str] vdigits_F), (150, callOr [.str, .str, .str] [.str] repAll_F), (151, callOr [.str] [.str] vhex_F)], callQT [], loopT []⟩
def vprint_body (x : HV [.sv .val]) : Option (HV [.str]) := match x with
 | v =>
  cond (!(vright v)) (
   some []) (
   cond (decide (v.kind = 2)) (
    chk (inb v.n 2) (
     some (at' .str [[70, 65, 76, 83, 69], [84, 82, 85, 69]] v.n))) (
    cond (decide (v.kind = 3)) (
     some (vdigits v.n)) (
     cond (decide (v.kind = 4)) (
      (repAll v.s [39] [39, 39]).bind fun x =>
       chk (decide ([39].length + x.length ≤ maxStr)) (
        chk (decide (([39] ++ x).length + [39].length ≤ maxStr)) (
         some (([39] ++ x) ++ [39])))) (
      cond (decide (v.kind = 5)) (
       (vhex v.s).bind fun x1 =>
        chk (decide ([120, 39].length + x1.length ≤ maxStr)) (
         chk (decide (([120, 39] ++ x1).length + [39].length ≤ maxStr)) (
          some (([120, 39] ++ x1) ++ [39])))) (
       some [78, 85, 76, 76])))))
theorem vprint_eq : ∀ (x : HV [.sv .val]), runF (vprint_px _) Tryz.f98 [.sv .val] [.str] x some = vprint_body x
  | v => by kernel_rfl
theorem vprint_run : FnOk Tryz.prog elT glT 98 [.sv .val] [.str] (vprint_body) := by
  refine fnOk_run Tryz.func98 rfl (by kernel_rfl) follows (by kernel_rfl) (n := 0) (by kernel_rfl) (px := vprint_px _) (fun cx hP hel hgl => ?_) (vprint_eq)
  have hp0 : PxOk cx (vprint_px (HV [.str])) := ⟨fun t => by rw [hP, hel]; exact tt_ok ttL_ok t, by rw [hgl]; rfl⟩
  have hc0 : CallOk cx (vprint_px (HV [.str])) := callT_ok rfl (cfs_cons (cf_or (by rw [hP, hel, hgl]; exact vright_ok) (by kernel_rfl)) (cfs_cons (cf_or (by rw [hP, hel, hgl]; exact vdigits_ok) (by kernel_rfl)) (cfs_cons (cf_or (by rw [hP, hel, hgl]; exact repAll_ok) (by kernel_rfl)) (cfs_cons (cf_or (by rw [hP, hel, hgl]; exact vhex_ok) (by kernel_rfl)) cfs_nil))))
  have hq0 : CallQOk cx (vprint_px (HV [.str])) := callQT_ok rfl cqfs_nil
  exact ⟨hp0, hc0, hq0, all0⟩
def vprint (v : Val) : Str := cond (vright v) (if v.kind = 2 then (if v.n = 0 then [70, 65, 76, 83, 69] else [84, 82, 85, 69]) else if v.kind = 3 then numT v.n else if v.kind = 4 then 39 :: (quo v.s ++ [39]) else if v.kind = 5 then 120 :: 39 :: (hexs v.s ++ [39]) else [78, 85, 76, 76]) []
def vprint_F : FT [.sv .val] [.str] := fun x => some (vprint x)
theorem right_len {v : Val} (h : vright v = true) (hk : v.kind = 4 ∨ v.kind = 5) : v.s.length ≤ 1000 := by
  rcases hk with h4 | h5
  · simp [vright, h4] at h
    omega
  · simp [vright, h5] at h
    omega
theorem right_bool {v : Val} (h : vright v = true) (hk : v.kind = 2) : v.n = 0 ∨ v.n = 1 := by
  by_cases h0 : v.n = 0
  · exact .inl h0
  · by_cases h1 : v.n = 1
    · exact .inr h1
    · simp [vright, hk, h0, h1] at h
theorem vprint_ok : FnOk Tryz.prog elT glT 98 [.sv .val] [.str] vprint_F := .fin0 vprint_run fun v r _ hx => by
  simp only [vprint_F, Option.some.injEq] at hx
  subst hx
  simp only [vprint_body, vprint]
  cases hr : vright v with
  | false => rfl
  | true =>
    simp only [Bool.not_true, cond_f, cond_t]
    by_cases k2 : v.kind = 2
    · rw [decide_eq_true k2, if_pos k2]
      rcases right_bool hr k2 with h | h <;> rw [h] <;> rfl
    · rw [decide_eq_false k2, if_neg k2]
      by_cases k3 : v.kind = 3
      · rw [decide_eq_true k3, if_pos k3]; rfl
      · rw [decide_eq_false k3, if_neg k3]
        by_cases k4 : v.kind = 4
        · have hl := right_len hr (.inl k4)
          have hq := quo_len v.s
          rw [decide_eq_true k4, if_pos k4]
          simp only [cond_t, cond_f, repAll_quo (show v.s.length ≤ 3000 by omega), Option.bind_some]
          refine (chk_t (decide_eq_true ?_)).trans ((chk_t (decide_eq_true ?_)).trans rfl)
          · simp only [List.length_cons, List.length_nil, maxStr]; omega
          · simp only [List.length_append, List.length_cons, List.length_nil, maxStr]; omega
        · rw [decide_eq_false k4, if_neg k4]
          by_cases k5 : v.kind = 5
          · have hl := right_len hr (.inr k5)
            have hh := hexs_len v.s
            have hv : vhex v.s = some (hexs v.s) := by simp only [vhex]; rw [decide_eq_true (by omega)]; rfl
            rw [decide_eq_true k5, if_pos k5]
            simp only [cond_t, cond_f, hv, Option.bind_some]
            refine (chk_t (decide_eq_true ?_)).trans ((chk_t (decide_eq_true ?_)).trans rfl)
            · simp only [List.length_cons, List.length_nil, maxStr]; omega
            · simp only [List.length_append, List.length_cons, List.length_nil, maxStr]; omega
          · rw [decide_eq_false k5, if_neg k5]; rfl
end Go.Proofs.YthndhaolemgbdaaGreatDoor

/- How many expressions an expression of a kind is made of. -/
namespace Go.Proofs.YthndhaolemgbdaaGreatDoor
open Go.Ax
/-! ## exchequer/ast.parts -/
def parts_px (R : Type) : Px R := ⟨ttOf ttL, glT, callT [], callQT [], loopT []⟩
def parts_body (x : HV [.int .i64]) : Option (HV [.int .i64]) := match x with
 | kind =>
  let j1 := fun (p1 : Bool) =>
   cond (p1) (
    some 0) (
    let j := fun (p5 : Bool) =>
     cond (p5) (
      some 1) (
      cond (!decide ((mget signsL kind) = [])) (
       some 2) (
       some (-1)))
    cond (decide (kind = 3)) (
     j true) (
     cond (decide (kind = 15)) (
      j true) (
      j (decide (kind = 16)))))
  cond (decide (kind = 1)) (
   j1 true) (
   j1 (decide (kind = 2)))
theorem parts_eq : ∀ (x : HV [.int .i64]), runF (parts_px _) Tryz.f94 [.int .i64] [.int .i64] x some = parts_body x
  | kind => by kernel_rfl
theorem parts_run : FnOk Tryz.prog elT glT 94 [.int .i64] [.int .i64] (parts_body) := by
  refine fnOk_run Tryz.func94 rfl (by kernel_rfl) follows (by kernel_rfl) (n := 0) (by kernel_rfl) (px := parts_px _) (fun cx hP hel hgl => ?_) (parts_eq)
  have hp0 : PxOk cx (parts_px (HV [.int .i64])) := ⟨fun t => by rw [hP, hel]; exact tt_ok ttL_ok t, by rw [hgl]; rfl⟩
  have hc0 : CallOk cx (parts_px (HV [.int .i64])) := callT_ok rfl cfs_nil
  have hq0 : CallQOk cx (parts_px (HV [.int .i64])) := callQT_ok rfl cqfs_nil
  exact ⟨hp0, hc0, hq0, all0⟩
def parts (kind : Int) : Int :=
  let j1 := fun (p1 : Bool) =>
   cond (p1) (
    0) (
    let j := fun (p5 : Bool) =>
     cond (p5) (
      1) (
      cond (!decide ((mget signsL kind) = [])) (
       2) (
       (-1)))
    cond (decide (kind = 3)) (
     j true) (
     cond (decide (kind = 15)) (
      j true) (
      j (decide (kind = 16)))))
  cond (decide (kind = 1)) (
   j1 true) (
   j1 (decide (kind = 2)))
theorem parts_tot (x : HV [.int .i64]) : parts_body x = some (parts x) := by
  first
    | exact rfl
    | simp only [parts_body, parts, cond_some]
def parts_F : FT [.int .i64] [.int .i64] := fun x => some (parts x)
theorem parts_ok : FnOk Tryz.prog elT glT 94 [.int .i64] [.int .i64] parts_F := .fin0 parts_run fun x _ _ hx => (parts_tot x).trans hx
end Go.Proofs.YthndhaolemgbdaaGreatDoor

/- Functions that call themselves: whether an expression may be, its kind, its value, how much there is in it. -/
namespace Go.Proofs.YthndhaolemgbdaaGreatDoor
open Go.Ax
mutual
def esize : Xpr → Nat
  | .mk _ _ _ l => 1 + esizes l
def esizes : List Xpr → Nat
  | [] => 0
  | x :: l => 1 + esize x + esizes l
end
theorem esize_mem : ∀ {l : List Xpr} {x : Xpr}, x ∈ l → esize x < esizes l
  | y :: l, x, h => by
    simp only [List.mem_cons] at h
    simp only [esizes]
    rcases h with rfl | h
    · omega
    · have := esize_mem h; omega
theorem esizes_len : ∀ (l : List Xpr), l.length ≤ esizes l
  | [] => by simp
  | x :: l => by have := esizes_len l; simp only [esizes, List.length_cons]; omega
theorem esize_pos (e : Xpr) : 0 < esize e := by cases e; simp only [esize]; omega
theorem esize_eq (e : Xpr) : esize e = 1 + esizes e.l := by cases e; simp only [esize, Xpr.l]
theorem bd_ls {e : Xpr} (h : BdExpr e) : ln e.l.length ∧ ∀ x, x ∈ e.l → BdExpr x := by
  obtain ⟨_, _, _, _, _, _, _, h4, h5⟩ := h
  exact ⟨h4, h5⟩
theorem bd_v {e : Xpr} (h : BdExpr e) : BdVal e.v ∧ inI e.kind ∧ ln e.name.length := by
  obtain ⟨_, _, _, _, h1, h2, h3, _, _⟩ := h
  exact ⟨h2, h1, h3⟩
/-! ## may it be? -/
/-! ## exchequer/ast.right -/
def eright_0_sg : Sig := ⟨19, [(0, .sl .expr false), (4, .int .i64), (7, .int .i64), (8, .int .i64)], [(1, .fn 97 [.ptr 1 0])], [(1, .cells [.int .i64])], 80, 80, 400, [], []⟩
abbrev eright_0_V := List Xpr × Int × Int × Int × Int
def eright_0 {R : Type} (rf : FT [.sv .expr, .int .i64] [.bool]) (rec : eright_0_V → Option R) (kx : Ex → eright_0_V → Option R) (v : eright_0_V) : Option R := match v with
 | (v, v1, v2, v3, w) =>
  cond (decide (v3 < v2)) (
   chk (inb v3 v.length) (
    (rf ((at' .expr v v3), (wr .i64 (w - 1)))).bind fun x =>
     cond (!x) (
      kx .ret (v, v3, v2, v3, w)) (
      rec (v, v1, v2, (wr .i64 (v3 + 1)), w)))) (
   kx (.exit 0) (v, v1, v2, v3, w))
def eright_pxi0i0i0 (R : Type) (_k : Nat) (rf : FT [.sv .expr, .int .i64] [.bool]) : Px R := ⟨ttOf ttL, glT, callT [(39, callOr [.sv .expr, .int .i64] [.bool] rf)], callQT [], loopT []⟩
noncomputable def eright_pxi0i0 (R : Type) (k : Nat) (rf : FT [.sv .expr, .int .i64] [.bool]) : Px R := ⟨ttOf ttL, glT, callT [(97, callRun 120 600 (eright_pxi0i0i0 R k rf) Tryz.f97)], callQT [], loopT [(2, loopOr k eright_0_sg (eright_0 rf))]⟩
noncomputable def eright_pxi0 (R : Type) (k : Nat) (rf : FT [.sv .expr, .int .i64] [.bool]) : Px R := ⟨ttOf ttL, glT, callT [(148, callRun 80 400 (eright_pxi0i0 R k rf) Tryz.f148)], callQT [], loopT []⟩
noncomputable def eright_px (R : Type) (k : Nat) (rf : FT [.sv .expr, .int .i64] [.bool]) : Px R := ⟨ttOf ttL, glT, callT [(95, callOr [.sv .val] [.int .i64] vcheck_F), (63, callOr [.str] [.bool] lname_F), (96, callRun 40 200 (eright_pxi0 R k rf) Tryz.f96)], callQT [(94, callOrQ [.int .i64] [.int .i64] parts_F)], loopT []⟩
theorem eright_0_eq (R : Type) (k : Nat) (rf : FT [.sv .expr, .int .i64] [.bool]) : ∀ (fr : List Fr) (rec : eright_0_V → Option R) (kx : Ex → eright_0_V → Option R) (v : eright_0_V), round (eright_pxi0i0 R k rf) eright_0_sg (lp Tryz.f148 0) fr rec kx v = eright_0 rf rec kx v
  | fr, rec, kx, (v, v1, v2, v3, w) => by kernel_rfl
def eright_body (k : Nat) (rf : FT [.sv .expr, .int .i64] [.bool]) (x : HV [.sv .expr, .int .i64]) : Option (HV [.bool]) := match x with
 | (e, most) =>
  cond (decide (most = 0)) (
   some false) (
   cond (!decide ((e.l.length : Int) = (parts e.kind))) (
    some false) (
    let j2 := fun (_ : Unit) =>
     let j1 := fun (_ : Unit) =>
      iter (fun rec => eright_0 rf rec (fun e vz => match vz with | (_, v5, _, _, _) => match e with
       | .ret =>
        some (!(decide (0 ≤ v5)))
       | .exit 0 =>
        some true
       | _ => none)) k (e.l, 0, (e.l.length : Int), 0, most)
     let j := fun (p5 : Bool) =>
      cond (p5) (
       some false) (
       cond (!decide (e.kind = 2)) (
        cond (!decide (e.name = [])) (
         some false) (
         j1 ())) (
        j1 ()))
     cond (decide (e.kind = 2)) (
      j (!(lname e.name))) (
      j false)
    cond (decide (e.kind = 1)) (
     cond (!decide ((vcheck e.v) = 0)) (
      some false) (
      cond (decide (e.v.kind = 3)) (
       cond (decide (e.v.n < 0)) (
        some false) (
        j2 ())) (
       j2 ()))) (
     cond (!decide (e.v = (Val.mk 0 0 []))) (
      some false) (
      j2 ()))))
theorem eright_eq (k : Nat) (rf : FT [.sv .expr, .int .i64] [.bool]) : ∀ (x : HV [.sv .expr, .int .i64]), runF (eright_px _ k rf) Tryz.f39 [.sv .expr, .int .i64] [.bool] x some = eright_body k rf x
  | (e, most) => by kernel_rfl
theorem eright_run (k : Nat) (rf : FT [.sv .expr, .int .i64] [.bool]) (hrf : FnOk Tryz.prog elT glT 39 [.sv .expr, .int .i64] [.bool] rf) : FnOk Tryz.prog elT glT 39 [.sv .expr, .int .i64] [.bool] (eright_body k rf) := by
  refine fnOk_run Tryz.func39 rfl (by kernel_rfl) follows (by kernel_rfl) (n := 0) (by kernel_rfl) (px := eright_px _ k rf) (fun cx hP hel hgl => ?_) (eright_eq k rf)
  have hp3 : PxOk cx (eright_pxi0i0i0 (HV [.bool]) k rf) := ⟨fun t => by rw [hP, hel]; exact tt_ok ttL_ok t, by rw [hgl]; rfl⟩
  have hc3 : CallOk cx (eright_pxi0i0i0 (HV [.bool]) k rf) := callT_ok rfl (cfs_cons (cf_or (by rw [hP, hel, hgl]; exact hrf) (by kernel_rfl)) cfs_nil)
  have hq3 : CallQOk cx (eright_pxi0i0i0 (HV [.bool]) k rf) := callQT_ok rfl cqfs_nil
  have hp2 : PxOk cx (eright_pxi0i0 (HV [.bool]) k rf) := ⟨fun t => by rw [hP, hel]; exact tt_ok ttL_ok t, by rw [hgl]; rfl⟩
  have hc2 : CallOk cx (eright_pxi0i0 (HV [.bool]) k rf) := callT_ok rfl (cfs_cons (cf_run hp3 hc3 hq3 (by rw [hP]; exact follows) (by rw [hP]; exact Tryz.func97) rfl (by kernel_rfl) (by kernel_rfl) (n := 0) (by kernel_rfl) (all0)) cfs_nil)
  have hq2 : CallQOk cx (eright_pxi0i0 (HV [.bool]) k rf) := callQT_ok rfl cqfs_nil
  have hleright_0 : LoopOk cx (eright_pxi0i0 (HV [.bool]) k rf) (lp Tryz.f148 0) := loop_ok hp2 hc2 hq2 (by rw [hP]; exact follows) (k := k) (s := eright_0_sg) (step := eright_0 rf) (fun _ _ => by kernel_rfl) (by kernel_rfl) (eright_0_eq _ k rf) (loops_in (n := 0) (by kernel_rfl) all0)
  have hp1 : PxOk cx (eright_pxi0 (HV [.bool]) k rf) := ⟨fun t => by rw [hP, hel]; exact tt_ok ttL_ok t, by rw [hgl]; rfl⟩
  have hc1 : CallOk cx (eright_pxi0 (HV [.bool]) k rf) := callT_ok rfl (cfs_cons (cf_run hp2 hc2 hq2 (by rw [hP]; exact follows) (by rw [hP]; exact Tryz.func148) rfl (by kernel_rfl) (by kernel_rfl) (n := 1) (by kernel_rfl) ((allS all0 hleright_0))) cfs_nil)
  have hq1 : CallQOk cx (eright_pxi0 (HV [.bool]) k rf) := callQT_ok rfl cqfs_nil
  have hp0 : PxOk cx (eright_px (HV [.bool]) k rf) := ⟨fun t => by rw [hP, hel]; exact tt_ok ttL_ok t, by rw [hgl]; rfl⟩
  have hc0 : CallOk cx (eright_px (HV [.bool]) k rf) := callT_ok rfl (cfs_cons (cf_or (by rw [hP, hel, hgl]; exact vcheck_ok) (by kernel_rfl)) (cfs_cons (cf_or (by rw [hP, hel, hgl]; exact lname_ok) (by kernel_rfl)) (cfs_cons (cf_run hp1 hc1 hq1 (by rw [hP]; exact follows) (by rw [hP]; exact Tryz.func96) rfl (by kernel_rfl) (by kernel_rfl) (n := 0) (by kernel_rfl) (all0)) cfs_nil)))
  have hq0 : CallQOk cx (eright_px (HV [.bool]) k rf) := callQT_ok rfl (cqfs_cons (cqf_or (by rw [hP, hel, hgl]; exact parts_ok) (by kernel_rfl)) cqfs_nil)
  exact ⟨hp0, hc0, hq0, all0⟩
def eok (k : Int) (v : Val) (nm : Str) : Bool := cond (decide (k = 1)) (decide (vcheck v = 0) && !(decide (v.kind = 3) && decide (v.n < 0))) (decide (v = ⟨0, 0, []⟩)) && cond (decide (k = 2)) (lname nm) (decide (nm = []))
mutual
def eright : Xpr → Int → Bool
  | .mk k v nm l, m => !decide (m = 0) && decide ((l.length : Int) = parts k) && eok k v nm && erights l (wr .i64 (m - 1))
def erights : List Xpr → Int → Bool
  | [], _ => true
  | x :: l, m => eright x m && erights l m
end
def eright_F : FT [.sv .expr, .int .i64] [.bool] := fun x => some (eright x.1 x.2)
theorem eright_loop {R : Type} {rf : FT [.sv .expr, .int .i64] [.bool]} {kx : Ex → eright_0_V → Option R} {l : List Xpr} {m : Int} {a b : Option R} (hn : ln l.length) (hrf : ∀ x, x ∈ l → rf (x, wr .i64 (m - 1)) = some (eright x (wr .i64 (m - 1)))) (h1 : ∀ (j : Nat), kx .ret (l, (j : Int), (l.length : Int), (j : Int), m) = a) (h2 : ∀ q j, kx (.exit 0) (l, q, (l.length : Int), j, m) = b) : ∀ (k i : Nat) q, i ≤ l.length → l.length - i < k → iter (fun rec => eright_0 rf rec kx) k (l, q, (l.length : Int), (i : Int), m) = cond (erights (l.drop i) (wr .i64 (m - 1))) b a
  | 0, i, q, _, h => by omega
  | k + 1, i, q, hi, h => by
    rw [iter_s]
    by_cases hl : i < l.length
    · have ih := eright_loop hn hrf h1 h2 k (i + 1) q (by omega) (by omega)
      simp only [eright_0, wr_succ hl hn, ih, h1, drop_cons hl, at_nat (c := .expr) hl, inb_t hl, chk, cond_t, Bool.cond_decide, erights, hrf _ (List.getElem_mem hl), Option.bind_some]
      rw [if_pos (by omega)]
      cases eright l[i] (wr .i64 (m - 1)) <;> rfl
    · simp only [eright_0, h2, Bool.cond_decide]
      rw [if_neg (by omega), List.drop_eq_nil_of_le (by omega)]
      rfl
theorem eright_un (e : Xpr) (m : Int) : eright e m = (!decide (m = 0) && decide ((e.l.length : Int) = parts e.kind) && eok e.kind e.v e.name && erights e.l (wr .i64 (m - 1))) := by
  cases e
  simp only [eright]
  rfl
theorem eright_all (k : Nat) : ∀ (n : Nat) (e : Xpr) (m : Int), BdExpr e → esize e ≤ n → esize e ≤ k → iter (eright_body k) n (e, m) = some (eright e m)
  | 0, e, m, _, h, _ => by have := esize_pos e; omega
  | n + 1, e, m, hb, h, hk => by
    obtain ⟨hb4, hb5⟩ := bd_ls hb
    rw [esize_eq] at h hk
    have hl := esizes_len e.l
    have hrf : ∀ x, x ∈ e.l → ∀ m, iter (eright_body k) n (x, m) = some (eright x m) := fun x hx m => eright_all k n x m (hb5 x hx) (by have := esize_mem hx; omega) (by have := esize_mem hx; omega)
    have hloop := eright_loop (R := Bool) (rf := iter (eright_body k) n) (l := e.l) (m := m) (a := some false) (b := some true) (kx := fun e v => match v with
      | (_, v5, _, _, _) => match e with
        | .ret => some (!(decide (0 ≤ v5)))
        | .exit 0 => some true
        | _ => none) hb4 (fun x hx => hrf x hx _) (fun j => by simp) (fun _ _ => rfl) k 0 0 (Nat.zero_le _) (by omega)
    have e0 : ((0 : Nat) : Int) = 0 := rfl
    rw [e0] at hloop
    rw [iter_s, eright_un]
    simp only [eright_body] at hloop ⊢
    rw [hloop]
    simp only [List.drop_zero, eok]
    by_cases hm : m = 0
    · simp [hm]
    · rw [decide_eq_false hm]
      simp only [cond_f, Bool.not_false, Bool.true_and]
      by_cases hp : (e.l.length : Int) = parts e.kind
      · rw [decide_eq_true hp]
        by_cases h1 : e.kind = 1
        · have h2 : ¬ e.kind = 2 := by omega
          rw [decide_eq_true h1, decide_eq_false h2]
          simp only [cond_t, cond_f, Bool.not_false, Bool.not_true, Bool.true_and]
          cases decide (vcheck e.v = 0) <;> cases decide (e.v.kind = 3) <;> cases decide (e.v.n < 0) <;> cases decide (e.name = []) <;> cases erights e.l (wr .i64 (m - 1)) <;> rfl
        · rw [decide_eq_false h1]
          simp only [cond_f, Bool.not_true, Bool.true_and]
          cases decide (e.v = Val.mk 0 0 []) <;> cases decide (e.kind = 2) <;> cases decide (e.name = []) <;> cases lname e.name <;> cases erights e.l (wr .i64 (m - 1)) <;> rfl
      · rw [decide_eq_false hp]; rfl
theorem eright_ok : FnOk Tryz.prog elT glT 39 [.sv .expr, .int .i64] [.bool] eright_F := by
  refine .fin (ι := Nat) 0 (F := fun n => iter (eright_body n) n) (fun n => FnOk.rec' (Sx.enters_of Tryz.func39 rfl rfl) (fun rf hrf => eright_run n rf hrf) n) fun (e, m) r hb hx => ⟨esize e, ?_⟩
  exact (eright_all (esize e) (esize e) e m hb.1 (Nat.le_refl _) (Nat.le_refl _)).trans hx
/-! ## exchequer/ast.Expr -/
def aexpr_px (R : Type) : Px R := ⟨ttOf ttL, glT, callT [(39, callOr [.sv .expr, .int .i64] [.bool] eright_F)], callQT [], loopT []⟩
def aexpr_body (x : HV [.sv .expr]) : Option (HV [.int .i64]) := match x with
 | e =>
  cond (!(eright e 30)) (
   some 2) (
   some 0)
theorem aexpr_eq : ∀ (x : HV [.sv .expr]), runF (aexpr_px _) Tryz.f18 [.sv .expr] [.int .i64] x some = aexpr_body x
  | e => by kernel_rfl
theorem aexpr_run : FnOk Tryz.prog elT glT 18 [.sv .expr] [.int .i64] (aexpr_body) := by
  refine fnOk_run Tryz.func18 rfl (by kernel_rfl) follows (by kernel_rfl) (n := 0) (by kernel_rfl) (px := aexpr_px _) (fun cx hP hel hgl => ?_) (aexpr_eq)
  have hp0 : PxOk cx (aexpr_px (HV [.int .i64])) := ⟨fun t => by rw [hP, hel]; exact tt_ok ttL_ok t, by rw [hgl]; rfl⟩
  have hc0 : CallOk cx (aexpr_px (HV [.int .i64])) := callT_ok rfl (cfs_cons (cf_or (by rw [hP, hel, hgl]; exact eright_ok) (by kernel_rfl)) cfs_nil)
  have hq0 : CallQOk cx (aexpr_px (HV [.int .i64])) := callQT_ok rfl cqfs_nil
  exact ⟨hp0, hc0, hq0, all0⟩
def aexpr (e : Xpr) : Int :=
  cond (!(eright e 30)) (
   2) (
   0)
theorem aexpr_tot (x : HV [.sv .expr]) : aexpr_body x = some (aexpr x) := by
  first
    | exact rfl
    | simp only [aexpr_body, aexpr, cond_some]
def aexpr_F : FT [.sv .expr] [.int .i64] := fun x => some (aexpr x)
theorem aexpr_ok : FnOk Tryz.prog elT glT 18 [.sv .expr] [.int .i64] aexpr_F := .fin0 aexpr_run fun x _ _ hx => (aexpr_tot x).trans hx
/-! ## how much is in it -/
/-! ## exchequer/exchequerref13.Much -/
def much1_0_sg : Sig := ⟨41, [(1, .int .i64), (5, .int .i64), (6, .int .i64)], [(2, .ptr 0 0)], [(0, .one (.sv .expr))], 1, 0, 0, [], []⟩
abbrev much1_0_V := Int × Int × Int × Xpr
def much1_0 {R : Type} (rf : FT [.sv .expr, .int .i64] [.int .i64]) (rec : much1_0_V → Option R) (kx : Ex → much1_0_V → Option R) (v : much1_0_V) : Option R := match v with
 | (v, v1, v2, w) =>
  cond (decide (v2 < (w.l.length : Int))) (
   cond (decide (v1 < v)) (
    chk (inb v2 w.l.length) (
     (rf ((at' .expr w.l v2), (wr .i64 (v - v1)))).bind fun x =>
      rec (v, (wr .i64 (v1 + x)), (wr .i64 (v2 + 1)), w))) (
    kx (.exit 0) (v, v1, v2, w))) (
   kx (.exit 0) (v, v1, v2, w))
def much1_px (R : Type) (k : Nat) (rf : FT [.sv .expr, .int .i64] [.int .i64]) : Px R := ⟨ttOf ttL, glT, callT [(12, callOr [.sv .expr, .int .i64] [.int .i64] rf)], callQT [], loopT [(3, loopOr k much1_0_sg (much1_0 rf))]⟩
theorem much1_0_eq (R : Type) (k : Nat) (rf : FT [.sv .expr, .int .i64] [.int .i64]) : ∀ (fr : List Fr) (rec : much1_0_V → Option R) (kx : Ex → much1_0_V → Option R) (v : much1_0_V), round (much1_px R k rf) much1_0_sg (lp Tryz.f12 0) fr rec kx v = much1_0 rf rec kx v
  | fr, rec, kx, (v, v1, v2, w) => by kernel_rfl
def much1_body (k : Nat) (rf : FT [.sv .expr, .int .i64] [.int .i64]) (x : HV [.sv .expr, .int .i64]) : Option (HV [.int .i64]) := match x with
 | (e, most) =>
  iter (fun rec => much1_0 rf rec (fun e vz => match vz with | (_, v4, _, _) => match e with
   | .exit 0 =>
    some v4
   | _ => none)) k (most, (wr .i64 (1 + (wr .i64 (Int.tdiv (wr .i64 ((e.v.s.length : Int) + (e.name.length : Int))) 30)))), 0, e)
theorem much1_eq (k : Nat) (rf : FT [.sv .expr, .int .i64] [.int .i64]) : ∀ (x : HV [.sv .expr, .int .i64]), runF (much1_px _ k rf) Tryz.f12 [.sv .expr, .int .i64] [.int .i64] x some = much1_body k rf x
  | (e, most) => by kernel_rfl
theorem much1_run (k : Nat) (rf : FT [.sv .expr, .int .i64] [.int .i64]) (hrf : FnOk Tryz.prog elT glT 12 [.sv .expr, .int .i64] [.int .i64] rf) : FnOk Tryz.prog elT glT 12 [.sv .expr, .int .i64] [.int .i64] (much1_body k rf) := by
  refine fnOk_run Tryz.func12 rfl (by kernel_rfl) follows (by kernel_rfl) (n := 1) (by kernel_rfl) (px := much1_px _ k rf) (fun cx hP hel hgl => ?_) (much1_eq k rf)
  have hp0 : PxOk cx (much1_px (HV [.int .i64]) k rf) := ⟨fun t => by rw [hP, hel]; exact tt_ok ttL_ok t, by rw [hgl]; rfl⟩
  have hc0 : CallOk cx (much1_px (HV [.int .i64]) k rf) := callT_ok rfl (cfs_cons (cf_or (by rw [hP, hel, hgl]; exact hrf) (by kernel_rfl)) cfs_nil)
  have hq0 : CallQOk cx (much1_px (HV [.int .i64]) k rf) := callQT_ok rfl cqfs_nil
  have hlmuch1_0 : LoopOk cx (much1_px (HV [.int .i64]) k rf) (lp Tryz.f12 0) := loop_ok hp0 hc0 hq0 (by rw [hP]; exact follows) (k := k) (s := much1_0_sg) (step := much1_0 rf) (fun _ _ => by kernel_rfl) (by kernel_rfl) (much1_0_eq _ k rf) (loops_in (n := 0) (by kernel_rfl) all0)
  exact ⟨hp0, hc0, hq0, (allS all0 hlmuch1_0)⟩
mutual
def much1 : Xpr → Int → Int
  | .mk _ v nm l, most => muchL l most (wr .i64 (1 + wr .i64 (Int.tdiv (wr .i64 ((v.s.length : Int) + (nm.length : Int))) 30)))
def muchL : List Xpr → Int → Int → Int
  | [], _, n => n
  | x :: l, most, n => cond (decide (n < most)) (muchL l most (wr .i64 (n + much1 x (wr .i64 (most - n))))) n
end
def much1_F : FT [.sv .expr, .int .i64] [.int .i64] := fun x => some (much1 x.1 x.2)
theorem much1_loop {R : Type} {rf : FT [.sv .expr, .int .i64] [.int .i64]} {kx : Ex → much1_0_V → Option R} {e : Xpr} {most : Int} {g : Int → Option R} (hn : ln e.l.length) (hrf : ∀ x, x ∈ e.l → ∀ m, rf (x, m) = some (much1 x m)) (h2 : ∀ n j, kx (.exit 0) (most, n, j, e) = g n) : ∀ (k i : Nat) n, i ≤ e.l.length → e.l.length - i < k → iter (fun rec => much1_0 rf rec kx) k (most, n, (i : Int), e) = g (muchL (e.l.drop i) most n)
  | 0, i, n, _, h => by omega
  | k + 1, i, n, hi, h => by
    rw [iter_s]
    by_cases hl : i < e.l.length
    · have ih := fun n => much1_loop hn hrf h2 k (i + 1) n (by omega) (by omega)
      simp only [much1_0, wr_succ hl hn, ih, h2, drop_cons hl, at_nat (c := .expr) hl, inb_t hl, chk, cond_t, Bool.cond_decide, muchL, hrf _ (List.getElem_mem hl), Option.bind_some]
      rw [if_pos (by omega)]
      split <;> rfl
    · simp only [much1_0, h2, Bool.cond_decide]
      rw [if_neg (by omega), List.drop_eq_nil_of_le (by omega)]
      rfl
theorem much1_all (k : Nat) : ∀ (n : Nat) (e : Xpr) (m : Int), BdExpr e → esize e ≤ n → esize e ≤ k → iter (much1_body k) n (e, m) = some (much1 e m)
  | 0, e, m, _, h, _ => by have := esize_pos e; omega
  | n + 1, .mk kd v nm l, m, hb, h, hk => by
    obtain ⟨_, _, _, _, hb1, hb2, hb3, hb4, hb5⟩ := hb
    simp only [esize] at h hk
    have hl := esizes_len l
    have hrf : ∀ x, x ∈ l → ∀ m, iter (much1_body k) n (x, m) = some (much1 x m) := fun x hx m => much1_all k n x m (hb5 x hx) (by have := esize_mem hx; omega) (by have := esize_mem hx; omega)
    rw [iter_s]
    simp only [much1_body]
    refine (much1_loop (e := .mk kd v nm l) (g := some) hb4 hrf ?_ k 0 _ (Nat.zero_le _) (by simp only [Xpr.l]; omega)).trans ?_
    · exact fun _ _ => rfl
    · simp only [much1, Xpr.l, List.drop_zero, Xpr.v, Xpr.name]
theorem much1_ok : FnOk Tryz.prog elT glT 12 [.sv .expr, .int .i64] [.int .i64] much1_F := by
  refine .fin (ι := Nat) 0 (F := fun n => iter (much1_body n) n) (fun n => FnOk.rec' (Sx.enters_of Tryz.func12 rfl rfl) (fun rf hrf => much1_run n rf hrf) n) fun (e, m) r hb hx => ⟨esize e, ?_⟩
  exact (much1_all (esize e) (esize e) e m hb.1 (Nat.le_refl _) (Nat.le_refl _)).trans hx
end Go.Proofs.YthndhaolemgbdaaGreatDoor

/- Expressions: are two the same; the names in one. -/
namespace Go.Proofs.YthndhaolemgbdaaGreatDoor
open Go.Ax
/-! ## the same? -/
mutual
def xsame : Xpr → Xpr → Bool
  | .mk k v n l, .mk k' v' n' l' => decide (k = k') && decide (v = v') && decide (n = n') && xsames l l'
def xsames : List Xpr → List Xpr → Bool
  | [], [] => true
  | x :: l, y :: m => xsame x y && xsames l m
  | _, _ => false
end
mutual
theorem xsame_iff : ∀ a b : Xpr, xsame a b = true ↔ a = b
  | .mk k v n l, .mk k' v' n' l' => by
    simp only [xsame, Bool.and_eq_true, decide_eq_true_eq, xsames_iff l l', Xpr.mk.injEq]
    constructor
    · rintro ⟨⟨⟨h1, h2⟩, h3⟩, h4⟩; exact ⟨h1, h2, h3, h4⟩
    · rintro ⟨h1, h2, h3, h4⟩; exact ⟨⟨⟨h1, h2⟩, h3⟩, h4⟩
theorem xsames_iff : ∀ a b : List Xpr, xsames a b = true ↔ a = b
  | [], [] => by simp [xsames]
  | x :: l, y :: m => by simp only [xsames, Bool.and_eq_true, xsame_iff x y, xsames_iff l m, List.cons.injEq]
  | [], _ :: _ => by simp [xsames]
  | _ :: _, [] => by simp [xsames]
end
instance : DecidableEq Xpr := fun a b => decidable_of_iff (xsame a b = true) (xsame_iff a b)
theorem xsame_dec (a b : Xpr) : xsame a b = decide (a = b) := by
  rw [Bool.eq_iff_iff, xsame_iff, decide_eq_true_eq]
theorem xsames_len {a b : List Xpr} (h : xsames a b = true) : a.length = b.length := by rw [(xsames_iff a b).1 h]
theorem xsame_un (a b : Xpr) : xsame a b = (decide (a.kind = b.kind) && decide (a.v = b.v) && decide (a.name = b.name) && xsames a.l b.l) := by
  cases a; cases b
  simp only [xsame]
  rfl
/-! ## exchequer/ast.SameExpr -/
def asame_0_sg : Sig := ⟨32, [(1, .sl .expr false), (6, .bool), (15, .sl .expr false), (16, .int .i64), (17, .int .i64)], [(2, .fn 20 [])], [], 40, 40, 200, [], []⟩
abbrev asame_0_V := List Xpr × Bool × List Xpr × Int × Int
def asame_0 {R : Type} (rf : FT [.sv .expr, .sv .expr] [.bool]) (rec : asame_0_V → Option R) (kx : Ex → asame_0_V → Option R) (v : asame_0_V) : Option R := match v with
 | (v, v1, v2, v3, v4) =>
  cond (decide (v4 < v3)) (
   chk (inb v4 v2.length) (
    chk (inb v4 v.length) (
     (rf ((at' .expr v2 v4), (at' .expr v v4))).bind fun x =>
      cond (!x) (
       kx .ret (v, false, v2, v3, v4)) (
       rec (v, v1, v2, v3, (wr .i64 (v4 + 1))))))) (
   kx (.exit 0) (v, v1, v2, v3, v4))
def asame_pxi0 (R : Type) (k : Nat) (rf : FT [.sv .expr, .sv .expr] [.bool]) : Px R := ⟨ttOf ttL, glT, callT [(20, callOr [.sv .expr, .sv .expr] [.bool] rf)], callQT [], loopT [(4, loopOr k asame_0_sg (asame_0 rf))]⟩
noncomputable def asame_px (R : Type) (k : Nat) (rf : FT [.sv .expr, .sv .expr] [.bool]) : Px R := ⟨ttOf ttL, glT, callT [(47, callRun 40 200 (asame_pxi0 R k rf) Tryz.f47)], callQT [], loopT []⟩
theorem asame_0_eq (R : Type) (k : Nat) (rf : FT [.sv .expr, .sv .expr] [.bool]) : ∀ (fr : List Fr) (rec : asame_0_V → Option R) (kx : Ex → asame_0_V → Option R) (v : asame_0_V), round (asame_pxi0 R k rf) asame_0_sg (lp Tryz.f47 0) fr rec kx v = asame_0 rf rec kx v
  | fr, rec, kx, (v, v1, v2, v3, v4) => by kernel_rfl
def asame_body (k : Nat) (rf : FT [.sv .expr, .sv .expr] [.bool]) (x : HV [.sv .expr, .sv .expr]) : Option (HV [.bool]) := match x with
 | (a, b) =>
  let j1 := fun (p : Bool) =>
   let j := fun (p1 : Bool) =>
    cond (p1) (
     cond (!decide ((a.l.length : Int) = (b.l.length : Int))) (
      some false) (
      iter (fun rec => asame_0 rf rec (fun e vz => match vz with | (_, v6, _, _, _) => match e with
       | .ret =>
        some v6
       | .exit 0 =>
        some true
       | _ => none)) k (b.l, false, a.l, (a.l.length : Int), 0))) (
     some false)
   cond (p) (
    j (decide (a.name = b.name))) (
    j false)
  cond (decide (a.kind = b.kind)) (
   j1 (decide (a.v = b.v))) (
   j1 false)
theorem asame_eq (k : Nat) (rf : FT [.sv .expr, .sv .expr] [.bool]) : ∀ (x : HV [.sv .expr, .sv .expr]), runF (asame_px _ k rf) Tryz.f20 [.sv .expr, .sv .expr] [.bool] x some = asame_body k rf x
  | (a, b) => by kernel_rfl
theorem asame_run (k : Nat) (rf : FT [.sv .expr, .sv .expr] [.bool]) (hrf : FnOk Tryz.prog elT glT 20 [.sv .expr, .sv .expr] [.bool] rf) : FnOk Tryz.prog elT glT 20 [.sv .expr, .sv .expr] [.bool] (asame_body k rf) := by
  refine fnOk_run Tryz.func20 rfl (by kernel_rfl) follows (by kernel_rfl) (n := 0) (by kernel_rfl) (px := asame_px _ k rf) (fun cx hP hel hgl => ?_) (asame_eq k rf)
  have hp1 : PxOk cx (asame_pxi0 (HV [.bool]) k rf) := ⟨fun t => by rw [hP, hel]; exact tt_ok ttL_ok t, by rw [hgl]; rfl⟩
  have hc1 : CallOk cx (asame_pxi0 (HV [.bool]) k rf) := callT_ok rfl (cfs_cons (cf_or (by rw [hP, hel, hgl]; exact hrf) (by kernel_rfl)) cfs_nil)
  have hq1 : CallQOk cx (asame_pxi0 (HV [.bool]) k rf) := callQT_ok rfl cqfs_nil
  have hlasame_0 : LoopOk cx (asame_pxi0 (HV [.bool]) k rf) (lp Tryz.f47 0) := loop_ok hp1 hc1 hq1 (by rw [hP]; exact follows) (k := k) (s := asame_0_sg) (step := asame_0 rf) (fun _ _ => by kernel_rfl) (by kernel_rfl) (asame_0_eq _ k rf) (loops_in (n := 0) (by kernel_rfl) all0)
  have hp0 : PxOk cx (asame_px (HV [.bool]) k rf) := ⟨fun t => by rw [hP, hel]; exact tt_ok ttL_ok t, by rw [hgl]; rfl⟩
  have hc0 : CallOk cx (asame_px (HV [.bool]) k rf) := callT_ok rfl (cfs_cons (cf_run hp1 hc1 hq1 (by rw [hP]; exact follows) (by rw [hP]; exact Tryz.func47) rfl (by kernel_rfl) (by kernel_rfl) (n := 1) (by kernel_rfl) ((allS all0 hlasame_0))) cfs_nil)
  have hq0 : CallQOk cx (asame_px (HV [.bool]) k rf) := callQT_ok rfl cqfs_nil
  exact ⟨hp0, hc0, hq0, all0⟩
def asame (a b : Xpr) : Bool := xsame a b
def asame_F : FT [.sv .expr, .sv .expr] [.bool] := fun x => some (asame x.1 x.2)
theorem asame_loop {R : Type} {rf : FT [.sv .expr, .sv .expr] [.bool]} {kx : Ex → asame_0_V → Option R} {l m : List Xpr} {c : Bool → Option R} (hn : ln l.length) (hm : l.length = m.length) (hrf : ∀ x, x ∈ l → ∀ y, y ∈ m → rf (x, y) = some (xsame x y))
    (h1 : ∀ i, kx .ret (m, false, l, (l.length : Int), i) = c false) (h2 : ∀ q i, kx (.exit 0) (m, q, l, (l.length : Int), i) = c true) (k : Nat) (hk : l.length < k) : iter (fun rec => asame_0 rf rec kx) k (m, false, l, (l.length : Int), 0) = c (xsames l m) := by
  refine (iter_ind0 l.length (fun i => (m, false, l, (l.length : Int), (i : Int))) (fun i => c (xsames (l.drop i) (m.drop i))) (fun i hi rec hr => ?_) (fun rec => ?_) k 0 (Nat.zero_le _) (by omega)).trans (by rw [List.drop_zero, List.drop_zero])
  · have hi2 : i < m.length := by omega
    simp only [asame_0, lt_t hi, cond_t, inb_t hi, inb_t hi2, chk, at_nat (c := .expr) hi, at_nat (c := .expr) hi2, hrf _ (List.getElem_mem hi) _ (List.getElem_mem hi2), Option.bind_some, wr_succ hi hn, hr, h1, drop_cons hi, drop_cons hi2, xsames]
    cases xsame l[i] m[i] <;> rfl
  · simp only [asame_0, lt_n, cond_f, h2]
    rw [List.drop_eq_nil_of_le (Nat.le_refl _), List.drop_eq_nil_of_le (by omega)]
    rfl
theorem asame_all (k : Nat) : ∀ (n : Nat) (a b : Xpr), BdExpr a → BdExpr b → esize a ≤ n → esize a ≤ k → iter (asame_body k) n (a, b) = some (xsame a b)
  | 0, a, b, _, _, h, _ => by have := esize_pos a; omega
  | n + 1, a, b, ha, hb, h, hk => by
    obtain ⟨hb4, hb5⟩ := bd_ls ha
    obtain ⟨hc4, hc5⟩ := bd_ls hb
    rw [esize_eq] at h hk
    have hl := esizes_len a.l
    have hrf : ∀ x, x ∈ a.l → ∀ y, y ∈ b.l → iter (asame_body k) n (x, y) = some (xsame x y) := fun x hx y hy => asame_all k n x y (hb5 x hx) (hc5 y hy) (by have := esize_mem hx; omega) (by have := esize_mem hx; omega)
    rw [iter_s, xsame_un]
    simp only [asame_body]
    by_cases hlen : a.l.length = b.l.length
    · have hloop := asame_loop (R := Bool) (rf := iter (asame_body k) n) (l := a.l) (m := b.l) (c := some) (kx := fun e v => match v with
        | (_, v6, _, _, _) => match e with
          | .ret => some v6
          | .exit 0 => some true
          | _ => none) hb4 hlen hrf (fun _ => rfl) (fun _ _ => rfl) k (by omega)
      rw [hloop, decide_eq_true (show (a.l.length : Int) = (b.l.length : Int) by omega)]
      cases decide (a.kind = b.kind) <;> cases decide (a.v = b.v) <;> cases decide (a.name = b.name) <;> cases xsames a.l b.l <;> rfl
    · have hno : xsames a.l b.l = false := by
        cases hs : xsames a.l b.l with
        | false => rfl
        | true => exact absurd (xsames_len hs) hlen
      rw [hno, decide_eq_false (show ¬ (a.l.length : Int) = (b.l.length : Int) by omega)]
      cases decide (a.kind = b.kind) <;> cases decide (a.v = b.v) <;> cases decide (a.name = b.name) <;> rfl
theorem asame_ok : FnOk Tryz.prog elT glT 20 [.sv .expr, .sv .expr] [.bool] asame_F := by
  refine .fin (ι := Nat) 0 (F := fun n => iter (asame_body n) n) (fun n => FnOk.rec' (Sx.enters_of Tryz.func20 rfl rfl) (fun rf hrf => asame_run n rf hrf) n) fun (a, b) r hb hx => ⟨esize a, ?_⟩
  exact (asame_all (esize a) (esize a) a b hb.1 hb.2 (Nat.le_refl _) (Nat.le_refl _)).trans hx
/-! ## exchequer/exchequerref13.Same -/
def rsame_0_sg : Sig := ⟨53, [(4, .bool), (5, .int .i64)], [(2, .ptr 0 0), (3, .ptr 1 0)], [(0, .one (.sv .expr)), (1, .one (.sv .expr))], 2, 0, 0, [], []⟩
abbrev rsame_0_V := Bool × Int × Xpr × Xpr
def rsame_0 {R : Type} (rf : FT [.sv .expr, .sv .expr] [.bool]) (rec : rsame_0_V → Option R) (kx : Ex → rsame_0_V → Option R) (v : rsame_0_V) : Option R := match v with
 | (v, v1, w, w1) =>
  cond (decide (v1 < (w.l.length : Int))) (
   chk (inb v1 w.l.length) (
    chk (inb v1 w1.l.length) (
     (rf ((at' .expr w.l v1), (at' .expr w1.l v1))).bind fun x =>
      cond (!x) (
       kx .ret (false, v1, w, w1)) (
       rec (v, (wr .i64 (v1 + 1)), w, w1))))) (
   kx (.exit 0) (v, v1, w, w1))
def rsame_px (R : Type) (k : Nat) (rf : FT [.sv .expr, .sv .expr] [.bool]) : Px R := ⟨ttOf ttL, glT, callT [(21, callOr [.sv .expr, .sv .expr] [.bool] rf)], callQT [], loopT [(4, loopOr k rsame_0_sg (rsame_0 rf))]⟩
theorem rsame_0_eq (R : Type) (k : Nat) (rf : FT [.sv .expr, .sv .expr] [.bool]) : ∀ (fr : List Fr) (rec : rsame_0_V → Option R) (kx : Ex → rsame_0_V → Option R) (v : rsame_0_V), round (rsame_px R k rf) rsame_0_sg (lp Tryz.f21 0) fr rec kx v = rsame_0 rf rec kx v
  | fr, rec, kx, (v, v1, w, w1) => by kernel_rfl
def rsame_body (k : Nat) (rf : FT [.sv .expr, .sv .expr] [.bool]) (x : HV [.sv .expr, .sv .expr]) : Option (HV [.bool]) := match x with
 | (a, b) =>
  let j := fun (p : Bool) =>
   cond (p) (
    some false) (
    cond (!decide (a.name = b.name)) (
     some false) (
     cond (!decide ((a.l.length : Int) = (b.l.length : Int))) (
      some false) (
      iter (fun rec => rsame_0 rf rec (fun e vz => match vz with | (v2, _, _, _) => match e with
       | .ret =>
        some v2
       | .exit 0 =>
        some true
       | _ => none)) k (false, 0, a, b))))
  cond (!decide (a.kind = b.kind)) (
   j true) (
   j (!decide (a.v = b.v)))
theorem rsame_eq (k : Nat) (rf : FT [.sv .expr, .sv .expr] [.bool]) : ∀ (x : HV [.sv .expr, .sv .expr]), runF (rsame_px _ k rf) Tryz.f21 [.sv .expr, .sv .expr] [.bool] x some = rsame_body k rf x
  | (a, b) => by kernel_rfl
theorem rsame_run (k : Nat) (rf : FT [.sv .expr, .sv .expr] [.bool]) (hrf : FnOk Tryz.prog elT glT 21 [.sv .expr, .sv .expr] [.bool] rf) : FnOk Tryz.prog elT glT 21 [.sv .expr, .sv .expr] [.bool] (rsame_body k rf) := by
  refine fnOk_run Tryz.func21 rfl (by kernel_rfl) follows (by kernel_rfl) (n := 1) (by kernel_rfl) (px := rsame_px _ k rf) (fun cx hP hel hgl => ?_) (rsame_eq k rf)
  have hp0 : PxOk cx (rsame_px (HV [.bool]) k rf) := ⟨fun t => by rw [hP, hel]; exact tt_ok ttL_ok t, by rw [hgl]; rfl⟩
  have hc0 : CallOk cx (rsame_px (HV [.bool]) k rf) := callT_ok rfl (cfs_cons (cf_or (by rw [hP, hel, hgl]; exact hrf) (by kernel_rfl)) cfs_nil)
  have hq0 : CallQOk cx (rsame_px (HV [.bool]) k rf) := callQT_ok rfl cqfs_nil
  have hlrsame_0 : LoopOk cx (rsame_px (HV [.bool]) k rf) (lp Tryz.f21 0) := loop_ok hp0 hc0 hq0 (by rw [hP]; exact follows) (k := k) (s := rsame_0_sg) (step := rsame_0 rf) (fun _ _ => by kernel_rfl) (by kernel_rfl) (rsame_0_eq _ k rf) (loops_in (n := 0) (by kernel_rfl) all0)
  exact ⟨hp0, hc0, hq0, (allS all0 hlrsame_0)⟩
def rsame (a b : Xpr) : Bool := xsame a b
def rsame_F : FT [.sv .expr, .sv .expr] [.bool] := fun x => some (rsame x.1 x.2)
theorem rsame_loop {R : Type} {rf : FT [.sv .expr, .sv .expr] [.bool]} {kx : Ex → rsame_0_V → Option R} {a b : Xpr} {c : Bool → Option R} (hn : ln a.l.length) (hm : a.l.length = b.l.length) (hrf : ∀ x, x ∈ a.l → ∀ y, y ∈ b.l → rf (x, y) = some (xsame x y))
    (h1 : ∀ i, kx .ret (false, i, a, b) = c false) (h2 : ∀ q i, kx (.exit 0) (q, i, a, b) = c true) (k : Nat) (hk : a.l.length < k) : iter (fun rec => rsame_0 rf rec kx) k (false, 0, a, b) = c (xsames a.l b.l) := by
  refine (iter_ind0 a.l.length (fun i => (false, (i : Int), a, b)) (fun i => c (xsames (a.l.drop i) (b.l.drop i))) (fun i hi rec hr => ?_) (fun rec => ?_) k 0 (Nat.zero_le _) (by omega)).trans (by rw [List.drop_zero, List.drop_zero])
  · have hi2 : i < b.l.length := by omega
    simp only [rsame_0, lt_t hi, cond_t, inb_t hi, inb_t hi2, chk, at_nat (c := .expr) hi, at_nat (c := .expr) hi2, hrf _ (List.getElem_mem hi) _ (List.getElem_mem hi2), Option.bind_some, wr_succ hi hn, hr, h1, drop_cons hi, drop_cons hi2, xsames]
    cases xsame a.l[i] b.l[i] <;> rfl
  · simp only [rsame_0, lt_n, cond_f, h2]
    rw [List.drop_eq_nil_of_le (Nat.le_refl _), List.drop_eq_nil_of_le (by omega)]
    rfl
theorem rsame_all (k : Nat) : ∀ (n : Nat) (a b : Xpr), BdExpr a → BdExpr b → esize a ≤ n → esize a ≤ k → iter (rsame_body k) n (a, b) = some (xsame a b)
  | 0, a, b, _, _, h, _ => by have := esize_pos a; omega
  | n + 1, a, b, ha, hb, h, hk => by
    obtain ⟨hb4, hb5⟩ := bd_ls ha
    obtain ⟨hc4, hc5⟩ := bd_ls hb
    rw [esize_eq] at h hk
    have hl := esizes_len a.l
    have hrf : ∀ x, x ∈ a.l → ∀ y, y ∈ b.l → iter (rsame_body k) n (x, y) = some (xsame x y) := fun x hx y hy => rsame_all k n x y (hb5 x hx) (hc5 y hy) (by have := esize_mem hx; omega) (by have := esize_mem hx; omega)
    rw [iter_s, xsame_un]
    simp only [rsame_body]
    by_cases hlen : a.l.length = b.l.length
    · have hloop := rsame_loop (R := Bool) (rf := iter (rsame_body k) n) (a := a) (b := b) (c := some) (kx := fun e v => match v with
        | (v2, _, _, _) => match e with
          | .ret => some v2
          | .exit 0 => some true
          | _ => none) hb4 hlen hrf (fun _ => rfl) (fun _ _ => rfl) k (by omega)
      rw [hloop, decide_eq_true (show (a.l.length : Int) = (b.l.length : Int) by omega)]
      cases decide (a.kind = b.kind) <;> cases decide (a.v = b.v) <;> cases decide (a.name = b.name) <;> cases xsames a.l b.l <;> rfl
    · have hno : xsames a.l b.l = false := by
        cases hs : xsames a.l b.l with
        | false => rfl
        | true => exact absurd (xsames_len hs) hlen
      rw [hno, decide_eq_false (show ¬ (a.l.length : Int) = (b.l.length : Int) by omega)]
      cases decide (a.kind = b.kind) <;> cases decide (a.v = b.v) <;> cases decide (a.name = b.name) <;> rfl
theorem rsame_ok : FnOk Tryz.prog elT glT 21 [.sv .expr, .sv .expr] [.bool] rsame_F := by
  refine .fin (ι := Nat) 0 (F := fun n => iter (rsame_body n) n) (fun n => FnOk.rec' (Sx.enters_of Tryz.func21 rfl rfl) (fun rf hrf => rsame_run n rf hrf) n) fun (a, b) r hb hx => ⟨esize a, ?_⟩
  exact (rsame_all (esize a) (esize a) a b hb.1 hb.2 (Nat.le_refl _) (Nat.le_refl _)).trans hx
end Go.Proofs.YthndhaolemgbdaaGreatDoor

/- The names in an expression. -/
namespace Go.Proofs.YthndhaolemgbdaaGreatDoor
open Go.Ax
/-! ## the place of a text among others -/
/-! ## slices.Index[[]string,string] -/
def sidx_0_sg : Sig := ⟨19, [(0, .sl .str false), (1, .str), (4, .int .i64), (7, .int .i64), (8, .int .i64)], [], [], 0, 0, 0, [], []⟩
abbrev sidx_0_V := List Str × Str × Int × Int × Int
def sidx_0 {R : Type} (rec : sidx_0_V → Option R) (kx : Ex → sidx_0_V → Option R) (v : sidx_0_V) : Option R := match v with
 | (v, v1, v2, v3, v4) =>
  cond (decide (v4 < v3)) (
   chk (inb v4 v.length) (
    cond (decide (v1 = (at' .str v v4))) (
     kx .ret (v, v1, v4, v3, v4)) (
     rec (v, v1, v2, v3, (wr .i64 (v4 + 1)))))) (
   kx (.exit 0) (v, v1, v2, v3, v4))
def sidx_px (R : Type) (k : Nat) : Px R := ⟨ttOf ttL, glT, callT [], callQT [], loopT [(2, loopOr k sidx_0_sg (sidx_0))]⟩
theorem sidx_0_eq (R : Type) (k : Nat) : ∀ (fr : List Fr) (rec : sidx_0_V → Option R) (kx : Ex → sidx_0_V → Option R) (v : sidx_0_V), round (sidx_px R k) sidx_0_sg (lp Tryz.f100 0) fr rec kx v = sidx_0 rec kx v
  | fr, rec, kx, (v, v1, v2, v3, v4) => by kernel_rfl
def sidx_body (k : Nat) (x : HV [.sl .str false, .str]) : Option (HV [.int .i64]) := match x with
 | (l, s) =>
  iter (fun rec => sidx_0 rec (fun e vz => match vz with | (_, _, v7, _, _) => match e with
   | .ret =>
    some v7
   | .exit 0 =>
    some (-1)
   | _ => none)) k (l, s, 0, (l.length : Int), 0)
theorem sidx_eq (k : Nat) : ∀ (x : HV [.sl .str false, .str]), runF (sidx_px _ k) Tryz.f100 [.sl .str false, .str] [.int .i64] x some = sidx_body k x
  | (l, s) => by kernel_rfl
theorem sidx_run (k : Nat) : FnOk Tryz.prog elT glT 100 [.sl .str false, .str] [.int .i64] (sidx_body k) := by
  refine fnOk_run Tryz.func100 rfl (by kernel_rfl) follows (by kernel_rfl) (n := 1) (by kernel_rfl) (px := sidx_px _ k) (fun cx hP hel hgl => ?_) (sidx_eq k)
  have hp0 : PxOk cx (sidx_px (HV [.int .i64]) k) := ⟨fun t => by rw [hP, hel]; exact tt_ok ttL_ok t, by rw [hgl]; rfl⟩
  have hc0 : CallOk cx (sidx_px (HV [.int .i64]) k) := callT_ok rfl cfs_nil
  have hq0 : CallQOk cx (sidx_px (HV [.int .i64]) k) := callQT_ok rfl cqfs_nil
  have hlsidx_0 : LoopOk cx (sidx_px (HV [.int .i64]) k) (lp Tryz.f100 0) := loop_ok hp0 hc0 hq0 (by rw [hP]; exact follows) (k := k) (s := sidx_0_sg) (step := sidx_0) (fun _ _ => by kernel_rfl) (by kernel_rfl) (sidx_0_eq _ k) (loops_in (n := 0) (by kernel_rfl) all0)
  exact ⟨hp0, hc0, hq0, (allS all0 hlsidx_0)⟩
def sidx (l : List Str) (s : Str) : Int := Lp.idx s l 0
def sidx_F : FT [.sl .str false, .str] [.int .i64] := fun x => some (sidx x.1 x.2)
theorem sidx_loop {R : Type} {kx : Ex → sidx_0_V → Option R} {l : List Str} {s : Str} {c : Int → Option R} (hl : ln l.length) (h1 : ∀ (r : Int) (i : Int), kx .ret (l, s, r, (l.length : Int), i) = c r) (h2 : ∀ q : Int, kx (.exit 0) (l, s, q, (l.length : Int), (l.length : Int)) = c (-1))
    (k : Nat) (hk : l.length < k) : iter (fun rec => sidx_0 rec kx) k (l, s, 0, (l.length : Int), 0) = c (Lp.idx s l 0) := by
  refine (iter_ind0 l.length (fun i => (l, s, (0 : Int), (l.length : Int), (i : Int))) (fun i => c (Lp.idx s (l.drop i) i)) (fun i hi rec hr => ?_) (fun rec => ?_) k 0 (Nat.zero_le _) (by omega)).trans (by rw [List.drop_zero]; rfl)
  · have en : ((i + 1 : Nat) : Int) = (i : Int) + 1 := by omega
    simp only [sidx_0, lt_t hi, cond_t, inb_t hi, chk, at_nat (c := .str) hi, wr_succ hi hl, hr, h1]
    rw [drop_cons hi, Lp.idx, en]
    by_cases hx : s = l[i]
    · rw [decide_eq_true hx, if_pos hx, cond_t]
    · rw [decide_eq_false hx, if_neg hx, cond_f]
  · simp only [sidx_0, lt_n, cond_f, h2, List.drop_length, Lp.idx]
theorem sidx_ok : FnOk Tryz.prog elT glT 100 [.sl .str false, .str] [.int .i64] sidx_F := .fin 0 sidx_run fun (l, s) r hb hx => ⟨l.length + 1, by
  simp only [sidx_F, Option.some.injEq] at hx
  rw [← hx]
  simp only [sidx_body]
  exact sidx_loop (c := fun q => some q) hb.1.1 (fun _ _ => rfl) (fun _ => rfl) (l.length + 1) (by omega)⟩
/-! ## slices.Contains[[]string,string] -/
def shas_px (R : Type) : Px R := ⟨ttOf ttL, glT, callT [(100, callOr [.sl .str false, .str] [.int .i64] sidx_F)], callQT [], loopT []⟩
def shas_body (x : HV [.sl .str false, .str]) : Option (HV [.bool]) := match x with
 | (l, s) =>
  some (decide (0 ≤ (sidx l s)))
theorem shas_eq : ∀ (x : HV [.sl .str false, .str]), runF (shas_px _) Tryz.f44 [.sl .str false, .str] [.bool] x some = shas_body x
  | (l, s) => by kernel_rfl
theorem shas_run : FnOk Tryz.prog elT glT 44 [.sl .str false, .str] [.bool] (shas_body) := by
  refine fnOk_run Tryz.func44 rfl (by kernel_rfl) follows (by kernel_rfl) (n := 0) (by kernel_rfl) (px := shas_px _) (fun cx hP hel hgl => ?_) (shas_eq)
  have hp0 : PxOk cx (shas_px (HV [.bool])) := ⟨fun t => by rw [hP, hel]; exact tt_ok ttL_ok t, by rw [hgl]; rfl⟩
  have hc0 : CallOk cx (shas_px (HV [.bool])) := callT_ok rfl (cfs_cons (cf_or (by rw [hP, hel, hgl]; exact sidx_ok) (by kernel_rfl)) cfs_nil)
  have hq0 : CallQOk cx (shas_px (HV [.bool])) := callQT_ok rfl cqfs_nil
  exact ⟨hp0, hc0, hq0, all0⟩
def shas (l : List Str) (s : Str) : Bool :=
  (decide (0 ≤ (sidx l s)))
theorem shas_tot (x : HV [.sl .str false, .str]) : shas_body x = some (shas x.1 x.2) := by
  first
    | exact rfl
    | simp only [shas_body, shas, cond_some]
def shas_F : FT [.sl .str false, .str] [.bool] := fun x => some (shas x.1 x.2)
theorem shas_ok : FnOk Tryz.prog elT glT 44 [.sl .str false, .str] [.bool] shas_F := .fin0 shas_run fun x _ _ hx => (shas_tot x).trans hx
theorem shas_is (l : List Str) (s : Str) : shas l s = l.contains s := by
  have e : shas l s = decide (0 ≤ Lp.idx s l 0) := rfl
  rw [e, Bool.eq_iff_iff, decide_eq_true_eq, Lp.idx_ge s l 0 (Int.le_refl 0)]
  simp
/-! ## names, as they come -/
def addN (out : List Str) (m : Str) : List Str := if out.contains m then out else out ++ [m]
mutual
def nwalk : Xpr → List Str → List Str
  | .mk k _ n l, out => nwalks l (if k = 2 then addN out n else out)
def nwalks : List Xpr → List Str → List Str
  | [], out => out
  | x :: l, out => nwalks l (nwalk x out)
end
theorem nwalk_un (e : Xpr) (out : List Str) : nwalk e out = nwalks e.l (if e.kind = 2 then addN out e.name else out) := by
  cases e
  simp only [nwalk]
  rfl
theorem addN_len (out : List Str) (m : Str) : (addN out m).length ≤ out.length + 1 := by
  simp only [addN]
  split
  · omega
  · simp
mutual
theorem nwalk_len : ∀ (e : Xpr) (out : List Str), (nwalk e out).length ≤ out.length + esize e
  | .mk k v n l, out => by
    simp only [nwalk, esize]
    split
    · have h1 := nwalks_len l (addN out n)
      have h2 := addN_len out n
      omega
    · have h1 := nwalks_len l out
      omega
theorem nwalks_len : ∀ (l : List Xpr) (out : List Str), (nwalks l out).length ≤ out.length + esizes l
  | [], out => by simp [nwalks, esizes]
  | x :: l, out => by
    simp only [nwalks, esizes]
    have h1 := nwalks_len l (nwalk x out)
    have h2 := nwalk_len x out
    omega
end
/-! ## exchequer/ast.Names$1 -/
def nwk_si : Sig := ⟨3, [(0, .sv .expr)], [(1, .ptr 1 0), (2, .ptr 2 0)], [(1, .cells [.sl .str true]), (2, .fx [.fn 43 [.ptr 1 0, .ptr 2 0]])], 3, 3, 0, [], []⟩
def nwk_so : Sig := ⟨0, [], [], [(1, .cells [.sl .str true]), (2, .fx [.fn 43 [.ptr 1 0, .ptr 2 0]])], 3, 3, 0, [], []⟩
abbrev nwk_I := Xpr × List Str
abbrev nwk_O := List Str
def nwk_0_sg : Sig := ⟨32, [(22, .sl .expr false), (23, .int .i64), (24, .int .i64)], [(2, .ptr 2 0)], [(1, .cells [.sl .str true]), (2, .fx [.fn 43 [.ptr 1 0, .ptr 2 0]])], 3, 3, 0, [], []⟩
abbrev nwk_0_V := List Xpr × Int × Int × List Str
def nwk_0 {R : Type} (rf : nwk_I → Option nwk_O) (rec : nwk_0_V → Option R) (kx : Ex → nwk_0_V → Option R) (v : nwk_0_V) : Option R := match v with
 | (v, v1, v2, w) =>
  cond (decide (v2 < v1)) (
   chk (inb v2 v.length) (
    (rf ((at' .expr v v2), w)).bind fun x =>
     rec (v, v1, (wr .i64 (v2 + 1)), x))) (
   kx (.exit 0) (v, v1, v2, w))
def nwk_px (R : Type) (k : Nat) (rf : nwk_I → Option nwk_O) : Px R := ⟨ttOf ttL, glT, callT [(44, callOr [.sl .str false, .str] [.bool] shas_F), (43, callLn nwk_si nwk_so rf)], callQT [], loopT [(4, loopOr k nwk_0_sg (nwk_0 rf))]⟩
theorem nwk_0_eq (R : Type) (k : Nat) (rf : nwk_I → Option nwk_O) : ∀ (fr : List Fr) (rec : nwk_0_V → Option R) (kx : Ex → nwk_0_V → Option R) (v : nwk_0_V), round (nwk_px R k rf) nwk_0_sg (lp Tryz.f43 0) fr rec kx v = nwk_0 rf rec kx v
  | fr, rec, kx, (v, v1, v2, w) => by kernel_rfl
def nwk_body (k : Nat) (rf : nwk_I → Option nwk_O) (x : nwk_I) : Option (nwk_O) := match x with
 | (e, out) =>
  let j1 := fun (q : List Str) =>
   iter (fun rec => nwk_0 rf rec (fun e vz => match vz with | (_, _, _, v6) => match e with
    | .exit 0 =>
     some v6
    | _ => none)) k (e.l, (e.l.length : Int), 0, q)
  let j := fun (p1 : Bool) =>
   cond (p1) (
    chk (decide (out.length + 1 ≤ maxApp)) (
     j1 (out ++ [e.name]))) (
    j1 out)
  cond (decide (e.kind = 2)) (
   j (!(shas out e.name))) (
   j false)
theorem nwk_eq (k : Nat) (rf : nwk_I → Option nwk_O) : ∀ (x : nwk_I), runLn (nwk_px _ k rf) Tryz.f43 nwk_si nwk_so x some = nwk_body k rf x
  | (e, out) => by kernel_rfl
theorem nwk_run (k : Nat) (rf : nwk_I → Option nwk_O) (hrf : FnLn Tryz.prog elT glT 43 nwk_si nwk_so rf) : FnLn Tryz.prog elT glT 43 nwk_si nwk_so (nwk_body k rf) := by
  refine fnLn_run Tryz.func43 rfl (by kernel_rfl) follows (by kernel_rfl) (n := 1) (by kernel_rfl) (px := nwk_px _ k rf) (fun cx hP hel hgl => ?_) (nwk_eq k rf)
  have hp0 : PxOk cx (nwk_px (nwk_O) k rf) := ⟨fun t => by rw [hP, hel]; exact tt_ok ttL_ok t, by rw [hgl]; rfl⟩
  have hc0 : CallOk cx (nwk_px (nwk_O) k rf) := callT_ok rfl (cfs_cons (cf_or (by rw [hP, hel, hgl]; exact shas_ok) (by kernel_rfl)) (cfs_cons (cf_ln (by rw [hP, hel, hgl]; exact hrf) (by kernel_rfl)) cfs_nil))
  have hq0 : CallQOk cx (nwk_px (nwk_O) k rf) := callQT_ok rfl cqfs_nil
  have hlnwk_0 : LoopOk cx (nwk_px (nwk_O) k rf) (lp Tryz.f43 0) := loop_ok hp0 hc0 hq0 (by rw [hP]; exact follows) (k := k) (s := nwk_0_sg) (step := nwk_0 rf) (fun _ _ => by kernel_rfl) (by kernel_rfl) (nwk_0_eq _ k rf) (loops_in (n := 0) (by kernel_rfl) all0)
  exact ⟨hp0, hc0, hq0, (allS all0 hlnwk_0)⟩
def nwk (e : Xpr) (out : List Str) : Option (List Str) := if out.length + esize e ≤ 1000000 then some (nwalk e out) else none
def nwk_F : nwk_I → Option nwk_O := fun x => nwk x.1 x.2
theorem esizes_drop {l : List Xpr} {i : Nat} (hi : i < l.length) : esizes (l.drop i) = 1 + esize l[i] + esizes (l.drop (i + 1)) := by
  rw [drop_cons hi]
  simp only [esizes]
theorem nwk_loop {R : Type} {rf : nwk_I → Option nwk_O} {kx : Ex → nwk_0_V → Option R} {l : List Xpr} {c : List Str → Option R} (hn : ln l.length) (hrf : ∀ x, x ∈ l → ∀ out : List Str, out.length + esize x ≤ 1000000 → rf (x, out) = some (nwalk x out)) (h2 : ∀ i out, kx (.exit 0) (l, (l.length : Int), i, out) = c out)
    (k : Nat) (hk : l.length < k) (out : List Str) (ho : out.length + esizes l ≤ 1000000) : iter (fun rec => nwk_0 rf rec kx) k (l, (l.length : Int), 0, out) = c (nwalks l out) := by
  refine (iter_ind l.length (fun i out => (l, (l.length : Int), (i : Int), out)) (fun i out => List.length out + esizes (l.drop i) ≤ 1000000) (fun i out => c (nwalks (l.drop i) out)) (fun i hi out ha rec hr => ?_) (fun out _ rec => ?_) k 0 out (Nat.zero_le _) (by omega) (by rw [List.drop_zero]; exact ho)).trans (by rw [List.drop_zero])
  · have hd := esizes_drop hi
    have hr := hr (nwalk l[i] out) (by have := nwalk_len l[i] out; omega)
    simp only [nwk_0, lt_t hi, cond_t, inb_t hi, chk, at_nat (c := .expr) hi, hrf _ (List.getElem_mem hi) out (by omega), Option.bind_some, wr_succ hi hn, hr, drop_cons hi, nwalks]
  · simp only [nwk_0, lt_n, cond_f, h2]
    rw [List.drop_eq_nil_of_le (Nat.le_refl _)]
    rfl
theorem nwk_all (k : Nat) : ∀ (n : Nat) (e : Xpr) (out : List Str), BdExpr e → esize e ≤ n → esize e ≤ k → out.length + esize e ≤ 1000000 → iter (nwk_body k) n (e, out) = some (nwalk e out)
  | 0, e, _, _, h, _, _ => by have := esize_pos e; omega
  | n + 1, e, out, hb, h, hk, ho => by
    obtain ⟨hb4, hb5⟩ := bd_ls hb
    rw [esize_eq] at h hk ho
    have hl := esizes_len e.l
    have hrf : ∀ x, x ∈ e.l → ∀ out : List Str, out.length + esize x ≤ 1000000 → iter (nwk_body k) n (x, out) = some (nwalk x out) := fun x hx out h0 => nwk_all k n x out (hb5 x hx) (by have := esize_mem hx; omega) (by have := esize_mem hx; omega) h0
    have hloop := fun (q : List Str) (hq : q.length + esizes e.l ≤ 1000000) => nwk_loop (R := nwk_O) (rf := iter (nwk_body k) n) (l := e.l) (c := some) (kx := fun e v => match v with
      | (_, _, _, v6) => match e with
        | .exit 0 => some v6
        | _ => none) hb4 hrf (fun _ _ => rfl) k (by omega) q hq
    rw [iter_s, nwalk_un]
    simp only [nwk_body, shas_is]
    by_cases h2 : e.kind = 2
    · have ha := addN_len out e.name
      have hq := hloop (addN out e.name) (by omega)
      rw [decide_eq_true h2, if_pos h2, ← hq, cond_t]
      simp only [addN]
      cases hc : out.contains e.name with
      | true => rfl
      | false =>
        rw [decide_eq_true (show out.length + 1 ≤ maxApp by simp only [maxApp]; omega)]
        rfl
    · have hq := hloop out (by omega)
      rw [decide_eq_false h2, if_neg h2, ← hq]
      rfl
theorem nwk_ok : FnLn Tryz.prog elT glT 43 nwk_si nwk_so nwk_F := by
  refine .fin (ι := Nat) (sg := nwk_si) (so := nwk_so) 0 (F := fun n => iter (V := nwk_I) (R := nwk_O) (nwk_body n) n) (fun n => FnLn.rec' (Sx.enters_of Tryz.func43 rfl rfl) (fun rf hrf => nwk_run n rf hrf) n) fun (e, out) r hb hx => ⟨esize e, ?_⟩
  simp only [nwk_F, nwk] at hx
  split at hx
  · rename_i h
    exact (nwk_all (esize e) (esize e) e out hb.1 (Nat.le_refl _) (Nat.le_refl _) h).trans hx
  · cases hx
/-! ## exchequer/ast.Names -/
def anames_px (R : Type) : Px R := ⟨ttOf ttL, glT, callT [(43, callLn nwk_si nwk_so nwk_F)], callQT [], loopT []⟩
def anames_body (x : HV [.sv .expr]) : Option (HV [.sl .str true]) := match x with
 | e =>
  (nwk_F (e, [])).bind fun x =>
   some x
theorem anames_eq : ∀ (x : HV [.sv .expr]), runF (anames_px _) Tryz.f16 [.sv .expr] [.sl .str true] x some = anames_body x
  | e => by kernel_rfl
theorem anames_run : FnOk Tryz.prog elT glT 16 [.sv .expr] [.sl .str true] (anames_body) := by
  refine fnOk_run Tryz.func16 rfl (by kernel_rfl) follows (by kernel_rfl) (n := 0) (by kernel_rfl) (px := anames_px _) (fun cx hP hel hgl => ?_) (anames_eq)
  have hp0 : PxOk cx (anames_px (HV [.sl .str true])) := ⟨fun t => by rw [hP, hel]; exact tt_ok ttL_ok t, by rw [hgl]; rfl⟩
  have hc0 : CallOk cx (anames_px (HV [.sl .str true])) := callT_ok rfl (cfs_cons (cf_ln (by rw [hP, hel, hgl]; exact nwk_ok) (by kernel_rfl)) cfs_nil)
  have hq0 : CallQOk cx (anames_px (HV [.sl .str true])) := callQT_ok rfl cqfs_nil
  exact ⟨hp0, hc0, hq0, all0⟩
def anames (e : Xpr) : Option (List Str) := if esize e ≤ 1000000 then some (nwalk e []) else none
def anames_F : FT [.sv .expr] [.sl .str true] := fun x => anames x
theorem anames_ok : FnOk Tryz.prog elT glT 16 [.sv .expr] [.sl .str true] anames_F := .fin0 anames_run fun e r hb hx => by
  simp only [anames_F, anames] at hx
  split at hx
  · rename_i h
    rw [← hx]
    simp only [anames_body, nwk_F, nwk]
    rw [if_pos (by simpa using h)]
    rfl
  · cases hx
end Go.Proofs.YthndhaolemgbdaaGreatDoor

/- What an expression that may be is made of. -/
namespace Go.Proofs.YthndhaolemgbdaaGreatDoor
open Go.Ax
theorem parts_spec (k : Int) : (parts k = 0 ∧ (k = 1 ∨ k = 2)) ∨ (parts k = 1 ∧ (k = 3 ∨ k = 15 ∨ k = 16)) ∨ (parts k = 2 ∧ 4 ≤ k ∧ k ≤ 14) ∨ parts k = -1 := by
  by_cases h1 : k = 1
  · subst h1; left; decide
  by_cases h2 : k = 2
  · subst h2; left; decide
  by_cases h3 : k = 3
  · subst h3; right; left; decide
  by_cases h15 : k = 15
  · subst h15; right; left; decide
  by_cases h16 : k = 16
  · subst h16; right; left; decide
  right; right
  by_cases h : 4 ≤ k ∧ k ≤ 14
  · left
    refine ⟨?_, h⟩
    have : k = 4 ∨ k = 5 ∨ k = 6 ∨ k = 7 ∨ k = 8 ∨ k = 9 ∨ k = 10 ∨ k = 11 ∨ k = 12 ∨ k = 13 ∨ k = 14 := by omega
    rcases this with rfl | rfl | rfl | rfl | rfl | rfl | rfl | rfl | rfl | rfl | rfl <;> decide
  · right
    have hm : mget signsL k = [] := by
      simp only [signsL, mget]
      rw [decide_eq_false (by omega), decide_eq_false (by omega), decide_eq_false (by omega), decide_eq_false (by omega), decide_eq_false (by omega), decide_eq_false (by omega), decide_eq_false (by omega), decide_eq_false (by omega), decide_eq_false (by omega), decide_eq_false (by omega), decide_eq_false (by omega)]
    simp [parts, hm, h1, h2, h3, h15, h16]
theorem eright_parts {e : Xpr} {m : Int} (h : eright e m = true) : (e.l.length : Int) = parts e.kind ∧ eok e.kind e.v e.name = true ∧ erights e.l (wr .i64 (m - 1)) = true := by
  rw [eright_un] at h
  simp only [Bool.and_eq_true, decide_eq_true_eq] at h
  exact ⟨h.1.1.2, h.1.2, h.2⟩
end Go.Proofs.YthndhaolemgbdaaGreatDoor

/- Statements: are two the same; may one be. -/
namespace Go.Proofs.YthndhaolemgbdaaGreatDoor
open Go.Ax
/-! ## slices.Equal[[]exchequer/api.Col,exchequer/api.Col] -/
def aeqc_0_sg : Sig := ⟨26, [(0, .sl .col false), (1, .sl .col false), (4, .bool), (12, .int .i64), (13, .int .i64)], [], [], 0, 0, 0, [], []⟩
abbrev aeqc_0_V := List Col × List Col × Bool × Int × Int
def aeqc_0 {R : Type} (rec : aeqc_0_V → Option R) (kx : Ex → aeqc_0_V → Option R) (v : aeqc_0_V) : Option R := match v with
 | (v, v1, v2, v3, v4) =>
  cond (decide (v4 < v3)) (
   chk (inb v4 v.length) (
    chk (inb v4 v1.length) (
     cond (!decide ((at' .col v v4) = (at' .col v1 v4))) (
      kx .ret (v, v1, false, v3, v4)) (
      rec (v, v1, v2, v3, (wr .i64 (v4 + 1))))))) (
   kx (.exit 0) (v, v1, v2, v3, v4))
def aeqc_px (R : Type) (k : Nat) : Px R := ⟨ttOf ttL, glT, callT [], callQT [], loopT [(4, loopOr k aeqc_0_sg (aeqc_0))]⟩
theorem aeqc_0_eq (R : Type) (k : Nat) : ∀ (fr : List Fr) (rec : aeqc_0_V → Option R) (kx : Ex → aeqc_0_V → Option R) (v : aeqc_0_V), round (aeqc_px R k) aeqc_0_sg (lp Tryz.f75 0) fr rec kx v = aeqc_0 rec kx v
  | fr, rec, kx, (v, v1, v2, v3, v4) => by kernel_rfl
def aeqc_body (k : Nat) (x : HV [.sl .col false, .sl .col false]) : Option (HV [.bool]) := match x with
 | (a, b) =>
  cond (!decide ((a.length : Int) = (b.length : Int))) (
   some false) (
   iter (fun rec => aeqc_0 rec (fun e vz => match vz with | (_, _, v7, _, _) => match e with
    | .ret =>
     some v7
    | .exit 0 =>
     some true
    | _ => none)) k (a, b, false, (a.length : Int), 0))
theorem aeqc_eq (k : Nat) : ∀ (x : HV [.sl .col false, .sl .col false]), runF (aeqc_px _ k) Tryz.f75 [.sl .col false, .sl .col false] [.bool] x some = aeqc_body k x
  | (a, b) => by kernel_rfl
theorem aeqc_run (k : Nat) : FnOk Tryz.prog elT glT 75 [.sl .col false, .sl .col false] [.bool] (aeqc_body k) := by
  refine fnOk_run Tryz.func75 rfl (by kernel_rfl) follows (by kernel_rfl) (n := 1) (by kernel_rfl) (px := aeqc_px _ k) (fun cx hP hel hgl => ?_) (aeqc_eq k)
  have hp0 : PxOk cx (aeqc_px (HV [.bool]) k) := ⟨fun t => by rw [hP, hel]; exact tt_ok ttL_ok t, by rw [hgl]; rfl⟩
  have hc0 : CallOk cx (aeqc_px (HV [.bool]) k) := callT_ok rfl cfs_nil
  have hq0 : CallQOk cx (aeqc_px (HV [.bool]) k) := callQT_ok rfl cqfs_nil
  have hlaeqc_0 : LoopOk cx (aeqc_px (HV [.bool]) k) (lp Tryz.f75 0) := loop_ok hp0 hc0 hq0 (by rw [hP]; exact follows) (k := k) (s := aeqc_0_sg) (step := aeqc_0) (fun _ _ => by kernel_rfl) (by kernel_rfl) (aeqc_0_eq _ k) (loops_in (n := 0) (by kernel_rfl) all0)
  exact ⟨hp0, hc0, hq0, (allS all0 hlaeqc_0)⟩
def aeqc (a b : List Col) : Bool := decide (a = b)
def aeqc_F : FT [.sl .col false, .sl .col false] [.bool] := fun x => some (aeqc x.1 x.2)
theorem aeqc_loop {R : Type} {kx : Ex → aeqc_0_V → Option R} {a b : List Col} {c : Bool → Option R} (hn : ln a.length) (he : a.length = b.length) (h1 : ∀ i, kx .ret (a, b, false, (a.length : Int), i) = c false) (h2 : ∀ q i, kx (.exit 0) (a, b, q, (a.length : Int), i) = c true) (k : Nat) (hk : a.length < k) :
    iter (fun rec => aeqc_0 rec kx) k (a, b, false, (a.length : Int), 0) = c (decide (a = b)) := by
  refine (iter_ind0 a.length (fun i => (a, b, false, (a.length : Int), (i : Int))) (fun i => c (decide (a.drop i = b.drop i))) (fun i hi rec hr => ?_) (fun rec => ?_) k 0 (Nat.zero_le _) (by omega)).trans (by rw [List.drop_zero, List.drop_zero])
  · have hi2 : i < b.length := by omega
    simp only [aeqc_0, lt_t hi, cond_t, inb_t hi, inb_t hi2, chk, at_nat (c := .col) hi, at_nat (c := .col) hi2, wr_succ hi hn, hr, h1, drop_cons hi, drop_cons hi2, List.cons.injEq]
    by_cases hx : a[i] = b[i]
    · rw [decide_eq_true hx]
      simp [hx]
    · rw [decide_eq_false hx]
      simp [hx]
  · simp only [aeqc_0, lt_n, cond_f, h2]
    rw [List.drop_eq_nil_of_le (Nat.le_refl _), List.drop_eq_nil_of_le (by omega)]
    rfl
theorem aeqc_ok : FnOk Tryz.prog elT glT 75 [.sl .col false, .sl .col false] [.bool] aeqc_F := .fin 0 aeqc_run fun (a, b) r hb hx => ⟨a.length + 1, by
  simp only [aeqc_F, Option.some.injEq] at hx
  rw [← hx]
  simp only [aeqc_body, aeqc]
  by_cases he : a.length = b.length
  · rw [decide_eq_true (show (a.length : Int) = (b.length : Int) by omega), Bool.not_true, cond_f]
    exact aeqc_loop (c := some) hb.1.1 he (fun _ => rfl) (fun _ _ => rfl) (a.length + 1) (by omega)
  · rw [decide_eq_false (show ¬ (a.length : Int) = (b.length : Int) by omega), decide_eq_false (fun h => he (by rw [h]))]
    rfl⟩
/-! ## slices.Equal[[]string,string] -/
def aeqs_0_sg : Sig := ⟨26, [(0, .sl .str false), (1, .sl .str false), (4, .bool), (12, .int .i64), (13, .int .i64)], [], [], 0, 0, 0, [], []⟩
abbrev aeqs_0_V := List Str × List Str × Bool × Int × Int
def aeqs_0 {R : Type} (rec : aeqs_0_V → Option R) (kx : Ex → aeqs_0_V → Option R) (v : aeqs_0_V) : Option R := match v with
 | (v, v1, v2, v3, v4) =>
  cond (decide (v4 < v3)) (
   chk (inb v4 v.length) (
    chk (inb v4 v1.length) (
     cond (!decide ((at' .str v v4) = (at' .str v1 v4))) (
      kx .ret (v, v1, false, v3, v4)) (
      rec (v, v1, v2, v3, (wr .i64 (v4 + 1))))))) (
   kx (.exit 0) (v, v1, v2, v3, v4))
def aeqs_px (R : Type) (k : Nat) : Px R := ⟨ttOf ttL, glT, callT [], callQT [], loopT [(4, loopOr k aeqs_0_sg (aeqs_0))]⟩
theorem aeqs_0_eq (R : Type) (k : Nat) : ∀ (fr : List Fr) (rec : aeqs_0_V → Option R) (kx : Ex → aeqs_0_V → Option R) (v : aeqs_0_V), round (aeqs_px R k) aeqs_0_sg (lp Tryz.f76 0) fr rec kx v = aeqs_0 rec kx v
  | fr, rec, kx, (v, v1, v2, v3, v4) => by kernel_rfl
def aeqs_body (k : Nat) (x : HV [.sl .str false, .sl .str false]) : Option (HV [.bool]) := match x with
 | (a, b) =>
  cond (!decide ((a.length : Int) = (b.length : Int))) (
   some false) (
   iter (fun rec => aeqs_0 rec (fun e vz => match vz with | (_, _, v7, _, _) => match e with
    | .ret =>
     some v7
    | .exit 0 =>
     some true
    | _ => none)) k (a, b, false, (a.length : Int), 0))
theorem aeqs_eq (k : Nat) : ∀ (x : HV [.sl .str false, .sl .str false]), runF (aeqs_px _ k) Tryz.f76 [.sl .str false, .sl .str false] [.bool] x some = aeqs_body k x
  | (a, b) => by kernel_rfl
theorem aeqs_run (k : Nat) : FnOk Tryz.prog elT glT 76 [.sl .str false, .sl .str false] [.bool] (aeqs_body k) := by
  refine fnOk_run Tryz.func76 rfl (by kernel_rfl) follows (by kernel_rfl) (n := 1) (by kernel_rfl) (px := aeqs_px _ k) (fun cx hP hel hgl => ?_) (aeqs_eq k)
  have hp0 : PxOk cx (aeqs_px (HV [.bool]) k) := ⟨fun t => by rw [hP, hel]; exact tt_ok ttL_ok t, by rw [hgl]; rfl⟩
  have hc0 : CallOk cx (aeqs_px (HV [.bool]) k) := callT_ok rfl cfs_nil
  have hq0 : CallQOk cx (aeqs_px (HV [.bool]) k) := callQT_ok rfl cqfs_nil
  have hlaeqs_0 : LoopOk cx (aeqs_px (HV [.bool]) k) (lp Tryz.f76 0) := loop_ok hp0 hc0 hq0 (by rw [hP]; exact follows) (k := k) (s := aeqs_0_sg) (step := aeqs_0) (fun _ _ => by kernel_rfl) (by kernel_rfl) (aeqs_0_eq _ k) (loops_in (n := 0) (by kernel_rfl) all0)
  exact ⟨hp0, hc0, hq0, (allS all0 hlaeqs_0)⟩
def aeqs (a b : List Str) : Bool := decide (a = b)
def aeqs_F : FT [.sl .str false, .sl .str false] [.bool] := fun x => some (aeqs x.1 x.2)
theorem aeqs_loop {R : Type} {kx : Ex → aeqs_0_V → Option R} {a b : List Str} {c : Bool → Option R} (hn : ln a.length) (he : a.length = b.length) (h1 : ∀ i, kx .ret (a, b, false, (a.length : Int), i) = c false) (h2 : ∀ q i, kx (.exit 0) (a, b, q, (a.length : Int), i) = c true) (k : Nat) (hk : a.length < k) :
    iter (fun rec => aeqs_0 rec kx) k (a, b, false, (a.length : Int), 0) = c (decide (a = b)) := by
  refine (iter_ind0 a.length (fun i => (a, b, false, (a.length : Int), (i : Int))) (fun i => c (decide (a.drop i = b.drop i))) (fun i hi rec hr => ?_) (fun rec => ?_) k 0 (Nat.zero_le _) (by omega)).trans (by rw [List.drop_zero, List.drop_zero])
  · have hi2 : i < b.length := by omega
    simp only [aeqs_0, lt_t hi, cond_t, inb_t hi, inb_t hi2, chk, at_nat (c := .str) hi, at_nat (c := .str) hi2, wr_succ hi hn, hr, h1, drop_cons hi, drop_cons hi2, List.cons.injEq]
    by_cases hx : a[i] = b[i]
    · rw [decide_eq_true hx]
      simp [hx]
    · rw [decide_eq_false hx]
      simp [hx]
  · simp only [aeqs_0, lt_n, cond_f, h2]
    rw [List.drop_eq_nil_of_le (Nat.le_refl _), List.drop_eq_nil_of_le (by omega)]
    rfl
theorem aeqs_ok : FnOk Tryz.prog elT glT 76 [.sl .str false, .sl .str false] [.bool] aeqs_F := .fin 0 aeqs_run fun (a, b) r hb hx => ⟨a.length + 1, by
  simp only [aeqs_F, Option.some.injEq] at hx
  rw [← hx]
  simp only [aeqs_body, aeqs]
  by_cases he : a.length = b.length
  · rw [decide_eq_true (show (a.length : Int) = (b.length : Int) by omega), Bool.not_true, cond_f]
    exact aeqs_loop (c := some) hb.1.1 he (fun _ => rfl) (fun _ _ => rfl) (a.length + 1) (by omega)
  · rw [decide_eq_false (show ¬ (a.length : Int) = (b.length : Int) by omega), decide_eq_false (fun h => he (by rw [h]))]
    rfl⟩
/-! ## slices.Equal[[]bool,bool] -/
def aeqb_0_sg : Sig := ⟨26, [(0, .sl .bool false), (1, .sl .bool false), (4, .bool), (12, .int .i64), (13, .int .i64)], [], [], 0, 0, 0, [], []⟩
abbrev aeqb_0_V := List Bool × List Bool × Bool × Int × Int
def aeqb_0 {R : Type} (rec : aeqb_0_V → Option R) (kx : Ex → aeqb_0_V → Option R) (v : aeqb_0_V) : Option R := match v with
 | (v, v1, v2, v3, v4) =>
  cond (decide (v4 < v3)) (
   chk (inb v4 v.length) (
    chk (inb v4 v1.length) (
     cond (!decide ((at' .bool v v4) = (at' .bool v1 v4))) (
      kx .ret (v, v1, false, v3, v4)) (
      rec (v, v1, v2, v3, (wr .i64 (v4 + 1))))))) (
   kx (.exit 0) (v, v1, v2, v3, v4))
def aeqb_px (R : Type) (k : Nat) : Px R := ⟨ttOf ttL, glT, callT [], callQT [], loopT [(4, loopOr k aeqb_0_sg (aeqb_0))]⟩
theorem aeqb_0_eq (R : Type) (k : Nat) : ∀ (fr : List Fr) (rec : aeqb_0_V → Option R) (kx : Ex → aeqb_0_V → Option R) (v : aeqb_0_V), round (aeqb_px R k) aeqb_0_sg (lp Tryz.f77 0) fr rec kx v = aeqb_0 rec kx v
  | fr, rec, kx, (v, v1, v2, v3, v4) => by kernel_rfl
def aeqb_body (k : Nat) (x : HV [.sl .bool false, .sl .bool false]) : Option (HV [.bool]) := match x with
 | (a, b) =>
  cond (!decide ((a.length : Int) = (b.length : Int))) (
   some false) (
   iter (fun rec => aeqb_0 rec (fun e vz => match vz with | (_, _, v7, _, _) => match e with
    | .ret =>
     some v7
    | .exit 0 =>
     some true
    | _ => none)) k (a, b, false, (a.length : Int), 0))
theorem aeqb_eq (k : Nat) : ∀ (x : HV [.sl .bool false, .sl .bool false]), runF (aeqb_px _ k) Tryz.f77 [.sl .bool false, .sl .bool false] [.bool] x some = aeqb_body k x
  | (a, b) => by kernel_rfl
theorem aeqb_run (k : Nat) : FnOk Tryz.prog elT glT 77 [.sl .bool false, .sl .bool false] [.bool] (aeqb_body k) := by
  refine fnOk_run Tryz.func77 rfl (by kernel_rfl) follows (by kernel_rfl) (n := 1) (by kernel_rfl) (px := aeqb_px _ k) (fun cx hP hel hgl => ?_) (aeqb_eq k)
  have hp0 : PxOk cx (aeqb_px (HV [.bool]) k) := ⟨fun t => by rw [hP, hel]; exact tt_ok ttL_ok t, by rw [hgl]; rfl⟩
  have hc0 : CallOk cx (aeqb_px (HV [.bool]) k) := callT_ok rfl cfs_nil
  have hq0 : CallQOk cx (aeqb_px (HV [.bool]) k) := callQT_ok rfl cqfs_nil
  have hlaeqb_0 : LoopOk cx (aeqb_px (HV [.bool]) k) (lp Tryz.f77 0) := loop_ok hp0 hc0 hq0 (by rw [hP]; exact follows) (k := k) (s := aeqb_0_sg) (step := aeqb_0) (fun _ _ => by kernel_rfl) (by kernel_rfl) (aeqb_0_eq _ k) (loops_in (n := 0) (by kernel_rfl) all0)
  exact ⟨hp0, hc0, hq0, (allS all0 hlaeqb_0)⟩
def aeqb (a b : List Bool) : Bool := decide (a = b)
def aeqb_F : FT [.sl .bool false, .sl .bool false] [.bool] := fun x => some (aeqb x.1 x.2)
theorem aeqb_loop {R : Type} {kx : Ex → aeqb_0_V → Option R} {a b : List Bool} {c : Bool → Option R} (hn : ln a.length) (he : a.length = b.length) (h1 : ∀ i, kx .ret (a, b, false, (a.length : Int), i) = c false) (h2 : ∀ q i, kx (.exit 0) (a, b, q, (a.length : Int), i) = c true) (k : Nat) (hk : a.length < k) :
    iter (fun rec => aeqb_0 rec kx) k (a, b, false, (a.length : Int), 0) = c (decide (a = b)) := by
  refine (iter_ind0 a.length (fun i => (a, b, false, (a.length : Int), (i : Int))) (fun i => c (decide (a.drop i = b.drop i))) (fun i hi rec hr => ?_) (fun rec => ?_) k 0 (Nat.zero_le _) (by omega)).trans (by rw [List.drop_zero, List.drop_zero])
  · have hi2 : i < b.length := by omega
    simp only [aeqb_0, lt_t hi, cond_t, inb_t hi, inb_t hi2, chk, at_nat (c := .bool) hi, at_nat (c := .bool) hi2, wr_succ hi hn, hr, h1, drop_cons hi, drop_cons hi2, List.cons.injEq]
    by_cases hx : a[i] = b[i]
    · rw [decide_eq_true hx]
      simp [hx]
    · rw [decide_eq_false hx]
      simp [hx]
  · simp only [aeqb_0, lt_n, cond_f, h2]
    rw [List.drop_eq_nil_of_le (Nat.le_refl _), List.drop_eq_nil_of_le (by omega)]
    rfl
theorem aeqb_ok : FnOk Tryz.prog elT glT 77 [.sl .bool false, .sl .bool false] [.bool] aeqb_F := .fin 0 aeqb_run fun (a, b) r hb hx => ⟨a.length + 1, by
  simp only [aeqb_F, Option.some.injEq] at hx
  rw [← hx]
  simp only [aeqb_body, aeqb]
  by_cases he : a.length = b.length
  · rw [decide_eq_true (show (a.length : Int) = (b.length : Int) by omega), Bool.not_true, cond_f]
    exact aeqb_loop (c := some) hb.1.1 he (fun _ => rfl) (fun _ _ => rfl) (a.length + 1) (by omega)
  · rw [decide_eq_false (show ¬ (a.length : Int) = (b.length : Int) by omega), decide_eq_false (fun h => he (by rw [h]))]
    rfl⟩
/-! ## statements: the same? -/
instance : DecidableEq SetE := fun a b => decidable_of_iff (a.name = b.name ∧ a.e = b.e) (by
  cases a; cases b
  simp)
def setsame (a b : SetE) : Bool := decide (a.name = b.name) && xsame a.e b.e
theorem setsame_dec (a b : SetE) : setsame a b = decide (a = b) := by
  cases a; cases b
  simp only [setsame, xsame_dec, SetE.mk.injEq, Bool.decide_and]
def ssame (a b : Stm) : Bool := decide (a.kind = b.kind) && decide (a.name = b.name) && decide (a.on = b.on) && decide (a.has = b.has) && decide (a.most = b.most) && decide (a.whr = b.whr) && (decide (a.cols = b.cols) && decide (a.names = b.names) && decide (a.order = b.order) && decide (a.desc = b.desc) && decide (a.l = b.l)) && decide (a.rows = b.rows) && decide (a.sets = b.sets)
theorem ssame_iff (a b : Stm) : ssame a b = true ↔ a = b := by
  cases a; cases b
  simp only [ssame, Bool.and_eq_true, decide_eq_true_eq, Stm.mk.injEq]
  constructor
  · rintro ⟨⟨⟨⟨⟨⟨⟨⟨h1, h2⟩, h3⟩, h4⟩, h5⟩, h6⟩, ⟨⟨⟨h7, h8⟩, h9⟩, h10⟩, h11⟩, h12⟩, h13⟩
    exact ⟨h1, h2, h3, h7, h8, h11, h12, h13, h4, h6, h9, h10, h5⟩
  · rintro ⟨h1, h2, h3, h7, h8, h11, h12, h13, h4, h6, h9, h10, h5⟩
    exact ⟨⟨⟨⟨⟨⟨⟨⟨h1, h2⟩, h3⟩, h4⟩, h5⟩, h6⟩, ⟨⟨⟨h7, h8⟩, h9⟩, h10⟩, h11⟩, h12⟩, h13⟩
/-! ## exchequer/ast.Same -/
def astmts_3_sg : Sig := ⟨32, [(1, .sl .set false), (6, .bool), (15, .sl .set false), (16, .int .i64), (17, .int .i64)], [(2, .fn 81 [])], [], 40, 40, 600, [], []⟩
abbrev astmts_3_V := List SetE × Bool × List SetE × Int × Int
def astmts_3 {R : Type} (rec : astmts_3_V → Option R) (kx : Ex → astmts_3_V → Option R) (v : astmts_3_V) : Option R := match v with
 | (v36, v37, v38, v39, v40) =>
  cond (decide (v40 < v39)) (
   chk (inb v40 v38.length) (
    chk (inb v40 v36.length) (
     cond (decide (((at' .set v38 v40).name) = ((at' .set v36 v40).name))) (
      cond (!(asame (xeta ((at' .set v38 v40).e)) (xeta ((at' .set v36 v40).e)))) (
       kx .ret (v36, false, v38, v39, v40)) (
       rec (v36, v37, v38, v39, (wr .i64 (v40 + 1))))) (
      kx .ret (v36, false, v38, v39, v40))))) (
   kx (.exit 0) (v36, v37, v38, v39, v40))
def astmts_2_sg : Sig := ⟨32, [(1, .sl .expr false), (6, .bool), (15, .sl .expr false), (16, .int .i64), (17, .int .i64)], [(2, .fn 20 [])], [(0, .one (.sv .stmt)), (1, .one (.sv .stmt))], 120, 120, 600, [], []⟩
abbrev astmts_2_V := List Xpr × Bool × List Xpr × Int × Int × Stm × Stm
def astmts_2 {R : Type} (rec : astmts_2_V → Option R) (kx : Ex → astmts_2_V → Option R) (v : astmts_2_V) : Option R := match v with
 | (v17, v18, v19, v20, v21, w4, w5) =>
  cond (decide (v21 < v20)) (
   chk (inb v21 v19.length) (
    chk (inb v21 v17.length) (
     cond (!(asame (at' .expr v19 v21) (at' .expr v17 v21))) (
      kx .ret (v17, false, v19, v20, v21, w4, w5)) (
      rec (v17, v18, v19, v20, (wr .i64 (v21 + 1)), w4, w5))))) (
   kx (.exit 0) (v17, v18, v19, v20, v21, w4, w5))
def astmts_1_sg : Sig := ⟨32, [(1, .sl .exprs false), (6, .bool), (15, .sl .exprs false), (16, .int .i64), (17, .int .i64)], [(2, .fn 79 [])], [(0, .one (.sv .stmt)), (1, .one (.sv .stmt))], 40, 40, 400, [], []⟩
abbrev astmts_1_V := List (List Xpr) × Bool × List (List Xpr) × Int × Int × Stm × Stm
def astmts_1 {R : Type} (k : Nat) (rec : astmts_1_V → Option R) (kx : Ex → astmts_1_V → Option R) (v : astmts_1_V) : Option R := match v with
 | (v12, v13, v14, v15, v16, w2, w3) =>
  cond (decide (v16 < v15)) (
   chk (inb v16 v14.length) (
    chk (inb v16 v12.length) (
     cond (!decide (((at' .exprs v14 v16).length : Int) = ((at' .exprs v12 v16).length : Int))) (
      kx .ret (v12, false, v14, v15, v16, w2, w3)) (
      iter (fun rc => astmts_2 rc (fun e vz => match vz with | (_, v23, _, _, _, v27, v28) => match e with
       | .ret =>
        cond (!v23) (
         kx .ret (v12, false, v14, v15, v16, v27, v28)) (
         rec (v12, v13, v14, v15, (wr .i64 (v16 + 1)), v27, v28))
       | .exit 0 =>
        rec (v12, v13, v14, v15, (wr .i64 (v16 + 1)), v27, v28)
       | _ => none)) k ((at' .exprs v12 v16), false, (at' .exprs v14 v16), ((at' .exprs v14 v16).length : Int), 0, w2, w3))))) (
   kx (.exit 0) (v12, v13, v14, v15, v16, w2, w3))
def astmts_0_sg : Sig := ⟨32, [(1, .sl .expr false), (6, .bool), (15, .sl .expr false), (16, .int .i64), (17, .int .i64)], [(2, .fn 20 [])], [(0, .one (.sv .stmt)), (1, .one (.sv .stmt))], 40, 40, 200, [], []⟩
abbrev astmts_0_V := List Xpr × Bool × List Xpr × Int × Int × Stm × Stm
def astmts_0 {R : Type} (rec : astmts_0_V → Option R) (kx : Ex → astmts_0_V → Option R) (v : astmts_0_V) : Option R := match v with
 | (v, v1, v2, v3, v4, w, w1) =>
  cond (decide (v4 < v3)) (
   chk (inb v4 v2.length) (
    chk (inb v4 v.length) (
     cond (!(asame (at' .expr v2 v4) (at' .expr v v4))) (
      kx .ret (v, false, v2, v3, v4, w, w1)) (
      rec (v, v1, v2, v3, (wr .i64 (v4 + 1)), w, w1))))) (
   kx (.exit 0) (v, v1, v2, v3, v4, w, w1))
def astmts_pxi0 (R : Type) (k : Nat) : Px R := ⟨ttOf ttL, glT, callT [(20, callOr [.sv .expr, .sv .expr] [.bool] asame_F)], callQT [], loopT [(4, loopOr k astmts_0_sg (astmts_0))]⟩
def astmts_pxi1i0i0 (R : Type) (k : Nat) : Px R := ⟨ttOf ttL, glT, callT [(20, callOr [.sv .expr, .sv .expr] [.bool] asame_F)], callQT [], loopT [(4, loopOr k astmts_2_sg (astmts_2))]⟩
noncomputable def astmts_pxi1i0 (R : Type) (k : Nat) : Px R := ⟨ttOf ttL, glT, callT [(47, callRun 120 600 (astmts_pxi1i0i0 R k) Tryz.f47)], callQT [], loopT []⟩
noncomputable def astmts_pxi1 (R : Type) (k : Nat) : Px R := ⟨ttOf ttL, glT, callT [(79, callRun 80 600 (astmts_pxi1i0 R k) Tryz.f79)], callQT [], loopT [(4, loopOr k astmts_1_sg (astmts_1 k))]⟩
def astmts_pxi2i0 (R : Type) (_k : Nat) : Px R := ⟨ttOf ttL, glT, callT [(20, callOr [.sv .expr, .sv .expr] [.bool] asame_F)], callQT [], loopT []⟩
noncomputable def astmts_pxi2 (R : Type) (k : Nat) : Px R := ⟨ttOf ttL, glT, callT [(81, callRun 80 800 (astmts_pxi2i0 R k) Tryz.f81)], callQT [], loopT [(4, loopOr k astmts_3_sg (astmts_3))]⟩
noncomputable def astmts_px (R : Type) (k : Nat) : Px R := ⟨ttOf ttL, glT, callT [(20, callOr [.sv .expr, .sv .expr] [.bool] asame_F), (75, callOr [.sl .col false, .sl .col false] [.bool] aeqc_F), (76, callOr [.sl .str false, .sl .str false] [.bool] aeqs_F), (77, callOr [.sl .bool false, .sl .bool false] [.bool] aeqb_F), (47, callRun 40 200 (astmts_pxi0 R k) Tryz.f47), (78, callRun 40 400 (astmts_pxi1 R k) Tryz.f78), (80, callRun 40 600 (astmts_pxi2 R k) Tryz.f80)], callQT [], loopT []⟩
theorem astmts_0_eq (R : Type) (k : Nat) : ∀ (fr : List Fr) (rec : astmts_0_V → Option R) (kx : Ex → astmts_0_V → Option R) (v : astmts_0_V), round (astmts_pxi0 R k) astmts_0_sg (lp Tryz.f47 0) fr rec kx v = astmts_0 rec kx v
  | fr, rec, kx, (v, v1, v2, v3, v4, w, w1) => by kernel_rfl
theorem astmts_2_eq (R : Type) (k : Nat) : ∀ (fr : List Fr) (rec : astmts_2_V → Option R) (kx : Ex → astmts_2_V → Option R) (v : astmts_2_V), round (astmts_pxi1i0i0 R k) astmts_2_sg (lp Tryz.f47 0) fr rec kx v = astmts_2 rec kx v
  | fr, rec, kx, (v17, v18, v19, v20, v21, w4, w5) => by kernel_rfl
theorem astmts_1_eq (R : Type) (k : Nat) : ∀ (fr : List Fr) (rec : astmts_1_V → Option R) (kx : Ex → astmts_1_V → Option R) (v : astmts_1_V), round (astmts_pxi1 R k) astmts_1_sg (lp Tryz.f78 0) fr rec kx v = astmts_1 k rec kx v
  | fr, rec, kx, (v12, v13, v14, v15, v16, w2, w3) => by kernel_rfl
theorem astmts_3_eq (R : Type) (k : Nat) : ∀ (fr : List Fr) (rec : astmts_3_V → Option R) (kx : Ex → astmts_3_V → Option R) (v : astmts_3_V), round (astmts_pxi2 R k) astmts_3_sg (lp Tryz.f80 0) fr rec kx v = astmts_3 rec kx v
  | fr, rec, kx, (v36, v37, v38, v39, v40) => by kernel_rfl
def astmts_body (k : Nat) (x : HV [.sv .stmt, .sv .stmt]) : Option (HV [.bool]) := match x with
 | (a, b) =>
  let j9 := fun (p6 : Bool) =>
   let j8 := fun (p13 : Bool) (q6 : Stm) (q7 : Stm) =>
    let j7 := fun (p14 : Bool) =>
     let j6 := fun (p23 : Bool) (q24 : Stm) (q25 : Stm) =>
      cond (p23) (
       cond (!decide ((q24.sets.length : Int) = (q25.sets.length : Int))) (
        some false) (
        iter (fun rec => astmts_3 rec (fun e vz => match vz with | (_, v42, _, _, _) => match e with
         | .ret =>
          some v42
         | .exit 0 =>
          some true
         | _ => none)) k (q25.sets, false, q24.sets, (q24.sets.length : Int), 0))) (
       some false)
     cond (p14) (
      cond (!decide ((q6.rows.length : Int) = (q7.rows.length : Int))) (
       j6 false q6 q7) (
       iter (fun rec => astmts_1 k rec (fun e vz => match vz with | (_, v30, _, _, _, v34, v35) => match e with
        | .ret =>
         j6 v30 v34 v35
        | .exit 0 =>
         j6 true v34 v35
        | _ => none)) k (q7.rows, false, q6.rows, (q6.rows.length : Int), 0, q6, q7))) (
      j6 false q6 q7)
    cond (p6) (
     j7 p13) (
     j7 false)
   let j5 := fun (p7 : Bool) =>
    let j4 := fun (p8 : Bool) =>
     let j3 := fun (p9 : Bool) =>
      cond (p9) (
       cond (!decide ((a.l.length : Int) = (b.l.length : Int))) (
        j8 false a b) (
        iter (fun rec => astmts_0 rec (fun e vz => match vz with | (_, v6, _, _, _, v10, v11) => match e with
         | .ret =>
          j8 v6 v10 v11
         | .exit 0 =>
          j8 true v10 v11
         | _ => none)) k (b.l, false, a.l, (a.l.length : Int), 0, a, b))) (
       j8 false a b)
     cond (p8) (
      j3 (aeqb a.desc b.desc)) (
      j3 false)
    cond (p7) (
     j4 (aeqs a.order b.order)) (
     j4 false)
   cond ((aeqc a.cols b.cols)) (
    j5 (aeqs a.names b.names)) (
    j5 false)
  let j2 := fun (p : Bool) =>
   let j1 := fun (p1 : Bool) =>
    let j := fun (p2 : Bool) =>
     cond (p2) (
      cond (decide (a.most = b.most)) (
       j9 (asame (xeta a.whr) (xeta b.whr))) (
       j9 false)) (
      j9 false)
    cond (p1) (
     j (decide (a.has = b.has))) (
     j false)
   cond (p) (
    j1 (decide (a.on = b.on))) (
    j1 false)
  cond (decide (a.kind = b.kind)) (
   j2 (decide (a.name = b.name))) (
   j2 false)
theorem astmts_eq (k : Nat) : ∀ (x : HV [.sv .stmt, .sv .stmt]), runF (astmts_px _ k) Tryz.f27 [.sv .stmt, .sv .stmt] [.bool] x some = astmts_body k x
  | (a, b) => by kernel_rfl
theorem astmts_run (k : Nat) : FnOk Tryz.prog elT glT 27 [.sv .stmt, .sv .stmt] [.bool] (astmts_body k) := by
  refine fnOk_run Tryz.func27 rfl (by kernel_rfl) follows (by kernel_rfl) (n := 0) (by kernel_rfl) (px := astmts_px _ k) (fun cx hP hel hgl => ?_) (astmts_eq k)
  have hp1 : PxOk cx (astmts_pxi0 (HV [.bool]) k) := ⟨fun t => by rw [hP, hel]; exact tt_ok ttL_ok t, by rw [hgl]; rfl⟩
  have hc1 : CallOk cx (astmts_pxi0 (HV [.bool]) k) := callT_ok rfl (cfs_cons (cf_or (by rw [hP, hel, hgl]; exact asame_ok) (by kernel_rfl)) cfs_nil)
  have hq1 : CallQOk cx (astmts_pxi0 (HV [.bool]) k) := callQT_ok rfl cqfs_nil
  have hlastmts_0 : LoopOk cx (astmts_pxi0 (HV [.bool]) k) (lp Tryz.f47 0) := loop_ok hp1 hc1 hq1 (by rw [hP]; exact follows) (k := k) (s := astmts_0_sg) (step := astmts_0) (fun _ _ => by kernel_rfl) (by kernel_rfl) (astmts_0_eq _ k) (loops_in (n := 0) (by kernel_rfl) all0)
  have hp4 : PxOk cx (astmts_pxi1i0i0 (HV [.bool]) k) := ⟨fun t => by rw [hP, hel]; exact tt_ok ttL_ok t, by rw [hgl]; rfl⟩
  have hc4 : CallOk cx (astmts_pxi1i0i0 (HV [.bool]) k) := callT_ok rfl (cfs_cons (cf_or (by rw [hP, hel, hgl]; exact asame_ok) (by kernel_rfl)) cfs_nil)
  have hq4 : CallQOk cx (astmts_pxi1i0i0 (HV [.bool]) k) := callQT_ok rfl cqfs_nil
  have hlastmts_2 : LoopOk cx (astmts_pxi1i0i0 (HV [.bool]) k) (lp Tryz.f47 0) := loop_ok hp4 hc4 hq4 (by rw [hP]; exact follows) (k := k) (s := astmts_2_sg) (step := astmts_2) (fun _ _ => by kernel_rfl) (by kernel_rfl) (astmts_2_eq _ k) (loops_in (n := 0) (by kernel_rfl) all0)
  have hp3 : PxOk cx (astmts_pxi1i0 (HV [.bool]) k) := ⟨fun t => by rw [hP, hel]; exact tt_ok ttL_ok t, by rw [hgl]; rfl⟩
  have hc3 : CallOk cx (astmts_pxi1i0 (HV [.bool]) k) := callT_ok rfl (cfs_cons (cf_run hp4 hc4 hq4 (by rw [hP]; exact follows) (by rw [hP]; exact Tryz.func47) rfl (by kernel_rfl) (by kernel_rfl) (n := 1) (by kernel_rfl) ((allS all0 hlastmts_2))) cfs_nil)
  have hq3 : CallQOk cx (astmts_pxi1i0 (HV [.bool]) k) := callQT_ok rfl cqfs_nil
  have hp2 : PxOk cx (astmts_pxi1 (HV [.bool]) k) := ⟨fun t => by rw [hP, hel]; exact tt_ok ttL_ok t, by rw [hgl]; rfl⟩
  have hc2 : CallOk cx (astmts_pxi1 (HV [.bool]) k) := callT_ok rfl (cfs_cons (cf_run hp3 hc3 hq3 (by rw [hP]; exact follows) (by rw [hP]; exact Tryz.func79) rfl (by kernel_rfl) (by kernel_rfl) (n := 0) (by kernel_rfl) (all0)) cfs_nil)
  have hq2 : CallQOk cx (astmts_pxi1 (HV [.bool]) k) := callQT_ok rfl cqfs_nil
  have hlastmts_1 : LoopOk cx (astmts_pxi1 (HV [.bool]) k) (lp Tryz.f78 0) := loop_ok hp2 hc2 hq2 (by rw [hP]; exact follows) (k := k) (s := astmts_1_sg) (step := astmts_1 k) (fun _ _ => by kernel_rfl) (by kernel_rfl) (astmts_1_eq _ k) (loops_in (n := 0) (by kernel_rfl) all0)
  have hp6 : PxOk cx (astmts_pxi2i0 (HV [.bool]) k) := ⟨fun t => by rw [hP, hel]; exact tt_ok ttL_ok t, by rw [hgl]; rfl⟩
  have hc6 : CallOk cx (astmts_pxi2i0 (HV [.bool]) k) := callT_ok rfl (cfs_cons (cf_or (by rw [hP, hel, hgl]; exact asame_ok) (by kernel_rfl)) cfs_nil)
  have hq6 : CallQOk cx (astmts_pxi2i0 (HV [.bool]) k) := callQT_ok rfl cqfs_nil
  have hp5 : PxOk cx (astmts_pxi2 (HV [.bool]) k) := ⟨fun t => by rw [hP, hel]; exact tt_ok ttL_ok t, by rw [hgl]; rfl⟩
  have hc5 : CallOk cx (astmts_pxi2 (HV [.bool]) k) := callT_ok rfl (cfs_cons (cf_run hp6 hc6 hq6 (by rw [hP]; exact follows) (by rw [hP]; exact Tryz.func81) rfl (by kernel_rfl) (by kernel_rfl) (n := 0) (by kernel_rfl) (all0)) cfs_nil)
  have hq5 : CallQOk cx (astmts_pxi2 (HV [.bool]) k) := callQT_ok rfl cqfs_nil
  have hlastmts_3 : LoopOk cx (astmts_pxi2 (HV [.bool]) k) (lp Tryz.f80 0) := loop_ok hp5 hc5 hq5 (by rw [hP]; exact follows) (k := k) (s := astmts_3_sg) (step := astmts_3) (fun _ _ => by kernel_rfl) (by kernel_rfl) (astmts_3_eq _ k) (loops_in (n := 0) (by kernel_rfl) all0)
  have hp0 : PxOk cx (astmts_px (HV [.bool]) k) := ⟨fun t => by rw [hP, hel]; exact tt_ok ttL_ok t, by rw [hgl]; rfl⟩
  have hc0 : CallOk cx (astmts_px (HV [.bool]) k) := callT_ok rfl (cfs_cons (cf_or (by rw [hP, hel, hgl]; exact asame_ok) (by kernel_rfl)) (cfs_cons (cf_or (by rw [hP, hel, hgl]; exact aeqc_ok) (by kernel_rfl)) (cfs_cons (cf_or (by rw [hP, hel, hgl]; exact aeqs_ok) (by kernel_rfl)) (cfs_cons (cf_or (by rw [hP, hel, hgl]; exact aeqb_ok) (by kernel_rfl)) (cfs_cons (cf_run hp1 hc1 hq1 (by rw [hP]; exact follows) (by rw [hP]; exact Tryz.func47) rfl (by kernel_rfl) (by kernel_rfl) (n := 1) (by kernel_rfl) ((allS all0 hlastmts_0))) (cfs_cons (cf_run hp2 hc2 hq2 (by rw [hP]; exact follows) (by rw [hP]; exact Tryz.func78) rfl (by kernel_rfl) (by kernel_rfl) (n := 1) (by kernel_rfl) ((allS all0 hlastmts_1))) (cfs_cons (cf_run hp5 hc5 hq5 (by rw [hP]; exact follows) (by rw [hP]; exact Tryz.func80) rfl (by kernel_rfl) (by kernel_rfl) (n := 1) (by kernel_rfl) ((allS all0 hlastmts_3))) cfs_nil)))))))
  have hq0 : CallQOk cx (astmts_px (HV [.bool]) k) := callQT_ok rfl cqfs_nil
  exact ⟨hp0, hc0, hq0, all0⟩
def astmts (a b : Stm) : Bool := ssame a b
def astmts_F : FT [.sv .stmt, .sv .stmt] [.bool] := fun x => some (astmts x.1 x.2)
theorem dec_cons {α : Type} [DecidableEq α] (x y : α) (l m : List α) : decide (x :: l = y :: m) = (decide (x = y) && decide (l = m)) := by
  simp only [List.cons.injEq, Bool.decide_and]
theorem astmts_0_loop {R : Type} {kx : Ex → astmts_0_V → Option R} {l m : List Xpr} {s t : Stm} {c : Bool → Option R} (hn : ln l.length) (hm : l.length = m.length)
    (h1 : ∀ i, kx .ret (m, false, l, (l.length : Int), i, s, t) = c false) (h2 : ∀ q i, kx (.exit 0) (m, q, l, (l.length : Int), i, s, t) = c true) (k : Nat) (hk : l.length < k) : iter (fun rec => astmts_0 rec kx) k (m, false, l, (l.length : Int), 0, s, t) = c (decide (l = m)) := by
  refine (iter_ind0 l.length (fun i => (m, false, l, (l.length : Int), (i : Int), s, t)) (fun i => c (decide (l.drop i = m.drop i))) (fun i hi rec hr => ?_) (fun rec => ?_) k 0 (Nat.zero_le _) (by omega)).trans (by rw [List.drop_zero, List.drop_zero])
  · have hi2 : i < m.length := by omega
    simp only [astmts_0, lt_t hi, cond_t, inb_t hi, inb_t hi2, chk, at_nat (c := .expr) hi, at_nat (c := .expr) hi2, wr_succ hi hn, hr, h1, drop_cons hi, drop_cons hi2, dec_cons, asame, xsame_dec]
    cases decide (l[i] = m[i]) <;> rfl
  · simp only [astmts_0, lt_n, cond_f, h2]
    rw [List.drop_eq_nil_of_le (Nat.le_refl _), List.drop_eq_nil_of_le (by omega)]
    rfl
theorem astmts_2_loop {R : Type} {kx : Ex → astmts_2_V → Option R} {l m : List Xpr} {s t : Stm} {c : Bool → Option R} (hn : ln l.length) (hm : l.length = m.length)
    (h1 : ∀ i, kx .ret (m, false, l, (l.length : Int), i, s, t) = c false) (h2 : ∀ q i, kx (.exit 0) (m, q, l, (l.length : Int), i, s, t) = c true) (k : Nat) (hk : l.length < k) : iter (fun rec => astmts_2 rec kx) k (m, false, l, (l.length : Int), 0, s, t) = c (decide (l = m)) := by
  refine (iter_ind0 l.length (fun i => (m, false, l, (l.length : Int), (i : Int), s, t)) (fun i => c (decide (l.drop i = m.drop i))) (fun i hi rec hr => ?_) (fun rec => ?_) k 0 (Nat.zero_le _) (by omega)).trans (by rw [List.drop_zero, List.drop_zero])
  · have hi2 : i < m.length := by omega
    simp only [astmts_2, lt_t hi, cond_t, inb_t hi, inb_t hi2, chk, at_nat (c := .expr) hi, at_nat (c := .expr) hi2, wr_succ hi hn, hr, h1, drop_cons hi, drop_cons hi2, dec_cons, asame, xsame_dec]
    cases decide (l[i] = m[i]) <;> rfl
  · simp only [astmts_2, lt_n, cond_f, h2]
    rw [List.drop_eq_nil_of_le (Nat.le_refl _), List.drop_eq_nil_of_le (by omega)]
    rfl
theorem astmts_1_loop {R : Type} {kx : Ex → astmts_1_V → Option R} {l m : List (List Xpr)} {s t : Stm} {c : Bool → Option R} (hn : ln l.length) (hm : l.length = m.length) (hr0 : ∀ x, x ∈ l → ln x.length) (k : Nat) (hkr : ∀ x, x ∈ l → List.length x < k)
    (h1 : ∀ i, kx .ret (m, false, l, (l.length : Int), i, s, t) = c false) (h2 : ∀ q i, kx (.exit 0) (m, q, l, (l.length : Int), i, s, t) = c true) (hk : l.length < k) : iter (fun rec => astmts_1 k rec kx) k (m, false, l, (l.length : Int), 0, s, t) = c (decide (l = m)) := by
  refine (iter_ind0 l.length (fun i => (m, false, l, (l.length : Int), (i : Int), s, t)) (fun i => c (decide (l.drop i = m.drop i))) (fun i hi rec hr => ?_) (fun rec => ?_) k 0 (Nat.zero_le _) (by omega)).trans (by rw [List.drop_zero, List.drop_zero])
  · have hi2 : i < m.length := by omega
    simp only [astmts_1, lt_t hi, cond_t, inb_t hi, inb_t hi2, chk, at_nat (c := .exprs) hi, at_nat (c := .exprs) hi2, wr_succ hi hn, drop_cons hi, drop_cons hi2, dec_cons]
    by_cases hlen : l[i].length = m[i].length
    · rw [decide_eq_true (show (l[i].length : Int) = (m[i].length : Int) by omega), Bool.not_true, cond_f]
      rw [astmts_2_loop (c := fun b => cond b (c (decide (l.drop (i + 1) = m.drop (i + 1)))) (c false)) (hr0 _ (List.getElem_mem hi)) hlen (fun _ => h1 _) (fun _ _ => hr) k (hkr _ (List.getElem_mem hi))]
      cases decide (l[i] = m[i]) <;> rfl
    · rw [decide_eq_false (show ¬ (l[i].length : Int) = (m[i].length : Int) by omega), decide_eq_false (fun h => hlen (by rw [h])), h1]
      rfl
  · simp only [astmts_1, lt_n, cond_f, h2]
    rw [List.drop_eq_nil_of_le (Nat.le_refl _), List.drop_eq_nil_of_le (by omega)]
    rfl
theorem astmts_3_loop {R : Type} {kx : Ex → astmts_3_V → Option R} {l m : List SetE} {c : Bool → Option R} (hn : ln l.length) (hm : l.length = m.length)
    (h1 : ∀ i, kx .ret (m, false, l, (l.length : Int), i) = c false) (h2 : ∀ q i, kx (.exit 0) (m, q, l, (l.length : Int), i) = c true) (k : Nat) (hk : l.length < k) : iter (fun rec => astmts_3 rec kx) k (m, false, l, (l.length : Int), 0) = c (decide (l = m)) := by
  refine (iter_ind0 l.length (fun i => (m, false, l, (l.length : Int), (i : Int))) (fun i => c (decide (l.drop i = m.drop i))) (fun i hi rec hr => ?_) (fun rec => ?_) k 0 (Nat.zero_le _) (by omega)).trans (by rw [List.drop_zero, List.drop_zero])
  · have hi2 : i < m.length := by omega
    simp only [astmts_3, lt_t hi, cond_t, inb_t hi, inb_t hi2, chk, at_nat (c := .set) hi, at_nat (c := .set) hi2, wr_succ hi hn, hr, h1, drop_cons hi, drop_cons hi2, dec_cons, asame, ← setsame_dec, setsame, xeta_eq]
    cases decide (l[i].name = m[i].name) <;> cases xsame l[i].e m[i].e <;> rfl
  · simp only [astmts_3, lt_n, cond_f, h2]
    rw [List.drop_eq_nil_of_le (Nat.le_refl _), List.drop_eq_nil_of_le (by omega)]
    rfl
theorem dec_len {α : Type} [DecidableEq α] {l m : List α} (h : ¬ l.length = m.length) : decide (l = m) = false := decide_eq_false fun e => h (by rw [e])
def smax (s : Stm) : Nat := s.l.length + s.rows.length + s.sets.length + (s.rows.map List.length).sum
theorem sum_mem {l : List (List Xpr)} {x : List Xpr} (h : x ∈ l) : x.length ≤ (l.map List.length).sum := by
  induction l with
  | nil => cases h
  | cons y l ih =>
    simp only [List.map_cons, List.sum_cons]
    rcases List.mem_cons.1 h with rfl | h
    · omega
    · have := ih h; omega
theorem astmts_b (k : Nat) (a b : Stm) (hb : BdStm a) (hk : smax a < k) : astmts_body k (a, b) = some (ssame a b) := by
  have hk2 := hk
  simp only [smax] at hk2
  simp -zeta only [astmts_body, asame, xsame_dec, xeta_eq, aeqc, aeqs, aeqb]
  extract_lets j6 j9 j j1 j2
  have h6 : ∀ q, j6 q a b = some (q && decide (a.sets = b.sets)) := fun q => by
    simp -zeta only [j6]
    cases q with
    | false => rfl
    | true =>
      rw [cond_t, Bool.true_and]
      by_cases hs : a.sets.length = b.sets.length
      · rw [decide_eq_true (show (a.sets.length : Int) = (b.sets.length : Int) by omega), Bool.not_true, cond_f]
        exact astmts_3_loop (c := some) hb.sets.1 hs (fun _ => rfl) (fun _ _ => rfl) k (by omega)
      · rw [decide_eq_false (show ¬ (a.sets.length : Int) = (b.sets.length : Int) by omega), dec_len hs]
        rfl
  have h9 : ∀ p, j9 p = some (p && (decide (a.cols = b.cols) && decide (a.names = b.names) && decide (a.order = b.order) && decide (a.desc = b.desc) && decide (a.l = b.l)) && decide (a.rows = b.rows) && decide (a.sets = b.sets)) := fun p => by
    simp -zeta only [j9]
    extract_lets j8 j3 j4 j5
    have h8 : ∀ q, j8 q a b = some (p && q && decide (a.rows = b.rows) && decide (a.sets = b.sets)) := fun q => by
      simp -zeta only [j8]
      extract_lets j7
      have h7 : ∀ q, j7 q = some (q && decide (a.rows = b.rows) && decide (a.sets = b.sets)) := fun q => by
        simp -zeta only [j7]
        cases q with
        | false => exact (h6 false).trans rfl
        | true =>
          rw [cond_t, Bool.true_and]
          by_cases hs : a.rows.length = b.rows.length
          · rw [decide_eq_true (show (a.rows.length : Int) = (b.rows.length : Int) by omega), Bool.not_true, cond_f]
            refine (astmts_1_loop (c := fun q => j6 q a b) hb.rows.1 hs (fun x hx => (hb.rows.2 x hx).1) k (fun x hx => by have := sum_mem hx; omega) (fun _ => rfl) (fun _ _ => rfl) (by omega)).trans (h6 _)
          · rw [decide_eq_false (show ¬ (a.rows.length : Int) = (b.rows.length : Int) by omega), dec_len hs]
            exact (h6 false).trans rfl
      cases p with
      | false => exact (h7 false).trans rfl
      | true => exact (h7 q).trans (by rw [Bool.true_and])
    have h3 : ∀ q, j3 q = some (p && (q && decide (a.l = b.l)) && decide (a.rows = b.rows) && decide (a.sets = b.sets)) := fun q => by
      simp -zeta only [j3]
      cases q with
      | false => exact h8 false
      | true =>
        rw [cond_t, Bool.true_and]
        by_cases hs : a.l.length = b.l.length
        · rw [decide_eq_true (show (a.l.length : Int) = (b.l.length : Int) by omega), Bool.not_true, cond_f]
          exact (astmts_0_loop (c := fun q => j8 q a b) hb.l.1 hs (fun _ => rfl) (fun _ _ => rfl) k (by omega)).trans (h8 _)
        · rw [decide_eq_false (show ¬ (a.l.length : Int) = (b.l.length : Int) by omega), dec_len hs]
          exact h8 false
    have h4 : ∀ q, j4 q = some (p && (q && decide (a.desc = b.desc) && decide (a.l = b.l)) && decide (a.rows = b.rows) && decide (a.sets = b.sets)) := fun q => by
      simp -zeta only [j4]
      cases q with
      | false => exact h3 false
      | true => exact (h3 _).trans (by rw [Bool.true_and])
    have h5 : ∀ q, j5 q = some (p && (q && decide (a.order = b.order) && decide (a.desc = b.desc) && decide (a.l = b.l)) && decide (a.rows = b.rows) && decide (a.sets = b.sets)) := fun q => by
      simp -zeta only [j5]
      cases q with
      | false => exact h4 false
      | true => exact (h4 _).trans (by rw [Bool.true_and])
    cases decide (a.cols = b.cols) with
    | false => exact h5 false
    | true => exact (h5 _).trans (by simp only [Bool.true_and])
  simp -zeta only [j2, j1, j, ssame]
  cases decide (a.kind = b.kind) with
  | false => exact (h9 false).trans rfl
  | true =>
    cases decide (a.name = b.name) with
    | false => exact (h9 false).trans rfl
    | true =>
      cases decide (a.on = b.on) with
      | false => exact (h9 false).trans rfl
      | true =>
        cases decide (a.has = b.has) with
        | false => exact (h9 false).trans rfl
        | true =>
          cases decide (a.most = b.most) with
          | false => exact (h9 false).trans rfl
          | true => exact (h9 _).trans (by simp only [Bool.true_and])
theorem astmts_ok : FnOk Tryz.prog elT glT 27 [.sv .stmt, .sv .stmt] [.bool] astmts_F := .fin 0 astmts_run fun (a, b) r hb hx => ⟨smax a + 1, (astmts_b (smax a + 1) a b hb.1 (by omega)).trans hx⟩
end Go.Proofs.YthndhaolemgbdaaGreatDoor

/- May a statement be? -/
namespace Go.Proofs.YthndhaolemgbdaaGreatDoor
open Go.Ax
instance : DecidableEq Stm := fun a b => decidable_of_iff (ssame a b = true) (ssame_iff a b)
theorem ssame_dec (a b : Stm) : ssame a b = decide (a = b) := by
  rw [Bool.eq_iff_iff, ssame_iff, decide_eq_true_eq]
/-! ## exchequer/ast.some -/
def asome_px (R : Type) : Px R := ⟨ttOf ttL, glT, callT [], callQT [], loopT []⟩
def asome_body (x : HV [.int .i64]) : Option (HV [.bool]) := match x with
 | n =>
  cond (decide (1 ≤ n)) (
   some (decide (n ≤ 100))) (
   some false)
theorem asome_eq : ∀ (x : HV [.int .i64]), runF (asome_px _) Tryz.f66 [.int .i64] [.bool] x some = asome_body x
  | n => by kernel_rfl
theorem asome_run : FnOk Tryz.prog elT glT 66 [.int .i64] [.bool] (asome_body) := by
  refine fnOk_run Tryz.func66 rfl (by kernel_rfl) follows (by kernel_rfl) (n := 0) (by kernel_rfl) (px := asome_px _) (fun cx hP hel hgl => ?_) (asome_eq)
  have hp0 : PxOk cx (asome_px (HV [.bool])) := ⟨fun t => by rw [hP, hel]; exact tt_ok ttL_ok t, by rw [hgl]; rfl⟩
  have hc0 : CallOk cx (asome_px (HV [.bool])) := callT_ok rfl cfs_nil
  have hq0 : CallQOk cx (asome_px (HV [.bool])) := callQT_ok rfl cqfs_nil
  exact ⟨hp0, hc0, hq0, all0⟩
def asome (n : Int) : Bool :=
  cond (decide (1 ≤ n)) (
   (decide (n ≤ 100))) (
   false)
theorem asome_tot (x : HV [.int .i64]) : asome_body x = some (asome x) := by
  first
    | exact rfl
    | simp only [asome_body, asome, cond_some]
def asome_F : FT [.int .i64] [.bool] := fun x => some (asome x)
theorem asome_ok : FnOk Tryz.prog elT glT 66 [.int .i64] [.bool] asome_F := .fin0 asome_run fun x _ _ hx => (asome_tot x).trans hx
theorem asome_is (n : Nat) : asome (n : Int) = (decide (1 ≤ n) && decide (n ≤ 100)) := by
  simp only [asome]
  rw [show decide ((1 : Int) ≤ (n : Int)) = decide (1 ≤ n) from decide_eq_decide.2 (by omega), show decide ((n : Int) ≤ 100) = decide (n ≤ 100) from decide_eq_decide.2 (by omega)]
  cases decide (1 ≤ n) <;> rfl
/-! ## names, none twice -/
/-! ## exchequer/ast.once -/
def aonce_0_sg : Sig := ⟨26, [(0, .sl .str false), (2, .bool), (5, .sl .str false), (6, .int .i64), (7, .int .i64)], [], [], 0, 0, 0, [], []⟩
abbrev aonce_0_V := List Str × Bool × List Str × Int × Int
def aonce_0 {R : Type} (rec : aonce_0_V → Option R) (kx : Ex → aonce_0_V → Option R) (v : aonce_0_V) : Option R := match v with
 | (v, v1, v2, v3, v4) =>
  cond (decide (v4 < v3)) (
   chk (inb v4 v2.length) (
    cond (!(lname (at' .str v2 v4))) (
     kx .ret (v, false, v2, v3, v4)) (
     chk (upto 0 v4 v.length) (
      cond ((shas (v.take (v4 : Int).toNat) (at' .str v2 v4))) (
       kx .ret (v, false, v2, v3, v4)) (
       rec (v, v1, v2, v3, (wr .i64 (v4 + 1)))))))) (
   kx (.exit 0) (v, v1, v2, v3, v4))
def aonce_px (R : Type) (k : Nat) : Px R := ⟨ttOf ttL, glT, callT [(63, callOr [.str] [.bool] lname_F), (44, callOr [.sl .str false, .str] [.bool] shas_F)], callQT [], loopT [(2, loopOr k aonce_0_sg (aonce_0))]⟩
theorem aonce_0_eq (R : Type) (k : Nat) : ∀ (fr : List Fr) (rec : aonce_0_V → Option R) (kx : Ex → aonce_0_V → Option R) (v : aonce_0_V), round (aonce_px R k) aonce_0_sg (lp Tryz.f67 0) fr rec kx v = aonce_0 rec kx v
  | fr, rec, kx, (v, v1, v2, v3, v4) => by kernel_rfl
def aonce_body (k : Nat) (x : HV [.sl .str false]) : Option (HV [.bool]) := match x with
 | l =>
  iter (fun rec => aonce_0 rec (fun e vz => match vz with | (v5, v6, _, _, _) => match e with
   | .ret =>
    some v6
   | .exit 0 =>
    some (decide ((v5.length : Int) ≤ 100))
   | _ => none)) k (l, false, l, (l.length : Int), 0)
theorem aonce_eq (k : Nat) : ∀ (x : HV [.sl .str false]), runF (aonce_px _ k) Tryz.f67 [.sl .str false] [.bool] x some = aonce_body k x
  | l => by kernel_rfl
theorem aonce_run (k : Nat) : FnOk Tryz.prog elT glT 67 [.sl .str false] [.bool] (aonce_body k) := by
  refine fnOk_run Tryz.func67 rfl (by kernel_rfl) follows (by kernel_rfl) (n := 1) (by kernel_rfl) (px := aonce_px _ k) (fun cx hP hel hgl => ?_) (aonce_eq k)
  have hp0 : PxOk cx (aonce_px (HV [.bool]) k) := ⟨fun t => by rw [hP, hel]; exact tt_ok ttL_ok t, by rw [hgl]; rfl⟩
  have hc0 : CallOk cx (aonce_px (HV [.bool]) k) := callT_ok rfl (cfs_cons (cf_or (by rw [hP, hel, hgl]; exact lname_ok) (by kernel_rfl)) (cfs_cons (cf_or (by rw [hP, hel, hgl]; exact shas_ok) (by kernel_rfl)) cfs_nil))
  have hq0 : CallQOk cx (aonce_px (HV [.bool]) k) := callQT_ok rfl cqfs_nil
  have hlaonce_0 : LoopOk cx (aonce_px (HV [.bool]) k) (lp Tryz.f67 0) := loop_ok hp0 hc0 hq0 (by rw [hP]; exact follows) (k := k) (s := aonce_0_sg) (step := aonce_0) (fun _ _ => by kernel_rfl) (by kernel_rfl) (aonce_0_eq _ k) (loops_in (n := 0) (by kernel_rfl) all0)
  exact ⟨hp0, hc0, hq0, (allS all0 hlaonce_0)⟩
def onceF : List Str → List Str → Bool
  | _, [] => true
  | seen, s :: r => lname s && !seen.contains s && onceF (seen ++ [s]) r
def aonce (l : List Str) : Bool := onceF [] l && decide (l.length ≤ 100)
def aonce_F : FT [.sl .str false] [.bool] := fun x => some (aonce x)
theorem take_succ' {l : List Str} {i : Nat} (hi : i < l.length) : l.take (i + 1) = l.take i ++ [l[i]] := by
  rw [List.take_add_one, List.getElem?_eq_getElem hi]
  rfl
theorem aonce_loop {R : Type} {kx : Ex → aonce_0_V → Option R} {l : List Str} {c : Bool → Option R} (hn : ln l.length) (h1 : ∀ i, kx .ret (l, false, l, (l.length : Int), i) = c false) (h2 : ∀ q i, kx (.exit 0) (l, q, l, (l.length : Int), i) = c true) (k : Nat) (hk : l.length < k) :
    iter (fun rec => aonce_0 rec kx) k (l, false, l, (l.length : Int), 0) = c (onceF [] l) := by
  refine (iter_ind0 l.length (fun i => (l, false, l, (l.length : Int), (i : Int))) (fun i => c (onceF (l.take i) (l.drop i))) (fun i hi rec hr => ?_) (fun rec => ?_) k 0 (Nat.zero_le _) (by omega)).trans (by rw [List.drop_zero, List.take_zero])
  · have hu : upto 0 (i : Int) l.length = true := by simp [upto]; omega
    simp only [aonce_0, lt_t hi, cond_t, inb_t hi, chk, at_nat (c := .str) hi, wr_succ hi hn, hr, h1, drop_cons hi, onceF, hu, Int.toNat_natCast, shas_is, take_succ' hi]
    cases lname l[i] <;> cases (l.take i).contains l[i] <;> rfl
  · simp only [aonce_0, lt_n, cond_f, h2]
    rw [List.drop_eq_nil_of_le (Nat.le_refl _)]
    rfl
theorem aonce_ok : FnOk Tryz.prog elT glT 67 [.sl .str false] [.bool] aonce_F := .fin 0 aonce_run fun l r hb hx => ⟨l.length + 1, by
  simp only [aonce_F, Option.some.injEq] at hx
  rw [← hx]
  simp only [aonce_body]
  refine (aonce_loop (l := l) (c := fun b => cond b (some (decide ((l.length : Int) ≤ 100))) (some false)) hb.1 (fun _ => rfl) (fun _ _ => rfl) (l.length + 1) (by omega)).trans ?_
  rw [show decide ((l.length : Int) ≤ 100) = decide (l.length ≤ 100) from decide_eq_decide.2 (by omega), aonce]
  cases onceF [] l <;> rfl⟩
theorem onceF_iff : ∀ (l seen : List Str), onceF seen l = true ↔ (∀ s, s ∈ l → lname s = true) ∧ l.Nodup ∧ ∀ s, s ∈ l → s ∉ seen
  | [], seen => by simp [onceF]
  | x :: l, seen => by
    simp only [onceF, Bool.and_eq_true, Bool.not_eq_true', onceF_iff l (seen ++ [x]), List.mem_cons, List.nodup_cons, List.mem_append, List.not_mem_nil, or_false, not_or]
    rw [← Bool.not_eq_true, List.contains_iff_mem]
    constructor
    · rintro ⟨⟨h1, h2⟩, h3, h4, h5⟩
      exact ⟨fun s hs => hs.elim (fun e => by rw [e]; exact h1) (h3 s), ⟨fun hx => (h5 x hx).2 rfl, h4⟩, fun s hs => hs.elim (fun e => by rw [e]; exact h2) (fun h => (h5 s h).1)⟩
    · rintro ⟨h1, ⟨h2, h3⟩, h4⟩
      exact ⟨⟨h1 x (.inl rfl), h4 x (.inl rfl)⟩, fun s hs => h1 s (.inr hs), h3, fun s hs => ⟨h4 s (.inr hs), fun e => h2 (by rw [← e]; exact hs)⟩⟩
/-! ## expressions, rows -/
/-! ## exchequer/ast.exprs -/
def aexprs_0_sg : Sig := ⟨19, [(0, .sl .expr false), (4, .int .i64), (7, .int .i64), (8, .int .i64)], [(1, .fn 112 [])], [], 80, 80, 400, [], []⟩
abbrev aexprs_0_V := List Xpr × Int × Int × Int
def aexprs_0 {R : Type} (rec : aexprs_0_V → Option R) (kx : Ex → aexprs_0_V → Option R) (v : aexprs_0_V) : Option R := match v with
 | (v, v1, v2, v3) =>
  cond (decide (v3 < v2)) (
   chk (inb v3 v.length) (
    cond (!(eright (at' .expr v v3) 30)) (
     kx .ret (v, v3, v2, v3)) (
     rec (v, v1, v2, (wr .i64 (v3 + 1)))))) (
   kx (.exit 0) (v, v1, v2, v3))
def aexprs_pxi0i0i0 (R : Type) (_k : Nat) : Px R := ⟨ttOf ttL, glT, callT [(39, callOr [.sv .expr, .int .i64] [.bool] eright_F)], callQT [], loopT []⟩
noncomputable def aexprs_pxi0i0 (R : Type) (k : Nat) : Px R := ⟨ttOf ttL, glT, callT [(112, callRun 120 600 (aexprs_pxi0i0i0 R k) Tryz.f112)], callQT [], loopT [(2, loopOr k aexprs_0_sg (aexprs_0))]⟩
noncomputable def aexprs_pxi0 (R : Type) (k : Nat) : Px R := ⟨ttOf ttL, glT, callT [(148, callRun 80 400 (aexprs_pxi0i0 R k) Tryz.f148)], callQT [], loopT []⟩
noncomputable def aexprs_px (R : Type) (k : Nat) : Px R := ⟨ttOf ttL, glT, callT [(96, callRun 40 200 (aexprs_pxi0 R k) Tryz.f96)], callQT [], loopT []⟩
theorem aexprs_0_eq (R : Type) (k : Nat) : ∀ (fr : List Fr) (rec : aexprs_0_V → Option R) (kx : Ex → aexprs_0_V → Option R) (v : aexprs_0_V), round (aexprs_pxi0i0 R k) aexprs_0_sg (lp Tryz.f148 0) fr rec kx v = aexprs_0 rec kx v
  | fr, rec, kx, (v, v1, v2, v3) => by kernel_rfl
def aexprs_body (k : Nat) (x : HV [.sl .expr false]) : Option (HV [.bool]) := match x with
 | l =>
  cond (decide ((l.length : Int) ≤ 100)) (
   iter (fun rec => aexprs_0 rec (fun e vz => match vz with | (_, v5, _, _) => match e with
    | .ret =>
     some (!(decide (0 ≤ v5)))
    | .exit 0 =>
     some true
    | _ => none)) k (l, 0, (l.length : Int), 0)) (
   some false)
theorem aexprs_eq (k : Nat) : ∀ (x : HV [.sl .expr false]), runF (aexprs_px _ k) Tryz.f68 [.sl .expr false] [.bool] x some = aexprs_body k x
  | l => by kernel_rfl
theorem aexprs_run (k : Nat) : FnOk Tryz.prog elT glT 68 [.sl .expr false] [.bool] (aexprs_body k) := by
  refine fnOk_run Tryz.func68 rfl (by kernel_rfl) follows (by kernel_rfl) (n := 0) (by kernel_rfl) (px := aexprs_px _ k) (fun cx hP hel hgl => ?_) (aexprs_eq k)
  have hp3 : PxOk cx (aexprs_pxi0i0i0 (HV [.bool]) k) := ⟨fun t => by rw [hP, hel]; exact tt_ok ttL_ok t, by rw [hgl]; rfl⟩
  have hc3 : CallOk cx (aexprs_pxi0i0i0 (HV [.bool]) k) := callT_ok rfl (cfs_cons (cf_or (by rw [hP, hel, hgl]; exact eright_ok) (by kernel_rfl)) cfs_nil)
  have hq3 : CallQOk cx (aexprs_pxi0i0i0 (HV [.bool]) k) := callQT_ok rfl cqfs_nil
  have hp2 : PxOk cx (aexprs_pxi0i0 (HV [.bool]) k) := ⟨fun t => by rw [hP, hel]; exact tt_ok ttL_ok t, by rw [hgl]; rfl⟩
  have hc2 : CallOk cx (aexprs_pxi0i0 (HV [.bool]) k) := callT_ok rfl (cfs_cons (cf_run hp3 hc3 hq3 (by rw [hP]; exact follows) (by rw [hP]; exact Tryz.func112) rfl (by kernel_rfl) (by kernel_rfl) (n := 0) (by kernel_rfl) (all0)) cfs_nil)
  have hq2 : CallQOk cx (aexprs_pxi0i0 (HV [.bool]) k) := callQT_ok rfl cqfs_nil
  have hlaexprs_0 : LoopOk cx (aexprs_pxi0i0 (HV [.bool]) k) (lp Tryz.f148 0) := loop_ok hp2 hc2 hq2 (by rw [hP]; exact follows) (k := k) (s := aexprs_0_sg) (step := aexprs_0) (fun _ _ => by kernel_rfl) (by kernel_rfl) (aexprs_0_eq _ k) (loops_in (n := 0) (by kernel_rfl) all0)
  have hp1 : PxOk cx (aexprs_pxi0 (HV [.bool]) k) := ⟨fun t => by rw [hP, hel]; exact tt_ok ttL_ok t, by rw [hgl]; rfl⟩
  have hc1 : CallOk cx (aexprs_pxi0 (HV [.bool]) k) := callT_ok rfl (cfs_cons (cf_run hp2 hc2 hq2 (by rw [hP]; exact follows) (by rw [hP]; exact Tryz.func148) rfl (by kernel_rfl) (by kernel_rfl) (n := 1) (by kernel_rfl) ((allS all0 hlaexprs_0))) cfs_nil)
  have hq1 : CallQOk cx (aexprs_pxi0 (HV [.bool]) k) := callQT_ok rfl cqfs_nil
  have hp0 : PxOk cx (aexprs_px (HV [.bool]) k) := ⟨fun t => by rw [hP, hel]; exact tt_ok ttL_ok t, by rw [hgl]; rfl⟩
  have hc0 : CallOk cx (aexprs_px (HV [.bool]) k) := callT_ok rfl (cfs_cons (cf_run hp1 hc1 hq1 (by rw [hP]; exact follows) (by rw [hP]; exact Tryz.func96) rfl (by kernel_rfl) (by kernel_rfl) (n := 0) (by kernel_rfl) (all0)) cfs_nil)
  have hq0 : CallQOk cx (aexprs_px (HV [.bool]) k) := callQT_ok rfl cqfs_nil
  exact ⟨hp0, hc0, hq0, all0⟩
def aexprs (l : List Xpr) : Bool := decide (l.length ≤ 100) && l.all fun e => eright e 30
def aexprs_F : FT [.sl .expr false] [.bool] := fun x => some (aexprs x)
theorem aexprs_loop {R : Type} {kx : Ex → aexprs_0_V → Option R} {l : List Xpr} {c : Bool → Option R} (hn : ln l.length) (h1 : ∀ i : Nat, kx .ret (l, (i : Int), (l.length : Int), (i : Int)) = c false) (h2 : ∀ q i, kx (.exit 0) (l, q, (l.length : Int), i) = c true) (k : Nat) (hk : l.length < k) :
    iter (fun rec => aexprs_0 rec kx) k (l, 0, (l.length : Int), 0) = c (l.all fun e => eright e 30) := by
  refine (iter_ind0 l.length (fun i => (l, (0 : Int), (l.length : Int), (i : Int))) (fun i => c ((l.drop i).all fun e => eright e 30)) (fun i hi rec hr => ?_) (fun rec => ?_) k 0 (Nat.zero_le _) (by omega)).trans (by rw [List.drop_zero])
  · simp only [aexprs_0, lt_t hi, cond_t, inb_t hi, chk, at_nat (c := .expr) hi, wr_succ hi hn, hr, h1, drop_cons hi, List.all_cons]
    cases eright l[i] 30 <;> rfl
  · simp only [aexprs_0, lt_n, cond_f, h2]
    rw [List.drop_eq_nil_of_le (Nat.le_refl _)]
    rfl
theorem aexprs_ok : FnOk Tryz.prog elT glT 68 [.sl .expr false] [.bool] aexprs_F := .fin 0 aexprs_run fun l r hb hx => ⟨l.length + 1, by
  simp only [aexprs_F, Option.some.injEq] at hx
  rw [← hx]
  simp only [aexprs_body, aexprs]
  rw [show decide ((l.length : Int) ≤ 100) = decide (l.length ≤ 100) from decide_eq_decide.2 (by omega)]
  cases decide (l.length ≤ 100) with
  | false => rfl
  | true =>
    rw [cond_t, Bool.true_and]
    exact aexprs_loop (l := l) (c := some) hb.1 (fun i => by simp) (fun _ _ => rfl) (l.length + 1) (by omega)⟩
/-! ## exchequer/ast.rows -/
def arows_0_sg : Sig := ⟨19, [(0, .sl .exprs false), (4, .int .i64), (7, .int .i64), (8, .int .i64)], [(1, .fn 114 [])], [], 80, 80, 400, [], []⟩
abbrev arows_0_V := List (List Xpr) × Int × Int × Int
def arows_0 {R : Type} (rec : arows_0_V → Option R) (kx : Ex → arows_0_V → Option R) (v : arows_0_V) : Option R := match v with
 | (v, v1, v2, v3) =>
  cond (decide (v3 < v2)) (
   chk (inb v3 v.length) (
    cond (decide (((at' .exprs v v3).length : Int) = 0)) (
     kx .ret (v, v3, v2, v3)) (
     cond (!(aexprs (at' .exprs v v3))) (
      kx .ret (v, v3, v2, v3)) (
      rec (v, v1, v2, (wr .i64 (v3 + 1))))))) (
   kx (.exit 0) (v, v1, v2, v3))
def arows_pxi0i0i0 (R : Type) (_k : Nat) : Px R := ⟨ttOf ttL, glT, callT [(68, callOr [.sl .expr false] [.bool] aexprs_F)], callQT [], loopT []⟩
noncomputable def arows_pxi0i0 (R : Type) (k : Nat) : Px R := ⟨ttOf ttL, glT, callT [(114, callRun 120 600 (arows_pxi0i0i0 R k) Tryz.f114)], callQT [], loopT [(2, loopOr k arows_0_sg (arows_0))]⟩
noncomputable def arows_pxi0 (R : Type) (k : Nat) : Px R := ⟨ttOf ttL, glT, callT [(155, callRun 80 400 (arows_pxi0i0 R k) Tryz.f155)], callQT [], loopT []⟩
noncomputable def arows_px (R : Type) (k : Nat) : Px R := ⟨ttOf ttL, glT, callT [(66, callOr [.int .i64] [.bool] asome_F), (113, callRun 40 200 (arows_pxi0 R k) Tryz.f113)], callQT [], loopT []⟩
theorem arows_0_eq (R : Type) (k : Nat) : ∀ (fr : List Fr) (rec : arows_0_V → Option R) (kx : Ex → arows_0_V → Option R) (v : arows_0_V), round (arows_pxi0i0 R k) arows_0_sg (lp Tryz.f155 0) fr rec kx v = arows_0 rec kx v
  | fr, rec, kx, (v, v1, v2, v3) => by kernel_rfl
def arows_body (k : Nat) (x : HV [.sl .exprs false]) : Option (HV [.bool]) := match x with
 | l =>
  cond ((asome (l.length : Int))) (
   iter (fun rec => arows_0 rec (fun e vz => match vz with | (_, v5, _, _) => match e with
    | .ret =>
     some (!(decide (0 ≤ v5)))
    | .exit 0 =>
     some true
    | _ => none)) k (l, 0, (l.length : Int), 0)) (
   some false)
theorem arows_eq (k : Nat) : ∀ (x : HV [.sl .exprs false]), runF (arows_px _ k) Tryz.f69 [.sl .exprs false] [.bool] x some = arows_body k x
  | l => by kernel_rfl
theorem arows_run (k : Nat) : FnOk Tryz.prog elT glT 69 [.sl .exprs false] [.bool] (arows_body k) := by
  refine fnOk_run Tryz.func69 rfl (by kernel_rfl) follows (by kernel_rfl) (n := 0) (by kernel_rfl) (px := arows_px _ k) (fun cx hP hel hgl => ?_) (arows_eq k)
  have hp3 : PxOk cx (arows_pxi0i0i0 (HV [.bool]) k) := ⟨fun t => by rw [hP, hel]; exact tt_ok ttL_ok t, by rw [hgl]; rfl⟩
  have hc3 : CallOk cx (arows_pxi0i0i0 (HV [.bool]) k) := callT_ok rfl (cfs_cons (cf_or (by rw [hP, hel, hgl]; exact aexprs_ok) (by kernel_rfl)) cfs_nil)
  have hq3 : CallQOk cx (arows_pxi0i0i0 (HV [.bool]) k) := callQT_ok rfl cqfs_nil
  have hp2 : PxOk cx (arows_pxi0i0 (HV [.bool]) k) := ⟨fun t => by rw [hP, hel]; exact tt_ok ttL_ok t, by rw [hgl]; rfl⟩
  have hc2 : CallOk cx (arows_pxi0i0 (HV [.bool]) k) := callT_ok rfl (cfs_cons (cf_run hp3 hc3 hq3 (by rw [hP]; exact follows) (by rw [hP]; exact Tryz.func114) rfl (by kernel_rfl) (by kernel_rfl) (n := 0) (by kernel_rfl) (all0)) cfs_nil)
  have hq2 : CallQOk cx (arows_pxi0i0 (HV [.bool]) k) := callQT_ok rfl cqfs_nil
  have hlarows_0 : LoopOk cx (arows_pxi0i0 (HV [.bool]) k) (lp Tryz.f155 0) := loop_ok hp2 hc2 hq2 (by rw [hP]; exact follows) (k := k) (s := arows_0_sg) (step := arows_0) (fun _ _ => by kernel_rfl) (by kernel_rfl) (arows_0_eq _ k) (loops_in (n := 0) (by kernel_rfl) all0)
  have hp1 : PxOk cx (arows_pxi0 (HV [.bool]) k) := ⟨fun t => by rw [hP, hel]; exact tt_ok ttL_ok t, by rw [hgl]; rfl⟩
  have hc1 : CallOk cx (arows_pxi0 (HV [.bool]) k) := callT_ok rfl (cfs_cons (cf_run hp2 hc2 hq2 (by rw [hP]; exact follows) (by rw [hP]; exact Tryz.func155) rfl (by kernel_rfl) (by kernel_rfl) (n := 1) (by kernel_rfl) ((allS all0 hlarows_0))) cfs_nil)
  have hq1 : CallQOk cx (arows_pxi0 (HV [.bool]) k) := callQT_ok rfl cqfs_nil
  have hp0 : PxOk cx (arows_px (HV [.bool]) k) := ⟨fun t => by rw [hP, hel]; exact tt_ok ttL_ok t, by rw [hgl]; rfl⟩
  have hc0 : CallOk cx (arows_px (HV [.bool]) k) := callT_ok rfl (cfs_cons (cf_or (by rw [hP, hel, hgl]; exact asome_ok) (by kernel_rfl)) (cfs_cons (cf_run hp1 hc1 hq1 (by rw [hP]; exact follows) (by rw [hP]; exact Tryz.func113) rfl (by kernel_rfl) (by kernel_rfl) (n := 0) (by kernel_rfl) (all0)) cfs_nil))
  have hq0 : CallQOk cx (arows_px (HV [.bool]) k) := callQT_ok rfl cqfs_nil
  exact ⟨hp0, hc0, hq0, all0⟩
def rowOk (r : List Xpr) : Bool := !decide (r.length = 0) && aexprs r
def arows (l : List (List Xpr)) : Bool := asome (l.length : Int) && l.all rowOk
def arows_F : FT [.sl .exprs false] [.bool] := fun x => some (arows x)
theorem arows_loop {R : Type} {kx : Ex → arows_0_V → Option R} {l : List (List Xpr)} {c : Bool → Option R} (hn : ln l.length) (h1 : ∀ i : Nat, kx .ret (l, (i : Int), (l.length : Int), (i : Int)) = c false) (h2 : ∀ q i, kx (.exit 0) (l, q, (l.length : Int), i) = c true) (k : Nat) (hk : l.length < k) :
    iter (fun rec => arows_0 rec kx) k (l, 0, (l.length : Int), 0) = c (l.all rowOk) := by
  refine (iter_ind0 l.length (fun i => (l, (0 : Int), (l.length : Int), (i : Int))) (fun i => c ((l.drop i).all rowOk)) (fun i hi rec hr => ?_) (fun rec => ?_) k 0 (Nat.zero_le _) (by omega)).trans (by rw [List.drop_zero])
  · simp only [arows_0, lt_t hi, cond_t, inb_t hi, chk, at_nat (c := .exprs) hi, wr_succ hi hn, hr, h1, drop_cons hi, List.all_cons, rowOk]
    rw [show decide ((l[i].length : Int) = 0) = decide (l[i].length = 0) from decide_eq_decide.2 (by omega)]
    cases decide (l[i].length = 0) <;> cases aexprs l[i] <;> rfl
  · simp only [arows_0, lt_n, cond_f, h2]
    rw [List.drop_eq_nil_of_le (Nat.le_refl _)]
    rfl
theorem arows_ok : FnOk Tryz.prog elT glT 69 [.sl .exprs false] [.bool] arows_F := .fin 0 arows_run fun l r hb hx => ⟨l.length + 1, by
  simp only [arows_F, Option.some.injEq] at hx
  rw [← hx]
  simp only [arows_body, arows]
  cases asome (l.length : Int) with
  | false => rfl
  | true =>
    rw [cond_t, Bool.true_and]
    exact arows_loop (l := l) (c := some) hb.1 (fun i => by simp) (fun _ _ => rfl) (l.length + 1) (by omega)⟩
/-! ## exchequer/ast.none -/
def anone_px (R : Type) : Px R := ⟨ttOf ttL, glT, callT [(20, callOr [.sv .expr, .sv .expr] [.bool] asame_F)], callQT [], loopT []⟩
def anone_body (x : HV [.sv .expr]) : Option (HV [.bool]) := match x with
 | e =>
  some (asame e (Xpr.mk 0 ⟨0, 0, []⟩ [] []))
theorem anone_eq : ∀ (x : HV [.sv .expr]), runF (anone_px _) Tryz.f115 [.sv .expr] [.bool] x some = anone_body x
  | e => by kernel_rfl
theorem anone_run : FnOk Tryz.prog elT glT 115 [.sv .expr] [.bool] (anone_body) := by
  refine fnOk_run Tryz.func115 rfl (by kernel_rfl) follows (by kernel_rfl) (n := 0) (by kernel_rfl) (px := anone_px _) (fun cx hP hel hgl => ?_) (anone_eq)
  have hp0 : PxOk cx (anone_px (HV [.bool])) := ⟨fun t => by rw [hP, hel]; exact tt_ok ttL_ok t, by rw [hgl]; rfl⟩
  have hc0 : CallOk cx (anone_px (HV [.bool])) := callT_ok rfl (cfs_cons (cf_or (by rw [hP, hel, hgl]; exact asame_ok) (by kernel_rfl)) cfs_nil)
  have hq0 : CallQOk cx (anone_px (HV [.bool])) := callQT_ok rfl cqfs_nil
  exact ⟨hp0, hc0, hq0, all0⟩
def anone (e : Xpr) : Bool :=
  (asame e (Xpr.mk 0 ⟨0, 0, []⟩ [] []))
theorem anone_tot (x : HV [.sv .expr]) : anone_body x = some (anone x) := by
  first
    | exact rfl
    | simp only [anone_body, anone, cond_some]
def anone_F : FT [.sv .expr] [.bool] := fun x => some (anone x)
theorem anone_ok : FnOk Tryz.prog elT glT 115 [.sv .expr] [.bool] anone_F := .fin0 anone_run fun x _ _ hx => (anone_tot x).trans hx
theorem anone_is (e : Xpr) : anone e = decide (e = .mk 0 ⟨0, 0, []⟩ [] []) := xsame_dec e _
/-! ## exchequer/ast.where -/
def awhere_px (R : Type) : Px R := ⟨ttOf ttL, glT, callT [(115, callOr [.sv .expr] [.bool] anone_F), (39, callOr [.sv .expr, .int .i64] [.bool] eright_F)], callQT [], loopT []⟩
def awhere_body (x : HV [.sv .stmt]) : Option (HV [.bool]) := match x with
 | s =>
  cond (!s.has) (
   some (anone (xeta s.whr))) (
   some (eright (xeta s.whr) 30))
theorem awhere_eq : ∀ (x : HV [.sv .stmt]), runF (awhere_px _) Tryz.f71 [.sv .stmt] [.bool] x some = awhere_body x
  | s => by kernel_rfl
theorem awhere_run : FnOk Tryz.prog elT glT 71 [.sv .stmt] [.bool] (awhere_body) := by
  refine fnOk_run Tryz.func71 rfl (by kernel_rfl) follows (by kernel_rfl) (n := 0) (by kernel_rfl) (px := awhere_px _) (fun cx hP hel hgl => ?_) (awhere_eq)
  have hp0 : PxOk cx (awhere_px (HV [.bool])) := ⟨fun t => by rw [hP, hel]; exact tt_ok ttL_ok t, by rw [hgl]; rfl⟩
  have hc0 : CallOk cx (awhere_px (HV [.bool])) := callT_ok rfl (cfs_cons (cf_or (by rw [hP, hel, hgl]; exact anone_ok) (by kernel_rfl)) (cfs_cons (cf_or (by rw [hP, hel, hgl]; exact eright_ok) (by kernel_rfl)) cfs_nil))
  have hq0 : CallQOk cx (awhere_px (HV [.bool])) := callQT_ok rfl cqfs_nil
  exact ⟨hp0, hc0, hq0, all0⟩
def awhere (s : Stm) : Bool :=
  cond (!s.has) (
   (anone (xeta s.whr))) (
   (eright (xeta s.whr) 30))
theorem awhere_tot (x : HV [.sv .stmt]) : awhere_body x = some (awhere x) := by
  first
    | exact rfl
    | simp only [awhere_body, awhere, cond_some]
def awhere_F : FT [.sv .stmt] [.bool] := fun x => some (awhere x)
theorem awhere_ok : FnOk Tryz.prog elT glT 71 [.sv .stmt] [.bool] awhere_F := .fin0 awhere_run fun x _ _ hx => (awhere_tot x).trans hx
theorem awhere_is (s : Stm) : awhere s = cond s.has (eright s.whr 30) (decide (s.whr = .mk 0 ⟨0, 0, []⟩ [] [])) := by
  simp only [awhere, xeta_eq, anone_is]
  cases s.has <;> rfl
/-! ## columns, what is set -/
/-! ## exchequer/ast.cols -/
def acols_0_sg : Sig := ⟨44, [(0, .sl .col false), (2, .bool), (3, .sl .str true), (6, .sl .col false), (7, .int .i64), (8, .int .i64)], [], [], 0, 0, 0, [], []⟩
abbrev acols_0_V := List Col × Bool × List Str × List Col × Int × Int
def acols_0 {R : Type} (rec : acols_0_V → Option R) (kx : Ex → acols_0_V → Option R) (v : acols_0_V) : Option R := match v with
 | (v, v1, v2, v3, v4, v5) =>
  cond (decide (v5 < v4)) (
   chk (inb v5 v3.length) (
    let j := fun (p : Bool) =>
     cond (p) (
      kx .ret (v, false, v2, v3, v4, v5)) (
      cond (!decide (((at' .col v3 v5).ref) = [])) (
       cond (!(lname ((at' .col v3 v5).ref))) (
        kx .ret (v, false, v2, v3, v4, v5)) (
        chk (decide (v2.length + 1 ≤ maxApp)) (
         rec (v, v1, (v2 ++ [((at' .col v3 v5).name)]), v3, v4, (wr .i64 (v5 + 1)))))) (
       chk (decide (v2.length + 1 ≤ maxApp)) (
        rec (v, v1, (v2 ++ [((at' .col v3 v5).name)]), v3, v4, (wr .i64 (v5 + 1))))))
    cond (decide ((at' .col v3 v5).kind < 2)) (
     j true) (
     j (decide (5 < (at' .col v3 v5).kind))))) (
   kx (.exit 0) (v, v1, v2, v3, v4, v5))
def acols_px (R : Type) (k : Nat) : Px R := ⟨ttOf ttL, glT, callT [(63, callOr [.str] [.bool] lname_F), (66, callOr [.int .i64] [.bool] asome_F), (67, callOr [.sl .str false] [.bool] aonce_F)], callQT [], loopT [(3, loopOr k acols_0_sg (acols_0))]⟩
theorem acols_0_eq (R : Type) (k : Nat) : ∀ (fr : List Fr) (rec : acols_0_V → Option R) (kx : Ex → acols_0_V → Option R) (v : acols_0_V), round (acols_px R k) acols_0_sg (lp Tryz.f65 0) fr rec kx v = acols_0 rec kx v
  | fr, rec, kx, (v, v1, v2, v3, v4, v5) => by kernel_rfl
def acols_body (k : Nat) (x : HV [.sl .col false]) : Option (HV [.bool]) := match x with
 | l =>
  iter (fun rec => acols_0 rec (fun e vz => match vz with | (v6, v7, v8, _, _, _) => match e with
   | .ret =>
    some v7
   | .exit 0 =>
    cond ((asome (v6.length : Int))) (
     some (aonce v8)) (
     some false)
   | _ => none)) k (l, false, [], l, (l.length : Int), 0)
theorem acols_eq (k : Nat) : ∀ (x : HV [.sl .col false]), runF (acols_px _ k) Tryz.f65 [.sl .col false] [.bool] x some = acols_body k x
  | l => by kernel_rfl
theorem acols_run (k : Nat) : FnOk Tryz.prog elT glT 65 [.sl .col false] [.bool] (acols_body k) := by
  refine fnOk_run Tryz.func65 rfl (by kernel_rfl) follows (by kernel_rfl) (n := 1) (by kernel_rfl) (px := acols_px _ k) (fun cx hP hel hgl => ?_) (acols_eq k)
  have hp0 : PxOk cx (acols_px (HV [.bool]) k) := ⟨fun t => by rw [hP, hel]; exact tt_ok ttL_ok t, by rw [hgl]; rfl⟩
  have hc0 : CallOk cx (acols_px (HV [.bool]) k) := callT_ok rfl (cfs_cons (cf_or (by rw [hP, hel, hgl]; exact lname_ok) (by kernel_rfl)) (cfs_cons (cf_or (by rw [hP, hel, hgl]; exact asome_ok) (by kernel_rfl)) (cfs_cons (cf_or (by rw [hP, hel, hgl]; exact aonce_ok) (by kernel_rfl)) cfs_nil)))
  have hq0 : CallQOk cx (acols_px (HV [.bool]) k) := callQT_ok rfl cqfs_nil
  have hlacols_0 : LoopOk cx (acols_px (HV [.bool]) k) (lp Tryz.f65 0) := loop_ok hp0 hc0 hq0 (by rw [hP]; exact follows) (k := k) (s := acols_0_sg) (step := acols_0) (fun _ _ => by kernel_rfl) (by kernel_rfl) (acols_0_eq _ k) (loops_in (n := 0) (by kernel_rfl) all0)
  exact ⟨hp0, hc0, hq0, (allS all0 hlacols_0)⟩
def colOk (c : Col) : Bool := decide (2 ≤ c.kind) && decide (c.kind ≤ 5) && (decide (c.ref = []) || lname c.ref)
def acols (l : List Col) : Option Bool := if l.length ≤ 1000000 then some (l.all colOk && asome (l.length : Int) && aonce (l.map (·.name))) else none
def acols_F : FT [.sl .col false] [.bool] := fun x => acols x
theorem acols_loop {R : Type} {kx : Ex → acols_0_V → Option R} {l : List Col} {c : Bool → Option R} (hn : l.length ≤ 1000000) (h1 : ∀ o i, kx .ret (l, false, o, l, (l.length : Int), i) = c false) (h2 : ∀ q o i, kx (.exit 0) (l, q, o, l, (l.length : Int), i) = cond (asome (l.length : Int)) (c (aonce o)) (c false)) (k : Nat) (hk : l.length < k) :
    iter (fun rec => acols_0 rec kx) k (l, false, [], l, (l.length : Int), 0) = c (l.all colOk && asome (l.length : Int) && aonce (l.map (·.name))) := by
  have hl : ln l.length := by simp only [ln]; omega
  refine (iter_ind0 l.length (fun i => (l, false, (l.take i).map (·.name), l, (l.length : Int), (i : Int))) (fun i => c ((l.drop i).all colOk && asome (l.length : Int) && aonce (l.map (·.name)))) (fun i hi rec hr => ?_) (fun rec => ?_) k 0 (Nat.zero_le _) (by omega)).trans (by rw [List.drop_zero])
  · have ht : (l.take (i + 1)).map (·.name) = (l.take i).map (·.name) ++ [l[i].name] := by
      rw [List.take_add_one, List.getElem?_eq_getElem hi, List.map_append]
      rfl
    have hlen : ((l.take i).map (·.name)).length + 1 ≤ maxApp := by simp only [List.length_map, List.length_take, maxApp]; omega
    rw [ht] at hr
    simp only [acols_0, lt_t hi, cond_t, inb_t hi, chk, at_nat (c := .col) hi, wr_succ hi hl, hr, h1, drop_cons hi, List.all_cons, colOk, decide_eq_true hlen]
    by_cases ha : l[i].kind < 2
    · rw [decide_eq_true ha, decide_eq_false (show ¬ 2 ≤ l[i].kind by omega)]
      rfl
    · rw [decide_eq_false ha, decide_eq_true (show 2 ≤ l[i].kind by omega)]
      by_cases hb : 5 < l[i].kind
      · rw [decide_eq_true hb, decide_eq_false (show ¬ l[i].kind ≤ 5 by omega)]
        rfl
      · rw [decide_eq_false hb, decide_eq_true (show l[i].kind ≤ 5 by omega)]
        cases decide (l[i].ref = []) <;> cases lname l[i].ref <;> rfl
  · simp only [acols_0, lt_n, cond_f, h2]
    rw [List.drop_eq_nil_of_le (Nat.le_refl _), List.take_length]
    cases asome (l.length : Int) <;> rfl
theorem acols_ok : FnOk Tryz.prog elT glT 65 [.sl .col false] [.bool] acols_F := .fin 0 acols_run fun l r hb hx => ⟨l.length + 1, by
  simp only [acols_F, acols] at hx
  split at hx
  · rename_i h
    rw [← hx]
    simp only [acols_body]
    refine acols_loop (l := l) (c := some) h (fun _ _ => rfl) (fun _ _ _ => ?_) (l.length + 1) (by omega)
    cases asome (l.length : Int) <;> rfl
  · cases hx⟩
/-! ## exchequer/ast.sets -/
def asets_0_sg : Sig := ⟨29, [(0, .sl .set false), (2, .bool), (3, .sl .str true), (6, .sl .set false), (7, .int .i64), (8, .int .i64)], [], [], 0, 0, 0, [], []⟩
abbrev asets_0_V := List SetE × Bool × List Str × List SetE × Int × Int
def asets_0 {R : Type} (rec : asets_0_V → Option R) (kx : Ex → asets_0_V → Option R) (v : asets_0_V) : Option R := match v with
 | (v, v1, v2, v3, v4, v5) =>
  cond (decide (v5 < v4)) (
   chk (inb v5 v3.length) (
    cond (!(eright (xeta ((at' .set v3 v5).e)) 30)) (
     kx .ret (v, false, v2, v3, v4, v5)) (
     chk (decide (v2.length + 1 ≤ maxApp)) (
      rec (v, v1, (v2 ++ [((at' .set v3 v5).name)]), v3, v4, (wr .i64 (v5 + 1))))))) (
   kx (.exit 0) (v, v1, v2, v3, v4, v5))
def asets_px (R : Type) (k : Nat) : Px R := ⟨ttOf ttL, glT, callT [(39, callOr [.sv .expr, .int .i64] [.bool] eright_F), (66, callOr [.int .i64] [.bool] asome_F), (67, callOr [.sl .str false] [.bool] aonce_F)], callQT [], loopT [(3, loopOr k asets_0_sg (asets_0))]⟩
theorem asets_0_eq (R : Type) (k : Nat) : ∀ (fr : List Fr) (rec : asets_0_V → Option R) (kx : Ex → asets_0_V → Option R) (v : asets_0_V), round (asets_px R k) asets_0_sg (lp Tryz.f70 0) fr rec kx v = asets_0 rec kx v
  | fr, rec, kx, (v, v1, v2, v3, v4, v5) => by kernel_rfl
def asets_body (k : Nat) (x : HV [.sl .set false]) : Option (HV [.bool]) := match x with
 | l =>
  iter (fun rec => asets_0 rec (fun e vz => match vz with | (v6, v7, v8, _, _, _) => match e with
   | .ret =>
    some v7
   | .exit 0 =>
    cond ((asome (v6.length : Int))) (
     some (aonce v8)) (
     some false)
   | _ => none)) k (l, false, [], l, (l.length : Int), 0)
theorem asets_eq (k : Nat) : ∀ (x : HV [.sl .set false]), runF (asets_px _ k) Tryz.f70 [.sl .set false] [.bool] x some = asets_body k x
  | l => by kernel_rfl
theorem asets_run (k : Nat) : FnOk Tryz.prog elT glT 70 [.sl .set false] [.bool] (asets_body k) := by
  refine fnOk_run Tryz.func70 rfl (by kernel_rfl) follows (by kernel_rfl) (n := 1) (by kernel_rfl) (px := asets_px _ k) (fun cx hP hel hgl => ?_) (asets_eq k)
  have hp0 : PxOk cx (asets_px (HV [.bool]) k) := ⟨fun t => by rw [hP, hel]; exact tt_ok ttL_ok t, by rw [hgl]; rfl⟩
  have hc0 : CallOk cx (asets_px (HV [.bool]) k) := callT_ok rfl (cfs_cons (cf_or (by rw [hP, hel, hgl]; exact eright_ok) (by kernel_rfl)) (cfs_cons (cf_or (by rw [hP, hel, hgl]; exact asome_ok) (by kernel_rfl)) (cfs_cons (cf_or (by rw [hP, hel, hgl]; exact aonce_ok) (by kernel_rfl)) cfs_nil)))
  have hq0 : CallQOk cx (asets_px (HV [.bool]) k) := callQT_ok rfl cqfs_nil
  have hlasets_0 : LoopOk cx (asets_px (HV [.bool]) k) (lp Tryz.f70 0) := loop_ok hp0 hc0 hq0 (by rw [hP]; exact follows) (k := k) (s := asets_0_sg) (step := asets_0) (fun _ _ => by kernel_rfl) (by kernel_rfl) (asets_0_eq _ k) (loops_in (n := 0) (by kernel_rfl) all0)
  exact ⟨hp0, hc0, hq0, (allS all0 hlasets_0)⟩
def asets (l : List SetE) : Option Bool := if l.length ≤ 1000000 then some (l.all (fun x => eright x.e 30) && asome (l.length : Int) && aonce (l.map (·.name))) else none
def asets_F : FT [.sl .set false] [.bool] := fun x => asets x
theorem asets_loop {R : Type} {kx : Ex → asets_0_V → Option R} {l : List SetE} {c : Bool → Option R} (hn : l.length ≤ 1000000) (h1 : ∀ o i, kx .ret (l, false, o, l, (l.length : Int), i) = c false) (h2 : ∀ q o i, kx (.exit 0) (l, q, o, l, (l.length : Int), i) = cond (asome (l.length : Int)) (c (aonce o)) (c false)) (k : Nat) (hk : l.length < k) :
    iter (fun rec => asets_0 rec kx) k (l, false, [], l, (l.length : Int), 0) = c (l.all (fun x => eright x.e 30) && asome (l.length : Int) && aonce (l.map (·.name))) := by
  have hl : ln l.length := by simp only [ln]; omega
  refine (iter_ind0 l.length (fun i => (l, false, (l.take i).map (·.name), l, (l.length : Int), (i : Int))) (fun i => c ((l.drop i).all (fun x => eright x.e 30) && asome (l.length : Int) && aonce (l.map (·.name)))) (fun i hi rec hr => ?_) (fun rec => ?_) k 0 (Nat.zero_le _) (by omega)).trans (by rw [List.drop_zero])
  · have ht : (l.take (i + 1)).map (·.name) = (l.take i).map (·.name) ++ [l[i].name] := by
      rw [List.take_add_one, List.getElem?_eq_getElem hi, List.map_append]
      rfl
    have hlen : ((l.take i).map (·.name)).length + 1 ≤ maxApp := by simp only [List.length_map, List.length_take, maxApp]; omega
    rw [ht] at hr
    simp only [asets_0, lt_t hi, cond_t, inb_t hi, chk, at_nat (c := .set) hi, wr_succ hi hl, hr, h1, drop_cons hi, List.all_cons, decide_eq_true hlen, xeta_eq]
    cases eright l[i].e 30 <;> rfl
  · simp only [asets_0, lt_n, cond_f, h2]
    rw [List.drop_eq_nil_of_le (Nat.le_refl _), List.take_length]
    cases asome (l.length : Int) <;> rfl
theorem asets_ok : FnOk Tryz.prog elT glT 70 [.sl .set false] [.bool] asets_F := .fin 0 asets_run fun l r hb hx => ⟨l.length + 1, by
  simp only [asets_F, asets] at hx
  split at hx
  · rename_i h
    rw [← hx]
    simp only [asets_body]
    refine asets_loop (l := l) (c := some) h (fun _ _ => rfl) (fun _ _ _ => ?_) (l.length + 1) (by omega)
    cases asome (l.length : Int) <;> rfl
  · cases hx⟩
/-! ## without what a kind has -/
def noX : Xpr := .mk 0 ⟨0, 0, []⟩ [] []
def noS : Stm := ⟨0, [], [], [], [], [], [], [], false, noX, [], [], 0⟩
/-! ## exchequer/ast.rest -/
def arest_px (R : Type) : Px R := ⟨ttOf ttL, glT, callT [], callQT [], loopT []⟩
def arest_body (x : HV [.sv .stmt]) : Option (HV [.sv .stmt]) := match x with
 | s =>
  cond (decide (s.kind = 1)) (
   some (Stm.mk 0 [] s.on [] [] [] s.rows s.sets s.has (xeta s.whr) s.order s.desc s.most)) (
   cond (decide (s.kind = 3)) (
    some (Stm.mk 0 [] [] s.cols [] s.l s.rows s.sets s.has (xeta s.whr) s.order s.desc s.most)) (
    cond (decide (s.kind = 5)) (
     some (Stm.mk 0 [] s.on s.cols s.names s.l [] s.sets s.has (xeta s.whr) s.order s.desc s.most)) (
     cond (decide (s.kind = 6)) (
      some (Stm.mk 0 [] s.on s.cols s.names s.l s.rows [] false (Xpr.mk 0 ⟨0, 0, []⟩ [] []) s.order s.desc s.most)) (
      cond (decide (s.kind = 7)) (
       some (Stm.mk 0 [] s.on s.cols s.names s.l s.rows s.sets false (Xpr.mk 0 ⟨0, 0, []⟩ [] []) s.order s.desc s.most)) (
       cond (decide (s.kind = 8)) (
        some (Stm.mk 0 [] s.on s.cols s.names [] s.rows s.sets false (Xpr.mk 0 ⟨0, 0, []⟩ [] []) [] [] 0)) (
        some (Stm.mk 0 [] s.on s.cols s.names s.l s.rows s.sets s.has (xeta s.whr) s.order s.desc s.most)))))))
theorem arest_eq : ∀ (x : HV [.sv .stmt]), runF (arest_px _) Tryz.f64 [.sv .stmt] [.sv .stmt] x some = arest_body x
  | s => by kernel_rfl
theorem arest_run : FnOk Tryz.prog elT glT 64 [.sv .stmt] [.sv .stmt] (arest_body) := by
  refine fnOk_run Tryz.func64 rfl (by kernel_rfl) follows (by kernel_rfl) (n := 0) (by kernel_rfl) (px := arest_px _) (fun cx hP hel hgl => ?_) (arest_eq)
  have hp0 : PxOk cx (arest_px (HV [.sv .stmt])) := ⟨fun t => by rw [hP, hel]; exact tt_ok ttL_ok t, by rw [hgl]; rfl⟩
  have hc0 : CallOk cx (arest_px (HV [.sv .stmt])) := callT_ok rfl cfs_nil
  have hq0 : CallQOk cx (arest_px (HV [.sv .stmt])) := callQT_ok rfl cqfs_nil
  exact ⟨hp0, hc0, hq0, all0⟩
def arest (s : Stm) : Stm :=
  if s.kind = 1 then { s with kind := 0, name := [], cols := [], names := [], l := [] }
  else if s.kind = 3 then { s with kind := 0, name := [], on := [], names := [] }
  else if s.kind = 5 then { s with kind := 0, name := [], rows := [] }
  else if s.kind = 6 then { s with kind := 0, name := [], sets := [], has := false, whr := noX }
  else if s.kind = 7 then { s with kind := 0, name := [], has := false, whr := noX }
  else if s.kind = 8 then { s with kind := 0, name := [], l := [], has := false, whr := noX, order := [], desc := [], most := 0 }
  else { s with kind := 0, name := [] }
def arest_F : FT [.sv .stmt] [.sv .stmt] := fun x => some (arest x)
theorem arest_ok : FnOk Tryz.prog elT glT 64 [.sv .stmt] [.sv .stmt] arest_F := .fin0 arest_run fun s r hb hx => by
  simp only [arest_F, Option.some.injEq] at hx
  rw [← hx]
  simp only [arest_body, arest, xeta_eq, Bool.cond_decide]
  split; · rfl
  split; · rfl
  split; · rfl
  split; · rfl
  split; · rfl
  split <;> rfl
/-! ## exchequer/ast.Check -/
def acheck_px (R : Type) : Px R := ⟨ttOf ttL, glT, callT [(63, callOr [.str] [.bool] lname_F), (64, callOr [.sv .stmt] [.sv .stmt] arest_F), (27, callOr [.sv .stmt, .sv .stmt] [.bool] astmts_F), (65, callOr [.sl .col false] [.bool] acols_F), (66, callOr [.int .i64] [.bool] asome_F), (67, callOr [.sl .str false] [.bool] aonce_F), (68, callOr [.sl .expr false] [.bool] aexprs_F), (69, callOr [.sl .exprs false] [.bool] arows_F), (70, callOr [.sl .set false] [.bool] asets_F), (71, callOr [.sv .stmt] [.bool] awhere_F)], callQT [], loopT []⟩
def acheck_body (x : HV [.sv .stmt]) : Option (HV [.int .i64]) := match x with
 | s =>
  let j7 := fun (p1 : Bool) =>
   cond (decide (s.kind = 1)) (
    let j1 := fun (p2 : Bool) =>
     let j := fun (p3 : Bool) =>
      cond (p3) (
       cond ((aonce s.names)) (
        cond (!(aexprs s.l)) (
         some 2) (
         some 0)) (
        some 2)) (
       some 2)
     cond (p2) (
      j (asome (s.names.length : Int))) (
      j false)
    cond (p1) (
     (acols s.cols).bind fun x =>
      j1 x) (
     j1 false)) (
    cond (decide (s.kind = 3)) (
     let j2 := fun (p7 : Bool) =>
      cond (p7) (
       cond ((asome (s.names.length : Int))) (
        cond (!(aonce s.names)) (
         some 2) (
         some 0)) (
        some 2)) (
       some 2)
     cond (p1) (
      j2 (lname s.on)) (
      j2 false)) (
     let j6 := fun (p11 : Bool) =>
      cond (p11) (
       cond (!p1) (
        some 2) (
        some 0)) (
       cond (decide (s.kind = 5)) (
        cond (p1) (
         cond (!(arows s.rows)) (
          some 2) (
          some 0)) (
         some 2)) (
        cond (decide (s.kind = 6)) (
         cond (p1) (
          (asets s.sets).bind fun x1 =>
           cond (x1) (
            cond (!(awhere s)) (
             some 2) (
             some 0)) (
            some 2)) (
          some 2)) (
         cond (decide (s.kind = 7)) (
          cond (p1) (
           cond (!(awhere s)) (
            some 2) (
            some 0)) (
           some 2)) (
          cond (decide (s.kind = 8)) (
           let j5 := fun (p17 : Bool) =>
            let j4 := fun (p18 : Bool) =>
             let j3 := fun (p19 : Bool) =>
              cond (p19) (
               cond (decide ((s.desc.length : Int) = (s.order.length : Int))) (
                cond (!(decide ((-1) ≤ s.most))) (
                 some 2) (
                 some 0)) (
                some 2)) (
               some 2)
             cond (p18) (
              j3 (aonce s.order)) (
              j3 false)
            cond (p17) (
             j4 (awhere s)) (
             j4 false)
           cond (p1) (
            j5 (aexprs s.l)) (
            j5 false)) (
           some 2)))))
     cond (decide (s.kind = 2)) (
      j6 (decide (s.kind = 2))) (
      j6 (decide (s.kind = 4)))))
  cond ((lname s.name)) (
   j7 (astmts (arest s) (Stm.mk 0 [] [] [] [] [] [] [] false (Xpr.mk 0 ⟨0, 0, []⟩ [] []) [] [] 0))) (
   j7 false)
theorem acheck_eq : ∀ (x : HV [.sv .stmt]), runF (acheck_px _) Tryz.f25 [.sv .stmt] [.int .i64] x some = acheck_body x
  | s => by kernel_rfl
theorem acheck_run : FnOk Tryz.prog elT glT 25 [.sv .stmt] [.int .i64] (acheck_body) := by
  refine fnOk_run Tryz.func25 rfl (by kernel_rfl) follows (by kernel_rfl) (n := 0) (by kernel_rfl) (px := acheck_px _) (fun cx hP hel hgl => ?_) (acheck_eq)
  have hp0 : PxOk cx (acheck_px (HV [.int .i64])) := ⟨fun t => by rw [hP, hel]; exact tt_ok ttL_ok t, by rw [hgl]; rfl⟩
  have hc0 : CallOk cx (acheck_px (HV [.int .i64])) := callT_ok rfl (cfs_cons (cf_or (by rw [hP, hel, hgl]; exact lname_ok) (by kernel_rfl)) (cfs_cons (cf_or (by rw [hP, hel, hgl]; exact arest_ok) (by kernel_rfl)) (cfs_cons (cf_or (by rw [hP, hel, hgl]; exact astmts_ok) (by kernel_rfl)) (cfs_cons (cf_or (by rw [hP, hel, hgl]; exact acols_ok) (by kernel_rfl)) (cfs_cons (cf_or (by rw [hP, hel, hgl]; exact asome_ok) (by kernel_rfl)) (cfs_cons (cf_or (by rw [hP, hel, hgl]; exact aonce_ok) (by kernel_rfl)) (cfs_cons (cf_or (by rw [hP, hel, hgl]; exact aexprs_ok) (by kernel_rfl)) (cfs_cons (cf_or (by rw [hP, hel, hgl]; exact arows_ok) (by kernel_rfl)) (cfs_cons (cf_or (by rw [hP, hel, hgl]; exact asets_ok) (by kernel_rfl)) (cfs_cons (cf_or (by rw [hP, hel, hgl]; exact awhere_ok) (by kernel_rfl)) cfs_nil))))))))))
  have hq0 : CallQOk cx (acheck_px (HV [.int .i64])) := callQT_ok rfl cqfs_nil
  exact ⟨hp0, hc0, hq0, all0⟩
def checkB (s : Stm) : Bool := lname s.name && decide (arest s = noS) && (
  if s.kind = 1 then s.cols.all colOk && asome (s.cols.length : Int) && aonce (s.cols.map (·.name)) && asome (s.names.length : Int) && aonce s.names && aexprs s.l
  else if s.kind = 3 then lname s.on && asome (s.names.length : Int) && aonce s.names
  else if s.kind = 2 ∨ s.kind = 4 then true
  else if s.kind = 5 then arows s.rows
  else if s.kind = 6 then s.sets.all (fun x => eright x.e 30) && asome (s.sets.length : Int) && aonce (s.sets.map (·.name)) && awhere s
  else if s.kind = 7 then awhere s
  else if s.kind = 8 then aexprs s.l && awhere s && aonce s.order && decide (s.desc.length = s.order.length) && decide (-1 ≤ s.most)
  else false)
def acheck (s : Stm) : Option Int := if s.cols.length ≤ 1000000 ∧ s.sets.length ≤ 1000000 then some (cond (checkB s) 0 2) else none
def acheck_F : FT [.sv .stmt] [.int .i64] := fun x => acheck x
theorem acheck_ok : FnOk Tryz.prog elT glT 25 [.sv .stmt] [.int .i64] acheck_F := .fin0 acheck_run fun s r hb hx => by
  simp only [acheck_F, acheck] at hx
  split at hx
  case isFalse => cases hx
  rename_i h
  rw [← hx]
  have e1 : acols s.cols = some (s.cols.all colOk && asome (s.cols.length : Int) && aonce (s.cols.map (·.name))) := if_pos h.1
  have e2 : asets s.sets = some (s.sets.all (fun x => eright x.e 30) && asome (s.sets.length : Int) && aonce (s.sets.map (·.name))) := if_pos h.2
  have e3 : astmts (arest s) (Stm.mk 0 [] [] [] [] [] [] [] false (Xpr.mk 0 ⟨0, 0, []⟩ [] []) [] [] 0) = decide (arest s = noS) := ssame_dec _ _
  have e4 : decide ((s.desc.length : Int) = (s.order.length : Int)) = decide (s.desc.length = s.order.length) := decide_eq_decide.2 (by omega)
  simp only [acheck_body, checkB, e1, e2, e3, e4, Option.bind_some]
  generalize lname s.name = A
  generalize decide (arest s = noS) = B
  generalize (s.cols.all colOk && asome (s.cols.length : Int) && aonce (s.cols.map (·.name))) = C
  generalize asome (s.names.length : Int) = D
  generalize aonce s.names = E
  generalize aexprs s.l = F
  generalize lname s.on = G
  generalize arows s.rows = H
  generalize (s.sets.all (fun x => eright x.e 30) && asome (s.sets.length : Int) && aonce (s.sets.map (·.name))) = I
  generalize awhere s = J
  generalize aonce s.order = K
  generalize decide (s.desc.length = s.order.length) = L
  generalize decide (-1 ≤ s.most) = M
  by_cases h1 : s.kind = 1
  · rw [decide_eq_true h1, if_pos h1]
    cases A <;> cases B <;> cases C <;> cases D <;> cases E <;> cases F <;> rfl
  rw [decide_eq_false h1, if_neg h1]
  by_cases h3 : s.kind = 3
  · rw [decide_eq_true h3, if_pos h3]
    cases A <;> cases B <;> cases G <;> cases D <;> cases E <;> rfl
  rw [decide_eq_false h3, if_neg h3]
  by_cases h24 : s.kind = 2 ∨ s.kind = 4
  · rw [if_pos h24]
    rcases h24 with h2 | h2
    · rw [decide_eq_true h2]
      cases A <;> cases B <;> rfl
    · rw [decide_eq_true h2, decide_eq_false (show ¬ s.kind = 2 by omega)]
      cases A <;> cases B <;> rfl
  rw [if_neg h24, decide_eq_false (show ¬ s.kind = 2 by omega), decide_eq_false (show ¬ s.kind = 4 by omega)]
  by_cases h5 : s.kind = 5
  · rw [decide_eq_true h5, if_pos h5]
    cases A <;> cases B <;> cases H <;> rfl
  rw [decide_eq_false h5, if_neg h5]
  by_cases h6 : s.kind = 6
  · rw [decide_eq_true h6, if_pos h6]
    cases A <;> cases B <;> cases I <;> cases J <;> rfl
  rw [decide_eq_false h6, if_neg h6]
  by_cases h7 : s.kind = 7
  · rw [decide_eq_true h7, if_pos h7]
    cases A <;> cases B <;> cases J <;> rfl
  rw [decide_eq_false h7, if_neg h7]
  by_cases h8 : s.kind = 8
  · rw [decide_eq_true h8, if_pos h8]
    cases A <;> cases B <;> cases F <;> cases J <;> cases K <;> cases L <;> cases M <;> rfl
  rw [decide_eq_false h8, if_neg h8]
  cases A <;> cases B <;> rfl
end Go.Proofs.YthndhaolemgbdaaGreatDoor

/- strings.Builder, as the program's writer has it: what its methods come to. -/
namespace Go.Proofs.YthndhaolemgbdaaGreatDoor
open Go.Ax Go.RowKit
def bldTs : List Nat := [80, 82]
abbrev bldT : TypeId := 80
theorem sizeBld : (Tryz.prog.info? bldT).map (·.size) = some 2 := by kernel_rfl
theorem liesBld (T : TypeId) (h : T ∈ bldTs) : liesAt Tryz.prog Tryz.prog.depth T (2 / Tryz.prog.cellsOf T) 0 bldT 1 = true := by
  simp only [bldTs, List.mem_cons, List.not_mem_nil, or_false] at h
  rcases h with rfl | rfl <;> kernel_rfl
set_option maxRecDepth 100000 in
theorem cc_used (b : Nat) (w : World) (h0 : w.cell? ⟨b, 0, none⟩ = some (.pointer (some ⟨b, 0, none⟩))) :
    Calls Tryz.prog 152 #[.pointer (some ⟨b, 0, none⟩)] w fun e w' => e = .returned (.tuple #[]) ∧ w' = w := by
  obtain ⟨j, hj, _⟩ := Option.map_eq_some_iff.1 sizeBld
  have mixed := follows
  have t1 := Tryz.underlying77
  have t2 := Tryz.underlying80
  have u1 := run_underlying (P := Tryz.prog) t1
  have u2 := run_underlying (P := Tryz.prog) t2
  go_enter Tryz.func152, Tryz.ntmps152
  go_wp2
  rw [Lib.run_neq_ptr_same w _ t1 hj]
  go_wp2
  go_end0
  exact ⟨rfl, rfl⟩
set_option maxRecDepth 100000 in
theorem cc_fresh (b : Nat) (T : TypeId) (hT : T ∈ bldTs) (w : World) (h0 : w.cell? ⟨b, 0, none⟩ = some (.pointer none)) (hsh : w.shape? b = some (T, 2)) (hfz : w.frozen? ⟨b, 0, none⟩ = false) :
    Calls Tryz.prog 152 #[.pointer (some ⟨b, 0, none⟩)] w fun e w' => e = .returned (.tuple #[]) ∧ w' = w.setCell ⟨b, 0, none⟩ (.pointer (some ⟨b, 0, none⟩)) := by
  obtain ⟨j, hj, hjs⟩ := Option.map_eq_some_iff.1 sizeBld
  have mixed := follows
  have t1 := Tryz.underlying77
  have t2 := Tryz.underlying80
  have t3 := Tryz.underlying205
  have u1 := run_underlying (P := Tryz.prog) t1
  have u2 := run_underlying (P := Tryz.prog) t2
  have u3 := run_underlying (P := Tryz.prog) t3
  go_enter Tryz.func152, Tryz.ntmps152
  go_wp2
  rw [Lib.run_to_unsafe w ⟨b, 0, none⟩ t1 t3 hj (by rw [hjs]; decide) hsh (Nat.zero_lt_succ 1)]
  simp only [Result.andThen]
  rw [Oper.upon_value]
  go_wp2
  rw [run_callFunc_extern Tryz.func172 (by kernel_rfl) (by kernel_rfl) (by kernel_rfl) (e := Extern.AbiNoEscape.same) (by kernel_rfl)]
  rw [Lib.run_noEscape]
  simp only [Result.andThen]
  rw [Oper.upon_value]
  go_wp2
  rw [Lib.run_from_unsafe w ⟨b, 0, none⟩ t3 t1 hj hsh (liesBld T hT)]
  simp only [Result.andThen]
  rw [Oper.upon_value]
  go_wp2
  go_end0
  exact ⟨rfl, rfl⟩
theorem cc_enters : Sx.Enters Tryz.prog 152 := Sx.enters_of Tryz.func152 rfl (by kernel_rfl)
theorem cc_ok : ∀ T, T ∈ bldTs → ∀ (b : Nat) (w : World) (a v : Value), w.heap[b]? = some (.cells #[a, v] T (0, 0)) → (a = .pointer none ∨ a = .pointer (some ⟨b, 0, none⟩)) → Calls Tryz.prog 152 #[.pointer (some ⟨b, 0, none⟩)] w fun e w' => e = .returned (.tuple #[]) ∧ (w' = w ∨ w' = w.setCell ⟨b, 0, none⟩ (.pointer (some ⟨b, 0, none⟩))) := by
  intro T hT b w a v hh ha
  have c0 : w.cell? ⟨b, 0, none⟩ = some a := by simp [World.cell?, hh]
  rcases ha with rfl | rfl
  · refine (cc_fresh b T hT w c0 (by simp [World.shape?, hh]) (by simp [World.frozen?, hh])).mono ?_
    rintro e w' ⟨rfl, rfl⟩
    exact ⟨rfl, .inr rfl⟩
  · refine (cc_used b w c0).mono ?_
    rintro e w' ⟨rfl, rfl⟩
    exact ⟨rfl, .inl rfl⟩
/-! ## String -/
theorem chg_freeze (w : World) (g n k : Nat) : Chg (fun b i => b = g ∧ k ≤ i) w (w.freeze ⟨g, 0, none⟩ n) := by
  unfold World.freeze
  split
  · exact Chg.refl _ _
  · have hne : ∀ (q : Nat), q ≠ g → ∀ F : Obj → Obj, (w.heap.modify g F)[q]? = w.heap[q]? := fun q hq F => by
      rw [Array.getElem?_modify, if_neg (Ne.symm hq)]
    refine ⟨rfl, rfl, rfl, by simp, fun q _ hq2 => hne q (fun e => hq2 k ⟨e, Nat.le_refl _⟩) _, fun b i v hv _ => ?_, fun b cs t f hb => ?_⟩
    · by_cases hbg : b = g
      · subst hbg
        unfold World.cell? at hv ⊢
        simp only [Array.getElem?_modify, if_true] at hv ⊢
        cases hh : w.heap[b]? with
        | none => rw [hh] at hv; cases hv
        | some o =>
          rw [hh] at hv
          cases o with
          | cells c e f => obtain ⟨lo, hi⟩ := f; exact hv
          | _ => cases hv
      · rw [World.cell?_of_block (a := ⟨b, i, none⟩) (hne b hbg _)]
        exact hv
    · by_cases hbg : b = g
      · subst hbg
        obtain ⟨lo, hi⟩ := f
        exact ⟨cs, _, by simp only [Array.getElem?_modify, if_true, hb]; rfl, rfl⟩
      · exact ⟨cs, f, by rw [hne b hbg]; exact hb, rfl⟩
theorem cellsByte : Tryz.prog.cellsOf 5 = 1 := by kernel_rfl
set_option maxHeartbeats 2000000 in
set_option maxRecDepth 100000 in
theorem str_some (b g cap n : Nat) (w : World) (s : ByteArray) (hcap : cap ≠ 0) (hc : w.cell? ⟨b, 1, none⟩ = some (.slice (some ⟨g, 0, none⟩) n cap)) (hUS : (Builtin.unsafeString_ #[148, 3] 9 #[.pointer (some ⟨g, 0, none⟩), .int .i64 n]).run Tryz.prog w.drew = .ok (.string s) (w.drew.freeze ⟨g, 0, none⟩ n)) :
    Calls Tryz.prog 41 #[.pointer (some ⟨b, 0, none⟩)] w fun e w' => e = .returned (.string s) ∧ w' = w.drew.freeze ⟨g, 0, none⟩ n := by
  have c1 : w.drew.cell? ⟨b, 1, none⟩ = some (.slice (some ⟨g, 0, none⟩) n cap) := hc
  have hSD : (Builtin.unsafeSliceData_ #[78] 148 #[.slice (some ⟨g, 0, none⟩) n cap]).run Tryz.prog w.drew = .ok (.pointer (some ⟨g, 0, none⟩)) w.drew := Lib.run_unsafeSliceData_row _ _ _ _ _ _ hcap
  clear hcap
  have mixed := follows
  have t1 := Tryz.underlying77
  have t2 := Tryz.underlying80
  have t3 := Tryz.underlying78
  have t4 := Tryz.underlying148
  have t5 := Tryz.underlying3
  have t6 := Tryz.underlying9
  have u1 := run_underlying (P := Tryz.prog) t1
  have u2 := run_underlying (P := Tryz.prog) t2
  have u3 := run_underlying (P := Tryz.prog) t3
  have u4 := run_underlying (P := Tryz.prog) t4
  have u5 := run_underlying (P := Tryz.prog) t5
  have u6 := run_underlying (P := Tryz.prog) t6
  go_enter Tryz.func41, Tryz.ntmps41
  go_wp2
  go_region_o
  all_goals (go_wp2; go_ret; exact ⟨rfl, rfl⟩)
theorem us_none (W : World) (q : Option Addr) : (Builtin.unsafeString_ #[148, 3] 9 #[.pointer q, .int .i64 0]).run Tryz.prog W = .ok (.string .empty) W := Lib.run_unsafeString_none W _ _ _ q
set_option maxHeartbeats 2000000 in
set_option maxRecDepth 100000 in
theorem str_nil (b : Nat) (w : World) (hc : w.cell? ⟨b, 1, none⟩ = some (.slice none 0 0)) :
    Calls Tryz.prog 41 #[.pointer (some ⟨b, 0, none⟩)] w fun e w' => e = .returned (.string ⟨#[]⟩) ∧ w' = w.drew := by
  have hUS := us_none
  have c1 : w.drew.cell? ⟨b, 1, none⟩ = some (.slice none 0 0) := hc
  have hSD : (Builtin.unsafeSliceData_ #[78] 148 #[.slice none 0 0]).run Tryz.prog w.drew = .ok (.pointer none) w.drew := rfl
  have mixed := follows
  have t1 := Tryz.underlying77
  have t2 := Tryz.underlying80
  have t3 := Tryz.underlying78
  have t4 := Tryz.underlying148
  have t5 := Tryz.underlying3
  have t6 := Tryz.underlying9
  have u1 := run_underlying (P := Tryz.prog) t1
  have u2 := run_underlying (P := Tryz.prog) t2
  have u3 := run_underlying (P := Tryz.prog) t3
  have u4 := run_underlying (P := Tryz.prog) t4
  have u5 := run_underlying (P := Tryz.prog) t5
  have u6 := run_underlying (P := Tryz.prog) t6
  go_enter Tryz.func41, Tryz.ntmps41
  go_wp2
  go_region_o
  all_goals (go_wp2; go_ret; exact ⟨rfl, rfl⟩)
set_option maxHeartbeats 2000000 in
set_option maxRecDepth 100000 in
theorem str_noroom (b g : Nat) (w : World) (cur : Array Value) (hlt : b < w.heap.size) (hc : w.cell? ⟨b, 1, none⟩ = some (.slice (some ⟨g, 0, none⟩) 0 0)) (hg : w.heap[g]? = some (.cells cur 5 (0, 0))) :
    Calls Tryz.prog 41 #[.pointer (some ⟨b, 0, none⟩)] w fun e w' => e = .returned (.string ⟨#[]⟩) ∧ Chg noFp w w' := by
  have hUS := us_none
  have c1 : w.drew.cell? ⟨b, 1, none⟩ = some (.slice (some ⟨g, 0, none⟩) 0 0) := hc
  have t4 := Tryz.underlying148
  have hSD : (Builtin.unsafeSliceData_ #[78] 148 #[.slice (some ⟨g, 0, none⟩) 0 0]).run Tryz.prog w.drew = .ok (.pointer (some ⟨w.drew.heap.size, 0, none⟩)) (w.drew.alloc (.view ⟨g, 0, none⟩ 5)) :=
    Lib.run_unsafeSliceData_zero w.drew _ _ 5 t4 ⟨g, 0, none⟩ 0 (5, cur.size) (by have hg' : w.drew.heap[g]? = some (.cells cur 5 (0, 0)) := hg; simp [World.shape?, hg'])
  have c2 : (w.drew.alloc (.view ⟨g, 0, none⟩ 5)).cell? ⟨b, 1, none⟩ = some (.slice (some ⟨g, 0, none⟩) 0 0) := by
    rw [World.cell?_of_block (a := ⟨b, 1, none⟩) (Below.heap_alloc w.drew _ _ hlt)]
    exact c1
  have c3 : (w.alloc (.view ⟨g, 0, none⟩ 5)).drew.cell? ⟨b, 1, none⟩ = some (.slice (some ⟨g, 0, none⟩) 0 0) := c2
  have c0 : w.cell? ⟨b, 1, none⟩ = some (.slice (some ⟨g, 0, none⟩) 0 0) := c1
  have mixed := follows
  have t1 := Tryz.underlying77
  have t2 := Tryz.underlying80
  have t3 := Tryz.underlying78
  have t5 := Tryz.underlying3
  have t6 := Tryz.underlying9
  have u1 := run_underlying (P := Tryz.prog) t1
  have u2 := run_underlying (P := Tryz.prog) t2
  have u3 := run_underlying (P := Tryz.prog) t3
  have u4 := run_underlying (P := Tryz.prog) t4
  have u5 := run_underlying (P := Tryz.prog) t5
  have u6 := run_underlying (P := Tryz.prog) t6
  go_enter Tryz.func41, Tryz.ntmps41
  go_wp2
  go_region_o
  all_goals (go_wp2; go_ret; exact ⟨rfl, (Chg.drew noFp w).trans (Chg.alloc noFp w.drew _)⟩)
/-! ## what is left behind a call that keeps no block -/
theorem rel_end {cx : Cx} {m : Mp} {a : Act} {rs : List Act} {st : St} {w w' : World} (hr : Rel cx m a rs (fs st) w) (hch : Chg (fpOf m (fs st)) w w') {d : D} {v : Value} (hd : Rep (vx cx m (fs { st with n := 1, env := [(0, d)], bl := [], tk := [] }) w') d v) : Rel cx m ⟨#[v], []⟩ rs (fs { st with n := 1, env := [(0, d)], bl := [], tk := [] }) w' := by
  have hnf : ∀ b i, ¬ fpOf m (fs { st with n := 1, env := [(0, d)], bl := [], tk := [] }) b i := by
    rintro b i (⟨q, hq, _⟩ | ⟨t, o, h1, _, _⟩)
    · exact hq rfl
    · simp [fs] at h1
  have nx : Nx (vx cx m (fs st) w) (vx cx m (fs { st with n := 1, env := [(0, d)], bl := [], tk := [] }) w') := by
    refine ⟨hch.mono fun b i hi => .inr hi, ?_, rfl, fun _ _ => rfl, Nat.le_refl _, Nat.le_refl _, fun t _ ha => ?_⟩
    · rintro b i (h | h)
      · exact .inl (.inl h)
      · exact absurd h (hnf b i)
    · simp [vx, fs] at ha
  have h1 : Rel cx m a rs { fs st with bl := fun _ => none, al := fun _ => False } w' := by
    refine hr.step (s' := { fs st with bl := fun _ => none, al := fun _ => False }) rfl rfl rfl rfl rfl hch ?_ (fun b k hk => by cases hk) (fun t ht => ht.elim) (fun b b' h => absurd rfl h) (fun t t' g o o' h => h.elim) (fun b t g o h => absurd rfl h) (fun b i hi => ?_)
    · refine ⟨hch.mono fun b i hi => .inr hi, ?_, rfl, fun _ _ => rfl, Nat.le_refl _, Nat.le_refl _, fun t _ ha => ha.elim⟩
      rintro b i (h | ⟨q, hq, _⟩ | ⟨t, o, h1, _, _⟩)
      · exact .inl (.inl h)
      · exact absurd rfl hq
      · exact h1.elim
    · rcases hi with ⟨q, hq, _⟩ | ⟨t, o, h1, _, _⟩
      · exact absurd rfl hq
      · exact h1.elim
  have hal : (fs { st with n := 1, env := [(0, d)], bl := [], tk := [] }).al = fun _ => False := by
    funext t; simp [fs]
  have e : fs { st with n := 1, env := [(0, d)], bl := [], tk := [] } = { (fs { st with n := 1, env := [(0, d)], bl := [], tk := [] }) with al := fun _ => False } := by
    rw [← hal]
  rw [e] at hd ⊢
  refine ⟨h1.chg, ⟨rfl, rfl, fun k d' hk => ?_⟩, h1.frs, h1.lb, h1.lt, h1.blks, h1.als, h1.inj, h1.injt, h1.injbt, h1.own, h1.away, h1.glb⟩
  have hk : get [(0, d)] k = some d' := hk
  rw [get_cons] at hk
  by_cases h0 : k = 0
  · subst h0
    simp only [if_true, Option.some.injEq] at hk
    subst hk
    exact ⟨v, rfl, hd⟩
  · rw [if_neg h0] at hk
    cases hk
abbrev wT : TypeId := 82
def bstr_si : Sig := ⟨1, [], [(0, .ptr 0 0)], [(0, .bld wT)], 1, 1, 0, [], []⟩
def bstr_so : Sig := ⟨1, [(0, .str)], [], [], 1, 1, 0, [], []⟩
abbrev bstr_I := List UInt8
abbrev bstr_O := Str
def bstr_F : bstr_I → Option bstr_O := fun x => some x
theorem bstr_ok : FnLn Tryz.prog elT glT 41 bstr_si bstr_so bstr_F := by
  refine ⟨Sx.enters_of Tryz.func41 rfl (by kernel_rfl), fun (l : List UInt8) r hx _ cx m vs af w h1 h2 h3 hr => ?_⟩
  obtain rfl : l = r := Option.some.inj hx
  obtain ⟨_, hb⟩ := hr.blks 0 (.bld wT (.sl .byte l (.id 0))) rfl
  obtain ⟨_, a, v, hh, ha, hrep⟩ := hb
  obtain ⟨u, hu, hup⟩ := hr.env.get 0 (.ptr 0 0) rfl
  have hsz : vs.toArray.size = 1 := hr.env.size
  have hvs : vs = [u] := by
    match vs, hsz, hu with
    | [y], _, hu => simpa using hu
  subst hvs
  simp only [Rep] at hup hrep
  obtain ⟨_, rfl⟩ := hup
  obtain ⟨hrf, _, htk⟩ := hrep
  have htk := htk (show (fs (encSt bstr_si [keepF bstr_si] l)).al 0 by simp [fs, encSt, bstr_si, Sig.sgs, zipE, owns, Bs.sgs, owSg])
  have hh : w.heap[m.bl 0]? = some (.cells #[a, v] wT (0, 0)) := hh
  have hblt : m.bl 0 < w.heap.size := (Array.getElem?_eq_some_iff.1 hh).1
  have hlen : l.length ≤ maxLen := hrf.here.len
  have c1 : w.cell? ⟨m.bl 0, 1, none⟩ = some v := by simp [World.cell?, hh]
  have done : (Calls Tryz.prog 41 #[.pointer (some ⟨m.bl 0, 0, none⟩)] w fun e w' => e = .returned (.string ⟨l.toArray⟩) ∧ Chg (fpOf m (fs (encSt bstr_si [keepF bstr_si] l))) w w') → Calls Tryz.prog 41 ([.pointer (some ⟨m.bl 0, 0, none⟩)] : List Value).toArray w fun en w' => ∃ us st' m', en = .returned (Sx.resv us) ∧ (∀ k, (bstr_si.bl.map (·.1)).contains k = true → m'.bl k = m.bl k) ∧ decSt bstr_so st' = some l ∧ Rel cx m' ⟨us.toArray, []⟩ [af] (fs st') w' := fun hc => by
    refine hc.mono ?_
    rintro e w' ⟨rfl, hch⟩
    exact ⟨[.string ⟨l.toArray⟩], { encSt bstr_si [keepF bstr_si] l with n := 1, env := [(0, .str l)], bl := [], tk := [] }, m, rfl, fun _ _ => rfl, rfl, rel_end hr hch (by simp only [Rep]; exact ⟨trivial, hlen⟩)⟩
  refine done ?_
  rcases htk with ⟨rfl, _, rfl⟩ | ⟨g, cap, cur, rfl, ht, hg, hcs, hle, hcm⟩
  · refine (str_nil (m.bl 0) w c1).mono ?_
    rintro e w' ⟨rfl, rfl⟩
    exact ⟨rfl, Chg.drew _ w⟩
  · have ht : m.tk 0 = some (g, l.length * 1) := ht
    have hel : (vx cx m (fs (encSt bstr_si [keepF bstr_si] l)) w).el .byte = 5 := by
      show cx.el .byte = _
      rw [h2]; rfl
    rw [hel] at hg
    have hg : w.heap[g]? = some (.cells cur 5 (0, 0)) := hg
    have hcs : cur.size = cap * 1 := hcs
    by_cases hl0 : l = []
    · subst hl0
      by_cases hc0 : cap = 0
      · subst hc0
        refine (str_noroom (m.bl 0) g w cur hblt c1 hg).mono ?_
        rintro e w' ⟨rfl, hch⟩
        exact ⟨rfl, hch.mono fun _ _ h => h.elim⟩
      · refine (str_some (m.bl 0) g cap 0 w .empty hc0 c1 (us_none _ _)).mono ?_
        rintro e w' ⟨rfl, rfl⟩
        exact ⟨rfl, Chg.drew _ w⟩
    · have hcells : ∀ (j : Nat) x, l[j]? = some x → w.cell? ⟨g, j, none⟩ = some (.int .u8 x.toNat) := fun j x hj => by
        obtain ⟨a', cap', e1, h | ⟨b0, o0, e2, _, h4⟩⟩ := hrf.here.slice
        · exact absurd h hl0
        · simp only [Value.slice.injEq] at e1
          rw [e2] at e1
          simp only [Option.some.injEq, Addr.mk.injEq] at e1
          obtain ⟨⟨rfl, rfl, _⟩, _⟩ := e1
          obtain ⟨u, hu, hf⟩ := h4 j x hj 0 _ rfl
          have e3 : 0 + j * csz .byte + 0 = j := by simp [csz]
          rw [e3] at hu
          cases hf
          exact hu
      have hn0 : l.length ≠ 0 := fun e => hl0 (List.eq_nil_of_length_eq_zero e)
      have hUS := Lib.run_unsafeString_row w.drew 148 3 9 5 Tryz.underlying148 cellsByte g cur.size (by have hg' : w.drew.heap[g]? = some (.cells cur 5 (0, 0)) := hg; simp [World.shape?, hg']) l hl0 (by omega) (by unfold maxLen at hcm; omega) (fun j x hj => by
        have e : (⟨g, 0, none⟩ : Addr).add j = ⟨g, j, none⟩ := by
          unfold Addr.add
          by_cases hj0 : j = 0
          · subst hj0; simp
          · simp [hj0]
        rw [e]
        exact hcells j x hj)
      refine (str_some (m.bl 0) g cap l.length w ⟨l.toArray⟩ (by omega) c1 hUS).mono ?_
      rintro e w' ⟨rfl, rfl⟩
      refine ⟨rfl, (Chg.drew _ w).trans ((chg_freeze w.drew g l.length (l.length * 1)).mono fun b i hi => ?_)⟩
      obtain ⟨rfl, hi⟩ := hi
      exact .inr ⟨0, l.length * 1, by simp [fs, encSt, bstr_si, Sig.sgs, zipE, owns, Bs.sgs, owSg], ht, hi⟩
/-! ## (*strings.Builder).WriteString -/
def bwrite_si : Sig := ⟨2, [(1, .str)], [(0, .ptr 0 0)], [(0, .bld 82)], 1, 1, 0, [], []⟩
def bwrite_so : Sig := ⟨2, [], [], [(0, .bld 82)], 1, 1, 0, [], []⟩
abbrev bwrite_I := Str × List UInt8
abbrev bwrite_O := List UInt8
def bwrite_px (R : Type) : Px R := ⟨ttOf ttL, glT, callT [(152, callCC bldTs)], callQT [], loopT []⟩
def bwrite_body (x : bwrite_I) : Option (bwrite_O) := match x with
 | (s, out) =>
  chk (decide (out.length + s.length ≤ maxApp)) (
   some (out ++ s))
theorem bwrite_eq : ∀ (x : bwrite_I), runLn (bwrite_px _) Tryz.f104 bwrite_si bwrite_so x some = bwrite_body x
  | (s, out) => by kernel_rfl
theorem bwrite_run : FnLn Tryz.prog elT glT 104 bwrite_si bwrite_so (bwrite_body) := by
  refine fnLn_run Tryz.func104 rfl (by kernel_rfl) follows (by kernel_rfl) (n := 0) (by kernel_rfl) (px := bwrite_px _) (fun cx hP hel hgl => ?_) (bwrite_eq)
  have hp0 : PxOk cx (bwrite_px (bwrite_O)) := ⟨fun t => by rw [hP, hel]; exact tt_ok ttL_ok t, by rw [hgl]; rfl⟩
  have hc0 : CallOk cx (bwrite_px (bwrite_O)) := callT_ok rfl (cfs_cons (cf_cc (by rw [hP]; exact cc_enters) (by rw [hP]; exact cc_ok)) cfs_nil)
  have hq0 : CallQOk cx (bwrite_px (bwrite_O)) := callQT_ok rfl cqfs_nil
  exact ⟨hp0, hc0, hq0, all0⟩
def bwrite (s out : Str) : Option Str := if out.length + s.length ≤ maxApp then some (out ++ s) else none
def bwrite_F : bwrite_I → Option bwrite_O := fun x => bwrite x.1 x.2
theorem bwrite_ok : FnLn Tryz.prog elT glT 104 bwrite_si bwrite_so bwrite_F := .fin0 bwrite_run fun (s, out) r hb hx => by
  simp only [bwrite_F, bwrite] at hx
  split at hx
  · rename_i h
    simp only [bwrite_body]
    rw [decide_eq_true h]
    exact hx
  · cases hx
end Go.Proofs.YthndhaolemgbdaaGreatDoor

/- The library's facts behind Lays.n156 at this seat's program. -/
namespace Go.Proofs
open Go.Shelf
def Tryz.laysRJ_ren : Go.Shelf.Ren := ⟨fun | 156 => 105 | 165 => 153 | 166 => 104 | 169 => 41 | 240 => 152 | 241 => 173 | 276 => 172 | 277 => 190 | n => n, fun | 0 => 0 | 3 => 3 | 4 => 4 | 5 => 5 | 9 => 9 | 20 => 20 | 31 => 34 | 37 => 78 | 70 => 77 | 72 => 80 | 75 => 153 | 76 => 154 | 80 => 84 | 127 => 148 | 164 => 205 | n => n, fun n => n⟩
theorem Tryz.laysRJ : Go.Proofs.Lays.n156 Tryz.prog Tryz.laysRJ_ren := {
  mixed := by kernel_rfl
  f156 := Tryz.func105.trans (congrArg some (by kernel_rfl))
  f165 := Tryz.func153.trans (congrArg some (by kernel_rfl))
  f166 := Tryz.func104.trans (congrArg some (by kernel_rfl))
  f169 := Tryz.func41.trans (congrArg some (by kernel_rfl))
  f240 := Tryz.func152.trans (congrArg some (by kernel_rfl))
  f241 := Tryz.func173.trans (congrArg some (by kernel_rfl))
  f276 := Tryz.func172.trans (congrArg some (by kernel_rfl))
  f277 := Tryz.func190.trans (congrArg some (by kernel_rfl))
  t0 := Tryz.underlying0
  a0 := Tryz.isAgg0
  z0 := Tryz.sizeOf0
  v0 := Tryz.zeroValue0
  t3 := Tryz.underlying3
  a3 := Tryz.isAgg3
  z3 := Tryz.sizeOf3
  v3 := Tryz.zeroValue3
  t4 := Tryz.underlying4
  a4 := Tryz.isAgg4
  z4 := Tryz.sizeOf4
  v4 := Tryz.zeroValue4
  t9 := Tryz.underlying9
  a9 := Tryz.isAgg9
  z9 := Tryz.sizeOf9
  v9 := Tryz.zeroValue9
  t20 := Tryz.underlying20
  a20 := Tryz.isAgg20
  z20 := Tryz.sizeOf20
  v20 := Tryz.zeroValue20
  t31 := Tryz.underlying34
  a31 := Tryz.isAgg34
  z31 := Tryz.sizeOf34
  v31 := Tryz.zeroValue34
  t37 := Tryz.underlying78
  a37 := Tryz.isAgg78
  z37 := Tryz.sizeOf78
  v37 := Tryz.zeroValue78
  t70 := Tryz.underlying77
  a70 := Tryz.isAgg77
  z70 := Tryz.sizeOf77
  v70 := Tryz.zeroValue77
  t72 := Tryz.underlying80
  a72 := Tryz.isAgg80
  z72 := Tryz.sizeOf80
  v72 := Tryz.zeroValue80
  t75 := Tryz.underlying153
  a75 := Tryz.isAgg153
  z75 := Tryz.sizeOf153
  v75 := Tryz.zeroValue153
  t76 := Tryz.underlying154
  a76 := Tryz.isAgg154
  z76 := Tryz.sizeOf154
  v76 := Tryz.zeroValue154
  t127 := Tryz.underlying148
  a127 := Tryz.isAgg148
  z127 := Tryz.sizeOf148
  v127 := Tryz.zeroValue148
  t164 := Tryz.underlying205
  a164 := Tryz.isAgg205
  z164 := Tryz.sizeOf205
  v164 := Tryz.zeroValue205 }
theorem Tryz.extraRJ : Builder.Extra Tryz.prog Tryz.laysRJ_ren := {
  sizeBuilder := by kernel_rfl
  liesBuilder := by kernel_rfl
  t5 := Tryz.underlying5
  a5 := Tryz.isAgg5
  z5 := Tryz.sizeOf5
  v5 := Tryz.zeroValue5
  infoByte := by kernel_rfl
  cellsByte := by kernel_rfl
  sizeByte := by kernel_rfl
  neB5 := by decide }
end Go.Proofs

/- strings.Join, by the library's contract. -/
namespace Go.Proofs.YthndhaolemgbdaaGreatDoor
open Go.Ax Go.RowKit
def sjoin (l : List Str) (sep : Str) : Option Str := if l.length ≤ 1000000 ∧ (Lib.join l sep).length ≤ 1000000000 then some (Lib.join l sep) else none
def sjoin_F : FT [.sl .str false, .str] [.str] := fun x => sjoin x.1 x.2
theorem sjoin_ok : FnOk Tryz.prog elT glT 105 [.sl .str false, .str] [.str] sjoin_F := by
  refine ⟨Sx.enters_of Tryz.func105 rfl (by kernel_rfl), fun x r hx w M vs hM hgl hr => ?_⟩
  obtain ⟨l, sep⟩ := x
  simp only [sjoin_F, sjoin] at hx
  split at hx
  case isFalse => cases hx
  rename_i hc
  obtain ⟨h1, h2⟩ := hc
  obtain rfl := Option.some.inj hx
  simp only [encL, enc1, Reps, Rep] at hr
  obtain ⟨u, us, rfl, ⟨hrf, _⟩, u2, us2, rfl, ⟨rfl, _⟩, rfl⟩ := hr
  have key : Calls Tryz.prog 105 #[u, .string ⟨sep.toArray⟩] w fun e w' => e = .returned (.string ⟨(Lib.join l sep).toArray⟩) ∧ Below w.heap.size w w' := by
    obtain ⟨a, cap, rfl, h⟩ := hrf.here.slice
    rcases h with rfl | ⟨b, o, rfl, ⟨hle, hcm⟩, hat⟩
    · have c := Any.strings_Join_none Tryz.laysRJ Tryz.extraRJ a cap ⟨sep.toArray⟩ w
      refine Calls.mono (show Calls Tryz.prog 105 _ w _ from c) ?_
      rintro e w' ⟨rfl, rfl⟩
      exact ⟨rfl, Below.refl _ _⟩
    · by_cases hl : l = []
      · subst hl
        have c := Any.strings_Join_none Tryz.laysRJ Tryz.extraRJ (some ⟨b, o, none⟩) cap ⟨sep.toArray⟩ w
        refine Calls.mono (show Calls Tryz.prog 105 _ w _ from c) ?_
        rintro e w' ⟨rfl, rfl⟩
        exact ⟨rfl, Below.refl _ _⟩
      · have hcell : ∀ (j : Nat) x, l[j]? = some x → w.cell? ⟨b, o + j, none⟩ = some (.string ⟨x.toArray⟩) := fun j x hj => by
          obtain ⟨u, hu, hf⟩ := hat j x hj 0 _ rfl
          have e3 : o + j * csz .str + 0 = o + j := by simp [csz]
          rw [e3] at hu
          cases hf
          exact hu
        have hb : b < w.heap.size := by
          cases l with
          | nil => exact absurd rfl hl
          | cons x l => exact cell_lt (hcell 0 x rfl)
        have em : (l.map fun s => (⟨s.toArray⟩ : ByteArray)).map (·.data.toList) = l := by
          rw [List.map_map]
          simp [Function.comp_def]
        have es : (⟨sep.toArray⟩ : ByteArray).data.toList = sep := by simp
        have c := Any.strings_Join Tryz.laysRJ Tryz.extraRJ b o cap (l.map fun s => ⟨s.toArray⟩) ⟨sep.toArray⟩ w (fun j x hj => by
          rw [List.getElem?_map] at hj
          obtain ⟨y, hy, rfl⟩ := Option.map_eq_some_iff.1 hj
          exact hcell j y hy) hb (by rw [List.length_map]; omega) (by rw [List.length_map]; exact hle) (by rw [em, es]; omega)
        rw [em, es, List.length_map] at c
        exact c
  refine key.mono ?_
  rintro en w' ⟨rfl, hbel⟩
  refine ⟨_, ⟨fun _ => 0, fun _ => Option.none⟩, rfl, Chg.of_below hbel, fun p g o hp => (by simp [owns] at hp), fun p q g o o2 hp => (by simp [owns] at hp), ?_⟩
  simp only [pack, encL, enc1, Rep]
  exact ⟨trivial, by simp only [maxLen]; omega⟩
end Go.Proofs.YthndhaolemgbdaaGreatDoor
