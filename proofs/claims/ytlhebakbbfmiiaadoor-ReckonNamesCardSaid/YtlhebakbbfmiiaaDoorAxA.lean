/- Ax, part A: the plain data: the kinds of elements (Ck), what they are in Lean (El), the machine's values (D), and how a typed datum is a row of cells. -/
import Derived.WalkKit
namespace Go.Ax

abbrev Str := List UInt8
structure Val where
  kind : Int
  n : Int
  s : Str
  deriving DecidableEq
structure Tok where
  kind : Int
  pos : Int
  s : Str
  n : Int
  deriving DecidableEq
structure Col where
  name : Str
  kind : Int
  notNull : Bool
  unique : Bool
  ref : Str
  deriving DecidableEq
inductive Xpr where
  | mk (kind : Int) (v : Val) (name : Str) (l : List Xpr)
def Xpr.kind : Xpr → Int | .mk k _ _ _ => k
def Xpr.v : Xpr → Val | .mk _ v _ _ => v
def Xpr.name : Xpr → Str | .mk _ _ n _ => n
def Xpr.l : Xpr → List Xpr | .mk _ _ _ l => l
structure Num where
  minus : Bool
  d : List Int

/-- the kinds of elements -/
inductive Ck where
  | byte | int | u64 | str | bool | val | tok | col | expr | num | vals | exprs | strs | bytes
  deriving DecidableEq
@[reducible] def El : Ck → Type
  | .byte => UInt8
  | .int => Int
  | .u64 => Int
  | .str => Str
  | .bool => Bool
  | .val => Val
  | .tok => Tok
  | .col => Col
  | .expr => Xpr
  | .num => Num
  | .vals => List Val
  | .exprs => List Xpr
  | .strs => List Str
  | .bytes => List UInt8

/-- the right to append: none; the slice is nil; a right of the call's own -/
inductive Tk where
  | no | nil | id (n : Nat)
/-- THE MACHINE's VALUES. sv: a struct, typed; ep: a pointer to a frozen element; ptr: into a block of the call's own; gp: to a package-level variable; osl: a slice over a row of the call's own; rp: to an element of such a row; rw: an array. -/
inductive D where
  | bool (b : Bool)
  | int (k : IntKind) (n : Int)
  | str (l : Str)
  | sl (c : Ck) (xs : List (El c)) (t : Tk)
  | sv (c : Ck) (x : El c)
  | ep (c : Ck) (x : El c) (off : Nat)
  | ptr (b off : Nat)
  | nilp
  | gp (g : Nat)
  | gm (l : List (Int × Str))
  | osl (b : Nat) (lo len : Int)
  | rp (b : Nat) (c : Ck) (n : Nat) (i : Int)
  | rw (c : Ck) (n : Nat) (xs : List (El c))
  | fn (f : Nat) (caps : List D)
  | nilfn
  | agg (ds : List D)
  | tup (ds : List D)
  | undef

/-- the cells of a datum -/
def enc : (c : Ck) → El c → List D
  | .byte, b => [.int .u8 (b.toNat : Int)]
  | .int, n => [.int .i64 n]
  | .u64, n => [.int .u64 n]
  | .str, s => [.str s]
  | .bool, b => [.bool b]
  | .val, v => [.int .i64 v.kind, .int .i64 v.n, .str v.s]
  | .tok, t => [.int .i64 t.kind, .int .i64 t.pos, .str t.s, .int .i64 t.n]
  | .col, c => [.str c.name, .int .i64 c.kind, .bool c.notNull, .bool c.unique, .str c.ref]
  | .expr, e => [.int .i64 e.kind, .int .i64 e.v.kind, .int .i64 e.v.n, .str e.v.s, .str e.name, .sl .expr e.l .no]
  | .num, n => [.bool n.minus, .sl .int n.d .no]
  | .vals, l => [.sl .val l .no]
  | .exprs, l => [.sl .expr l .no]
  | .strs, l => [.sl .str l .no]
  | .bytes, l => [.sl .byte l .no]
/-- cells as a datum -/
def dec : (c : Ck) → List D → Option (El c)
  | .byte, [.int .u8 n] => some (UInt8.ofNat n.toNat)
  | .int, [.int .i64 n] => some n
  | .u64, [.int .u64 n] => some n
  | .str, [.str s] => some s
  | .bool, [.bool b] => some b
  | .val, [.int .i64 k, .int .i64 n, .str s] => some ⟨k, n, s⟩
  | .tok, [.int .i64 k, .int .i64 a, .str s, .int .i64 n] => some ⟨k, a, s, n⟩
  | .col, [.str a, .int .i64 k, .bool n, .bool u, .str r] => some ⟨a, k, n, u, r⟩
  | .expr, [.int .i64 k, .int .i64 a, .int .i64 n, .str s, .str nm, .sl .expr l _] => some (.mk k ⟨a, n, s⟩ nm l)
  | .num, [.bool m, .sl .int d _] => some ⟨m, d⟩
  | .vals, [.sl .val l _] => some l
  | .exprs, [.sl .expr l _] => some l
  | .strs, [.sl .str l _] => some l
  | .bytes, [.sl .byte l _] => some l
  | _, _ => none
/-- is it a struct? -/
def agg? : Ck → Bool
  | .val | .tok | .col | .expr | .num => true
  | _ => false
def csz : Ck → Nat
  | .val => 3
  | .tok => 4
  | .col => 5
  | .expr => 6
  | .num => 2
  | _ => 1
/-- the zero of a kind -/
def zer : (c : Ck) → El c
  | .byte => 0
  | .int => 0
  | .u64 => 0
  | .str => []
  | .bool => false
  | .val => ⟨0, 0, []⟩
  | .tok => ⟨0, 0, [], 0⟩
  | .col => ⟨[], 0, false, false, []⟩
  | .expr => .mk 0 ⟨0, 0, []⟩ [] []
  | .num => ⟨false, []⟩
  | .vals => []
  | .exprs => []
  | .strs => []
  | .bytes => []
/-- an element as a value of the machine -/
def ofK (c : Ck) (x : El c) : D := match agg? c with
  | true => .sv c x
  | false => match enc c x with
    | d :: _ => d
    | [] => .undef
/-- a value's cells -/
def cells : D → List D
  | .sv c x => enc c x
  | .agg ds => ds
  | d => [d]
/-- a value of the machine as an element -/
def toK (c : Ck) : D → Option (El c)
  | .sv c' x => if h : c' = c then some (h ▸ x) else none
  | .agg ds => match agg? c with
    | true => dec c ds
    | false => none
  | d => match agg? c with
    | true => none
    | false => dec c [d]
/-- a value of the machine as a list -/
def toS (c : Ck) : D → Option (List (El c))
  | .sl c' xs _ => if h : c' = c then some (h ▸ xs) else none
  | _ => none
/-- is it one cell? -/
def lf : D → Bool
  | .sv _ _ | .rw _ _ _ | .agg _ | .tup _ | .undef => false
  | _ => true
def lfs (d : D) : Bool := (cells d).all lf
end Go.Ax
