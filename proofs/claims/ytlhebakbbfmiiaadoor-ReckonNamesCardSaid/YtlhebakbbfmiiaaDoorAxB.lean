/- Ax, part B: the machine: it runs the model's own code over plain data. none: a panic, no room, or a thing that this machine does not do. -/
import Derived.Test.YtlhebakbbfmiiaaDoorAxA
namespace Go.Ax

/-! ## typed lists of values: signatures -/
inductive Sg where
  | int (k : IntKind)
  | bool
  | str
  | sl (c : Ck) (own : Bool)
  | sv (c : Ck)
  | rw (c : Ck) (n : Nat)
@[reducible] def den : Sg → Type
  | .int _ => Int
  | .bool => Bool
  | .str => Str
  | .sl c _ => List (El c)
  | .sv c => El c
  | .rw c _ => List (El c)
@[reducible] def HV : List Sg → Type
  | [] => Unit
  | [a] => den a
  | a :: b :: l => den a × HV (b :: l)
/-- one value; i: its place, which names its right to append -/
def enc1 (i : Nat) : (s : Sg) → den s → D
  | .int k, n => .int k n
  | .bool, b => .bool b
  | .str, l => .str l
  | .sl c true, xs => .sl c xs (.id i)
  | .sl c false, xs => .sl c xs .no
  | .sv c, x => .sv c x
  | .rw c n, xs => .rw c n xs
def encL : (i : Nat) → (l : List Sg) → HV l → List D
  | _, [], _ => []
  | i, [a], x => [enc1 i a x]
  | i, a :: b :: l, (x, y) => enc1 i a x :: encL (i + 1) (b :: l) y
def owns (i : Nat) : List Sg → List Nat
  | [] => []
  | .sl _ true :: l => i :: owns (i + 1) l
  | _ :: l => owns (i + 1) l
/-- take a right -/
def takeTk (al : List Nat) : Tk → Option (List Nat)
  | .no => none
  | .nil => some al
  | .id t => match al.contains t with
    | true => some (al.filter fun u => !Nat.beq u t)
    | false => none
def dec1 (al : List Nat) : (s : Sg) → D → Option (den s × List Nat)
  | .int k, .int k' n => match decide (k' = k) with
    | true => some (n, al)
    | false => none
  | .bool, .bool b => some (b, al)
  | .str, .str l => some (l, al)
  | .sl c own, .sl c' xs t => if h : c' = c then match own with
      | true => match takeTk al t with
        | some al' => some (h ▸ xs, al')
        | none => none
      | false => some (h ▸ xs, al)
    else none
  | .sv c, d => match agg? c, toK c d with
    | true, some x => some (x, al)
    | _, _ => none
  | .rw c n, .rw c' n' xs => if h : c' = c then match Nat.beq n' n with
      | true => some (h ▸ xs, al)
      | false => none
    else none
  | _, _ => none
def decL : (l : List Sg) → List Nat → List D → Option (HV l)
  | [], _, [] => some ()
  | [a], al, [d] => match dec1 al a d with
    | some (x, _) => some x
    | none => none
  | a :: b :: l, al, d :: ds => match dec1 al a d with
    | some (x, al') => match decL (b :: l) al' ds with
      | some y => some (x, y)
      | none => none
    | none => none
  | _, _, _ => none

/-! ## types, states -/
/-- what the machine knows of a type -/
inductive Ty where
  | int (k : IntKind)
  | bool
  | str
  | sl (c : Ck)
  | st (c : Option Ck) (fs : List (Nat × Nat)) (z : List D)
  | arr (n : Nat) (c : Ck)
  | ptr
  | fn
  | map
  | no
def Ty.zero : Ty → Option D
  | .int k => some (.int k 0)
  | .bool => some (.bool false)
  | .str => some (.str [])
  | .sl c => some (.sl c [] .nil)
  | .st _ _ z => some (.agg z)
  | .arr n c => some (.agg ((List.replicate n (enc c (zer c))).flatten))
  | .ptr => some .nilp
  | .fn => some .nilfn
  | _ => none
def Ty.n : Ty → Nat
  | .st _ _ z => z.length
  | .arr n c => n * csz c
  | _ => 1
def Ty.agg? : Ty → Bool
  | .st _ _ _ | .arr _ _ => true
  | _ => false
def Ty.known : Ty → Bool
  | .no | .map => false
  | _ => true
def Ty.isSl (c : Ck) : Ty → Bool
  | .sl c' => decide (c' = c)
  | _ => false
def Ty.isStr : Ty → Bool
  | .str => true
  | _ => false
abbrev Env := List (Nat × D)
def get : Env → Nat → Option D
  | [], _ => none
  | (k, v) :: e, n => match Nat.beq k n with
    | true => some v
    | false => get e n
/-- a block of the call's own: cells; a struct, typed; an array -/
inductive Blk where
  | cells (ds : List D)
  | box (c : Ck) (y : El c)
  | row (c : Ck) (n : Nat) (xs : List (El c))
/-- a caller that waits: its slots; where its own names begin -/
structure Fr where
  n : Nat
  env : Env
  lb : Nat
  lt : Nat
/-- THE STATE: the slots; where this function's own names begin; the callers that wait; the blocks of the call's own, the next one's name; the rights to append, the next one's name. -/
structure St where
  n : Nat
  env : Env
  lb : Nat
  lt : Nat
  fr : List Fr
  bl : List (Nat × Blk)
  nb : Nat
  tk : List Nat
  nt : Nat
def blk : List (Nat × Blk) → Nat → Option Blk
  | [], _ => none
  | (k, v) :: e, n => match Nat.beq k n with
    | true => some v
    | false => blk e n
def setB : List (Nat × Blk) → Nat → Blk → List (Nat × Blk)
  | [], _, _ => []
  | (k, v) :: e, n, u => match Nat.beq k n with
    | true => (k, u) :: e
    | false => (k, v) :: setB e n u
def St.put (st : St) (d : Nat) (v : D) : St := { st with env := (d, v) :: st.env }
inductive Ex where
  | normal
  | exit (id : Nat)
  | ret
/-- a package-level variable: an array; a map from numbers to texts -/
inductive Gv where
  | arr (c : Ck) (xs : List (El c))
  | map (l : List (Int × Str))
/-- what the machine is told: the types; the package-level variables; what calls and loops come to -/
structure Px (R : Type) where
  tt : Nat → Ty
  gl : Nat → Option Gv
  call : Nat → List D → St → (List D → St → Option R) → Option R
  callQ : Nat → List D → (List D → Option R) → Option R
  loop : Code → St → (Ex → St → Option R) → Option R

/-! ## operands -/
def u8ok (k : IntKind) (n : Int) : Bool := decide (k.min ≤ n) && decide (n ≤ k.max)
def strOk (s : ByteArray) : Bool := Nat.ble s.data.toList.length 1048576
def cst1 : D → Value → Option D
  | .int _ _, .int k n => match u8ok k n with
    | true => some (.int k n)
    | false => none
  | .bool _, .bool b => some (.bool b)
  | .str _, .string s => match strOk s with
    | true => some (.str s.data.toList)
    | false => none
  | .sl c _ _, .slice none 0 0 => some (.sl c [] .nil)
  | .nilp, .pointer none => some .nilp
  | .nilfn, .nilFunc => some .nilfn
  | _, _ => none
def cstL : List D → List Value → Option (List D)
  | [], [] => some []
  | z :: zs, v :: vs => match cst1 z v with
    | some d => match cstL zs vs with
      | some ds => some (d :: ds)
      | none => none
    | none => none
  | _, _ => none
def cst (t : Ty) : Value → Option D
  | .int k n => match u8ok k n with
    | true => some (.int k n)
    | false => none
  | .bool b => some (.bool b)
  | .string s => match strOk s with
    | true => some (.str s.data.toList)
    | false => none
  | .slice none 0 0 => match t with
    | .sl c => some (.sl c [] .nil)
    | _ => none
  | .pointer none => some .nilp
  | .nilFunc => some .nilfn
  | .agg cs => match t with
    | .st _ _ z => match cstL z cs.toList with
      | some ds => some (.agg ds)
      | none => none
    | _ => none
  | _ => none
section
variable {R : Type}
def ev (px : Px R) (st : St) (t : Nat) : Operand → Option D
  | .tmp i => get st.env i
  | .const v => cst (px.tt t) v
  | .global g => some (.gp g)
  | .func f => some (.fn f [])
def evs (px : Px R) (st : St) : List Nat → List Operand → Option (List D)
  | _, [] => some []
  | ts, x :: xs => match ev px st (ts.headD 0) x with
    | none => none
    | some v => match evs px st ts.tail xs with
      | none => none
      | some vs => some (v :: vs)

/-! ## operations on values -/
def wr (k : IntKind) (n : Int) : Int := k.wrap n
def bat (l : Str) (i : Int) : Int := ((l.getD i.toNat 0).toNat : Int)
def bits2 (k : IntKind) (f : BitVec k.bits → BitVec k.bits → BitVec k.bits) (x y : Int) : Int := k.wrap ((f (BitVec.ofInt k.bits x) (BitVec.ofInt k.bits y)).toNat : Int)
def iand (k : IntKind) (x y : Int) : Int := bits2 k (· &&& ·) x y
def ior (k : IntKind) (x y : Int) : Int := bits2 k (· ||| ·) x y
def ixor (k : IntKind) (x y : Int) : Int := bits2 k (· ^^^ ·) x y
def iandn (k : IntKind) (x y : Int) : Int := bits2 k (fun a b => a &&& ~~~b) x y
def ishl (k : IntKind) (x y : Int) : Int := k.wrap (x * 2 ^ min y.toNat k.bits)
def ishr (k : IntKind) (x y : Int) : Int := x.fdiv (2 ^ min y.toNat k.bits)
def binI (op : BinOp) (k : IntKind) (x y : Int) : Option (Bool × D) := match op with
  | .add => some (true, .int k (wr k (x + y)))
  | .sub => some (true, .int k (wr k (x - y)))
  | .mul => some (true, .int k (wr k (x * y)))
  | .quo => some (!decide (y = 0), .int k (wr k (x.tdiv y)))
  | .rem => some (!decide (y = 0), .int k (x.tmod y))
  | .and => some (true, .int k (iand k x y))
  | .or => some (true, .int k (ior k x y))
  | .xor => some (true, .int k (ixor k x y))
  | .andNot => some (true, .int k (iandn k x y))
  | .eql => some (true, .bool (decide (x = y)))
  | .neq => some (true, .bool (!decide (x = y)))
  | .lss => some (true, .bool (decide (x < y)))
  | .leq => some (true, .bool (decide (x ≤ y)))
  | .gtr => some (true, .bool (decide (y < x)))
  | .geq => some (true, .bool (decide (y ≤ x)))
  | _ => none
def maxStr : Nat := 4611686018427387904
def binS (op : BinOp) (l m : Str) : Option (Bool × D) := match op with
  | .add => some (decide (l.length + m.length ≤ maxStr), .str (l ++ m))
  | .eql => some (true, .bool (decide (l = m)))
  | .neq => some (true, .bool (!decide (l = m)))
  | .lss => some (true, .bool (Op.bytesLess l m))
  | .leq => some (true, .bool (Op.bytesLess l m || decide (l = m)))
  | .gtr => some (true, .bool (!(Op.bytesLess l m || decide (l = m))))
  | .geq => some (true, .bool (!Op.bytesLess l m))
  | _ => none
/-- are two structs the same? -/
def eqK : (c : Ck) → El c → El c → Option Bool
  | .val, a, b => some (decide (a = b))
  | .tok, a, b => some (decide (a = b))
  | .col, a, b => some (decide (a = b))
  | _, _, _ => none
def eqSt (t : Ty) (a b : D) : Option Bool := match t with
  | .st (some c) _ _ => match toK c a with
    | some x => match toK c b with
      | some y => eqK c x y
      | none => none
    | none => none
  | _ => none
def bin (op : BinOp) (t : Ty) (a b : D) : Option (Bool × D) := match a with
  | .int k x => match b with
    | .int k' y => match op with
      | .shl => some (decide (0 ≤ y), .int k (ishl k x y))
      | .shr => some (decide (0 ≤ y), .int k (ishr k x y))
      | op => match decide (k = k') with
        | true => binI op k x y
        | false => none
    | _ => none
  | .str l => match b with
    | .str m => binS op l m
    | _ => none
  | .bool x => match b with
    | .bool y => match t with
      | .bool => match op with
        | .eql => some (true, .bool (decide (x = y)))
        | .neq => some (true, .bool (!decide (x = y)))
        | _ => none
      | _ => none
    | _ => none
  | _ => match op with
    | .eql => match eqSt t a b with
      | some r => some (true, .bool r)
      | none => none
    | .neq => match eqSt t a b with
      | some r => some (true, .bool (!r))
      | none => none
    | _ => none
def un (op : UnOp) (a : D) : Option D := match op, a with
  | .not, .bool b => some (.bool (!b))
  | .neg, .int k n => some (.int k (wr k (0 - n)))
  | .xor, .int k n => some (.int k (ixor k (match k.signed with | true => -1 | false => k.max) n))
  | _, _ => none
/-- what a map from numbers to texts holds -/
def mget : List (Int × Str) → Int → Str
  | [], _ => []
  | (k, s) :: l, n => match decide (k = n) with
    | true => s
    | false => mget l n
def inb (i : Int) (n : Nat) : Bool := decide (0 ≤ i) && decide (i < (n : Int))
def upto (i j : Int) (n : Nat) : Bool := decide (0 ≤ i) && decide (i ≤ j) && decide (j ≤ (n : Int))
def cut {α : Type} (l : List α) (i j : Int) : List α := (l.drop i.toNat).take (j.toNat - i.toNat)
def at' (c : Ck) (xs : List (El c)) (i : Int) : El c := xs.getD i.toNat (zer c)
/-- cells as elements -/
def decs (c : Ck) : Nat → List D → Option (List (El c))
  | 0, [] => some []
  | 0, _ => none
  | n + 1, ds => match dec c (ds.take (csz c)) with
    | some x => match decs c n (ds.drop (csz c)) with
      | some xs => some (x :: xs)
      | none => none
    | none => none
def toKs (c : Ck) : List D → Option (List (El c))
  | [] => some []
  | d :: ds => match toK c d with
    | some x => match toKs c ds with
      | some xs => some (x :: xs)
      | none => none
    | none => none
/-- a part of a row of cells: one cell, or more -/
def part (t : Ty) (ds : List D) (off : Nat) : Option D := match t.agg? with
  | true => match Nat.ble (off + t.n) ds.length with
    | true => some (.agg ((ds.drop off).take t.n))
    | false => none
  | false => ds[off]?
def write (ds : List D) (off : Nat) : List D → List D
  | [] => ds
  | v :: vs => write (ds.set off v) (off + 1) vs
def maxApp : Nat := 274877906944
def chk (b : Bool) (x : Option R) : Option R := cond b x none

/-! ## operations -/
def load (_px : Px R) (st : St) (t : Ty) : D → Option D
  | .ep c x off => match Nat.beq off 0 && Nat.beq t.n (csz c) && (t.agg? == agg? c) with
    | true => some (ofK c x)
    | false => part t (enc c x) off
  | .ptr b off => match blk st.bl b with
    | some (.cells ds) => part t ds off
    | some (.box c x) => match Nat.beq off 0 && Nat.beq t.n (csz c) && (t.agg? == agg? c) with
      | true => some (ofK c x)
      | false => part t (enc c x) off
    | _ => none
  | .rp b c0 n0 i => match blk st.bl b with
    | some (.row c n xs) => match Nat.beq t.n (csz c) && (t.agg? == agg? c) && decide (c0 = c) && Nat.beq n0 n with
      | true => some (ofK c (at' c xs i))
      | false => none
    | _ => none
  | _ => none
def fldT (px : Px R) (s f : Nat) : Option (Nat × Ty) := match px.tt s with
  | .st _ fs _ => match fs[f]? with
    | some (o, u) => some (o, px.tt u)
    | none => none
  | _ => none
def fillP (px : Px R) (s : Nat) (z : List D) : List (Nat × D) → Option (List D)
  | [] => some z
  | (f, d) :: l => match fldT px s f with
    | some (o, u) => match Nat.beq (cells d).length u.n && Nat.ble (o + (cells d).length) z.length && lfs d && u.known with
      | true => fillP px s (write z o (cells d)) l
      | false => none
    | none => none
def fldId (px : Px R) (s f : Nat) : Nat := match px.tt s with
  | .st _ fs _ => match fs[f]? with
    | some (_, u) => u
    | none => 0
  | _ => 0
def evps (px : Px R) (st : St) (s : Nat) : List (Nat × Operand) → Option (List (Nat × D))
  | [] => some []
  | (i, x) :: xs => match ev px st (fldId px s i) x with
    | none => none
    | some v => match evps px st s xs with
      | none => none
      | some vs => some ((i, v) :: vs)
/-- the operands of a row's literal, in order -/
def evrow (px : Px R) (st : St) : Nat → List (Nat × Operand) → Option (List D)
  | _, [] => some []
  | i, (j, x) :: xs => match Nat.beq i j with
    | true => match ev px st 0 x with
      | none => none
      | some v => match evrow px st (i + 1) xs with
        | none => none
        | some vs => some (v :: vs)
    | false => none
/-- the block that a value is laid into -/
def boxed : D → Blk
  | .sv c y => .box c y
  | d => .cells (cells d)
def newTk (st : St) : St := { st with tk := st.nt :: st.tk, nt := st.nt + 1 }
def newB (st : St) (b : Blk) : St := { st with bl := (st.nb, b) :: st.bl, nb := st.nb + 1 }
def pack : List D → D
  | [d] => d
  | ds => .tup ds
def appendK (st : St) (c : Ck) (s x : D) (K : D → St → Option R) : Option R := match s with
  | .sl c' xs t => if h : c' = c then match takeTk st.tk t with
      | none => none
      | some al => match toS c x with
        | none => none
        | some ys => chk (decide (xs.length + ys.length ≤ maxApp)) (K (.sl c ((h ▸ xs : List (El c)) ++ ys) (.id st.nt)) (newTk { st with tk := al }))
    else none
  | _ => none
def sliceS (l : Str) (lo hi : Option D) (K : D → Option R) : Option R := match lo, hi with
  | some (.int _ i), none => chk (upto i l.length l.length) (K (.str (l.drop i.toNat)))
  | none, some (.int _ j) => chk (upto 0 j l.length) (K (.str (l.take j.toNat)))
  | some (.int _ i), some (.int _ j) => chk (upto i j l.length) (K (.str (cut l i j)))
  | _, _ => none
def sliceL (c : Ck) (l : List (El c)) (lo hi : Option D) (K : D → Option R) : Option R := match lo, hi with
  | none, none => K (.sl c l .no)
  | some (.int _ i), none => chk (upto i l.length l.length) (K (.sl c (l.drop i.toNat) .no))
  | none, some (.int _ j) => chk (upto 0 j l.length) (K (.sl c (l.take j.toNat) .no))
  | some (.int _ i), some (.int _ j) => chk (upto i j l.length) (K (.sl c (cut l i j) .no))
  | _, _ => none
def sliceQ (px : Px R) (ty : Ty) (x : D) (lo hi : Option D) (K : D → Option R) : Option R := match x with
  | .str l => match ty.isStr with
    | true => sliceS l lo hi K
    | false => none
  | .sl c l _ => match ty.isSl c with
    | true => sliceL c l lo hi K
    | false => none
  | .gp g => match px.gl g, ty, lo, hi with
    | some (.arr c xs), .arr n c', none, none => match Nat.beq xs.length n && decide (c = c') && Nat.ble n 1048576 with
      | true => K (.sl c xs .no)
      | false => none
    | _, _, _, _ => none
  | _ => none
def min2 (x y : Int) : Int := if y < x then y else x
def max2 (x y : Int) : Int := if x < y then y else x
def builtinQ (ty : Ty) (b : Builtin) (args : List D) : Option D := match b, args with
  | .len, [.str l] => match ty.isStr with
    | true => some (.int .i64 l.length)
    | false => none
  | .len, [.sl c xs _] => match ty.isSl c with
    | true => some (.int .i64 xs.length)
    | false => none
  | .min, [.int k x, .int k' y] => match decide (k = k') with
    | true => some (.int k (min2 x y))
    | false => none
  | .max, [.int k x, .int k' y] => match decide (k = k') with
    | true => some (.int k (max2 x y))
    | false => none
  | _, _ => none
def evo (px : Px R) (st : St) : Option Operand → Option (Option D)
  | none => some none
  | some x => match ev px st 0 x with
    | some d => some (some d)
    | none => none
/-- ONE OPERATION that yields a value and leaves all else as it is. -/
def stepQ (px : Px R) (o : Oper) (st : St) (K : D → Option R) : Option R := match o.op with
  | .move x => match ev px st o.type x with
    | some d => K d
    | none => none
  | .assign x => match ev px st o.type x with
    | some d => K d
    | none => none
  | .pick c a b => match ev px st 0 c, ev px st o.type a, ev px st o.type b with
    | some (.bool x), some u, some v => cond x (K u) (K v)
    | _, _, _ => none
  | .build t ps => match px.tt t with
    | .st _ _ z => match evps px st t ps.toList with
      | some l => match fillP px t z l with
        | some ds => K (.agg ds)
        | none => none
      | none => none
    | .arr n c => match evrow px st 0 ps.toList with
      | some l => match Nat.beq l.length n && l.all fun d => lfs d && Nat.beq (cells d).length (csz c) with
        | true => K (.agg ((l.map cells).flatten))
        | false => none
      | none => none
    | _ => none
  | .load t x => match ev px st 0 x with
    | some (.gp g) => match px.tt t, px.gl g with
      | .map, some (.map l) => K (.gm l)
      | _, _ => none
    | some p => match (px.tt t).known, load px st (px.tt t) p with
      | true, some d => K d
      | _, _ => none
    | none => none
  | .nilCheck x => match ev px st 0 x with
    | some (.ptr b o) => K (.ptr b o)
    | some (.ep c x o) => K (.ep c x o)
    | some (.gp g) => K (.gp g)
    | some (.rp b c n i) => K (.rp b c n i)
    | some (.fn f cs) => K (.fn f cs)
    | _ => none
  | .binOp op t x y t' => match ev px st t x, ev px st t' y with
    | some a, some b => match bin op (px.tt t) a b with
      | some (c, d) => chk c (K d)
      | none => none
    | _, _ => none
  | .unOp op t x => match ev px st t x with
    | some a => match un op a with
      | some d => K d
      | none => none
    | none => none
  | .convert s t x => match ev px st s x, px.tt t with
    | some (.int _ n), .int k => match (px.tt s).known with
      | true => K (.int k (wr k n))
      | false => none
    | some (.str l), .str => match (px.tt s).known with
      | true => K (.str l)
      | false => none
    | some (.sl .byte xs _), .str => match (px.tt s).isSl .byte with
      | true => K (.str xs)
      | false => none
    | _, _ => none
  | .slice t x lo hi none => match ev px st t x, evo px st lo, evo px st hi with
    | some d, some i, some j => sliceQ px (px.tt t) d i j K
    | _, _, _ => none
  | .fieldAddr s x f => match ev px st 0 x, fldT px s f with
    | some (.ptr b o), some (fo, _) => K (.ptr b (o + fo))
    | some (.ep c x o), some (fo, _) => K (.ep c x (o + fo))
    | _, _ => none
  | .field s x f => match ev px st s x, fldT px s f with
    | some d, some (fo, u) => match u.known && lfs d && (match d with | .sv _ _ => true | .agg _ => true | _ => false), part u (cells d) fo with
      | true, some v => K v
      | _, _ => none
    | _, _ => none
  | .indexAddr t x y => match ev px st t x, ev px st 0 y with
    | some (.sl c xs _), some (.int _ i) => match (px.tt t).isSl c with
      | true => chk (inb i xs.length) (K (.ep c (at' c xs i) 0))
      | false => none
    | some (.gp g), some (.int _ i) => match px.gl g, px.tt t with
      | some (.arr c xs), .arr n c' => match Nat.beq xs.length n && decide (c = c') with
        | true => chk (inb i n) (K (.ep c (at' c xs i) 0))
        | false => none
      | _, _ => none
    | some (.ptr b 0), some (.int _ i) => match blk st.bl b, px.tt t with
      | some (.row c n' _), .arr n c' => match decide (c = c') && Nat.beq n' n with
        | true => chk (inb i n) (K (.rp b c n i))
        | false => none
      | _, _ => none
    | _, _ => none
  | .index t x y => match ev px st t x, ev px st 0 y with
    | some (.str l), some (.int _ i) => match (px.tt t).isStr with
      | true => chk (inb i l.length) (K (.int .u8 (bat l i)))
      | false => none
    | some (.agg ds), some (.int _ i) => match px.tt t with
      | .arr n c => match decs c n ds with
        | some xs => chk (inb i n) (K (ofK c (at' c xs i)))
        | none => none
      | _ => none
    | _, _ => none
  | .lookup t x y false => match ev px st 0 x, ev px st 0 y, px.tt t with
    | some (.gm l), some (.int .i64 i), .map => K (.str (mget l i))
    | _, _, _ => none
  | .extract x i => match ev px st 0 x with
    | some (.tup ds) => match ds[i]? with
      | some d => K d
      | none => none
    | _ => none
  | .makeFunc (.func f) ⟨[]⟩ ⟨cs⟩ => match evs px st [] cs with
    | some ds => K (.fn f ds)
    | none => none
  | .call ⟨.builtin b, xs, ts⟩ => match evs px st ts.toList xs.toList with
    | some ds => match builtinQ (px.tt (ts.toList.headD 0)) b ds with
      | some d => K d
      | none => none
    | none => none
  | _ => none
/-- ONE OPERATION that yields a value. -/
def step (px : Px R) (o : Oper) (st : St) (K : D → St → Option R) : Option R := match o.op with
  | .alloc t => match px.tt t with
    | .arr n c => K (.ptr st.nb 0) (newB st (.row c n (List.replicate n (zer c))))
    | ty => match ty.zero with
      | some z => K (.ptr st.nb 0) (newB st (.cells (cells z)))
      | none => none
  | .box t x => match ev px st t x with
    | some d => match lfs d with
      | true => K (.ptr st.nb 0) (newB st (boxed d))
      | false => none
    | none => none
  | .buildSlice t len ps => match px.tt t with
    | .sl c => match evrow px st 0 ps.toList with
      | some l => match Nat.beq l.length len && Nat.ble (len * csz c) 16777216, toKs c l with
        | true, some xs => K (.sl c xs (.id st.nt)) (newTk st)
        | _, _ => none
      | none => none
    | _ => none
  | .convert s t x => match ev px st s x, px.tt t with
    | some (.str l), .sl .byte => match (px.tt s).isStr with
      | true => chk (decide (l.length ≤ maxApp)) (K (.sl .byte l .no) st)
      | false => none
    | _, _ => stepQ px o st fun d => K d st
  | .call ⟨.builtin .append, ⟨[x, y]⟩, ⟨[t, t']⟩⟩ => match px.tt t, ev px st t x, ev px st t y, Nat.beq t t' with
    | .sl c, some s, some d, true => appendK st c s d K
    | _, _, _, _ => none
  | .call ⟨.value f, xs, ts⟩ => match ev px st 0 f with
    | some (.fn g caps) => match evs px st ts.toList xs.toList with
      | some ds => px.call g (ds ++ caps) st fun rs st' => K (pack rs) st'
      | none => none
    | _ => none
  | _ => stepQ px o st fun d => K d st
def strip : D → D
  | .sl c xs _ => .sl c xs .no
  | d => d
/-- the same, in a region that draws its order -/
def stepD (px : Px R) (o : Oper) (st : St) (K : D → St → Option R) : Option R := match o.op with
  | .buildSlice _ _ _ => step px o st fun d _ => K (strip d) st
  | .convert _ _ _ => step px o st fun d _ => K (strip d) st
  | .alloc _ => match blk st.bl st.nb with
    | none => step px o st K
    | some _ => none
  | .call ⟨.value f, xs, ts⟩ => match ev px st 0 f with
    | some (.fn g caps) => match evs px st ts.toList xs.toList with
      | some ds => px.callQ g (ds ++ caps) fun rs => K (pack (rs.map strip)) st
      | none => none
    | _ => none
  | _ => step px o st K
/-- a store -/
def stepN (px : Px R) (o : Oper) (st : St) (K : St → Option R) : Option R := match o.op with
  | .store t x y => match ev px st 0 x, ev px st t y with
    | some (.ptr b off), some d => match (match blk st.bl b with
        | some (.cells ds) => some ds
        | some (.box c y) => some (enc c y)
        | _ => none) with
      | some ds => match Nat.beq (cells d).length (px.tt t).n && Nat.ble (off + (cells d).length) ds.length && lfs d && (px.tt t).known with
        | true => K { st with bl := setB st.bl b (.cells (write ds off (cells d))) }
        | false => none
      | _ => none
    | some (.rp b c0 n0 i), some d => match blk st.bl b with
      | some (.row c n xs) => match toK c d, Nat.beq (px.tt t).n (csz c) && decide (c0 = c) && Nat.beq n0 n && (px.tt t).known with
        | some x, true => K { st with bl := setB st.bl b (.row c n (xs.set i.toNat x)) }
        | _, _ => none
      | _ => none
    | _, _ => none
  | _ => none
def one (px : Px R) (dr : Bool) (o : Oper) (st : St) (K : St → Option R) : Option R := match o.dst with
  | some d => match Nat.blt d st.n with
    | true => match dr with
      | false => step px o st fun v st' => K (st'.put d v)
      | true => stepD px o st fun v st' => K (st'.put d v)
    | false => none
  | none => stepN px o st K
def off (o : Oper) (st : St) : St := match o.dst with
  | some d => st.put d .undef
  | none => st
/-- A REGION's OPERATIONS, in the text's order. -/
def ops (px : Px R) (dr : Bool) (all : Array Oper) : List Oper → St → (St → Option R) → Option R
  | [], st, K => K st
  | o :: l, st, K => match o.guard with
    | none => one px dr o st fun st' => ops px dr all l st' K
    | some (j, b) => match (all[j]?).bind (·.dst) with
      | none => none
      | some g => match get st.env g with
        | some (.bool x) => cond x
            (match b with
              | true => one px dr o (st.put g (.bool true)) fun st' => ops px dr all l st' K
              | false => ops px dr all l (off o (st.put g (.bool true))) K)
            (match b with
              | false => one px dr o (st.put g (.bool false)) fun st' => ops px dr all l st' K
              | true => ops px dr all l (off o (st.put g (.bool false))) K)
        | some .undef => ops px dr all l (off o st) K
        | _ => none
/-- CODE. -/
def exec (px : Px R) : Code → St → (Ex → St → Option R) → Option R
  | .skip, st, K => K .normal st
  | .region _ os dr, st, K => ops px dr os os.toList st (K .normal)
  | .seq a b, st, K => exec px a st fun e st' => match e with
    | .normal => exec px b st' K
    | e => K e st'
  | .cond c a b, st, K => match ev px st 0 c with
    | some (.bool x) => cond x (exec px a st K) (exec px b st K)
    | _ => none
  | .block id b, st, K => exec px b st fun e st' => match e with
    | .exit i => match Nat.beq i id with
      | true => K .normal st'
      | false => K e st'
    | e => K e st'
  | .loop b, st, K => px.loop b st K
  | .exit id, st, K => K (.exit id) st
  | .scope b, st, K => exec px b st K
  | .label _, st, K => K .normal st
  | .ret, st, K => K .ret st
  | _, _, _ => none

/-! ## functions -/
def envOf : Nat → List D → Env
  | _, [] => []
  | i, v :: vs => (i, v) :: envOf (i + 1) vs
def results (px : Px R) (st : St) : List ResultVar → Option (List D)
  | [] => some []
  | .tmp t :: l => match get st.env t, results px st l with
    | some d, some ds => some (d :: ds)
    | _, _ => none
  | .cell a t :: l => match get st.env a with
    | some p => match (px.tt t).known, load px st (px.tt t) p, results px st l with
      | true, some d, some ds => some (d :: ds)
      | _, _, _ => none
    | none => none
/-- the machine's state as a function begins -/
def st0 (n : Nat) (sa : List Sg) (x : HV sa) : St := ⟨n, envOf 0 (encL 0 sa x), 0, 0, [], [], 0, owns 0 sa, sa.length⟩
/-- A FUNCTION of no lent memory, as a whole. -/
def runF (px : Px R) (fn : Func) (sa sr : List Sg) (x : HV sa) (fin : HV sr → Option R) : Option R := match fn.body with
  | some c => exec px c (st0 fn.ntmps sa x) fun e st => match e with
    | .ret => match results px st fn.results.toList with
      | some rs => match decL sr st.tk rs with
        | some r => fin r
        | none => none
      | none => none
    | _ => none
  | none => none
/-- a call, by what is known of the callee -/
def callOr (sa sr : List Sg) (F : HV sa → Option (HV sr)) (args : List D) (st : St) (K : List D → St → Option R) : Option R := match decL sa st.tk args with
  | some x => (F x).bind fun r => K (encL st.nt sr r) { st with tk := owns st.nt sr ++ st.tk, nt := st.nt + sr.length }
  | none => none
def callOrQ (sa sr : List Sg) (F : HV sa → Option (HV sr)) (args : List D) (K : List D → Option R) : Option R := match decL sa [] args with
  | some x => (F x).bind fun r => K (encL 0 sr r)
  | none => none
/-- a call, by running the callee's code -/
def callIn (px : Px R) (fn : Func) (args : List D) (st : St) (K : List D → St → Option R) : Option R := match fn.body with
  | some c => exec px c { st with n := fn.ntmps, env := envOf 0 args, lb := st.nb, lt := st.nt, fr := ⟨st.n, st.env, st.lb, st.lt⟩ :: st.fr } fun e st' => match e with
    | .ret => match results px st' fn.results.toList, st'.fr with
      | some rs, f :: fr => K rs { st' with n := f.n, env := f.env, lb := f.lb, lt := f.lt, fr := fr }
      | _, _ => none
    | _ => none
  | none => none

/-! ## loops -/
/-- a loop's state: slots; blocks, each a row of cells, or an array -/
inductive Bs where
  | cells (l : List Sg)
  | one (s : Sg)
def Bs.sgs : Bs → List Sg
  | .cells l => l
  | .one s => [s]
def blkD : Blk → D
  | .cells ds => .agg ds
  | .box c y => .sv c y
  | .row c n xs => .rw c n xs
structure Sig where
  n : Nat
  vars : List (Nat × Sg)
  fix : List (Nat × D)
  bl : List (Nat × Bs)
  nb : Nat
  lb : Nat
  lt : Nat
  tk : List Nat
def Sig.sgs (s : Sig) : List Sg := s.vars.map (·.2) ++ (s.bl.map (·.2.sgs)).flatten
def gather (env : Env) : List (Nat × Sg) → Option (List D)
  | [] => some []
  | (k, _) :: l => match get env k, gather env l with
    | some d, some ds => some (d :: ds)
    | _, _ => none
def gatherB (bl : List (Nat × Blk)) : List (Nat × Bs) → Option (List D)
  | [] => some []
  | (b, .cells l) :: r => match blk bl b, gatherB bl r with
    | some (.cells ds), some es => match Nat.beq ds.length l.length with
      | true => some (ds ++ es)
      | false => none
    | _, _ => none
  | (b, .one _) :: r => match blk bl b, gatherB bl r with
    | some k, some es => some (blkD k :: es)
    | _, _ => none
def sameFix : D → D → Bool
  | .ptr b o, .ptr b' o' => Nat.beq b b' && Nat.beq o o'
  | .fn f [], .fn f' [] => Nat.beq f f'
  | .fn f [.ptr b o], .fn f' [.ptr b' o'] => Nat.beq f f' && Nat.beq b b' && Nat.beq o o'
  | .gp g, .gp g' => Nat.beq g g'
  | .nilp, .nilp => true
  | _, _ => false
def fixOk (env : Env) : List (Nat × D) → Bool
  | [] => true
  | (k, d) :: l => match get env k with
    | some d' => sameFix d d' && fixOk env l
    | none => false
def sameNs : List Nat → List Nat → Bool
  | [], [] => true
  | a :: l, b :: m => Nat.beq a b && sameNs l m
  | _, _ => false
def decSt (s : Sig) (st : St) : Option (HV s.sgs) := match gather st.env s.vars, gatherB st.bl s.bl, fixOk st.env s.fix && Nat.beq st.n s.n && Nat.beq st.lb s.lb && Nat.beq st.lt s.lt && sameNs (st.tk.filter fun t => Nat.blt t s.lt) s.tk with
  | some a, some b, true => decL s.sgs (st.tk.filter fun t => !Nat.blt t s.lt) (a ++ b)
  | _, _, _ => none
def zipE : List (Nat × Sg) → List D → Env × List D
  | (k, _) :: l, d :: ds => match zipE l ds with
    | (e, r) => ((k, d) :: e, r)
  | _, r => ([], r)
def unD : D → Blk
  | .sv c y => .box c y
  | .rw c n xs => .row c n xs
  | d => .cells (cells d)
def zipB : List (Nat × Bs) → List D → List (Nat × Blk)
  | [], _ => []
  | (b, .cells l) :: r, ds => (b, .cells (ds.take l.length)) :: zipB r (ds.drop l.length)
  | (b, .one _) :: r, d :: ds => (b, unD d) :: zipB r ds
  | (b, .one _) :: r, [] => (b, .cells []) :: zipB r []
def encSt (s : Sig) (fr : List Fr) (x : HV s.sgs) : St := match zipE s.vars (encL s.lt s.sgs x) with
  | (e, r) => ⟨s.n, e ++ s.fix, s.lb, s.lt, fr, zipB s.bl r, s.nb, owns s.lt s.sgs ++ s.tk, s.lt + s.sgs.length⟩
def iter {V : Type} (step : (V → Option R) → V → Option R) : Nat → V → Option R
  | 0, _ => none
  | n + 1, v => step (iter step n) v
abbrev Step (V R : Type) := (V → Option R) → (Ex → V → Option R) → V → Option R
/-- what a round of the loop comes to, by the machine -/
def round (px : Px R) (s : Sig) (b : Code) (fr : List Fr) : Step (HV s.sgs) R := fun rec kx v => exec px b (encSt s fr v) fun e st => match decSt s st with
  | some v' => match e with
    | .normal => rec v'
    | e => kx e v'
  | none => none
/-- A LOOP, by its rounds. -/
def loopOr (k : Nat) (s : Sig) (step : Step (HV s.sgs) R) (st : St) (K : Ex → St → Option R) : Option R := match decSt s st with
  | some v => iter (fun rec => step rec (fun e v' => K e (encSt s st.fr v'))) k v
  | none => none
/-- the first region's number names a loop -/
def firstReg : Code → Nat
  | .region id _ _ => id
  | .seq a _ => firstReg a
  | .block _ b => firstReg b
  | .loop b => firstReg b
  | .scope b => firstReg b
  | _ => 0
end
/-- the loops of a code, the outer ones first -/
def loopsOf : Code → List Code
  | .seq a b => loopsOf a ++ loopsOf b
  | .cond _ a b => loopsOf a ++ loopsOf b
  | .block _ b => loopsOf b
  | .loop b => b :: loopsOf b
  | .scope b => loopsOf b
  | _ => []
def lp (fn : Func) (i : Nat) : Code := match fn.body with
  | some c => (loopsOf c).getD i .skip
  | none => .skip
end Go.Ax
