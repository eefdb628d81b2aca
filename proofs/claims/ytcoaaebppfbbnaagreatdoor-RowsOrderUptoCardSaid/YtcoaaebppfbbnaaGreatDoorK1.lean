/- Texts of the proof,one behind the other: AxA,AxB,AxC,SxA,SxB,SxC,SxD,SxE,SxF,SxG,SxH,SxI,SxJ,AxD,AxE,AxF,AxG. -/
import Derived.WalkKit
import Derived.WalkSpells
import Derived.WalkLawsBesides
import Derived.MapKept
import Derived.Laws.IdiomStrings
import Derived.Still
import Derived.Laws.StructEq
import Derived.CallsIn
import Derived.RangeFuncRecord
set_option linter.all false
namespace Go
theorem Za1:type_of% @Option.some.injEq:=@Option.some.injEq
theorem Zb1:type_of% @Bool.and_eq_true:=@Bool.and_eq_true
theorem Zc1:type_of% @Option.bind_some:=@Option.bind_some
theorem Zd1:type_of% @decide_eq_false:=@decide_eq_false
theorem Ze1:type_of% @decide_eq_true:=@decide_eq_true
theorem Zf1:type_of% @List.length_cons:=@List.length_cons
theorem Zg1:type_of% @decide_eq_true_eq:=@decide_eq_true_eq
theorem Zh1:type_of% @List.length_append:=@List.length_append
theorem Zi1:type_of% @List.length_nil:=@List.length_nil
theorem Zj1:type_of% @List.append_assoc:=@List.append_assoc
theorem Zk1:type_of% @List.drop_eq_nil_of_le:=@List.drop_eq_nil_of_le
theorem Zl1:type_of% @Nat.eq_of_beq_eq_true:=@Nat.eq_of_beq_eq_true
theorem Zm1:type_of% @Nat.not_lt_zero:=@Nat.not_lt_zero
theorem Zn1:type_of% @Nat.le_refl:=@Nat.le_refl
theorem Zo1:type_of% @List.getElem?_eq_getElem:=@List.getElem?_eq_getElem
theorem Zp1:type_of% @Prod.mk.injEq:=@Prod.mk.injEq
theorem Zq1:type_of% @List.drop_zero:=@List.drop_zero
theorem Zr1:type_of% @List.mem_cons_self:=@List.mem_cons_self
theorem Zs1:type_of% @Bool.not_false:=@Bool.not_false
theorem Zt1:type_of% @Bool.not_true:=@Bool.not_true
theorem Zu1:type_of% @List.mem_cons_of_mem:=@List.mem_cons_of_mem
theorem Zv1:type_of% @List.all_cons:=@List.all_cons
theorem Zw1:type_of% @List.map_cons:=@List.map_cons
theorem Zx1:type_of% @Nat.lt_of_lt_of_le:=@Nat.lt_of_lt_of_le
theorem Zy1:type_of% @decide_eq_decide:=@decide_eq_decide
theorem Zz1:type_of% @List.flatten_cons:=@List.flatten_cons
theorem Za2:type_of% @List.length_drop:=@List.length_drop
theorem Zb2:type_of% @List.cons_append:=@List.cons_append
theorem Zc2:type_of% @List.drop_length:=@List.drop_length
theorem Zd2:type_of% @Bool.or_eq_true:=@Bool.or_eq_true
theorem Ze2:type_of% @List.cons.injEq:=@List.cons.injEq
theorem Zf2:type_of% @List.nil_append:=@List.nil_append
theorem Zg2:type_of% @List.all_eq_true:=@List.all_eq_true
theorem Zh2:type_of% @Array.getElem?_eq_some_iff:=@Array.getElem?_eq_some_iff
theorem Zi2:type_of% @List.getElem?_eq_some_iff:=@List.getElem?_eq_some_iff
theorem Zj2:type_of% @Bool.false_eq_true:=@Bool.false_eq_true
theorem Zk2:type_of% @Array.getElem?_eq_getElem:=@Array.getElem?_eq_getElem
theorem Zl2:type_of% @Option.map_some:=@Option.map_some
end Go
namespace Go.Ax
abbrev Str:=List UInt8
structure Val where
 kind:Int
 n:Int
 s:Str
 deriving DecidableEq
structure Tok where
 kind:Int
 pos:Int
 s:Str
 n:Int
 deriving DecidableEq
structure Col where
 name:Str
 kind:Int
 notNull:Bool
 unique:Bool
 ref:Str
 deriving DecidableEq
inductive Xpr where
 |mk (kind:Int) (v:Val) (name:Str) (l:List Xpr)
def Xpr.kind:Xpr->Int|.mk k _ _ _=>k
def Xpr.v:Xpr->Val|.mk _ v _ _=>v
def Xpr.name:Xpr->Str|.mk _ _ n _=>n
def Xpr.l:Xpr->List Xpr|.mk _ _ _ l=>l
structure Num where
 minus:Bool
 d:List Int
structure SetE where
 name:Str
 e:Xpr
structure Stm where
 kind:Int
 name:Str
 on:Str
 cols:List Col
 names:List Str
 l:List Xpr
 rows:List (List Xpr)
 sets:List SetE
 has:Bool
 whr:Xpr
 order:List Str
 desc:List Bool
 most:Int
structure GotS where
 pos:Int
 bad:Bool
 deriving DecidableEq
structure PairS where
 sign:Str
 kind:Int
 deriving DecidableEq
structure Idx where
 name:Str
 cols:List Str
structure Tbl where
 name:Str
 cols:List Col
 key:List Str
 checks:List Xpr
 idx:List Idx
inductive NodeS where
 |mk (kind:Int) (path:List UInt8) (has:Bool) (val:List UInt8) (kids:List NodeS) (hash:List UInt8)
def NodeS.kind:NodeS->Int|.mk k _ _ _ _ _=>k
def NodeS.path:NodeS->List UInt8|.mk _ p _ _ _ _=>p
def NodeS.has:NodeS->Bool|.mk _ _ h _ _ _=>h
def NodeS.val:NodeS->List UInt8|.mk _ _ _ v _ _=>v
def NodeS.kids:NodeS->List NodeS|.mk _ _ _ _ l _=>l
def NodeS.hash:NodeS->List UInt8|.mk _ _ _ _ _ h=>h
structure KvS where
 key:List UInt8
 val:List UInt8
structure LayS where
 l:List KvS
 e:Int
structure SpanS where
 low:List UInt8
 high:List UInt8
 op:Bool
structure EntS where
 kind:Int
 p:KvS
structure ResS where
 rows:List (List Val)
 n:Int
structure OutS where
 e:Int
 pos:Int
 l:List ResS
inductive Ck where
 |byte|int|u64|str|bool|val|tok|col|expr|num|vals|exprs|strs|bytes|set|stmt|got|pair|idx|tbl|node|kv|kvs|lay|stt|res|outc|ent|span
 deriving DecidableEq
@[reducible] def El:Ck->Type
 |.byte=>UInt8
 |.int=>Int
 |.u64=>Int
 |.str=>Str
 |.bool=>Bool
 |.val=>Val
 |.tok=>Tok
 |.col=>Col
 |.expr=>Xpr
 |.num=>Num
 |.vals=>List Val
 |.exprs=>List Xpr
 |.strs=>List Str
 |.bytes=>List UInt8
 |.set=>SetE
 |.stmt=>Stm
 |.got=>GotS
 |.pair=>PairS
 |.idx=>Idx
 |.tbl=>Tbl
 |.node=>NodeS
 |.kv=>KvS
 |.kvs=>List KvS
 |.lay=>LayS
 |.stt=>NodeS
 |.res=>ResS
 |.outc=>OutS
 |.ent=>EntS
 |.span=>SpanS
inductive Tk where
 |no|nil|id (n:Nat)|z|ne|zn|f
inductive D where
 |bool (b:Bool)
 |int (k:IntKind) (n:Int)
 |str (l:Str)
 |sl (c:Ck) (xs:List (El c)) (t:Tk)
 |sv (c:Ck) (x:El c)
 |ep (c:Ck) (x:El c) (off:Nat)
 |ptr (b off:Nat)
 |nilp
 |gp (g:Nat)
 |gm (l:List (Int×Str))
 |osl (b:Nat) (c:Ck) (lo len:Int)
 |dp (b:Nat) (c:Ck) (i:Int)
 |dn (c:Ck) (xs:List (El c))
 |rp (b:Nat) (c:Ck) (n:Nat) (i:Int)
 |rw (c:Ck) (n:Nat) (xs:List (El c))
 |fn (f:Nat) (caps:List D)
 |bm (f:Nat) (first:List D)
 |nilfn
 |yl (b:Nat)
 |agg (ds:List D)
 |tup (ds:List D)
 |undef
 |junk
def enc:(c:Ck)->El c->List D
 |.byte,b=>[.int .u8 (b.toNat:Int)]
 |.int,n=>[.int .i64 n]
 |.u64,n=>[.int .u64 n]
 |.str,s=>[.str s]
 |.bool,b=>[.bool b]
 |.val,v=>[.int .i64 v.kind,.int .i64 v.n,.str v.s]
 |.tok,t=>[.int .i64 t.kind,.int .i64 t.pos,.str t.s,.int .i64 t.n]
 |.col,c=>[.str c.name,.int .i64 c.kind,.bool c.notNull,.bool c.unique,.str c.ref]
 |.expr,e=>[.int .i64 e.kind,.int .i64 e.v.kind,.int .i64 e.v.n,.str e.v.s,.str e.name,.sl .expr e.l .no]
 |.num,n=>[.bool n.minus,.sl .int n.d .no]
 |.vals,l=>[.sl .val l .no]
 |.exprs,l=>[.sl .expr l .no]
 |.strs,l=>[.sl .str l .no]
 |.bytes,l=>[.sl .byte l .no]
 |.set,s=>[.str s.name,.int .i64 s.e.kind,.int .i64 s.e.v.kind,.int .i64 s.e.v.n,.str s.e.v.s,.str s.e.name,.sl .expr s.e.l .no]
 |.stmt,s=>[.int .i64 s.kind,.str s.name,.str s.on,.sl .col s.cols .no,.sl .str s.names .no,.sl .expr s.l .no,.sl .exprs s.rows .no,.sl .set s.sets .no,.bool s.has,.int .i64 s.whr.kind,.int .i64 s.whr.v.kind,.int .i64 s.whr.v.n,.str s.whr.v.s,.str s.whr.name,.sl .expr s.whr.l .no,.sl .str s.order .no,.sl .bool s.desc .no,.int .i64 s.most]
 |.got,g=>[.int .i64 g.pos,.bool g.bad]
 |.pair,p=>[.str p.sign,.int .i64 p.kind]
 |.idx,x=>[.str x.name,.sl .str x.cols .no]
 |.tbl,t=>[.str t.name,.sl .col t.cols .no,.sl .str t.key .no,.sl .expr t.checks .no,.sl .idx t.idx .no]
 |.node,n=>[.int .i64 n.kind,.sl .byte n.path .no,.bool n.has,.sl .byte n.val .no,.sl .node n.kids .no,.sl .byte n.hash .no]
 |.kv,p=>[.sl .byte p.key .no,.sl .byte p.val .no]
 |.kvs,l=>[.sl .kv l .no]
 |.lay,y=>[.sl .kv y.l .no,.int .i64 y.e]
 |.stt,n=>[.int .i64 n.kind,.sl .byte n.path .no,.bool n.has,.sl .byte n.val .no,.sl .node n.kids .no,.sl .byte n.hash .no]
 |.res,r=>[.sl .vals r.rows .no,.int .i64 r.n]
 |.outc,o=>[.int .i64 o.e,.int .i64 o.pos,.sl .res o.l .no]
 |.ent,x=>[.int .i64 x.kind,.sl .byte x.p.key .no,.sl .byte x.p.val .no]
 |.span,x=>[.sl .byte x.low .no,.sl .byte x.high .no,.bool x.op]
def dec:(c:Ck)->List D->Option (El c)
 |.byte,[.int .u8 n]=>some (UInt8.ofNat n.toNat)
 |.int,[.int .i64 n]=>some n
 |.u64,[.int .u64 n]=>some n
 |.str,[.str s]=>some s
 |.bool,[.bool b]=>some b
 |.val,[.int .i64 k,.int .i64 n,.str s]=>some ⟨k,n,s⟩
 |.tok,[.int .i64 k,.int .i64 a,.str s,.int .i64 n]=>some ⟨k,a,s,n⟩
 |.col,[.str a,.int .i64 k,.bool n,.bool u,.str r]=>some ⟨a,k,n,u,r⟩
 |.expr,[.int .i64 k,.int .i64 a,.int .i64 n,.str s,.str nm,.sl .expr l _]=>some (.mk k ⟨a,n,s⟩ nm l)
 |.num,[.bool m,.sl .int d _]=>some ⟨m,d⟩
 |.vals,[.sl .val l _]=>some l
 |.exprs,[.sl .expr l _]=>some l
 |.strs,[.sl .str l _]=>some l
 |.bytes,[.sl .byte l _]=>some l
 |.set,[.str sn,.int .i64 k,.int .i64 a,.int .i64 n,.str s,.str nm,.sl .expr l _]=>some ⟨sn,.mk k ⟨a,n,s⟩ nm l⟩
 |.stmt,[.int .i64 k,.str nm,.str on,.sl .col cs _,.sl .str ns _,.sl .expr l _,.sl .exprs rs _,.sl .set ss _,.bool h,.int .i64 wk,.int .i64 wa,.int .i64 wn,.str ws,.str wm,.sl .expr wl _,.sl .str os _,.sl .bool ds _,.int .i64 m]=>some ⟨k,nm,on,cs,ns,l,rs,ss,h,.mk wk ⟨wa,wn,ws⟩ wm wl,os,ds,m⟩
 |.got,[.int .i64 a,.bool b]=>some ⟨a,b⟩
 |.pair,[.str s,.int .i64 k]=>some ⟨s,k⟩
 |.idx,[.str n,.sl .str l _]=>some ⟨n,l⟩
 |.tbl,[.str n,.sl .col cs _,.sl .str ks _,.sl .expr es _,.sl .idx xs _]=>some ⟨n,cs,ks,es,xs⟩
 |.node,[.int .i64 k,.sl .byte p _,.bool h,.sl .byte v _,.sl .node l _,.sl .byte s _]=>some (.mk k p h v l s)
 |.kv,[.sl .byte k _,.sl .byte v _]=>some ⟨k,v⟩
 |.kvs,[.sl .kv l _]=>some l
 |.lay,[.sl .kv l _,.int .i64 e]=>some ⟨l,e⟩
 |.stt,[.int .i64 k,.sl .byte p _,.bool h,.sl .byte v _,.sl .node l _,.sl .byte s _]=>some (.mk k p h v l s)
 |.res,[.sl .vals l _,.int .i64 n]=>some ⟨l,n⟩
 |.outc,[.int .i64 e,.int .i64 p,.sl .res l _]=>some ⟨e,p,l⟩
 |.ent,[.int .i64 n,.sl .byte k _,.sl .byte v _]=>some ⟨n,⟨k,v⟩⟩
 |.span,[.sl .byte l _,.sl .byte h _,.bool b]=>some ⟨l,h,b⟩
 |_,_=>none
def agg? : Ck->Bool
 |.val|.tok|.col|.expr|.num|.set|.stmt|.got|.pair|.idx|.tbl|.node|.kv|.lay|.stt|.res|.outc|.ent|.span=>true
 |_=>false
def csz:Ck->Nat
 |.val=>3
 |.tok=>4
 |.col=>5
 |.expr=>6
 |.num=>2
 |.set=>7
 |.stmt=>18
 |.got=>2
 |.pair=>2
 |.idx=>2
 |.tbl=>5
 |.node=>6
 |.kv=>2
 |.lay=>2
 |.stt=>6
 |.res=>2
 |.outc=>3
 |.ent=>3
 |.span=>3
 |_=>1
def zer:(c:Ck)->El c
 |.byte=>0
 |.int=>0
 |.u64=>0
 |.str=>[]
 |.bool=>false
 |.val=>⟨0,0,[]⟩
 |.tok=>⟨0,0,[],0⟩
 |.col=>⟨[],0,false,false,[]⟩
 |.expr =>.mk 0 ⟨0,0,[]⟩ [] []
 |.num=>⟨false,[]⟩
 |.vals=>[]
 |.exprs=>[]
 |.strs=>[]
 |.bytes=>[]
 |.set=>⟨[],.mk 0 ⟨0,0,[]⟩ [] []⟩
 |.stmt=>⟨0,[],[],[],[],[],[],[],false,.mk 0 ⟨0,0,[]⟩ [] [],[],[],0⟩
 |.got=>⟨0,false⟩
 |.pair=>⟨[],0⟩
 |.idx=>⟨[],[]⟩
 |.tbl=>⟨[],[],[],[],[]⟩
 |.node =>.mk 0 [] false [] [] []
 |.kv=>⟨[],[]⟩
 |.kvs=>[]
 |.lay=>⟨[],0⟩
 |.stt =>.mk 0 [] false [] [] []
 |.res=>⟨[],0⟩
 |.outc=>⟨0,0,[]⟩
 |.ent=>⟨0,⟨[],[]⟩⟩
 |.span=>⟨[],[],false⟩
def ofK(c:Ck)(x:El c):D:=match agg? c with
 |true =>.sv c x
 |false=>match enc c x with|d::_=>d|[] =>.undef
def cells:D->List D
 |.sv c x=>enc c x
 |.agg ds=>ds
 |d=>[d]
def toK(c:Ck):D->Option (El c)
 |.sv c' x=>if h:c' = c then some (h▸x) else none
 |.agg ds=>match agg? c with|true=>dec c ds|false=>none
 |d=>match agg? c with|true=>none|false=>dec c [d]
def toS(c:Ck):D->Option (List (El c))
 |.sl c' xs _=>if h:c' = c then some (h▸xs) else none
 |_=>none
def lf:D->Bool
 |.sv _ _|.rw _ _ _|.dn _ _|.agg _|.tup _|.undef|.junk=>false
 |_=>true
def lfs(d:D):Bool:=(cells d).all lf
inductive Sg where
 |int (k:IntKind)
 |bool
 |str
 |sl (c:Ck) (own:Bool)
 |sv (c:Ck)
 |rw (c:Ck) (n:Nat)
 |dn (c:Ck)
 |nl (c:Ck)
@[reducible] def den:Sg->Type
 |.int _=>Int
 |.bool=>Bool
 |.str=>Str
 |.sl c _=>List (El c)
 |.sv c=>El c
 |.rw c _=>List (El c)
 |.dn c=>List (El c)
 |.nl _=>Unit
@[reducible] def HV:List Sg->Type
 |[]=>Unit
 |[a]=>den a
 |a::b::l=>den a×HV (b::l)
def Cl(i:Nat):(s:Sg)->den s->D
 |.int k,n =>.int k n
 |.bool,b =>.bool b
 |.str,l =>.str l
 |.sl c true,xs =>.sl c xs (.id i)
 |.sl c false,xs =>.sl c xs .no
 |.sv c,x =>.sv c x
 |.rw c n,xs =>.rw c n xs
 |.dn c,xs =>.dn c xs
 |.nl c,_ =>.sl c [] .nil
def Bw:(i:Nat)->(l:List Sg)->HV l->List D
 |_,[],_=>[]
 |i,[a],x=>[Cl i a x]
 |i,a::b::l,(x,y)=>Cl i a x::Bw (i+1) (b::l) y
def A7(i:Nat):List Sg->List Nat
 |[]=>[]
 |.sl _ true::l=>i::A7 (i+1) l
 |_::l=>A7 (i+1) l
def F1(al:List Nat):Tk->Option (List Nat)
 |.no=>none
 |.nil=>some al
 |.id t=>match al.contains t with|true=>some (al.filter λu => !Nat.beq u t)|false=>none
 |.z=>none
 |.ne=>none
 |.zn=>none
 |.f=>none
def A2i(al:List Nat):(s:Sg)->D->Option (den s×List Nat)
 |.int k,.int k' n=>match decide (k' = k) with|true=>some (n,al)|false=>none
 |.bool,.bool b=>some (b,al)
 |.str,.str l=>some (l,al)
 |.sl c own,.sl c' xs t=>if h:c' = c then match own with
   |true=>match F1 al t with|some al'=>some (h▸xs,al')|none=>none
   |false=>some (h▸xs,al)
  else none
 |.sv c,d=>match agg? c,toK c d with|true,some x=>some (x,al)|_,_=>none
 |.rw c n,.rw c' n' xs=>if h:c' = c then match Nat.beq n' n with|true=>some (h▸xs,al)|false=>none
  else none
 |.dn c,.dn c' xs=>if h:c' = c then some (h▸xs,al) else none
 |.nl c,.sl c' xs t=>match t with
  |.nil=>match decide (c' = c) with
   |true=>match List.isEmpty xs with|true=>some ((),al)|false=>none
   |false=>none
  |_=>none
 |_,_=>none
def L0:(l:List Sg)->List Nat->List D->Option (HV l)
 |[],_,[]=>some ()
 |[a],al,[d]=>match A2i al a d with|some (x,_)=>some x|none=>none
 |a::b::l,al,d::ds=>match A2i al a d with
  |some (x,al')=>match L0 (b::l) al' ds with|some y=>some (x,y)|none=>none
  |none=>none
 |_,_,_=>none
inductive Ty where
 |int (k:IntKind)
 |bool
 |str
 |sl (c:Ck)
 |st (c:Option Ck) (fs:List (Nat×Nat)) (z:List D)
 |arr (n:Nat) (c:Ck)
 |ptr
 |fn
 |map
 |no
def Ty.zero:Ty->Option D
 |.int k=>some (.int k 0)
 |.bool=>some (.bool false)
 |.str=>some (.str [])
 |.sl c=>some (.sl c [] .nil)
 |.st _ _ z=>some (.agg z)
 |.arr n c=>some (.agg ((List.replicate n (enc c (zer c))).flatten))
 |.ptr=>some .nilp
 |.fn=>some .nilfn
 |_=>none
def Ty.n:Ty->Nat
 |.st _ _ z=>z.length
 |.arr n c=>n*csz c
 |_=>1
def Ty.agg? : Ty->Bool
 |.st _ _ _|.arr _ _=>true
 |_=>false
def Ty.known:Ty->Bool
 |.no|.map=>false
 |_=>true
def Ty.isSl(c:Ck):Ty->Bool
 |.sl c'=>decide (c' = c)
 |_=>false
def Ty.isStr:Ty->Bool
 |.str=>true
 |_=>false
abbrev Env:=List (Nat×D)
def get:Env->Nat->Option D
 |[],_=>none
 |(k,v)::e,n=>match Nat.beq k n with|true=>some v|false=>get e n
inductive Ex where
 |normal
 |exit (id:Nat)
 |ret
inductive Blk where
 |cells (ds:List D)
 |box (c:Ck) (y:El c)
 |row (c:Ck) (n:Nat) (xs:List (El c))
 |dyn (c:Ck) (xs:List (El c))
 |bld (t:Nat) (d:D)
 |ob (k:Nat)
 |lr (s:Nat) (n:Nat) (ps:List Nat) (asg body:Code) (env:List (Nat×D))
 |lj (e:Ex)
 |lx (j:Int) (n:Nat) (ps:List Nat) (asg body:Code) (env:List (Nat×D)) (q:Nat)
structure Fr where
 n:Nat
 env:Env
 lb:Nat
 lt:Nat
 df:List D
structure St where
 n:Nat
 env:Env
 lb:Nat
 lt:Nat
 fr:List Fr
 bl:List (Nat×Blk)
 nb:Nat
 tk:List Nat
 nt:Nat
 df:List D
def blk:List (Nat×Blk)->Nat->Option Blk
 |[],_=>none
 |(k,v)::e,n=>match Nat.beq k n with|true=>some v|false=>blk e n
def Dd:List (Nat×Blk)->Nat->Blk->List (Nat×Blk)
 |[],_,_=>[]
 |(k,v)::e,n,u=>match Nat.beq k n with|true=>(k,u)::e|false=>(k,v)::Dd e n u
def Bj:List (Nat×Blk)->Nat->List (Nat×Blk)
 |[],_=>[]
 |(k,v)::e,n=>match Nat.beq k n with|true=>Bj e n|false=>(k,v)::Bj e n
def St.put(st:St)(d:Nat)(v:D):St:={ st with env:=(d,v)::st.env }
inductive Gv where
 |arr (c:Ck) (xs:List (El c))
 |map (l:List (Int×Str))
 |num (k:IntKind)
structure Px (R:Type) where
 tt:Nat->Ty
 gl:Nat->Option Gv
 call:Nat->List D->St->(List D->St->Option R)->Option R
 callQ:Nat->List D->(List D->Option R)->Option R
 loop:Code->St->(Ex->St->Option R)->Option R
 callW:Nat->Option (List D->St->(D->List Nat->St->Option R)->Option R)
 yld:Nat->List D->St->(D->St->Option R)->Option R:=λ_ _ _ _=>none
def E8(k:IntKind)(n:Int):Bool:=decide (k.min<=n)&&decide (n<=k.max)
def Bhw(s:ByteArray):Bool:=Nat.ble s.data.toList.length 1048576
def Bud:D->Value->Option D
 |.int _ _,.int k n=>match E8 k n with|true=>some (.int k n)|false=>none
 |.bool _,.bool b=>some (.bool b)
 |.str _,.string s=>match Bhw s with|true=>some (.str s.data.toList)|false=>none
 |.sl c _ _,.slice none 0 0=>some (.sl c [] .nil)
 |.nilp,.pointer none=>some .nilp
 |.nilfn,.nilFunc=>some .nilfn
 |_,_=>none
def Awu:List D->List Value->Option (List D)
 |[],[]=>some []
 |z::zs,v::vs=>match Bud z v with
  |some d=>match Awu zs vs with|some ds=>some (d::ds)|none=>none
  |none=>none
 |_,_=>none
def cst(t:Ty):Value->Option D
 |.int k n=>match E8 k n with|true=>some (.int k n)|false=>none
 |.bool b=>some (.bool b)
 |.string s=>match Bhw s with|true=>some (.str s.data.toList)|false=>none
 |.slice none 0 0=>match t with|.sl c=>some (.sl c [] .nil)|_=>none
 |.pointer none=>some .nilp
 |.nilFunc=>some .nilfn
 |.agg cs=>match t with
  |.st _ _ z=>match Awu z cs.toList with|some ds=>some (.agg ds)|none=>none
  |_=>none
 |_=>some .junk
section
variable {R:Type}
def ev(px:Px R)(st:St)(t:Nat):Operand->Option D
 |.tmp i=>get st.env i
 |.const v=>cst (px.tt t) v
 |.global g=>some (.gp g)
 |.func f=>some (.fn f [])
def evs(px:Px R)(st:St):List Nat->List Operand->Option (List D)
 |_,[]=>some []
 |ts,x::xs=>match ev px st (ts.headD 0) x with
  |none=>none
  |some v=>match evs px st ts.tail xs with|none=>none|some vs=>some (v::vs)
def wr(k:IntKind)(n:Int):Int:=k.wrap n
def bat(l:Str)(i:Int):Int:=((l.getD i.toNat 0).toNat:Int)
def Ajo(k:IntKind)(f:BitVec k.bits->BitVec k.bits->BitVec k.bits)(x y:Int):Int:=k.wrap ((f (BitVec.ofInt k.bits x) (BitVec.ofInt k.bits y)).toNat:Int)
def G9(k:IntKind)(x y:Int):Int:=Ajo k (· &&& ·) x y
def ior(k:IntKind)(x y:Int):Int:=Ajo k (· ||| ·) x y
def Xh(k:IntKind)(x y:Int):Int:=Ajo k (· ^^^ ·) x y
def Bf5(k:IntKind)(x y:Int):Int:=Ajo k (λa b=>a &&& ~~~b) x y
def Afp(k:IntKind)(x y:Int):Int:=k.wrap (x*2 ^ min y.toNat k.bits)
def D5(k:IntKind)(x y:Int):Int:=x.fdiv (2 ^ min y.toNat k.bits)
def Bun(op:BinOp)(k:IntKind)(x y:Int):Option (Bool×D):=match op with|.add=>some (true,.int k (wr k (x+y)))|.sub=>some (true,.int k (wr k (x-y)))|.mul=>some (true,.int k (wr k (x*y)))|.quo=>some (!decide (y=0),.int k (wr k (x.tdiv y)))|.rem=>some (!decide (y=0),.int k (x.tmod y))|.and=>some (true,.int k (G9 k x y))|.or=>some (true,.int k (ior k x y))|.xor=>some (true,.int k (Xh k x y))|.andNot=>some (true,.int k (Bf5 k x y))|.eql=>some (true,.bool (decide (x=y)))|.neq=>some (true,.bool (!decide (x=y)))|.lss=>some (true,.bool (decide (x<y)))|.leq=>some (true,.bool (decide (x<=y)))|.gtr=>some (true,.bool (decide (y<x)))|.geq=>some (true,.bool (decide (y<=x)))|_=>none
def A28:Nat:=4611686018427387904
def Bs2(op:BinOp)(l m:Str):Option (Bool×D):=match op with|.add=>some (decide (l.length+m.length<=A28),.str (l++m))|.eql=>some (true,.bool (decide (l=m)))|.neq=>some (true,.bool (!decide (l=m)))|.lss=>some (true,.bool (Op.bytesLess l m))|.leq=>some (true,.bool (Op.bytesLess l m||decide (l=m)))|.gtr=>some (true,.bool (!(Op.bytesLess l m||decide (l=m))))|.geq=>some (true,.bool (!Op.bytesLess l m))|_=>none
def eqK:(c:Ck)->El c->El c->Option Bool
 |.val,a,b=>some (decide (a=b))
 |.tok,a,b=>some (decide (a=b))
 |.col,a,b=>some (decide (a=b))
 |_,_,_=>none
def Bn3(t:Ty)(a b:D):Option Bool:=match t with
 |.st (some c) _ _=>match toK c a with
  |some x=>match toK c b with|some y=>eqK c x y|none=>none
  |none=>none
 |_=>none
def A3t:D->Bool
 |.sl _ [] .nil=>true
 |_=>false
def Bjz:Tk->Option Bool
 |.nil=>some true
 |.ne=>some false
 |.zn=>some false
 |_=>none
def Bt6(op:BinOp)(t:Ty)(e:Bool)(tk:Tk)(b:D):Option (Bool×D):=match t with
 |.sl _=>match A3t b with
  |true=>match op,Bjz tk with|.eql,none=>some (!e,.bool false)|.neq,none=>some (!e,.bool true)|.eql,some q=>some (e,.bool q)|.neq,some q=>some (e,.bool (!q))|_,_=>none
  |false=>none
 |_=>none
def Bhd:D->Option Bool
 |.nilp=>some true
 |.ptr _ _|.ep _ _ _|.gp _|.rp _ _ _ _|.dp _ _ _=>some false
 |_=>none
def A9g:D->Bool
 |.nilp=>true
 |_=>false
def Bpo(op:BinOp)(t:Ty)(a b:D):Option (Bool×D):=match t with
 |.ptr=>match Bhd a,A9g b with
  |some q,true=>match op with|.eql=>some (true,.bool q)|.neq=>some (true,.bool (!q))|_=>none
  |_,_=>none
 |_=>none
def bin(op:BinOp)(t:Ty)(a b:D):Option (Bool×D):=match a with
 |.int k x=>match b with
  |.int k' y=>match op with
   |.shl=>some (decide (0<=y),.int k (Afp k x y))
   |.shr=>some (decide (0<=y),.int k (D5 k x y))
   |op=>match decide (k=k') with|true=>Bun op k x y|false=>none
  |_=>none
 |.str l=>match b with|.str m=>Bs2 op l m|_=>none
 |.bool x=>match b with
  |.bool y=>match t with
   |.bool=>match op with|.eql=>some (true,.bool (decide (x=y)))|.neq=>some (true,.bool (!decide (x=y)))|_=>none
   |_=>none
  |_=>none
 |.sl _ xs tk=>Bt6 op t xs.isEmpty tk b
 |_=>match op with
  |.eql=>match Bn3 t a b with|some r=>some (true,.bool r)|none=>Bpo .eql t a b
  |.neq=>match Bn3 t a b with|some r=>some (true,.bool (!r))|none=>Bpo .neq t a b
  |_=>none
def un(op:UnOp)(a:D):Option D:=match op,a with
 |.not,.bool b=>some (.bool (!b))
 |.neg,.int k n=>some (.int k (wr k (0-n)))
 |.xor,.int k n=>some (.int k (Xh k (match k.signed with|true => -1|false=>k.max) n))
 |_,_=>none
def U0:List (Int×Str)->Int->Str
 |[],_=>[]
 |(k,s)::l,n=>match decide (k=n) with|true=>s|false=>U0 l n
def inb(i:Int)(n:Nat):Bool:=decide (0<=i)&&decide (i<(n:Int))
def upto(i j:Int)(n:Nat):Bool:=decide (0<=i)&&decide (i<=j)&&decide (j<=(n:Int))
def cut{α:Type}(l:List α)(i j:Int):List α:=(l.drop i.toNat).take (j.toNat-i.toNat)
def at'(c:Ck)(xs:List (El c))(i:Int):El c:=xs.getD i.toNat (zer c)
def Bdk(c:Ck):Nat->List D->Option (List (El c))
 |0,[]=>some []
 |0,_=>none
 |n+1,ds=>match dec c (ds.take (csz c)) with
  |some x=>match Bdk c n (ds.drop (csz c)) with|some xs=>some (x::xs)|none=>none
  |none=>none
def A32(c:Ck):List D->Option (List (El c))
 |[]=>some []
 |d::ds=>match toK c d with
  |some x=>match A32 c ds with|some xs=>some (x::xs)|none=>none
  |none=>none
def part(t:Ty)(ds:List D)(off:Nat):Option D:=match t.agg? with
 |true=>match Nat.ble (off+t.n) ds.length with|true=>some (.agg ((ds.drop off).take t.n))|false=>none
 |false=>ds[off]?
def write(ds:List D)(off:Nat):List D->List D
 |[]=>ds
 |v::vs=>write (ds.set off v) (off+1) vs
def Ah:Nat:=274877906944
def chk(b:Bool)(x:Option R):Option R:=cond b x none
def load(_px:Px R)(st:St)(t:Ty):D->Option D
 |.ep c x off=>match Nat.beq off 0&&Nat.beq t.n (csz c)&&(t.agg? == agg? c) with|true=>some (ofK c x)|false=>part t (enc c x) off
 |.ptr b off=>match blk st.bl b with
  |some (.cells ds)=>part t ds off
  |some (.box c x)=>match Nat.beq off 0&&Nat.beq t.n (csz c)&&(t.agg? == agg? c) with|true=>some (ofK c x)|false=>part t (enc c x) off
  |some (.bld _ d)=>match Nat.beq off 1 && !t.agg? with|true=>some d|false=>none
  |_=>none
 |.rp b c0 n0 i=>match blk st.bl b with
  |some (.row c n xs)=>match Nat.beq t.n (csz c)&&(t.agg? == agg? c)&&decide (c0=c)&&Nat.beq n0 n with|true=>some (ofK c (at' c xs i))|false=>none
  |_=>none
 |_=>none
def Ast(px:Px R)(s f:Nat):Option (Nat×Ty):=match px.tt s with
 |.st _ fs _=>match fs[f]? with|some (o,u)=>some (o,px.tt u)|none=>none
 |_=>none
def Aq9(px:Px R)(s:Nat)(z:List D):List (Nat×D)->Option (List D)
 |[]=>some z
 |(f,d)::l=>match Ast px s f with
  |some (o,u)=>match Nat.beq (cells d).length u.n&&Nat.ble (o+(cells d).length) z.length&&lfs d&&u.known with|true=>Aq9 px s (write z o (cells d)) l|false=>none
  |none=>none
def Bwi(px:Px R)(s f:Nat):Nat:=match px.tt s with
 |.st _ fs _=>match fs[f]? with|some (_,u)=>u|none=>0
 |_=>0
def evps(px:Px R)(st:St)(s:Nat):List (Nat×Operand)->Option (List (Nat×D))
 |[]=>some []
 |(i,x)::xs=>match ev px st (Bwi px s i) x with
  |none=>none
  |some v=>match evps px st s xs with|none=>none|some vs=>some ((i,v)::vs)
def Bgn:List (Nat×Operand)->Nat
 |[]=>0
 |(i,_)::_=>i
def Aov(px:Px R)(st:St):Nat->List (Nat×Operand)->Option (List D)
 |_,[]=>some []
 |i,(j,x)::xs=>match Nat.beq i j with
  |true=>match ev px st 0 x with
   |none=>none
   |some v=>match Aov px st (i+1) xs with|none=>none|some vs=>some (v::vs)
  |false=>none
def Be9:D->Blk
 |.sv c y =>.box c y
 |d =>.cells (cells d)
def A2b(t:Nat):List D->Blk
 |[.nilp,.sl .byte [] .nil] =>.bld t (.sl .byte [] .nil)
 |ds =>.cells ds
def D4(st:St):St:={ st with tk:=st.nt::st.tk,nt:=st.nt+1 }
def G7(st:St)(b:Blk):St:={ st with bl:=(st.nb,b)::st.bl,nb:=st.nb+1 }
def Gw:List D->D
 |[d]=>d
 |ds =>.tup ds
def Rn(st:St)(c:Ck)(s x:D)(K:D->St->Option R):Option R:=match s with
 |.sl c' xs t=>if h:c' = c then match F1 st.tk t with
   |none=>none
   |some al=>match toS c x with
    |none=>none
    |some ys=>chk (decide (xs.length+ys.length<=Ah)) (K (.sl c ((h▸xs:List (El c))++ys) (.id st.nt)) (D4 { st with tk:=al }))
  else none
 |_=>none
def Auh(st:St)(c:Ck)(s x:D)(K:D->St->Option R):Option R:=match s with
 |.sl c' xs .f=>if h:c' = c then match toS c x with|none=>none|some ys=>cond ys.isEmpty (K (.sl c (h▸xs) .f) st) (chk (decide (xs.length+ys.length<=Ah)) (K (.sl c ((h▸xs:List (El c))++ys) (.id st.nt)) (D4 st)))
  else none
 |s=>Rn st c s x K
def B7{α:Type}(xs:List α)(o:Nat)(l:List α):List α:=xs.take o++(l++xs.drop (o+l.length))
def Bi1(st:St)(c0:Ck)(s x:D)(K:D->St->Option R):Option R:=match s with
 |.osl b c1 s n=>match blk st.bl b with
  |some (.dyn c xs)=>match toS c x,decide (c1=c)&&decide (c0=c)&&Nat.beq (csz c) 1 with
   |some ys,true=>chk (decide (0<=s)&&decide (0<=n)&&decide (s+n<=(xs.length:Int))) (K (.int .i64 ((min n.toNat ys.length:Nat):Int)) { st with bl:=Dd st.bl b (.dyn c (B7 xs s.toNat (ys.take n.toNat))) })
   |_,_=>none
  |_=>none
 |_=>none
def A2o(l:Str)(lo hi:Option D)(K:D->Option R):Option R:=match lo,hi with|some (.int _ i),none=>chk (upto i l.length l.length) (K (.str (l.drop i.toNat)))|none,some (.int _ j)=>chk (upto 0 j l.length) (K (.str (l.take j.toNat)))|some (.int _ i),some (.int _ j)=>chk (upto i j l.length) (K (.str (cut l i j)))|_,_=>none
def A4j(c:Ck)(l:List (El c))(lo hi:Option D)(K:D->Option R):Option R:=match lo,hi with|none,none=>K (.sl c l .no)|some (.int _ i),none=>chk (upto i l.length l.length) (K (.sl c (l.drop i.toNat) .no))|none,some (.int _ j)=>chk (upto 0 j l.length) (K (.sl c (l.take j.toNat) .no))|some (.int _ i),some (.int _ j)=>chk (upto i j l.length) (K (.sl c (cut l i j) .no))|_,_=>none
def upI(i j n:Int):Bool:=decide (0<=i)&&decide (i<=j)&&decide (j<=n)
def inO(i n:Int):Bool:=decide (0<=i)&&decide (i<n)
def A4r(b:Nat)(c:Ck)(s n:Int)(lo hi:Option D)(K:D->Option R):Option R:=match lo,hi with|none,none=>K (.osl b c s n)|some (.int _ i),none=>chk (upI i n n) (K (.osl b c (s+i) (n-i)))|none,some (.int _ j)=>chk (upI 0 j n) (K (.osl b c s j))|some (.int _ i),some (.int _ j)=>chk (upI i j n) (K (.osl b c (s+i) (j-i)))|_,_=>none
def Bh6(px:Px R)(ty:Ty)(x:D)(lo hi:Option D)(K:D->Option R):Option R:=match x with
 |.str l=>match ty.isStr with|true=>A2o l lo hi K|false=>none
 |.sl c l _=>match ty.isSl c with|true=>A4j c l lo hi K|false=>none
 |.osl b c s n=>match ty.isSl c with|true=>A4r b c s n lo hi K|false=>none
 |.gp g=>match px.gl g,ty,lo,hi with
  |some (.arr c xs),.arr n c',none,none=>match Nat.beq xs.length n&&decide (c=c')&&Nat.ble n 1048576 with|true=>K (.sl c xs .no)|false=>none
  |_,_,_,_=>none
 |_=>none
def min2(x y:Int):Int:=if y<x then y else x
def max2(x y:Int):Int:=if x<y then y else x
def Z1(ty:Ty)(b:Builtin)(args:List D):Option D:=match b,args with
 |.len,[.str l]=>match ty.isStr with|true=>some (.int .i64 l.length)|false=>none
 |.len,[.sl c xs _]=>match ty.isSl c with|true=>some (.int .i64 xs.length)|false=>none
 |.len,[.osl _ c _ n]=>match ty.isSl c with|true=>some (.int .i64 n)|false=>none
 |.min,[.int k x,.int k' y]=>match decide (k=k') with|true=>some (.int k (min2 x y))|false=>none
 |.max,[.int k x,.int k' y]=>match decide (k=k') with|true=>some (.int k (max2 x y))|false=>none
 |_,_=>none
def evo(px:Px R)(st:St):Option Operand->Option (Option D)
 |none=>some none
 |some x=>match ev px st 0 x with|some d=>some (some d)|none=>none
def U3(px:Px R)(o:Oper)(st:St)(K:D->Option R):Option R:=match o.op with
 |.move x=>match ev px st o.type x with|some d=>K d|none=>none
 |.assign x=>match ev px st o.type x with|some d=>K d|none=>none
 |.pick c a b=>match ev px st 0 c,ev px st o.type a,ev px st o.type b with|some (.bool x),some u,some v=>cond x (K u) (K v)|_,_,_=>none
 |.build t ps=>match px.tt t with
  |.st _ _ z=>match evps px st t ps.toList with
   |some l=>match Aq9 px t z l with|some ds=>K (.agg ds)|none=>none
   |none=>none
  |.arr n c=>match Aov px st (Bgn ps.toList) ps.toList with
   |some l=>match Nat.beq (Bgn ps.toList+l.length) n&&l.all λd=>lfs d&&Nat.beq (cells d).length (csz c) with|true=>K (.agg ((List.replicate (Bgn ps.toList) (enc c (zer c))).flatten++(l.map cells).flatten))|false=>none
   |none=>none
  |_=>none
 |.load t x=>match ev px st 0 x with
  |some (.gp g)=>match px.tt t,px.gl g with|.map,some (.map l)=>K (.gm l)|_,_=>none
  |some (.dp b c i)=>match blk st.bl b with
   |some (.dyn c' xs)=>match Nat.beq (px.tt t).n (csz c')&&((px.tt t).agg? == agg? c')&&decide (c=c')&&(px.tt t).known with|true=>chk (inb i xs.length) (K (ofK c' (at' c' xs i)))|false=>none
   |_=>none
  |some p=>match(px.tt t).known,load px st (px.tt t) p with|true,some d=>K d|_,_=>none
  |none=>none
 |.nilCheck x=>match ev px st 0 x with|some (.ptr b o)=>K (.ptr b o)|some (.ep c x o)=>K (.ep c x o)|some (.gp g)=>K (.gp g)|some (.rp b c n i)=>K (.rp b c n i)|some (.dp b c i)=>K (.dp b c i)|some (.fn f cs)=>K (.fn f cs)|_=>none
 |.binOp op t x y t'=>match ev px st t x,ev px st t' y with
  |some a,some b=>match bin op (px.tt t) a b with|some (c,d)=>chk c (K d)|none=>none
  |_,_=>none
 |.unOp op t x=>match ev px st t x with
  |some a=>match un op a with|some d=>K d|none=>none
  |none=>none
 |.convert s t x=>match ev px st s x,px.tt t with
  |some (.int _ n),.int k=>match(px.tt s).known with|true=>K (.int k (wr k n))|false=>none
  |some (.str l),.str=>match(px.tt s).known with|true=>K (.str l)|false=>none
  |some (.sl .byte xs _),.str=>match(px.tt s).isSl .byte with|true=>K (.str xs)|false=>none
  |_,_=>none
 |.slice t x lo hi none=>match ev px st t x,evo px st lo,evo px st hi with|some d,some i,some j=>Bh6 px (px.tt t) d i j K|_,_,_=>none
 |.slice t x none (some y) (some z)=>match ev px st t x,ev px st 0 y,ev px st 0 z with
  |some (.sl c l _),some (.int _ j),some (.int _ k)=>match(px.tt t).isSl c&&decide (j=k) with|true=>chk (upto 0 j l.length) (K (.sl c (l.take j.toNat) .f))|false=>none
  |_,_,_=>none
 |.fieldAddr s x f=>match ev px st 0 x,Ast px s f with|some (.ptr b o),some (fo,_)=>K (.ptr b (o+fo))|some (.ep c x o),some (fo,_)=>K (.ep c x (o+fo))|_,_=>none
 |.field s x f=>match ev px st s x,Ast px s f with
  |some d,some (fo,u)=>match u.known&&lfs d&&(match d with|.sv _ _=>true|.agg _=>true|_=>false),part u (cells d) fo with|true,some v=>K v|_,_=>none
  |_,_=>none
 |.indexAddr t x y=>match ev px st t x,ev px st 0 y with
  |some (.sl c xs _),some (.int _ i)=>match(px.tt t).isSl c with|true=>chk (inb i xs.length) (K (.ep c (at' c xs i) 0))|false=>none
  |some (.gp g),some (.int _ i)=>match px.gl g,px.tt t with
   |some (.arr c xs),.arr n c'=>match Nat.beq xs.length n&&decide (c=c') with|true=>chk (inb i n) (K (.ep c (at' c xs i) 0))|false=>none
   |_,_=>none
  |some (.ptr b 0),some (.int _ i)=>match blk st.bl b,px.tt t with
   |some (.row c n' _),.arr n c'=>match decide (c=c')&&Nat.beq n' n with|true=>chk (inb i n) (K (.rp b c n i))|false=>none
   |_,_=>none
  |some (.osl b c s n),some (.int _ i)=>match(px.tt t).isSl c with|true=>chk (inO i n) (K (.dp b c (s+i)))|false=>none
  |_,_=>none
 |.index t x y=>match ev px st t x,ev px st 0 y with
  |some (.str l),some (.int _ i)=>match(px.tt t).isStr with|true=>chk (inb i l.length) (K (.int .u8 (bat l i)))|false=>none
  |some (.agg ds),some (.int _ i)=>match px.tt t with
   |.arr n c=>match Bdk c n ds with|some xs=>chk (inb i n) (K (ofK c (at' c xs i)))|none=>none
   |_=>none
  |_,_=>none
 |.lookup t x y false=>match ev px st 0 x,ev px st 0 y,px.tt t with|some (.gm l),some (.int .i64 i),.map=>K (.str (U0 l i))|_,_,_=>none
 |.extract x i=>match ev px st 0 x with
  |some (.tup ds)=>match ds[i]? with|some d=>K d|none=>none
  |_=>none
 |.makeFunc (.func f) ⟨[]⟩ ⟨cs⟩=>match evs px st [] cs with|some ds=>K (.fn f ds)|none=>none
 |.makeFunc (.func f) ⟨c::cs⟩ ⟨[]⟩=>match evs px st [] (c::cs) with|some ds=>K (.bm f ds)|none=>none
 |.call ⟨.builtin b,xs,ts⟩=>match evs px st ts.toList xs.toList with
  |some ds=>match Z1 (px.tt (ts.toList.headD 0)) b ds with|some d=>K d|none=>none
  |none=>none
 |_=>none
def Bsh:List (Nat×Operand)->Option (List Value)
 |[(0,.const (.agg cs))]=>some cs.toList
 |_=>none
def Aix(px:Px R)(st:St)(c:Ck)(len:Nat)(ps:List (Nat×Operand)):Option (List (El c)):=match Bsh ps with
 |some cs=>match Awu (enc c (zer c)) cs with
  |some ds=>match agg? c&&Nat.beq len 1,dec c ds with|true,some x=>some [x]|_,_=>none
  |none=>none
 |none=>match Aov px st 0 ps with
  |some l=>match Nat.beq l.length len&&Nat.ble (len*csz c) 16777216,A32 c l with|true,some xs=>some xs|_,_=>none
  |none=>none
def step(px:Px R)(o:Oper)(st:St)(K:D->St->Option R):Option R:=match o.op with
 |.alloc t=>match px.tt t with
  |.arr n c=>K (.ptr st.nb 0) (G7 st (.row c n (List.replicate n (zer c))))
  |ty=>match ty.zero with|some z=>K (.ptr st.nb 0) (G7 st (A2b t (cells z)))|none=>none
 |.makeSlice t x y=>match px.tt t,ev px st 0 x,ev px st 0 y with|.sl c,some (.int _ n),some (.int _ q)=>chk (upI 0 n q&&decide (q<=(Ah:Int))) (K (.osl st.nb c 0 n) (G7 st (.dyn c (List.replicate q.toNat (zer c)))))|_,_,_=>none
 |.box t x=>match ev px st t x with
  |some d=>match lfs d with|true=>K (.ptr st.nb 0) (G7 st (Be9 d))|false=>none
  |none=>none
 |.buildSlice t len ps=>match px.tt t with
  |.sl c=>match Aix px st c len ps.toList with|some xs=>K (.sl c xs (.id st.nt)) (D4 st)|none=>none
  |_=>none
 |.convert s t x=>match ev px st s x,px.tt t with
  |some (.str l),.sl .byte=>match(px.tt s).isStr with|true=>chk (decide (l.length<=Ah)) (K (.sl .byte l .no) st)|false=>none
  |_,_=>U3 px o st λd=>K d st
 |.call ⟨.builtin .append,⟨[x,y]⟩,⟨[t,t']⟩⟩=>match px.tt t,ev px st t x,ev px st t y,Nat.beq t t' with
  |.sl c,some s,some d,true=>Auh st c s d K
  |.sl .byte,some s,some (.str l),false=>match(px.tt t').isStr with|true=>Rn st .byte s (.sl .byte l .no) K|false=>none
  |_,_,_,_=>none
 |.call ⟨.builtin .copy,⟨[x,y]⟩,⟨[t,_]⟩⟩=>match px.tt t,ev px st t x,ev px st t y with|.sl c,some s,some d=>Bi1 st c s d K|_,_,_=>none
 |.call ⟨.value f,xs,ts⟩=>match ev px st 0 f with
  |some (.fn g caps)=>match evs px st ts.toList xs.toList with|some ds=>px.call g (ds++caps) st λrs st'=>K (Gw rs) st'|none=>none
  |some (.bm g fs)=>match evs px st ts.toList xs.toList with|some ds=>px.call g (fs++ds) st λrs st'=>K (Gw rs) st'|none=>none
  |_=>none
 |_=>U3 px o st λd=>K d st
def Bmq:Tk->Tk
 |.id _ =>.no
 |t=>t
def A3:D->D
 |.sl c xs t =>.sl c xs (Bmq t)
 |d=>d
def Bsb:D->D
 |.sl c xs _ =>.sl c xs .f
 |d=>d
def Agg:Nat->Bool
 |177=>true
 |178=>true
 |69=>true
 |151=>true
 |154=>true
 |112=>true
 |128=>true
 |62=>true
 |_=>false
def A6z(px:Px R)(g:Nat)(args:List D)(st:St)(K:D->List Nat->St->Option R):Option R:=match Agg g,px.callW g with|false,some F=>F args st K|_,_=>px.callQ g args λrs=>K (Gw (rs.map A3)) [] st
def Bl1(px:Px R)(o:Oper)(st:St)(K:D->List Nat->St->Option R):Option R:=match o.op with
 |.buildSlice _ _ _=>step px o st λd _=>K (Bsb d) [] st
 |.convert _ _ _=>step px o st λd _=>K (A3 d) [] st
 |.alloc _=>match blk st.bl st.nb with|none=>step px o st λd st'=>K d [] st'|some _=>none
 |.box _ _=>match blk st.bl st.nb with|none=>step px o st λd st'=>K d [] st'|some _=>none
 |.makeSlice _ _ _=>match blk st.bl st.nb with|none=>step px o st λd st'=>K d [] st'|some _=>none
 |.call ⟨.value f,xs,ts⟩=>match ev px st 0 f with
  |some (.fn g caps)=>match evs px st ts.toList xs.toList with|some ds=>A6z px g (ds++caps) st K|none=>none
  |some (.bm g fs)=>match evs px st ts.toList xs.toList with|some ds=>A6z px g (fs++ds) st K|none=>none
  |_=>none
 |.call ⟨.builtin .copy,⟨[x,_]⟩,⟨[t,_]⟩⟩=>match ev px st t x with|some (.osl b _ _ _)=>step px o st λd st'=>K d [b] st'|_=>none
 |_=>step px o st λd st'=>K d [] st'
def Bth:D->Bool
 |.sl .byte _ _=>true
 |_=>false
def A2n(ds:List D)(off:Nat)(d:D):Blk:=match d with
 |.sv c y=>match Nat.beq off 0&&Nat.beq ds.length (csz c) with|true =>.box c y|false =>.cells (write ds off (cells (.sv c y)))
 |d =>.cells (write ds off (cells d))
def Yw(px:Px R)(o:Oper)(st:St)(K:St->Option R):Option R:=match o.op with
 |.store t x y=>match ev px st 0 x,ev px st t y with
  |some (.ptr b off),some d=>match blk st.bl b with
   |some (.bld ty _)=>match Nat.beq off 1&&Bth d&&(px.tt t).isSl .byte with
    |true=>K { st with bl:=Dd st.bl b (.bld ty d) }
    |false=>none
   |_=>match(match blk st.bl b with
    |some (.cells ds)=>some ds
    |some (.box c y)=>some (enc c y)
    |_=>none) with
    |some ds=>match Nat.beq (cells d).length (px.tt t).n&&Nat.ble (off+(cells d).length) ds.length&&lfs d&&(px.tt t).known with
     |true=>K { st with bl:=Dd st.bl b (A2n ds off d) }
     |false=>none
    |_=>none
  |some (.rp b c0 n0 i),some d=>match blk st.bl b with
   |some (.row c n xs)=>match toK c d,Nat.beq (px.tt t).n (csz c)&&decide (c0=c)&&Nat.beq n0 n&&(px.tt t).known with
    |some x,true=>K { st with bl:=Dd st.bl b (.row c n (xs.set i.toNat x)) }
    |_,_=>none
   |_=>none
  |some (.dp b c0 i),some d=>match blk st.bl b with
   |some (.dyn c xs)=>match toK c d,Nat.beq (px.tt t).n (csz c)&&decide (c0=c)&&(px.tt t).known with
    |some x,true=>chk (inb i xs.length) (K { st with bl:=Dd st.bl b (.dyn c (xs.set i.toNat x)) })
    |_,_=>none
   |_=>none
  |_,_=>none
 |_=>none
def A9j(px:Px R)(o:Oper)(st:St)(K:St->Option R):Option R:=match o.op with
 |.defer ⟨.value f,⟨[]⟩,_⟩=>match ev px st 0 f with
  |some (.fn g caps)=>K { st with df :=.fn g caps::st.df }
  |_=>none
 |_=>Yw px o st K
def wsN(px:Px R)(o:Oper)(st:St):List Nat:=match o.op with
 |.store _ x _=>match ev px st 0 x with|some (.ptr b _)=>[b]|some (.rp b _ _ _)=>[b]|some (.dp b _ _)=>[b]|_=>[]
 |_=>[]
def Bll(px:Px R)(o:Oper)(st:St):Option (Nat×List D):=match o.op with
 |.call ⟨.value (.tmp f),xs,ts⟩=>match get st.env f with
  |some (.yl b)=>match evs px st ts.toList xs.toList with|some ds=>some (b,ds)|none=>none
  |_=>none
 |_=>none
def one(px:Px R)(o:Oper)(st:St)(K:St->Option R):Option R:=match o.dst with
 |some d=>match Nat.blt d st.n with
  |true=>match Bll px o st with|some (b,ds)=>px.yld b ds st λv st'=>K (st'.put d v)|none=>step px o st λv st'=>K (st'.put d v)
  |false=>none
 |none=>A9j px o st K
def off(o:Oper)(st:St):St:=match o.dst with|some d=>st.put d .undef|none=>st
def opG(px:Px R)(all:Array Oper)(o:Oper)(st:St)(K:St->Option R):Option R:=match o.guard with
 |none=>one px o st K
 |some (j,b)=>match(all[j]?).bind (·.dst) with
  |none=>none
  |some g=>match get st.env g with
   |some (.bool x)=>cond x
     (match b with
      |true=>one px o (st.put g (.bool true)) K
      |false=>K (off o (st.put g (.bool true))))
     (match b with
      |false=>one px o (st.put g (.bool false)) K
      |true=>K (off o (st.put g (.bool false))))
   |some .undef=>K (off o st)
   |_=>none
def Lz(x:Operand)(d:Nat):Bool:=match x with|.tmp k => !Nat.beq k d|_=>true
def Aim(px:Px R)(o o2 o3:Oper)(st:St):Option (Bool×St):=match o.op with
 |.call ⟨.builtin .append,⟨[x,z]⟩,⟨[t,t']⟩⟩=>match o2.op with
  |.indexAddr t2 (.tmp a) i=>match o3.op with
   |.store u (.tmp b) y=>match o.dst,o2.dst,o3.dst with
    |some d,some d2,none=>match o.guard.isNone&&o2.guard.isNone&&o3.guard.isNone&&Nat.beq t t'&&Nat.beq t2 t&&Nat.beq a d&&Nat.beq b d2 && !Nat.beq d d2&&Nat.blt d st.n&&Nat.blt d2 st.n&&Lz i d&&Lz y d&&Lz y d2 with
     |true=>match px.tt t,ev px st t x,ev px st t z,ev px st 0 i,ev px st u y with
      |.sl c,some (.sl c' xs tk),some zs,some (.int _ n),some dy=>match toS c zs,toK c dy,F1 st.tk tk,Nat.beq (px.tt u).n (csz c)&&(px.tt u).known with
       |some [_],some e,some al,true=>if h:c' = c then some (decide (xs.length+1<=Ah)&&decide (n=(xs.length:Int)),(((D4 { st with tk:=al }).put d (.sl c ((h▸xs:List (El c))++[e]) (.id st.nt))).put d2 .junk)) else none
       |_,_,_,_=>none
      |_,_,_,_,_=>none
     |false=>none
    |_,_,_=>none
   |_=>none
  |_=>none
 |_=>none
def ops(px:Px R)(all:Array Oper):List Oper->St->(St->Option R)->Option R
 |[],st,K=>K st
 |[o],st,K=>opG px all o st K
 |[o,o2],st,K=>opG px all o st λst'=>ops px all [o2] st' K
 |o::o2::o3::l,st,K=>match Aim px o o2 o3 st with|some p=>chk p.1 (ops px all l p.2 K)|none=>opG px all o st λst'=>ops px all (o2::o3::l) st' K
def F5(ops:Array Oper):Nat->Oper->Nat->Bool
 |0,_,_=>false
 |n+1,o,i=>o.after.any λe=>Region.binds .any e&&Nat.ble i e.on&&(Nat.beq e.on i||match ops[e.on]? with
  |some p=>F5 ops n p i
  |none=>false)
def Br9(ops:Array Oper)(j:Nat):Bool:=match ops[j]? with|some o=>(List.range j).all λq=>F5 ops 12 o q|none=>false
def F4(ops:Array Oper):Nat->Nat
 |0=>0
 |n+1=>match Br9 ops n with|true=>F4 ops n|false=>n+1
def Cn(n:Nat)(p:Nat->Bool):Array Bool:=((List.range n).map p).toArray
def dNe(a:Nat)(l:List Nat):Bool:=l.all λb => !Nat.beq a b
def A8u(ops:Array Oper)(e:Nat)(q3:Bool):Bool:=match ops[e]?,ops[e+1]?,ops[e+2]? with
 |some oa,some ob,some oc=>match ob.op,oc.op,oa.dst,ob.dst,oc.dst with
  |.indexAddr _ (.tmp a) i,.store _ (.tmp b) y,some d,some d2,none=>oa.guard.isNone&&ob.guard.isNone&&oc.guard.isNone&&Nat.beq a d&&Nat.beq b d2 && !Nat.beq d d2&&Lz i d&&Lz y d&&Lz y d2&&match q3 with
   |false=>match ops[e+3]? with
    |some os=>match os.op,os.dst with|.store _ (.tmp k) (.tmp q),none=>os.guard.isNone&&Nat.beq q d&&dNe k [d,d2]|_,_=>false
    |none=>false
   |true=>match ops[e+3]?,ops[e+4]?,ops[e+5]? with
    |some on,some of,some os=>match on.op,of.op,os.op,on.dst,of.dst,os.dst with|.nilCheck (.tmp k),.fieldAddr _ (.tmp f1) _,.store _ (.tmp p) (.tmp q),some dn,some df,none=>on.guard.isNone&&of.guard.isNone&&os.guard.isNone&&Nat.beq f1 dn&&Nat.beq p df&&Nat.beq q d&&dNe k [d,d2,dn,df]&&dNe dn [d,d2,df]&&dNe df [d,d2]&&Lz y dn&&Lz y df|_,_,_,_,_,_=>false
    |_,_,_=>false
  |_,_,_,_,_=>false
 |_,_,_=>false
def Lh(ops:Array Oper)(e:Nat)(q3:Bool):Bool :=
 Region.noSelect ops&&((List.range ops.size).all λj=>Nat.blt j e||match ops[j]? with
  |some o=>(List.range e).all λq=>F5 ops 12 o q
  |none=>true) &&
 Region.ready .any ops (Cn ops.size λi=>Nat.blt i e) == [e] &&
 (Region.ready .any ops (Cn ops.size λi=>Nat.ble i e)).contains (e+1)&&Region.free .any ops (Cn ops.size λi=>Nat.ble i e) (e+1) &&
 (Region.ready .any ops (Cn ops.size λ_=>true)).isEmpty &&
 match q3 with
 |false=>Nat.beq ops.size (e+4)&&(Region.ready .any ops (Cn ops.size λi=>Nat.ble i (e+1))).contains (e+2) &&
  Region.ready .any ops (Cn ops.size λi=>Nat.ble i (e+2)) == [e+3] &&
  Region.ready .any ops (Cn ops.size λi=>Nat.ble i (e+1)||Nat.beq i (e+3)) == [e+2]
 |true=>Nat.beq ops.size (e+6)&&(Region.ready .any ops (Cn ops.size λi=>Nat.ble i (e+1))).contains (e+3)&&Region.free .any ops (Cn ops.size λi=>Nat.ble i (e+1)) (e+3) &&
  (Region.ready .any ops (Cn ops.size λi=>Nat.ble i (e+1)||Nat.beq i (e+3))).contains (e+4)&&Region.free .any ops (Cn ops.size λi=>Nat.ble i (e+1)||Nat.beq i (e+3)) (e+4) &&
  (Region.ready .any ops (Cn ops.size λi=>Nat.ble i (e+1)||Nat.beq i (e+3)||Nat.beq i (e+4))).contains (e+2) &&
  Region.ready .any ops (Cn ops.size λi=>Nat.ble i (e+4)) == [e+5] &&
  Region.ready .any ops (Cn ops.size λi=>Nat.ble i (e+1)||Nat.beq i (e+3)||Nat.beq i (e+4)||Nat.beq i (e+5)) == [e+2]
def A7h(ops:Array Oper)(e:Nat)(q3:Bool):Bool:=A8u ops e q3&&Lh ops e q3
def Q4(ops:Array Oper):Option (Nat×Bool):=match Nat.ble 4 ops.size&&A7h ops (ops.size-4) false with
 |true=>some (ops.size-4,false)
 |false=>match Nat.ble 6 ops.size&&A7h ops (ops.size-6) true with|true=>some (ops.size-6,true)|false=>none
def Gn(ops:Array Oper):Nat:=match Nat.beq (F4 ops ops.size) 0 with
 |true=>0
 |false=>match Q4 ops with|some p=>p.1|none=>F4 ops ops.size
def Bfb(ops:Array Oper)(e:Nat)(q3:Bool):Option Nat:=match ops[match q3 with|true=>e+3|false=>e+3]? with
 |some o=>match o.op with|.nilCheck (.tmp k)=>some k|.store _ (.tmp k) _=>some k|_=>none
 |none=>none
def Ata(px:Px R)(os:Array Oper)(st:St):Bool:=match Nat.beq (F4 os os.size) 0 with
 |true=>true
 |false=>match Q4 os with
  |some (e,q3)=>match Bfb os e q3,os[e]?,os[e+1]?,os[e+2]? with
   |some k,some oa,some ob,some oc=>(Aim px oa ob oc st).isSome&&(match get st.env k with
    |some (.ptr b _)=>match blk st.bl b with|some (.cells _)=>true|some (.box _ _)=>true|_=>false
    |_=>false)
   |_,_,_,_=>false
  |none=>true
def Ao9:D->Option Nat
 |.ptr b _=>some b
 |.rp b _ _ _=>some b
 |.dp b _ _=>some b
 |_=>none
def A1z(o:Oper):Option Nat:=match o.op with|.load _ (.tmp k)=>some k|_=>none
def Be0(ops:Array Oper)(i j:Nat):Bool:=match Nat.blt i j with
 |true=>match ops[j]? with|some o=>F5 ops 12 o i|none=>false
 |false=>match ops[i]? with|some o=>Nat.beq i j||F5 ops 12 o j|none=>false
def Be5(ops:Array Oper)(k lo hi:Nat):Bool:=(List.range hi).all λq=>Nat.blt q lo||match ops[q]? with
 |some o=>match o.dst with|some d => !Nat.beq d k|none=>true
 |none=>true
def Bu7(ops:Array Oper)(T i:Nat)(env:Env)(ws:List Nat):Bool:=(List.range T).all λj=>match ops[j]? with
 |some oj=>match A1z oj with
  |some k=>Be0 ops i j||(Be5 ops k (min i j) (max i j)&&match get env k with
   |some d=>match Ao9 d with|some b => !ws.contains b|none=>true
   |none=>false)
  |none=>true
 |none=>true
def Bbp(px:Px R)(all:Array Oper)(T i:Nat)(o:Oper)(st:St)(K:St->Option R):Option R:=match o.dst with
 |some d=>match Nat.blt d st.n with
  |true=>Bl1 px o st λv ws st'=>match ws.isEmpty||Bu7 all T i st.env ws with|true=>K (st'.put d v)|false=>none
  |false=>none
 |none=>match Bu7 all T i st.env (wsN px o st) with|true=>Yw px o st K|false=>none
def Bvi(px:Px R)(all:Array Oper)(T i:Nat)(o:Oper)(st:St)(K:St->Option R):Option R:=match o.guard with
 |none=>Bbp px all T i o st K
 |some (j,b)=>match(all[j]?).bind (·.dst) with
  |none=>none
  |some g=>match get st.env g with
   |some (.bool x)=>cond x
     (match b with
      |true=>Bbp px all T i o (st.put g (.bool true)) K
      |false=>K (off o (st.put g (.bool true))))
     (match b with
      |false=>Bbp px all T i o (st.put g (.bool false)) K
      |true=>K (off o (st.put g (.bool false))))
   |some .undef=>K (off o st)
   |_=>none
def A91(px:Px R)(all:Array Oper)(T:Nat):Nat->List Oper->St->(St->Option R)->Option R
 |_,[],st,K=>K st
 |i,o::l,st,K=>Bvi px all T i o st λst'=>A91 px all T (i+1) l st' K
def Gx(px:Px R):Code->St->(Ex->St->Option R)->Option R
 |.skip,st,K=>K .normal st
 |.region _ os dr,st,K=>match dr with
  |false=>ops px os os.toList st (K .normal)
  |true=>A91 px os (Gn os) 0 (os.toList.take (Gn os)) st λst'=>match Ata px os st' with|true=>ops px os (os.toList.drop (Gn os)) st' (K .normal)|false=>none
 |.seq a b,st,K=>Gx px a st λe st'=>match e with|.normal=>Gx px b st' K|e=>K e st'
 |.cond c a b,st,K=>match ev px st 0 c with|some (.bool x)=>cond x (Gx px a st K) (Gx px b st K)|_=>none
 |.block id b,st,K=>Gx px b st λe st'=>match e with
  |.exit i=>match Nat.beq i id with|true=>K .normal st'|false=>K e st'
  |e=>K e st'
 |.loop b,st,K=>px.loop b st K
 |.exit id,st,K=>K (.exit id) st
 |.scope b,st,K=>Gx px b st K
 |.label _,st,K=>K .normal st
 |.ret,st,K=>K .ret st
 |.rangeFunc g ps asg body,st,K=>match ev px st 0 g with
  |some (.fn f caps)=>px.call f (.yl (st.nb+1)::caps) { st with bl:=(st.nb+1,.lr 0 st.n ps.toList asg body st.env)::(st.nb,.ob 0)::st.bl,nb:=st.nb+2,df :=.ptr st.nb (st.nb+1)::st.df } λ_ st'=>match blk st'.bl (st.nb+1) with
   |some (.lr 0 _ _ _ _ _)=>K .normal { st' with bl:=Dd st'.bl (st.nb+1) (.ob 2) }
   |some (.lj (.exit id))=>K (.exit id) { st' with bl:=Dd st'.bl (st.nb+1) (.ob 2) }
   |some (.lj .ret)=>K .ret { st' with bl:=Dd st'.bl (st.nb+1) (.ob 2) }
   |some (.lx j _ _ _ _ _ q)=>cond (decide (j=0)) (K .normal { st' with bl:=Dd st'.bl (st.nb+1) (.ob 2) }) (cond (decide (j=1)) (K .ret { st' with bl:=Dd st'.bl (st.nb+1) (.ob 2) }) (K (.exit q) { st' with bl:=Dd st'.bl (st.nb+1) (.ob 2) }))
   |_=>none
  |_=>none
 |_,_,_=>none
def Dm:Nat->List D->Env
 |_,[]=>[]
 |i,v::vs=>(i,v)::Dm (i+1) vs
def results(px:Px R)(st:St):List ResultVar->Option (List D)
 |[]=>some []
 |.tmp t::l=>match get st.env t,results px st l with|some d,some ds=>some (d::ds)|_,_=>none
 |.cell a t::l=>match get st.env a with
  |some p=>match(px.tt t).known,load px st (px.tt t) p,results px st l with|true,some d,some ds=>some (d::ds)|_,_,_=>none
  |none=>none
def st0(n:Nat)(sa:List Sg)(x:HV sa):St:=⟨n,Dm 0 (Bw 0 sa x),0,0,[],[],0,A7 0 sa,sa.length,[]⟩
def Bet(bl:List (Nat×Blk))(d:D)(K:D->List (Nat×Blk)->Option R):Option R:=match d with
 |.osl b c s n=>match blk bl b with
  |some (.dyn c' xs)=>match decide (c=c') with|true=>chk (decide (0<=s)&&decide (0<=n)&&decide (s+n<=(xs.length:Int))) (K (.sl c' (cut xs s (s+n)) .no) (Bj bl b))|false=>none
  |_=>none
 |d=>K d bl
def Bkz(bl:List (Nat×Blk)):List D->(List D->List (Nat×Blk)->Option R)->Option R
 |[],K=>K [] bl
 |d::ds,K=>Bet bl d λd' bl'=>Bkz bl' ds λds' bl2=>K (d'::ds') bl2
def Bdb(bl:List (Nat×Blk))(d:D)(K:D->List (Nat×Blk)->Option R):Option R:=match d with|.agg ds=>Bkz bl ds λds' bl'=>K (.agg ds') bl'|d=>Bet bl d K
def Bbx(bl:List (Nat×Blk)):List D->(List D->List (Nat×Blk)->Option R)->Option R
 |[],K=>K [] bl
 |d::ds,K=>Bdb bl d λd' bl'=>Bbx bl' ds λds' bl2=>K (d'::ds') bl2
def Afn:List Sg->St->List D->(List D->St->Option R)->Option R
 |.sl _ true::sr,st,.osl b c s n::ds,K=>match blk st.bl b with
  |some (.dyn c' xs)=>match decide (c=c') with
   |true=>chk (decide (s=0)&&decide (0<n)&&decide (n<=(xs.length:Int))) (Afn sr (D4 { st with bl:=Bj st.bl b }) ds λds' st'=>K (.sl c' (xs.take n.toNat) (.id st.nt)::ds') st')
   |false=>none
  |_=>none
 |_::sr,st,d::ds,K=>Bdb st.bl d λd' bl'=>Afn sr { st with bl:=bl' } ds λds' st'=>K (d'::ds') st'
 |[],st,[],K=>K [] st
 |_,_,_,_=>none
def Zj(px:Px R)(fn:Func)(sa sr:List Sg)(x:HV sa)(fin:HV sr->Option R):Option R:=match fn.body with
 |some c=>Gx px c (st0 fn.ntmps sa x) λe st=>match e with
  |.exit _=>none
  |_=>match st.df,results px st fn.results.toList with
   |[],some rs=>Afn sr st rs λrs' st'=>match L0 sr st'.tk rs' with|some r=>fin r|none=>none
   |_,_=>none
 |none=>none
def A3z:Sg->Bool
 |.int _|.bool|.str=>true
 |_=>false
def Ku(sa sr:List Sg)(F:HV sa->Option (HV sr))(args:List D)(st:St)(K:List D->St->Option R):Option R:=Bbx st.bl args λargs' bl'=>match L0 sa st.tk args' with
 |some x=>(F x).bind λr=>K (Bw st.nt sr r) { st with bl:=(match sr.all A3z with|true=>st.bl|false=>bl'),tk:=A7 st.nt sr++st.tk,nt:=st.nt+sr.length }
 |none=>none
def Bi9:Ck->Bool
 |.byte|.int|.u64|.str|.bool|.val|.tok|.col|.got|.pair=>true
 |_=>false
def K5(sa:List Sg)(c:Ck)(F:HV sa->Option (HV [.sl c true]))(args:List D)(st:St)(K:List D->St->Option R):Option R:=Bbx st.bl args λargs' bl'=>match L0 sa st.tk args' with
 |some x=>(F x).bind λr=>cond (List.isEmpty (α:=El c) r) (K [.sl c [] .no] { st with bl:=bl',nb:=st.nb+1,nt:=st.nt+1 }) (K [.osl st.nb c 0 ((List.length (α:=El c) r:Nat):Int)] (G7 { st with bl:=bl',nt:=st.nt+1 } (.dyn c r)))
 |none=>none
def Iz(sa sr:List Sg)(F:HV sa->Option (HV sr))(args:List D)(K:List D->Option R):Option R:=match L0 sa [] args with|some x=>(F x).bind λr=>K (Bw 0 sr r)|none=>none
def Asi(px:Px R)(fn:Func)(args:List D)(st:St)(K:List D->St->Option R):Option R:=match fn.body with
 |some c=>Gx px c { st with n:=fn.ntmps,env:=Dm 0 args,lb:=st.nb,lt:=st.nt,fr:=⟨st.n,st.env,st.lb,st.lt,st.df⟩::st.fr,df:=[] } λe st'=>match e with
  |.exit _=>none
  |_=>match st'.df,results px st' fn.results.toList,st'.fr with
   |[],some rs,f::fr=>K rs { st' with n:=f.n,env:=f.env,lb:=f.lb,lt:=f.lt,fr:=fr,df:=f.df }
   |_,_,_=>none
 |none=>none
def Q6:List Nat->List D->Env->Option Env
 |[],[],e=>some e
 |p::ps,d::ds,e=>Q6 ps ds ((p,d)::e)
 |_,_,_=>none
def A8b(px:Px R)(b:Nat)(ds:List D)(st:St)(K:D->St->Option R):Option R:=match blk st.bl b with
 |some (.lr 0 n ps asg body env)=>match Q6 ps ds env,ps.all (λp=>Nat.blt p n) with
  |some env',true=>Gx px asg { st with n:=n,env:=env',lb:=st.nb,lt:=st.nt,fr:=⟨1,[(0,.ptr b 0)],st.nb,st.nt,[]⟩::⟨st.n,st.env,st.lb,st.lt,st.df⟩::st.fr,df:=[] } λe st1=>match e,blk st1.bl b with
   |.normal,some (.lr 0 n1 ps1 asg1 body1 env1)=>Gx px body { st1 with bl:=Dd st1.bl b (.lr 1 n1 ps1 asg1 body1 env1) } λe2 st2=>match st2.df,st2.fr,blk st2.bl b with
    |[],_::f::fr,some (.lr 1 n2 ps2 asg2 body2 env2)=>match e2 with
     |.normal=>K (.bool true) { st2 with n:=f.n,env:=f.env,lb:=f.lb,lt:=f.lt,fr:=fr,df:=f.df,bl:=Dd st2.bl b (.lr 0 n2 ps2 asg2 body2 env2) }
     |e2=>K (.bool false) { st2 with n:=f.n,env:=f.env,lb:=f.lb,lt:=f.lt,fr:=fr,df:=f.df,bl:=Dd st2.bl b (.lj e2) }
    |_,_,_=>none
   |_,_=>none
  |_,_=>none
 |_=>none
def A72(px:Px R)(b:Nat)(ds:List D)(st:St)(K:D->St->Option R):Option R:=match blk st.bl b with
 |some (.lx j n ps asg body env _)=>chk (decide (j=0)) (A8b px b ds { st with bl:=Dd st.bl b (.lr 0 n ps asg body env) } K)
 |_=>A8b px b ds st K
inductive Bs where
 |cells (l:List Sg)
 |one (s:Sg)
 |bld (t:Nat)
 |fx (ds:List D)
 |oc (l:List Sg) (b:Nat) (c:Ck)
 |rc (n:Nat) (ps:List Nat) (asg body:Code) (env:List (Nat×D)) (q:Nat)
def Bs.sgs:Bs->List Sg
 |.cells l=>l
 |.one s=>[s]
 |.bld _=>[.sl .byte true]
 |.fx _=>[]
 |.oc l _ _=>l++[.int .i64,.int .i64]
 |.rc _ _ _ _ _ _=>[.int .i64]
def Bb0:Blk->D
 |.cells ds =>.agg ds
 |.box c y =>.sv c y
 |.row c n xs =>.rw c n xs
 |.dyn c xs =>.dn c xs
 |.bld _ d=>d
 |.ob _ =>.junk
 |.lr _ _ _ _ _ _ =>.junk
 |.lj _ =>.junk
 |.lx _ _ _ _ _ _ _ =>.junk
structure Sig where
 n:Nat
 vars:List (Nat×Sg)
 fix:List (Nat×D)
 bl:List (Nat×Bs)
 nb:Nat
 lb:Nat
 lt:Nat
 tk:List Nat
 ow:List (Nat×Nat×Ck):=[]
def Ayv:List (Nat×Nat×Ck)->List Sg
 |[]=>[]
 |_::l =>.int .i64 :: .int .i64::Ayv l
def Sig.sgs(s:Sig):List Sg:=s.vars.map (·.2)++((s.bl.map (·.2.sgs)).flatten++Ayv s.ow)
def Jk(env:Env):List (Nat×Sg)->Option (List D)
 |[]=>some []
 |(k,_)::l=>match get env k,Jk env l with|some d,some ds=>some (d::ds)|_,_=>none
def L6:List D->List D->Bool
 |[],[]=>true
 |.ptr b o::l,.ptr b' o'::m=>Nat.beq b b'&&Nat.beq o o'&&L6 l m
 |_,_=>false
def Us:List D->List D->Bool
 |[],[]=>true
 |.str a::l,.str b::m=>decide (a=b)&&Us l m
 |_,_=>false
def Rs:D->D->Bool
 |.ptr b o,.ptr b' o'=>Nat.beq b b'&&Nat.beq o o'
 |.fn f cs,.fn f' cs'=>Nat.beq f f'&&L6 cs cs'
 |.bm f cs,.bm f' cs'=>Nat.beq f f'&&L6 cs cs'
 |.gp g,.gp g'=>Nat.beq g g'
 |.yl b,.yl b'=>Nat.beq b b'
 |.nilp,.nilp=>true
 |.agg l,.agg m=>Us l m
 |_,_=>false
def Mt:List D->List D->Bool
 |[],[]=>true
 |a::l,b::m=>Rs a b&&Mt l m
 |_,_=>false
def Aoj:Nat->Nat->Ck->List D->Option (List D)
 |0,b,c,[.osl b' c' s n]=>match Nat.beq b' b&&decide (c' = c) with|true=>some [.int .i64 s,.int .i64 n]|false=>none
 |k+1,b,c,d::ds=>match Aoj k b c ds with|some ds'=>some (d::ds')|none=>none
 |_,_,_,_=>none
def U7:Nat->Nat->Ck->List D->List D
 |0,b,c,.int _ s :: .int _ n::_=>[.osl b c s n]
 |k+1,b,c,d::ds=>d::U7 k b c ds
 |_,_,_,_=>[]
def Bm5:Value->Value->Bool
 |.int k n,.int k' n'=>decide (k=k')&&decide (n=n')
 |.bool a,.bool b=>a == b
 |.slice none 0 0,.slice none 0 0=>true
 |_,_=>false
def Qh:Operand->Operand->Bool
 |.tmp a,.tmp b=>Nat.beq a b
 |.const v,.const w=>Bm5 v w
 |_,_=>false
def Abo:List Operand->List Operand->Bool
 |[],[]=>true
 |a::l,b::m=>Qh a b&&Abo l m
 |_,_=>false
def Xj:List Nat->List Nat->Bool
 |[],[]=>true
 |a::l,b::m=>Nat.beq a b&&Xj l m
 |_,_=>false
def Uj:List (Nat×Operand)->List (Nat×Operand)->Bool
 |[],[]=>true
 |(i,a)::l,(j,b)::m=>Nat.beq i j&&Qh a b&&Uj l m
 |_,_=>false
def Bt0:Op->Op->Bool
 |.alloc t,.alloc t'=>Nat.beq t t'
 |.store t a b,.store t' a' b'=>Nat.beq t t'&&Qh a a'&&Qh b b'
 |.load t a,.load t' a'=>Nat.beq t t'&&Qh a a'
 |.fieldAddr t a f,.fieldAddr t' a' f'=>Nat.beq t t'&&Qh a a'&&Nat.beq f f'
 |.binOp o t a b u,.binOp o' t' a' b' u'=>decide (o=o')&&Nat.beq t t'&&Qh a a'&&Qh b b'&&Nat.beq u u'
 |.buildSlice t n ⟨l⟩,.buildSlice t' n' ⟨m⟩=>Nat.beq t t'&&Nat.beq n n'&&Uj l m
 |.call ⟨.builtin f,⟨xs⟩,⟨ts⟩⟩,.call ⟨.builtin g,⟨ys⟩,⟨us⟩⟩=>decide (f=g)&&Abo xs ys&&Xj ts us
 |_,_=>false
def To:List Edge->List Edge->Bool
 |[],[]=>true
 |⟨a,g⟩::l,⟨b,h⟩::m=>Nat.beq a b&&decide (g=h)&&To l m
 |_,_=>false
def Ug:List Oper->List Oper->Bool
 |[],[]=>true
 |⟨d,o,t,p,⟨a⟩,g⟩::l,⟨d',o',t',p',⟨a'⟩,g'⟩::m=>decide (d=d')&&Bt0 o o'&&Nat.beq t t'&&decide (p=p')&&To a a'&&decide (g=g')&&Ug l m
 |_,_=>false
def C0:Code->Code->Bool
 |.skip,.skip=>true
 |.ret,.ret=>true
 |.exit i,.exit j=>Nat.beq i j
 |.region i ⟨l⟩ d,.region j ⟨m⟩ e=>Nat.beq i j&&Ug l m&&(d == e)
 |.seq a b,.seq a' b'=>C0 a a'&&C0 b b'
 |.cond c a b,.cond c' a' b'=>Qh c c'&&C0 a a'&&C0 b b'
 |.block i b,.block j b'=>Nat.beq i j&&C0 b b'
 |_,_=>false
def Yf(env:Env):List (Nat×D)->Bool
 |[]=>true
 |(k,d)::l=>match get env k with|some d'=>Rs d d'&&Yf env l|none=>false
def Asz(n:Nat)(ps:List Nat)(asg body:Code)(env:List (Nat×D))(n':Nat)(ps':List Nat)(asg' body':Code)(env':Env):Bool:=Nat.beq n n'&&Xj ps ps'&&C0 asg asg'&&C0 body body'&&Yf env' env
def Bnc(n:Nat)(ps:List Nat)(asg body:Code)(env:List (Nat×D))(q:Nat):Blk->Option Int
 |.lr s n' ps' asg' body' env'=>match Nat.beq s 0&&Asz n ps asg body env n' ps' asg' body' env' with|true=>some 0|false=>none
 |.lj .ret=>some 1
 |.lj (.exit i)=>match Nat.beq i q with|true=>some 2|false=>none
 |.lx j n' ps' asg' body' env' q'=>match Nat.beq q' q&&Asz n ps asg body env n' ps' asg' body' env' with|true=>some j|false=>none
 |_=>none
def Be(bl:List (Nat×Blk)):List (Nat×Bs)->Option (List D)
 |[]=>some []
 |(b,.cells l)::r=>match blk bl b,Be bl r with
  |some (.cells ds),some es=>match Nat.beq ds.length l.length with|true=>some (ds++es)|false=>none
  |_,_=>none
 |(b,.one _)::r=>match blk bl b,Be bl r with|some (.bld _ _),_=>none|some (.ob _),_=>none|some (.lr _ _ _ _ _ _),_=>none|some (.lj _),_=>none|some (.lx _ _ _ _ _ _ _),_=>none|some k,some es=>some (Bb0 k::es)|_,_=>none
 |(b,.bld t)::r=>match blk bl b,Be bl r with
  |some (.bld t' d),some es=>match Nat.beq t' t with|true=>some (d::es)|false=>none
  |_,_=>none
 |(b,.fx ds)::r=>match blk bl b,Be bl r with
  |some (.cells ds'),some es=>match Mt ds ds' with|true=>some es|false=>none
  |_,_=>none
 |(b,.oc l b1 c)::r=>match blk bl b,Be bl r with
  |some (.cells ds),some es=>match Aoj l.length b1 c ds with|some ds'=>some (ds'++es)|none=>none
  |_,_=>none
 |(b,.rc n ps asg body env q)::r=>match blk bl b,Be bl r with
  |some k,some es=>match Bnc n ps asg body env q k with|some j=>some (.int .i64 j::es)|none=>none
  |_,_=>none
def Ko(env:Env):List (Nat×Nat×Ck)->Option (List D)
 |[]=>some []
 |(k,b,c)::l=>match get env k,Ko env l with
  |some (.osl b' c' s n),some ds=>match Nat.beq b' b&&decide (c' = c) with|true=>some (.int .i64 s :: .int .i64 n::ds)|false=>none
  |_,_=>none
def Cc:List Nat->List Nat->Bool
 |[],[]=>true
 |a::l,b::m=>Nat.beq a b&&Cc l m
 |_,_=>false
def Im(s:Sig)(st:St):Option (HV s.sgs):=match Jk st.env s.vars,Be st.bl s.bl,Ko st.env s.ow,Yf st.env s.fix&&Nat.beq st.n s.n&&Nat.beq st.lb s.lb&&Nat.beq st.lt s.lt&&st.df.isEmpty&&s.tk.all (λt=>Nat.blt t s.lt&&st.tk.contains t) with|some a,some b,some o,true=>L0 s.sgs (st.tk.filter λt => !s.tk.contains t) (a++(b++o))|_,_,_,_=>none
def Avj:List (Nat×Sg)->List D->Env×List D
 |(k,_)::l,d::ds=>match Avj l ds with|(e,r)=>((k,d)::e,r)
 |_,r=>([],r)
def unD:D->Blk
 |.sv c y =>.box c y
 |.rw c n xs =>.row c n xs
 |.dn c xs =>.dyn c xs
 |d =>.cells (cells d)
def Ct:List (Nat×Bs)->List D->List (Nat×Blk)
 |[],_=>[]
 |(b,.cells l)::r,ds=>(b,.cells (ds.take l.length))::Ct r (ds.drop l.length)
 |(b,.one _)::r,d::ds=>(b,unD d)::Ct r ds
 |(b,.one _)::r,[]=>(b,.cells [])::Ct r []
 |(b,.bld t)::r,d::ds=>(b,.bld t d)::Ct r ds
 |(b,.bld _)::r,[]=>(b,.cells [])::Ct r []
 |(b,.fx l)::r,ds=>(b,.cells l)::Ct r ds
 |(b,.oc l b1 c)::r,ds=>(b,.cells (U7 l.length b1 c ds))::Ct r (ds.drop (l.length+2))
 |(b,.rc n ps asg body env q)::r,.int _ j::ds=>(b,.lx j n ps asg body env q)::Ct r ds
 |(b,.rc _ _ _ _ _ _)::r,ds=>(b,.ob 2)::Ct r (ds.drop 1)
def Auk:List (Nat×Nat×Ck)->List D->Env
 |(k,b,c)::l,.int _ s :: .int _ n::ds=>(k,.osl b c s n)::Auk l ds
 |_,_=>[]
def Fw(s:Sig)(fr:List Fr)(x:HV s.sgs):St:=match Avj s.vars (Bw s.lt s.sgs x) with|(e,r)=>⟨s.n,e++(s.fix++Auk s.ow (r.drop ((s.bl.map (·.2.sgs)).flatten).length)),s.lb,s.lt,fr,Ct s.bl r,s.nb,A7 s.lt s.sgs++s.tk,s.lt+s.sgs.length,[]⟩
def Aj{V:Type}(step:(V->Option R)->V->Option R):Nat->V->Option R
 |0,_=>none
 |n+1,v=>step (Aj step n) v
abbrev Aml(V R:Type):=(V->Option R)->(Ex->V->Option R)->V->Option R
def round(px:Px R)(s:Sig)(b:Code)(fr:List Fr):Aml (HV s.sgs) R:=λrec kx v=>Gx px b (Fw s fr v) λe st=>match Im s st with
 |some v'=>match e with|.normal=>rec v'|e=>kx e v'
 |none=>none
def Am(k:Nat)(s:Sig)(step:Aml (HV s.sgs) R)(st:St)(K:Ex->St->Option R):Option R:=match Im s st with|some v=>Aj (λrec=>step rec (λe v'=>K e (Fw s st.fr v'))) k v|none=>none
def Bvx(px0:Px R)(b:Code)(st:St)(K:Ex->St->Option R):Option R:=Gx px0 b st λe st'=>match e with|.normal=>none|e=>K e st'
def Asa(px0:Px R)(b:Code)(k:Nat)(s:Sig)(step:Aml (HV s.sgs) R)(st:St)(K:Ex->St->Option R):Option R:=match Im s st with|some _=>Am k s step st K|none=>Bvx px0 b st K
def P9:Code->Nat
 |.region id _ _=>id
 |.seq a _=>P9 a
 |.block _ b=>P9 b
 |.loop b=>P9 b
 |.scope b=>P9 b
 |_=>0
end
def A4:Code->List Code
 |.seq a b=>A4 a++A4 b
 |.cond _ a b=>A4 a++A4 b
 |.block _ b=>A4 b
 |.loop b=>b::A4 b
 |.scope b=>A4 b
 |_=>[]
def Ie:Code->List (List Nat×Code×Code)
 |.seq a b=>Ie a++Ie b
 |.cond _ a b=>Ie a++Ie b
 |.block _ b=>Ie b
 |.loop b=>Ie b
 |.scope b=>Ie b
 |.rangeFunc _ ps asg body=>[(ps.toList,asg,body)]
 |_=>[]
def rd(fn:Func)(i:Nat):List Nat×Code×Code:=match fn.body with|some c=>(Ie c).getD i ([],.skip,.skip)|none=>([],.skip,.skip)
def lp(fn:Func)(i:Nat):Code:=match fn.body with|some c=>(A4 c).getD i .skip|none =>.skip
open Go.RowKit
abbrev Fp:=Nat->Nat->Prop
structure Chg (S:Fp) (w w':World):Prop where
 os:w'.os=w.os
 tape:w'.tape=w.tape
 output:w'.output=w.output
 size:w.heap.size<=w'.heap.size
 block:∀k,k<w.heap.size->(∀i,¬S k i)->w'.heap[k]? = w.heap[k]?
 cell:∀b i v,w.cell? ⟨b,i,none⟩=some v->¬S b i->w'.cell? ⟨b,i,none⟩=some v
 shape:∀(b:Nat) (cs:Array Value) (t:TypeId) (f:Nat×Nat),w.heap[b]? = some (.cells cs t f)->∃cs' f',w'.heap[b]? = some (.cells cs' t f')/\cs'.size=cs.size
theorem Aa6{w:World}{b i:Nat}{v:Value}(h:w.cell? ⟨b,i,none⟩=some v):b<w.heap.size:=World.block_lt_of_cell? w ⟨b,i,none⟩ h
theorem Chg.refl(S:Fp)(w:World):Chg S w w:=⟨rfl,rfl,rfl,Zn1 _,λ_ _ _=>rfl,λ_ _ _ h _=>h,λ_ cs _ f h=>⟨cs,f,h,rfl⟩⟩
theorem Chg.later{S T:Fp}{a b c:World}(h:Chg S a b)(hT:∀k i,T k i->S k i\/a.heap.size<=k)(k:Chg T b c):Chg S a c:=by
 refine⟨k.os.trans h.os,k.tape.trans h.tape,k.output.trans h.output,Nat.le_trans h.size k.size,λq hq hn =>?_,λq i v hv hn =>?_,λq cs t f hq=>by obtain⟨c1,f1,h1,h2⟩:=h.shape q cs t f hq;obtain⟨c2,f2,h3,h4⟩:=k.shape q c1 t f1 h1;exact⟨c2,f2,h3,h4.trans h2⟩⟩
 ·rw[k.block q (Zx1 hq h.size) (λi hi =>?_)]
  ·exact h.block q hq hn
  ·grind
 ·refine k.cell q i v (h.cell q i v hv hn) λhi =>?_;rcases hT q i hi with hs|hs
  ·exact hn hs
  ·have:=Aa6 hv;omega
theorem Chg.trans{S:Fp}{a b c:World}(h:Chg S a b)(k:Chg S b c):Chg S a c:=h.later (λ_ _ h =>.inl h) k
theorem Chg.mono{S T:Fp}{a b:World}(h:Chg S a b)(hs:∀k i,S k i->T k i):Chg T a b :=⟨h.os,h.tape,h.output,h.size,λk hk hn=>h.block k hk (λi hm=>hn i (hs k i hm)),λb i v hv hn=>h.cell b i v hv (λhm=>hn (hs b i hm)),h.shape⟩
def B9:Fp:=λ_ _=>False
theorem Chg.of_blocks{S:Fp}{w w':World}(hos:w'.os=w.os)(ht:w'.tape=w.tape)(ho:w'.output=w.output)(hs:w.heap.size<=w'.heap.size)(hb:∀k,k<w.heap.size->w'.heap[k]? = w.heap[k]?):Chg S w w' :=⟨hos,ht,ho,hs,λk hk _=>hb k hk,λb i v hv _=>by rw[World.cell?_of_block (a:=⟨b,i,none⟩) (hb b (Aa6 hv))];exact hv,λb cs t f h=>⟨cs,f,by rw[hb b (Zh2.1 h).1];exact h,rfl⟩⟩
theorem Amn(w:World)(a:Addr)(v:Value):∀(b:Nat) (cs:Array Value) (t:TypeId) (f:Nat×Nat),w.heap[b]? = some (.cells cs t f)->∃cs' f',(w.setCell a v).heap[b]? = some (.cells cs' t f')/\cs'.size=cs.size:=λb cs t f h=>by
 by_cases hb:b=a.block
 ·subst hb;refine⟨if a.spot.isSome then cs else cs.setIfInBounds a.off v,f,?_,by split<;>simp⟩;simp[World.setCell,Array.getElem?_modify,h]
 ·exact⟨cs,f,by rw[Below.heap_setCell _ _ _ _ hb];exact h,rfl⟩
theorem Chg.drew(S:Fp)(w:World):Chg S w w.drew :=.of_blocks rfl rfl rfl (Zn1 _) λ_ _=>rfl
theorem Chg.drawn(S:Fp)(w:World)(n:Nat):Chg S w { w with drawn:=n } :=.of_blocks rfl rfl rfl (Zn1 _) λ_ _=>rfl
theorem Chg.alloc(S:Fp)(w:World)(o:Obj):Chg S w (w.alloc o) :=.of_blocks rfl rfl rfl (by simp) λk hk=>Below.heap_alloc _ _ _ hk
theorem Chg.below{w w':World}(h:Chg B9 w w'):Below w.heap.size w w' :=⟨h.os,h.tape,h.output,h.size,λk hk=>h.block k hk (λ_ h=>h)⟩
theorem Chg.of_below{S:Fp}{w w':World}(h:Below w.heap.size w w'):Chg S w w' :=.of_blocks h.os h.tape h.output h.size h.block
theorem Bu(c:Ck)(x:El c):(enc c x).length=csz c:=by cases c<;>rfl
theorem Afx(c:Ck) : 0<csz c:=by cases c<;>simp[csz]
def Bxb(t:Tk)(a:Option Addr)(cap:Nat):Prop:=match t with|.nil=>a=none/\cap=0|.ne=>a≠none|.zn=>a≠none/\cap=0|_=>True
inductive FV (w:World):D->Value->Prop
 |int (k:IntKind) (n:Int):E8 k n=true->FV w (.int k n) (.int k n)
 |bool (b:Bool):FV w (.bool b) (.bool b)
 |str (l:Str):l.length<=maxLen->FV w (.str l) (.string ⟨l.toArray⟩)
 |nil (c:Ck) (t:Tk) (a:Option Addr) (cap:Nat):Bxb t a cap->FV w (.sl c [] t) (.slice a 0 cap)
 |sl (c:Ck) (xs:List (El c)) (t:Tk) (b o cap:Nat) (u:Nat->Value) (hle:xs.length<=cap) (hm:cap<=maxLen)
   (hc:∀i x j d,xs[i]? = some x->(enc c x)[j]? = some d->w.cell? ⟨b,o+(i*csz c+j),none⟩=some (u (i*csz c+j)))
   (h:∀i x j d,xs[i]? = some x->(enc c x)[j]? = some d->FV w d (u (i*csz c+j))):FV w (.sl c xs t) (.slice (some ⟨b,o,none⟩) xs.length cap)
def RF(S:Fp)(w:World)(d:D)(v:Value):Prop:=∀w',Chg S w w'->FV w' d v
theorem RF.here{S:Fp}{w:World}{d:D}{v:Value}(h:RF S w d v):FV w d v:=h w (Chg.refl S w)
theorem RF.later{S T:Fp}{w w':World}{d:D}{v:Value}(h:RF S w d v)(hc:Chg S w w')(hT:∀k i,T k i->S k i\/w.heap.size<=k):RF T w' d v:=λw'' hc'=>h w'' (hc.later hT hc')
theorem FV.tok{w:World}{c:Ck}{xs:List (El c)}{t:Tk}{v:Value}(h:FV w (.sl c xs t) v):FV w (.sl c xs .no) v:=by cases h with|nil c t a cap=>exact .nil c .no a cap trivial|sl c xs t b o cap u hle hm hc h=>exact .sl c xs .no b o cap u hle hm hc h
def At(w:World)(c:Ck)(x:El c)(b o:Nat):Prop:=∀j d,(enc c x)[j]? = some d->∃u,w.cell? ⟨b,o+j,none⟩=some u/\FV w d u
theorem FV.slice{w:World}{c:Ck}{xs:List (El c)}{t:Tk}{v:Value}(h:FV w (.sl c xs t) v) :
  ∃a cap,v = .slice a xs.length cap/\(xs=[]\/∃b o,a=some ⟨b,o,none⟩/\(xs.length<=cap/\cap<=maxLen)/\∀i x,xs[i]? = some x->At w c x b (o+i*csz c)):=by
 cases h with|nil c t a cap=>simp_all|sl c xs t b o cap u hle hm hc h =>refine⟨_,cap,rfl,.inr ⟨b,o,rfl,⟨hle,hm⟩,λi x hx j d hd=>⟨u (i*csz c+j),?_,h i x j d hx hd⟩⟩⟩;rw[Nat.add_assoc];exact hc i x j d hx hd
theorem FV.mkSlice{w:World}{c:Ck}{xs:List (El c)}{t:Tk}{b o cap:Nat}(hle:xs.length<=cap/\cap<=maxLen)(h:∀i x,xs[i]? = some x->At w c x b (o+i*csz c)):FV w (.sl c xs t) (.slice (some ⟨b,o,none⟩) xs.length cap):=by
 have key:∀i x j d,xs[i]? = some x->(enc c x)[j]? = some d->∃u,w.cell? ⟨b,o+(i*csz c+j),none⟩=some u/\FV w d u:=λi x j d hx hd=>by have:=h i x hx j d hd;rwa[Nat.add_assoc] at this
 refine .sl c xs t b o cap (λk=>(w.cell? ⟨b,o+k,none⟩).getD default) hle.1 hle.2 (λi x j d hx hd =>?_) (λi x j d hx hd =>?_)
 ·grind
 ·grind
theorem FV.mkSlice'{w:World}{c:Ck}{xs:List (El c)}{v:Value}{a:Option Addr}{cap:Nat}(hv:v = .slice a xs.length cap)(h:xs=[]\/∃b o,a=some ⟨b,o,none⟩/\(xs.length<=cap/\cap<=maxLen)/\∀i x,xs[i]? = some x->At w c x b (o+i*csz c)):FV w (.sl c xs .no) v:=by
 rcases h with rfl|⟨b,o,rfl,hle,h⟩
 ·subst hv;exact .nil c .no a cap trivial
 ·subst hv;exact .mkSlice hle h
theorem FV.len{w:World}{c:Ck}{xs:List (El c)}{t:Tk}{v:Value}(h:FV w (.sl c xs t) v):xs.length<=maxLen:=by
 obtain⟨_,_,_,rfl|⟨_,_,_,h,_⟩⟩:=h.slice
 ·simp
 ·omega
def A8s(l:List (Int×Str))(es:List MapEntry):Prop:=∀n,(U0 l n).length<=maxLen/\((Instr.findNow (.int .i64) (.int .i64 n) es 0=some none/\U0 l n=[])\/∃i,Instr.findNow (.int .i64) (.int .i64 n) es 0=some (some (i,.string ⟨(U0 l n).toArray⟩)))
structure Mp where
 bl:Nat->Nat
 tk:Nat->Option (Nat×Nat)
structure Vx where
 m:Mp
 al:Nat->Prop
 S:Fp
 w:World
 nb:Nat
 nt:Nat
 el:Ck->TypeId
def Bw9(x:Vx)(t:Nat)(c:Ck)(xs:List (El c))(v:Value):Prop :=(v = .slice none 0 0/\x.m.tk t=none/\xs=[])\/∃g cap cur,v = .slice (some ⟨g,0,none⟩) xs.length cap/\x.m.tk t=some (g,xs.length*csz c)/\x.w.heap[g]? = some (.cells cur (x.el c) (0,0))/\cur.size=cap*csz c/\xs.length<=cap/\cap<=maxLen
def TkR(x:Vx)(c:Ck)(xs:List (El c))(v:Value):Tk->Prop
 |.no=>True
 |.nil=>v = .slice none 0 0/\xs=[]
 |.id t=>t<x.nt/\(x.al t->Bw9 x t c xs v)
 |.z=>xs=[]/\∃a,v = .slice a 0 0
 |.ne=>xs=[]->∃a cap,v = .slice (some a) 0 cap
 |.zn=>xs=[]/\∃a,v = .slice (some a) 0 0
 |.f=>∃a,v = .slice a xs.length xs.length
mutual
def Rep(x:Vx):D->Value->Prop
 |.bool b,v=>v = .bool b
 |.int k n,v=>v = .int k n/\E8 k n=true
 |.str l,v=>v = .string ⟨l.toArray⟩/\l.length<=maxLen
 |.sl c xs t,v=>RF x.S x.w (.sl c xs .no) v/\TkR x c xs v t
 |.sv c y,v=>agg? c=true/\∃vs:List Value,v = .agg vs.toArray/\vs.length=csz c/\∀(j:Nat) d,(enc c y)[j]? = some d->∃u,vs[j]? = some u/\RF x.S x.w d u
 |.ep c y off,v=>∃b o,v = .pointer (some ⟨b,o+off,none⟩)/\∀w',Chg x.S x.w w'->At w' c y b o
 |.ptr b off,v=>b<x.nb/\v = .pointer (some ⟨x.m.bl b,off,none⟩)
 |.nilp,v=>v = .pointer none
 |.gp g,v=>v = .pointer (some ⟨g,0,none⟩)
 |.gm l,v=>∃r es clk,v = .map (some r)/\(∀w',Chg x.S x.w w'->w'.heap[r]? = some (.map es clk))/\A8s l es.toList
 |.osl b c s n,v=>b<x.nb/\0<=s/\0<=n/\s+n<=(maxLen:Int)/\∃a cap,v = .slice a n.toNat cap/\(n=0\/a=some ⟨x.m.bl b,s.toNat*csz c,none⟩)/\n.toNat<=cap/\cap<=maxLen/\∃cur f,x.w.heap[x.m.bl b]? = some (.cells cur (x.el c) f)/\cur.size=(s.toNat+cap)*csz c
 |.dp b c i,v=>b<x.nb/\v = .pointer (some ⟨x.m.bl b,i.toNat*csz c,none⟩)/\0<=i
 |.dn c xs,v=>xs.length<=maxLen/\∃vs:List Value,v = .agg vs.toArray/\xs.length*csz c<=vs.length/\∀i y j d,xs[i]? = some y->(enc c y)[j]? = some d->∃u,vs[i*csz c+j]? = some u/\RF x.S x.w d u
 |.rp b c n i,v=>b<x.nb/\v = .pointer (some ⟨x.m.bl b,i.toNat*csz c,none⟩)/\0<=i/\i<(n:Int)
 |.rw c n xs,v=>xs.length=n/\∃vs:List Value,v = .agg vs.toArray/\vs.length=xs.length*csz c/\∀i y j d,xs[i]? = some y->(enc c y)[j]? = some d->∃u,vs[i*csz c+j]? = some u/\RF x.S x.w d u
 |.fn f caps,v=>∃vs:List Value,v = .func (.func f) #[] vs.toArray/\Reps x caps vs
 |.bm f fs,v=>∃vs:List Value,v = .func (.func f) vs.toArray #[]/\Reps x fs vs
 |.nilfn,v=>v = .nilFunc
 |.yl b,v=>b<x.nb/\v = .func (.yield (x.m.bl b)) #[] #[]
 |.agg ds,v=>ds.all lf=true/\∃vs:List Value,v = .agg vs.toArray/\Reps x ds vs
 |.tup ds,v=>∃vs:List Value,v = .tuple vs.toArray/\Reps x ds vs
 |.undef,v=>v = .tuple #[]
 |.junk,_=>True
def Reps(x:Vx):List D->List Value->Prop
 |[],vs=>vs=[]
 |d::ds,vs=>∃u us,vs=u::us/\Rep x d u/\Reps x ds us
end
structure Nx (x x':Vx):Prop where
 chg:Chg x.S x.w x'.w
 fp:∀b i,x'.S b i->x.S b i\/x.w.heap.size<=b
 el:x'.el=x.el
 bl:∀b,b<x.nb->x'.m.bl b=x.m.bl b
 nb:x.nb<=x'.nb
 nt:x.nt<=x'.nt
 tk:∀t,t<x.nt->x'.al t->x.al t/\x'.m.tk t=x.m.tk t/\∀g o,x.m.tk t=some (g,o)->x'.w.heap[g]? = x.w.heap[g]?
theorem Nx.rf{x x':Vx}(h:Nx x x'){d:D}{v:Value}(hr:RF x.S x.w d v):RF x'.S x'.w d v:=hr.later h.chg h.fp
theorem TkR.later{x x':Vx}(h:Nx x x'){c:Ck}{xs:List (El c)}{v:Value}{t:Tk}(hr:TkR x c xs v t):TkR x' c xs v t:=by
 cases t with
 |no=>trivial
 |nil=>exact hr
 |z=>exact hr
 |ne=>exact hr
 |zn=>exact hr
 |f=>exact hr
 |id t =>
  obtain⟨hlt,hr⟩:=hr;refine⟨Zx1 hlt h.nt,λha =>?_⟩;obtain⟨h1,h2,h3⟩:=h.tk t hlt ha;rcases hr h1 with ⟨a,b,c⟩|⟨g,cap,cur,a,b,c,d⟩
  ·exact .inl ⟨a,h2.trans b,c⟩
  ·refine .inr ⟨g,cap,cur,a,h2.trans b,?_,d⟩;rw[h3 g _ b,h.el];exact c
mutual
theorem Rep.later{x x':Vx}(h:Nx x x'):∀(d:D) (v:Value),Rep x d v->Rep x' d v
 |.bool _,_,hr=>by simpa[Rep] using hr
 |.int _ _,_,hr=>by simpa[Rep] using hr
 |.str _,_,hr=>by simpa[Rep] using hr
 |.sl c xs t,v,hr=>by simp only[Rep] at hr ⊢;exact⟨h.rf hr.1,hr.2.later h⟩
 |.sv c y,v,hr=>by simp only[Rep] at hr ⊢;obtain⟨ha,vs,hv,hl,hr⟩:=hr;exact⟨ha,vs,hv,hl,λj d hd=>by obtain⟨u,hu,hf⟩:=hr j d hd;exact⟨u,hu,h.rf hf⟩⟩
 |.ep c y off,v,hr=>by simp only[Rep] at hr ⊢;obtain⟨b,o,hv,hr⟩:=hr;exact⟨b,o,hv,λw' hw=>hr w' (h.chg.later h.fp hw)⟩
 |.ptr b off,v,hr=>by simp only[Rep] at hr ⊢;exact⟨Zx1 hr.1 h.nb,by rw[h.bl b hr.1];exact hr.2⟩
 |.nilp,_,hr=>by simpa[Rep] using hr
 |.gp _,_,hr=>by simpa[Rep] using hr
 |.gm l,v,hr=>by simp only[Rep] at hr ⊢;obtain⟨r,es,clk,hv,h1,h2⟩:=hr;exact⟨r,es,clk,hv,λw' hw=>h1 w' (h.chg.later h.fp hw),h2⟩
 |.osl b c s n,v,hr=>by simp only[Rep] at hr ⊢;obtain⟨h1,h2,h3,h4,a,cap,h5,h6,h7,h8,cur,f,h9,h10⟩:=hr;obtain⟨cur',f',g1,g2⟩:=h.chg.shape _ _ _ _ h9;exact⟨Zx1 h1 h.nb,h2,h3,h4,a,cap,h5,by rw[h.bl b h1];exact h6,h7,h8,cur',f',by rw[h.bl b h1,h.el];exact g1,g2.trans h10⟩
 |.dp b c i,v,hr=>by simp only[Rep] at hr ⊢;exact⟨Zx1 hr.1 h.nb,by rw[h.bl b hr.1];exact hr.2⟩
 |.dn c xs,v,hr=>by simp only[Rep] at hr ⊢;obtain⟨hn,vs,hv,hl,hr⟩:=hr;exact⟨hn,vs,hv,hl,λi y j d hy hd=>by obtain⟨u,hu,hf⟩:=hr i y j d hy hd;exact⟨u,hu,h.rf hf⟩⟩
 |.rp b c n i,v,hr=>by simp only[Rep] at hr ⊢;exact⟨Zx1 hr.1 h.nb,by rw[h.bl b hr.1];exact hr.2⟩
 |.rw c n xs,v,hr=>by simp only[Rep] at hr ⊢;obtain⟨hn,vs,hv,hl,hr⟩:=hr;exact⟨hn,vs,hv,hl,λi y j d hy hd=>by obtain⟨u,hu,hf⟩:=hr i y j d hy hd;exact⟨u,hu,h.rf hf⟩⟩
 |.fn f caps,v,hr=>by simp only[Rep] at hr ⊢;obtain⟨vs,hv,hr⟩:=hr;exact⟨vs,hv,Reps.later h caps vs hr⟩
 |.bm f fs,v,hr=>by simp only[Rep] at hr ⊢;obtain⟨vs,hv,hr⟩:=hr;exact⟨vs,hv,Reps.later h fs vs hr⟩
 |.nilfn,_,hr=>by simpa[Rep] using hr
 |.yl b,v,hr=>by simp only[Rep] at hr ⊢;exact⟨Zx1 hr.1 h.nb,by rw[h.bl b hr.1];exact hr.2⟩
 |.agg ds,v,hr=>by simp only[Rep] at hr ⊢;obtain⟨hl,vs,hv,hr⟩:=hr;exact⟨hl,vs,hv,Reps.later h ds vs hr⟩
 |.tup ds,v,hr=>by simp only[Rep] at hr ⊢;obtain⟨vs,hv,hr⟩:=hr;exact⟨vs,hv,Reps.later h ds vs hr⟩
 |.undef,_,hr=>by simpa[Rep] using hr
 |.junk,_,_=>by simp[Rep]
theorem Reps.later{x x':Vx}(h:Nx x x'):∀(ds:List D) (vs:List Value),Reps x ds vs->Reps x' ds vs
 |[],_,hr=>by simpa[Reps] using hr
 |d::ds,vs,hr=>by simp only[Reps] at hr ⊢;obtain⟨u,us,hv,h1,h2⟩:=hr;exact⟨u,us,hv,Rep.later h d u h1,Reps.later h ds us h2⟩
end
theorem Reps.len{x:Vx}:∀{ds:List D}{vs:List Value},Reps x ds vs->vs.length=ds.length
 |[],_,hr=>by simp[Reps] at hr;simp[hr]
 |d::ds,vs,hr=>by simp[Reps] at hr;obtain⟨u,us,rfl,_,h2⟩:=hr;simp[Reps.len h2]
theorem Reps.get{x:Vx}:∀{ds:List D}{vs:List Value},Reps x ds vs->∀{i:Nat}{d:D},ds[i]? = some d->∃v,vs[i]? = some v/\Rep x d v
 |[],_,_,i,d,hd=>by simp at hd
 |d0::ds,vs,hr,i,d,hd=>by simp[Reps] at hr;obtain⟨u,us,rfl,h1,h2⟩:=hr;cases i with|zero=>simp at hd;subst hd;exact⟨u,by simp,h1⟩|succ i=>simp at hd;obtain⟨v,hv,hr⟩:=Reps.get h2 hd;exact⟨v,by simpa using hv,hr⟩
theorem Reps.mk{x:Vx}:∀{ds:List D}{vs:List Value},vs.length=ds.length->(∀(i:Nat) d v,ds[i]? = some d->vs[i]? = some v->Rep x d v)->Reps x ds vs
 |[],vs,hl,_=>by simp[Reps];exact List.eq_nil_of_length_eq_zero hl
 |d::ds,[],hl,_=>by simp at hl
 |d::ds,u::us,hl,h=>by simp only[Reps];exact⟨u,us,rfl,h 0 d u (by simp) (by simp),Reps.mk (by simpa using hl) λi d v hd hv=>h (i+1) d v (by simpa using hd) (by simpa using hv)⟩
theorem Reps.append{x:Vx}{ds es:List D}{vs us:List Value}(h:Reps x ds vs)(k:Reps x es us):Reps x (ds++es) (vs++us):=by induction ds generalizing vs with|nil=>simp[Reps] at h;subst h;simpa using k|cons d ds ih =>simp[Reps] at h;obtain⟨u,r,rfl,h1,h2⟩:=h;simp only[Zb2];exact⟨u,r++us,rfl,h1,ih h2⟩
end Go.Ax
namespace Go.Sx
open Go.RowKit
abbrev Env:=List (Nat×Value)
def Env.get:Env->Nat->Option Value
 |[],_=>none
 |(k,v)::e,n=>match Nat.beq k n with|true=>some v|false=>Env.get e n
def Env.ev(e:Env):Operand->Option Value
 |.tmp t=>Env.get e t
 |.const v=>some v
 |.global g=>some (.pointer (some ⟨g,0,none⟩))
 |.func f=>some (.func (.func f) #[] #[])
def Env.evs(e:Env):List Operand->Option (List Value)
 |[]=>some []
 |x::xs=>match Env.ev e x with
  |none=>none
  |some v=>match Env.evs e xs with|none=>none|some vs=>some (v::vs)
structure EnvOk (n:Nat) (e:Env) (a:Act):Prop where
 defers:a.defers=[]
 size:a.tmps.size=n
 get:∀k v,Env.get e k=some v->a.tmps[k]? = some v
def Env.Sub(e:Env):Env->Prop
 |[]=>True
 |(k,v)::r=>Env.get e k=some v/\Env.Sub e r
theorem Env.get_of_sub{e:Env}:∀{e2:Env},Env.Sub e e2->∀k v,Env.get e2 k=some v->Env.get e k=some v
 |[],_,k,v,h=>by simp[Env.get] at h
 |(k0,v0)::r,hs,k,v,h=>by simp only[Env.get] at h;cases hb:Nat.beq k0 k with|true =>rw[hb] at h;have hk:k0=k:=Zl1 hb;subst hk;simp only[Za1] at h;subst h;exact hs.1|false =>rw[hb] at h;exact Env.get_of_sub hs.2 k v h
theorem EnvOk.sub{n:Nat}{e e2:Env}{a:Act}(h:EnvOk n e a)(hs:Env.Sub e e2):EnvOk n e2 a :=⟨h.defers,h.size,λk v hk=>h.get k v (Env.get_of_sub hs k v hk)⟩
theorem EnvOk.ev{n:Nat}{e:Env}{a:Act}(h:EnvOk n e a){x:Operand}{v:Value}(hx:Env.ev e x=some v):a.eval x=v:=by cases x with|tmp t =>have:=h.get t v hx;simp[Act.eval,this]|const u=>simpa[Env.ev,Act.eval] using hx|global g=>simpa[Env.ev,Act.eval] using hx|func f=>simpa[Env.ev,Act.eval] using hx
theorem EnvOk.evs{n:Nat}{e:Env}{a:Act}(h:EnvOk n e a):∀{xs:List Operand}{vs:List Value},Env.evs e xs=some vs->xs.map a.eval=vs
 |[],vs,hx=>by simp[Env.evs] at hx;simp[hx]
 |x::xs,vs,hx=>by
  simp[Env.evs] at hx;cases hv:Env.ev e x with
  |none=>simp[hv] at hx
  |some v =>rw[hv] at hx;cases hr:Env.evs e xs with|none=>simp[hr] at hx|some r =>simp[hr] at hx;subst hx;simp[h.ev hv,EnvOk.evs h hr]
theorem EnvOk.put{n:Nat}{e:Env}{a:Act}(h:EnvOk n e a){d:Nat}(hd:Nat.blt d n=true)(v:Value):EnvOk n ((d,v)::e) (a.put (some d) v):=by
 have hdn:d<n:=by simpa using hd
 refine⟨by simpa[Act.put] using h.defers,by simpa[Act.put] using h.size,λk u hk =>?_⟩;simp[Env.get] at hk;cases hb:Nat.beq d k with
 |true =>
  have hk':d=k:=Zl1 hb;subst hk';simp at hk;subst hk;have:d<a.tmps.size:=by rw[h.size];exact hdn
  simp[Act.put,this]
 |false =>
  rw[hb] at hk;have hne:d≠k:=Nat.ne_of_beq_eq_false hb;have:=h.get k u hk;simp[Act.put]
  grind
theorem EnvOk.more{n:Nat}{e:Env}{a:Act}(h:EnvOk n e a){d:Nat}{v:Value}(hd:a.tmps[d]? = some v):EnvOk n ((d,v)::e) a:=by refine⟨h.defers,h.size,λk u hk =>?_⟩;simp only[Env.get] at hk;cases hb:Nat.beq d k with|true =>rw[hb] at hk;have hk':d=k:=Zl1 hb;subst hk';simp only[Za1] at hk;subst hk;exact hd|false =>rw[hb] at hk;exact h.get k u hk
structure Chg (S:List Nat) (w w':World):Prop where
 os:w'.os=w.os
 tape:w'.tape=w.tape
 output:w'.output=w.output
 size:w.heap.size<=w'.heap.size
 block:∀k,k<w.heap.size->k∉S->w'.heap[k]? = w.heap[k]?
theorem Chg.refl(S:List Nat)(w:World):Chg S w w:=⟨rfl,rfl,rfl,Zn1 _,λ_ _ _=>rfl⟩
theorem Chg.trans{S:List Nat}{a b c:World}(h:Chg S a b)(k:Chg S b c):Chg S a c :=⟨k.os.trans h.os,k.tape.trans h.tape,k.output.trans h.output,Nat.le_trans h.size k.size,λi hi hn=>(k.block i (Zx1 hi h.size) hn).trans (h.block i hi hn)⟩
theorem Chg.mono{S T:List Nat}{a b:World}(h:Chg S a b)(hs:∀x,x∈S->x∈T):Chg T a b :=⟨h.os,h.tape,h.output,h.size,λk hk hn=>h.block k hk (λhm=>hn (hs k hm))⟩
theorem Chg.drew(S:List Nat)(w:World):Chg S w w.drew:=⟨rfl,rfl,rfl,Zn1 _,λ_ _ _=>rfl⟩
theorem Chg.drawn(S:List Nat)(w:World)(n:Nat):Chg S w { w with drawn:=n }:=⟨rfl,rfl,rfl,Zn1 _,λ_ _ _=>rfl⟩
theorem Chg.alloc(S:List Nat)(w:World)(o:Obj):Chg S w (w.alloc o) :=⟨rfl,rfl,rfl,by simp,λk hk _=>Below.heap_alloc _ _ _ hk⟩
theorem Chg.setCell{S:List Nat}(w:World){p:Addr}(hp:p.block∈S)(u:Value):Chg S w (w.setCell p u) :=⟨rfl,rfl,rfl,by simp,λk _ hn=>Below.heap_setCell _ _ _ _ (λe=>hn (e▸hp))⟩
theorem Chg.grown{S:List Nat}{w w':World}{row:Option Nat}(h:w.grownBy w' row)(hr:∀k,row=some k->k∈S):Chg S w w' :=⟨h.os,h.tape,h.output,h.size,λk hk hn=>h.block k hk (λe=>hn (hr k e.symm))⟩
theorem Chg.below{w w':World}(h:Chg [] w w'):Below w.heap.size w w' :=⟨h.os,h.tape,h.output,h.size,λk hk=>h.block k hk (by simp)⟩
theorem Chg.of_below{w w':World}(h:Below w.heap.size w w')(S:List Nat):Chg S w w' :=⟨h.os,h.tape,h.output,h.size,λk hk _=>h.block k hk⟩
theorem Chg.cell{S:List Nat}{w w':World}(h:Chg S w w'){p:Addr}{v:Value}(hc:w.cell? p=some v)(hn:p.block∉S):w'.cell? p=some v :=(World.cell?_of_block (h.block p.block (World.block_lt_of_cell? w p hc) hn)).trans hc
def Rob(S:List Nat)(F:World->Prop)(w:World):Prop:=∀w',Chg S w w'->F w'
theorem Rob.here{S:List Nat}{F:World->Prop}{w:World}(h:Rob S F w):F w:=h w (Chg.refl S w)
theorem Rob.mono{S T:List Nat}{F:World->Prop}{w:World}(h:Rob T F w)(hs:∀x,x∈S->x∈T):Rob S F w:=λw' hc=>h w' (hc.mono hs)
theorem Rob.imp{S:List Nat}{F G:World->Prop}{w:World}(h:Rob S F w)(hi:∀w,F w->G w):Rob S G w:=λw' hc=>hi _ (h w' hc)
theorem Rob.and{S:List Nat}{F G:World->Prop}{w:World}(h:Rob S F w)(k:Rob S G w):Rob S (λw=>F w/\G w) w:=λw' hc=>⟨h w' hc,k w' hc⟩
theorem Rob.step{S:List Nat}{F:World->Prop}{w w':World}(h:Rob S F w)(hc:Chg S w w'):Rob S F w':=λ_ hc'=>h _ (hc.trans hc')
theorem Rob.fresh{S T:List Nat}{F:World->Prop}{w w':World}(h:Rob S F w)(hc:Chg S w w')(hT:∀b,b∈T->b∉S->w.heap.size<=b):Rob T F w':=by intro w'' hc';refine h w'' ⟨hc'.os.trans hc.os,hc'.tape.trans hc.tape,hc'.output.trans hc.output,Nat.le_trans hc.size hc'.size,λk hk hn =>?_⟩;rw[hc'.block k (Zx1 hk hc.size) (λhm=>by have:=hT k hm hn;omega)];exact hc.block k hk hn
inductive Ent where
 |blk (b:Nat) (cs:List Value) (t:TypeId)
 |row (v:Value) (t:TypeId) (sz n:Nat) (xs:List Value)
abbrev Loc:=List Ent
def Ent.fp:Ent->List Nat
 |.blk b _ _=>[b]
 |.row (.slice (some a) _ _) _ _ _ _=>[a.block]
 |.row _ _ _ _ _=>[]
def Ent.ok(w:World):Ent->Prop
 |.blk b cs t=>w.heap[b]? = some (.cells cs.toArray t (0,0))
 |.row v t sz n xs=>w.ownsRow 0 t sz v n xs
def fps(L:Loc):List Nat:=L.flatMap Ent.fp
theorem Ent.fp_lt{w:World}{x:Ent}(h:x.ok w):∀b,b∈x.fp->b<w.heap.size:=by
 cases x with
 |blk b cs t =>intro b' hb;simp[Ent.fp] at hb;subst hb;exact(Zh2.1 h).1
 |row v t sz n xs =>
  intro b' hb;have hh:w.ownsRow 0 t sz v n xs:=h;cases v<;>simp[Ent.fp] at hb
  rename_i a len cap;cases a with|none=>simp at hb|some a =>simp at hb;subst hb;exact(hh.lt a.block rfl).2
theorem Ent.ok_chg{w w':World}{S:List Nat}{x:Ent}(h:x.ok w)(hc:Chg S w w')(hd:∀b,b∈x.fp->b∉S):x.ok w':=by
 have hlt:=Ent.fp_lt h;cases x with
 |blk b cs t =>show w'.heap[b]? = _;rw[hc.block b (hlt b (by simp[Ent.fp])) (hd b (by simp[Ent.fp]))];exact h
 |row v t sz n xs =>
  have hh:w.ownsRow 0 t sz v n xs:=h;refine⟨hh.1,?_⟩;rcases hh.2 with h2|⟨g,cap,cur,rfl,hb,hg,r⟩
  ·exact .inl h2
  ·refine .inr ⟨g,cap,cur,rfl,hb,?_,r⟩;rw[hc.block g (hlt g (by simp[Ent.fp])) (hd g (by simp[Ent.fp]))];exact hg
structure Cx where
 P:Program
 n:Nat
 w0:World
 I:List Nat
 M:List Nat
structure StOk (cx:Cx) (L:Loc) (F:World->Prop) (w:World):Prop where
 chg:Chg cx.I cx.w0 w
 ok:∀x,x∈L->x.ok w
 nodup:(fps L).Nodup
 own:∀b,b∈fps L->b∈cx.I\/cx.w0.heap.size<=b
 away:∀b,b∈cx.M->b<cx.w0.heap.size/\b∉cx.I
 rob:Rob (cx.M++fps L) F w
theorem StOk.lt{cx:Cx}{L:Loc}{F:World->Prop}{w:World}(h:StOk cx L F w):∀b,b∈fps L->b<w.heap.size:=by intro b hb;simp[fps] at hb;obtain⟨x,hx,hb⟩:=hb;exact Ent.fp_lt (h.ok x hx) b hb
theorem StOk.here{cx:Cx}{L:Loc}{F:World->Prop}{w:World}(h:StOk cx L F w):F w:=h.rob.here
theorem StOk.disj{cx:Cx}{L:Loc}{F:World->Prop}{w:World}(h:StOk cx L F w):∀b,b∈cx.M->b∉fps L:=by
 intro b hb hm;rcases h.own b hm with hi|hi
 ·exact(h.away b hb).2 hi
 ·have:=(h.away b hb).1;omega
theorem StOk.quiet{cx:Cx}{L:Loc}{F:World->Prop}{w w':World}(h:StOk cx L F w)(hc:Chg [] w w'):StOk cx L F w' :=⟨h.chg.trans (hc.mono (by simp)),λx hx=>Ent.ok_chg (h.ok x hx) hc (by simp),h.nodup,h.own,h.away,h.rob.step (hc.mono (by simp))⟩
theorem StOk.fact{cx:Cx}{L:Loc}{F G:World->Prop}{w:World}(h:StOk cx L F w)(hi:∀w,F w->G w):StOk cx L G w :=⟨h.chg,h.ok,h.nodup,h.own,h.away,h.rob.imp hi⟩
def LW(P:Program)(c:Code)(Q:Exit->Act->World->Prop)(a:Act)(w:World):Prop :=∀(b:Frame) (k:List Item) (cs:List Frame),∃e a' w',Q e a' w'/\Arrives P (lone (b.at a (.code c :: .inLoop c::k)) cs w) b k cs e a' w'
theorem wp_of_LW{P:Program}{c:Code}{Q:Exit->Act->World->Prop}{a:Act}{w:World}(h:LW P c Q a w):(Code.loop c).wp P Q a w:=by intro b k cs;obtain⟨e,a',w',hq,harr⟩:=h b k cs;exact⟨e,a',w',hq,.of_steps (.one step_loop) harr⟩
theorem LW_round{P:Program}{c:Code}{Q:Exit->Act->World->Prop}{a:Act}{w:World}(h:c.wp P (Exit.then (LW P c Q) Q) a w):LW P c Q a w:=by intro b k cs;obtain⟨e,a₁,w₁,hq,harr⟩:=h b (.inLoop c::k) cs;cases e with|normal =>obtain⟨e₂,a₂,w₂,hq₂,harr₂⟩:=hq b k cs;exact⟨e₂,a₂,w₂,hq₂,.of_steps (Steps.trans harr (.one step_inLoop)) harr₂⟩|exit id=>exact⟨_,a₁,w₁,hq,.pass (x :=.inLoop c) rfl (λ_ _ =>.inl (by simp)) harr⟩|goto l=>exact⟨_,a₁,w₁,hq,.pass (x :=.inLoop c) rfl (λ_ _ =>.inl (by simp)) harr⟩|ret=>exact⟨_,a₁,w₁,hq,.pass (x :=.inLoop c) rfl (λ_ _ =>.inl (by simp)) harr⟩|panic ch=>exact⟨_,a₁,w₁,hq,.pass (x :=.inLoop c) rfl (λ_ _ =>.inl (by simp)) harr⟩|outgrown=>exact⟨_,a₁,w₁,hq,.pass (x :=.inLoop c) rfl (λ_ _ =>.inl (by simp)) harr⟩
inductive KI where
 |seq (c:Code)
 |blk (id:Nat)
 |loop (c:Code)
 |scope
 |drawn (ops:Array Oper) (fuel:Nat) (listed:Array Bool)
def D2(P:Program)(Q:Exit->Act->World->Prop):List KI->Exit->Act->World->Prop
 |[]=>Q
 |.seq c::k=>Exit.then (c.wp P (D2 P Q k)) (D2 P Q k)
 |.blk id::k=>Exit.inBlock id (D2 P Q k)
 |.loop c::k=>Exit.then (LW P c (D2 P Q k)) (D2 P Q k)
 |.scope::k=>Exit.noGoto (D2 P Q k)
 |.drawn ops fuel listed::k=>Exit.then (wpAny P .any ops (D2 P Q k) fuel listed) (D2 P Q k)
structure G (cx:Cx) (c:Code) (k:List KI) (e:Env) (L:Loc) (F:World->Prop) (Q:Exit->Act->World->Prop):Prop where
 run:∀a w,EnvOk cx.n e a->StOk cx L F w->c.wp cx.P (D2 cx.P Q k) a w
structure N (cx:Cx) (k:List KI) (e:Env) (L:Loc) (F:World->Prop) (Q:Exit->Act->World->Prop):Prop where
 run:∀a w,EnvOk cx.n e a->StOk cx L F w->D2 cx.P Q k .normal a w
structure X (cx:Cx) (id:Nat) (k:List KI) (e:Env) (L:Loc) (F:World->Prop) (Q:Exit->Act->World->Prop):Prop where
 run:∀a w,EnvOk cx.n e a->StOk cx L F w->D2 cx.P Q k (.exit id) a w
structure O (cx:Cx) (ops:Array Oper) (l:List Oper) (k:List KI) (e:Env) (L:Loc) (F:World->Prop) (Q:Exit->Act->World->Prop):Prop where
 run:∀a w,EnvOk cx.n e a->StOk cx L F w->wpList cx.P ops (D2 cx.P Q k) l a w
section control
variable {cx:Cx}{k:List KI}{e:Env}{L:Loc}{F:World->Prop}{Q:Exit->Act->World->Prop}
theorem D3{x y:Code}(h:G cx x (.seq y::k) e L F Q):G cx (.seq x y) k e L F Q :=.mk λa w he hs=>wp_seq (h.run a w he hs)
theorem Bnp{id:Nat}{c:Code}(h:G cx c (.blk id::k) e L F Q):G cx (.block id c) k e L F Q :=.mk λa w he hs=>wp_block (h.run a w he hs)
theorem Bow{c:Code}(h:G cx c (.scope::k) e L F Q):G cx (.scope c) k e L F Q :=.mk λa w he hs=>wp_scope_straight (h.run a w he hs)
theorem Eh(h:N cx k e L F Q):G cx .skip k e L F Q :=.mk λa w he hs=>wp_skip (h.run a w he hs)
theorem Boa{l:Nat}(h:N cx k e L F Q):G cx (.label l) k e L F Q :=.mk λa w he hs=>wp_label (h.run a w he hs)
theorem Bst{id:Nat}(h:X cx id k e L F Q):G cx (.exit id) k e L F Q :=.mk λa w he hs=>wp_exit (h.run a w he hs)
theorem Bb{id:Nat}{l:List Oper}(h:O cx l.toArray l k e L F Q):G cx (.region id l.toArray false) k e L F Q :=.mk λa w he hs=>wp_region_lit (h.run a w he hs)
theorem Ek{c:Operand}{x y:Code}{b:Bool}(hc:Env.ev e c=some (.bool b))(h1:b=true->G cx x k e L F Q)(h2:b=false->G cx y k e L F Q):G cx (.cond c x y) k e L F Q :=.mk λa w he hs =>wp_cond_split (he.ev hc) (λhb=>(h1 hb).run a w he hs) (λhb=>(h2 hb).run a w he hs)
theorem Axf{c:Operand}{x y:Code}{b:Bool}(hc:Env.ev e c=some (.bool b))(hb:b=true)(h1:G cx x k e L F Q):G cx (.cond c x y) k e L F Q :=Ek hc (λ_=>h1) (λh=>by rw[hb] at h;cases h)
theorem Axb{c:Operand}{x y:Code}{b:Bool}(hc:Env.ev e c=some (.bool b))(hb:b=false)(h1:G cx y k e L F Q):G cx (.cond c x y) k e L F Q :=Ek hc (λh=>by rw[hb] at h;cases h) (λ_=>h1)
theorem Iq{c:Operand}{x y:Code}{p:Prop}[inst:Decidable p](hc:Env.ev e c=some (.bool (decide p)))(h1:p->G cx x k e L F Q)(h2:¬p->G cx y k e L F Q):G cx (.cond c x y) k e L F Q :=Ek hc (λh=>h1 (of_decide_eq_true h)) (λh=>h2 (of_decide_eq_false h))
theorem Bp7{α:Type}[DecidableEq α]{c:Operand}{x y:Code}{a b : α}(hc:Env.ev e c=some (.bool (a == b)))(h1:a=b->G cx x k e L F Q)(h2:a≠b->G cx y k e L F Q):G cx (.cond c x y) k e L F Q :=Ek hc (λh=>h1 (by simpa using h)) (λh=>h2 (by simpa using h))
theorem Bnn{c:Operand}{x y:Code}{a b:Int}(hc:Env.ev e c=some (.bool (a != b)))(h1:a≠b->G cx x k e L F Q)(h2:a=b->G cx y k e L F Q):G cx (.cond c x y) k e L F Q :=Ek hc (λh=>h1 (by simpa using h)) (λh=>h2 (by simpa using h))
theorem Blc{c:Operand}{x y:Code}{p:Prop}[inst:Decidable p](hc:Env.ev e c=some (.bool (!decide p)))(h1:¬p->G cx x k e L F Q)(h2:p->G cx y k e L F Q):G cx (.cond c x y) k e L F Q :=Ek hc (λh=>h1 (by simpa using h)) (λh=>h2 (by simpa using h))
theorem Bn8{c:Operand}{x y:Code}{b:Bool}(hc:Env.ev e c=some (.bool (!b)))(h1:b=false->G cx x k e L F Q)(h2:b=true->G cx y k e L F Q):G cx (.cond c x y) k e L F Q :=Ek hc (λh=>h1 (by simpa using h)) (λh=>h2 (by simpa using h))
theorem B5{c:Code}(h:G cx c k e L F Q):N cx (.seq c::k) e L F Q :=.mk h.run
theorem Bve{id:Nat}(h:N cx k e L F Q):N cx (.blk id::k) e L F Q :=.mk h.run
theorem Bpd(h:N cx k e L F Q):N cx (.scope::k) e L F Q :=.mk λa w he hs=>by show Exit.noGoto (D2 cx.P Q k) .normal a w;exact h.run a w he hs
theorem Bvk{c:Code}{id:Nat}(h:X cx id k e L F Q):X cx id (.seq c::k) e L F Q :=.mk h.run
theorem Bu8{c:Code}{id:Nat}(h:X cx id k e L F Q):X cx id (.loop c::k) e L F Q :=.mk h.run
theorem Btw{id:Nat}(h:N cx k e L F Q):X cx id (.blk id::k) e L F Q :=.mk λa w he hs=>by show Exit.inBlock id (D2 cx.P Q k) (.exit id) a w;simp[Exit.inBlock];exact h.run a w he hs
theorem Bvw{id id':Nat}(hn:Nat.beq id' id=false)(h:X cx id' k e L F Q):X cx id' (.blk id::k) e L F Q :=.mk λa w he hs=>by show Exit.inBlock id (D2 cx.P Q k) (.exit id') a w;simp[Exit.inBlock,if_neg (Nat.ne_of_beq_eq_false hn)];exact h.run a w he hs
theorem Bre{id:Nat}(h:X cx id k e L F Q):X cx id (.scope::k) e L F Q :=.mk λa w he hs=>by show Exit.noGoto (D2 cx.P Q k) (.exit id) a w;exact h.run a w he hs
theorem Hi(P:Program)(Q:Exit->Act->World->Prop)(a:Act)(w:World)(h:Q .ret a w):∀k,D2 P Q k .ret a w
 |[]=>h
 |.seq _::k=>Hi P Q a w h k
 |.blk _::k=>Hi P Q a w h k
 |.loop _::k=>Hi P Q a w h k
 |.drawn _ _ _::k=>Hi P Q a w h k
 |.scope::k=>by show Exit.noGoto (D2 P Q k) .ret a w;rw[Exit.noGoto_ret];exact Hi P Q a w h k
theorem Bvv(h:∀a w,EnvOk cx.n e a->StOk cx L F w->Q .ret a w):G cx .ret k e L F Q :=.mk λa w he hs=>wp_ret (Hi _ _ _ _ (h a w he hs) k)
variable {ops:Array Oper}{rest:List Oper}
theorem B4(h:N cx k e L F Q):O cx ops [] k e L F Q :=.mk h.run
def Gd(ops:Array Oper)(e:Env):Option (Nat×Bool)->Option Bool
 |none=>some true
 |some (j,b)=>match(ops[j]?).bind (·.dst) with
  |none=>none
  |some d=>match Env.get e d with|some (.bool x)=>some (x == b)|some (.tuple _)=>some false|_=>none
theorem Gd.wanted{n:Nat}{o:Oper}{a:Act}{r:Bool}(he:EnvOk n e a)(h:Gd ops e o.guard=some r):Region.wanted o (yielded ops a.tmps)=r:=by
 unfold Region.wanted;unfold Gd at h;split at h
 ·grind
 ·rename_i j b hg;rw[hg];split at h
  ·cases h
  ·rename_i d hd;split at h
   ·rename_i x hx;have:=he.get d _ hx;simp only[yielded,hd,Zc1,this,Za1] at h ⊢;rw[<-h];cases x<;>cases b<;>rfl
   ·rename_i x hx;have:=he.get d _ hx;simp only[yielded,hd,Zc1,this,Za1] at h ⊢;rw[<-h];cases b<;>rfl
   ·cases h
theorem Sa{l:List Oper}{d:Nat}{x:Bool}(hx:Env.get e d=some (.bool x))(h1:x=true->O cx ops l k ((d,.bool true)::e) L F Q)(h2:x=false->O cx ops l k ((d,.bool false)::e) L F Q):O cx ops l k e L F Q :=.mk λa w he hs=>by have hd:=he.get d _ hx;cases x with|true=>exact(h1 rfl).run a w (he.more hd) hs|false=>exact(h2 rfl).run a w (he.more hd) hs
theorem Bw3{j d:Nat}{b x:Bool}{dst:Option Nat}{op:Op}{t:TypeId}{pos:String}{after:Array Edge}(_hj:(ops[j]?).bind (·.dst)=some d)(hx:Env.get e d=some (.bool x))
  (h1:x=true->O cx ops (⟨dst,op,t,pos,after,some (j,b)⟩::rest) k ((d,.bool true)::e) L F Q) (h2:x=false->O cx ops (⟨dst,op,t,pos,after,some (j,b)⟩::rest) k ((d,.bool false)::e) L F Q):O cx ops (⟨dst,op,t,pos,after,some (j,b)⟩::rest) k e L F Q :=
 Sa hx h1 h2
theorem Bvo{j d:Nat}{b:Bool}{p:Prop}[inst:Decidable p]{dst:Option Nat}{op:Op}{t:TypeId}{pos:String}{after:Array Edge}(_hj:(ops[j]?).bind (·.dst)=some d)(hx:Env.get e d=some (.bool (decide p)))
  (h1:p->O cx ops (⟨dst,op,t,pos,after,some (j,b)⟩::rest) k ((d,.bool true)::e) L F Q) (h2:¬p->O cx ops (⟨dst,op,t,pos,after,some (j,b)⟩::rest) k ((d,.bool false)::e) L F Q):O cx ops (⟨dst,op,t,pos,after,some (j,b)⟩::rest) k e L F Q :=
 Sa hx (λh=>h1 (of_decide_eq_true h)) (λh=>h2 (of_decide_eq_false h))
theorem Bwd{α:Type}[DecidableEq α]{j d:Nat}{b:Bool}{p q : α}{dst:Option Nat}{op:Op}{t:TypeId}{pos:String}{after:Array Edge}(_hj:(ops[j]?).bind (·.dst)=some d)(hx:Env.get e d=some (.bool (p == q)))
  (h1:p=q->O cx ops (⟨dst,op,t,pos,after,some (j,b)⟩::rest) k ((d,.bool true)::e) L F Q) (h2:p≠q->O cx ops (⟨dst,op,t,pos,after,some (j,b)⟩::rest) k ((d,.bool false)::e) L F Q):O cx ops (⟨dst,op,t,pos,after,some (j,b)⟩::rest) k e L F Q :=
 Sa hx (λh=>h1 (by simpa using h)) (λh=>h2 (by simpa using h))
theorem Bv9{j d:Nat}{b:Bool}{p q:Int}{dst:Option Nat}{op:Op}{t:TypeId}{pos:String}{after:Array Edge}(_hj:(ops[j]?).bind (·.dst)=some d)(hx:Env.get e d=some (.bool (p != q)))
  (h1:p≠q->O cx ops (⟨dst,op,t,pos,after,some (j,b)⟩::rest) k ((d,.bool true)::e) L F Q) (h2:p=q->O cx ops (⟨dst,op,t,pos,after,some (j,b)⟩::rest) k ((d,.bool false)::e) L F Q):O cx ops (⟨dst,op,t,pos,after,some (j,b)⟩::rest) k e L F Q :=
 Sa hx (λh=>h1 (by simpa using h)) (λh=>h2 (by simpa using h))
theorem Buy{j d:Nat}{b:Bool}{p:Prop}[inst:Decidable p]{dst:Option Nat}{op:Op}{t:TypeId}{pos:String}{after:Array Edge}(_hj:(ops[j]?).bind (·.dst)=some d)(hx:Env.get e d=some (.bool (!decide p)))
  (h1:¬p->O cx ops (⟨dst,op,t,pos,after,some (j,b)⟩::rest) k ((d,.bool true)::e) L F Q) (h2:p->O cx ops (⟨dst,op,t,pos,after,some (j,b)⟩::rest) k ((d,.bool false)::e) L F Q):O cx ops (⟨dst,op,t,pos,after,some (j,b)⟩::rest) k e L F Q :=
 Sa hx (λh=>h1 (by simpa using h)) (λh=>h2 (by simpa using h))
theorem Bv4{j d:Nat}{b x:Bool}{dst:Option Nat}{op:Op}{t:TypeId}{pos:String}{after:Array Edge}(_hj:(ops[j]?).bind (·.dst)=some d)(hx:Env.get e d=some (.bool (!x)))
  (h1:x=false->O cx ops (⟨dst,op,t,pos,after,some (j,b)⟩::rest) k ((d,.bool true)::e) L F Q) (h2:x=true->O cx ops (⟨dst,op,t,pos,after,some (j,b)⟩::rest) k ((d,.bool false)::e) L F Q):O cx ops (⟨dst,op,t,pos,after,some (j,b)⟩::rest) k e L F Q :=
 Sa hx (λh=>h1 (by simpa using h)) (λh=>h2 (by simpa using h))
theorem Bvm{dst:Nat}{op:Op}{t:TypeId}{pos:String}{after:Array Edge}{g:Option (Nat×Bool)}(hg:Gd ops e g=some false)(hd:Nat.blt dst cx.n=true)(h:O cx ops rest k ((dst,undef)::e) L F Q) :
  O cx ops (⟨some dst,op,t,pos,after,g⟩::rest) k e L F Q :=.mk λa w he hs=>by
 have hw:=Gd.wanted (o:=⟨some dst,op,t,pos,after,g⟩) he hg;simp[wpList,hw];exact h.run _ w (he.put hd undef) hs
theorem A5g{op:Op}{t:TypeId}{pos:String}{after:Array Edge}{g:Option (Nat×Bool)}(hg:Gd ops e g=some false)(h:O cx ops rest k e L F Q) :
  O cx ops (⟨none,op,t,pos,after,g⟩::rest) k e L F Q :=.mk λa w he hs=>by
 have hw:=Gd.wanted (o:=⟨none,op,t,pos,after,g⟩) he hg;simp[wpList,hw];exact h.run _ w he hs
theorem Vb{dst:Nat}{op:Op}{t:TypeId}{pos:String}{after:Array Edge}{g:Option (Nat×Bool)}(R:Value->Loc->(World->Prop)->Prop)(hg:Gd ops e g=some true)(hd:Nat.blt dst cx.n=true)
  (hr:∀a w,EnvOk cx.n e a->StOk cx L F w->∃v w' L' F',(execOp a.eval ⟨some dst,op,t,pos,after,g⟩).run cx.P w = .ok (.value v) w'/\StOk cx L' F' w'/\R v L' F')
  (h:∀v L' F',R v L' F'->O cx ops rest k ((dst,v)::e) L' F' Q) :
  O cx ops (⟨some dst,op,t,pos,after,g⟩::rest) k e L F Q :=.mk λa w he hs=>by
 have hw:=Gd.wanted (o:=⟨some dst,op,t,pos,after,g⟩) he hg;obtain⟨v,w',L',F',hrun,hs',hR⟩:=hr a w he hs;simp[wpList,hw,Oper.wp];left;rw[hrun];simp[Oper.upon];exact(h v L' F' hR).run _ w' (he.put hd v) hs'
def Pure(P:Program)(e:Env)(op:Op)(v:Value):Prop :=∀(n:Nat) (a:Act) (w:World) (o:Oper),EnvOk n e a->o.op=op->(execOp a.eval o).run P w = .ok (.value v) w
theorem Au{dst:Nat}{op:Op}{t:TypeId}{pos:String}{after:Array Edge}{g:Option (Nat×Bool)}{v:Value}(hg:Gd ops e g=some true)(hd:Nat.blt dst cx.n=true)
  (hp:Pure cx.P e op v) (h:O cx ops rest k ((dst,v)::e) L F Q):O cx ops (⟨some dst,op,t,pos,after,g⟩::rest) k e L F Q :=
 Vb (λu L' F'=>u=v/\L' = L/\F' = F) hg hd (λa w he hs=>⟨v,w,L,F,hp cx.n a w _ he rfl,hs,rfl,rfl,rfl⟩) (λu L' F' ⟨hu,hL,hF⟩=>by rw[hu,hL,hF];exact h)
end control
def Enters(P:Program)(f:FuncId):Prop:=∀args w,(callFunc f args).run P w = .ok (.enter f args) w
theorem enters_of{P:Program}{f:FuncId}{fn:Func}(hf:P.funcs[f]? = some fn)(hb:fn.body.isNone=false)(hn:(fn.name == "runtime.NumGoroutine")=false):Enters P f:=by
 intro args w;have hn':¬fn.name = "runtime.NumGoroutine" := by simpa using hn
 obtain⟨c,hc⟩:∃c,fn.body=some c:=by cases h:fn.body with|none=>rw[h] at hb;cases hb|some c=>exact⟨c,rfl⟩
 simp[callFunc,hf,hc,hn']
structure Con (P:Program) (f:FuncId) (args:List Value) (Lin:Loc) (Pre:World->Prop) (Post:Value->Loc->(World->Prop)->Prop):Prop where
 enters:Enters P f
 run:∀(w:World) (M:List Nat),StOk ⟨P,0,w,fps Lin,M⟩ Lin Pre w ->
  Calls P f args.toArray w λen w'=>∃v L' F',en = .returned v/\Post v L' F'/\StOk ⟨P,0,w,fps Lin,M⟩ L' F' w'
def Dm:Nat->List Value->Env
 |_,[]=>[]
 |i,v::vs=>(i,v)::Dm (i+1) vs
theorem Ht:∀(vs:List Value) (i k:Nat) (v:Value),Env.get (Dm i vs) k=some v->i<=k/\vs[k-i]? = some v
 |[],i,k,v,h=>by simp[Dm,Env.get] at h
 |u::vs,i,k,v,h=>by
  simp[Dm,Env.get] at h;cases hb:Nat.beq i k with
  |true=>simp_all
  |false =>
   rw[hb] at h;have hne:i≠k:=Nat.ne_of_beq_eq_false hb;obtain⟨h1,h2⟩:=Ht vs (i+1) k v h;refine⟨by omega,?_⟩;have:k-i=(k-(i+1))+1:=by omega
   rw[this];simpa using h2
def Apm(P:Program)(w:World)(I M:List Nat)(Post:Value->Loc->(World->Prop)->Prop)(en:Ending)(w':World):Prop :=∃v L' F',en = .returned v/\Post v L' F'/\StOk ⟨P,0,w,I,M⟩ L' F' w'
theorem StOk.n{P:Program}{n m:Nat}{w0 w:World}{I M:List Nat}{L:Loc}{F:World->Prop}(h:StOk ⟨P,n,w0,I,M⟩ L F w):StOk ⟨P,m,w0,I,M⟩ L F w :=⟨h.chg,h.ok,h.nodup,h.own,h.away,h.rob⟩
theorem Bh{P:Program}{f:FuncId}{fn:Func}{n:Nat}{c:Code}{args:List Value}{Lin:Loc}{Pre:World->Prop}{Post:Value->Loc->(World->Prop)->Prop}
  (hf:P.funcs[f]? = some fn) (hn:fn.ntmps=n) (hb:fn.body=some c) (hname:(fn.name == "runtime.NumGoroutine")=false) (hsz:Nat.ble args.length n=true)
  (h:∀w M,G ⟨P,n,w,fps Lin,M⟩ c [] (Dm 0 args) Lin Pre (bodyPost P fn (Apm P w (fps Lin) M Post))):Con P f args Lin Pre Post:=by
 refine⟨enters_of hf (by rw[hb];rfl) hname,λw M hs =>?_⟩;have hle:args.length<=n:=by simpa using hsz
 refine calls_of_wp hf hb ((h w M).run _ w ⟨rfl,?_,?_⟩ hs.n)
 ·simp;omega
 ·intro k v hk;obtain⟨_,h2⟩:=Ht args 0 k v hk;simp at h2;have hlt:k<args.length:=by grind
  simp only[Array.getElem?_append,List.size_toArray,hlt];simpa using h2
theorem Con.mono{P:Program}{f:FuncId}{args:List Value}{Lin:Loc}{Pre Pre':World->Prop}{Post Post':Value->Loc->(World->Prop)->Prop}(h:Con P f args Lin Pre Post)(h1:∀w,Pre' w->Pre w)(h2:∀v L F,Post v L F->Post' v L F):Con P f args Lin Pre' Post' :=⟨h.enters,λw M hs=>(h.run w M (hs.fact h1)).mono λ_ _ ⟨v,L',F',a,b,c⟩=>⟨v,L',F',a,h2 _ _ _ b,c⟩⟩
theorem Con.calls{P:Program}{f:FuncId}{args:List Value}{Pre:World->Prop}{Post:Value->Loc->(World->Prop)->Prop}(h:Con P f args [] Pre Post)(w:World)(hp:∀w',Below w.heap.size w w'->Pre w') :
  Calls P f args.toArray w λen w'=>∃v L' F',en = .returned v/\Post v L' F'/\F' w'/\Below w.heap.size w w' :=
 (h.run w [] ⟨Chg.refl _ _,by simp,by simp[fps],by simp[fps],by simp,λw' hc=>hp w' (Chg.below (by simpa[fps] using hc))⟩).mono λ_ _ ⟨v,L',F',a,b,c⟩=>⟨v,L',F',a,b,c.here,Chg.below (by simpa[fps] using c.chg)⟩
section
variable {cx:Cx}{k:List KI}{e:Env}{L:Loc}{F:World->Prop}{Q:Exit->Act->World->Prop}{ops:Array Oper}{rest:List Oper}
theorem Bz(A B:Loc):fps (A++B)=fps A++fps B:=by simp[fps]
theorem Ha(x:Ent)(B:Loc):fps (x::B)=x.fp++fps B:=by simp[fps]
theorem StOk.perm{L2:Loc}{w:World}(h:StOk cx L F w)(hp:L.Perm L2):StOk cx L2 F w:=by have hf:(fps L).Perm (fps L2):=hp.flatMap_right _;refine⟨h.chg,λx hx=>h.ok x (hp.mem_iff.2 hx),hf.nodup_iff.1 h.nodup,λb hb=>h.own b (hf.mem_iff.2 hb),h.away,h.rob.mono ?_⟩;intro x hx;simp at hx ⊢;exact hx.imp id hf.mem_iff.2
theorem StOk.drop{x:Ent}{w:World}(h:StOk cx (x::L) F w):StOk cx L F w:=by
 have hn:=h.nodup;rw[Ha] at hn;exact⟨h.chg,λy hy=>h.ok y (by simp[hy]),(List.nodup_append.1 hn).2.1,λb hb=>h.own b (by rw[Ha];simp[hb]),h.away,h.rob.mono (by
  intro y hy;rw[Ha];simp at hy ⊢;rcases hy with hy|hy
  ·exact .inl hy
  ·exact .inr (.inr hy))⟩
theorem StOk.called{Lin Lf L':Loc}{F':World->Prop}{w w':World}{M':List Nat}(h:StOk cx (Lin++Lf) F w)(hM:M' = cx.M++fps Lf)(h':StOk ⟨cx.P,0,w,fps Lin,M'⟩ L' F' w'):StOk cx (L'++Lf) (λw=>F w/\F' w) w':=by
 subst hM;have hn:=h.nodup;rw[Bz] at hn;obtain⟨n1,n2,n3⟩:=List.nodup_append.1 hn;have own':∀b,b∈fps L'->b∈fps Lin\/w.heap.size<=b:=h'.own;have chg':Chg (fps Lin) w w':=h'.chg;have hL'f:∀b,b∈fps L'->b∉fps Lf:=λb hb hm=>by
  rcases own' b hb with hi|hi
  ·exact n3 b hi b hm rfl
  ·have:=h.lt b (by rw[Bz];simp[hm]);omega
 refine⟨?_,?_,?_,?_,h.away,?_⟩
 ·have hc:=h.chg;refine⟨chg'.os.trans hc.os,chg'.tape.trans hc.tape,chg'.output.trans hc.output,Nat.le_trans hc.size chg'.size,λi hi hni =>?_⟩;rw[chg'.block i (Zx1 hi hc.size) (λhm =>?_)]
  ·exact hc.block i hi hni
  ·rcases h.own i (by rw[Bz];simp[hm]) with ho|ho
   ·exact hni ho
   ·omega
 ·intro x hx;simp at hx;rcases hx with hx|hx
  ·exact h'.ok x hx
  ·refine Ent.ok_chg (h.ok x (by simp[hx])) chg' λb hb hm =>?_;exact n3 b hm b (by simp[fps];exact⟨x,hx,hb⟩) rfl
 ·rw[Bz];exact List.nodup_append.2 ⟨h'.nodup,n2,λa ha b hb hab=>by subst hab;exact hL'f a ha hb⟩
 ·intro b hb;rw[Bz] at hb;simp at hb;rcases hb with hb|hb
  ·rcases own' b hb with hi|hi
   ·exact h.own b (by rw[Bz];simp[hi])
   ·right;have:=h.chg.size;omega
  ·exact h.own b (by rw[Bz];simp[hb])
 ·refine Rob.and (h.rob.fresh (chg'.mono ?_) ?_) (h'.rob.mono ?_)
  ·intro x hx;rw[Bz];simp[hx]
  ·intro b hb hnb;rw[Bz] at hb hnb;simp at hb hnb;rcases hb with hb|hb|hb
   ·exact absurd hb hnb.1
   ·grind
   ·exact absurd hb hnb.2.2
  ·intro x hx;rw[Bz] at hx;simp only[List.mem_append] at hx ⊢;rcases hx with hx|hx|hx
   ·exact .inl (.inl hx)
   ·exact .inr hx
   ·exact .inl (.inr hx)
theorem StOk.callee{Lin Lf:Loc}{Pre:World->Prop}{w:World}(h:StOk cx (Lin++Lf) F w)(hF:∀w,F w->Pre w):StOk ⟨cx.P,0,w,fps Lin,cx.M++fps Lf⟩ Lin Pre w:=by
 have hn:=h.nodup;rw[Bz] at hn;obtain⟨n1,n2,n3⟩:=List.nodup_append.1 hn;refine⟨Chg.refl _ _,λx hx=>h.ok x (by simp[hx]),n1,λb hb =>.inl hb,?_,(h.rob.imp hF).mono ?_⟩
 ·intro b hb;simp at hb;rcases hb with hb|hb
  ·exact⟨Zx1 (h.away b hb).1 h.chg.size,λhm=>h.disj b hb (by rw[Bz];simp[hm])⟩
  ·exact⟨h.lt b (by rw[Bz];simp[hb]),λhm=>n3 b hm b hb rfl⟩
 ·intro x hx;rw[Bz];simp only[List.mem_append] at hx ⊢;rcases hx with (hx|hx)|hx
  ·exact .inl hx
  ·exact .inr (.inr hx)
  ·exact .inr (.inl hx)
def Is(v:Value):Value->Loc->(World->Prop)->Prop:=λu L F=>u=v/\L=[]/\F=λ_=>True
structure Rt (cx:Cx) (L:Loc) (F:World->Prop) (Φ:Loc->(World->Prop)->Prop):Prop where
 run:∀w,StOk cx L F w->∃L' F', Φ L' F'/\StOk cx L' F' w
variable {Φ:Loc->(World->Prop)->Prop}
theorem Bv(h : Φ L F):Rt cx L F Φ :=.mk λ_ hs=>⟨L,F,h,hs⟩
theorem StOk.nil:∀{L:Loc}{w:World},StOk cx L F w->StOk cx [] F w
 |[],_,h=>h
 |_::_,_,h=>StOk.nil h.drop
theorem Btd(h : Φ [] λ_=>True):Rt cx L F Φ :=.mk λ_ hs=>⟨[],_,h,(hs.nil).fact λ_ _=>trivial⟩
theorem Bsn{u v:Value}(h:u=v):Rt cx L F (Is v u):=Btd ⟨h,rfl,rfl⟩
def resv:List Value->Value
 |[v]=>v
 |vs =>.tuple vs.toArray
def RV(cx:Cx)(e:Env)(L:Loc)(F:World->Prop):ResultVar->Value->Prop
 |.tmp t,v=>Env.get e t=some v
 |.cell a t,v=>∃p,Env.get e a=some (.pointer (some p))/\∀w,StOk cx L F w->(loadVar t p).run cx.P w = .ok v w
def RVs(cx:Cx)(e:Env)(L:Loc)(F:World->Prop):List ResultVar->List Value->Prop
 |[],[]=>True
 |r::rs,v::vs=>RV cx e L F r v/\RVs cx e L F rs vs
 |_,_=>False
def rdv(tmps:Array Value):ResultVar->Sem Value
 |.tmp t=>pure (tmps.getD t undef)
 |.cell a t=>do loadVar t (<-asAddr (tmps.getD a undef))
theorem RVs.run{a:Act}{w:World}(he:EnvOk cx.n e a)(hs:StOk cx L F w):∀{rs:List ResultVar}{vs:List Value},RVs cx e L F rs vs->Sem.run cx.P (rs.mapM (rdv a.tmps)) w=Result.ok vs w
 |[],[],_=>by simp
 |[],_::_,h=>h.elim
 |_::_,[],h=>h.elim
 |.tmp t::rs,v::vs,h=>by have h1:a.tmps[t]? = some v:=he.get t v h.1;have h2:=RVs.run he hs h.2;simp[ rdv,h1,h2]
 |.cell a' t::rs,v::vs,h=>by obtain⟨⟨p,hp,hl⟩,hr⟩:=h;have h1:a.tmps[a']? = some _:=he.get a' _ hp;have h2:=RVs.run he hs hr;simp[ rdv,h1,h2,asAddr,(hl w hs)]
theorem results_eq(fn:Func)(tmps:Array Value):results fn tmps=(do let vs <-fn.results.mapM (rdv tmps);pure (if h:vs.size=1 then vs[0] else .tuple vs)):=by unfold results;congr 1
theorem Akq{P:Program}{n:Nat}{w0:World}{I M:List Nat}{fn:Func}{rs:List ResultVar}{vs:List Value}{v:Value}{Post:Value->Loc->(World->Prop)->Prop}(hres:fn.results=rs.toArray)(hv:RVs ⟨P,n,w0,I,M⟩ e L F rs vs)(hvs:resv vs=v)
  (hp:Rt ⟨P,n,w0,I,M⟩ L F (Post v)):G ⟨P,n,w0,I,M⟩ .ret k e L F (bodyPost P fn (Apm P w0 I M Post)):=by
 refine Bvv λa w he hs =>?_;obtain⟨L',F',hP,hs'⟩:=hp.run w hs;refine⟨he.defers,v,?_,v,L',F',rfl,hP,hs'.n⟩;rw[results_eq,hres];simp only[List.mapM_toArray,Sem.run_bind,map_eq_pure_bind,(RVs.run he hs hv)];congr 1;rw[<-hvs];match vs with|[]=>rfl|[v]=>rfl|_::_::_=>simp[resv]
section
variable {P:Program}{n:Nat}{w0:World}{I M:List Nat}{fn:Func}{Post:Value->Loc->(World->Prop)->Prop}{t1 t2 t3:Nat}{v1 v2 v3:Value}
theorem B1(hres:fn.results = #[.tmp t1])(h1:Env.get e t1=some v1)(hp:Rt ⟨P,n,w0,I,M⟩ L F (Post v1)):G ⟨P,n,w0,I,M⟩ .ret k e L F (bodyPost P fn (Apm P w0 I M Post)) :=Akq (rs:=[.tmp t1]) (vs:=[v1]) hres ⟨h1,trivial⟩ rfl hp
theorem Bsv(hres:fn.results = #[.tmp t1,.tmp t2])(h1:Env.get e t1=some v1)(h2:Env.get e t2=some v2)(hp:Rt ⟨P,n,w0,I,M⟩ L F (Post (.tuple #[v1,v2]))):G ⟨P,n,w0,I,M⟩ .ret k e L F (bodyPost P fn (Apm P w0 I M Post)) :=Akq (rs:=[.tmp t1,.tmp t2]) (vs:=[v1,v2]) hres ⟨h1,h2,trivial⟩ rfl hp
theorem Bs7(hres:fn.results = #[.tmp t1,.tmp t2,.tmp t3])(h1:Env.get e t1=some v1)(h2:Env.get e t2=some v2)(h3:Env.get e t3=some v3)(hp:Rt ⟨P,n,w0,I,M⟩ L F (Post (.tuple #[v1,v2,v3]))):G ⟨P,n,w0,I,M⟩ .ret k e L F (bodyPost P fn (Apm P w0 I M Post)) :=Akq (rs:=[.tmp t1,.tmp t2,.tmp t3]) (vs:=[v1,v2,v3]) hres ⟨h1,h2,h3,trivial⟩ rfl hp
end
end
abbrev S(l:List UInt8):Value :=.string ⟨l.toArray⟩
def byt(l:List UInt8)(i:Int):Int:=((l.getD i.toNat 0).toNat:Int)
def cut(l:List UInt8)(a b:Int):List UInt8:=(l.drop a.toNat).take (b.toNat-a.toNat)
def tyS(P:Program)(t:TypeId):Bool:=match P.underlying t with|some .string=>true|_=>false
def tyB(P:Program)(t:TypeId):Bool:=match P.underlying t with|some .bool=>true|_=>false
def tySl(P:Program)(t:TypeId):Bool:=match P.underlying t with|some (.slice _)=>true|_=>false
def tyI(P:Program)(t:TypeId)(k:IntKind):Bool:=match P.underlying t with|some (.int k')=>k' == k|_=>false
def tySome(P:Program)(t:TypeId):Bool:=(P.underlying t).isSome
theorem tyS_spec{P:Program}{t:TypeId}(h:tyS P t=true):P.underlying t=some .string:=by
 unfold tyS at h;split at h
 ·assumption
 ·cases h
theorem tyB_spec{P:Program}{t:TypeId}(h:tyB P t=true):P.underlying t=some .bool:=by
 unfold tyB at h;split at h
 ·assumption
 ·cases h
theorem Bc8{P:Program}{t:TypeId}(h:tySl P t=true):∃u,P.underlying t=some (.slice u):=by
 unfold tySl at h;split at h
 ·grind
 ·cases h
theorem tyI_spec{P:Program}{t:TypeId}{k:IntKind}(h:tyI P t k=true):P.underlying t=some (.int k):=by
 unfold tyI at h;split at h
 ·grind
 ·cases h
theorem tySome_spec{P:Program}{t:TypeId}(h:tySome P t=true):∃d,P.underlying t=some d:=by unfold tySome at h;exact Option.isSome_iff_exists.1 h
section
variable {P:Program}{e:Env}
theorem p_move{x:Operand}{v:Value}(h:Env.ev e x=some v):Pure P e (.move x) v:=λn a w o he ho=>by simp[execOp,ho,he.ev h]
theorem p_assign{x:Operand}{v:Value}(h:Env.ev e x=some v):Pure P e (.assign x) v:=λn a w o he ho=>by simp[execOp,ho,he.ev h]
theorem p_pick_t{c x y:Operand}{v:Value}(hc:Env.ev e c=some (.bool true))(h:Env.ev e x=some v):Pure P e (.pick c x y) v:=λn a w o he ho=>by simp[execOp,ho,he.ev h,he.ev hc,asBool]
theorem p_pick_f{c x y:Operand}{v:Value}(hc:Env.ev e c=some (.bool false))(h:Env.ev e y=some v):Pure P e (.pick c x y) v:=λn a w o he ho=>by simp[execOp,ho,he.ev h,he.ev hc,asBool]
theorem p_bin{op:BinOp}{t t':TypeId}{x y:Operand}{u v r:Value}(hx:Env.ev e x=some u)(hy:Env.ev e y=some v)
  (hg:∀w,(eqGuard op t x y u v).run P w = .ok () w) (h:∀w,(binOp op t u v).run P w = .ok r w):Pure P e (.binOp op t x y t') r:=λn a w o he ho=>by
 simp[execOp,ho,he.ev hx,he.ev hy,hg,h]
section int
variable {t t':TypeId}{x y:Operand}{k:IntKind}{a b:Int}
theorem eqGuard_int(op:BinOp)(t:TypeId)(x y:Operand)(k k':IntKind)(a b:Int)(w:World):(eqGuard op t x y (.int k a) (.int k' b)).run P w = .ok () w:=by cases op<;>rfl
theorem eqGuard_str(op:BinOp)(t:TypeId)(x y:Operand)(a b:ByteArray)(w:World):(eqGuard op t x y (.string a) (.string b)).run P w = .ok () w:=by cases op<;>rfl
theorem Zy(op:BinOp)(t:TypeId)(x y:Operand)(a b:Bool)(w:World):(eqGuard op t x y (.bool a) (.bool b)).run P w = .ok () w:=by cases op<;>rfl
theorem p_add(hx:Env.ev e x=some (.int k a))(hy:Env.ev e y=some (.int k b)):Pure P e (.binOp .add t x y t') (.int k (k.wrap (a+b))) :=p_bin hx hy (eqGuard_int _ _ _ _ _ _ _ _) λw=>by simp[binOp,Op.intArith]
theorem p_sub(hx:Env.ev e x=some (.int k a))(hy:Env.ev e y=some (.int k b)):Pure P e (.binOp .sub t x y t') (.int k (k.wrap (a-b))) :=p_bin hx hy (eqGuard_int _ _ _ _ _ _ _ _) λw=>by simp[binOp,Op.intArith]
theorem p_mul(hx:Env.ev e x=some (.int k a))(hy:Env.ev e y=some (.int k b)):Pure P e (.binOp .mul t x y t') (.int k (k.wrap (a*b))) :=p_bin hx hy (eqGuard_int _ _ _ _ _ _ _ _) λw=>by simp[binOp,Op.intArith]
theorem Agf(hx:Env.ev e x=some (.int .i64 a))(hy:Env.ev e y=some (.int .i64 b))(h : -9223372036854775808<=a+b/\a+b<=9223372036854775807):Pure P e (.binOp .add t x y t') (.int .i64 (a+b)):=by have:=p_add (P:=P) (t:=t) (t':=t') hx hy;rwa[IntWalk.i64_in _ h] at this
theorem Ka(hx:Env.ev e x=some (.int .i64 a))(hy:Env.ev e y=some (.int .i64 b))(h : -9223372036854775808<=a-b/\a-b<=9223372036854775807):Pure P e (.binOp .sub t x y t') (.int .i64 (a-b)):=by have:=p_sub (P:=P) (t:=t) (t':=t') hx hy;rwa[IntWalk.i64_in _ h] at this
theorem p_quo(hx:Env.ev e x=some (.int k a))(hy:Env.ev e y=some (.int k b))(h:b≠0):Pure P e (.binOp .quo t x y t') (.int k (k.wrap (a.tdiv b))) :=p_bin hx hy (eqGuard_int _ _ _ _ _ _ _ _) λw=>by simp[binOp,Op.intDiv,h]
theorem p_rem(hx:Env.ev e x=some (.int k a))(hy:Env.ev e y=some (.int k b))(h:b≠0):Pure P e (.binOp .rem t x y t') (.int k (a.tmod b)) :=p_bin hx hy (eqGuard_int _ _ _ _ _ _ _ _) λw=>by simp[binOp,Op.intDiv,h]
theorem p_and(hx:Env.ev e x=some (.int k a))(hy:Env.ev e y=some (.int k b)):Pure P e (.binOp .and t x y t') (.int k (k.wrap ((BitVec.ofInt k.bits a &&& BitVec.ofInt k.bits b).toNat))) :=p_bin hx hy (eqGuard_int _ _ _ _ _ _ _ _) λw=>by simp[binOp,Op.intBits]
theorem p_or(hx:Env.ev e x=some (.int k a))(hy:Env.ev e y=some (.int k b)):Pure P e (.binOp .or t x y t') (.int k (k.wrap ((BitVec.ofInt k.bits a ||| BitVec.ofInt k.bits b).toNat))) :=p_bin hx hy (eqGuard_int _ _ _ _ _ _ _ _) λw=>by simp[binOp,Op.intBits]
theorem p_xor(hx:Env.ev e x=some (.int k a))(hy:Env.ev e y=some (.int k b)):Pure P e (.binOp .xor t x y t') (.int k (k.wrap ((BitVec.ofInt k.bits a ^^^ BitVec.ofInt k.bits b).toNat))) :=p_bin hx hy (eqGuard_int _ _ _ _ _ _ _ _) λw=>by simp[binOp,Op.intBits]
theorem p_shl{k':IntKind}(hx:Env.ev e x=some (.int k a))(hy:Env.ev e y=some (.int k' b))(h : 0<=b):Pure P e (.binOp .shl t x y t') (.int k (k.wrap (a*2 ^ min b.toNat k.bits))) :=p_bin hx hy (eqGuard_int _ _ _ _ _ _ _ _) λw=>by simp[binOp,Op.shift,Int.not_lt.2 h]
theorem p_shr{k':IntKind}(hx:Env.ev e x=some (.int k a))(hy:Env.ev e y=some (.int k' b))(h : 0<=b):Pure P e (.binOp .shr t x y t') (.int k (a.fdiv (2 ^ min b.toNat k.bits))) :=p_bin hx hy (eqGuard_int _ _ _ _ _ _ _ _) λw=>by simp[binOp,Op.shift,Int.not_lt.2 h]
theorem p_eql(hx:Env.ev e x=some (.int k a))(hy:Env.ev e y=some (.int k b)):Pure P e (.binOp .eql t x y t') (.bool (a == b)) :=p_bin hx hy (eqGuard_int _ _ _ _ _ _ _ _) λw=>by simp[binOp,Op.intCmp]
theorem p_neq(hx:Env.ev e x=some (.int k a))(hy:Env.ev e y=some (.int k b)):Pure P e (.binOp .neq t x y t') (.bool (a != b)) :=p_bin hx hy (eqGuard_int _ _ _ _ _ _ _ _) λw=>by simp[binOp,Op.intCmp]
theorem p_lss(hx:Env.ev e x=some (.int k a))(hy:Env.ev e y=some (.int k b)):Pure P e (.binOp .lss t x y t') (.bool (decide (a<b))) :=p_bin hx hy (eqGuard_int _ _ _ _ _ _ _ _) λw=>by simp[binOp,Op.intCmp]
theorem p_leq(hx:Env.ev e x=some (.int k a))(hy:Env.ev e y=some (.int k b)):Pure P e (.binOp .leq t x y t') (.bool (decide (a<=b))) :=p_bin hx hy (eqGuard_int _ _ _ _ _ _ _ _) λw=>by simp[binOp,Op.intCmp]
theorem p_gtr(hx:Env.ev e x=some (.int k a))(hy:Env.ev e y=some (.int k b)):Pure P e (.binOp .gtr t x y t') (.bool (decide (b<a))) :=p_bin hx hy (eqGuard_int _ _ _ _ _ _ _ _) λw=>by simp[binOp,Op.intCmp]
theorem p_geq(hx:Env.ev e x=some (.int k a))(hy:Env.ev e y=some (.int k b)):Pure P e (.binOp .geq t x y t') (.bool (decide (b<=a))) :=p_bin hx hy (eqGuard_int _ _ _ _ _ _ _ _) λw=>by simp[binOp,Op.intCmp]
end int
theorem beq_decide(l m:List UInt8):(l == m)=decide (l=m):=by grind
section str
variable {t t':TypeId}{x y:Operand}{l m:List UInt8}
theorem p_adds(hx:Env.ev e x=some (S l))(hy:Env.ev e y=some (S m))(h:l.length+m.length<=9223372036854775807):Pure P e (.binOp .add t x y t') (S (l++m)) :=
 p_bin hx hy (eqGuard_str _ _ _ _ _ _) λw=>by
  have h1:¬(((ByteArray.mk l.toArray).size+(ByteArray.mk m.toArray).size:Nat):Int) > IntKind.i64.max:=by simp[ByteArray.size];omega
  have h2:(ByteArray.mk l.toArray++ByteArray.mk m.toArray)=ByteArray.mk (l++m).toArray:=by apply ByteArray.ext;simp
  simp only[binOp,Op.stringOp,if_neg h1,Sem.run_pure,h2]
theorem p_eqls(hx:Env.ev e x=some (S l))(hy:Env.ev e y=some (S m)):Pure P e (.binOp .eql t x y t') (.bool (decide (l=m))) :=p_bin hx hy (eqGuard_str _ _ _ _ _ _) λw=>by simp[binOp,Op.stringOp];rw[beq_decide]
theorem p_neqs(hx:Env.ev e x=some (S l))(hy:Env.ev e y=some (S m)):Pure P e (.binOp .neq t x y t') (.bool (!decide (l=m))) :=p_bin hx hy (eqGuard_str _ _ _ _ _ _) λw=>by simp[binOp,Op.stringOp];rw[beq_decide]
theorem p_lsss(hx:Env.ev e x=some (S l))(hy:Env.ev e y=some (S m)):Pure P e (.binOp .lss t x y t') (.bool (Op.bytesLess l m)) :=p_bin hx hy (eqGuard_str _ _ _ _ _ _) λw=>by simp[binOp,Op.stringOp]
theorem Bid(hx:Env.ev e x=some (S l))(hy:Env.ev e y=some (S m)):Pure P e (.binOp .gtr t x y t') (.bool (!(Op.bytesLess l m||l == m))) :=p_bin hx hy (eqGuard_str _ _ _ _ _ _) λw=>by simp[binOp,Op.stringOp]
theorem Asv(d:Nat){a b:Bool}{w:World}(ht:P.underlying t=some .bool):(Op.equalIn (d+1) t (.bool a) (.bool b)).run P w = .ok (a == b) w:=by simp[Op.equalIn,run_underlying ht]
theorem Aju{a b:Bool}{w:World}(ht:P.underlying t=some .bool):(Op.equal t (.bool a) (.bool b)).run P w = .ok (a == b) w:=Asv 9999 ht
theorem p_eqlb{a b:Bool}(ht:tyB P t=true)(hx:Env.ev e x=some (.bool a))(hy:Env.ev e y=some (.bool b)):Pure P e (.binOp .eql t x y t') (.bool (decide (a=b))) :=p_bin hx hy (Zy _ _ _ _ _ _) λw=>by rw[show binOp .eql t (.bool a) (.bool b)=(do pure (.bool (<-Op.equal t (.bool a) (.bool b)))) from rfl,Sem.run_bind,Aju (tyB_spec ht)];rfl
theorem p_neqb{a b:Bool}(ht:tyB P t=true)(hx:Env.ev e x=some (.bool a))(hy:Env.ev e y=some (.bool b)):Pure P e (.binOp .neq t x y t') (.bool (!decide (a=b))) :=p_bin hx hy (Zy _ _ _ _ _ _) λw=>by rw[show binOp .neq t (.bool a) (.bool b)=(do pure (.bool (!(<-Op.equal t (.bool a) (.bool b))))) from rfl,Sem.run_bind,Aju (tyB_spec ht)];rfl
end str
theorem p_not{t:TypeId}{x:Operand}{b:Bool}(hx:Env.ev e x=some (.bool b)):Pure P e (.unOp .not t x) (.bool (!b)):=λn a w o he ho=>by simp[execOp,ho,he.ev hx,Op.unary]
theorem p_neg{t:TypeId}{x:Operand}{k:IntKind}{a:Int}(hx:Env.ev e x=some (.int k a)):Pure P e (.unOp .neg t x) (.int k (k.wrap (0-a))):=λn a' w o he ho=>by simp[execOp,ho,he.ev hx,Op.unary,Op.intArith]
theorem p_conv{s t:TypeId}{x:Operand}{k':IntKind}{a:Int}(k:IntKind)(hs':tySome P s=true)(ht':tyI P t k=true)(hx:Env.ev e x=some (.int k' a)):Pure P e (.convert s t x) (.int k (k.wrap a)):=λn a' w o he ho=>by obtain⟨d,hs⟩:=tySome_spec hs';simp[execOp,ho,he.ev hx,convert,run_underlying hs,run_underlying (tyI_spec ht'),Conv.intToInt]
theorem Brx{fo:Operand}{xs:List Operand}{ts:Array TypeId}{f:FuncId}{vs:List Value}{v:Value}(hf:Env.ev e fo=some (.func (.func f) #[] #[]))(hx:Env.evs e xs=some vs)(hr:∀w,(callFunc f vs.toArray).run P w = .ok (.value v) w):Pure P e (.call ⟨.value fo,xs.toArray,ts⟩) v:=λn a w o he ho=>by simp[execOp,ho,resolve,he.ev hf,Deferred.ofValue,(he.evs hx),invoke];simpa using hr w
def nth:List Value->Nat->Option Value
 |[],_=>none
 |v::_,0=>some v
 |_::vs,i+1=>nth vs i
theorem nth_eq:∀(l:List Value) (i:Nat),nth l i=l[i]?
 |[],_=>rfl
 |_::_,0=>rfl
 |_::l,i+1=>by simp[nth,nth_eq l i]
theorem p_extract{x:Operand}{i:Nat}{vs:List Value}{v:Value}(hx:Env.ev e x=some (.tuple vs.toArray))(hv':nth vs i=some v):Pure P e (.extract x i) v:=λn a w o he ho=>by
 have hv:vs.toArray[i]? = some v:=by rw[nth_eq] at hv';simpa using hv'
 simp[execOp,ho,Sem.run_pure,Sem.run_bind,he.ev hx,Instr.extract,hv]
theorem A6g(l:List UInt8):(ByteArray.mk l.toArray).size=l.length:=rfl
theorem p_lens{t:TypeId}{x:Operand}{l:List UInt8}(ht:tyS P t=true)(hx:Env.ev e x=some (S l)):Pure P e (.call ⟨.builtin .len, #[x], #[t]⟩) (.int .i64 l.length):=λn a w o he ho=>by simp[execOp,ho,Sem.run_pure,Sem.run_bind,List.map_toArray,Zw1,List.map_nil,he.ev hx,resolve,invoke,builtin,Builtin.len_,run_underlying (tyS_spec ht),Result.andThen_ok,goInt,List.getElem?_toArray,List.getElem?_cons_zero,A6g]
theorem p_lensl{t:TypeId}{x:Operand}{ad:Option Addr}{l c:Nat}(ht':tySl P t=true)(hx:Env.ev e x=some (.slice ad l c)):Pure P e (.call ⟨.builtin .len, #[x], #[t]⟩) (.int .i64 l):=λn a w o he ho=>by obtain⟨u,ht⟩:=Bc8 ht';simp[execOp,ho,Sem.run_pure,Sem.run_bind,List.map_toArray,Zw1,List.map_nil,he.ev hx,resolve,invoke,builtin,Builtin.len_,run_underlying ht,Result.andThen_ok,goInt]
theorem p_index{t:TypeId}{x y:Operand}{l:List UInt8}{k:IntKind}{i:Int}(ht:tyS P t=true)(hx:Env.ev e x=some (S l))(hy:Env.ev e y=some (.int k i))(h : 0<=i/\i<l.length):Pure P e (.index t x y) (.int .u8 (byt l i)):=λn a w o he ho=>by
 have hlt:i.toNat<l.length:=by omega
 have hb:(ByteArray.mk l.toArray)[i.toNat]? = some (l[i.toNat]'hlt):=by
  have:i.toNat<(ByteArray.mk l.toArray).size:=by simpa[ByteArray.size] using hlt
  simp[getElem?_pos,this];rfl
 have e2:byt l i=((l[i.toNat]'hlt).toNat:Int):=by simp[byt,List.getD_eq_getElem?_getD,hlt]
 simp[execOp,ho,Sem.run_pure,Sem.run_bind,he.ev hx,he.ev hy,Instr.index,asIntOf,run_underlying (tyS_spec ht),Result.andThen_ok,if_pos h.1,hb,e2]
end
def tyAgg(P:Program)(t:TypeId):Bool:=match P.underlying t with|some (.struct _)|some (.array _ _)=>true|_=>false
def tySz(P:Program)(t:TypeId):Option Nat:=(P.info? t).map (·.size)
def tyZero(P:Program)(t:TypeId):Option (List Value):=((P.info? t).bind (·.zero)).map λz=>z.cells.toList
theorem run_isAgg{P:Program}{t:TypeId}{b:Bool}(h:(tySome P t&&(tyAgg P t == b))=true)(w:World):(isAgg t).run P w = .ok b w:=by simp at h;obtain⟨h1,h2⟩:=h;obtain⟨d,hd⟩:=tySome_spec h1;unfold tyAgg at h2;rw[hd] at h2;simp[isAgg,run_underlying hd];cases d<;>simp at h2<;>subst h2<;>simp
theorem run_sizeOf{P:Program}{t:TypeId}{n:Nat}(h:tySz P t=some n)(w:World):(sizeOf t).run P w = .ok n w:=by unfold tySz at h;cases hi:P.info? t with|none=>rw[hi] at h;cases h|some i =>rw[hi] at h;simp at h;simp[sizeOf,typeInfo,hi,h]
section
variable {cx:Cx}{k:List KI}{e:Env}{L:Loc}{F:World->Prop}{Q:Exit->Act->World->Prop}{ops:Array Oper}{rest:List Oper}
def Bv5(cx:Cx)(L:Loc)(F:World->Prop)(t:TypeId)(p:Addr)(v:Value):Prop:=∀w,StOk cx L F w->(loadVar t p).run cx.P w = .ok v w
theorem Ayl{P:Program}{p:Addr}{v:Value}{w:World}(h:w.cell? p=some v):(load p).run P w = .ok v w:=by simp[ h]
theorem Kb{P:Program}{w:World}{b off:Nat}:∀(vs:List Value) (i:Nat) (acc:Array Value),(∀j v,vs[j]? = some v->w.cell? ⟨b,off+(i+j),none⟩=some v) ->
  (loadCellsFrom ⟨b,off,none⟩ i vs.length acc).run P w = .ok (acc++vs.toArray) w
 |[],i,acc,_=>by simp[loadCellsFrom]
 |v::vs,i,acc,h=>by
  have h0:w.cell? ((⟨b,off,none⟩:Addr).add i)=some v:=by rw[show(⟨b,off,none⟩:Addr).add i=⟨b,off+i,none⟩ by unfold Addr.add;split<;>simp_all];simpa using h 0 v (by simp)
  have hr:=Kb (P:=P) vs (i+1) (acc.push v) (λj u hj=>by have:=h (j+1) u (by simpa using hj);rwa[show i+(j+1)=i+1+j by omega] at this)
  simp only[Zf1,loadCellsFrom,Sem.run_bind,Ayl h0,Result.andThen_ok,hr];simp
theorem run_loadVar1{P:Program}{t:TypeId}{p:Addr}{v:Value}{w:World}(ht:(tySome P t&&(tyAgg P t == false))=true)(h:w.cell? p=some v):(loadVar t p).run P w = .ok v w:=by simp only[loadVar,Sem.run_bind,run_isAgg ht,Result.andThen_ok,Zj2,if_false,Ayl h]
theorem run_loadVarn{P:Program}{t:TypeId}{b off:Nat}{vs:List Value}{w:World}(ht:(tySome P t&&(tyAgg P t == true))=true)(hz:tySz P t=some vs.length)(h:∀j v,vs[j]? = some v->w.cell? ⟨b,off+j,none⟩=some v):(loadVar t ⟨b,off,none⟩).run P w = .ok (.agg vs.toArray) w:=by have hr:=Kb (P:=P) (w:=w) (b:=b) (off:=off) vs 0 #[] (λj v hj=>by simpa using h j v hj);simp only[loadVar,Sem.run_bind,run_isAgg ht,Result.andThen_ok,if_true,run_sizeOf hz,loadCells,hr];simp
theorem Ahe{w:World}{b:Nat}{cs:List Value}{t:TypeId}(h:(Ent.blk b cs t).ok w){off:Nat}{v:Value}(hv:cs[off]? = some v):w.cell? ⟨b,off,none⟩=some v:=by have hh:w.heap[b]? = some (.cells cs.toArray t (0,0)):=h;simp[World.cell?,hh];simpa using hv
theorem Bkw{t:TypeId}{b off:Nat}{vs:List Value}(ht:(tySome cx.P t&&(tyAgg cx.P t == true))=true)(hz:tySz cx.P t=some vs.length)(h:∀w,F w->∀j v,vs[j]? = some v->w.cell? ⟨b,off+j,none⟩=some v):Bv5 cx L F t ⟨b,off,none⟩ (.agg vs.toArray):=λw hs=>run_loadVarn ht hz (h w hs.here)
theorem StOk.alloc{w:World}(h:StOk cx L F w)(cs:List Value)(t:TypeId):StOk cx (.blk w.heap.size cs t::L) F (w.alloc (.cells cs.toArray t)):=by
 have hc:Chg [] w (w.alloc (.cells cs.toArray t)):=Chg.alloc _ _ _;refine⟨h.chg.trans (hc.mono (by simp)),?_,?_,?_,h.away,?_⟩
 ·intro x hx;simp at hx;rcases hx with rfl|hx
  ·show(w.heap.push _)[w.heap.size]? = _;simp
  ·exact Ent.ok_chg (h.ok x hx) hc (by simp)
 ·rw[Ha];refine List.nodup_append.2 ⟨by simp[Ent.fp],h.nodup,λa ha b hb hab =>?_⟩;simp[Ent.fp] at ha;have:=h.lt b hb;omega
 ·intro b hb;rw[Ha] at hb;simp[Ent.fp] at hb;rcases hb with rfl|hb
  ·right;exact h.chg.size
  ·exact h.own b hb
 ·refine h.rob.fresh (hc.mono (by simp)) λb hb hn =>?_;rw[Ha] at hb;simp[Ent.fp] at hb hn;rcases hb with hb|rfl|hb
  ·exact absurd hb hn.1
  ·exact Zn1 _
  ·exact absurd hb hn.2
def fldOff(P:Program)(s:TypeId)(f:Nat):Option Nat:=match P.underlying s with
 |some (.struct fs)=>match fs[f]? with
  |some fd=>match tySz P fd.type with|some sz=>if sz=0 then none else some fd.offset|none=>none
  |none=>none
 |_=>none
theorem add_mk(b off n:Nat):(⟨b,off,none⟩:Addr).add n=⟨b,off+n,none⟩:=by unfold Addr.add;split<;>simp_all
theorem p_fa{P:Program}{s:TypeId}{x:Operand}{f b off fo:Nat}(hf:(fldOff P s f == some fo)=true)(hx:Env.ev e x=some (.pointer (some ⟨b,off,none⟩))):Pure P e (.fieldAddr s x f) (.pointer (some ⟨b,off+fo,none⟩)):=λn a w o he ho=>by
 have hf':fldOff P s f=some fo:=by simpa using hf
 unfold fldOff at hf';split at hf'
 ·rename_i fs hu;split at hf'
  ·rename_i fd hfd;split at hf'
   ·rename_i sz hne;split at hf'
    ·cases hf'
    rename_i hnz;simp at hf';simp[execOp,ho,Instr.fieldAt,he.ev hx,run_underlying hu,hfd,Instr.sureAddr,fieldPlace,run_sizeOf hne,if_neg hnz,add_mk]
   ·cases hf'
  ·cases hf'
 ·cases hf'
theorem Bwt{P:Program}{x:Operand}{p:Addr}(hx:Env.ev e x=some (.pointer (some p))):Pure P e (.nilCheck x) (.pointer (some p)):=λn a w o he ho=>by simp[execOp,ho,he.ev hx]
def elSz(P:Program)(t:TypeId):Option Nat:=match P.underlying t with|some (.slice u)=>tySz P u|_=>none
theorem L3{P:Program}{t:TypeId}{n:Nat}(h:elSz P t=some n):∃u,P.underlying t=some (.slice u)/\tySz P u=some n:=by
 unfold elSz at h;split at h
 ·grind
 ·cases h
theorem p_ia{P:Program}{t:TypeId}{x y:Operand}{b off l c sz:Nat}{ik:IntKind}{i:Int}(hz:(elSz P t == some sz)=true)(hx:Env.ev e x=some (.slice (some ⟨b,off,none⟩) l c))(hy:Env.ev e y=some (.int ik i))(h : 0<=i/\i<l) :
  Pure P e (.indexAddr t x y) (.pointer (some ⟨b,off+i.toNat*sz,none⟩)):=λn a w o he ho=>by
 obtain⟨u,hu,hsz⟩:=L3 (by simpa using hz);simp[execOp,ho,Instr.indexAt,he.ev hx,he.ev hy,asIntOf,run_underlying hu,Sem.run_bind,Sem.run_pure,Result.andThen_ok,if_pos h,run_sizeOf hsz,add_mk]
theorem StOk.upd{x x':Ent}{Lf:Loc}{w w':World}(h:StOk cx (x::Lf) F w)(hc:Chg x.fp w w')(hok:x'.ok w')(hnd:x'.fp.Nodup)(hfp:∀b,b∈x'.fp->b∈x.fp\/w.heap.size<=b):StOk cx (x'::Lf) F w':=by
 have hcal:=StOk.callee (Lin:=[x]) (Lf:=Lf) h (Pre:=λ_=>True) (λ_ _=>trivial);have e1:fps [x]=x.fp:=by simp[fps]
 have e2:fps [x']=x'.fp:=by simp[fps]
 have h':StOk ⟨cx.P,0,w,fps [x],cx.M++fps Lf⟩ [x'] (λ_=>True) w' :=⟨by rw[e1];exact hc,by simpa using hok,by rw[e2];exact hnd,by rw[e2,e1];exact hfp,hcal.away,λ_ _=>trivial⟩
 exact(StOk.called (Lin:=[x]) (L':=[x']) h rfl h').fact λ_ hw=>hw.1
theorem Aoh:∀{L:Loc}{i:Nat}{x:Ent}(x':Ent),L[i]? = some x->∃A B,L=A++x::B/\L.set i x' = A++x'::B
 |[],_,_,_,h=>by simp at h
 |y::L,0,x,x',h=>by simp at h;subst h;exact⟨[],L,rfl,rfl⟩
 |y::L,i+1,x,x',h=>by obtain⟨A,B,h1,h2⟩:=Aoh (L:=L) (i:=i) x' (by simpa using h);exact⟨y::A,B,by rw[h1];rfl,by simp[h2]⟩
theorem StOk.updAt{x x':Ent}{w w':World}(h:StOk cx L F w)(i:Nat)(hi:L[i]? = some x)(hc:Chg x.fp w w')(hok:x'.ok w')(hnd:x'.fp.Nodup)(hfp:∀b,b∈x'.fp->b∈x.fp\/w.heap.size<=b):StOk cx (L.set i x') F w':=by
 obtain⟨A,B,h1,h2⟩:=Aoh x' hi;have p1:L.Perm (x::(A++B)):=by rw[h1];exact List.perm_middle
 have p2:(x'::(A++B)).Perm (L.set i x'):=by rw[h2];exact List.perm_middle.symm
 exact((h.perm p1).upd hc hok hnd hfp).perm p2
def one:Value->Bool
 |.agg _=>false
 |.tuple _=>false
 |_=>true
theorem one_cells{v:Value}(h:one v=true):v.cells = #[v]:=by cases v<;>first|rfl|cases h
theorem Bbr{P:Program}{w:World}{p:Addr}{v u:Value}(hv:one v=true)(hc:w.cell? p=some u)(hf:w.frozen? p=false):(store p v).run P w = .ok () (w.setCell p v):=by cases v<;>first|(cases hv;done)|simp[store,Sem.run,hc,hf]
def writeAt(cs:List Value)(off:Nat):List Value->List Value
 |[]=>cs
 |v::vs=>writeAt (cs.set off v) (off+1) vs
theorem writeAt_length:∀(vs:List Value) (cs:List Value) (off:Nat),(writeAt cs off vs).length=cs.length
 |[],_,_=>rfl
 |v::vs,cs,off=>by simp[writeAt,writeAt_length vs]
def setCells(w:World)(b off:Nat):List Value->World
 |[]=>w
 |v::vs=>setCells (w.setCell ⟨b,off,none⟩ v) b (off+1) vs
theorem setCell_heap{w:World}{b off:Nat}{cs:List Value}{t:TypeId}{fz:Nat×Nat}{v:Value}(h:w.heap[b]? = some (.cells cs.toArray t fz)):(w.setCell ⟨b,off,none⟩ v).heap[b]? = some (.cells (cs.set off v).toArray t fz):=by simp[World.setCell,Array.getElem?_modify,h]
theorem run_storeCells{P:Program}:∀(vs:List Value) (w:World) (b off i:Nat) (cs:List Value) (t:TypeId),w.heap[b]? = some (.cells cs.toArray t (0,0))->off+i+vs.length<=cs.length->(∀v,v∈vs->one v=true) ->
  (storeCells ⟨b,off,none⟩ vs i).run P w = .ok () (setCells w b (off+i) vs)/\(setCells w b (off+i) vs).heap[b]? = some (.cells (writeAt cs (off+i) vs).toArray t (0,0))/\Chg [b] w (setCells w b (off+i) vs)
 |[],w,b,off,i,cs,t,h,_,_=>by simp[storeCells,setCells,writeAt,h,Chg.refl]
 |v::vs,w,b,off,i,cs,t,h,hl,h1=>by
  simp at hl;have hc:w.cell? ⟨b,off+i,none⟩=some (cs[off+i]'(by omega)):=by simp only[World.cell?,h];simp
  have hf:w.frozen? ⟨b,off+i,none⟩=false:=by simp[World.frozen?,h]
  have hr:=Bbr (P:=P) (h1 v (by simp)) hc hf;obtain⟨r1,r2,r3⟩:=run_storeCells vs (w.setCell ⟨b,off+i,none⟩ v) b off (i+1) (cs.set (off+i) v) t (setCell_heap h) (by simp;omega) (λu hu=>h1 u (by simp[hu]));refine⟨?_,?_,?_⟩
  ·simp[storeCells,Sem.run_bind,add_mk,hr];rw[r1];rfl
  ·exact r2
  ·exact(Chg.setCell w (by simp) v).trans r3
section
variable {P:Program}{n:Nat}{w0:World}{I M:List Nat}{fn:Func}{Post:Value->Loc->(World->Prop)->Prop}{a1 t2 t3:Nat}{ty:TypeId}{p:Addr}{v1 v2 v3:Value}
end
end
section
variable {cx:Cx}{k:List KI}{e:Env}{L:Loc}{F:World->Prop}{Q:Exit->Act->World->Prop}{ops:Array Oper}{rest:List Oper}
def RdS(v:Value)(sz n:Nat)(xs:List Value)(w:World):Prop :=xs.length=n*sz/\∃a c,v = .slice a n c/\(n=0\/∃b off,a=some ⟨b,off,none⟩/\n<=c/\∀j u,xs[j]? = some u->w.cell? ⟨b,off+j,none⟩=some u)
structure ElTy (P:Program) (t u:TypeId) (sz by_:Nat):Prop where
 und:P.underlying t=some (.slice u)
 ex:∃i z,P.info? u=some i/\i.zero=some z/\i.size=sz/\i.bytes=by_/\z.cells.size=sz/\0<sz
def elTyB(P:Program)(t u:TypeId)(sz by_:Nat):Bool:=match P.underlying t with
 |some (.slice u')=>u' == u&&(match P.info? u with
  |some i=>(match i.zero with
   |some z=>i.size == sz&&i.bytes == by_&&z.cells.size == sz&&decide (0<sz)
   |none=>false)
  |none=>false)
 |_=>false
theorem elTy_of{P:Program}{t u:TypeId}{sz by_:Nat}(h:elTyB P t u sz by_=true):ElTy P t u sz by_:=by
 unfold elTyB at h;split at h
 ·rename_i u' hu;simp[ beq_iff_eq] at h;obtain⟨rfl,h⟩:=h;split at h
  ·rename_i i hi;split at h
   ·rename_i z hz;simp[ beq_iff_eq] at h;exact⟨hu,i,z,hi,hz,h.1.1.1,h.1.1.2,h.1.2,h.2⟩
   ·cases h
  ·cases h
 ·cases h
theorem StOk.newRow{w:World}(h:StOk cx L F w)(t:TypeId)(sz:Nat):StOk cx (.row (.slice none 0 0) t sz 0 []::L) F w:=by
 refine⟨h.chg,?_,?_,?_,h.away,?_⟩
 ·intro x hx;simp at hx;rcases hx with rfl|hx
  ·exact World.ownsRow_nil w 0 t sz
  ·exact h.ok x hx
 ·rw[Ha];simpa[Ent.fp] using h.nodup
 ·rw[Ha];simpa[Ent.fp] using h.own
 ·refine h.rob.mono ?_;intro x hx;rw[Ha] at hx;simpa[Ent.fp] using hx
def Bsd(cx:Cx)(L:Loc)(F:World->Prop)(v:Value)(sz n:Nat)(xs:List Value):Prop:=∀w,StOk cx L F w->RdS v sz n xs w
theorem Jo{v:Value}{n sz:Nat}{xs:List Value}(h:∀w,F w->RdS v sz n xs w):Bsd cx L F v sz n xs:=λw hs=>h w hs.here
theorem one_oneCell{v:Value}(h:one v=true):v.oneCell' = true:=by cases v<;>first|rfl|cases h
theorem Jn{dst:Nat}{s x:Operand}{t u ty:TypeId}{pos:String}{after:Array Edge}{g:Option (Nat×Bool)}{v sv:Value}{sz by_ n m:Nat}{xs ys:List Value}(i:Nat)(hg:Gd ops e g=some true)(hd:Nat.blt dst cx.n=true)(hT:ElTy cx.P t u sz by_)
  (hs:Env.ev e s=some v) (hx:Env.ev e x=some sv) (hi:L[i]? = some (.row v u sz n xs)) (hsrc:Bsd cx L F sv sz m ys) (h1':ys.all one=true) (hroom:(n+m)*by_<=140737488355328) (hlen:n+m<=9223372036854775807)
  (h:∀v',O cx ops rest k ((dst,v')::e) (L.set i (.row v' u sz (n+m) (xs++ys))) F Q) :
  O cx ops (⟨some dst,.call ⟨.builtin .append, #[s,x], #[t,t]⟩,ty,pos,after,g⟩::rest) k e L F Q:=by
 refine Vb (λr L' F'=>∃v',r=v'/\L' = L.set i (.row v' u sz (n+m) (xs++ys))/\F' = F) hg hd (λa w he hst =>?_) (λr L' F' ⟨v',hr,hL,hF⟩=>by rw[hr,hL,hF];exact h v');have hown:w.ownsRow 0 u sz v n xs:=hst.ok _ (List.mem_of_getElem? hi);have h1:∀y,y∈ys->one y=true:=Zg2.1 h1';obtain⟨hyl,ad,c,rfl,hread⟩:=hsrc w hst;obtain⟨hu,i0,z,hi0,hz,hsz,hby,hzs,hpos⟩:=hT;have hexec:∀(r:Value) (w':World),(Builtin.append_ #[t,t] ty #[v,.slice ad m c]).run cx.P w = .ok r w'->(execOp a.eval ⟨some dst,.call ⟨.builtin .append, #[s,x], #[t,t]⟩,ty,pos,after,g⟩).run cx.P w = .ok (.value r) w':=by intro r w' hr;simp[execOp,resolve,invoke,builtin,Sem.run_bind,Sem.run_pure,Zw1,List.map_nil,he.ev hs,he.ev hx,hr]
 have hfin:∀(v':Value) (w':World),w'.ownsRow 0 u sz v' (n+m) (xs++ys)->w.grownBy w' v.ownBlock->(∀g,v'.ownBlock=some g->v.ownBlock=some g\/w.heap.size<=g)->StOk cx (L.set i (.row v' u sz (n+m) (xs++ys))) F w':=by
  intro v' w' ho hgr hfp;have hvb:∀(r:Value) (q:Nat),q∈(Ent.row r u sz n xs).fp↔r.ownBlock=some q:=by intro r q;cases r with|slice a l c=>cases a<;>simp[Ent.fp,Value.ownBlock,eq_comm]|_=>simp[Ent.fp,Value.ownBlock]
  have hvb':∀(r:Value) (q:Nat),q∈(Ent.row r u sz (n+m) (xs++ys)).fp↔r.ownBlock=some q:=by intro r q;cases r with|slice a l c=>cases a<;>simp[Ent.fp,Value.ownBlock,eq_comm]|_=>simp[Ent.fp,Value.ownBlock]
  refine hst.updAt i hi (Chg.grown hgr λq hq=>(hvb v q).2 hq) ho ?_ λq hq =>?_
  ·cases v' with|slice a l c=>cases a<;>simp[Ent.fp]|_=>simp[Ent.fp]
  ·rcases hfp q ((hvb' v' q).1 hq) with h'|h'
   ·exact .inl ((hvb v q).2 h')
   ·exact .inr h'
 rcases hread with rfl|⟨b,off,rfl,_,hcells⟩
 ·have hy0:ys=[]:=List.eq_nil_of_length_eq_zero (by simpa using hyl);subst hy0;have hr:(Builtin.append_ #[t,t] ty #[v,.slice ad 0 c]).run cx.P w = .ok v w:=by
   rcases hown.2 with ⟨rfl,rfl⟩|⟨q,cap,cur,rfl,_,hq,hnc,_⟩
   ·cases ad<;>simp[ run_underlying hu,go_sem,sizeOf,typeInfo,hi0,Builtin.lenOf,loadCells,loadCellsFrom]
   ·cases ad<;>simp[ run_underlying hu,go_sem,sizeOf,typeInfo,hi0,Builtin.lenOf,loadCells,loadCellsFrom,hnc,storeCells]
  refine⟨v,w,_,F,hexec v w hr,hfin v w (by simpa using hown) ⟨rfl,rfl,rfl,Zn1 _,λ_ _ _=>rfl⟩ (λg hg =>.inl hg),v,rfl,rfl,rfl⟩
 ·have hnews:∀j u',ys[j]? = some u'->w.cell? ((⟨b,off,none⟩:Addr).add j)=some u':=λj u' hj=>by rw[add_mk];exact hcells j u' hj
  obtain⟨v',w',hr,ho,hgr,_⟩:=run_append_own (P:=cx.P) w 0 t ty u i0 z sz by_ hu hi0 hz hsz hby hzs hpos v n xs hown ⟨b,off,none⟩ m c ys hyl hnews (λy hy=>one_oneCell (h1 y hy)) (by simp[maxLen];omega) hroom (Nat.zero_le _);refine⟨v',w',_,F,hexec v' w' hr,hfin v' w' ho hgr ?_,v',rfl,rfl,rfl⟩;intro g hg;subst hsz;subst hby;rcases hown.2 with ⟨rfl,rfl⟩|⟨q,cap,cur,rfl,_,hq,hnc,_,hcs,_⟩
  ·by_cases hm:m=0
   ·subst hm
    grind
   ·have h3:=run_append_nil (P:=cx.P) w t ty u i0 z hu hi0 hz ⟨b,off,none⟩ m c ys hyl hnews (by omega) (by omega) (by simp[Nat.zero_add] at hroom;omega);have:=hr.symm.trans h3;simp at this;obtain⟨rfl,_⟩:=this;simp[Value.ownBlock] at hg;exact .inr (by omega)
  ·by_cases hroom2:n+m<=cap
   ·have hfit:n*i0.size+ys.length<=cur.size:=by rw[hyl,hcs,<-Nat.add_mul];exact Nat.mul_le_mul_right _ hroom2
    have h3:=run_append_room (P:=cx.P) w t ty u i0 hu hi0 q n cap cur hq ⟨b,off,none⟩ m c ys hyl hnews (λy hy=>one_oneCell (h1 y hy)) hroom2 hfit;have:=hr.symm.trans h3;simp at this;obtain⟨rfl,_⟩:=this;exact .inl hg
   ·have holds:∀j u',xs[j]? = some u'->w.cell? ((⟨q,0,none⟩:Addr).add j)=some u':=hown.cells (g:=q) rfl;have h3:=run_append_grow (P:=cx.P) w t ty u i0 z hu hi0 hz ⟨q,0,none⟩ n cap xs hown.1 holds ⟨b,off,none⟩ m c ys hyl hnews (by omega) (by omega) (growslice_fits (by omega) hroom);have:=hr.symm.trans h3;simp at this;obtain⟨rfl,_⟩:=this;simp[Value.ownBlock] at hg;exact .inr (by omega)
end
section
variable {cx:Cx}{k:List KI}{e:Env}{L:Loc}{F:World->Prop}{Q:Exit->Act->World->Prop}{ops:Array Oper}{rest:List Oper}
theorem A3y(l:List UInt8)(a b:Nat):(ByteArray.mk l.toArray).extract a b=⟨((l.drop a).take (b-a)).toArray⟩:=by apply ByteArray.ext;simp[ List.take_drop]
theorem O3{P:Program}{t:TypeId}{l:List UInt8}(ht:tyS P t=true)(lo hi:Option Value)(a b:Nat)(w:World)(h:(Instr.sliceBounds false l.length l.length lo hi none).run P w = .ok (a,b,l.length) w) :
  (Instr.sliceAt t (S l) lo hi none).run P w = .ok (S ((l.drop a).take (b-a))) w:=by
 simp[Instr.sliceAt,Instr.slice,run_underlying (tyS_spec ht),A6g,h,A3y]
theorem p_cut{P:Program}{t:TypeId}{x y z:Operand}{l:List UInt8}{ik jk:IntKind}{i j:Int}(ht:tyS P t=true)(hx:Env.ev e x=some (S l))(hy:Env.ev e y=some (.int ik i))(hz:Env.ev e z=some (.int jk j))(h : 0<=i/\i<=j/\j<=l.length) :
  Pure P e (.slice t x (some y) (some z) none) (S (cut l i j)):=λn a w o he ho=>by
 have hb:(Instr.sliceBounds false l.length l.length (some (.int ik i)) (some (.int jk j)) none).run P w = .ok (i.toNat,j.toNat,l.length) w:=by
  have h1 : 0<=j/\j<=(l.length:Int):=by omega
  have h2 : 0<=i/\i<=(j.toNat:Int):=by omega
  simp only[Instr.sliceBounds,Instr.sliceBound,asIntOf,Sem.run_bind,Sem.run_pure,Result.andThen_ok,if_pos h1,if_pos h2]
 simp[execOp,ho,he.ev hx,he.ev hy,he.ev hz,(O3 ht _ _ _ _ w hb),cut]
theorem p_cutlo{P:Program}{t:TypeId}{x y:Operand}{l:List UInt8}{ik:IntKind}{i:Int}(ht:tyS P t=true)(hx:Env.ev e x=some (S l))(hy:Env.ev e y=some (.int ik i))(h : 0<=i/\i<=l.length) :
  Pure P e (.slice t x (some y) none none) (S (l.drop i.toNat)):=λn a w o he ho=>by
 have hb:(Instr.sliceBounds false l.length l.length (some (.int ik i)) none none).run P w = .ok (i.toNat,l.length,l.length) w:=by simp[Instr.sliceBounds,Instr.sliceBound,asIntOf,if_pos h]
 have e1:(l.drop i.toNat).take (l.length-i.toNat)=l.drop i.toNat:=List.take_of_length_le (by simp);simp[execOp,ho,he.ev hx,he.ev hy,(O3 ht _ _ _ _ w hb),e1]
theorem p_cuthi{P:Program}{t:TypeId}{x z:Operand}{l:List UInt8}{jk:IntKind}{j:Int}(ht:tyS P t=true)(hx:Env.ev e x=some (S l))(hz:Env.ev e z=some (.int jk j))(h : 0<=j/\j<=l.length) :
  Pure P e (.slice t x none (some z) none) (S (l.take j.toNat)):=λn a w o he ho=>by
 have hb:(Instr.sliceBounds false l.length l.length none (some (.int jk j)) none).run P w = .ok (0,j.toNat,l.length) w:=by simp[Instr.sliceBounds,Instr.sliceBound,asIntOf,if_pos h]
 simp[execOp,ho,he.ev hx,he.ev hz,(O3 ht _ _ _ _ w hb),Nat.sub_zero]
theorem p_slicex{P:Program}{t:TypeId}{x:Operand}{v u:Value}(hx:Env.ev e x=some v)(hr:∀w,(Instr.sliceAt t v none none none).run P w = .ok u w):Pure P e (.slice t x none none none) u:=λn a w o he ho=>by simp[execOp,ho,he.ev hx,hr w,Sem.run_pure]
def Env.evps(e:Env):List (Nat×Operand)->Option (List (Nat×Value))
 |[]=>some []
 |(i,x)::xs=>match Env.ev e x with
  |none=>none
  |some v=>match Env.evps e xs with|none=>none|some vs=>some ((i,v)::vs)
theorem EnvOk.evps{n:Nat}{a:Act}(h:EnvOk n e a):∀{xs:List (Nat×Operand)}{vs:List (Nat×Value)},Env.evps e xs=some vs->xs.map (λp=>(p.1,a.eval p.2))=vs
 |[],vs,hx=>by simp[Env.evps] at hx;simp[hx]
 |(i,x)::xs,vs,hx=>by
  simp only[Env.evps] at hx;cases hv:Env.ev e x with
  |none=>simp[hv] at hx
  |some v =>rw[hv] at hx;cases hr:Env.evps e xs with|none=>simp[hr] at hx|some r =>simp[hr] at hx;subst hx;simp[h.ev hv,EnvOk.evps h hr]
theorem Aob:∀(us:List Value) (pre mid post:List Value),us.length<=post.length ->
  (us.zipIdx mid.length).foldl (λ(cs:Array Value) (x:Value×Nat)=>cs.setIfInBounds (pre.length+x.2) x.1) (pre++mid++post).toArray=(pre++mid++us++post.drop us.length).toArray
 |[],pre,mid,post,_=>by simp
 |u::us,pre,mid,[],h=>by simp at h
 |u::us,pre,mid,p::post,h=>by
  have e1:(pre++mid++p::post).toArray.setIfInBounds (pre.length+mid.length) u=(pre++(mid++[u])++post).toArray:=by grind
  have ih:=Aob us pre (mid++[u]) post (by simpa using h)
  grind
theorem fill_all(sz:Nat):∀(vs:List Value) (st:Nat) (pre post:List Value),(∀v,v∈vs->v.cells.size=sz)->pre.length=st*sz->vs.length*sz<=post.length ->
  Instr.fill (λi=>some (i*sz,sz)) (pre++post).toArray ((List.range' st vs.length).zip vs)=some (pre++vs.flatMap (λv=>v.cells.toList)++post.drop (vs.length*sz)).toArray
 |[],st,pre,post,_,_,_=>by simp[Instr.fill]
 |v::vs,st,pre,post,h1,h2,h3=>by
  have hv:=h1 v (by simp);simp at h3;have h3':sz+vs.length*sz<=post.length:=by rw[Nat.add_mul] at h3;omega
  have hw:=Aob v.cells.toList pre [] post (by simp;omega);have hne:¬((v.cells.size≠sz||decide (st*sz+v.cells.size > (pre++post).toArray.size))=true):=by simp;omega
  have ih:=fill_all sz vs (st+1) (pre++v.cells.toList) (post.drop sz) (λu hu=>h1 u (by simp[hu])) (by simp[hv,h2,Nat.add_mul]) (by simp;omega);simp only[Zf1,List.range'_succ,List.zip_cons_cons,Instr.fill];rw[if_neg hne];have e2:(v.cells.zipIdx.foldl (λ(cs:Array Value) (x:Value×Nat)=>cs.setIfInBounds (st*sz+x.2) x.1) (pre++post).toArray)=(pre++v.cells.toList++post.drop sz).toArray:=by rw[<-Array.foldl_toList,Array.toList_zipIdx,<-h2];simpa[hv] using hw
  rw[e2,ih];simp[ Nat.add_mul,Nat.add_comm]
theorem F7{dst len:Nat}{parts:List (Nat×Operand)}{t u ty:TypeId}{pos:String}{after:Array Edge}{g:Option (Nat×Bool)}{vs:List Value}{sz by_:Nat}(hg:Gd ops e g=some true)(hd:Nat.blt dst cx.n=true)(hT:ElTy cx.P t u sz by_)
  (hp:parts.map (·.1)=List.range' 0 len) (hx:Env.evs e (parts.map (·.2))=some vs) (hsz:vs.all (λv=>v.cells.size == sz)=true) (hm:Nat.ble (len*sz) 16777216=true)
  (h:∀b,O cx ops rest k ((dst,.slice (some ⟨b,0,none⟩) len len)::e) (.blk b (vs.flatMap λv=>v.cells.toList) u::L) F Q) :
  O cx ops (⟨some dst,.buildSlice t len parts.toArray,ty,pos,after,g⟩::rest) k e L F Q:=by
 refine Vb (λr L' F'=>∃b,r = .slice (some ⟨b,0,none⟩) len len/\L' = .blk b (vs.flatMap λv=>v.cells.toList) u::L/\F' = F) hg hd (λa w he hs=>⟨_,_,_,_,?_,hs.alloc _ u,w.heap.size,rfl,rfl,rfl⟩) (λr L' F' ⟨b,hr,hL,hF⟩=>by rw[hr,hL,hF];exact h b);obtain⟨hu,i0,z,hi0,hz,hsize,hby,hzs,hpos⟩:=hT;have hev:=he.evs hx;have hlen:parts.length=len:=by have:=congrArg List.length hp;simpa using this
 have hvl:vs.length=len:=by rw[<-hev];simpa using hlen
 have hpv:parts.map (λp=>(p.1,a.eval p.2))=(List.range' 0 vs.length).zip vs:=by grind
 have hall:∀v,v∈vs->v.cells.size=sz:=by simpa using hsz
 have hm':¬(len*sz > 2 ^ 24):=by simp_all
 have hzero:(((Array.range (len*sz)).map λi=>z.cells[i % z.cells.size]!)).toList.length=len*sz:=by simp
 have hfill:=fill_all sz vs 0 [] (((Array.range (len*sz)).map λi=>z.cells[i % z.cells.size]!)).toList hall (by simp) (by rw[hzero,hvl];exact Zn1 _);have hdrop:(((Array.range (len*sz)).map λi=>z.cells[i % z.cells.size]!)).toList.drop (vs.length*sz)=[]:=Zk1 (by rw[hzero,hvl];exact Zn1 _);rw[hdrop] at hfill;simp only[Zf2,List.append_nil] at hfill;have hzv:(zeroValue u).run cx.P w = .ok z w:=by simp[zeroValue,typeInfo,hi0,hz]
 have hszr:(sizeOf u).run cx.P w = .ok sz w:=by simp[sizeOf,typeInfo,hi0,hsize]
 have hpl:parts.toArray.map (λp=>(p.1,a.eval p.2))=((List.range' 0 vs.length).zip vs).toArray:=by rw[List.map_toArray,hpv]
 by_cases h0:len*sz=0
 ·have hv0:vs=[]:=by
   apply List.eq_nil_of_length_eq_zero;rw[hvl];rcases Nat.mul_eq_zero.1 h0 with h|h
   ·exact h
   ·omega
  subst hv0;simp only[execOp,Instr.buildSlice,Sem.run_bind,run_underlying hu,Result.andThen_ok,hszr,h0,if_true];have hpl':parts.toArray.map (λp=>(p.1,a.eval p.2)) = #[]:=by rw[hpl];rfl
  have:(parts.toArray.map λx=>match x with|(i,x)=>(i,a.eval x)) = #[]:=hpl';have hr0:∀f:Nat->Value,(Array.range 0).map f = #[]:=λf=>by simp
  simp[this,Instr.fill,newRow,Sem.run,hr0]
 ·have:(parts.toArray.map λx=>match x with|(i,x)=>(i,a.eval x))=((List.range' 0 vs.length).zip vs).toArray:=hpl;simp[execOp,Instr.buildSlice,run_underlying hu,hszr,if_neg hm',if_neg h0,hzv,this,hfill,newRow,Sem.run]
end
def J7(Q:Exit->Act->World->Prop):Prop:=∀ch a w,¬Q (.panic ch) a w
theorem Iw{P P':Program}{fn:Func}{w:World}{I M:List Nat}{Post:Value->Loc->(World->Prop)->Prop}:J7 (bodyPost P fn (Apm P' w I M Post)):=by rintro ch a w' ⟨_,v,L',F',h,_⟩;cases h
theorem D7{P:Program}{Q:Exit->Act->World->Prop}(h:J7 Q):∀k,J7 (D2 P Q k)
 |[]=>h
 |.seq _::k=>λch a w hq=>D7 h k ch a w hq
 |.blk _::k=>λch a w hq=>D7 h k ch a w hq
 |.loop _::k=>λch a w hq=>D7 h k ch a w hq
 |.drawn _ _ _::k=>λch a w hq=>D7 h k ch a w hq
 |.scope::k=>λch a w hq=>D7 h k ch a w hq
def YP(P:Program)(ops:Array Oper)(oi:Oper)(v:Value)(a:Act):Prop :=(Region.wanted oi (yielded ops a.tmps)=true/\∀w,(execOp a.eval oi).run P w = .ok (.value v) w)\/(Region.wanted oi (yielded ops a.tmps)=false/\v=undef)
section
variable {P:Program}{ops:Array Oper}{md:Region.Mode}{Q:Exit->Act->World->Prop}
theorem YP.keep{oi oj:Oper}{v:Value}(hsi:∀cs b,oi.op ≠ .select cs b)(h3:∀d,oj.dst=some d->d∉oi.looksAt ops){a:Act}(h:YP P ops oi v a)(u:Value):YP P ops oi v (a.put oj.dst u):=by unfold YP at *;rw[execOp_put oi hsi a oj.dst u h3,wanted_put oi a oj.dst u h3];exact h
theorem YP.wpOp{i:Nat}{oi:Oper}{v:Value}{a:Act}{w:World}{K:Act->World->Prop}(hi:ops[i]? = some oi)(hy:YP P ops oi v a)(h:K (a.put oi.dst v) w):wpOp P ops Q i K a w:=by
 unfold Go.wpOp;simp[hi];rcases hy with ⟨hw,hr⟩|⟨hw,rfl⟩
 ·simp[hw];left;unfold Oper.wp;rw[hr];exact h
 ·grind
theorem Bfg{j:Nat}{oi oj:Oper}{v:Value}(hQ:J7 Q)(hj:ops[j]? = some oj)(hap:oi.apart ops oj=true)(hsi:∀cs b,oi.op ≠ .select cs b)(hsj:∀cs b,oj.op ≠ .select cs b){K:Act->World->Prop}{a:Act}{w:World}
  (hy:YP P ops oi v a) (h:wpOp P ops Q j K (a.put oi.dst v) w):wpOp P ops Q j (λa' w'=>YP P ops oi v a'/\K (a'.put oi.dst v) w') a w:=by
 obtain⟨h1,h2,h3⟩:=Oper.apart_spec hap;have comm:∀u,(a.put oi.dst v).put oj.dst u=(a.put oj.dst u).put oi.dst v:=λu=>Act.put_comm a v u h2;unfold wpOp at *;simp only[hj] at *;rw[wanted_put oj a oi.dst v h1] at h;split
 ·rename_i hw;simp[hw] at h;rcases h with h|⟨⟨hm,hk⟩,hl⟩
  ·left;unfold Oper.wp at *;rw[execOp_put oj hsj a oi.dst v h1] at h;generalize (execOp a.eval oj).run P w=r at *;cases r with
   |ok n w' =>
    cases n<;>simp[Oper.upon] at h ⊢
    case value u=>exact⟨hy.keep hsi h3 u,by rw[<-comm];exact h⟩
    case skip=>exact⟨hy.keep hsi h3 undef,by rw[<-comm];exact h⟩
    case defer d =>
     have hk:YP P ops oi v ({ a with defers:=d::a.defers }:Act):=hy;refine⟨hk.keep hsi h3 undef,?_⟩;rw[<-Act.put_comm _ v undef h2];have e1:({ a.put oi.dst v with defers:=d::(a.put oi.dst v).defers }:Act)=({ a with defers:=d::a.defers }:Act).put oi.dst v:=by cases oi.dst<;>rfl
     rw[<-e1];exact h
    case enter f args =>refine Calls.mono h λen w'' hen =>?_;cases en with|returned u=>exact⟨hy.keep hsi h3 u,by rw[<-comm];exact hen⟩|panicked ch=>exact absurd hen (hQ _ _ _)|outgrown=>exact hen
    case row s args=>exact Rows.mono h λu w'' hu=>⟨hy.keep hsi h3 u,by rw[<-comm];exact hu⟩
   |halt x w' =>
    cases x<;>simp[Oper.upon] at h ⊢
    case panic u=>exact absurd h (hQ _ _ _)
  ·right;rw[execOp_put oj hsj a oi.dst v h1] at hm hk;exact⟨⟨hm,hk⟩,hl⟩
 ·rename_i hw;simp[hw] at h;exact⟨hy.keep hsi h3 _,by rw[<-comm];exact h⟩
theorem A0l{i:Nat}{oi:Oper}{v:Value}(hQ:J7 Q)(hi:ops[i]? = some oi)(hsel:∀(j:Nat) (o:Oper) cs b,ops[j]? = some o->o.op ≠ .select cs b) :
  ∀(fuel:Nat) (listed:Array Bool) (a:Act) (w:World),
   (∀j oj,ops[j]? = some oj->j≠i->listed.getD j true=false->(∀e∈oj.after,Region.binds md e=true->e.on≠i)->oi.apart ops oj=true) ->
   i∈Region.ready md ops listed->YP P ops oi v a->wpAny P md ops Q fuel (listed.setIfInBounds i true) (a.put oi.dst v) w->wpAny P md ops Q (fuel+1) listed a w:=by
 intro fuel;induction fuel with
 |zero =>
  intro listed a w _ hr hy H;refine⟨λh=>(by rw[h] at hr;cases hr),λj hj =>?_⟩;by_cases hji:j=i
  ·subst hji;exact hy.wpOp hi H
  ·have:=ready_mono hj hji;rw[H.1] at this;cases this
 |succ fuel ih =>
  intro listed a w hfree hr hy H;refine⟨λh=>(by rw[h] at hr;cases hr),λj hj =>?_⟩;by_cases hji:j=i
  ·subst hji;exact hy.wpOp hi H
  ·have h1:=H.2 j (ready_mono hj hji);obtain⟨hjun,oj,hoj,hall⟩:=mem_ready.1 hj;have hnot:∀e∈oj.after,Region.binds md e=true->e.on≠i:=λe he hb heq=>by
    have h1:=hall e he hb;have h0:=(mem_ready.1 hr).1;rw[heq] at h1;rcases Nat.lt_or_ge i listed.size with h'|h'
    ·grind
    ·grind
   have hfree':∀k ok,ops[k]? = some ok->k≠i->(listed.setIfInBounds j true).getD k true=false ->
     (∀e∈ok.after,Region.binds md e=true->e.on≠i)->oi.apart ops ok=true:=λk ok hk hki hun hno=>by
    refine hfree k ok hk hki ?_ hno;by_cases hjk:j=k
    ·subst hjk;exact hjun
    ·simp_all
   refine wpOp_mono (λa' w' h3=>ih (listed.setIfInBounds j true) a' w' hfree' (ready_mono hr (Ne.symm hji)) h3.1 ?_) (Bfg hQ hoj (hfree j oj hoj hji hjun hnot) (λcs b=>hsel i oi cs b hi) (λcs b=>hsel j oj cs b hoj) hy h1);rw[Array.setIfInBounds_comm _ _ hji];exact h3.2
end
structure D (cx:Cx) (ops:Array Oper) (fuel:Nat) (listed:Array Bool) (k:List KI) (e:Env) (L:Loc) (F:World->Prop) (Q:Exit->Act->World->Prop):Prop where
 run:J7 Q->∀a w,EnvOk cx.n e a->StOk cx L F w->wpAny cx.P .any ops (D2 cx.P Q k) fuel listed a w
section
variable {cx:Cx}{k:List KI}{e:Env}{L:Loc}{F:World->Prop}{Q:Exit->Act->World->Prop}{ops:Array Oper}{fuel:Nat}{listed:Array Bool}
theorem A6q{id:Nat}{l:List Oper}(hm:cx.P.follows .mixedOrders=true)(hQ:J7 Q)(h:D cx l.toArray l.toArray.size (Array.replicate l.toArray.size false) k e L F Q):G cx (.region id l.toArray true) k e L F Q :=.mk λa w he hs =>wp_region_any hm (h.run hQ a _ he (hs.quiet (Chg.drawn [] w _)))
theorem Br0(hr:(Region.ready .any ops listed).isEmpty=true)(h:N cx k e L F Q):D cx ops fuel listed k e L F Q :=.mk λ_ a w he hs=>by
 have hr':Region.ready .any ops listed=[]:=by simpa using hr
 cases fuel with|zero=>exact⟨hr',h.run a w he hs⟩|succ f=>exact⟨λ_=>h.run a w he hs,λi hi=>by rw[hr'] at hi;cases hi⟩
theorem Bv2{i:Nat}{oi:Oper}{v:Value}(hc:(Region.noSelect ops&&(Region.ready .any ops listed).contains i&&Region.free .any ops listed i)=true)(hi:ops[i]? = some oi)
  (hy:∀a,EnvOk cx.n e a->YP cx.P ops oi v a) (hput:∀a,EnvOk cx.n e a->EnvOk cx.n ((match oi.dst with|some d=>[(d,v)]|none=>[])++e) (a.put oi.dst v)) (h:D cx ops fuel (listed.setIfInBounds i true) k ((match oi.dst with|some d=>[(d,v)]|none=>[])++e) L F Q):D cx ops (fuel+1) listed k e L F Q :=.mk λhQ a w he hs=>by
 simp at hc;obtain⟨⟨hs',hr⟩,hf⟩:=hc;exact A0l (D7 hQ k) hi (Region.noSelect_spec hs') fuel listed a w (Region.free_spec hi hf) (by simpa using hr) (hy a he) (h.run hQ _ w (hput a he) hs)
theorem F0{dst:Nat}{op:Op}{t:TypeId}{pos:String}{after:Array Edge}{g:Option (Nat×Bool)}{v:Value}(i:Nat)(hi:ops[i]? = some ⟨some dst,op,t,pos,after,g⟩)(hg:Gd ops e g=some true)(hd:Nat.blt dst cx.n=true)
  (hc:(Region.noSelect ops&&(Region.ready .any ops listed).contains i&&Region.free .any ops listed i)=true) (hp:Pure cx.P e op v) (h:D cx ops fuel (listed.setIfInBounds i true) k ((dst,v)::e) L F Q):D cx ops (fuel+1) listed k e L F Q :=
 Bv2 hc hi (λa he =>.inl ⟨Gd.wanted (o:=⟨some dst,op,t,pos,after,g⟩) he hg,λw=>hp cx.n a w _ he rfl⟩) (λ_ he=>he.put hd v) h
theorem Arm{P:Program}{Q:Exit->Act->World->Prop}{i:Nat}{o:Oper}{K:Act->World->Prop}{a:Act}{w:World}(hi:ops[i]? = some o)(h:wpList P ops (Exit.then K Q) [o] a w):wpOp P ops Q i K a w:=by
 unfold wpOp;simp[hi];simp[wpList] at h;split
 ·rename_i hw;simp[hw] at h;rcases h with h|⟨h1,h2⟩
  ·left;unfold Oper.wp at *;generalize (execOp a.eval o).run P w=r at *;cases r with
   |ok n w' =>
    cases n<;>simp[Oper.upon] at h ⊢ <;> first
     |exact h
     |exact Calls.mono h (λen w'' hen=>by cases en<;>exact hen)
   |halt x w'=>cases x<;>simp[Oper.upon] at h ⊢ <;> exact h
  ·right;exact⟨h1,h2⟩
 ·rename_i hw;simp[hw] at h;exact h
theorem Bse{o:Oper}(i:Nat)(hi:ops[i]? = some o)(hr:(Region.ready .any ops listed == [i])=true)(h:O cx ops [o] (.drawn ops fuel (listed.setIfInBounds i true)::k) e L F Q):D cx ops (fuel+1) listed k e L F Q :=.mk λ_ a w he hs=>by
 have hr':Region.ready .any ops listed=[i]:=by simpa using hr
 refine⟨λh0=>(by rw[hr'] at h0;cases h0),λj hj =>?_⟩;rw[hr'] at hj;simp at hj;subst hj;exact Arm hi (h.run a w he hs)
theorem A8g(hQ:J7 Q)(h:D cx ops fuel listed k e L F Q):N cx (.drawn ops fuel listed::k) e L F Q :=.mk λa w he hs=>h.run hQ a w he hs
end
end Go.Sx
namespace Go.Sx
section
variable {cx:Cx}{k:List KI}{e:Env}{L:Loc}{F:World->Prop}{Q:Exit->Act->World->Prop}{ops:Array Oper}{l:List Oper}{c:Code}{id fuel:Nat}{listed:Array Bool}{Φ:Loc->(World->Prop)->Prop}
theorem E3(h:O cx ops l k e L F Q):O cx ops l k e L F Q:=h
theorem E5(h:G cx c k e L F Q):G cx c k e L F Q:=h
theorem E0(h:N cx k e L F Q):N cx k e L F Q:=h
theorem Bn0(h:D cx ops fuel listed k e L F Q):D cx ops fuel listed k e L F Q:=h
end
open Go.RowKit
def sameI(k1 k2:IntKind)(a b:Int)(r:Option Bool):Option Bool:=match decide (k1=k2),r with|true,some r=>some ((a == b)&&r)|_,_=>none
def eqRow(P:Program)(xs ys:Array Value):List Field->Option Bool
 |[]=>some true
 |f::fs=>match f.name == "_",P.underlying f.type,xs[f.offset]?,ys[f.offset]? with|false,some (.int _),some (.int k1 a),some (.int k2 b)=>sameI k1 k2 a b (eqRow P xs ys fs)|false,some .string,some (.string a),some (.string b)=>(eqRow P xs ys fs).map λr=>(decide (a.data.toList=b.data.toList))&&r|false,some .bool,some (.bool a),some (.bool b)=>(eqRow P xs ys fs).map λr=>(a == b)&&r|_,_,_,_=>none
theorem I6{P:Program}{t:TypeId}{d:TypeDesc}{xs:Array Value}{i:Nat}{v:Value}(hu:P.underlying t=some d)(ha:∀fs,d ≠ .struct fs)(hb:∀n e,d ≠ .array n e)(hv:xs[i]? = some v)(w:World):(part t xs i).run P w = .ok v w:=by
 have h1:(isAgg t).run P w = .ok false w:=by
  simp only[isAgg,Sem.run_bind,run_underlying hu]
  simp_all
 simp[part,h1,hv]
theorem Tp{P:Program}{xs ys:Array Value}(d:Nat):∀(fs:List Field) (r:Bool),eqRow P xs ys fs=some r->∀w,(Op.eqFields (d+1) xs ys fs).run P w = .ok r w
 |[],r,h,w=>by simp[eqRow] at h;subst h;simp[Op.eqFields]
 |f::fs,r,h,w=>by
  unfold eqRow at h;split at h
  ·rename_i u k1 a k2 b hn hu hx hy;cases hr:eqRow P xs ys fs with
   |none=>rw[hr] at h;simp only[sameI] at h;split at h<;>first|(simp at *;done)|cases h
   |some r' =>
    rw[hr] at h;have hk:k1=k2:=by
     by_cases hk:k1=k2
     ·exact hk
     ·simp[sameI,hk] at h
    subst hk;simp[sameI,decide_true] at h;have ih:=Tp d fs r' hr w;have hn':f.name ≠ "_" := by simpa using hn
    have e1:=I6 hu (λ_=>by simp) (λ_ _=>by simp) hx w;have e2:=I6 hu (λ_=>by simp) (λ_ _=>by simp) hy w;have e3:=run_equalIn_int (P:=P) w d f.type k1 _ a b hu;simp only[Op.eqFields,if_pos hn',Sem.run_bind,e1,e2,e3,Result.andThen_ok];rw[<-h];cases hab:(a == b)
    ·simp
    ·simp[ih]
  ·rename_i a b hn hu hx hy;cases hr:eqRow P xs ys fs with
   |none=>rw[hr] at h;cases h
   |some r' =>
    rw[hr] at h;simp only[Zl2,Za1] at h;have ih:=Tp d fs r' hr w;have hn':f.name ≠ "_" := by simpa using hn
    have e1:=I6 hu (λ_=>by simp) (λ_ _=>by simp) hx w;have e2:=I6 hu (λ_=>by simp) (λ_ _=>by simp) hy w;have e3:=run_equalIn_string (P:=P) w d f.type a b hu;have e4:(a.toList == b.toList)=decide (a.data.toList=b.data.toList):=by rw[ByteArray.toList_eq,ByteArray.toList_eq];rw[Bool.eq_iff_iff];simp
    rw[e4] at e3;simp only[Op.eqFields,if_pos hn',Sem.run_bind,e1,e2,e3,Result.andThen_ok];rw[<-h];cases hab:decide (a.data.toList=b.data.toList)
    ·simp
    ·simp[ih]
  ·rename_i a b hn hu hx hy;cases hr:eqRow P xs ys fs with
   |none=>rw[hr] at h;cases h
   |some r' =>
    rw[hr] at h;simp[Zl2] at h;have hn':f.name ≠ "_" := by simpa using hn
    have e2:=I6 hu (λ_=>by simp) (λ_ _=>by simp) hy w;have e3:=run_equalIn_bool' (P:=P) w d f.type a b hu;simp only[Op.eqFields,if_pos hn',Sem.run_bind,(I6 hu (λ_=>by simp) (λ_ _=>by simp) hx w),e2,e3,Result.andThen_ok];rw[<-h];cases hab:(a == b)
    ·simp
    ·simp[(Tp d fs r' hr w)]
  ·cases h
def stOk(P:Program)(t:TypeId):Bool:=(match P.underlying t with|some (.struct _)=>true|_=>false) && !P.stoodInHeld t && !P.eqGuardType P.depth t
section
variable {P:Program}{e:Env}{t t':TypeId}{x y:Operand}{xs ys:Array Value}{r:Bool}
theorem Ax1(ht:stOk P t=true)(hr:eqRow P xs ys (P.fieldsOf t).toList=some r)(w:World):(Op.equalIn 10000 t (.agg xs) (.agg ys)).run P w = .ok r w:=by
 simp[stOk,Zb1] at ht;have hu:P.underlying t=some (.struct (P.fieldsOf t)):=by
  have:=ht.1.1;unfold Program.fieldsOf
  grind
 rw[show(10000:Nat)=9999+1 from rfl,run_equalIn_struct w 9999 t xs ys hu ht.1.2];exact Tp 9998 _ r hr w
theorem p_eqst(ht:stOk P t=true)(hx:Env.ev e x=some (.agg xs))(hy:Env.ev e y=some (.agg ys))(hr:eqRow P xs ys (P.fieldsOf t).toList=some r):Pure P e (.binOp .eql t x y t') (.bool r) :=p_bin hx hy (λw=>run_eqGuard_agg w _ _ _ _ _ _ (by simp[stOk,Zb1] at ht;exact ht.2)) λw=>by rw[run_eql_struct,Ax1 ht hr];rfl
theorem p_neqst(ht:stOk P t=true)(hx:Env.ev e x=some (.agg xs))(hy:Env.ev e y=some (.agg ys))(hr:eqRow P xs ys (P.fieldsOf t).toList=some r):Pure P e (.binOp .neq t x y t') (.bool (!r)) :=p_bin hx hy (λw=>run_eqGuard_agg w _ _ _ _ _ _ (by simp[stOk,Zb1] at ht;exact ht.2)) λw=>by rw[run_neq_struct,Ax1 ht hr];rfl
end
theorem RdS.form{v:Value}{sz n:Nat}{xs:List Value}{w:World}(h:RdS v sz n xs w):∃a c,v = .slice a n c/\(n=0\/∃b off,a=some ⟨b,off,none⟩):=by obtain⟨_,a,c,rfl,hr⟩:=h;exact⟨a,c,rfl,hr.imp id λ⟨b,off,h,_,_⟩=>⟨b,off,h⟩⟩
theorem RdS.cell{b off n c sz:Nat}{xs:List Value}{w:World}(h:RdS (.slice (some ⟨b,off,none⟩) n c) sz n xs w){j:Nat}{u:Value}(hu:xs[j]? = some u):w.cell? ⟨b,off+j,none⟩=some u:=by
 obtain⟨hl,a,c',he,hr⟩:=h;simp only[Value.slice.injEq] at he;obtain⟨rfl,_,rfl⟩:=he;rcases hr with h0|⟨b',off',he,_,hr⟩
 ·have:j<xs.length:=by
   rcases Nat.lt_or_ge j xs.length with h|h
   ·exact h
   ·simp[List.getElem?_eq_none h] at hu
  rw[hl,h0] at this;omega
 ·simp only[Za1,Addr.mk.injEq,and_true] at he;obtain⟨rfl,rfl⟩:=he;exact hr j u hu
theorem RdS.cap{a:Option Addr}{c sz n:Nat}{xs:List Value}{w:World}(h:RdS (.slice a n c) sz n xs w):n<=c:=by
 obtain⟨_,a',c',he,hr⟩:=h;simp at he;obtain⟨rfl,_,rfl⟩:=he;rcases hr with rfl|⟨_,_,_,h,_⟩
 ·omega
 ·exact h
theorem RdS.take{a:Option Addr}{c sz n k c':Nat}{xs:List Value}{w:World}(h:RdS (.slice a n c) sz n xs w)(hk:k<=n)(hc:k<=c'):RdS (.slice a k c') sz k (xs.take (k*sz)) w:=by
 obtain⟨hl,a',c2,he,hr⟩:=h;simp only[Value.slice.injEq] at he;obtain⟨rfl,_,rfl⟩:=he;have hm:k*sz<=n*sz:=Nat.mul_le_mul_right _ hk;refine⟨by simp;omega,a,c',rfl,?_⟩;rcases hr with rfl|⟨b,off,rfl,_,hr⟩
 ·exact .inl (by omega)
 ·refine .inr ⟨b,off,rfl,hc,λj u hj=>hr j u ?_⟩;rw[List.getElem?_take] at hj;split at hj
  ·exact hj
  ·cases hj
theorem Ks{P:Program}{e:Env}{t:TypeId}{x z:Operand}{a:Option Addr}{n c:Nat}{jk:IntKind}{j:Int}(sz:Nat)(ht:(elSz P t == some sz)=true)(hx:Env.ev e x=some (.slice a n c))(hz:Env.ev e z=some (.int jk j))(h : 0<=j/\j<=c) :
  Pure P e (.slice t x none (some z) none) (.slice a j.toNat c):=λn' a' w o he ho=>by
 obtain⟨u,hu,hs⟩:=L3 (n:=sz) (by simpa using ht);have hr:(Instr.sliceAt t (.slice a n c) none (some (.int jk j)) none).run P w = .ok (.slice a j.toNat c) w:=by
  have hm:(if c=0 then a else a.map (λx=>x.add 0))=a:=by
   split
   ·rfl
   ·cases a<;>simp[Addr.add]
  simp[Instr.sliceAt,Instr.slice,run_underlying hu,Instr.sliceBounds,Instr.sliceBound,asIntOf,if_pos h,run_sizeOf hs,hm]
 simp[execOp,ho,he.ev hx,he.ev hz,hr,Sem.run_pure]
theorem Ayn{cx:Cx}{L:Loc}{F:World->Prop}{t:TypeId}{b off n c sz o:Nat}{xs vs:List Value}(hF:∀w,F w->RdS (.slice (some ⟨b,off,none⟩) n c) sz n xs w)(ht:(tySome cx.P t&&(tyAgg cx.P t == true))=true)(hz:tySz cx.P t=some vs.length)(j:Nat)(hj:o=off+j)(hu:∀i v,vs[i]? = some v->xs[j+i]? = some v):Bv5 cx L F t ⟨b,o,none⟩ (.agg vs.toArray):=by subst hj;refine Bkw ht hz λw hw i v hv =>?_;have:=(hF w hw).cell (hu i v hv);rwa[show off+(j+i)=off+j+i by omega] at this
end Go.Sx
namespace Go.Ax
open Go.RowKit
structure Cx where
 P:Program
 w0:World
 I:Fp
 M:Fp
 el:Ck->TypeId
 gl:Nat->Option Gv
structure FS where
 n:Nat
 env:Nat->Option D
 lb:Nat
 lt:Nat
 fr:List Fr
 bl:Nat->Option Blk
 nb:Nat
 al:Nat->Prop
 nt:Nat
 df:List D
def fs(st:St):FS:=⟨st.n,get st.env,st.lb,st.lt,st.fr,blk st.bl,st.nb,λt=>t∈st.tk,st.nt,st.df⟩
def Dv(m:Mp)(s:FS):Fp:=λb i=>(∃k,s.bl k≠none/\m.bl k=b)\/∃t o,s.al t/\m.tk t=some (b,o)/\o<=i
def vx(cx:Cx)(m:Mp)(s:FS)(w:World):Vx:=⟨m,s.al,λb i=>cx.M b i\/Dv m s b i,w,s.nb,s.nt,cx.el⟩
def DfR(x:Vx):D->Deferred->Prop
 |.ptr b c,dd=>b<x.nb/\c<x.nb/\x.m.bl c=x.m.bl b+1/\dd={ target :=.collected (x.m.bl b),args := #[] }
 |.fn f caps,dd=>∃vs:List Value,dd={ target :=.fn (.func f) vs.toArray,args := #[] }/\Reps x caps vs
 |_,_=>False
def Att(x:Vx):List D->List Deferred->Prop
 |[],l=>l=[]
 |d::ds,l=>∃dd r,l=dd::r/\DfR x d dd/\Att x ds r
theorem Att.later{x x':Vx}(h:Nx x x'):∀{ds:List D}{l:List Deferred},Att x ds l->Att x' ds l
 |[],_,hr=>hr
 |d::ds,l,⟨dd,r,e,h1,h2⟩=>by
  refine⟨dd,r,e,?_,Att.later h h2⟩;cases d<;>simp only[DfR] at h1 ⊢
  ·exact⟨Zx1 h1.1 h.nb,Zx1 h1.2.1 h.nb,by rw[h.bl _ h1.1,h.bl _ h1.2.1];exact h1.2.2⟩
  ·obtain⟨vs,e,hv⟩:=h1;exact⟨vs,e,Reps.later h _ _ hv⟩
structure EnvR (x:Vx) (n:Nat) (df:List D) (env:Nat->Option D) (a:Act):Prop where
 defers:Att x df a.defers
 size:a.tmps.size=n
 get:∀k d,env k=some d->∃v,a.tmps[k]? = some v/\Rep x d v
def Afu(x:Vx):Nat->Nat->List Fr->List Act->Prop
 |_,_,[],as_=>as_=[]
 |lb,lt,f::fs,as_=>∃a r,as_=a::r/\f.lb<=lb/\f.lt<=lt/\EnvR { x with nb:=lb,nt:=lt } f.n f.df (get f.env) a/\Afu x f.lb f.lt fs r
def A20:Ex->Code
 |.exit id =>.exit id
 |_ =>.ret
def Bu4(j:Int)(q:Nat):Ex:=if j=1 then .ret else .exit q
def F6(x:Vx)(β:Nat):Blk->Prop
 |.cells ds=>ds.all lf=true/\∃(vs:List Value) (t:TypeId),x.w.heap[β]? = some (.cells vs.toArray t (0,0))/\Reps x ds vs
 |.box c y=>agg? c=true/\∃(vs:List Value) (t:TypeId),x.w.heap[β]? = some (.cells vs.toArray t (0,0))/\vs.length=csz c/\∀(j:Nat) d,(enc c y)[j]? = some d->∃u,vs[j]? = some u/\RF x.S x.w d u
 |.row c n xs=>xs.length=n/\∃(vs:List Value) (t:TypeId),x.w.heap[β]? = some (.cells vs.toArray t (0,0))/\vs.length=xs.length*csz c/\∀i y j d,xs[i]? = some y->(enc c y)[j]? = some d->∃u,vs[i*csz c+j]? = some u/\RF x.S x.w d u
 |.dyn c xs=>xs.length<=maxLen/\∃(vs:List Value) (t:TypeId),x.w.heap[β]? = some (.cells vs.toArray t (0,0))/\xs.length*csz c<=vs.length/\∀i y j d,xs[i]? = some y->(enc c y)[j]? = some d->∃u,vs[i*csz c+j]? = some u/\RF x.S x.w d u
 |.ob k=>k=0->x.w.heap[β]? = some (.deferred (some []))
 |.lr s n ps asg body env=>∃r:Loop,x.w.heap[β]? = some (.loop r)/\r.params=ps.toArray/\r.assign=asg/\r.body=body/\EnvR x n [] (get env) { tmps:=r.tmps,defers:=[] }/\(s=0->r.state = .ready/\r.pending=none)
 |.lj e=>∃r:Loop,x.w.heap[β]? = some (.loop r)/\r.state = .done/\r.pending=some (A20 e)
 |.lx j n ps asg body env q=>E8 .i64 j=true/\(j=0->∃r:Loop,x.w.heap[β]? = some (.loop r)/\r.params=ps.toArray/\r.assign=asg/\r.body=body/\EnvR x n [] (get env) { tmps:=r.tmps,defers:=[] }/\(r.state = .ready/\r.pending=none))/\(j≠0->∃r:Loop,x.w.heap[β]? = some (.loop r)/\r.state = .done/\r.pending=some (A20 (Bu4 j q)))
 |.bld t d=>(∃l tk,d = .sl .byte l tk)/\∃(a v:Value),x.w.heap[β]? = some (.cells #[a,v] t (0,0))/\(a = .pointer none\/a = .pointer (some ⟨β,0,none⟩))/\Rep x d v
def GlR(x:Vx)(gl:Nat->Option Gv):Prop:=(∀g c xs,gl g=some (.arr c xs)->∀i y,xs[i]? = some y->∀w',Chg x.S x.w w'->At w' c y g (i*csz c))/\(∀g l,gl g=some (.map l)->∃r es clk,(∀w',Chg x.S x.w w'->w'.cell? ⟨g,0,none⟩=some (.map (some r))/\w'.heap[r]? = some (.map es clk))/\A8s l es.toList)/\∀g k,gl g=some (.num k)->∃n,∀w',Chg x.S x.w w'->w'.cell? ⟨g,0,none⟩=some (.int k n)
structure Rel (cx:Cx) (m:Mp) (a:Act) (as_:List Act) (s:FS) (w:World):Prop where
 chg:Chg cx.I cx.w0 w
 env:EnvR (vx cx m s w) s.n s.df s.env a
 frs:Afu (vx cx m s w) s.lb s.lt s.fr as_
 lb:s.lb<=s.nb
 lt:s.lt<=s.nt
 blks:∀b k,s.bl b=some k->b<s.nb/\F6 (vx cx m s w) (m.bl b) k
 als:∀t,s.al t->t<s.nt
 inj:∀b b',s.bl b≠none->s.bl b'≠none->m.bl b=m.bl b'->b=b'
 injt:∀t t' g o o',s.al t->s.al t'->m.tk t=some (g,o)->m.tk t' = some (g,o')->t=t'
 injbt:∀b t g o,s.bl b≠none->s.al t->m.tk t=some (g,o)->m.bl b≠g
 own:∀b i,Dv m s b i->b<w.heap.size/\(cx.I b i\/cx.w0.heap.size<=b)
 away:∀b i j,cx.M b i->b<cx.w0.heap.size/\¬cx.I b j
 glb:GlR (vx cx m s w) cx.gl
theorem Rel.noDf{cx:Cx}{m:Mp}{a:Act}{as_:List Act}{s:FS}{w:World}(h:Rel cx m a as_ s w)(hd:s.df=[]):a.defers=[]:=by have h1:=h.env.defers;rw[hd] at h1;exact h1
theorem EnvR.later{x x':Vx}(h:Nx x x'){n:Nat}{df:List D}{env:Nat->Option D}{a:Act}(hr:EnvR x n df env a):EnvR x' n df env a :=⟨hr.defers.later h,hr.size,λk d hk=>by obtain⟨v,hv,hd⟩:=hr.get k d hk;exact⟨v,hv,Rep.later h d v hd⟩⟩
theorem Nx.low{x x':Vx}(h:Nx x x'){lb lt:Nat}(h1:lb<=x.nb)(h2:lt<=x.nt):Nx { x with nb:=lb,nt:=lt } { x' with nb:=lb,nt:=lt } :=⟨h.chg,h.fp,h.el,λb hb=>h.bl b (Zx1 hb h1),Zn1 _,Zn1 _,λt ht ha=>h.tk t (Zx1 ht h2) ha⟩
theorem Afu.later{x x':Vx}(h:Nx x x'):∀{frs:List Fr}{as_:List Act}{lb lt:Nat},lb<=x.nb->lt<=x.nt->Afu x lb lt frs as_->Afu x' lb lt frs as_
 |[],_,_,_,_,_,hr=>hr
 |f::frs,as_,lb,lt,h1,h2,hr=>by obtain⟨a,r,e,h3,h4,he,hf⟩:=hr;exact⟨a,r,e,h3,h4,he.later (h.low h1 h2),Afu.later h (Nat.le_trans h3 h1) (Nat.le_trans h4 h2) hf⟩
theorem F6.later{x x':Vx}(h:Nx x x'){β:Nat}(hb:x'.w.heap[β]? = x.w.heap[β]?):∀{k:Blk},F6 x β k->F6 x' β k
 |.cells ds,⟨hl,vs,t,hh,hr⟩=>⟨hl,vs,t,by rw[hb];exact hh,Reps.later h ds vs hr⟩
 |.box c y,⟨ha,vs,t,hh,hl,hr⟩=>⟨ha,vs,t,by rw[hb];exact hh,hl,λj d hd=>by obtain⟨u,hu,hf⟩:=hr j d hd;exact⟨u,hu,h.rf hf⟩⟩
 |.row c n xs,⟨hn,vs,t,hh,hl,hr⟩=>⟨hn,vs,t,by rw[hb];exact hh,hl,λi y j d hy hd=>by obtain⟨u,hu,hf⟩:=hr i y j d hy hd;exact⟨u,hu,h.rf hf⟩⟩
 |.dyn c xs,⟨hn,vs,t,hh,hl,hr⟩=>⟨hn,vs,t,by rw[hb];exact hh,hl,λi y j d hy hd=>by obtain⟨u,hu,hf⟩:=hr i y j d hy hd;exact⟨u,hu,h.rf hf⟩⟩
 |.ob k,hk=>by simp only[F6] at hk ⊢;rw[hb];exact hk
 |.lr _ _ _ _ _ _,⟨r,h1,h2,h3,h4,h5,h6⟩=>⟨r,by rw[hb];exact h1,h2,h3,h4,h5.later h,h6⟩
 |.lj _,⟨r,h1,h2⟩=>⟨r,by rw[hb];exact h1,h2⟩
 |.lx _ _ _ _ _ _ _,⟨hu,h0,h1⟩=>⟨hu,λhj=>by
   obtain⟨r,g1,g2,g3,g4,g5,g6⟩:=h0 hj;exact⟨r,by rw[hb];exact g1,g2,g3,g4,g5.later h,g6⟩,λhj=>by
   obtain⟨r,g1,g2⟩:=h1 hj;exact⟨r,by rw[hb];exact g1,g2⟩⟩
 |.bld _ d,⟨hd,a,v,hh,ha,hr⟩=>⟨hd,a,v,by rw[hb];exact hh,ha,Rep.later h d v hr⟩
theorem GlR.later{x x':Vx}(h:Nx x x'){gl:Nat->Option Gv}(hg:GlR x gl):GlR x' gl:=⟨λg c xs hx i y hy w' hw=>hg.1 g c xs hx i y hy w' (h.chg.later h.fp hw),λg l hl=>by obtain⟨r,es,clk,h1,h2⟩:=hg.2.1 g l hl;exact⟨r,es,clk,λw' hw=>h1 w' (h.chg.later h.fp hw),h2⟩,λg k hk=>by obtain⟨n,h1⟩:=hg.2.2 g k hk;exact⟨n,λw' hw=>h1 w' (h.chg.later h.fp hw)⟩⟩
theorem Rel.disj{cx:Cx}{m:Mp}{a:Act}{as_:List Act}{s:FS}{w:World}(h:Rel cx m a as_ s w){b i j:Nat}(hm:cx.M b i)(ho:Dv m s b j):False:=by
 obtain⟨h1,h2⟩:=h.away b i j hm;rcases(h.own b j ho).2 with hi|hi
 ·exact h2 hi
 ·omega
theorem Rel.quiet{cx:Cx}{m:Mp}{a:Act}{as_:List Act}{s:FS}{w w':World}(h:Rel cx m a as_ s w)(hc:Chg B9 w w'):Rel cx m a as_ s w':=by
 have hb:∀k,k<w.heap.size->w'.heap[k]? = w.heap[k]? :=λk hk=>hc.block k hk (λ_ h=>h);have nx:Nx (vx cx m s w) (vx cx m s w'):=⟨hc.mono (λ_ _ h=>h.elim),λb i hi =>.inl hi,rfl,λ_ _=>rfl,Zn1 _,Zn1 _,λt _ ha=>⟨ha,rfl,λg o hg=>hb g (h.own g o (.inr ⟨t,o,ha,hg,Zn1 _⟩)).1⟩⟩;refine⟨h.chg.trans (hc.mono (λ_ _ h=>h.elim)),h.env.later nx,h.frs.later nx h.lb h.lt,h.lb,h.lt,λb k hk =>?_,h.als,h.inj,h.injt,h.injbt,λb i hi =>?_,h.away,h.glb.later nx⟩
 ·obtain⟨h1,h2⟩:=h.blks b k hk;exact⟨h1,h2.later nx (hb _ (h.own (m.bl b) 0 (.inl ⟨b,by rw[hk];simp,rfl⟩)).1)⟩
 ·obtain⟨h1,h2⟩:=h.own b i hi;exact⟨Zx1 h1 hc.size,h2⟩
theorem EnvR.put{x:Vx}{n:Nat}{df:List D}{env:Nat->Option D}{a:Act}(h:EnvR x n df env a){k:Nat}(hk:k<n){d:D}{v:Value}(hd:Rep x d v):EnvR x n df (λj=>if j=k then some d else env j) (a.put (some k) v):=by
 refine⟨by simpa[Act.put] using h.defers,by simpa[Act.put] using h.size,λj e he =>?_⟩;by_cases hj:j=k
 ·subst hj;simp at he;subst he;have:j<a.tmps.size:=by rw[h.size];exact hk
  exact⟨v,by simp[Act.put,this],hd⟩
 ·simp[if_neg hj] at he;obtain⟨u,hu,hr⟩:=h.get j e he;refine⟨u,?_,hr⟩;simp[Act.put];rw[Array.getElem?_setIfInBounds_ne (Ne.symm hj)];exact hu
def FS.put(s:FS)(k:Nat)(d:D):FS:={ s with env:=λj=>if j=k then some d else s.env j }
theorem Ga{a b:Nat}(h:a≠b):Nat.beq a b=false:=by cases hb:Nat.beq a b with|true=>simp_all|false=>rfl
theorem Bd(e:Env)(k j:Nat)(d:D):get ((k,d)::e) j=if j=k then some d else get e j:=by
 simp[get];by_cases h:j=k
 ·subst h;simp
 ·have:Nat.beq k j=false:=Ga (Ne.symm h);simp[this,h]
theorem Jr(st:St)(k:Nat)(d:D):fs (st.put k d)=(fs st).put k d:=by simp[fs,St.put,FS.put];funext j;exact Bd st.env k j d
theorem Rel.put{cx:Cx}{m:Mp}{a:Act}{as_:List Act}{s:FS}{w:World}(h:Rel cx m a as_ s w){k:Nat}(hk:k<s.n){d:D}{v:Value}(hd:Rep (vx cx m s w) d v):Rel cx m (a.put (some k) v) as_ (s.put k d) w :=⟨h.chg,h.env.put hk hd,h.frs,h.lb,h.lt,h.blks,h.als,h.inj,h.injt,h.injbt,h.own,h.away,h.glb⟩
def Atm(a:Act):Sx.Env:=(List.range a.tmps.size).map λk=>(k,a.tmps.getD k undef)
theorem A0i{a:Act}{k:Nat}{v:Value}(h:a.tmps[k]? = some v):Sx.Env.get (Atm a) k=some v:=by
 have hlt:k<a.tmps.size:=(Zh2.1 h).1;have key:∀(n b:Nat),b<=k->k<b+n->Sx.Env.get ((List.range' b n).map λk=>(k,a.tmps.getD k undef)) k=some v:=by
  intro n;induction n with
  |zero=>intro b h1 h2;omega
  |succ n ih =>
   intro b h1 h2;simp only[List.range'_succ,Zw1,Sx.Env.get];by_cases hb:b=k
   ·subst hb;simp[ h]
   ·have:Nat.beq b k=false:=Ga hb;simp only[this];exact ih (b+1) (by omega) (by omega)
 have:=key a.tmps.size 0 (Nat.zero_le _) (by omega);simpa[Atm,List.range_eq_range'] using this
theorem Asb{a:Act}(h:a.defers=[]):Sx.EnvOk a.tmps.size (Atm a) a:=by
 refine⟨h,rfl,λk v hk =>?_⟩;have key:∀(l:List Nat),Sx.Env.get (l.map λk=>(k,a.tmps.getD k undef)) k=some v->k∈l/\v=a.tmps.getD k undef:=by
  intro l;induction l with
  |nil=>intro h;simp[Sx.Env.get] at h
  |cons b l ih =>
   intro h;simp only[Zw1,Sx.Env.get] at h;by_cases hb:b=k
   ·grind
   ·have:Nat.beq b k=false:=Ga hb;simp only[this] at h;obtain⟨h1,h2⟩:=ih h;exact⟨by simp[h1],h2⟩
 obtain⟨h1,h2⟩:=key _ hk;simp at h1;rw[h2];simp[ h1]
section
variable {R:Type}(px:Px R)
def evF(env:Nat->Option D)(t:Nat):Operand->Option D
 |.tmp i=>env i
 |.const v=>cst (px.tt t) v
 |.global g=>some (.gp g)
 |.func f=>some (.fn f [])
theorem Av(st:St)(t:Nat)(x:Operand):ev px st t x=evF px (get st.env) t x:=by cases x<;>rfl
end
theorem Ap9{s:ByteArray}(h:Bhw s=true):s.data.toList.length<=maxLen:=by have:s.data.toList.length<=1048576:=Nat.le_of_ble_eq_true h;simp only[maxLen];omega
theorem Bhh{x:Vx}{z d:D}{v:Value}(h:Bud z v=some d):Rep x d v/\lf d=true:=by
 unfold Bud at h;split at h
 ·split at h
  ·simp at h;subst h;rename_i hu;exact⟨by simp only[Rep];exact⟨trivial,hu⟩,rfl⟩
  ·cases h
 ·simp at h;subst h;exact⟨by simp[Rep],rfl⟩
 ·split at h
  ·rename_i hs;simp at h;subst h;exact⟨by simp only[Rep];exact⟨trivial,Ap9 hs⟩,rfl⟩
  ·cases h
 all_goals simp at h
 all_goals subst h
 ·exact⟨by simp[Rep];exact⟨λ_ _ =>.nil _ _ _ _ trivial,by simp[TkR]⟩,rfl⟩
 ·exact⟨by simp[Rep],rfl⟩
 ·exact⟨by simp[Rep],rfl⟩
theorem Aiu{x:Vx}:∀{zs ds:List D}{vs:List Value},Awu zs vs=some ds->Reps x ds vs/\ds.all lf=true
 |[],ds,[],h=>by simp[Awu] at h;subst h;simp[Reps]
 |z::zs,ds,v::vs,h=>by
  simp[Awu] at h;split at h
  ·rename_i d hd;split at h
   ·rename_i ds' hds;simp at h;subst h;have h1:=Bhh (x:=x) hd;have h2:=Aiu (x:=x) hds;exact⟨by simp only[Reps];exact⟨v,vs,rfl,h1.1,h2.1⟩,by simp[h1.2,h2.2]⟩
   ·cases h
  ·cases h
 |[],ds,v::vs,h=>by simp[Awu] at h
 |z::zs,ds,[],h=>by simp[Awu] at h
theorem Bqv{x:Vx}{t:Ty}{v:Value}{d:D}(h:cst t v=some d):Rep x d v:=by
 unfold cst at h;split at h
 ·split at h
  ·rename_i hu;simp at h;subst h;simp only[Rep];exact⟨trivial,hu⟩
  ·cases h
 ·simp at h;subst h;simp[Rep]
 ·split at h
  ·rename_i hs;simp at h;subst h;simp only[Rep];exact⟨trivial,Ap9 hs⟩
  ·cases h
 ·split at h
  ·simp at h;subst h;simp[Rep];exact⟨λ_ _ =>.nil _ _ _ _ trivial,by simp[TkR]⟩
  ·cases h
 ·simp at h;subst h;simp[Rep]
 ·simp at h;subst h;simp[Rep]
 ·split at h
  ·split at h
   ·rename_i ds hds;simp at h;subst h;have h2:=Aiu (x:=x) hds;simp only[Rep];exact⟨h2.2,_,by simp,h2.1⟩
   ·cases h
  ·cases h
 ·simp at h;subst h;simp[Rep]
theorem EnvR.ev{R:Type}{px:Px R}{x:Vx}{n:Nat}{df:List D}{env:Nat->Option D}{a:Act}(h:EnvR x n df env a){t:Nat}{o:Operand}{d:D}(he:evF px env t o=some d):∃v,Sx.Env.ev (Atm a) o=some v/\a.eval o=v/\Rep x d v:=by cases o with|tmp k =>obtain⟨v,hv,hd⟩:=h.get k d he;exact⟨v,A0i hv,by simp[Act.eval,hv],hd⟩|const v=>exact⟨v,rfl,rfl,Bqv he⟩|global g=>simp[evF] at he;subst he;exact⟨_,rfl,rfl,by simp[Rep]⟩|func f=>simp[evF] at he;subst he;exact⟨_,rfl,rfl,by simp only[Rep];exact⟨[],rfl,by simp[Reps]⟩⟩
def zb:D->Value->Bool
 |.int k n,.int k' n'=>decide (k=k')&&decide (n=n')&&E8 k n
 |.bool b,.bool b'=>b == b'
 |.str [],.string s=>s.data.toList == []
 |.sl _ [] .nil,.slice none 0 0=>true
 |.sl _ [] .no,.slice none 0 0=>true
 |.nilp,.pointer none=>true
 |.nilfn,.nilFunc=>true
 |_,_=>false
def zbL:List D->List Value->Bool
 |[],[]=>true
 |d::ds,v::vs=>zb d v&&zbL ds vs
 |_,_=>false
theorem Buv{x:Vx}{d:D}{v:Value}(h:zb d v=true):Rep x d v/\lf d=true:=by
 unfold zb at h;split at h
 ·simp at h;obtain⟨⟨rfl,rfl⟩,h⟩:=h;exact⟨by simp only[Rep];exact⟨trivial,h⟩,rfl⟩
 ·simp at h;subst h;exact⟨by simp[Rep],rfl⟩
 ·simp at h;refine⟨?_,rfl⟩;simp only[Rep];refine⟨?_,by simp⟩;rename_i s;obtain⟨⟨l⟩⟩:=s;simp at h;subst h;rfl
 ·exact⟨by simp[Rep];exact⟨λ_ _ =>.nil _ _ _ _ trivial,by simp[TkR]⟩,rfl⟩
 ·exact⟨by simp[Rep];exact⟨λ_ _ =>.nil _ _ _ _ trivial,by simp[TkR]⟩,rfl⟩
 ·exact⟨by simp[Rep],rfl⟩
 ·exact⟨by simp[Rep],rfl⟩
 ·cases h
theorem Rp{x:Vx}:∀{ds:List D}{vs:List Value},zbL ds vs=true->Reps x ds vs/\ds.all lf=true
 |[],[],_=>by simp[Reps]
 |d::ds,v::vs,h=>by simp[zbL] at h;have h1:=Buv (x:=x) h.1;have h2:=Rp (x:=x) h.2;exact⟨by simp only[Reps];exact⟨v,vs,rfl,h1.1,h2.1⟩,by simp[h1.2,h2.2]⟩
 |[],_::_,h=>by simp[zbL] at h
 |_::_,[],h=>by simp[zbL] at h
def A5x:Ck->Option (List Nat)
 |.val=>some [0,0,1]
 |.tok=>some [0,0,1,0]
 |.col=>some [1,0,2,2,1]
 |_=>none
def A6x(P:Program)(t:TypeId):Bool:=match P.underlying t with|some (.int _)=>true|_=>false
def fkB(P:Program):Nat->List Field->List Nat->Bool
 |_,[],[]=>true
 |i,f::fs,k::ks => !(f.name == "_")&&f.offset == i&&(match k with
   |0=>A6x P f.type
   |1=>Sx.tyS P f.type
   |_=>Sx.tyB P f.type)&&fkB P (i+1) fs ks
 |_,_,_=>false
def Vg(P:Program)(t:TypeId):Nat->List Field->List (Nat×Nat)->Bool
 |_,[],[]=>true
 |i,f::fs,(o,u)::l=>f.type == u&&Sx.fldOff P t i == some o&&f.offset == o&&Vg P t (i+1) fs l
 |_,_,_=>false
def B8(P:Program)(el:Ck->TypeId)(tt:Nat->Ty)(t:Nat):Bool:=match tt t with
 |.no=>true
 |ty=>Sx.tySome P t&&(Sx.tyAgg P t == ty.agg?)&&(Sx.tySz P t == some ty.n)&&(match ty.zero with
   |some z=>(match Sx.tyZero P t with
    |some zs=>zbL (cells z) zs
    |none=>false)
   |none=>true)&&(match ty with
  |.int k=>Sx.tyI P t k
  |.bool=>Sx.tyB P t
  |.str=>Sx.tyS P t
  |.sl c=>(match P.info? (el c) with
   |some i=>Sx.elTyB P t (el c) (csz c) i.bytes&&Nat.ble i.bytes 512&&(match c with
    |.byte=>Sx.tyI P (el c) .u8
    |_=>true)&&(match Sx.tyZero P (el c) with
    |some zs=>zbL (enc c (zer c)) zs
    |none=>false)
   |none=>false)
  |.st c l _=>(match P.underlying t with
   |some (.struct fds)=>Vg P t 0 fds.toList l&&(match c with
    |some c=>(match A5x c with
     |some ks=>Sx.stOk P t&&fkB P 0 fds.toList ks
     |none=>true)
    |none=>true)
   |_=>false)
  |.arr n c=>(match P.underlying t with
   |some (.array n' u)=>n' == n&&u == el c&&Sx.tySz P u == some (csz c)&&Sx.tySome P u&&(Sx.tyAgg P u == agg? c)
   |_=>false)
  |.map=>(match P.underlying t with
   |some (.map k e)=>(match P.underlying k with
    |some (.int .i64)=>true
    |_=>false)&&(match P.info? e with
    |some i=>(match i.zero with
     |some (.string s)=>s.data.toList == []
     |_=>false)
    |none=>false)
   |_=>false)
  |.ptr=>(match P.underlying t with
   |some (.pointer _)=>true
   |_=>false)
  |_=>true)
def Acm(st st':St):Prop:=st'.n=st.n/\st'.env=st.env/\st'.lb=st.lb/\st'.lt=st.lt/\(st'.fr,st'.df)=(st.fr,st.df)
def Bnf{R:Type}(cx:Cx)(px:Px R):Prop:=∀(b:Nat) (ds:List D) (st:St) (K:D->St->Option R) (r:R),px.yld b ds st K=some r->∀(m:Mp) (a:Act) (as_:List Act) (w:World) (vs:List Value),Rel cx m a as_ (fs st) w->Reps (vx cx m (fs st) w) ds vs ->
 ∃fn tmps asg body,(Instr.yield (m.bl b) vs.toArray).run cx.P w = .ok (.round (m.bl b) fn tmps asg body) w/\RoundIn Fence.wide 0 cx.P (m.bl b) fn tmps asg body w λen w'=>∃v,en = .returned v/\∃d st' m',K d st' = some r/\Acm st st'/\Rel cx m' a as_ (fs st') w'/\Rep (vx cx m' (fs st') w') d v
def noY{R:Type}(px:Px R):Prop:=∀b ds st K,px.yld b ds st K=none
theorem noY.ok{R:Type}{cx:Cx}{px:Px R}(h:noY px):Bnf cx px:=λb ds st K r hk=>by rw[h] at hk;cases hk
structure PxOk {R:Type}(cx:Cx) (px:Px R):Prop where
 tt:∀t,B8 cx.P cx.el px.tt t=true
 gl:px.gl=cx.gl
 yl:Bnf cx px
section
variable {P:Program}{el:Ck->TypeId}{tt:Nat->Ty}{t:Nat}
theorem Dp(h:B8 P el tt t=true)(hn:tt t ≠ .no):Sx.tySome P t=true/\Sx.tyAgg P t=(tt t).agg? /\ Sx.tySz P t=some (tt t).n:=by
 unfold B8 at h;split at h
 ·grind
 ·grind
theorem R8(h:B8 P el tt t=true)(hn:tt t ≠ .no){z:D}(hz:(tt t).zero=some z):∃zs,Sx.tyZero P t=some zs/\zbL (cells z) zs=true:=by
 unfold B8 at h;split at h
 ·grind
 ·grind
theorem Ala(h:B8 P el tt t=true){k:IntKind}(ht:tt t = .int k):Sx.tyI P t k=true:=by unfold B8 at h;rw[ht] at h;simp at h;exact h.2
theorem Abv(h:B8 P el tt t=true)(ht:tt t = .bool):Sx.tyB P t=true:=by unfold B8 at h;rw[ht] at h;simp at h;exact h.2
theorem Gz(h:B8 P el tt t=true)(ht:tt t = .str):Sx.tyS P t=true:=by unfold B8 at h;rw[ht] at h;simp at h;exact h.2
theorem Cj(h:B8 P el tt t=true){c:Ck}(ht:tt t = .sl c):∃by_,Sx.ElTy P t (el c) (csz c) by_/\by_<=512/\(c = .byte->Sx.tyI P (el c) .u8=true):=by
 unfold B8 at h;rw[ht] at h;simp at h
 have h2:=h.2;split at h2
 ·rename_i i hi;simp at h2;refine⟨i.bytes,Sx.elTy_of h2.1.1.1,by simpa using h2.1.1.2,λhc =>?_⟩;subst hc;simpa using h2.1.2
 ·cases h2
theorem Bfs(h:B8 P el tt t=true){c:Ck}(ht:tt t = .sl c):∃zs,Sx.tyZero P (el c)=some zs/\zbL (enc c (zer c)) zs=true:=by
 unfold B8 at h;rw[ht] at h;simp at h
 have h2:=h.2;split at h2
 ·grind
 ·cases h2
theorem Qc(h:B8 P el tt t=true){n:Nat}{c:Ck}(ht:tt t = .arr n c):P.underlying t=some (.array n (el c))/\Sx.tySz P (el c)=some (csz c)/\Sx.tySome P (el c)=true/\Sx.tyAgg P (el c)=agg? c:=by
 unfold B8 at h;rw[ht] at h;simp at h
 have h2:=h.2;split at h2
 ·grind
 ·cases h2
theorem Bii(h:B8 P el tt t=true)(ht:tt t = .ptr):∃u,P.underlying t=some (.pointer u):=by
 unfold B8 at h;rw[ht] at h;simp only[Zb1] at h
 have h2:=h.2;split at h2
 ·exact⟨_,by assumption⟩
 ·cases h2
theorem Bkb(h:B8 P el tt t=true)(ht:tt t = .map):∃k e i,P.underlying t=some (.map k e)/\P.underlying k=some (.int .i64)/\P.info? e=some i/\i.zero=some (Sx.S []):=by
 unfold B8 at h;rw[ht] at h;simp only[Zb1] at h
 have h2:=h.2;split at h2
 ·rename_i k e hu;simp only[Zb1] at h2;obtain⟨h3,h4⟩:=h2;split at h3
  ·rename_i hk;split at h4
   ·rename_i i hi;split at h4
    ·rename_i s hz;refine⟨k,e,i,hu,hk,hi,?_⟩;simp only[beq_iff_eq] at h4;obtain⟨⟨l⟩⟩:=s;simp only at h4;subst h4;exact hz
    ·cases h4
   ·cases h4
  ·cases h3
 ·cases h2
theorem Acv{P:Program}{t:TypeId}:∀{fds:List Field}{l:List (Nat×Nat)}{i f o u:Nat},Vg P t i fds l=true->l[f]? = some (o,u)->∃fd,fds[f]? = some fd/\fd.type=u/\fd.offset=o/\Sx.fldOff P t (i+f)=some o
 |[],[],i,f,o,u,_,hl=>by simp at hl
 |fd::fds,(o0,u0)::l,i,f,o,u,h,hl=>by simp[Vg] at h;cases f with|zero=>grind|succ f =>obtain⟨fd',h1,h2,h3,h4⟩:=Acv h.2 (by simpa using hl);exact⟨fd',by simpa using h1,h2,h3,by rw[<-h4];congr 1;omega⟩
 |[],_::_,_,_,_,_,h,_=>by simp[Vg] at h
 |_::_,[],_,_,_,_,h,_=>by simp[Vg] at h
theorem Aud(h:B8 P el tt t=true){c:Option Ck}{l:List (Nat×Nat)}{z:List D}(ht:tt t = .st c l z):∃fds,P.underlying t=some (.struct fds)/\Vg P t 0 fds.toList l=true/\∀c' ks,c=some c'->A5x c' = some ks->Sx.stOk P t=true/\fkB P 0 fds.toList ks=true:=by
 unfold B8 at h;rw[ht] at h;simp at h
 have h2:=h.2;split at h2
 ·grind
 ·cases h2
end
section
variable {x:Vx}
theorem Rep.int{k:IntKind}{n:Int}{v:Value}(h:Rep x (.int k n) v):v = .int k n:=by simp[Rep] at h;exact h.1
theorem Rep.str{l:Str}{v:Value}(h:Rep x (.str l) v):v=Sx.S l:=by simp[Rep] at h;exact h.1
theorem Rep.strLen{l:Str}{v:Value}(h:Rep x (.str l) v):l.length<=maxLen:=by simp[Rep] at h;exact h.2
theorem Rep.bool{b:Bool}{v:Value}(h:Rep x (.bool b) v):v = .bool b:=by simp[Rep] at h;exact h
theorem Bo(b:Bool):Rep x (.bool b) (.bool b):=by simp[Rep]
theorem Ke{l:Str}(h:l.length<=maxLen):Rep x (.str l) (Sx.S l):=by simp only[Rep];exact⟨trivial,h⟩
theorem C2{k:IntKind}{n:Int}(h:E8 k n=true):Rep x (.int k n) (.int k n):=by simp only[Rep];exact⟨trivial,h⟩
theorem Yh(k:IntKind)(n:Int):E8 k (k.wrap n)=true:=by cases k<;>simp[E8,IntKind.wrap,IntKind.min,IntKind.max,IntKind.signed,IntKind.bits]<;>(try split)<;>omega
theorem Bi4{n:Int}(h:E8 .u8 n=true) : 0<=n/\n<256:=by simp[E8,IntKind.min,IntKind.max,IntKind.signed,IntKind.bits] at h;omega
theorem Bsa{n:Int}(h : 0<=n/\n<256):E8 .u8 n=true:=by simp[E8,IntKind.min,IntKind.max,IntKind.signed,IntKind.bits];omega
theorem P3{n:Nat}(h:n<=maxLen):E8 .i64 (n:Int)=true:=by simp[maxLen] at h;simp[E8,IntKind.min,IntKind.signed,IntKind.bits];omega
theorem Mg{k:IntKind}{n:Int}(h:E8 k n=true):k.min<=n/\n<=k.max:=by simpa[E8] using h
theorem Ay8{k:IntKind}{n:Int}(h:k.min<=n/\n<=k.max):E8 k n=true:=by simpa[E8] using h
theorem Btl{k:IntKind}{p:Int}{m:Nat}(h:E8 k p=true):E8 k (p.fdiv (2 ^ m))=true:=by
 obtain⟨h1,h2⟩:=Mg h;refine Ay8 ?_;have hpos:(0:Int)<2 ^ m:=Int.pow_pos (by omega);rw[Int.fdiv_eq_ediv_of_nonneg _ (by omega)];have h0:k.min<=0/\0<=k.max:=by cases k<;>simp[IntKind.min,IntKind.max,IntKind.signed,IntKind.bits]
 rcases Int.le_total 0 p with h|h
 ·have:=Int.ediv_nonneg h (show(0:Int)<=2 ^ m by omega);have:=Int.ediv_le_self (2 ^ m) h;omega
 ·have g1:p / 2 ^ m<=0:=by have:=Int.ediv_le_ediv hpos h;simpa using this
  have g2:p<=p / 2 ^ m:=by rw[Int.le_ediv_iff_mul_le hpos];have:p*2 ^ m<=p*1:=Int.mul_le_mul_of_nonpos_left h (by omega);omega
  omega
theorem Bqz{k:IntKind}{a b:Int}(ha:E8 k a=true)(hb:E8 k b=true):E8 k (a.tmod b)=true:=by
 obtain⟨h1,h2⟩:=Mg ha;obtain⟨h3,h4⟩:=Mg hb;refine Ay8 ?_;have h5:(a.tmod b).natAbs<=a.natAbs:=by rw[Int.natAbs_tmod];exact Nat.mod_le _ _
 rcases Int.le_total 0 a with h|h
 ·have h6:=Int.tmod_nonneg b h;have:k.min<=0:=by cases k<;>simp[IntKind.min,IntKind.signed,IntKind.bits]
  omega
 ·have h6:a.tmod b<=0:=by have:=Int.tmod_nonneg b (show 0 <= -a by omega);rw[Int.neg_tmod] at this;omega
  have : 0<=k.max:=by cases k<;>simp[IntKind.max,IntKind.signed,IntKind.bits]
  omega
theorem Rep.u8{k:IntKind}{n:Int}{v:Value}(h:Rep x (.int k n) v):E8 k n=true:=by simp[Rep] at h;exact h.2
end
section
variable {P:Program}{e:Sx.Env}{t t':TypeId}{x y:Operand}{k:IntKind}{a b:Int}{l m:Str}
theorem Btb(hx:Sx.Env.ev e x=some (.int k a))(hy:Sx.Env.ev e y=some (.int k b)):Sx.Pure P e (.binOp .andNot t x y t') (.int k (Bf5 k a b)) :=Sx.p_bin hx hy (Sx.eqGuard_int _ _ _ _ _ _ _ _) λw=>by simp[binOp,Op.intBits,Bf5,Ajo]
theorem Bva(hx:Sx.Env.ev e x=some (Sx.S l))(hy:Sx.Env.ev e y=some (Sx.S m)):Sx.Pure P e (.binOp .leq t x y t') (.bool (Op.bytesLess l m||decide (l=m))) :=Sx.p_bin hx hy (Sx.eqGuard_str _ _ _ _ _ _) λw=>by simp[binOp,Op.stringOp];rw[Sx.beq_decide]
theorem Bto(hx:Sx.Env.ev e x=some (Sx.S l))(hy:Sx.Env.ev e y=some (Sx.S m)):Sx.Pure P e (.binOp .geq t x y t') (.bool (!Op.bytesLess l m)) :=Sx.p_bin hx hy (Sx.eqGuard_str _ _ _ _ _ _) λw=>by simp[binOp,Op.stringOp]
theorem Bid(hx:Sx.Env.ev e x=some (Sx.S l))(hy:Sx.Env.ev e y=some (Sx.S m)):Sx.Pure P e (.binOp .gtr t x y t') (.bool (!(Op.bytesLess l m||decide (l=m)))) :=Sx.p_bin hx hy (Sx.eqGuard_str _ _ _ _ _ _) λw=>by simp[binOp,Op.stringOp];rw[Sx.beq_decide]
theorem Bs4{n:Int}(hx:Sx.Env.ev e x=some (.int k n)):Sx.Pure P e (.unOp .xor t x) (.int k (Xh k (match k.signed with|true => -1|false=>k.max) n)):=λn' a' w o he ho=>by simp[execOp,ho,he.ev hx,Op.unary,Xh,Ajo];cases k<;>rfl
theorem Biz{op:BinOp}{c:Bool}{d:D}{vx:Vx}(h:Bun op k a b=some (c,d))(hc:c=true)(hx:Sx.Env.ev e x=some (.int k a))(hy:Sx.Env.ev e y=some (.int k b))(ha:E8 k a=true)(hb:E8 k b=true):∃v,Sx.Pure P e (.binOp op t x y t') v/\Rep vx d v:=by
 subst hc;have hu:∀n,Rep vx (.int k (k.wrap n)) (.int k (k.wrap n)):=λn=>C2 (Yh k n);unfold Bun at h;split at h<;>simp at h
 ·subst h;exact⟨_,Sx.p_add hx hy,hu _⟩
 ·subst h;exact⟨_,Sx.p_sub hx hy,hu _⟩
 ·subst h;exact⟨_,Sx.p_mul hx hy,hu _⟩
 ·obtain⟨hne,rfl⟩:=h;exact⟨_,Sx.p_quo hx hy hne,hu _⟩
 ·obtain⟨hne,rfl⟩:=h;exact⟨_,Sx.p_rem hx hy hne,C2 (Bqz ha hb)⟩
 ·subst h;exact⟨_,Sx.p_and hx hy,hu _⟩
 ·subst h;exact⟨_,Sx.p_or hx hy,hu _⟩
 ·subst h;exact⟨_,Sx.p_xor hx hy,hu _⟩
 ·subst h;exact⟨_,Btb hx hy,hu _⟩
 ·subst h;exact⟨_,Sx.p_eql hx hy,by rw[show(a == b)=decide (a=b) by rw[Bool.eq_iff_iff];simp];exact Bo _⟩
 ·subst h;exact⟨_,Sx.p_neq hx hy,by rw[show(a != b) = !decide (a=b) by rw[Bool.eq_iff_iff];simp];exact Bo _⟩
 ·subst h;exact⟨_,Sx.p_lss hx hy,Bo _⟩
 ·subst h;exact⟨_,Sx.p_leq hx hy,Bo _⟩
 ·subst h;exact⟨_,Sx.p_gtr hx hy,Bo _⟩
 ·subst h;exact⟨_,Sx.p_geq hx hy,Bo _⟩
theorem Bly{op:BinOp}{c:Bool}{d:D}{vx:Vx}(h:Bs2 op l m=some (c,d))(hc:c=true)(hx:Sx.Env.ev e x=some (Sx.S l))(hy:Sx.Env.ev e y=some (Sx.S m)):∃v,Sx.Pure P e (.binOp op t x y t') v/\Rep vx d v:=by
 subst hc;unfold Bs2 at h;split at h<;>simp only[Za1,Zp1,reduceCtorEq,Zg1,true_and] at h
 ·obtain⟨hl,rfl⟩:=h;exact⟨_,Sx.p_adds hx hy (by unfold A28 at hl;omega),Ke (by simp[A28] at hl;simp[maxLen];omega)⟩
 ·subst h;exact⟨_,Sx.p_eqls hx hy,Bo _⟩
 ·subst h;exact⟨_,Sx.p_neqs hx hy,Bo _⟩
 ·subst h;exact⟨_,Sx.p_lsss hx hy,Bo _⟩
 ·subst h;exact⟨_,Bva hx hy,Bo _⟩
 ·subst h;exact⟨_,Bid hx hy,Bo _⟩
 ·subst h;exact⟨_,Bto hx hy,Bo _⟩
end
def Wk(d e:D):Prop:=d=e\/(∃c xs t,d = .sl c xs t/\e = .sl c xs .no)\/∃n,d = .int .u8 n/\e = .int .u8 ((UInt8.ofNat n.toNat).toNat:Int)
def WkL:List D->List D->Prop
 |[],[]=>True
 |d::ds,e::es=>Wk d e/\WkL ds es
 |_,_=>False
theorem Bq4(d:D):Wk d d :=.inl rfl
theorem Bwj(c:Ck)(xs:List (El c))(t:Tk):Wk (.sl c xs t) (.sl c xs .no) :=.inr (.inl ⟨c,xs,t,rfl,rfl⟩)
theorem Bwe(n:Int):Wk (.int .u8 n) (.int .u8 ((UInt8.ofNat n.toNat).toNat:Int)) :=.inr (.inr ⟨n,rfl,rfl⟩)
theorem Bjw{c:Ck}{ds:List D}{y:El c}(h:dec c ds=some y):WkL ds (enc c y):=by
 unfold dec at h;split at h<;>simp only[Za1,reduceCtorEq] at h<;>subst h<;>simp only[enc,WkL,Xpr.kind,Xpr.v,Xpr.name,Xpr.l]<;>(repeat' apply And.intro)<;>first
  |exact Bq4 _
  |exact Bwj _ _ _
  |exact Bwe _
  |trivial
theorem WkL.get:∀{ds es:List D},WkL ds es->∀{j:Nat}{e:D},es[j]? = some e->∃d,ds[j]? = some d/\Wk d e
 |[],[],h,j,e,he=>by simp at he
 |d::ds,e0::es,h,j,e,he=>by simp only[WkL] at h;cases j with|zero=>simp at he;subst he;exact⟨d,by simp,h.1⟩|succ j=>obtain⟨d',h3,h4⟩:=WkL.get h.2 (by simpa using he);exact⟨d',by simpa using h3,h4⟩
 |[],_::_,h,_,_,_=>by simp[WkL] at h
 |_::_,[],h,_,_,_=>by simp[WkL] at h
theorem WkL.len:∀{ds es:List D},WkL ds es->ds.length=es.length
 |[],[],_=>rfl
 |d::ds,e0::es,h=>by simp only[WkL] at h;simp[WkL.len h.2]
 |[],_::_,h=>by simp[WkL] at h
 |_::_,[],h=>by simp[WkL] at h
theorem A2r{x:Vx}{d e:D}{v:Value}(h:Rep x d v)(hw:Wk d e)(hl:∃(c:Ck) (y:El c) (j:Nat),(enc c y)[j]? = some e):RF x.S x.w e v:=by
 have hfz:∀d',(∃k n,d' = .int k n)\/(∃b,d' = .bool b)\/(∃l,d' = .str l)\/(∃c xs,d' = .sl c xs .no)->Rep x d' v->RF x.S x.w d' v:=by
  rintro d' (⟨k,n,rfl⟩|⟨b,rfl⟩|⟨l,rfl⟩|⟨c,xs,rfl⟩) hr w' hw'
  ·simp only[Rep] at hr;rw[hr.1];exact .int k n hr.2
  ·simp only[Rep] at hr;rw[hr];exact .bool b
  ·simp only[Rep] at hr;rw[hr.1];exact .str l hr.2
  ·simp only[Rep] at hr;exact hr.1 w' hw'
 rcases hw with rfl|⟨c,xs,t,rfl,rfl⟩|⟨n,rfl,rfl⟩
 ·refine hfz d ?_ h;obtain⟨c,y,j,hj⟩:=hl;cases c<;>simp only[enc] at hj<;>(rcases j with _|_|_|_|_|_|_|_|_|_|_|_|_|_|_|_|_|_|j<;>simp at hj<;>subst hj<;>simp)
 ·simp only[Rep] at h;exact h.1
 ·simp only[Rep] at h;obtain⟨rfl,hu⟩:=h;have:=Bi4 hu;have e1:((UInt8.ofNat n.toNat).toNat:Int)=n:=by have:(UInt8.ofNat n.toNat).toNat=n.toNat % 256:=UInt8.toNat_ofNat';rw[this];omega
  intro w' _;rw[e1];exact .int _ _ hu
def ElR(x:Vx)(c:Ck)(y:El c)(vs:List Value):Prop:=vs.length=csz c/\∀(j:Nat) d,(enc c y)[j]? = some d->∃u,vs[j]? = some u/\RF x.S x.w d u
theorem Qf{x:Vx}{c:Ck}{ds:List D}{y:El c}{vs:List Value}(h:dec c ds=some y)(hr:Reps x ds vs):ElR x c y vs:=by have hw:=Bjw h;refine⟨by rw[hr.len,hw.len,Bu],λj d hd =>?_⟩;obtain⟨d',h1,h2⟩:=hw.get hd;obtain⟨u,h3,h4⟩:=hr.get h1;exact⟨u,h3,A2r h4 h2 ⟨c,y,j,hd⟩⟩
theorem A1g{w:World}{d:D}{v:Value}(h:FV w d v):Sx.one v=true:=by cases h<;>rfl
theorem ElR.one{x:Vx}{c:Ck}{y:El c}{vs:List Value}(h:ElR x c y vs):∀v,v∈vs->Sx.one v=true:=by
 intro v hv;obtain⟨j,hj,rfl⟩:=List.mem_iff_getElem.1 hv;have hlt:j<(enc c y).length:=by rw[Bu,<-h.1];exact hj
 obtain⟨u,hu,hf⟩:=h.2 j _ (Zo1 hlt);rw[Zo1 hj] at hu;simp only[Za1] at hu;rw[hu];exact A1g hf.here
theorem Agk{x:Vx}{d:D}{v:Value}(h:Rep x d v)(hl:lf d=true):Sx.one v=true:=by
 cases d<;>simp only[Rep] at h<;>simp only[lf,Zj2] at hl<;>first
  |(subst h;rfl)
  |(obtain⟨rfl,_⟩:=h;rfl)
  |(obtain⟨_,rfl⟩:=h;rfl)
  |(obtain⟨_,_,rfl,_⟩:=h;rfl)
  |(obtain⟨_,rfl,_⟩:=h;rfl)
  |(obtain⟨_,_,_,rfl,_⟩:=h;rfl)
  |(obtain⟨_,_,_,_,_,_,rfl,_⟩:=h;rfl)
  |exact A1g h.1.here
  |exact h.elim
theorem Agd{c:Ck}{y:El c}{j:Nat}{d:D}(h:(enc c y)[j]? = some d):lf d=true/\∀c' xs t,d = .sl c' xs t->t = .no:=by
 cases c<;>simp only[enc] at h<;>(rcases j with _|_|_|_|_|_|_|_|_|_|_|_|_|_|_|_|_|_|j<;>simp at h<;>subst h<;>simp[lf])
 all_goals (intros;subst_vars;simp_all)
theorem Bh8{x:Vx}{d:D}{v:Value}(h:RF x.S x.w d v)(ht:∀c xs t,d = .sl c xs t->t = .no):Rep x d v:=by have hh:=h.here;cases hh with|int k n hu=>exact C2 hu|bool b=>exact Bo b|str l hl=>exact Ke hl|nil c t a cap=>obtain rfl:=ht _ _ _ rfl;simp only[Rep];exact⟨h,trivial⟩|sl c xs t b o cap u hle hm hc h'=>obtain rfl:=ht _ _ _ rfl;simp only[Rep];exact⟨h,trivial⟩
theorem A6e{x:Vx}{c:Ck}{y:El c}{vs:List Value}(h:ElR x c y vs):(agg? c=true->Rep x (ofK c y) (.agg vs.toArray))/\(agg? c=false->∃v,vs=[v]/\Rep x (ofK c y) v):=by
 constructor
 ·intro ha;simp only[ofK,ha,Rep];exact⟨trivial,vs,rfl,h.1,h.2⟩
 ·intro ha;have h1:csz c=1:=by cases c<;>simp[agg?] at ha<;>rfl
  obtain⟨hl,h2⟩:=h;rw[h1] at hl;obtain⟨v,rfl⟩:=List.length_eq_one_iff.1 hl;refine⟨v,rfl,?_⟩;have he:∃d,enc c y=[d]:=List.length_eq_one_iff.1 (by rw[Bu,h1]);obtain⟨d,hd⟩:=he;simp only[ofK,ha,hd];obtain⟨u,hu,hf⟩:=h2 0 d (by simp[hd]);simp at hu;subst hu;exact Bh8 hf (Agd (c:=c) (y:=y) (j:=0) (by simp[hd])).2
theorem M3{x:Vx}{c:Ck}{d:D}{y:El c}{v:Value}(h:toK c d=some y)(hr:Rep x d v):ElR x c y v.cells.toList/\(agg? c=true->∃vs,v = .agg vs)/\(agg? c=false->Sx.one v=true):=by
 unfold toK at h;split at h
 ·split at h
  ·rename_i c' y' hc;subst hc;simp only[Za1] at h;subst h;simp only[Rep] at hr;obtain⟨ha,vs,rfl,hl,hr⟩:=hr;exact⟨⟨by simpa[Value.cells] using hl,by simpa[Value.cells] using hr⟩,λ_=>⟨_,rfl⟩,λh0=>by rw[ha] at h0;cases h0⟩
  ·cases h
 ·split at h
  ·rename_i ds ha;simp only[Rep] at hr;obtain⟨_,vs,rfl,hr⟩:=hr;exact⟨by simpa[Value.cells] using Qf h hr,λ_=>⟨_,rfl⟩,λh0=>by rw[ha] at h0;cases h0⟩
  ·cases h
 ·rename_i hn1 hn2;split at h
  ·cases h
  ·rename_i ha;have hlf:lf d=true:=by
    have hw:=Bjw h;have h1:csz c=1:=by cases c<;>simp[agg?] at ha<;>rfl
    obtain⟨e,he⟩:=List.length_eq_one_iff.1 ((Bu c y).trans h1);rw[he] at hw;simp only[WkL] at hw;replace hw:=hw.1;have hel:=(Agd (c:=c) (y:=y) (j:=0) (d:=e) (by simp[he])).1;rcases hw with rfl|⟨_,_,_,rfl,_⟩|⟨_,rfl,_⟩
    ·exact hel
    ·rfl
    ·rfl
   have hone:=Agk hr hlf;have hc:v.cells.toList=[v]:=by rw[Sx.one_cells hone]
   rw[hc];refine⟨Qf h (by simp only[Reps];exact⟨v,[],rfl,hr,rfl⟩),λh0 =>?_,λ_=>hone⟩;rw[ha] at h0;cases h0
theorem At.elR{S:Fp}{x:Vx}{c:Ck}{y:El c}{b o:Nat}(hS:x.S=S)(h:∀w',Chg S x.w w'->At w' c y b o):∃vs,ElR x c y vs/\∀(j:Nat) u,vs[j]? = some u->x.w.cell? ⟨b,o+j,none⟩=some u:=by
 subst hS;have h0:=h x.w (Chg.refl _ _);have key:∀(n:Nat),n<=csz c->∃vs:List Value,vs.length=n/\∀(j:Nat) u,vs[j]? = some u->x.w.cell? ⟨b,o+j,none⟩=some u:=by
  intro n;induction n with
  |zero=>intro _;exact⟨[],rfl,by simp⟩
  |succ n ih =>
   intro hn;obtain⟨vs,hl,hv⟩:=ih (by omega);obtain⟨u,hu,_⟩:=h0 n _ (Zo1 (by rw[Bu];omega));refine⟨vs++[u],by simp[hl],λj u' hj =>?_⟩;rw[List.getElem?_append] at hj;split at hj
   ·exact hv j u' hj
   ·rename_i hlt;have:j=n:=by
     rcases Nat.lt_or_ge (j-vs.length) 1 with h|h
     ·omega
     ·simp[List.getElem?_eq_none (l:=[u]) (by simpa using h)] at hj
    subst this;rw[hl] at hj;simp at hj;subst hj;exact hu
 obtain⟨vs,hl,hv⟩:=key (csz c) (Zn1 _);refine⟨vs,⟨hl,λj d hd =>?_⟩,hv⟩;have hlt:j<vs.length:=by rw[hl,<-Bu c y];exact(Zi2.1 hd).1
 refine⟨vs[j],Zo1 hlt,λw' hw' =>?_⟩;obtain⟨u,hu,hf⟩:=h w' hw' j d hd;obtain⟨u0,hu0,_⟩:=h0 j d hd;have h1:=hv j _ (Zo1 hlt);by_cases hS:x.S b (o+j)
 ·exfalso;have hc:Chg x.S x.w (x.w.setCell ⟨b,o+j,none⟩ .nilFunc):=by
   refine⟨rfl,rfl,rfl,by simp[World.setCell],λk _ hn=>Below.heap_setCell _ _ _ _ (λe=>hn (o+j) (by rw[e];exact hS)),λb' i v hv' hn =>?_,Amn _ _ _⟩;by_cases hb:b' = b
   ·subst hb;have hi:i≠o+j:=λe=>hn (e▸hS);simp only[World.cell?,World.setCell,Array.getElem?_modify,if_true] at hv' ⊢;cases hh:x.w.heap[b']? with
    |none=>simp[hh] at hv'
    |some ob =>
     cases ob<;>simp[hh] at hv' ⊢
     rw[Array.getElem?_setIfInBounds_ne (Ne.symm hi)];exact hv'
   ·rw[World.cell?_of_block (a:=⟨b',i,none⟩) (Below.heap_setCell _ _ _ _ hb)];exact hv'
  obtain⟨u2,hu2,hf2⟩:=h _ hc j d hd;have hset:(x.w.setCell ⟨b,o+j,none⟩ .nilFunc).cell? ⟨b,o+j,none⟩=some .nilFunc:=by
   simp only[World.cell?,World.setCell,Array.getElem?_modify,if_true] at h1 ⊢;cases hh:x.w.heap[b]? with
   |none=>simp[hh] at h1
   |some ob =>
    cases ob<;>simp[hh] at h1 ⊢
    have:=(Zh2.1 h1).1;simp[this]
  rw[hset] at hu2;simp only[Za1] at hu2;subst hu2;cases hf2
 ·have:=hw'.cell b (o+j) _ h1 hS;rw[this] at hu;simp only[Za1] at hu;rw[hu];exact hf
def Dz(x:Vx)(ds:List D)(vs:List Value):Prop:=vs.length=ds.length/\∀(j:Nat) d,ds[j]? = some d->∃u,vs[j]? = some u/\Rep x d u
theorem Gs{x:Vx}{ds:List D}{vs:List Value}(h:Reps x ds vs):Dz x ds vs:=⟨h.len,λ_ _ hd=>h.get hd⟩
theorem Dz.reps{x:Vx}{ds:List D}{vs:List Value}(h:Dz x ds vs):Reps x ds vs :=Reps.mk h.1 λi d v hd hv=>by obtain⟨u,hu,hr⟩:=h.2 i d hd;rw[hv] at hu;simp at hu;rw[hu];exact hr
theorem Hr{x:Vx}{c:Ck}{y:El c}{vs:List Value}(h:ElR x c y vs):Dz x (enc c y) vs :=⟨by rw[h.1,Bu],λj d hd=>by obtain⟨u,hu,hf⟩:=h.2 j d hd;exact⟨u,hu,Bh8 hf (Agd hd).2⟩⟩
theorem A4w(c:Ck)(y:El c):(enc c y).all lf=true:=by rw[Zg2];intro d hd;obtain⟨j,hj,rfl⟩:=List.mem_iff_getElem.1 hd;exact(Agd (Zo1 hj)).1
theorem Mi{x:Vx}{d:D}{v:Value}(h:Rep x d v)(hl:lfs d=true):Dz x (cells d) v.cells.toList:=by
 have leaf:lf d=true->cells d=[d]->Dz x (cells d) v.cells.toList:=λh1 h2=>by
  rw[h2,Sx.one_cells (Agk h h1)];exact⟨rfl,λj e he=>by
   cases j with
   |zero=>grind
   |succ j=>simp at he⟩
 cases d with|sv c y =>simp[Rep] at h;obtain⟨_,vs,rfl,hl,hr⟩:=h;simpa[Value.cells,cells] using Hr (x:=x) (c:=c) (y:=y) (vs:=vs) ⟨hl,hr⟩|agg ds =>simp[Rep] at h;obtain⟨_,vs,rfl,hr⟩:=h;simpa[Value.cells,cells] using Gs hr|rw c n xs=>simp[lfs,cells,lf] at hl|dn c xs=>simp[lfs,cells,lf] at hl|tup ds=>simp[lfs,cells,lf] at hl|undef=>simp[lfs,cells,lf] at hl|junk=>simp[lfs,cells,lf] at hl|_=>exact leaf rfl rfl
theorem Bcw{x:Vx}{ds:List D}{vs:List Value}(h:Dz x ds vs)(hl:ds.all lf=true):∀v,v∈vs->Sx.one v=true:=by
 intro v hv;obtain⟨j,hj,rfl⟩:=List.mem_iff_getElem.1 hv;have hlt:j<ds.length:=by rw[<-h.1];exact hj
 obtain⟨u,hu,hr⟩:=h.2 j _ (Zo1 hlt);rw[Zo1 hj] at hu;simp at hu;rw[hu];exact Agk hr (Zg2.1 hl _ (List.getElem_mem hlt))
theorem Dz.sub{x:Vx}{ds:List D}{vs:List Value}(h:Dz x ds vs)(o n:Nat):Dz x ((ds.drop o).take n) ((vs.drop o).take n):=by
 refine⟨by simp[h.1],λj d hd =>?_⟩;rw[List.getElem?_take] at hd;split at hd
 ·rename_i hj;rw[List.getElem?_drop] at hd;obtain⟨u,hu,hr⟩:=h.2 _ d hd;exact⟨u,by rw[List.getElem?_take,if_pos hj,List.getElem?_drop];exact hu,hr⟩
 ·cases hd
theorem Bou{ds:List D}(h:ds.all lf=true)(o n:Nat):((ds.drop o).take n).all lf=true:=by grind
theorem Awj{x:Vx}{t:Ty}{ds:List D}{off:Nat}{d:D}{vs:List Value}(h:part t ds off=some d)(hc:Dz x ds vs)(hl:ds.all lf=true) :
  (t.agg? = true->off+t.n<=vs.length/\Rep x d (.agg ((vs.drop off).take t.n).toArray))/\(t.agg? = false->∃u,vs[off]? = some u/\Rep x d u):=by
 unfold part at h;constructor
 ·intro ha;rw[ha] at h;simp only at h;split at h
  ·rename_i hle;simp at h;subst h;refine⟨by rw[hc.1];simpa using hle,?_⟩;simp only[Rep];exact⟨Bou hl _ _,_,rfl,(hc.sub off t.n).reps⟩
  ·cases h
 ·intro ha;rw[ha] at h;exact hc.2 off d h
section
variable {P:Program}{el:Ck->TypeId}{tt:Nat->Ty}{t:Nat}{w:World}
theorem Bl3(h:B8 P el tt t=true)(hn:tt t ≠ .no)(ha:(tt t).agg? = true){b o:Nat}{vs:List Value}(hl:vs.length=(tt t).n)(hc:∀(j:Nat) v,vs[j]? = some v->w.cell? ⟨b,o+j,none⟩=some v):(loadVar t ⟨b,o,none⟩).run P w = .ok (.agg vs.toArray) w:=by obtain⟨h1,h2,h3⟩:=Dp h hn;exact Sx.run_loadVarn (by simp[h1,h2,ha]) (by rw[h3,hl]) hc
theorem Agn(h:B8 P el tt t=true)(hn:tt t ≠ .no)(ha:(tt t).agg? = false){b o:Nat}{v:Value}(hc:w.cell? ⟨b,o,none⟩=some v):(loadVar t ⟨b,o,none⟩).run P w = .ok v w:=by obtain⟨h1,h2,_⟩:=Dp h hn;exact Sx.run_loadVar1 (by simp[h1,h2,ha]) hc
theorem At0{x:Vx}(h:B8 P el tt t=true)(hn:tt t ≠ .no){ds:List D}{off:Nat}{d:D}{vs:List Value}{b o:Nat}(hp:part (tt t) ds off=some d)(hc:Dz x ds vs)(hl:ds.all lf=true)(hm:∀(j:Nat) v,vs[j]? = some v->w.cell? ⟨b,o+j,none⟩=some v):∃v,(loadVar t ⟨b,o+off,none⟩).run P w = .ok v w/\Rep x d v:=by
 obtain⟨h1,h2⟩:=Awj hp hc hl;cases ha:(tt t).agg? with
 |true =>
  obtain⟨h3,h4⟩:=h1 ha;refine⟨_,Bl3 h hn ha (vs:=(vs.drop off).take (tt t).n) (by simp;omega) λj v hj =>?_,h4⟩;rw[List.getElem?_take] at hj;split at hj
  ·grind
  ·cases hj
 |false =>obtain⟨u,hu,hr⟩:=h2 ha;exact⟨u,Agn h hn ha (hm off u hu),hr⟩
theorem Ayn{x:Vx}(h:B8 P el tt t=true)(hn:tt t ≠ .no){c:Ck}{y:El c}{vs:List Value}{b o:Nat}(hsz:(tt t).n=csz c)(hag:(tt t).agg? = agg? c)(he:ElR x c y vs)(hm:∀(j:Nat) v,vs[j]? = some v->w.cell? ⟨b,o+j,none⟩=some v):∃v,(loadVar t ⟨b,o,none⟩).run P w = .ok v w/\Rep x (ofK c y) v:=by obtain⟨h1,h2⟩:=A6e he;cases ha:agg? c with|true=>exact⟨_,Bl3 h hn (by rw[hag,ha]) (by rw[he.1,hsz]) hm,h1 ha⟩|false =>obtain⟨v,rfl,hr⟩:=h2 ha;exact⟨v,Agn h hn (by rw[hag,ha]) (by simpa using hm 0 v (by simp)),hr⟩
end
section
variable {R:Type}{px:Px R}{cx:Cx}{m:Mp}{a:Act}{as_:List Act}{s:FS}{w:World}
theorem Eu{t:Ty}(h:t.known=true):t ≠ .no/\t ≠ .map:=by cases t<;>simp[Ty.known] at h<;>simp
def Aex(_px:Px R)(bl:Nat->Option Blk)(t:Ty):D->Option D
 |.ep c x off=>match Nat.beq off 0&&Nat.beq t.n (csz c)&&(t.agg? == agg? c) with|true=>some (ofK c x)|false=>part t (enc c x) off
 |.ptr b off=>match bl b with
  |some (.cells ds)=>part t ds off
  |some (.box c x)=>match Nat.beq off 0&&Nat.beq t.n (csz c)&&(t.agg? == agg? c) with|true=>some (ofK c x)|false=>part t (enc c x) off
  |some (.bld _ d)=>match Nat.beq off 1 && !t.agg? with|true=>some d|false=>none
  |_=>none
 |.rp b c0 n0 i=>match bl b with
  |some (.row c n xs)=>match Nat.beq t.n (csz c)&&(t.agg? == agg? c)&&decide (c0=c)&&Nat.beq n0 n with|true=>some (ofK c (at' c xs i))|false=>none
  |_=>none
 |_=>none
theorem A6c(st:St)(t:Ty)(d:D):load px st t d=Aex px (blk st.bl) t d:=by cases d<;>rfl
theorem Xp{c:Ck}{xs:List (El c)}{i:Int}(h : 0<=i/\i<(xs.length:Int)):xs[i.toNat]? = some (at' c xs i):=by
 have:i.toNat<xs.length:=by omega
 simp[at',this]
theorem Lj{vs:List Value}{t:TypeId}{b:Nat}(h:w.heap[b]? = some (.cells vs.toArray t (0,0))):∀(j:Nat) v,vs[j]? = some v->w.cell? ⟨b,0+j,none⟩=some v:=λj v hv=>by simp[World.cell?,h];simpa using hv
theorem Bs0{P:Program}{el:Ck->TypeId}{tt:Nat->Ty}{t:Nat}{x:Vx}(h:B8 P el tt t=true)(hn:tt t ≠ .no){c:Ck}{xs:List (El c)}{vs:List Value}{ty:TypeId}{β:Nat}{i:Int}(hsz:(tt t).n=csz c)(hag:(tt t).agg? = agg? c)(hh:w.heap[β]? = some (.cells vs.toArray ty (0,0)))(hlen:xs.length*csz c<=vs.length)(hreps:∀i y j d,xs[i]? = some y->(enc c y)[j]? = some d->∃u,vs[i*csz c+j]? = some u/\RF x.S x.w d u)(hi : 0<=i/\i<(xs.length:Int)):∃u,(loadVar t ⟨β,i.toNat*csz c,none⟩).run P w = .ok u w/\Rep x (ofK c (at' c xs i)) u:=by
 refine Ayn h hn (vs:=(vs.drop (i.toNat*csz c)).take (csz c)) hsz hag ⟨?_,λj d hd =>?_⟩ λj v hj =>?_
 ·have:i.toNat*csz c+csz c<=xs.length*csz c:=by rw[<-Nat.succ_mul];exact Nat.mul_le_mul_right _ (by omega)
  simp;omega
 ·obtain⟨u,hu,hf⟩:=hreps _ _ j d (Xp hi) hd;have hj:j<csz c:=by rw[<-Bu c (at' c xs i)];exact(Zi2.1 hd).1
  exact⟨u,by rw[List.getElem?_take,if_pos hj,List.getElem?_drop];exact hu,hf⟩
 ·rw[List.getElem?_take] at hj;split at hj
  ·rw[List.getElem?_drop] at hj;have:=Lj hh _ v hj;rwa[Nat.zero_add] at this
  ·cases hj
theorem Aqq(hp:PxOk cx px)(hr:Rel cx m a as_ s w){t:Nat}(hk:(px.tt t).known=true){p d:D}{v:Value}(h:Aex px s.bl (px.tt t) p=some d)(hv:Rep (vx cx m s w) p v):∃u,(Instr.loadAt t v).run cx.P w = .ok u w/\Rep (vx cx m s w) d u:=by
 have ht:=hp.tt t;obtain⟨hn,hg⟩:=Eu hk;have done:∀b o,v = .pointer (some ⟨b,o,none⟩)->(∃u,(loadVar t ⟨b,o,none⟩).run cx.P w = .ok u w/\Rep (vx cx m s w) d u)->∃u,(Instr.loadAt t v).run cx.P w = .ok u w/\Rep (vx cx m s w) d u:=by rintro b o rfl ⟨u,h1,h2⟩;exact⟨u,by simp[Instr.loadAt,Instr.sureAddr,h1],h2⟩
 unfold Aex at h;split at h
 ·rename_i c y off;simp[Rep] at hv;obtain⟨b,o,hv,hat⟩:=hv;obtain⟨vs,hel,hm⟩:=At.elR rfl hat;refine done b (o+off) hv ?_;split at h
  ·rename_i hb;simp only[Zb1,beq_iff_eq] at hb;simp at h;subst h;have h0:off=0:=Zl1 hb.1.1;subst h0;exact Ayn ht hn (Zl1 hb.1.2) hb.2 hel hm
  ·exact At0 ht hn h (Hr hel) (A4w c y) hm
 ·rename_i b off;simp[Rep] at hv;split at h
  ·rename_i ds hb;obtain⟨_,hl,vs,ty,hh,hreps⟩:=hr.blks b _ hb;have:=At0 (x:=vx cx m s w) (w:=w) (b:=m.bl b) (o:=0) ht hn h (Gs hreps) hl (Lj hh);rw[Nat.zero_add] at this;exact done _ _ hv.2 this
  ·rename_i c y hb;obtain⟨_,_,vs,ty,hh,hlen,hel⟩:=hr.blks b _ hb;have hel:ElR (vx cx m s w) c y vs:=⟨hlen,hel⟩;refine done _ _ hv.2 ?_;split at h
   ·rename_i hbq;simp only[Zb1,beq_iff_eq] at hbq;simp at h;subst h;have h0:off=0:=Zl1 hbq.1.1;subst h0;exact Ayn ht hn (Zl1 hbq.1.2) hbq.2 hel (Lj hh)
   ·have:=At0 (x:=vx cx m s w) (w:=w) (b:=m.bl b) (o:=0) ht hn h (Hr hel) (A4w c y) (Lj hh);rw[Nat.zero_add] at this;exact this
  ·rename_i T d0 hb;obtain⟨_,a0,v0,hh,_,hrep⟩:=(hr.blks b _ hb).2;have hh:w.heap[m.bl b]? = some (.cells #[a0,v0] T (0,0)):=hh;split at h
   ·rename_i hc;simp only[Zb1,Bool.not_eq_true'] at hc;obtain rfl:=Zl1 hc.1;simp at h;subst h;have hh2:w.heap[(vx cx m s w).m.bl b]? = some (.cells #[a0,v0] T (0,0)):=hh;exact done _ _ hv.2 ⟨v0,Agn ht hn hc.2 (by simp[World.cell?,hh2]),hrep⟩
   ·cases h
  ·cases h
 ·rename_i b c0 n0 i;simp[Rep] at hv;split at h
  ·rename_i c n xs hb;split at h
   ·rename_i hk;simp only[Zb1,beq_iff_eq,Zg1] at hk;obtain⟨⟨⟨h1,h2⟩,rfl⟩,h4⟩:=hk;have h4:=Zl1 h4;subst h4;simp at h;subst h;obtain⟨_,hnl,vs,ty,hh,hlen,hreps⟩:=hr.blks b _ hb;have hi : 0<=i/\i<(xs.length:Int):=by rw[hnl];exact hv.2.2
    refine done _ _ hv.2.1 (Ayn ht hn (vs:=(vs.drop (i.toNat*csz c0)).take (csz c0)) (Zl1 h1) h2 ⟨?_,λj d hd =>?_⟩ λj v hj =>?_)
    ·have:i.toNat*csz c0+csz c0<=xs.length*csz c0:=by rw[<-Nat.succ_mul];exact Nat.mul_le_mul_right _ (by omega)
     simp;omega
    ·obtain⟨u,hu,hf⟩:=hreps _ _ j d (Xp hi) hd;have hj:j<csz c0:=by rw[<-Bu c0 (at' c0 xs i)];exact(Zi2.1 hd).1
     exact⟨u,by rw[List.getElem?_take,if_pos hj,List.getElem?_drop];exact hu,hf⟩
    ·rw[List.getElem?_take] at hj;split at hj
     ·rw[List.getElem?_drop] at hj;have:=Lj hh _ v hj;rwa[Nat.zero_add] at this
     ·cases hj
   ·cases h
  ·cases h
 ·cases h
end
end Go.Ax
