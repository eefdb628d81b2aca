/- Texts of the proof,one behind the other: AxA,AxB,AxC,SxA,SxB,SxC,SxD,SxE,SxF,SxG,SxH,SxI,SxJ,AxD,AxE,AxF,AxG,AxH. -/
import Derived.WalkKit
import Derived.WalkSpells
import Derived.WalkLawsBesides
import Derived.MapKept
import Derived.Laws.IdiomStrings
import Derived.Still
import Derived.Laws.StructEq
import Derived.CallsIn
import Derived.RangeFuncRecord
set_option linter.all false
namespace Go
abbrev Ya1:=Option
abbrev Yb1:=List
theorem Za1:type_of% @Option.some.injEq:=@Option.some.injEq
theorem Zb1:type_of% @Bool.and_eq_true:=@Bool.and_eq_true
theorem Zc1:type_of% @Option.bind_some:=@Option.bind_some
theorem Zd1:type_of% @decide_eq_false:=@decide_eq_false
theorem Ze1:type_of% @decide_eq_true:=@decide_eq_true
theorem Zf1:type_of% @List.length_cons:=@List.length_cons
theorem Zg1:type_of% @decide_eq_true_eq:=@decide_eq_true_eq
theorem Zh1:type_of% @List.length_append:=@List.length_append
theorem Zi1:type_of% @List.length_nil:=@List.length_nil
theorem Zj1:type_of% @List.append_assoc:=@List.append_assoc
theorem Zk1:type_of% @List.drop_eq_nil_of_le:=@List.drop_eq_nil_of_le
theorem Zl1:type_of% @Nat.eq_of_beq_eq_true:=@Nat.eq_of_beq_eq_true
theorem Zm1:type_of% @Nat.not_lt_zero:=@Nat.not_lt_zero
theorem Zn1:type_of% @Nat.le_refl:=@Nat.le_refl
theorem Zo1:type_of% @List.getElem?_eq_getElem:=@List.getElem?_eq_getElem
theorem Zp1:type_of% @Prod.mk.injEq:=@Prod.mk.injEq
theorem Zq1:type_of% @List.drop_zero:=@List.drop_zero
theorem Zr1:type_of% @List.mem_cons_self:=@List.mem_cons_self
theorem Zs1:type_of% @Bool.not_false:=@Bool.not_false
theorem Zt1:type_of% @Bool.not_true:=@Bool.not_true
theorem Zu1:type_of% @List.mem_cons_of_mem:=@List.mem_cons_of_mem
theorem Zv1:type_of% @List.all_cons:=@List.all_cons
theorem Zw1:type_of% @List.map_cons:=@List.map_cons
theorem Zx1:type_of% @Nat.lt_of_lt_of_le:=@Nat.lt_of_lt_of_le
theorem Zy1:type_of% @decide_eq_decide:=@decide_eq_decide
theorem Zz1:type_of% @List.flatten_cons:=@List.flatten_cons
theorem Za2:type_of% @List.length_drop:=@List.length_drop
theorem Zb2:type_of% @List.cons_append:=@List.cons_append
theorem Zc2:type_of% @List.drop_length:=@List.drop_length
theorem Zd2:type_of% @Bool.or_eq_true:=@Bool.or_eq_true
theorem Ze2:type_of% @List.cons.injEq:=@List.cons.injEq
theorem Zf2:type_of% @List.nil_append:=@List.nil_append
theorem Zg2:type_of% @List.all_eq_true:=@List.all_eq_true
theorem Zh2:type_of% @Array.getElem?_eq_some_iff:=@Array.getElem?_eq_some_iff
theorem Zi2:type_of% @List.getElem?_eq_some_iff:=@List.getElem?_eq_some_iff
theorem Zj2:type_of% @Bool.false_eq_true:=@Bool.false_eq_true
theorem Zk2:type_of% @Array.getElem?_eq_getElem:=@Array.getElem?_eq_getElem
theorem Zl2:type_of% @Option.map_some:=@Option.map_some
end Go
namespace Go.Ax
abbrev Str:=Yb1 UInt8
structure Val where
 kind:Int
 n:Int
 s:Str
 deriving DecidableEq
structure Tok where
 kind:Int
 pos:Int
 s:Str
 n:Int
 deriving DecidableEq
structure Col where
 name:Str
 kind:Int
 notNull:Bool
 unique:Bool
 ref:Str
 deriving DecidableEq
inductive Xpr where
 |mk (kind:Int) (v:Val) (name:Str) (l:List Xpr)
def Xpr.kind:Xpr->Int|.mk k _ _ _=>k
def Xpr.v:Xpr->Val|.mk _ v _ _=>v
def Xpr.name:Xpr->Str|.mk _ _ n _=>n
def Xpr.l:Xpr->Yb1 Xpr|.mk _ _ _ l=>l
structure Num where
 minus:Bool
 d:List Int
structure SetE where
 name:Str
 e:Xpr
structure Stm where
 kind:Int
 name:Str
 on:Str
 cols:List Col
 names:List Str
 l:List Xpr
 rows:List (List Xpr)
 sets:List SetE
 has:Bool
 whr:Xpr
 order:List Str
 desc:List Bool
 most:Int
structure GotS where
 pos:Int
 bad:Bool
 deriving DecidableEq
structure PairS where
 sign:Str
 kind:Int
 deriving DecidableEq
structure Idx where
 name:Str
 cols:List Str
structure Tbl where
 name:Str
 cols:List Col
 key:List Str
 checks:List Xpr
 idx:List Idx
inductive NodeS where
 |mk (kind:Int) (path:List UInt8) (has:Bool) (val:List UInt8) (kids:List NodeS) (hash:List UInt8)
def NodeS.kind:NodeS->Int|.mk k _ _ _ _ _=>k
def NodeS.path:NodeS->Yb1 UInt8|.mk _ p _ _ _ _=>p
def NodeS.has:NodeS->Bool|.mk _ _ h _ _ _=>h
def NodeS.val:NodeS->Yb1 UInt8|.mk _ _ _ v _ _=>v
def NodeS.kids:NodeS->Yb1 NodeS|.mk _ _ _ _ l _=>l
def NodeS.hash:NodeS->Yb1 UInt8|.mk _ _ _ _ _ h=>h
structure KvS where
 key:List UInt8
 val:List UInt8
structure LayS where
 l:List KvS
 e:Int
structure SpanS where
 low:List UInt8
 high:List UInt8
 op:Bool
structure EntS where
 kind:Int
 p:KvS
structure ResS where
 rows:List (List Val)
 n:Int
structure OutS where
 e:Int
 pos:Int
 l:List ResS
inductive Ck where
 |byte|int|u64|str|bool|val|tok|col|expr|num|vals|exprs|strs|bytes|set|stmt|got|pair|idx|tbl|node|kv|kvs|lay|stt|res|outc|ent|span
 deriving DecidableEq
@[reducible] def El:Ck->Type|.byte=>UInt8|.int=>Int|.u64=>Int|.str=>Str|.bool=>Bool|.val=>Val|.tok=>Tok|.col=>Col|.expr=>Xpr|.num=>Num|.vals=>Yb1 Val|.exprs=>Yb1 Xpr|.strs=>Yb1 Str|.bytes=>Yb1 UInt8|.set=>SetE|.stmt=>Stm|.got=>GotS|.pair=>PairS|.idx=>Idx|.tbl=>Tbl|.node=>NodeS|.kv=>KvS|.kvs=>Yb1 KvS|.lay=>LayS|.stt=>NodeS|.res=>ResS|.outc=>OutS|.ent=>EntS|.span=>SpanS
inductive Tk where
 |no|nil|id (n:Nat)|z|ne|zn|f
inductive D where
 |bool (b:Bool)
 |int (k:IntKind) (n:Int)
 |str (l:Str)
 |sl (c:Ck) (xs:List (El c)) (t:Tk)
 |sv (c:Ck) (x:El c)
 |ep (c:Ck) (x:El c) (off:Nat)
 |ptr (b off:Nat)
 |nilp
 |gp (g:Nat)
 |gm (l:List (Int×Str))
 |osl (b:Nat) (c:Ck) (lo len:Int)
 |dp (b:Nat) (c:Ck) (i:Int)
 |dn (c:Ck) (xs:List (El c))
 |rp (b:Nat) (c:Ck) (n:Nat) (i:Int)
 |rw (c:Ck) (n:Nat) (xs:List (El c))
 |fn (f:Nat) (caps:List D)
 |bm (f:Nat) (first:List D)
 |nilfn
 |yl (b:Nat)
 |agg (ds:List D)
 |tup (ds:List D)
 |undef
 |junk
def enc:(c:Ck)->El c->Yb1 D|.byte,b=>[.int .u8 (b.toNat:Int)]|.int,n=>[.int .i64 n]|.u64,n=>[.int .u64 n]|.str,s=>[.str s]|.bool,b=>[.bool b]|.val,v=>[.int .i64 v.kind,.int .i64 v.n,.str v.s]|.tok,t=>[.int .i64 t.kind,.int .i64 t.pos,.str t.s,.int .i64 t.n]|.col,c=>[.str c.name,.int .i64 c.kind,.bool c.notNull,.bool c.unique,.str c.ref]|.expr,e=>[.int .i64 e.kind,.int .i64 e.v.kind,.int .i64 e.v.n,.str e.v.s,.str e.name,.sl .expr e.l .no]|.num,n=>[.bool n.minus,.sl .int n.d .no]|.vals,l=>[.sl .val l .no]|.exprs,l=>[.sl .expr l .no]|.strs,l=>[.sl .str l .no]|.bytes,l=>[.sl .byte l .no]|.set,s=>[.str s.name,.int .i64 s.e.kind,.int .i64 s.e.v.kind,.int .i64 s.e.v.n,.str s.e.v.s,.str s.e.name,.sl .expr s.e.l .no]|.stmt,s=>[.int .i64 s.kind,.str s.name,.str s.on,.sl .col s.cols .no,.sl .str s.names .no,.sl .expr s.l .no,.sl .exprs s.rows .no,.sl .set s.sets .no,.bool s.has,.int .i64 s.whr.kind,.int .i64 s.whr.v.kind,.int .i64 s.whr.v.n,.str s.whr.v.s,.str s.whr.name,.sl .expr s.whr.l .no,.sl .str s.order .no,.sl .bool s.desc .no,.int .i64 s.most]|.got,g=>[.int .i64 g.pos,.bool g.bad]|.pair,p=>[.str p.sign,.int .i64 p.kind]|.idx,x=>[.str x.name,.sl .str x.cols .no]|.tbl,t=>[.str t.name,.sl .col t.cols .no,.sl .str t.key .no,.sl .expr t.checks .no,.sl .idx t.idx .no]|.node,n=>[.int .i64 n.kind,.sl .byte n.path .no,.bool n.has,.sl .byte n.val .no,.sl .node n.kids .no,.sl .byte n.hash .no]|.kv,p=>[.sl .byte p.key .no,.sl .byte p.val .no]|.kvs,l=>[.sl .kv l .no]|.lay,y=>[.sl .kv y.l .no,.int .i64 y.e]|.stt,n=>[.int .i64 n.kind,.sl .byte n.path .no,.bool n.has,.sl .byte n.val .no,.sl .node n.kids .no,.sl .byte n.hash .no]|.res,r=>[.sl .vals r.rows .no,.int .i64 r.n]|.outc,o=>[.int .i64 o.e,.int .i64 o.pos,.sl .res o.l .no]|.ent,x=>[.int .i64 x.kind,.sl .byte x.p.key .no,.sl .byte x.p.val .no]|.span,x=>[.sl .byte x.low .no,.sl .byte x.high .no,.bool x.op]
def dec:(c:Ck)->Yb1 D->Ya1 (El c)|.byte,[.int .u8 n]=>some (UInt8.ofNat n.toNat)|.int,[.int .i64 n]=>some n|.u64,[.int .u64 n]=>some n|.str,[.str s]=>some s|.bool,[.bool b]=>some b|.val,[.int .i64 k,.int .i64 n,.str s]=>some ⟨k,n,s⟩|.tok,[.int .i64 k,.int .i64 a,.str s,.int .i64 n]=>some ⟨k,a,s,n⟩|.col,[.str a,.int .i64 k,.bool n,.bool u,.str r]=>some ⟨a,k,n,u,r⟩|.expr,[.int .i64 k,.int .i64 a,.int .i64 n,.str s,.str nm,.sl .expr l _]=>some (.mk k ⟨a,n,s⟩ nm l)|.num,[.bool m,.sl .int d _]=>some ⟨m,d⟩|.vals,[.sl .val l _]=>some l|.exprs,[.sl .expr l _]=>some l|.strs,[.sl .str l _]=>some l|.bytes,[.sl .byte l _]=>some l|.set,[.str sn,.int .i64 k,.int .i64 a,.int .i64 n,.str s,.str nm,.sl .expr l _]=>some ⟨sn,.mk k ⟨a,n,s⟩ nm l⟩|.stmt,[.int .i64 k,.str nm,.str on,.sl .col cs _,.sl .str ns _,.sl .expr l _,.sl .exprs rs _,.sl .set ss _,.bool h,.int .i64 wk,.int .i64 wa,.int .i64 wn,.str ws,.str wm,.sl .expr wl _,.sl .str os _,.sl .bool ds _,.int .i64 m]=>some ⟨k,nm,on,cs,ns,l,rs,ss,h,.mk wk ⟨wa,wn,ws⟩ wm wl,os,ds,m⟩|.got,[.int .i64 a,.bool b]=>some ⟨a,b⟩|.pair,[.str s,.int .i64 k]=>some ⟨s,k⟩|.idx,[.str n,.sl .str l _]=>some ⟨n,l⟩|.tbl,[.str n,.sl .col cs _,.sl .str ks _,.sl .expr es _,.sl .idx xs _]=>some ⟨n,cs,ks,es,xs⟩|.node,[.int .i64 k,.sl .byte p _,.bool h,.sl .byte v _,.sl .node l _,.sl .byte s _]=>some (.mk k p h v l s)|.kv,[.sl .byte k _,.sl .byte v _]=>some ⟨k,v⟩|.kvs,[.sl .kv l _]=>some l|.lay,[.sl .kv l _,.int .i64 e]=>some ⟨l,e⟩|.stt,[.int .i64 k,.sl .byte p _,.bool h,.sl .byte v _,.sl .node l _,.sl .byte s _]=>some (.mk k p h v l s)|.res,[.sl .vals l _,.int .i64 n]=>some ⟨l,n⟩|.outc,[.int .i64 e,.int .i64 p,.sl .res l _]=>some ⟨e,p,l⟩|.ent,[.int .i64 n,.sl .byte k _,.sl .byte v _]=>some ⟨n,⟨k,v⟩⟩|.span,[.sl .byte l _,.sl .byte h _,.bool b]=>some ⟨l,h,b⟩|_,_=>none
def agg? : Ck->Bool|.val|.tok|.col|.expr|.num|.set|.stmt|.got|.pair|.idx|.tbl|.node|.kv|.lay|.stt|.res|.outc|.ent|.span=>true|_=>false
def csz:Ck->Nat|.val=>3|.tok=>4|.col=>5|.expr=>6|.num=>2|.set=>7|.stmt=>18|.got=>2|.pair=>2|.idx=>2|.tbl=>5|.node=>6|.kv=>2|.lay=>2|.stt=>6|.res=>2|.outc=>3|.ent=>3|.span=>3|_=>1
def zer:(c:Ck)->El c|.byte=>0|.int=>0|.u64=>0|.str=>[]|.bool=>false|.val=>⟨0,0,[]⟩|.tok=>⟨0,0,[],0⟩|.col=>⟨[],0,false,false,[]⟩|.expr=>.mk 0 ⟨0,0,[]⟩ [] []|.num=>⟨false,[]⟩|.vals=>[]|.exprs=>[]|.strs=>[]|.bytes=>[]|.set=>⟨[],.mk 0 ⟨0,0,[]⟩ [] []⟩|.stmt=>⟨0,[],[],[],[],[],[],[],false,.mk 0 ⟨0,0,[]⟩ [] [],[],[],0⟩|.got=>⟨0,false⟩|.pair=>⟨[],0⟩|.idx=>⟨[],[]⟩|.tbl=>⟨[],[],[],[],[]⟩|.node=>.mk 0 [] false [] [] []|.kv=>⟨[],[]⟩|.kvs=>[]|.lay=>⟨[],0⟩|.stt=>.mk 0 [] false [] [] []|.res=>⟨[],0⟩|.outc=>⟨0,0,[]⟩|.ent=>⟨0,⟨[],[]⟩⟩|.span=>⟨[],[],false⟩
def ofK(c:Ck)(x:El c):D:=match agg? c with
 |true=>.sv c x
 |false=>match enc c x with|d::_=>d|[]=>.undef
def cells:D->Yb1 D|.sv c x=>enc c x|.agg ds=>ds|d=>[d]
def toK(c:Ck):D->Ya1 (El c)
 |.sv a x=>if h:a = c then some (h▸x)else none
 |.agg ds=>match agg? c with|true=>dec c ds|false=>none
 |d=>match agg? c with|true=>none|false=>dec c [d]
def toS(c:Ck):D->Ya1 (Yb1 (El c))|.sl a xs _=>if h:a = c then some (h▸xs)else none|_=>none
def lf:D->Bool|.sv _ _|.rw _ _ _|.dn _ _|.agg _|.tup _|.undef|.junk=>false|_=>true
def lfs(d:D):Bool:=(cells d).all lf
inductive Sg where
 |int (k:IntKind)
 |bool
 |str
 |sl (c:Ck) (own:Bool)
 |sv (c:Ck)
 |rw (c:Ck) (n:Nat)
 |dn (c:Ck)
 |nl (c:Ck)
@[reducible] def den:Sg->Type|.int _=>Int|.bool=>Bool|.str=>Str|.sl c _=>Yb1 (El c)|.sv c=>El c|.rw c _=>Yb1 (El c)|.dn c=>Yb1 (El c)|.nl _=>Unit
@[reducible] def HV:Yb1 Sg->Type|[]=>Unit|[a]=>den a|a::b::l=>den a×HV (b::l)
def C9(i:Nat):(s:Sg)->den s->D|.int k,n=>.int k n|.bool,b=>.bool b|.str,l=>.str l|.sl c true,xs=>.sl c xs (.id i)|.sl c false,xs=>.sl c xs .no|.sv c,x=>.sv c x|.rw c n,xs=>.rw c n xs|.dn c,xs=>.dn c xs|.nl c,_=>.sl c [] .nil
def Ca:(i:Nat)->(l:Yb1 Sg)->HV l->Yb1 D|_,[],_=>[]|i,[a],x=>[C9 i a x]|i,a::b::l,(x,y)=>C9 i a x::Ca (i+1) (b::l) y
def Bb(i:Nat):Yb1 Sg->Yb1 Nat|[]=>[]|.sl _ true::l=>i::Bb (i+1) l|_::l=>Bb (i+1) l
def Gi(al:Yb1 Nat):Tk->Ya1 (Yb1 Nat)
 |.no=>none
 |.nil=>some al
 |.id t=>match al.contains t with|true=>some (al.filter λu=> !Nat.beq u t)|false=>none
 |.z=>none
 |.ne=>none
 |.zn=>none
 |.f=>none
def A84(al:Yb1 Nat):(s:Sg)->D->Ya1 (den s×Yb1 Nat)
 |.int k,.int k' n=>match decide (k' = k)with|true=>some (n,al)|false=>none
 |.bool,.bool b=>some (b,al)
 |.str,.str l=>some (l,al)
 |.sl c own,.sl c' xs t=>if h:c' = c then match own with
   |true=>match Gi al t with|some a=>some (h▸xs,a)|none=>none
   |false=>some (h▸xs,al)else none
 |.sv c,d=>match agg? c,toK c d with|true,some x=>some (x,al)|_,_=>none
 |.rw c n,.rw c' n' xs=>if h:c' = c then match Nat.beq n' n with|true=>some (h▸xs,al)|false=>none else none
 |.dn c,.dn c' xs=>if h:c' = c then some (h▸xs,al)else none
 |.nl c,.sl c' xs t=>match t with
  |.nil=>match decide (c' = c)with
   |true=>match List.isEmpty xs with|true=>some ((),al)|false=>none
   |false=>none
  |_=>none
 |_,_=>none
def Nk:(l:Yb1 Sg)->Yb1 Nat->Yb1 D->Ya1 (HV l)
 |[],_,[]=>some ()
 |[a],al,[d]=>match A84 al a d with|some (x,_)=>some x|none=>none
 |a::b::l,al,d::ds=>match A84 al a d with
  |some (x,al')=>match Nk (b::l) al' ds with|some y=>some (x,y)|none=>none
  |none=>none
 |_,_,_=>none
inductive Ty where
 |int (k:IntKind)
 |bool
 |str
 |sl (c:Ck)
 |st (c:Option Ck) (fs:List (Nat×Nat)) (z:List D)
 |arr (n:Nat) (c:Ck)
 |ptr
 |fn
 |map
 |no
def Ty.zero:Ty->Ya1 D|.int k=>some (.int k 0)|.bool=>some (.bool false)|.str=>some (.str [])|.sl c=>some (.sl c [] .nil)|.st _ _ z=>some (.agg z)|.arr n c=>some (.agg ((List.replicate n (enc c (zer c))).flatten))|.ptr=>some .nilp|.fn=>some .nilfn|_=>none
def Ty.n:Ty->Nat|.st _ _ z=>z.length|.arr n c=>n*csz c|_=>1
def Ty.agg? : Ty->Bool|.st _ _ _|.arr _ _=>true|_=>false
def Ty.known:Ty->Bool|.no|.map=>false|_=>true
def Ty.isSl(c:Ck):Ty->Bool|.sl a=>decide (a = c)|_=>false
def Ty.isStr:Ty->Bool|.str=>true|_=>false
abbrev Env:=Yb1 (Nat×D)
def get:Env->Nat->Ya1 D|[],_=>none|(k,v)::e,n=>match Nat.beq k n with|true=>some v|false=>get e n
inductive Ex where
 |normal
 |exit (id:Nat)
 |ret
inductive Blk where
 |cells (ds:List D)
 |box (c:Ck) (y:El c)
 |row (c:Ck) (n:Nat) (xs:List (El c))
 |dyn (c:Ck) (xs:List (El c))
 |bld (t:Nat) (d:D)
 |ob (k:Nat)
 |lr (s:Nat) (n:Nat) (ps:List Nat) (asg body:Code) (env:List (Nat×D))
 |lj (e:Ex)
 |lx (j:Int) (n:Nat) (ps:List Nat) (asg body:Code) (env:List (Nat×D)) (q:Nat)
structure Fr where
 n:Nat
 env:Env
 lb:Nat
 lt:Nat
 df:List D
structure St where
 n:Nat
 env:Env
 lb:Nat
 lt:Nat
 fr:List Fr
 bl:List (Nat×Blk)
 nb:Nat
 tk:List Nat
 nt:Nat
 df:List D
def blk:Yb1 (Nat×Blk)->Nat->Ya1 Blk|[],_=>none|(k,v)::e,n=>match Nat.beq k n with|true=>some v|false=>blk e n
def Du:Yb1 (Nat×Blk)->Nat->Blk->Yb1 (Nat×Blk)|[],_,_=>[]|(k,v)::e,n,u=>match Nat.beq k n with|true=>(k,u)::e|false=>(k,v)::Du e n u
def Br:Yb1 (Nat×Blk)->Nat->Yb1 (Nat×Blk)|[],_=>[]|(k,v)::e,n=>match Nat.beq k n with|true=>Br e n|false=>(k,v)::Br e n
def St.put(st:St)(d:Nat)(v:D):St:={ st with env:=(d,v)::st.env }
inductive Gv where
 |arr (c:Ck) (xs:List (El c))
 |map (l:List (Int×Str))
 |num (k:IntKind)
structure Px (R:Type) where
 tt:Nat->Ty
 gl:Nat->Option Gv
 call:Nat->List D->St->(List D->St->Option R)->Option R
 callQ:Nat->List D->(List D->Option R)->Option R
 loop:Code->St->(Ex->St->Option R)->Option R
 callW:Nat->Option (List D->St->(D->List Nat->St->Option R)->Option R)
 yld:Nat->List D->St->(D->St->Option R)->Option R:=λ_ _ _ _=>none
def Fy(k:IntKind)(n:Int):Bool:=decide (k.min<=n)&&decide (n<=k.max)
def Bqk(s:ByteArray):Bool:=Nat.ble s.data.toList.length 1048576
def B3y:D->Value->Ya1 D
 |.int _ _,.int k n=>match Fy k n with|true=>some (.int k n)|false=>none
 |.bool _,.bool b=>some (.bool b)
 |.str _,.string s=>match Bqk s with|true=>some (.str s.data.toList)|false=>none
 |.sl c _ _,.slice none 0 0=>some (.sl c [] .nil)
 |.nilp,.pointer none=>some .nilp
 |.nilfn,.nilFunc=>some .nilfn
 |_,_=>none
def A23:Yb1 D->Yb1 Value->Ya1 (Yb1 D)
 |[],[]=>some []
 |z::zs,v::vs=>match B3y z v with
  |some d=>match A23 zs vs with|some ds=>some (d::ds)|none=>none
  |none=>none
 |_,_=>none
def cst(t:Ty):Value->Ya1 D
 |.int k n=>match Fy k n with|true=>some (.int k n)|false=>none
 |.bool b=>some (.bool b)
 |.string s=>match Bqk s with|true=>some (.str s.data.toList)|false=>none
 |.slice none 0 0=>match t with|.sl c=>some (.sl c [] .nil)|_=>none
 |.pointer none=>some .nilp
 |.nilFunc=>some .nilfn
 |.agg cs=>match t with
  |.st _ _ z=>match A23 z cs.toList with|some ds=>some (.agg ds)|none=>none
  |_=>none
 |_=>some .junk
section
variable {R:Type}
def ev(px:Px R)(st:St)(t:Nat):Operand->Ya1 D|.tmp i=>get st.env i|.const v=>cst (px.tt t) v|.global g=>some (.gp g)|.func f=>some (.fn f [])
def evs(px:Px R)(st:St):Yb1 Nat->Yb1 Operand->Ya1 (Yb1 D)
 |_,[]=>some []
 |ts,x::xs=>match ev px st (ts.headD 0) x with
  |none=>none
  |some v=>match evs px st ts.tail xs with|none=>none|some vs=>some (v::vs)
def wr(k:IntKind)(n:Int):Int:=k.wrap n
def bat(l:Str)(i:Int):Int:=((l.getD i.toNat 0).toNat:Int)
def Anr(k:IntKind)(f:BitVec k.bits->BitVec k.bits->BitVec k.bits)(x y:Int):Int:=k.wrap ((f (BitVec.ofInt k.bits x) (BitVec.ofInt k.bits y)).toNat:Int)
def Ht(k:IntKind)(x y:Int):Int:=Anr k (· &&& ·) x y
def ior(k:IntKind)(x y:Int):Int:=Anr k (· ||| ·) x y
def Qg(k:IntKind)(x y:Int):Int:=Anr k (· ^^^ ·) x y
def Boi(k:IntKind)(x y:Int):Int:=Anr k (λa b=>a &&& ~~~b) x y
def W0(k:IntKind)(x y:Int):Int:=k.wrap (x*2 ^ min y.toNat k.bits)
def Ek(k:IntKind)(x y:Int):Int:=x.fdiv (2 ^ min y.toNat k.bits)
def B38(op:BinOp)(k:IntKind)(x y:Int):Ya1 (Bool×D):=match op with|.add=>some (true,.int k (wr k (x+y)))|.sub=>some (true,.int k (wr k (x-y)))|.mul=>some (true,.int k (wr k (x*y)))|.quo=>some (!decide (y=0),.int k (wr k (x.tdiv y)))|.rem=>some (!decide (y=0),.int k (x.tmod y))|.and=>some (true,.int k (Ht k x y))|.or=>some (true,.int k (ior k x y))|.xor=>some (true,.int k (Qg k x y))|.andNot=>some (true,.int k (Boi k x y))|.eql=>some (true,.bool (decide (x=y)))|.neq=>some (true,.bool (!decide (x=y)))|.lss=>some (true,.bool (decide (x<y)))|.leq=>some (true,.bool (decide (x<=y)))|.gtr=>some (true,.bool (decide (y<x)))|.geq=>some (true,.bool (decide (y<=x)))|_=>none
def A9s:Nat:=4611686018427387904
def B2i(op:BinOp)(l m:Str):Ya1 (Bool×D):=match op with|.add=>some (decide (l.length+m.length<=A9s),.str (l++m))|.eql=>some (true,.bool (decide (l=m)))|.neq=>some (true,.bool (!decide (l=m)))|.lss=>some (true,.bool (Op.bytesLess l m))|.leq=>some (true,.bool (Op.bytesLess l m||decide (l=m)))|.gtr=>some (true,.bool (!(Op.bytesLess l m||decide (l=m))))|.geq=>some (true,.bool (!Op.bytesLess l m))|_=>none
def eqK:(c:Ck)->El c->El c->Ya1 Bool|.val,a,b=>some (decide (a=b))|.tok,a,b=>some (decide (a=b))|.col,a,b=>some (decide (a=b))|_,_,_=>none
def Bw7(t:Ty)(a b:D):Ya1 Bool:=match t with
 |.st (some c) _ _=>match toK c a with
  |some x=>match toK c b with|some y=>eqK c x y|none=>none
  |none=>none
 |_=>none
def Bae:D->Bool|.sl _ [] .nil=>true|_=>false
def Bsv:Tk->Ya1 Bool|.nil=>some true|.ne=>some false|.zn=>some false|_=>none
def B3r(op:BinOp)(t:Ty)(e:Bool)(tk:Tk)(b:D):Ya1 (Bool×D):=match t with
 |.sl _=>match Bae b with
  |true=>match op,Bsv tk with|.eql,none=>some (!e,.bool false)|.neq,none=>some (!e,.bool true)|.eql,some q=>some (e,.bool q)|.neq,some q=>some (e,.bool (!q))|_,_=>none
  |false=>none
 |_=>none
def Bpy:D->Ya1 Bool|.nilp=>some true|.ptr _ _|.ep _ _ _|.gp _|.rp _ _ _ _|.dp _ _ _=>some false|_=>none
def Bgx:D->Bool|.nilp=>true|_=>false
def Byw(op:BinOp)(t:Ty)(a b:D):Ya1 (Bool×D):=match t with
 |.ptr=>match Bpy a,Bgx b with
  |some q,true=>match op with|.eql=>some (true,.bool q)|.neq=>some (true,.bool (!q))|_=>none
  |_,_=>none
 |_=>none
def bin(op:BinOp)(t:Ty)(a b:D):Ya1 (Bool×D):=match a with
 |.int k x=>match b with
  |.int c y=>match op with
   |.shl=>some (decide (0<=y),.int k (W0 k x y))
   |.shr=>some (decide (0<=y),.int k (Ek k x y))
   |op=>match decide (k=c)with|true=>B38 op k x y|false=>none
  |_=>none
 |.str l=>match b with|.str m=>B2i op l m|_=>none
 |.bool x=>match b with
  |.bool y=>match t with
   |.bool=>match op with|.eql=>some (true,.bool (decide (x=y)))|.neq=>some (true,.bool (!decide (x=y)))|_=>none
   |_=>none
  |_=>none
 |.sl _ xs tk=>B3r op t xs.isEmpty tk b
 |_=>match op with
  |.eql=>match Bw7 t a b with|some r=>some (true,.bool r)|none=>Byw .eql t a b
  |.neq=>match Bw7 t a b with|some r=>some (true,.bool (!r))|none=>Byw .neq t a b
  |_=>none
def un(op:UnOp)(a:D):Ya1 D:=match op,a with
 |.not,.bool b=>some (.bool (!b))
 |.neg,.int k n=>some (.int k (wr k (0-n)))
 |.xor,.int k n=>some (.int k (Qg k (match k.signed with|true=> -1|false=>k.max) n))
 |_,_=>none
def Wz:Yb1 (Int×Str)->Int->Str|[],_=>[]|(k,s)::l,n=>match decide (k=n)with|true=>s|false=>Wz l n
def inb(i:Int)(n:Nat):Bool:=decide (0<=i)&&decide (i<(n:Int))
def upto(i j:Int)(n:Nat):Bool:=decide (0<=i)&&decide (i<=j)&&decide (j<=(n:Int))
def cut{α:Type}(l:Yb1 α)(i j:Int):Yb1 α:=(l.drop i.toNat).take (j.toNat-i.toNat)
def at'(c:Ck)(xs:Yb1 (El c))(i:Int):El c:=xs.getD i.toNat (zer c)
def Bli(c:Ck):Nat->Yb1 D->Ya1 (Yb1 (El c))
 |0,[]=>some []
 |0,_=>none
 |n+1,ds=>match dec c (ds.take (csz c))with
  |some x=>match Bli c n (ds.drop (csz c))with|some xs=>some (x::xs)|none=>none
  |none=>none
def Baq(c:Ck):Yb1 D->Ya1 (Yb1 (El c))
 |[]=>some []
 |d::ds=>match toK c d with
  |some x=>match Baq c ds with|some xs=>some (x::xs)|none=>none
  |none=>none
def part(t:Ty)(ds:Yb1 D)(off:Nat):Ya1 D:=match t.agg? with
 |true=>match Nat.ble (off+t.n) ds.length with|true=>some (.agg ((ds.drop off).take t.n))|false=>none
 |false=>ds[off]?
def write(ds:Yb1 D)(off:Nat):Yb1 D->Yb1 D|[]=>ds|v::vs=>write (ds.set off v) (off+1) vs
def Ah:Nat:=274877906944
def chk(b:Bool)(x:Ya1 R):Ya1 R:=cond b x none
def load(_px:Px R)(st:St)(t:Ty):D->Ya1 D
 |.ep c x off=>match Nat.beq off 0&&Nat.beq t.n (csz c)&&(t.agg? == agg? c)with|true=>some (ofK c x)|false=>part t (enc c x) off
 |.ptr b off=>match blk st.bl b with
  |some (.cells ds)=>part t ds off
  |some (.box c x)=>match Nat.beq off 0&&Nat.beq t.n (csz c)&&(t.agg? == agg? c)with|true=>some (ofK c x)|false=>part t (enc c x) off
  |some (.bld _ d)=>match Nat.beq off 1 && !t.agg? with|true=>some d|false=>none
  |_=>none
 |.rp b c0 n0 i=>match blk st.bl b with
  |some (.row c n xs)=>match Nat.beq t.n (csz c)&&(t.agg? == agg? c)&&decide (c0=c)&&Nat.beq n0 n with|true=>some (ofK c (at' c xs i))|false=>none
  |_=>none
 |_=>none
def Ayp(px:Px R)(s f:Nat):Ya1 (Nat×Ty):=match px.tt s with
 |.st _ fs _=>match fs[f]? with|some (o,u)=>some (o,px.tt u)|none=>none
 |_=>none
def Aw5(px:Px R)(s:Nat)(z:Yb1 D):Yb1 (Nat×D)->Ya1 (Yb1 D)
 |[]=>some z
 |(f,d)::l=>match Ayp px s f with
  |some (o,u)=>match Nat.beq (cells d).length u.n&&Nat.ble (o+(cells d).length) z.length&&lfs d&&u.known with|true=>Aw5 px s (write z o (cells d)) l|false=>none
  |none=>none
def B5z(px:Px R)(s f:Nat):Nat:=match px.tt s with
 |.st _ fs _=>match fs[f]? with|some (_,u)=>u|none=>0
 |_=>0
def Boa(px:Px R)(st:St)(s:Nat):Yb1 (Nat×Operand)->Ya1 (Yb1 (Nat×D))
 |[]=>some []
 |(i,x)::xs=>match ev px st (B5z px s i) x with
  |none=>none
  |some v=>match Boa px st s xs with|none=>none|some vs=>some ((i,v)::vs)
def Bo1:Yb1 (Nat×Operand)->Nat|[]=>0|(i,_)::_=>i
def Aug(px:Px R)(st:St):Nat->Yb1 (Nat×Operand)->Ya1 (Yb1 D)
 |_,[]=>some []
 |i,(j,x)::xs=>match Nat.beq i j with
  |true=>match ev px st 0 x with
   |none=>none
   |some v=>match Aug px st (i+1) xs with|none=>none|some vs=>some (v::vs)
  |false=>none
def Bnl:D->Blk|.sv c y=>.box c y|d=>.cells (cells d)
def A8u(t:Nat):Yb1 D->Blk|[.nilp,.sl .byte [] .nil]=>.bld t (.sl .byte [] .nil)|ds=>.cells ds
def Ej(st:St):St:={ st with tk:=st.nt::st.tk,nt:=st.nt+1 }
def Hr(st:St)(b:Blk):St:={ st with bl:=(st.nb,b)::st.bl,nb:=st.nb+1 }
def Hh:Yb1 D->D|[d]=>d|ds=>.tup ds
def T3(st:St)(c:Ck)(s x:D)(K:D->St->Ya1 R):Ya1 R:=match s with
 |.sl a xs t=>if h:a = c then match Gi st.tk t with
   |none=>none
   |some al=>match toS c x with
    |none=>none
    |some ys=>chk (decide (xs.length+ys.length<=Ah)) (K (.sl c ((h▸xs:Yb1 (El c))++ys) (.id st.nt)) (Ej { st with tk:=al }))else none
 |_=>none
def A0n(st:St)(c:Ck)(s x:D)(K:D->St->Ya1 R):Ya1 R:=match s with
 |.sl c' xs .f=>if h:c' = c then match toS c x with|none=>none|some ys=>cond ys.isEmpty (K (.sl c (h▸xs) .f) st) (chk (decide (xs.length+ys.length<=Ah)) (K (.sl c ((h▸xs:Yb1 (El c))++ys) (.id st.nt)) (Ej st)))else none
 |s=>T3 st c s x K
def Cr{α:Type}(xs:Yb1 α)(o:Nat)(l:Yb1 α):Yb1 α:=xs.take o++(l++xs.drop (o+l.length))
def Brq(st:St)(c0:Ck)(s x:D)(K:D->St->Ya1 R):Ya1 R:=match s with
 |.osl b c1 s n=>match blk st.bl b with
  |some (.dyn c xs)=>match toS c x,decide (c1=c)&&decide (c0=c)&&Nat.beq (csz c) 1 with
   |some ys,true=>chk (decide (0<=s)&&decide (0<=n)&&decide (s+n<=(xs.length:Int))) (K (.int .i64 ((min n.toNat ys.length:Nat):Int)) { st with bl:=Du st.bl b (.dyn c (Cr xs s.toNat (ys.take n.toNat))) })
   |_,_=>none
  |_=>none
 |_=>none
def A9a(l:Str)(lo hi:Ya1 D)(K:D->Ya1 R):Ya1 R:=match lo,hi with|some (.int _ i),none=>chk (upto i l.length l.length) (K (.str (l.drop i.toNat)))|none,some (.int _ j)=>chk (upto 0 j l.length) (K (.str (l.take j.toNat)))|some (.int _ i),some (.int _ j)=>chk (upto i j l.length) (K (.str (cut l i j)))|_,_=>none
def Ba8(c:Ck)(l:Yb1 (El c))(lo hi:Ya1 D)(K:D->Ya1 R):Ya1 R:=match lo,hi with|none,none=>K (.sl c l .no)|some (.int _ i),none=>chk (upto i l.length l.length) (K (.sl c (l.drop i.toNat) .no))|none,some (.int _ j)=>chk (upto 0 j l.length) (K (.sl c (l.take j.toNat) .no))|some (.int _ i),some (.int _ j)=>chk (upto i j l.length) (K (.sl c (cut l i j) .no))|_,_=>none
def upI(i j n:Int):Bool:=decide (0<=i)&&decide (i<=j)&&decide (j<=n)
def inO(i n:Int):Bool:=decide (0<=i)&&decide (i<n)
def Bbf(b:Nat)(c:Ck)(s n:Int)(lo hi:Ya1 D)(K:D->Ya1 R):Ya1 R:=match lo,hi with|none,none=>K (.osl b c s n)|some (.int _ i),none=>chk (upI i n n) (K (.osl b c (s+i) (n-i)))|none,some (.int _ j)=>chk (upI 0 j n) (K (.osl b c s j))|some (.int _ i),some (.int _ j)=>chk (upI i j n) (K (.osl b c (s+i) (j-i)))|_,_=>none
def Bqw(px:Px R)(ty:Ty)(x:D)(lo hi:Ya1 D)(K:D->Ya1 R):Ya1 R:=match x with
 |.str l=>match ty.isStr with|true=>A9a l lo hi K|false=>none
 |.sl c l _=>match ty.isSl c with|true=>Ba8 c l lo hi K|false=>none
 |.osl b c s n=>match ty.isSl c with|true=>Bbf b c s n lo hi K|false=>none
 |.gp g=>match px.gl g,ty,lo,hi with
  |some (.arr c xs),.arr n c',none,none=>match Nat.beq xs.length n&&decide (c=c')&&Nat.ble n 1048576 with|true=>K (.sl c xs .no)|false=>none
  |_,_,_,_=>none
 |_=>none
def min2(x y:Int):Int:=if y<x then y else x
def max2(x y:Int):Int:=if x<y then y else x
def Aci(ty:Ty)(b:Builtin)(args:Yb1 D):Ya1 D:=match b,args with
 |.len,[.str l]=>match ty.isStr with|true=>some (.int .i64 l.length)|false=>none
 |.len,[.sl c xs _]=>match ty.isSl c with|true=>some (.int .i64 xs.length)|false=>none
 |.len,[.osl _ c _ n]=>match ty.isSl c with|true=>some (.int .i64 n)|false=>none
 |.min,[.int k x,.int k' y]=>match decide (k=k')with|true=>some (.int k (min2 x y))|false=>none
 |.max,[.int k x,.int k' y]=>match decide (k=k')with|true=>some (.int k (max2 x y))|false=>none
 |_,_=>none
def evo(px:Px R)(st:St):Ya1 Operand->Ya1 (Ya1 D)|none=>some none|some x=>match ev px st 0 x with|some d=>some (some d)|none=>none
def W5(px:Px R)(o:Oper)(st:St)(K:D->Ya1 R):Ya1 R:=match o.op with
 |.move x=>match ev px st o.type x with|some d=>K d|none=>none
 |.assign x=>match ev px st o.type x with|some d=>K d|none=>none
 |.pick c a b=>match ev px st 0 c,ev px st o.type a,ev px st o.type b with|some (.bool x),some u,some v=>cond x (K u) (K v)|_,_,_=>none
 |.build t ps=>match px.tt t with
  |.st _ _ z=>match Boa px st t ps.toList with
   |some l=>match Aw5 px t z l with|some ds=>K (.agg ds)|none=>none
   |none=>none
  |.arr n c=>match Aug px st (Bo1 ps.toList) ps.toList with
   |some l=>match Nat.beq (Bo1 ps.toList+l.length) n&&l.all λd=>lfs d&&Nat.beq (cells d).length (csz c)with|true=>K (.agg ((List.replicate (Bo1 ps.toList) (enc c (zer c))).flatten++(l.map cells).flatten))|false=>none
   |none=>none
  |_=>none
 |.load t x=>match ev px st 0 x with
  |some (.gp g)=>match px.tt t,px.gl g with|.map,some (.map l)=>K (.gm l)|_,_=>none
  |some (.dp b c i)=>match blk st.bl b with
   |some (.dyn c' xs)=>match Nat.beq (px.tt t).n (csz c')&&((px.tt t).agg? == agg? c')&&decide (c=c')&&(px.tt t).known with|true=>chk (inb i xs.length) (K (ofK c' (at' c' xs i)))|false=>none
   |_=>none
  |some p=>match(px.tt t).known,load px st (px.tt t) p with|true,some d=>K d|_,_=>none
  |none=>none
 |.nilCheck x=>match ev px st 0 x with|some (.ptr b o)=>K (.ptr b o)|some (.ep c x o)=>K (.ep c x o)|some (.gp g)=>K (.gp g)|some (.rp b c n i)=>K (.rp b c n i)|some (.dp b c i)=>K (.dp b c i)|some (.fn f cs)=>K (.fn f cs)|_=>none
 |.binOp op t x y t'=>match ev px st t x,ev px st t' y with
  |some a,some b=>match bin op (px.tt t) a b with|some (c,d)=>chk c (K d)|none=>none
  |_,_=>none
 |.unOp op t x=>match ev px st t x with
  |some a=>match un op a with|some d=>K d|none=>none
  |none=>none
 |.convert s t x=>match ev px st s x,px.tt t with
  |some (.int _ n),.int k=>match(px.tt s).known with|true=>K (.int k (wr k n))|false=>none
  |some (.str l),.str=>match(px.tt s).known with|true=>K (.str l)|false=>none
  |some (.sl .byte xs _),.str=>match(px.tt s).isSl .byte with|true=>K (.str xs)|false=>none
  |_,_=>none
 |.slice t x lo hi none=>match ev px st t x,evo px st lo,evo px st hi with|some d,some i,some j=>Bqw px (px.tt t) d i j K|_,_,_=>none
 |.slice t x none (some y) (some z)=>match ev px st t x,ev px st 0 y,ev px st 0 z with
  |some (.sl c l _),some (.int _ j),some (.int _ k)=>match(px.tt t).isSl c&&decide (j=k)with|true=>chk (upto 0 j l.length) (K (.sl c (l.take j.toNat) .f))|false=>none
  |_,_,_=>none
 |.fieldAddr s x f=>match ev px st 0 x,Ayp px s f with|some (.ptr b o),some (fo,_)=>K (.ptr b (o+fo))|some (.ep c x o),some (fo,_)=>K (.ep c x (o+fo))|_,_=>none
 |.field s x f=>match ev px st s x,Ayp px s f with
  |some d,some (fo,u)=>match u.known&&lfs d&&(match d with|.sv _ _=>true|.agg _=>true|_=>false),part u (cells d) fo with|true,some v=>K v|_,_=>none
  |_,_=>none
 |.indexAddr t x y=>match ev px st t x,ev px st 0 y with
  |some (.sl c xs _),some (.int _ i)=>match(px.tt t).isSl c with|true=>chk (inb i xs.length) (K (.ep c (at' c xs i) 0))|false=>none
  |some (.gp g),some (.int _ i)=>match px.gl g,px.tt t with
   |some (.arr c xs),.arr n c'=>match Nat.beq xs.length n&&decide (c=c')with|true=>chk (inb i n) (K (.ep c (at' c xs i) 0))|false=>none
   |_,_=>none
  |some (.ptr b 0),some (.int _ i)=>match blk st.bl b,px.tt t with
   |some (.row c n' _),.arr n c'=>match decide (c=c')&&Nat.beq n' n with|true=>chk (inb i n) (K (.rp b c n i))|false=>none
   |_,_=>none
  |some (.osl b c s n),some (.int _ i)=>match(px.tt t).isSl c with|true=>chk (inO i n) (K (.dp b c (s+i)))|false=>none
  |_,_=>none
 |.index t x y=>match ev px st t x,ev px st 0 y with
  |some (.str l),some (.int _ i)=>match(px.tt t).isStr with|true=>chk (inb i l.length) (K (.int .u8 (bat l i)))|false=>none
  |some (.agg ds),some (.int _ i)=>match px.tt t with
   |.arr n c=>match Bli c n ds with|some xs=>chk (inb i n) (K (ofK c (at' c xs i)))|none=>none
   |_=>none
  |_,_=>none
 |.lookup t x y false=>match ev px st 0 x,ev px st 0 y,px.tt t with|some (.gm l),some (.int .i64 i),.map=>K (.str (Wz l i))|_,_,_=>none
 |.extract x i=>match ev px st 0 x with
  |some (.tup ds)=>match ds[i]? with|some d=>K d|none=>none
  |_=>none
 |.makeFunc (.func f) ⟨[]⟩ ⟨cs⟩=>match evs px st [] cs with|some ds=>K (.fn f ds)|none=>none
 |.makeFunc (.func f) ⟨c::cs⟩ ⟨[]⟩=>match evs px st [] (c::cs)with|some ds=>K (.bm f ds)|none=>none
 |.call ⟨.builtin b,xs,ts⟩=>match evs px st ts.toList xs.toList with
  |some ds=>match Aci (px.tt (ts.toList.headD 0)) b ds with|some d=>K d|none=>none
  |none=>none
 |_=>none
def B1y:Yb1 (Nat×Operand)->Ya1 (Yb1 Value)|[(0,.const (.agg cs))]=>some cs.toList|_=>none
def Amo(px:Px R)(st:St)(c:Ck)(len:Nat)(ps:Yb1 (Nat×Operand)):Ya1 (Yb1 (El c)):=match B1y ps with
 |some cs=>match A23 (enc c (zer c)) cs with
  |some ds=>match agg? c&&Nat.beq len 1,dec c ds with|true,some x=>some [x]|_,_=>none
  |none=>none
 |none=>match Aug px st 0 ps with
  |some l=>match Nat.beq l.length len&&Nat.ble (len*csz c) 16777216,Baq c l with|true,some xs=>some xs|_,_=>none
  |none=>none
def step(px:Px R)(o:Oper)(st:St)(K:D->St->Ya1 R):Ya1 R:=match o.op with
 |.alloc t=>match px.tt t with
  |.arr n c=>K (.ptr st.nb 0) (Hr st (.row c n (List.replicate n (zer c))))
  |ty=>match ty.zero with|some z=>K (.ptr st.nb 0) (Hr st (A8u t (cells z)))|none=>none
 |.makeSlice t x y=>match px.tt t,ev px st 0 x,ev px st 0 y with|.sl c,some (.int _ n),some (.int _ q)=>chk (upI 0 n q&&decide (q<=(Ah:Int))) (K (.osl st.nb c 0 n) (Hr st (.dyn c (List.replicate q.toNat (zer c)))))|_,_,_=>none
 |.box t x=>match ev px st t x with
  |some d=>match lfs d with|true=>K (.ptr st.nb 0) (Hr st (Bnl d))|false=>none
  |none=>none
 |.buildSlice t len ps=>match px.tt t with
  |.sl c=>match Amo px st c len ps.toList with|some xs=>K (.sl c xs (.id st.nt)) (Ej st)|none=>none
  |_=>none
 |.convert s t x=>match ev px st s x,px.tt t with
  |some (.str l),.sl .byte=>match(px.tt s).isStr with|true=>chk (decide (l.length<=Ah)) (K (.sl .byte l .no) st)|false=>none
  |_,_=>W5 px o st λd=>K d st
 |.call ⟨.builtin .append,⟨[x,y]⟩,⟨[t,t']⟩⟩=>match px.tt t,ev px st t x,ev px st t y,Nat.beq t t' with
  |.sl c,some s,some d,true=>A0n st c s d K
  |.sl .byte,some s,some (.str l),false=>match(px.tt t').isStr with|true=>T3 st .byte s (.sl .byte l .no) K|false=>none
  |_,_,_,_=>none
 |.call ⟨.builtin .copy,⟨[x,y]⟩,⟨[t,_]⟩⟩=>match px.tt t,ev px st t x,ev px st t y with|.sl c,some s,some d=>Brq st c s d K|_,_,_=>none
 |.call ⟨.value f,xs,ts⟩=>match ev px st 0 f with
  |some (.fn g caps)=>match evs px st ts.toList xs.toList with|some ds=>px.call g (ds++caps) st λrs st'=>K (Hh rs) st'|none=>none
  |some (.bm g fs)=>match evs px st ts.toList xs.toList with|some ds=>px.call g (fs++ds) st λrs st'=>K (Hh rs) st'|none=>none
  |_=>none
 |_=>W5 px o st λd=>K d st
def Bvu:Tk->Tk|.id _=>.no|t=>t
def A7:D->D|.sl c xs t=>.sl c xs (Bvu t)|d=>d
def B1s:D->D|.sl c xs _=>.sl c xs .f|d=>d
def Ajr:Nat->Bool|177=>true|178=>true|69=>true|151=>true|154=>true|112=>true|128=>true|62=>true|_=>false
def Bd0(px:Px R)(g:Nat)(args:Yb1 D)(st:St)(K:D->Yb1 Nat->St->Ya1 R):Ya1 R:=match Ajr g,px.callW g with|false,some F=>F args st K|_,_=>px.callQ g args λrs=>K (Hh (rs.map A7)) [] st
def Bu3(px:Px R)(o:Oper)(st:St)(K:D->Yb1 Nat->St->Ya1 R):Ya1 R:=match o.op with
 |.buildSlice _ _ _=>step px o st λd _=>K (B1s d) [] st
 |.convert _ _ _=>step px o st λd _=>K (A7 d) [] st
 |.alloc _=>match blk st.bl st.nb with|none=>step px o st λd st'=>K d [] st'|some _=>none
 |.box _ _=>match blk st.bl st.nb with|none=>step px o st λd st'=>K d [] st'|some _=>none
 |.makeSlice _ _ _=>match blk st.bl st.nb with|none=>step px o st λd st'=>K d [] st'|some _=>none
 |.call ⟨.value f,xs,ts⟩=>match ev px st 0 f with
  |some (.fn g caps)=>match evs px st ts.toList xs.toList with|some ds=>Bd0 px g (ds++caps) st K|none=>none
  |some (.bm g fs)=>match evs px st ts.toList xs.toList with|some ds=>Bd0 px g (fs++ds) st K|none=>none
  |_=>none
 |.call ⟨.builtin .copy,⟨[x,_]⟩,⟨[t,_]⟩⟩=>match ev px st t x with|some (.osl b _ _ _)=>step px o st λd st'=>K d [b] st'|_=>none
 |_=>step px o st λd st'=>K d [] st'
def B2z:D->Bool|.sl .byte _ _=>true|_=>false
def A89(ds:Yb1 D)(off:Nat)(d:D):Blk:=match d with
 |.sv c y=>match Nat.beq off 0&&Nat.beq ds.length (csz c)with|true=>.box c y|false=>.cells (write ds off (cells (.sv c y)))
 |d=>.cells (write ds off (cells d))
def Abn(px:Px R)(o:Oper)(st:St)(K:St->Ya1 R):Ya1 R:=match o.op with
 |.store t x y=>match ev px st 0 x,ev px st t y with
  |some (.ptr b off),some d=>match blk st.bl b with
   |some (.bld ty _)=>match Nat.beq off 1&&B2z d&&(px.tt t).isSl .byte with
    |true=>K { st with bl:=Du st.bl b (.bld ty d) }
    |false=>none
   |_=>match(match blk st.bl b with
    |some (.cells ds)=>some ds
    |some (.box c y)=>some (enc c y)
    |_=>none)with
    |some ds=>match Nat.beq (cells d).length (px.tt t).n&&Nat.ble (off+(cells d).length) ds.length&&lfs d&&(px.tt t).known with
     |true=>K { st with bl:=Du st.bl b (A89 ds off d) }
     |false=>none
    |_=>none
  |some (.rp b c0 n0 i),some d=>match blk st.bl b with
   |some (.row c n xs)=>match toK c d,Nat.beq (px.tt t).n (csz c)&&decide (c0=c)&&Nat.beq n0 n&&(px.tt t).known with
    |some x,true=>K { st with bl:=Du st.bl b (.row c n (xs.set i.toNat x)) }
    |_,_=>none
   |_=>none
  |some (.dp b c0 i),some d=>match blk st.bl b with
   |some (.dyn c xs)=>match toK c d,Nat.beq (px.tt t).n (csz c)&&decide (c0=c)&&(px.tt t).known with
    |some x,true=>chk (inb i xs.length) (K { st with bl:=Du st.bl b (.dyn c (xs.set i.toNat x)) })
    |_,_=>none
   |_=>none
  |_,_=>none
 |_=>none
def Bgz(px:Px R)(o:Oper)(st:St)(K:St->Ya1 R):Ya1 R:=match o.op with
 |.defer ⟨.value f,⟨[]⟩,_⟩=>match ev px st 0 f with
  |some (.fn g caps)=>K { st with df:=.fn g caps::st.df }
  |_=>none
 |_=>Abn px o st K
def wsN(px:Px R)(o:Oper)(st:St):Yb1 Nat:=match o.op with
 |.store _ x _=>match ev px st 0 x with|some (.ptr b _)=>[b]|some (.rp b _ _ _)=>[b]|some (.dp b _ _)=>[b]|_=>[]
 |_=>[]
def Buo(px:Px R)(o:Oper)(st:St):Ya1 (Nat×Yb1 D):=match o.op with
 |.call ⟨.value (.tmp f),xs,ts⟩=>match get st.env f with
  |some (.yl b)=>match evs px st ts.toList xs.toList with|some ds=>some (b,ds)|none=>none
  |_=>none
 |_=>none
def one(px:Px R)(o:Oper)(st:St)(K:St->Ya1 R):Ya1 R:=match o.dst with
 |some d=>match Nat.blt d st.n with
  |true=>match Buo px o st with|some (b,ds)=>px.yld b ds st λv st'=>K (st'.put d v)|none=>step px o st λv st'=>K (st'.put d v)
  |false=>none
 |none=>Bgz px o st K
def off(o:Oper)(st:St):St:=match o.dst with|some d=>st.put d .undef|none=>st
def opG(px:Px R)(all:Array Oper)(o:Oper)(st:St)(K:St->Ya1 R):Ya1 R:=match o.guard with
 |none=>one px o st K
 |some (j,b)=>match(all[j]?).bind (·.dst)with
  |none=>none
  |some g=>match get st.env g with
   |some (.bool x)=>cond x (match b with
      |true=>one px o (st.put g (.bool true)) K
      |false=>K (off o (st.put g (.bool true)))) (match b with
      |false=>one px o (st.put g (.bool false)) K
      |true=>K (off o (st.put g (.bool false))))
   |some .undef=>K (off o st)
   |_=>none
def Nj(x:Operand)(d:Nat):Bool:=match x with|.tmp k=> !Nat.beq k d|_=>true
def Amc(px:Px R)(o o2 o3:Oper)(st:St):Ya1 (Bool×St):=match o.op with
 |.call ⟨.builtin .append,⟨[x,z]⟩,⟨[t,t']⟩⟩=>match o2.op with
  |.indexAddr t2 (.tmp a) i=>match o3.op with
   |.store u (.tmp b) y=>match o.dst,o2.dst,o3.dst with
    |some d,some d2,none=>match o.guard.isNone&&o2.guard.isNone&&o3.guard.isNone&&Nat.beq t t'&&Nat.beq t2 t&&Nat.beq a d&&Nat.beq b d2 && !Nat.beq d d2&&Nat.blt d st.n&&Nat.blt d2 st.n&&Nj i d&&Nj y d&&Nj y d2 with
     |true=>match px.tt t,ev px st t x,ev px st t z,ev px st 0 i,ev px st u y with
      |.sl c,some (.sl c' xs tk),some zs,some (.int _ n),some dy=>match toS c zs,toK c dy,Gi st.tk tk,Nat.beq (px.tt u).n (csz c)&&(px.tt u).known with
       |some [_],some e,some al,true=>if h:c' = c then some (decide (xs.length+1<=Ah)&&decide (n=(xs.length:Int)),(((Ej { st with tk:=al }).put d (.sl c ((h▸xs:Yb1 (El c))++[e]) (.id st.nt))).put d2 .junk))else none
       |_,_,_,_=>none
      |_,_,_,_,_=>none
     |false=>none
    |_,_,_=>none
   |_=>none
  |_=>none
 |_=>none
def ops(px:Px R)(all:Array Oper):Yb1 Oper->St->(St->Ya1 R)->Ya1 R|[],st,K=>K st|[o],st,K=>opG px all o st K|[o,o2],st,K=>opG px all o st λst'=>ops px all [o2] st' K|o::o2::o3::l,st,K=>match Amc px o o2 o3 st with|some p=>chk p.1 (ops px all l p.2 K)|none=>opG px all o st λst'=>ops px all (o2::o3::l) st' K
def Gm(ops:Array Oper):Nat->Oper->Nat->Bool|0,_,_=>false|n+1,o,i=>o.after.any λe=>Region.binds .any e&&Nat.ble i e.on&&(Nat.beq e.on i||match ops[e.on]? with|some p=>Gm ops n p i|none=>false)
def B1q(ops:Array Oper)(j:Nat):Bool:=match ops[j]? with|some o=>(List.range j).all λq=>Gm ops 12 o q|none=>false
def Gl(ops:Array Oper):Nat->Nat|0=>0|n+1=>match B1q ops n with|true=>Gl ops n|false=>n+1
def Df(n:Nat)(p:Nat->Bool):Array Bool:=((List.range n).map p).toArray
def dNe(a:Nat)(l:Yb1 Nat):Bool:=l.all λb=> !Nat.beq a b
def Bf7(ops:Array Oper)(e:Nat)(c:Bool):Bool:=match ops[e]?,ops[e+1]?,ops[e+2]? with
 |some oa,some ob,some oc=>match ob.op,oc.op,oa.dst,ob.dst,oc.dst with
  |.indexAddr _ (.tmp a) i,.store _ (.tmp b) y,some d,some d2,none=>oa.guard.isNone&&ob.guard.isNone&&oc.guard.isNone&&Nat.beq a d&&Nat.beq b d2 && !Nat.beq d d2&&Nj i d&&Nj y d&&Nj y d2&&match c with
   |false=>match ops[e+3]? with
    |some os=>match os.op,os.dst with|.store _ (.tmp k) (.tmp q),none=>os.guard.isNone&&Nat.beq q d&&dNe k [d,d2]|_,_=>false
    |none=>false
   |true=>match ops[e+3]?,ops[e+4]?,ops[e+5]? with
    |some on,some of,some os=>match on.op,of.op,os.op,on.dst,of.dst,os.dst with|.nilCheck (.tmp k),.fieldAddr _ (.tmp f1) _,.store _ (.tmp p) (.tmp q),some dn,some df,none=>on.guard.isNone&&of.guard.isNone&&os.guard.isNone&&Nat.beq f1 dn&&Nat.beq p df&&Nat.beq q d&&dNe k [d,d2,dn,df]&&dNe dn [d,d2,df]&&dNe df [d,d2]&&Nj y dn&&Nj y df|_,_,_,_,_,_=>false
    |_,_,_=>false
  |_,_,_,_,_=>false
 |_,_,_=>false
def M2(ops:Array Oper)(e:Nat)(a:Bool):Bool:=Region.noSelect ops&&((List.range ops.size).all λj=>Nat.blt j e||match ops[j]? with
  |some o=>(List.range e).all λq=>Gm ops 12 o q
  |none=>true) && Region.ready .any ops (Df ops.size λi=>Nat.blt i e) == [e] && (Region.ready .any ops (Df ops.size λi=>Nat.ble i e)).contains (e+1)&&Region.free .any ops (Df ops.size λi=>Nat.ble i e) (e+1) && (Region.ready .any ops (Df ops.size λ_=>true)).isEmpty && match a with
 |false=>Nat.beq ops.size (e+4)&&(Region.ready .any ops (Df ops.size λi=>Nat.ble i (e+1))).contains (e+2) && Region.ready .any ops (Df ops.size λi=>Nat.ble i (e+2)) == [e+3] && Region.ready .any ops (Df ops.size λi=>Nat.ble i (e+1)||Nat.beq i (e+3)) == [e+2]
 |true=>Nat.beq ops.size (e+6)&&(Region.ready .any ops (Df ops.size λi=>Nat.ble i (e+1))).contains (e+3)&&Region.free .any ops (Df ops.size λi=>Nat.ble i (e+1)) (e+3) && (Region.ready .any ops (Df ops.size λi=>Nat.ble i (e+1)||Nat.beq i (e+3))).contains (e+4)&&Region.free .any ops (Df ops.size λi=>Nat.ble i (e+1)||Nat.beq i (e+3)) (e+4) && (Region.ready .any ops (Df ops.size λi=>Nat.ble i (e+1)||Nat.beq i (e+3)||Nat.beq i (e+4))).contains (e+2) && Region.ready .any ops (Df ops.size λi=>Nat.ble i (e+4)) == [e+5] && Region.ready .any ops (Df ops.size λi=>Nat.ble i (e+1)||Nat.beq i (e+3)||Nat.beq i (e+4)||Nat.beq i (e+5)) == [e+2]
def Bem(ops:Array Oper)(e:Nat)(a:Bool):Bool:=Bf7 ops e a&&M2 ops e a
def S4(ops:Array Oper):Ya1 (Nat×Bool):=match Nat.ble 4 ops.size&&Bem ops (ops.size-4) false with
 |true=>some (ops.size-4,false)
 |false=>match Nat.ble 6 ops.size&&Bem ops (ops.size-6) true with|true=>some (ops.size-6,true)|false=>none
def G9(ops:Array Oper):Nat:=match Nat.beq (Gl ops ops.size) 0 with
 |true=>0
 |false=>match S4 ops with|some p=>p.1|none=>Gl ops ops.size
def Bnn(ops:Array Oper)(e:Nat)(a:Bool):Ya1 Nat:=match ops[match a with|true=>e+3|false=>e+3]? with
 |some o=>match o.op with|.nilCheck (.tmp k)=>some k|.store _ (.tmp k) _=>some k|_=>none
 |none=>none
def Azb(px:Px R)(os:Array Oper)(st:St):Bool:=match Nat.beq (Gl os os.size) 0 with
 |true=>true
 |false=>match S4 os with
  |some (e,q3)=>match Bnn os e q3,os[e]?,os[e+1]?,os[e+2]? with
   |some k,some oa,some ob,some oc=>(Amc px oa ob oc st).isSome&&(match get st.env k with
    |some (.ptr b _)=>match blk st.bl b with|some (.cells _)=>true|some (.box _ _)=>true|_=>false
    |_=>false)
   |_,_,_,_=>false
  |none=>true
def Auv:D->Ya1 Nat|.ptr b _=>some b|.rp b _ _ _=>some b|.dp b _ _=>some b|_=>none
def A8h(o:Oper):Ya1 Nat:=match o.op with|.load _ (.tmp k)=>some k|_=>none
def Bm9(ops:Array Oper)(i j:Nat):Bool:=match Nat.blt i j with
 |true=>match ops[j]? with|some o=>Gm ops 12 o i|none=>false
 |false=>match ops[i]? with|some o=>Nat.beq i j||Gm ops 12 o j|none=>false
def Bng(ops:Array Oper)(k lo hi:Nat):Bool:=(List.range hi).all λq=>Nat.blt q lo||match ops[q]? with
 |some o=>match o.dst with|some d=> !Nat.beq d k|none=>true
 |none=>true
def B4r(ops:Array Oper)(T i:Nat)(env:Env)(ws:Yb1 Nat):Bool:=(List.range T).all λj=>match ops[j]? with
 |some a=>match A8h a with
  |some k=>Bm9 ops i j||(Bng ops k (min i j) (max i j)&&match get env k with
   |some d=>match Auv d with|some b=> !ws.contains b|none=>true
   |none=>false)
  |none=>true
 |none=>true
def Bji(px:Px R)(all:Array Oper)(T i:Nat)(o:Oper)(st:St)(K:St->Ya1 R):Ya1 R:=match o.dst with
 |some d=>match Nat.blt d st.n with
  |true=>Bu3 px o st λv ws st'=>match ws.isEmpty||B4r all T i st.env ws with|true=>K (st'.put d v)|false=>none
  |false=>none
 |none=>match B4r all T i st.env (wsN px o st)with|true=>Abn px o st K|false=>none
def B42(px:Px R)(all:Array Oper)(T i:Nat)(o:Oper)(st:St)(K:St->Ya1 R):Ya1 R:=match o.guard with
 |none=>Bji px all T i o st K
 |some (j,b)=>match(all[j]?).bind (·.dst)with
  |none=>none
  |some g=>match get st.env g with
   |some (.bool x)=>cond x (match b with
      |true=>Bji px all T i o (st.put g (.bool true)) K
      |false=>K (off o (st.put g (.bool true)))) (match b with
      |false=>Bji px all T i o (st.put g (.bool false)) K
      |true=>K (off o (st.put g (.bool false))))
   |some .undef=>K (off o st)
   |_=>none
def Bhk(px:Px R)(all:Array Oper)(T:Nat):Nat->Yb1 Oper->St->(St->Ya1 R)->Ya1 R|_,[],st,K=>K st|i,o::l,st,K=>B42 px all T i o st λst'=>Bhk px all T (i+1) l st' K
def Hi(px:Px R):Code->St->(Ex->St->Ya1 R)->Ya1 R
 |.skip,st,K=>K .normal st
 |.region _ os dr,st,K=>match dr with
  |false=>ops px os os.toList st (K .normal)
  |true=>Bhk px os (G9 os) 0 (os.toList.take (G9 os)) st λst'=>match Azb px os st' with|true=>ops px os (os.toList.drop (G9 os)) st' (K .normal)|false=>none
 |.seq a b,st,K=>Hi px a st λe st'=>match e with|.normal=>Hi px b st' K|e=>K e st'
 |.cond c a b,st,K=>match ev px st 0 c with|some (.bool x)=>cond x (Hi px a st K) (Hi px b st K)|_=>none
 |.block id b,st,K=>Hi px b st λe st'=>match e with
  |.exit i=>match Nat.beq i id with|true=>K .normal st'|false=>K e st'
  |e=>K e st'
 |.loop b,st,K=>px.loop b st K
 |.exit id,st,K=>K (.exit id) st
 |.scope b,st,K=>Hi px b st K
 |.label _,st,K=>K .normal st
 |.ret,st,K=>K .ret st
 |.rangeFunc g ps asg body,st,K=>match ev px st 0 g with
  |some (.fn f caps)=>px.call f (.yl (st.nb+1)::caps) { st with bl:=(st.nb+1,.lr 0 st.n ps.toList asg body st.env)::(st.nb,.ob 0)::st.bl,nb:=st.nb+2,df:=.ptr st.nb (st.nb+1)::st.df } λ_ st'=>match blk st'.bl (st.nb+1)with
   |some (.lr 0 _ _ _ _ _)=>K .normal { st' with bl:=Du st'.bl (st.nb+1) (.ob 2) }
   |some (.lj (.exit id))=>K (.exit id) { st' with bl:=Du st'.bl (st.nb+1) (.ob 2) }
   |some (.lj .ret)=>K .ret { st' with bl:=Du st'.bl (st.nb+1) (.ob 2) }
   |some (.lx j _ _ _ _ _ q)=>cond (decide (j=0)) (K .normal { st' with bl:=Du st'.bl (st.nb+1) (.ob 2) }) (cond (decide (j=1)) (K .ret { st' with bl:=Du st'.bl (st.nb+1) (.ob 2) }) (K (.exit q) { st' with bl:=Du st'.bl (st.nb+1) (.ob 2) }))
   |_=>none
  |_=>none
 |_,_,_=>none
def D3:Nat->Yb1 D->Env|_,[]=>[]|i,v::vs=>(i,v)::D3 (i+1) vs
def results(px:Px R)(st:St):Yb1 ResultVar->Ya1 (Yb1 D)
 |[]=>some []
 |.tmp t::l=>match get st.env t,results px st l with|some d,some ds=>some (d::ds)|_,_=>none
 |.cell a t::l=>match get st.env a with
  |some p=>match(px.tt t).known,load px st (px.tt t) p,results px st l with|true,some d,some ds=>some (d::ds)|_,_,_=>none
  |none=>none
def st0(n:Nat)(sa:Yb1 Sg)(x:HV sa):St:=⟨n,D3 0 (Ca 0 sa x),0,0,[],[],0,Bb 0 sa,sa.length,[]⟩
def Bmz(bl:Yb1 (Nat×Blk))(d:D)(K:D->Yb1 (Nat×Blk)->Ya1 R):Ya1 R:=match d with
 |.osl b c s n=>match blk bl b with
  |some (.dyn c' xs)=>match decide (c=c')with|true=>chk (decide (0<=s)&&decide (0<=n)&&decide (s+n<=(xs.length:Int))) (K (.sl c' (cut xs s (s+n)) .no) (Br bl b))|false=>none
  |_=>none
 |d=>K d bl
def Bt1(bl:Yb1 (Nat×Blk)):Yb1 D->(Yb1 D->Yb1 (Nat×Blk)->Ya1 R)->Ya1 R|[],K=>K [] bl|d::ds,K=>Bmz bl d λe a=>Bt1 a ds λb c=>K (e::b) c
def Bk9(bl:Yb1 (Nat×Blk))(d:D)(K:D->Yb1 (Nat×Blk)->Ya1 R):Ya1 R:=match d with|.agg ds=>Bt1 bl ds λa b=>K (.agg a) b|d=>Bmz bl d K
def Bjs(bl:Yb1 (Nat×Blk)):Yb1 D->(Yb1 D->Yb1 (Nat×Blk)->Ya1 R)->Ya1 R|[],K=>K [] bl|d::ds,K=>Bk9 bl d λe a=>Bjs a ds λb c=>K (e::b) c
def Aiq:Yb1 Sg->St->Yb1 D->(Yb1 D->St->Ya1 R)->Ya1 R
 |.sl _ true::sr,st,.osl b c s n::ds,K=>match blk st.bl b with
  |some (.dyn c' xs)=>match decide (c=c')with
   |true=>chk (decide (s=0)&&decide (0<n)&&decide (n<=(xs.length:Int))) (Aiq sr (Ej { st with bl:=Br st.bl b }) ds λa st'=>K (.sl c' (xs.take n.toNat) (.id st.nt)::a) st')
   |false=>none
  |_=>none
 |_::sr,st,d::ds,K=>Bk9 st.bl d λf e=>Aiq sr { st with bl:=e } ds λa st'=>K (f::a) st'
 |[],st,[],K=>K [] st
 |_,_,_,_=>none
def Ae1(px:Px R)(fn:Func)(sa sr:Yb1 Sg)(x:HV sa)(fin:HV sr->Ya1 R):Ya1 R:=match fn.body with
 |some c=>Hi px c (st0 fn.ntmps sa x) λe st=>match e with
  |.exit _=>none
  |_=>match st.df,results px st fn.results.toList with
   |[],some rs=>Aiq sr st rs λa st'=>match Nk sr st'.tk a with|some r=>fin r|none=>none
   |_,_=>none
 |none=>none
def Ban:Sg->Bool|.int _|.bool|.str=>true|_=>false
def Mb(sa sr:Yb1 Sg)(F:HV sa->Ya1 (HV sr))(args:Yb1 D)(st:St)(K:Yb1 D->St->Ya1 R):Ya1 R:=Bjs st.bl args λa b=>match Nk sa st.tk a with
 |some x=>(F x).bind λr=>K (Ca st.nt sr r) { st with bl:=(match sr.all Ban with|true=>st.bl|false=>b),tk:=Bb st.nt sr++st.tk,nt:=st.nt+sr.length }
 |none=>none
def Br0:Ck->Bool|.byte|.int|.u64|.str|.bool|.val|.tok|.col|.got|.pair=>true|_=>false
def Mj(sa:Yb1 Sg)(c:Ck)(F:HV sa->Ya1 (HV [.sl c true]))(args:Yb1 D)(st:St)(K:Yb1 D->St->Ya1 R):Ya1 R:=Bjs st.bl args λa b=>match Nk sa st.tk a with
 |some x=>(F x).bind λr=>cond (List.isEmpty (α:=El c) r) (K [.sl c [] .no] { st with bl:=b,nb:=st.nb+1,nt:=st.nt+1 }) (K [.osl st.nb c 0 ((List.length (α:=El c) r:Nat):Int)] (Hr { st with bl:=b,nt:=st.nt+1 } (.dyn c r)))
 |none=>none
def J3(sa sr:Yb1 Sg)(F:HV sa->Ya1 (HV sr))(args:Yb1 D)(K:Yb1 D->Ya1 R):Ya1 R:=match Nk sa [] args with|some x=>(F x).bind λr=>K (Ca 0 sr r)|none=>none
def Aye(px:Px R)(fn:Func)(args:Yb1 D)(st:St)(K:Yb1 D->St->Ya1 R):Ya1 R:=match fn.body with
 |some c=>Hi px c { st with n:=fn.ntmps,env:=D3 0 args,lb:=st.nb,lt:=st.nt,fr:=⟨st.n,st.env,st.lb,st.lt,st.df⟩::st.fr,df:=[] } λe st'=>match e with
  |.exit _=>none
  |_=>match st'.df,results px st' fn.results.toList,st'.fr with
   |[],some rs,f::fr=>K rs { st' with n:=f.n,env:=f.env,lb:=f.lb,lt:=f.lt,fr:=fr,df:=f.df }
   |_,_,_=>none
 |none=>none
def S6:Yb1 Nat->Yb1 D->Env->Ya1 Env|[],[],e=>some e|p::ps,d::ds,e=>S6 ps ds ((p,d)::e)|_,_,_=>none
def Bfm(px:Px R)(b:Nat)(ds:Yb1 D)(st:St)(K:D->St->Ya1 R):Ya1 R:=match blk st.bl b with
 |some (.lr 0 n ps asg body env)=>match S6 ps ds env,ps.all (λp=>Nat.blt p n)with
  |some env',true=>Hi px asg { st with n:=n,env:=env',lb:=st.nb,lt:=st.nt,fr:=⟨1,[(0,.ptr b 0)],st.nb,st.nt,[]⟩::⟨st.n,st.env,st.lb,st.lt,st.df⟩::st.fr,df:=[] } λe st1=>match e,blk st1.bl b with
   |.normal,some (.lr 0 n1 ps1 asg1 body1 env1)=>Hi px body { st1 with bl:=Du st1.bl b (.lr 1 n1 ps1 asg1 body1 env1) } λe2 st2=>match st2.df,st2.fr,blk st2.bl b with
    |[],_::f::fr,some (.lr 1 n2 ps2 asg2 body2 env2)=>match e2 with
     |.normal=>K (.bool true) { st2 with n:=f.n,env:=f.env,lb:=f.lb,lt:=f.lt,fr:=fr,df:=f.df,bl:=Du st2.bl b (.lr 0 n2 ps2 asg2 body2 env2) }
     |e2=>K (.bool false) { st2 with n:=f.n,env:=f.env,lb:=f.lb,lt:=f.lt,fr:=fr,df:=f.df,bl:=Du st2.bl b (.lj e2) }
    |_,_,_=>none
   |_,_=>none
  |_,_=>none
 |_=>none
def Bfb(px:Px R)(b:Nat)(ds:Yb1 D)(st:St)(K:D->St->Ya1 R):Ya1 R:=match blk st.bl b with
 |some (.lx j n ps asg body env _)=>chk (decide (j=0)) (Bfm px b ds { st with bl:=Du st.bl b (.lr 0 n ps asg body env) } K)
 |_=>Bfm px b ds st K
inductive Bs where
 |cells (l:List Sg)
 |one (s:Sg)
 |bld (t:Nat)
 |fx (ds:List D)
 |oc (l:List Sg) (b:Nat) (c:Ck)
 |rc (n:Nat) (ps:List Nat) (asg body:Code) (env:List (Nat×D)) (q:Nat)
def Bs.sgs:Bs->Yb1 Sg|.cells l=>l|.one s=>[s]|.bld _=>[.sl .byte true]|.fx _=>[]|.oc l _ _=>l++[.int .i64,.int .i64]|.rc _ _ _ _ _ _=>[.int .i64]
def Bjv:Blk->D|.cells ds=>.agg ds|.box c y=>.sv c y|.row c n xs=>.rw c n xs|.dyn c xs=>.dn c xs|.bld _ d=>d|.ob _=>.junk|.lr _ _ _ _ _ _=>.junk|.lj _=>.junk|.lx _ _ _ _ _ _ _=>.junk
structure Sig where
 n:Nat
 vars:List (Nat×Sg)
 fix:List (Nat×D)
 bl:List (Nat×Bs)
 nb:Nat
 lb:Nat
 lt:Nat
 tk:List Nat
 ow:List (Nat×Nat×Ck):=[]
def A48:Yb1 (Nat×Nat×Ck)->Yb1 Sg|[]=>[]|_::l=>.int .i64 :: .int .i64::A48 l
def Sig.sgs(s:Sig):Yb1 Sg:=s.vars.map (·.2)++((s.bl.map (·.2.sgs)).flatten++A48 s.ow)
def Ks(env:Env):Yb1 (Nat×Sg)->Ya1 (Yb1 D)|[]=>some []|(k,_)::l=>match get env k,Ks env l with|some d,some ds=>some (d::ds)|_,_=>none
def Nq:Yb1 D->Yb1 D->Bool|[],[]=>true|.ptr b o::l,.ptr b' o'::m=>Nat.beq b b'&&Nat.beq o o'&&Nq l m|_,_=>false
def Ws:Yb1 D->Yb1 D->Bool|[],[]=>true|.str a::l,.str b::m=>decide (a=b)&&Ws l m|_,_=>false
def T8:D->D->Bool|.ptr b o,.ptr b' o'=>Nat.beq b b'&&Nat.beq o o'|.fn f cs,.fn f' cs'=>Nat.beq f f'&&Nq cs cs'|.bm f cs,.bm f' cs'=>Nat.beq f f'&&Nq cs cs'|.gp g,.gp g'=>Nat.beq g g'|.yl b,.yl b'=>Nat.beq b b'|.nilp,.nilp=>true|.agg l,.agg m=>Ws l m|_,_=>false
def Og:Yb1 D->Yb1 D->Bool|[],[]=>true|a::l,b::m=>T8 a b&&Og l m|_,_=>false
def At3:Nat->Nat->Ck->Yb1 D->Ya1 (Yb1 D)
 |0,b,c,[.osl b' c' s n]=>match Nat.beq b' b&&decide (c' = c)with|true=>some [.int .i64 s,.int .i64 n]|false=>none
 |k+1,b,c,d::ds=>match At3 k b c ds with|some a=>some (d::a)|none=>none
 |_,_,_,_=>none
def W9:Nat->Nat->Ck->Yb1 D->Yb1 D|0,b,c,.int _ s :: .int _ n::_=>[.osl b c s n]|k+1,b,c,d::ds=>d::W9 k b c ds|_,_,_,_=>[]
def Bv9:Value->Value->Bool|.int k n,.int k' n'=>decide (k=k')&&decide (n=n')|.bool a,.bool b=>a == b|.slice none 0 0,.slice none 0 0=>true|_,_=>false
def R2:Operand->Operand->Bool|.tmp a,.tmp b=>Nat.beq a b|.const v,.const w=>Bv9 v w|_,_=>false
def Ad8:Yb1 Operand->Yb1 Operand->Bool|[],[]=>true|a::l,b::m=>R2 a b&&Ad8 l m|_,_=>false
def Z9:Yb1 Nat->Yb1 Nat->Bool|[],[]=>true|a::l,b::m=>Nat.beq a b&&Z9 l m|_,_=>false
def Wh:Yb1 (Nat×Operand)->Yb1 (Nat×Operand)->Bool|[],[]=>true|(i,a)::l,(j,b)::m=>Nat.beq i j&&R2 a b&&Wh l m|_,_=>false
def B3l:Op->Op->Bool|.alloc t,.alloc t'=>Nat.beq t t'|.store t a b,.store t' a' b'=>Nat.beq t t'&&R2 a a'&&R2 b b'|.load t a,.load t' a'=>Nat.beq t t'&&R2 a a'|.fieldAddr t a f,.fieldAddr t' a' f'=>Nat.beq t t'&&R2 a a'&&Nat.beq f f'|.binOp o t a b u,.binOp o' t' a' b' u'=>decide (o=o')&&Nat.beq t t'&&R2 a a'&&R2 b b'&&Nat.beq u u'|.buildSlice t n ⟨l⟩,.buildSlice t' n' ⟨m⟩=>Nat.beq t t'&&Nat.beq n n'&&Wh l m|.call ⟨.builtin f,⟨xs⟩,⟨ts⟩⟩,.call ⟨.builtin g,⟨ys⟩,⟨us⟩⟩=>decide (f=g)&&Ad8 xs ys&&Z9 ts us|_,_=>false
def Vo:Yb1 Edge->Yb1 Edge->Bool|[],[]=>true|⟨a,g⟩::l,⟨b,h⟩::m=>Nat.beq a b&&decide (g=h)&&Vo l m|_,_=>false
def Wd:Yb1 Oper->Yb1 Oper->Bool|[],[]=>true|⟨d,o,t,p,⟨a⟩,g⟩::l,⟨d',o',t',p',⟨a'⟩,g'⟩::m=>decide (d=d')&&B3l o o'&&Nat.beq t t'&&decide (p=p')&&Vo a a'&&decide (g=g')&&Wd l m|_,_=>false
def Dj:Code->Code->Bool|.skip,.skip=>true|.ret,.ret=>true|.exit i,.exit j=>Nat.beq i j|.region i ⟨l⟩ d,.region j ⟨m⟩ e=>Nat.beq i j&&Wd l m&&(d == e)|.seq a b,.seq a' b'=>Dj a a'&&Dj b b'|.cond c a b,.cond c' a' b'=>R2 c c'&&Dj a a'&&Dj b b'|.block i b,.block j b'=>Nat.beq i j&&Dj b b'|_,_=>false
def Aa3(env:Env):Yb1 (Nat×D)->Bool|[]=>true|(k,d)::l=>match get env k with|some a=>T8 d a&&Aa3 env l|none=>false
def Ayy(n:Nat)(ps:Yb1 Nat)(asg body:Code)(env:Yb1 (Nat×D))(e:Nat)(d:Yb1 Nat)(b a:Code)(c:Env):Bool:=Nat.beq n e&&Z9 ps d&&Dj asg b&&Dj body a&&Aa3 c env
def Bwg(n:Nat)(ps:Yb1 Nat)(asg body:Code)(env:Yb1 (Nat×D))(q:Nat):Blk->Ya1 Int
 |.lr s e d b a c=>match Nat.beq s 0&&Ayy n ps asg body env e d b a c with|true=>some 0|false=>none
 |.lj .ret=>some 1
 |.lj (.exit i)=>match Nat.beq i q with|true=>some 2|false=>none
 |.lx j e d b a c f=>match Nat.beq f q&&Ayy n ps asg body env e d b a c with|true=>some j|false=>none
 |_=>none
def Bo(bl:Yb1 (Nat×Blk)):Yb1 (Nat×Bs)->Ya1 (Yb1 D)
 |[]=>some []
 |(b,.cells l)::r=>match blk bl b,Bo bl r with
  |some (.cells ds),some es=>match Nat.beq ds.length l.length with|true=>some (ds++es)|false=>none
  |_,_=>none
 |(b,.one _)::r=>match blk bl b,Bo bl r with|some (.bld _ _),_=>none|some (.ob _),_=>none|some (.lr _ _ _ _ _ _),_=>none|some (.lj _),_=>none|some (.lx _ _ _ _ _ _ _),_=>none|some k,some es=>some (Bjv k::es)|_,_=>none
 |(b,.bld t)::r=>match blk bl b,Bo bl r with
  |some (.bld t' d),some es=>match Nat.beq t' t with|true=>some (d::es)|false=>none
  |_,_=>none
 |(b,.fx ds)::r=>match blk bl b,Bo bl r with
  |some (.cells a),some es=>match Og ds a with|true=>some es|false=>none
  |_,_=>none
 |(b,.oc l b1 c)::r=>match blk bl b,Bo bl r with
  |some (.cells ds),some es=>match At3 l.length b1 c ds with|some a=>some (a++es)|none=>none
  |_,_=>none
 |(b,.rc n ps asg body env q)::r=>match blk bl b,Bo bl r with
  |some k,some es=>match Bwg n ps asg body env q k with|some j=>some (.int .i64 j::es)|none=>none
  |_,_=>none
def L5(env:Env):Yb1 (Nat×Nat×Ck)->Ya1 (Yb1 D)
 |[]=>some []
 |(k,b,c)::l=>match get env k,L5 env l with
  |some (.osl b' c' s n),some ds=>match Nat.beq b' b&&decide (c' = c)with|true=>some (.int .i64 s :: .int .i64 n::ds)|false=>none
  |_,_=>none
def Dk:Yb1 Nat->Yb1 Nat->Bool|[],[]=>true|a::l,b::m=>Nat.beq a b&&Dk l m|_,_=>false
def Js(s:Sig)(st:St):Ya1 (HV s.sgs):=match Ks st.env s.vars,Bo st.bl s.bl,L5 st.env s.ow,Aa3 st.env s.fix&&Nat.beq st.n s.n&&Nat.beq st.lb s.lb&&Nat.beq st.lt s.lt&&st.df.isEmpty&&s.tk.all (λt=>Nat.blt t s.lt&&st.tk.contains t)with|some a,some b,some o,true=>Nk s.sgs (st.tk.filter λt=> !s.tk.contains t) (a++(b++o))|_,_,_,_=>none
def A1s:Yb1 (Nat×Sg)->Yb1 D->Env×Yb1 D
 |(k,_)::l,d::ds=>match A1s l ds with|(e,r)=>((k,d)::e,r)
 |_,r=>([],r)
def unD:D->Blk|.sv c y=>.box c y|.rw c n xs=>.row c n xs|.dn c xs=>.dyn c xs|d=>.cells (cells d)
def Di:Yb1 (Nat×Bs)->Yb1 D->Yb1 (Nat×Blk)|[],_=>[]|(b,.cells l)::r,ds=>(b,.cells (ds.take l.length))::Di r (ds.drop l.length)|(b,.one _)::r,d::ds=>(b,unD d)::Di r ds|(b,.one _)::r,[]=>(b,.cells [])::Di r []|(b,.bld t)::r,d::ds=>(b,.bld t d)::Di r ds|(b,.bld _)::r,[]=>(b,.cells [])::Di r []|(b,.fx l)::r,ds=>(b,.cells l)::Di r ds|(b,.oc l b1 c)::r,ds=>(b,.cells (W9 l.length b1 c ds))::Di r (ds.drop (l.length+2))|(b,.rc n ps asg body env q)::r,.int _ j::ds=>(b,.lx j n ps asg body env q)::Di r ds|(b,.rc _ _ _ _ _ _)::r,ds=>(b,.ob 2)::Di r (ds.drop 1)
def A0q:Yb1 (Nat×Nat×Ck)->Yb1 D->Env|(k,b,c)::l,.int _ s :: .int _ n::ds=>(k,.osl b c s n)::A0q l ds|_,_=>[]
def Ge(s:Sig)(fr:Yb1 Fr)(x:HV s.sgs):St:=match A1s s.vars (Ca s.lt s.sgs x)with|(e,r)=>⟨s.n,e++(s.fix++A0q s.ow (r.drop ((s.bl.map (·.2.sgs)).flatten).length)),s.lb,s.lt,fr,Di s.bl r,s.nb,Bb s.lt s.sgs++s.tk,s.lt+s.sgs.length,[]⟩
def Aj{V:Type}(step:(V->Ya1 R)->V->Ya1 R):Nat->V->Ya1 R|0,_=>none|n+1,v=>step (Aj step n) v
abbrev Arf(V R:Type):=(V->Ya1 R)->(Ex->V->Ya1 R)->V->Ya1 R
def round(px:Px R)(s:Sig)(b:Code)(fr:Yb1 Fr):Arf (HV s.sgs) R:=λa kx v=>Hi px b (Ge s fr v) λe st=>match Js s st with
 |some c=>match e with|.normal=>a c|e=>kx e c
 |none=>none
def An(k:Nat)(s:Sig)(step:Arf (HV s.sgs) R)(st:St)(K:Ex->St->Ya1 R):Ya1 R:=match Js s st with|some v=>Aj (λa=>step a (λe b=>K e (Ge s st.fr b))) k v|none=>none
def B5h(a:Px R)(b:Code)(st:St)(K:Ex->St->Ya1 R):Ya1 R:=Hi a b st λe st'=>match e with|.normal=>none|e=>K e st'
def Ax6(a:Px R)(b:Code)(k:Nat)(s:Sig)(step:Arf (HV s.sgs) R)(st:St)(K:Ex->St->Ya1 R):Ya1 R:=match Js s st with|some _=>An k s step st K|none=>B5h a b st K
def Rs:Code->Nat|.region id _ _=>id|.seq a _=>Rs a|.block _ b=>Rs b|.loop b=>Rs b|.scope b=>Rs b|_=>0
end
def A8:Code->Yb1 Code|.seq a b=>A8 a++A8 b|.cond _ a b=>A8 a++A8 b|.block _ b=>A8 b|.loop b=>b::A8 b|.scope b=>A8 b|_=>[]
def Jh:Code->Yb1 (Yb1 Nat×Code×Code)|.seq a b=>Jh a++Jh b|.cond _ a b=>Jh a++Jh b|.block _ b=>Jh b|.loop b=>Jh b|.scope b=>Jh b|.rangeFunc _ ps asg body=>[(ps.toList,asg,body)]|_=>[]
def rd(fn:Func)(i:Nat):Yb1 Nat×Code×Code:=match fn.body with|some c=>(Jh c).getD i ([],.skip,.skip)|none=>([],.skip,.skip)
def lp(fn:Func)(i:Nat):Code:=match fn.body with|some c=>(A8 c).getD i .skip|none=>.skip
open Go.RowKit
abbrev Fp:=Nat->Nat->Prop
structure Chg (S:Fp) (w w':World):Prop where
 os:w'.os=w.os
 tape:w'.tape=w.tape
 output:w'.output=w.output
 size:w.heap.size<=w'.heap.size
 block:∀k,k<w.heap.size->(∀i,¬S k i)->w'.heap[k]? = w.heap[k]?
 cell:∀b i v,w.cell? ⟨b,i,none⟩=some v->¬S b i->w'.cell? ⟨b,i,none⟩=some v
 shape:∀(b:Nat) (cs:Array Value) (t:TypeId) (f:Nat×Nat),w.heap[b]? = some (.cells cs t f)->∃cs' f',w'.heap[b]? = some (.cells cs' t f')/\cs'.size=cs.size
variable{w:World}
theorem Ads{b i:Nat}{v:Value}(h:w.cell? ⟨b,i,none⟩=some v):b<w.heap.size:=World.block_lt_of_cell? w ⟨b,i,none⟩ h
theorem Chg.refl(S:Fp)(w:World):Chg S w w:=⟨rfl,rfl,rfl,Zn1 _,λ_ _ _=>rfl,λ_ _ _ h _=>h,λ_ cs _ f h=>⟨cs,f,h,rfl⟩⟩
variable{a:World}
theorem Chg.later{S T:Fp}{b c:World}(h:Chg S a b)(j:∀k i,T k i->S k i\/a.heap.size<=k)(k:Chg T b c):Chg S a c:=by
 refine⟨k.os.trans h.os,k.tape.trans h.tape,k.output.trans h.output,Nat.le_trans h.size k.size,λq d e=>?_,λq i v hv e=>?_,λq cs t f d=>by obtain⟨c1,f1,l,m⟩:=h.shape q cs t f d;obtain⟨c2,n,o,p⟩:=k.shape q c1 t f1 l;exact⟨c2,n,o,p.trans m⟩⟩
 ·rw[k.block q (Zx1 d h.size) (λi hi=>?_)]
  ·exact h.block q d e
  ·grind
 ·refine k.cell q i v (h.cell q i v hv e) λhi=>?_;rcases j q i hi with g|g
  ·exact e g
  ·have:=Ads hv;omega
theorem Chg.trans{S:Fp}{b c:World}(h:Chg S a b)(k:Chg S b c):Chg S a c:=h.later (λ_ _ h=>.inl h) k
theorem Chg.mono{S T:Fp}{b:World}(h:Chg S a b)(d:∀k i,S k i->T k i):Chg T a b:=⟨h.os,h.tape,h.output,h.size,λk e c=>h.block k e (λi hm=>c i (d k i hm)),λb i v hv c=>h.cell b i v hv (λhm=>c (d b i hm)),h.shape⟩
def C2:Fp:=λ_ _=>False
variable{w':World}
theorem Chg.of_blocks{S:Fp}(c:w'.os=w.os)(d:w'.tape=w.tape)(e:w'.output=w.output)(g:w.heap.size<=w'.heap.size)(hb:∀k,k<w.heap.size->w'.heap[k]? = w.heap[k]?):Chg S w w':=⟨c,d,e,g,λk j _=>hb k j,λb i v hv _=>by rw[World.cell?_of_block (a:=⟨b,i,none⟩) (hb b (Ads hv))];exact hv,λb cs t f h=>⟨cs,f,by rw[hb b (Zh2.1 h).1];exact h,rfl⟩⟩
theorem Arq(w:World)(a:Addr)(v:Value):∀(b:Nat) (cs:Array Value) (t:TypeId) (f:Nat×Nat),w.heap[b]? = some (.cells cs t f)->∃cs' f',(w.setCell a v).heap[b]? = some (.cells cs' t f')/\cs'.size=cs.size:=λb cs t f h=>by
 by_cases hb:b=a.block
 ·subst hb;refine⟨if a.spot.isSome then cs else cs.setIfInBounds a.off v,f,?_,by split<;>simp⟩;simp[World.setCell,Array.getElem?_modify,h]
 ·exact⟨cs,f,by rw[Below.heap_setCell _ _ _ _ hb];exact h,rfl⟩
theorem Chg.drew(S:Fp)(w:World):Chg S w w.drew:=.of_blocks rfl rfl rfl (Zn1 _) λ_ _=>rfl
theorem Chg.drawn(S:Fp)(w:World)(n:Nat):Chg S w { w with drawn:=n }:=.of_blocks rfl rfl rfl (Zn1 _) λ_ _=>rfl
theorem Chg.alloc(S:Fp)(w:World)(o:Obj):Chg S w (w.alloc o):=.of_blocks rfl rfl rfl (by simp) λk a=>Below.heap_alloc _ _ _ a
theorem Chg.below(h:Chg C2 w w'):Below w.heap.size w w':=⟨h.os,h.tape,h.output,h.size,λk a=>h.block k a (λ_ h=>h)⟩
theorem Chg.of_below{S:Fp}(h:Below w.heap.size w w'):Chg S w w':=.of_blocks h.os h.tape h.output h.size h.block
theorem B8(c:Ck)(x:El c):(enc c x).length=csz c:=by cases c<;>rfl
theorem Ai4(c:Ck) : 0<csz c:=by cases c<;>simp[csz]
def B6w(t:Tk)(a:Ya1 Addr)(cap:Nat):Prop:=match t with|.nil=>a=none/\cap=0|.ne=>a≠none|.zn=>a≠none/\cap=0|_=>True
inductive FV (w:World):D->Value->Prop
 |int (k:IntKind) (n:Int):Fy k n=true->FV w (.int k n) (.int k n)
 |bool (b:Bool):FV w (.bool b) (.bool b)
 |str (l:Str):l.length<=maxLen->FV w (.str l) (.string ⟨l.toArray⟩)
 |nil (c:Ck) (t:Tk) (a:Option Addr) (cap:Nat):B6w t a cap->FV w (.sl c [] t) (.slice a 0 cap)
 |sl (c:Ck) (xs:List (El c)) (t:Tk) (b o cap:Nat) (u:Nat->Value) (hle:xs.length<=cap) (hm:cap<=maxLen)
   (hc:∀i x j d,xs[i]? = some x->(enc c x)[j]? = some d->w.cell? ⟨b,o+(i*csz c+j),none⟩=some (u (i*csz c+j)))
   (h:∀i x j d,xs[i]? = some x->(enc c x)[j]? = some d->FV w d (u (i*csz c+j))):FV w (.sl c xs t) (.slice (some ⟨b,o,none⟩) xs.length cap)
def RF(S:Fp)(w:World)(d:D)(v:Value):Prop:=∀w',Chg S w w'->FV w' d v
theorem RF.here{S:Fp}{d:D}{v:Value}(h:RF S w d v):FV w d v:=h w (Chg.refl S w)
theorem RF.later{S T:Fp}{d:D}{v:Value}(h:RF S w d v)(hc:Chg S w w')(c:∀k i,T k i->S k i\/w.heap.size<=k):RF T w' d v:=λa b=>h a (hc.later c b)
def At(w:World)(c:Ck)(x:El c)(b o:Nat):Prop:=∀j d,(enc c x)[j]? = some d->∃u,w.cell? ⟨b,o+j,none⟩=some u/\FV w d u
variable{c:Ck}{t:Tk}{xs:Yb1 (El c)}
theorem FV.slice{v:Value}(h:FV w (.sl c xs t) v) :
  ∃a cap,v = .slice a xs.length cap/\(xs=[]\/∃b o,a=some ⟨b,o,none⟩/\(xs.length<=cap/\cap<=maxLen)/\∀i x,xs[i]? = some x->At w c x b (o+i*csz c)):=by
 cases h with|nil c t a cap=>simp_all|sl c xs t b o cap u hle hm hc h=>refine⟨_,cap,rfl,.inr ⟨b,o,rfl,⟨hle,hm⟩,λi x e j d hd=>⟨u (i*csz c+j),?_,h i x j d e hd⟩⟩⟩;rw[Nat.add_assoc];exact hc i x j d e hd
theorem FV.mkSlice{b o cap:Nat}(hle:xs.length<=cap/\cap<=maxLen)(h:∀i x,xs[i]? = some x->At w c x b (o+i*csz c)):FV w (.sl c xs t) (.slice (some ⟨b,o,none⟩) xs.length cap):=by
 have key:∀i x j d,xs[i]? = some x->(enc c x)[j]? = some d->∃u,w.cell? ⟨b,o+(i*csz c+j),none⟩=some u/\FV w d u:=λi x j d a hd=>by have:=h i x a j d hd;rwa[Nat.add_assoc]at this
 refine .sl c xs t b o cap (λk=>(w.cell? ⟨b,o+k,none⟩).getD default) hle.1 hle.2 (λi x j d a hd=>?_) (λi x j d a hd=>?_)
 ·grind
 ·grind
theorem FV.mkSlice'{v:Value}{a:Ya1 Addr}{cap:Nat}(hv:v = .slice a xs.length cap)(h:xs=[]\/∃b o,a=some ⟨b,o,none⟩/\(xs.length<=cap/\cap<=maxLen)/\∀i x,xs[i]? = some x->At w c x b (o+i*csz c)):FV w (.sl c xs .no) v:=by
 rcases h with rfl|⟨b,o,rfl,hle,h⟩
 ·subst hv;exact .nil c .no a cap trivial
 ·subst hv;exact .mkSlice hle h
theorem FV.len{v:Value}(h:FV w (.sl c xs t) v):xs.length<=maxLen:=by
 obtain⟨_,_,_,rfl|⟨_,_,_,h,_⟩⟩:=h.slice
 ·simp
 ·omega
def Bf5(l:Yb1 (Int×Str))(es:Yb1 MapEntry):Prop:=∀n,(Wz l n).length<=maxLen/\((Instr.findNow (.int .i64) (.int .i64 n) es 0=some none/\Wz l n=[])\/∃i,Instr.findNow (.int .i64) (.int .i64 n) es 0=some (some (i,.string ⟨(Wz l n).toArray⟩)))
structure Mp where
 bl:Nat->Nat
 tk:Nat->Option (Nat×Nat)
structure Vx where
 m:Mp
 al:Nat->Prop
 S:Fp
 w:World
 nb:Nat
 nt:Nat
 el:Ck->TypeId
def B6u(x:Vx)(t:Nat)(c:Ck)(xs:Yb1 (El c))(v:Value):Prop:=(v = .slice none 0 0/\x.m.tk t=none/\xs=[])\/∃g cap cur,v = .slice (some ⟨g,0,none⟩) xs.length cap/\x.m.tk t=some (g,xs.length*csz c)/\x.w.heap[g]? = some (.cells cur (x.el c) (0,0))/\cur.size=cap*csz c/\xs.length<=cap/\cap<=maxLen
def TkR(x:Vx)(c:Ck)(xs:Yb1 (El c))(v:Value):Tk->Prop|.no=>True|.nil=>v = .slice none 0 0/\xs=[]|.id t=>t<x.nt/\(x.al t->B6u x t c xs v)|.z=>xs=[]/\∃a,v = .slice a 0 0|.ne=>xs=[]->∃a cap,v = .slice (some a) 0 cap|.zn=>xs=[]/\∃a,v = .slice (some a) 0 0|.f=>∃a,v = .slice a xs.length xs.length
mutual
def Rep(x:Vx):D->Value->Prop|.bool b,v=>v = .bool b|.int k n,v=>v = .int k n/\Fy k n=true|.str l,v=>v = .string ⟨l.toArray⟩/\l.length<=maxLen|.sl c xs t,v=>RF x.S x.w (.sl c xs .no) v/\TkR x c xs v t|.sv c y,v=>agg? c=true/\∃vs:Yb1 Value,v = .agg vs.toArray/\vs.length=csz c/\∀(j:Nat) d,(enc c y)[j]? = some d->∃u,vs[j]? = some u/\RF x.S x.w d u|.ep c y off,v=>∃b o,v = .pointer (some ⟨b,o+off,none⟩)/\∀w',Chg x.S x.w w'->At w' c y b o|.ptr b off,v=>b<x.nb/\v = .pointer (some ⟨x.m.bl b,off,none⟩)|.nilp,v=>v = .pointer none|.gp g,v=>v = .pointer (some ⟨g,0,none⟩)|.gm l,v=>∃r es e,v = .map (some r)/\(∀w',Chg x.S x.w w'->w'.heap[r]? = some (.map es e))/\Bf5 l es.toList|.osl b c s n,v=>b<x.nb/\0<=s/\0<=n/\s+n<=(maxLen:Int)/\∃a cap,v = .slice a n.toNat cap/\(n=0\/a=some ⟨x.m.bl b,s.toNat*csz c,none⟩)/\n.toNat<=cap/\cap<=maxLen/\∃cur f,x.w.heap[x.m.bl b]? = some (.cells cur (x.el c) f)/\cur.size=(s.toNat+cap)*csz c|.dp b c i,v=>b<x.nb/\v = .pointer (some ⟨x.m.bl b,i.toNat*csz c,none⟩)/\0<=i|.dn c xs,v=>xs.length<=maxLen/\∃vs:Yb1 Value,v = .agg vs.toArray/\xs.length*csz c<=vs.length/\∀i y j d,xs[i]? = some y->(enc c y)[j]? = some d->∃u,vs[i*csz c+j]? = some u/\RF x.S x.w d u|.rp b c n i,v=>b<x.nb/\v = .pointer (some ⟨x.m.bl b,i.toNat*csz c,none⟩)/\0<=i/\i<(n:Int)|.rw c n xs,v=>xs.length=n/\∃vs:Yb1 Value,v = .agg vs.toArray/\vs.length=xs.length*csz c/\∀i y j d,xs[i]? = some y->(enc c y)[j]? = some d->∃u,vs[i*csz c+j]? = some u/\RF x.S x.w d u|.fn f caps,v=>∃vs:Yb1 Value,v = .func (.func f) #[] vs.toArray/\Reps x caps vs|.bm f fs,v=>∃vs:Yb1 Value,v = .func (.func f) vs.toArray #[]/\Reps x fs vs|.nilfn,v=>v = .nilFunc|.yl b,v=>b<x.nb/\v = .func (.yield (x.m.bl b)) #[] #[]|.agg ds,v=>ds.all lf=true/\∃vs:Yb1 Value,v = .agg vs.toArray/\Reps x ds vs|.tup ds,v=>∃vs:Yb1 Value,v = .tuple vs.toArray/\Reps x ds vs|.undef,v=>v = .tuple #[]|.junk,_=>True
def Reps(x:Vx):Yb1 D->Yb1 Value->Prop|[],vs=>vs=[]|d::ds,vs=>∃u us,vs=u::us/\Rep x d u/\Reps x ds us
end
structure Nx (x x':Vx):Prop where
 chg:Chg x.S x.w x'.w
 fp:∀b i,x'.S b i->x.S b i\/x.w.heap.size<=b
 el:x'.el=x.el
 bl:∀b,b<x.nb->x'.m.bl b=x.m.bl b
 nb:x.nb<=x'.nb
 nt:x.nt<=x'.nt
 tk:∀t,t<x.nt->x'.al t->x.al t/\x'.m.tk t=x.m.tk t/\∀g o,x.m.tk t=some (g,o)->x'.w.heap[g]? = x.w.heap[g]?
variable{x:Vx}{x':Vx}
theorem Nx.rf(h:Nx x x'){d:D}{v:Value}(a:RF x.S x.w d v):RF x'.S x'.w d v:=a.later h.chg h.fp
theorem TkR.later(h:Nx x x'){v:Value}(e:TkR x c xs v t):TkR x' c xs v t:=by
 cases t with
 |no=>trivial
 |nil=>exact e
 |z=>exact e
 |ne=>exact e
 |zn=>exact e
 |f=>exact e
 |id t=>
  obtain⟨i,e⟩:=e;refine⟨Zx1 i h.nt,λk=>?_⟩;obtain⟨l,j,m⟩:=h.tk t i k;rcases e l with ⟨a,b,c⟩|⟨g,cap,cur,a,b,c,d⟩
  ·exact .inl ⟨a,j.trans b,c⟩
  ·refine .inr ⟨g,cap,cur,a,j.trans b,?_,d⟩;rw[m g _ b,h.el];exact c
mutual
theorem Rep.later{x x':Vx}(h:Nx x x'):∀(d:D) (v:Value),Rep x d v->Rep x' d v
 |.bool _,_,e=>by simpa[Rep]using e
 |.int _ _,_,e=>by simpa[Rep]using e
 |.str _,_,e=>by simpa[Rep]using e
 |.sl c xs t,v,e=>by simp only[Rep]at e ⊢;exact⟨h.rf e.1,e.2.later h⟩
 |.sv c y,v,e=>by simp only[Rep]at e ⊢;obtain⟨ha,vs,hv,g,e⟩:=e;exact⟨ha,vs,hv,g,λj d hd=>by obtain⟨u,k,m⟩:=e j d hd;exact⟨u,k,h.rf m⟩⟩
 |.ep c y off,v,e=>by simp only[Rep]at e ⊢;obtain⟨b,o,hv,e⟩:=e;exact⟨b,o,hv,λw' w=>e w' (h.chg.later h.fp w)⟩
 |.ptr b off,v,e=>by simp only[Rep]at e ⊢;exact⟨Zx1 e.1 h.nb,by rw[h.bl b e.1];exact e.2⟩
 |.nilp,_,e=>by simpa[Rep]using e
 |.gp _,_,e=>by simpa[Rep]using e
 |.gm l,v,e=>by simp only[Rep]at e ⊢;obtain⟨r,es,z,hv,p,h2⟩:=e;exact⟨r,es,z,hv,λw' w=>p w' (h.chg.later h.fp w),h2⟩
 |.osl b c s n,v,e=>by simp only[Rep]at e ⊢;obtain⟨p,h2,h3,h4,a,cap,h5,h6,h7,h8,cur,f,h9,a2⟩:=e;obtain⟨q,f',g1,g2⟩:=h.chg.shape _ _ _ _ h9;exact⟨Zx1 p h.nb,h2,h3,h4,a,cap,h5,by rw[h.bl b p];exact h6,h7,h8,q,f',by rw[h.bl b p,h.el];exact g1,g2.trans a2⟩
 |.dp b c i,v,e=>by simp only[Rep]at e ⊢;exact⟨Zx1 e.1 h.nb,by rw[h.bl b e.1];exact e.2⟩
 |.dn c xs,v,e=>by simp only[Rep]at e ⊢;obtain⟨hn,vs,hv,g,e⟩:=e;exact⟨hn,vs,hv,g,λi y j d hy hd=>by obtain⟨u,k,m⟩:=e i y j d hy hd;exact⟨u,k,h.rf m⟩⟩
 |.rp b c n i,v,e=>by simp only[Rep]at e ⊢;exact⟨Zx1 e.1 h.nb,by rw[h.bl b e.1];exact e.2⟩
 |.rw c n xs,v,e=>by simp only[Rep]at e ⊢;obtain⟨hn,vs,hv,g,e⟩:=e;exact⟨hn,vs,hv,g,λi y j d hy hd=>by obtain⟨u,k,m⟩:=e i y j d hy hd;exact⟨u,k,h.rf m⟩⟩
 |.fn f caps,v,e=>by simp only[Rep]at e ⊢;obtain⟨vs,hv,e⟩:=e;exact⟨vs,hv,Reps.later h caps vs e⟩
 |.bm f fs,v,e=>by simp only[Rep]at e ⊢;obtain⟨vs,hv,e⟩:=e;exact⟨vs,hv,Reps.later h fs vs e⟩
 |.nilfn,_,e=>by simpa[Rep]using e
 |.yl b,v,e=>by simp only[Rep]at e ⊢;exact⟨Zx1 e.1 h.nb,by rw[h.bl b e.1];exact e.2⟩
 |.agg ds,v,e=>by simp only[Rep]at e ⊢;obtain⟨g,vs,hv,e⟩:=e;exact⟨g,vs,hv,Reps.later h ds vs e⟩
 |.tup ds,v,e=>by simp only[Rep]at e ⊢;obtain⟨vs,hv,e⟩:=e;exact⟨vs,hv,Reps.later h ds vs e⟩
 |.undef,_,e=>by simpa[Rep]using e
 |.junk,_,_=>by simp[Rep]
theorem Reps.later{x x':Vx}(h:Nx x x'):∀(ds:Yb1 D) (vs:Yb1 Value),Reps x ds vs->Reps x' ds vs
 |[],_,hr=>by simpa[Reps]using hr
 |d::ds,vs,hr=>by simp only[Reps]at hr ⊢;obtain⟨u,us,hv,a,b⟩:=hr;exact⟨u,us,hv,Rep.later h d u a,Reps.later h ds us b⟩
end
theorem Reps.len:∀{ds:Yb1 D}{vs:Yb1 Value},Reps x ds vs->vs.length=ds.length
 |[],_,hr=>by simp[Reps]at hr;simp[hr]
 |d::ds,vs,hr=>by simp[Reps]at hr;obtain⟨u,us,rfl,_,a⟩:=hr;simp[Reps.len a]
theorem Reps.get:∀{ds:Yb1 D}{vs:Yb1 Value},Reps x ds vs->∀{i:Nat}{d:D},ds[i]? = some d->∃v,vs[i]? = some v/\Rep x d v
 |[],_,_,i,d,hd=>by simp at hd
 |d0::ds,vs,a,i,d,hd=>by simp[Reps]at a;obtain⟨u,us,rfl,b,c⟩:=a;cases i with|zero=>simp at hd;subst hd;exact⟨u,by simp,b⟩|succ i=>simp at hd;obtain⟨v,hv,a⟩:=Reps.get c hd;exact⟨v,by simpa using hv,a⟩
theorem Reps.mk:∀{ds:Yb1 D}{vs:Yb1 Value},vs.length=ds.length->(∀(i:Nat) d v,ds[i]? = some d->vs[i]? = some v->Rep x d v)->Reps x ds vs
 |[],vs,hl,_=>by simp[Reps];exact List.eq_nil_of_length_eq_zero hl
 |d::ds,[],hl,_=>by simp at hl
 |d::ds,u::us,hl,h=>by simp only[Reps];exact⟨u,us,rfl,h 0 d u (by simp) (by simp),Reps.mk (by simpa using hl) λi d v hd hv=>h (i+1) d v (by simpa using hd) (by simpa using hv)⟩
theorem Reps.append{ds es:Yb1 D}{vs us:Yb1 Value}(h:Reps x ds vs)(k:Reps x es us):Reps x (ds++es) (vs++us):=by induction ds generalizing vs with|nil=>simp[Reps]at h;subst h;simpa using k|cons d ds a=>simp[Reps]at h;obtain⟨u,r,rfl,b,c⟩:=h;simp only[Zb2];exact⟨u,r++us,rfl,b,a c⟩
end Go.Ax
namespace Go.Sx
open Go.RowKit
abbrev Env:=Yb1 (Nat×Value)
def Env.get:Env->Nat->Ya1 Value|[],_=>none|(k,v)::e,n=>match Nat.beq k n with|true=>some v|false=>Env.get e n
def Env.ev(e:Env):Operand->Ya1 Value|.tmp t=>Env.get e t|.const v=>some v|.global g=>some (.pointer (some ⟨g,0,none⟩))|.func f=>some (.func (.func f) #[] #[])
def Env.evs(e:Env):Yb1 Operand->Ya1 (Yb1 Value)
 |[]=>some []
 |x::xs=>match Env.ev e x with
  |none=>none
  |some v=>match Env.evs e xs with|none=>none|some vs=>some (v::vs)
structure EnvOk (n:Nat) (e:Env) (a:Act):Prop where
 defers:a.defers=[]
 size:a.tmps.size=n
 get:∀k v,Env.get e k=some v->a.tmps[k]? = some v
variable{a:Act}{x:Operand}
theorem EnvOk.ev{n:Nat}{e:Env}(h:EnvOk n e a){v:Value}(b:Env.ev e x=some v):a.eval x=v:=by cases x with|tmp t=>have:=h.get t v b;simp[Act.eval,this]|const u=>simpa[Env.ev,Act.eval]using b|global g=>simpa[Env.ev,Act.eval]using b|func f=>simpa[Env.ev,Act.eval]using b
theorem EnvOk.evs{n:Nat}{e:Env}(h:EnvOk n e a):∀{xs:Yb1 Operand}{vs:Yb1 Value},Env.evs e xs=some vs->xs.map a.eval=vs
 |[],vs,hx=>by simp[Env.evs]at hx;simp[hx]
 |x::xs,vs,hx=>by
  simp[Env.evs]at hx;cases hv:Env.ev e x with
  |none=>simp[hv]at hx
  |some v=>rw[hv]at hx;cases b:Env.evs e xs with|none=>simp[b]at hx|some r=>simp[b]at hx;subst hx;simp[h.ev hv,EnvOk.evs h b]
theorem EnvOk.put{n:Nat}{e:Env}(h:EnvOk n e a){d:Nat}(hd:Nat.blt d n=true)(v:Value):EnvOk n ((d,v)::e) (a.put (some d) v):=by
 have c:d<n:=by simpa using hd
 refine⟨by simpa[Act.put]using h.defers,by simpa[Act.put]using h.size,λk u b=>?_⟩;simp[Env.get]at b;cases hb:Nat.beq d k with
 |true=>
  have f:d=k:=Zl1 hb;subst f;simp at b;subst b;have:d<a.tmps.size:=by rw[h.size];exact c
  simp[Act.put,this]
 |false=>
  rw[hb]at b;have g:d≠k:=Nat.ne_of_beq_eq_false hb;have:=h.get k u b;simp[Act.put]
  grind
structure Chg (S:List Nat) (w w':World):Prop where
 os:w'.os=w.os
 tape:w'.tape=w.tape
 output:w'.output=w.output
 size:w.heap.size<=w'.heap.size
 block:∀k,k<w.heap.size->k∉S->w'.heap[k]? = w.heap[k]?
theorem Chg.refl(S:Yb1 Nat)(w:World):Chg S w w:=⟨rfl,rfl,rfl,Zn1 _,λ_ _ _=>rfl⟩
theorem Chg.trans{S:Yb1 Nat}{a b c:World}(h:Chg S a b)(k:Chg S b c):Chg S a c:=⟨k.os.trans h.os,k.tape.trans h.tape,k.output.trans h.output,Nat.le_trans h.size k.size,λi hi d=>(k.block i (Zx1 hi h.size) d).trans (h.block i hi d)⟩
theorem Chg.mono{S T:Yb1 Nat}{a b:World}(h:Chg S a b)(c:∀x,x∈S->x∈T):Chg T a b:=⟨h.os,h.tape,h.output,h.size,λk d e=>h.block k d (λhm=>e (c k hm))⟩
theorem Chg.drew(S:Yb1 Nat)(w:World):Chg S w w.drew:=⟨rfl,rfl,rfl,Zn1 _,λ_ _ _=>rfl⟩
theorem Chg.drawn(S:Yb1 Nat)(w:World)(n:Nat):Chg S w { w with drawn:=n }:=⟨rfl,rfl,rfl,Zn1 _,λ_ _ _=>rfl⟩
theorem Chg.alloc(S:Yb1 Nat)(w:World)(o:Obj):Chg S w (w.alloc o):=⟨rfl,rfl,rfl,by simp,λk a _=>Below.heap_alloc _ _ _ a⟩
theorem Chg.setCell{S:Yb1 Nat}(w:World){p:Addr}(a:p.block∈S)(u:Value):Chg S w (w.setCell p u):=⟨rfl,rfl,rfl,by simp,λk _ b=>Below.heap_setCell _ _ _ _ (λe=>b (e▸a))⟩
variable{w:World}{w':World}
theorem Chg.grown{S:Yb1 Nat}{row:Ya1 Nat}(h:w.grownBy w' row)(a:∀k,row=some k->k∈S):Chg S w w':=⟨h.os,h.tape,h.output,h.size,λk b c=>h.block k b (λe=>c (a k e.symm))⟩
theorem Chg.below(h:Chg [] w w'):Below w.heap.size w w':=⟨h.os,h.tape,h.output,h.size,λk a=>h.block k a (by simp)⟩
theorem Chg.cell{S:Yb1 Nat}(h:Chg S w w'){p:Addr}{v:Value}(hc:w.cell? p=some v)(a:p.block∉S):w'.cell? p=some v:=(World.cell?_of_block (h.block p.block (World.block_lt_of_cell? w p hc) a)).trans hc
def Rob(S:Yb1 Nat)(F:World->Prop)(w:World):Prop:=∀w',Chg S w w'->F w'
variable{F:World->Prop}
theorem Rob.here{S:Yb1 Nat}(h:Rob S F w):F w:=h w (Chg.refl S w)
theorem Rob.mono{S T:Yb1 Nat}(h:Rob T F w)(a:∀x,x∈S->x∈T):Rob S F w:=λw' hc=>h w' (hc.mono a)
theorem Rob.imp{S:Yb1 Nat}{G:World->Prop}(h:Rob S F w)(hi:∀w,F w->G w):Rob S G w:=λw' hc=>hi _ (h w' hc)
theorem Rob.and{S:Yb1 Nat}{G:World->Prop}(h:Rob S F w)(k:Rob S G w):Rob S (λw=>F w/\G w) w:=λw' hc=>⟨h w' hc,k w' hc⟩
theorem Rob.step{S:Yb1 Nat}(h:Rob S F w)(hc:Chg S w w'):Rob S F w':=λ_ a=>h _ (hc.trans a)
theorem Rob.fresh{S T:Yb1 Nat}(h:Rob S F w)(hc:Chg S w w')(f:∀b,b∈T->b∉S->w.heap.size<=b):Rob T F w':=by intro c a;refine h c ⟨a.os.trans hc.os,a.tape.trans hc.tape,a.output.trans hc.output,Nat.le_trans hc.size a.size,λk d e=>?_⟩;rw[a.block k (Zx1 d hc.size) (λhm=>by have:=f k hm e;omega)];exact hc.block k d e
inductive Ent where
 |blk (b:Nat) (cs:List Value) (t:TypeId)
 |row (v:Value) (t:TypeId) (sz n:Nat) (xs:List Value)
abbrev Loc:=Yb1 Ent
def Ent.fp:Ent->Yb1 Nat|.blk b _ _=>[b]|.row (.slice (some a) _ _) _ _ _ _=>[a.block]|.row _ _ _ _ _=>[]
def Ent.ok(w:World):Ent->Prop|.blk b cs t=>w.heap[b]? = some (.cells cs.toArray t (0,0))|.row v t sz n xs=>w.ownsRow 0 t sz v n xs
def fps(L:Loc):Yb1 Nat:=L.flatMap Ent.fp
theorem Ent.fp_lt{x:Ent}(h:x.ok w):∀b,b∈x.fp->b<w.heap.size:=by
 cases x with
 |blk b cs t=>intro b' hb;simp[Ent.fp]at hb;subst hb;exact(Zh2.1 h).1
 |row v t sz n xs=>
  intro b' hb;have c:w.ownsRow 0 t sz v n xs:=h;cases v<;>simp[Ent.fp]at hb
  rename_i a len cap;cases a with|none=>simp at hb|some a=>simp at hb;subst hb;exact(c.lt a.block rfl).2
theorem Ent.ok_chg{S:Yb1 Nat}{x:Ent}(h:x.ok w)(hc:Chg S w w')(hd:∀b,b∈x.fp->b∉S):x.ok w':=by
 have a:=Ent.fp_lt h;cases x with
 |blk b cs t=>show w'.heap[b]? = _;rw[hc.block b (a b (by simp[Ent.fp])) (hd b (by simp[Ent.fp]))];exact h
 |row v t sz n xs=>
  have c:w.ownsRow 0 t sz v n xs:=h;refine⟨c.1,?_⟩;rcases c.2 with d|⟨g,cap,cur,rfl,hb,e,r⟩
  ·exact .inl d
  ·refine .inr ⟨g,cap,cur,rfl,hb,?_,r⟩;rw[hc.block g (a g (by simp[Ent.fp])) (hd g (by simp[Ent.fp]))];exact e
structure Cx where
 P:Program
 n:Nat
 w0:World
 I:List Nat
 M:List Nat
structure StOk (cx:Cx) (L:Loc) (F:World->Prop) (w:World):Prop where
 chg:Chg cx.I cx.w0 w
 ok:∀x,x∈L->x.ok w
 nodup:(fps L).Nodup
 own:∀b,b∈fps L->b∈cx.I\/cx.w0.heap.size<=b
 away:∀b,b∈cx.M->b<cx.w0.heap.size/\b∉cx.I
 rob:Rob (cx.M++fps L) F w
variable{L:Loc}{cx:Cx}
theorem StOk.lt(h:StOk cx L F w):∀b,b∈fps L->b<w.heap.size:=by intro b hb;simp[fps]at hb;obtain⟨x,a,hb⟩:=hb;exact Ent.fp_lt (h.ok x a) b hb
theorem StOk.here(h:StOk cx L F w):F w:=h.rob.here
theorem StOk.disj(h:StOk cx L F w):∀b,b∈cx.M->b∉fps L:=by
 intro b hb hm;rcases h.own b hm with hi|hi
 ·exact(h.away b hb).2 hi
 ·have:=(h.away b hb).1;omega
theorem StOk.quiet(h:StOk cx L F w)(hc:Chg [] w w'):StOk cx L F w':=⟨h.chg.trans (hc.mono (by simp)),λx a=>Ent.ok_chg (h.ok x a) hc (by simp),h.nodup,h.own,h.away,h.rob.step (hc.mono (by simp))⟩
theorem StOk.fact{G:World->Prop}(h:StOk cx L F w)(hi:∀w,F w->G w):StOk cx L G w:=⟨h.chg,h.ok,h.nodup,h.own,h.away,h.rob.imp hi⟩
def LW(P:Program)(c:Code)(Q:Exit->Act->World->Prop)(a:Act)(w:World):Prop:=∀(b:Frame) (k:Yb1 Item) (cs:Yb1 Frame),∃e a' w',Q e a' w'/\Arrives P (lone (b.at a (.code c :: .inLoop c::k)) cs w) b k cs e a' w'
variable{P:Program}{Q:Exit->Act->World->Prop}{c:Code}
theorem wp_of_LW(h:LW P c Q a w):(Code.loop c).wp P Q a w:=by intro b k cs;obtain⟨e,a',w',f,d⟩:=h b k cs;exact⟨e,a',w',f,.of_steps (.one step_loop) d⟩
theorem LW_round(h:c.wp P (Exit.then (LW P c Q) Q) a w):LW P c Q a w:=by intro b k cs;obtain⟨e,a₁,w₁,f,d⟩:=h b (.inLoop c::k) cs;cases e with|normal=>obtain⟨e₂,a₂,w₂,hq₂,harr₂⟩:=f b k cs;exact⟨e₂,a₂,w₂,hq₂,.of_steps (Steps.trans d (.one step_inLoop)) harr₂⟩|exit id=>exact⟨_,a₁,w₁,f,.pass (x:=.inLoop c) rfl (λ_ _=>.inl (by simp)) d⟩|goto l=>exact⟨_,a₁,w₁,f,.pass (x:=.inLoop c) rfl (λ_ _=>.inl (by simp)) d⟩|ret=>exact⟨_,a₁,w₁,f,.pass (x:=.inLoop c) rfl (λ_ _=>.inl (by simp)) d⟩|panic g=>exact⟨_,a₁,w₁,f,.pass (x:=.inLoop c) rfl (λ_ _=>.inl (by simp)) d⟩|outgrown=>exact⟨_,a₁,w₁,f,.pass (x:=.inLoop c) rfl (λ_ _=>.inl (by simp)) d⟩
inductive KI where
 |seq (c:Code)
 |blk (id:Nat)
 |loop (c:Code)
 |scope
 |drawn (ops:Array Oper) (fuel:Nat) (listed:Array Bool)
def G2(P:Program)(Q:Exit->Act->World->Prop):Yb1 KI->Exit->Act->World->Prop|[]=>Q|.seq c::k=>Exit.then (c.wp P (G2 P Q k)) (G2 P Q k)|.blk id::k=>Exit.inBlock id (G2 P Q k)|.loop c::k=>Exit.then (LW P c (G2 P Q k)) (G2 P Q k)|.scope::k=>Exit.noGoto (G2 P Q k)|.drawn ops fuel listed::k=>Exit.then (wpAny P .any ops (G2 P Q k) fuel listed) (G2 P Q k)
structure G (cx:Cx) (c:Code) (k:List KI) (e:Env) (L:Loc) (F:World->Prop) (Q:Exit->Act->World->Prop):Prop where
 run:∀a w,EnvOk cx.n e a->StOk cx L F w->c.wp cx.P (G2 cx.P Q k) a w
structure N (cx:Cx) (k:List KI) (e:Env) (L:Loc) (F:World->Prop) (Q:Exit->Act->World->Prop):Prop where
 run:∀a w,EnvOk cx.n e a->StOk cx L F w->G2 cx.P Q k .normal a w
structure O (cx:Cx) (ops:Array Oper) (l:List Oper) (k:List KI) (e:Env) (L:Loc) (F:World->Prop) (Q:Exit->Act->World->Prop):Prop where
 run:∀a w,EnvOk cx.n e a->StOk cx L F w->wpList cx.P ops (G2 cx.P Q k) l a w
section control
variable {cx:Cx}{k:Yb1 KI}{e:Env}{L:Loc}{F:World->Prop}{Q:Exit->Act->World->Prop}
theorem Ei{x y:Code}(h:G cx x (.seq y::k) e L F Q):G cx (.seq x y) k e L F Q:=.mk λa w b c=>wp_seq (h.run a w b c)
theorem E3(h:N cx k e L F Q):G cx .skip k e L F Q:=.mk λa w b c=>wp_skip (h.run a w b c)
variable{id:Nat}
theorem Bh{l:Yb1 Oper}(h:O cx l.toArray l k e L F Q):G cx (.region id l.toArray false) k e L F Q:=.mk λa w b c=>wp_region_lit (h.run a w b c)
theorem Iw{c:Operand}{x y:Code}{b:Bool}(hc:Env.ev e c=some (.bool b))(g:b=true->G cx x k e L F Q)(h:b=false->G cx y k e L F Q):G cx (.cond c x y) k e L F Q:=.mk λa w d f=>wp_cond_split (d.ev hc) (λhb=>(g hb).run a w d f) (λhb=>(h hb).run a w d f)
theorem Jw{c:Operand}{x y:Code}{p:Prop}[inst:Decidable p](hc:Env.ev e c=some (.bool (decide p)))(a:p->G cx x k e L F Q)(b:¬p->G cx y k e L F Q):G cx (.cond c x y) k e L F Q:=Iw hc (λh=>a (of_decide_eq_true h)) (λh=>b (of_decide_eq_false h))
theorem Cm(h:G cx c k e L F Q):N cx (.seq c::k) e L F Q:=.mk h.run
theorem Ib(P:Program)(Q:Exit->Act->World->Prop)(a:Act)(w:World)(h:Q .ret a w):∀k,G2 P Q k .ret a w
 |[]=>h
 |.seq _::k=>Ib P Q a w h k
 |.blk _::k=>Ib P Q a w h k
 |.loop _::k=>Ib P Q a w h k
 |.drawn _ _ _::k=>Ib P Q a w h k
 |.scope::k=>by show Exit.noGoto (G2 P Q k) .ret a w;rw[Exit.noGoto_ret];exact Ib P Q a w h k
theorem B5g(h:∀a w,EnvOk cx.n e a->StOk cx L F w->Q .ret a w):G cx .ret k e L F Q:=.mk λa w b c=>wp_ret (Ib _ _ _ _ (h a w b c) k)
variable {ops:Array Oper}{rest:Yb1 Oper}
theorem Cl(h:N cx k e L F Q):O cx ops [] k e L F Q:=.mk h.run
def Gd(ops:Array Oper)(e:Env):Ya1 (Nat×Bool)->Ya1 Bool
 |none=>some true
 |some (j,b)=>match(ops[j]?).bind (·.dst)with
  |none=>none
  |some d=>match Env.get e d with|some (.bool x)=>some (x == b)|some (.tuple _)=>some false|_=>none
variable{o:Oper}
theorem Gd.wanted{n:Nat}{r:Bool}(f:EnvOk n e a)(h:Gd ops e o.guard=some r):Region.wanted o (yielded ops a.tmps)=r:=by
 unfold Region.wanted;unfold Gd at h;split at h
 ·grind
 ·rename_i j b g;rw[g];split at h
  ·cases h
  ·rename_i d hd;split at h
   ·rename_i x c;have:=f.get d _ c;simp only[yielded,hd,Zc1,this,Za1]at h ⊢;rw[<-h];cases x<;>cases b<;>rfl
   ·rename_i x c;have:=f.get d _ c;simp only[yielded,hd,Zc1,this,Za1]at h ⊢;rw[<-h];cases b<;>rfl
   ·cases h
variable{dst:Nat}{g:Ya1 (Nat×Bool)}{op:Op}{pos:String}{t:TypeId}
theorem Xe{b:Array Edge}(R:Value->Loc->(World->Prop)->Prop)(i:Gd ops e g=some true)(hd:Nat.blt dst cx.n=true)
  (j:∀a w,EnvOk cx.n e a->StOk cx L F w->∃v w' L' F',(execOp a.eval ⟨some dst,op,t,pos,b,g⟩).run cx.P w = .ok (.value v) w'/\StOk cx L' F' w'/\R v L' F')
  (h:∀v L' F',R v L' F'->O cx ops rest k ((dst,v)::e) L' F' Q) :
  O cx ops (⟨some dst,op,t,pos,b,g⟩::rest) k e L F Q:=.mk λa w d l=>by
 have m:=Gd.wanted (o:=⟨some dst,op,t,pos,b,g⟩) d i;obtain⟨v,w',L',F',c,f,p⟩:=j a w d l;simp[wpList,m,Oper.wp];left;rw[c];simp[Oper.upon];exact(h v L' F' p).run _ w' (d.put hd v) f
def Pure(P:Program)(e:Env)(op:Op)(v:Value):Prop:=∀(n:Nat) (a:Act) (w:World) (o:Oper),EnvOk n e a->o.op=op->(execOp a.eval o).run P w = .ok (.value v) w
theorem Av{b:Array Edge}{v:Value}(c:Gd ops e g=some true)(hd:Nat.blt dst cx.n=true)
  (d:Pure cx.P e op v) (h:O cx ops rest k ((dst,v)::e) L F Q):O cx ops (⟨some dst,op,t,pos,b,g⟩::rest) k e L F Q:=
 Xe (λu L' F'=>u=v/\L' = L/\F' = F) c hd (λa w f i=>⟨v,w,L,F,d cx.n a w _ f rfl,i,rfl,rfl,rfl⟩) (λu L' F' ⟨j,l,m⟩=>by rw[j,l,m];exact h)
end control
def Enters(P:Program)(f:FuncId):Prop:=∀args w,(callFunc f args).run P w = .ok (.enter f args) w
variable{f:FuncId}{fn:Func}
theorem enters_of(b:P.funcs[f]? = some fn)(hb:fn.body.isNone=false)(d:(fn.name == "runtime.NumGoroutine")=false):Enters P f:=by
 intro args w;have a:¬fn.name = "runtime.NumGoroutine" :=by simpa using d
 obtain⟨c,hc⟩:∃c,fn.body=some c:=by cases h:fn.body with|none=>rw[h]at hb;cases hb|some c=>exact⟨c,rfl⟩
 simp[callFunc,b,hc,a]
structure Con (P:Program) (f:FuncId) (args:List Value) (Lin:Loc) (Pre:World->Prop) (Post:Value->Loc->(World->Prop)->Prop):Prop where
 enters:Enters P f
 run:∀(w:World) (M:List Nat),StOk ⟨P,0,w,fps Lin,M⟩ Lin Pre w ->
  Calls P f args.toArray w λen w'=>∃v L' F',en = .returned v/\Post v L' F'/\StOk ⟨P,0,w,fps Lin,M⟩ L' F' w'
def D3:Nat->Yb1 Value->Env|_,[]=>[]|i,v::vs=>(i,v)::D3 (i+1) vs
theorem Ip:∀(vs:Yb1 Value) (i k:Nat) (v:Value),Env.get (D3 i vs) k=some v->i<=k/\vs[k-i]? = some v
 |[],i,k,v,h=>by simp[D3,Env.get]at h
 |u::vs,i,k,v,h=>by
  simp[D3,Env.get]at h;cases hb:Nat.beq i k with
  |true=>simp_all
  |false=>
   rw[hb]at h;have a:i≠k:=Nat.ne_of_beq_eq_false hb;obtain⟨c,b⟩:=Ip vs (i+1) k v h;refine⟨by omega,?_⟩;have:k-i=(k-(i+1))+1:=by omega
   rw[this];simpa using b
def Be6(P:Program)(w:World)(I M:Yb1 Nat)(Post:Value->Loc->(World->Prop)->Prop)(en:Ending)(w':World):Prop:=∃v L' F',en = .returned v/\Post v L' F'/\StOk ⟨P,0,w,I,M⟩ L' F' w'
variable{I:Yb1 Nat}{M:Yb1 Nat}{m:Nat}{w0:World}
theorem StOk.n{n:Nat}(h:StOk ⟨P,n,w0,I,M⟩ L F w):StOk ⟨P,m,w0,I,M⟩ L F w:=⟨h.chg,h.ok,h.nodup,h.own,h.away,h.rob⟩
variable{Lin:Loc}{Post:Value->Loc->(World->Prop)->Prop}{Pre:World->Prop}{args:Yb1 Value}
theorem Bq{n:Nat}
  (e:P.funcs[f]? = some fn) (l:fn.ntmps=n) (hb:fn.body=some c) (a:(fn.name == "runtime.NumGoroutine")=false) (b:Nat.ble args.length n=true)
  (h:∀w M,G ⟨P,n,w,fps Lin,M⟩ c [] (D3 0 args) Lin Pre (bodyPost P fn (Be6 P w (fps Lin) M Post))):Con P f args Lin Pre Post:=by
 refine⟨enters_of e (by rw[hb];rfl) a,λw M i=>?_⟩;have hle:args.length<=n:=by simpa using b
 refine calls_of_wp e hb ((h w M).run _ w ⟨rfl,?_,?_⟩ i.n)
 ·simp;omega
 ·intro k v j;obtain⟨_,g⟩:=Ip args 0 k v j;simp at g;have d:k<args.length:=by grind
  simp only[Array.getElem?_append,List.size_toArray,d];simpa using g
theorem Con.calls(h:Con P f args [] Pre Post)(w:World)(d:∀w',Below w.heap.size w w'->Pre w') :
  Calls P f args.toArray w λen w'=>∃v L' F',en = .returned v/\Post v L' F'/\F' w'/\Below w.heap.size w w':=
 (h.run w [] ⟨Chg.refl _ _,by simp,by simp[fps],by simp[fps],by simp,λw' hc=>d w' (Chg.below (by simpa[fps]using hc))⟩).mono λ_ _ ⟨v,L',F',a,b,c⟩=>⟨v,L',F',a,b,c.here,Chg.below (by simpa[fps]using c.chg)⟩
section
variable {cx:Cx}{k:Yb1 KI}{e:Env}{L:Loc}{F:World->Prop}{Q:Exit->Act->World->Prop}{ops:Array Oper}{rest:Yb1 Oper}
theorem Cc(A B:Loc):fps (A++B)=fps A++fps B:=by simp[fps]
theorem Hu(x:Ent)(B:Loc):fps (x::B)=x.fp++fps B:=by simp[fps]
theorem StOk.perm{L2:Loc}(h:StOk cx L F w)(d:L.Perm L2):StOk cx L2 F w:=by have c:(fps L).Perm (fps L2):=d.flatMap_right _;refine⟨h.chg,λx a=>h.ok x (d.mem_iff.2 a),c.nodup_iff.1 h.nodup,λb hb=>h.own b (c.mem_iff.2 hb),h.away,h.rob.mono ?_⟩;intro x a;simp at a ⊢;exact a.imp id c.mem_iff.2
theorem StOk.drop{x:Ent}(h:StOk cx (x::L) F w):StOk cx L F w:=by
 have c:=h.nodup;rw[Hu]at c;exact⟨h.chg,λy a=>h.ok y (by simp[a]),(List.nodup_append.1 c).2.1,λb hb=>h.own b (by rw[Hu];simp[hb]),h.away,h.rob.mono (by
  intro y a;rw[Hu];simp at a ⊢;rcases a with a|a
  ·exact .inl a
  ·exact .inr (.inr a))⟩
variable{Lf:Loc}
theorem StOk.called{L':Loc}{F':World->Prop}{M':Yb1 Nat}(h:StOk cx (Lin++Lf) F w)(o:M' = cx.M++fps Lf)(g:StOk ⟨cx.P,0,w,fps Lin,M'⟩ L' F' w'):StOk cx (L'++Lf) (λw=>F w/\F' w) w':=by
 subst o;have m:=h.nodup;rw[Cc]at m;obtain⟨r,p,n⟩:=List.nodup_append.1 m;have f:∀b,b∈fps L'->b∈fps Lin\/w.heap.size<=b:=g.own;have c:Chg (fps Lin) w w':=g.chg;have j:∀b,b∈fps L'->b∉fps Lf:=λb hb hm=>by
  rcases f b hb with hi|hi
  ·exact n b hi b hm rfl
  ·have:=h.lt b (by rw[Cc];simp[hm]);omega
 refine⟨?_,?_,?_,?_,h.away,?_⟩
 ·have hc:=h.chg;refine⟨c.os.trans hc.os,c.tape.trans hc.tape,c.output.trans hc.output,Nat.le_trans hc.size c.size,λi hi k=>?_⟩;rw[c.block i (Zx1 hi hc.size) (λhm=>?_)]
  ·exact hc.block i hi k
  ·rcases h.own i (by rw[Cc];simp[hm])with ho|ho
   ·exact k ho
   ·omega
 ·intro x d;simp at d;rcases d with d|d
  ·exact g.ok x d
  ·refine Ent.ok_chg (h.ok x (by simp[d])) c λb hb hm=>?_;exact n b hm b (by simp[fps];exact⟨x,d,hb⟩) rfl
 ·rw[Cc];exact List.nodup_append.2 ⟨g.nodup,p,λa q b hb l=>by subst l;exact j a q hb⟩
 ·intro b hb;rw[Cc]at hb;simp at hb;rcases hb with hb|hb
  ·rcases f b hb with hi|hi
   ·exact h.own b (by rw[Cc];simp[hi])
   ·right;have:=h.chg.size;omega
  ·exact h.own b (by rw[Cc];simp[hb])
 ·refine Rob.and (h.rob.fresh (c.mono ?_) ?_) (g.rob.mono ?_)
  ·intro x d;rw[Cc];simp[d]
  ·intro b hb e;rw[Cc]at hb e;simp at hb e;rcases hb with hb|hb|hb
   ·exact absurd hb e.1
   ·grind
   ·exact absurd hb e.2.2
  ·intro x d;rw[Cc]at d;simp only[List.mem_append]at d ⊢;rcases d with d|d|d
   ·exact .inl (.inl d)
   ·exact .inr d
   ·exact .inl (.inr d)
theorem StOk.callee(h:StOk cx (Lin++Lf) F w)(d:∀w,F w->Pre w):StOk ⟨cx.P,0,w,fps Lin,cx.M++fps Lf⟩ Lin Pre w:=by
 have c:=h.nodup;rw[Cc]at c;obtain⟨e,g,f⟩:=List.nodup_append.1 c;refine⟨Chg.refl _ _,λx a=>h.ok x (by simp[a]),e,λb hb=>.inl hb,?_,(h.rob.imp d).mono ?_⟩
 ·intro b hb;simp at hb;rcases hb with hb|hb
  ·exact⟨Zx1 (h.away b hb).1 h.chg.size,λhm=>h.disj b hb (by rw[Cc];simp[hm])⟩
  ·exact⟨h.lt b (by rw[Cc];simp[hb]),λhm=>f b hm b hb rfl⟩
 ·intro x a;rw[Cc];simp only[List.mem_append]at a ⊢;rcases a with (a|a)|a
  ·exact .inl a
  ·exact .inr (.inr a)
  ·exact .inr (.inl a)
def Is(v:Value):Value->Loc->(World->Prop)->Prop:=λu L F=>u=v/\L=[]/\F=λ_=>True
structure Rt (cx:Cx) (L:Loc) (F:World->Prop) (Φ:Loc->(World->Prop)->Prop):Prop where
 run:∀w,StOk cx L F w->∃L' F', Φ L' F'/\StOk cx L' F' w
variable {Φ:Loc->(World->Prop)->Prop}
theorem B9(h : Φ L F):Rt cx L F Φ:=.mk λ_ a=>⟨L,F,h,a⟩
theorem StOk.nil:∀{L:Loc}{w:World},StOk cx L F w->StOk cx [] F w
 |[],_,h=>h
 |_::_,_,h=>StOk.nil h.drop
theorem B2v(h : Φ [] λ_=>True):Rt cx L F Φ:=.mk λ_ a=>⟨[],_,h,(a.nil).fact λ_ _=>trivial⟩
variable{u:Value}
theorem B13{v:Value}(h:u=v):Rt cx L F (Is v u):=B2v ⟨h,rfl,rfl⟩
def resv:Yb1 Value->Value|[v]=>v|vs=>.tuple vs.toArray
def RV(cx:Cx)(e:Env)(L:Loc)(F:World->Prop):ResultVar->Value->Prop|.tmp t,v=>Env.get e t=some v|.cell a t,v=>∃p,Env.get e a=some (.pointer (some p))/\∀w,StOk cx L F w->(loadVar t p).run cx.P w = .ok v w
def RVs(cx:Cx)(e:Env)(L:Loc)(F:World->Prop):Yb1 ResultVar->Yb1 Value->Prop|[],[]=>True|r::rs,v::vs=>RV cx e L F r v/\RVs cx e L F rs vs|_,_=>False
def rdv(tmps:Array Value):ResultVar->Sem Value
 |.tmp t=>pure (tmps.getD t undef)
 |.cell a t=>do loadVar t (<-asAddr (tmps.getD a undef))
theorem RVs.run(b:EnvOk cx.n e a)(c:StOk cx L F w):∀{rs:Yb1 ResultVar}{vs:Yb1 Value},RVs cx e L F rs vs->Sem.run cx.P (rs.mapM (rdv a.tmps)) w=Result.ok vs w
 |[],[],_=>by simp
 |[],_::_,h=>h.elim
 |_::_,[],h=>h.elim
 |.tmp t::rs,v::vs,h=>by have d:a.tmps[t]? = some v:=b.get t v h.1;have f:=RVs.run b c h.2;simp[ rdv,d,f]
 |.cell a' t::rs,v::vs,h=>by obtain⟨⟨p,g,i⟩,j⟩:=h;have d:a.tmps[a']? = some _:=b.get a' _ g;have f:=RVs.run b c j;simp[ rdv,d,f,asAddr,(i w c)]
theorem results_eq(fn:Func)(tmps:Array Value):results fn tmps=(do let vs <-fn.results.mapM (rdv tmps);pure (if h:vs.size=1 then vs[0]else .tuple vs)):=by unfold results;congr 1
variable{vs:Yb1 Value}
theorem Bts{n:Nat}{rs:Yb1 ResultVar}{v:Value}(b:fn.results=rs.toArray)(hv:RVs ⟨P,n,w0,I,M⟩ e L F rs vs)(c:resv vs=v)
  (h:Rt ⟨P,n,w0,I,M⟩ L F (Post v)):G ⟨P,n,w0,I,M⟩ .ret k e L F (bodyPost P fn (Be6 P w0 I M Post)):=by
 refine B5g λa w f g=>?_;obtain⟨L',F',i,d⟩:=h.run w g;refine⟨f.defers,v,?_,v,L',F',rfl,i,d.n⟩;rw[results_eq,b];simp only[List.mapM_toArray,Sem.run_bind,map_eq_pure_bind,(RVs.run f g hv)];congr 1;rw[<-c];match vs with|[]=>rfl|[v]=>rfl|_::_::_=>simp[resv]
section
variable {P:Program}{n:Nat}{w0:World}{I M:Yb1 Nat}{fn:Func}{Post:Value->Loc->(World->Prop)->Prop}{t1 t2 t3:Nat}{v1 v2 v3:Value}
theorem Ci(a:fn.results = #[.tmp t1])(b:Env.get e t1=some v1)(c:Rt ⟨P,n,w0,I,M⟩ L F (Post v1)):G ⟨P,n,w0,I,M⟩ .ret k e L F (bodyPost P fn (Be6 P w0 I M Post)):=Bts (rs:=[.tmp t1]) (vs:=[v1]) a ⟨b,trivial⟩ rfl c
end
end
abbrev S(l:Yb1 UInt8):Value:=.string ⟨l.toArray⟩
def byt(l:Yb1 UInt8)(i:Int):Int:=((l.getD i.toNat 0).toNat:Int)
def cut(l:Yb1 UInt8)(a b:Int):Yb1 UInt8:=(l.drop a.toNat).take (b.toNat-a.toNat)
def tyS(P:Program)(t:TypeId):Bool:=match P.underlying t with|some .string=>true|_=>false
def tyB(P:Program)(t:TypeId):Bool:=match P.underlying t with|some .bool=>true|_=>false
def tySl(P:Program)(t:TypeId):Bool:=match P.underlying t with|some (.slice _)=>true|_=>false
def tyI(P:Program)(t:TypeId)(k:IntKind):Bool:=match P.underlying t with|some (.int k')=>k' == k|_=>false
def tySome(P:Program)(t:TypeId):Bool:=(P.underlying t).isSome
variable{t:TypeId}
theorem tyS_spec(h:tyS P t=true):P.underlying t=some .string:=by
 unfold tyS at h;split at h
 ·assumption
 ·cases h
theorem tyB_spec(h:tyB P t=true):P.underlying t=some .bool:=by
 unfold tyB at h;split at h
 ·assumption
 ·cases h
theorem Bk6(h:tySl P t=true):∃u,P.underlying t=some (.slice u):=by
 unfold tySl at h;split at h
 ·grind
 ·cases h
variable{k:IntKind}
theorem tyI_spec(h:tyI P t k=true):P.underlying t=some (.int k):=by
 unfold tyI at h;split at h
 ·grind
 ·cases h
theorem tySome_spec(h:tySome P t=true):∃d,P.underlying t=some d:=by unfold tySome at h;exact Option.isSome_iff_exists.1 h
section
variable {P:Program}{e:Env}
theorem p_move{v:Value}(h:Env.ev e x=some v):Pure P e (.move x) v:=λn a w o b c=>by simp[execOp,c,b.ev h]
theorem p_assign{v:Value}(h:Env.ev e x=some v):Pure P e (.assign x) v:=λn a w o b c=>by simp[execOp,c,b.ev h]
variable{y:Operand}
theorem p_pick_t{c:Operand}{v:Value}(hc:Env.ev e c=some (.bool true))(h:Env.ev e x=some v):Pure P e (.pick c x y) v:=λn a w o b d=>by simp[execOp,d,b.ev h,b.ev hc,asBool]
theorem p_pick_f{c:Operand}{v:Value}(hc:Env.ev e c=some (.bool false))(h:Env.ev e y=some v):Pure P e (.pick c x y) v:=λn a w o b d=>by simp[execOp,d,b.ev h,b.ev hc,asBool]
variable{u:Value}
theorem p_bin{op:BinOp}{t':TypeId}{v r:Value}(c:Env.ev e x=some u)(d:Env.ev e y=some v)
  (f:∀w,(eqGuard op t x y u v).run P w = .ok () w) (h:∀w,(binOp op t u v).run P w = .ok r w):Pure P e (.binOp op t x y t') r:=λn a w o b g=>by
 simp[execOp,g,b.ev c,b.ev d,f,h]
section int
variable {t t':TypeId}{x y:Operand}{k:IntKind}{a b:Int}
theorem eqGuard_int(op:BinOp)(t:TypeId)(x y:Operand)(k c:IntKind)(a b:Int)(w:World):(eqGuard op t x y (.int k a) (.int c b)).run P w = .ok () w:=by cases op<;>rfl
theorem eqGuard_str(op:BinOp)(t:TypeId)(x y:Operand)(a b:ByteArray)(w:World):(eqGuard op t x y (.string a) (.string b)).run P w = .ok () w:=by cases op<;>rfl
theorem Acc(op:BinOp)(t:TypeId)(x y:Operand)(a b:Bool)(w:World):(eqGuard op t x y (.bool a) (.bool b)).run P w = .ok () w:=by cases op<;>rfl
theorem p_add(c:Env.ev e x=some (.int k a))(d:Env.ev e y=some (.int k b)):Pure P e (.binOp .add t x y t') (.int k (k.wrap (a+b))):=p_bin c d (eqGuard_int _ _ _ _ _ _ _ _) λw=>by simp[binOp,Op.intArith]
theorem p_sub(c:Env.ev e x=some (.int k a))(d:Env.ev e y=some (.int k b)):Pure P e (.binOp .sub t x y t') (.int k (k.wrap (a-b))):=p_bin c d (eqGuard_int _ _ _ _ _ _ _ _) λw=>by simp[binOp,Op.intArith]
theorem p_mul(c:Env.ev e x=some (.int k a))(d:Env.ev e y=some (.int k b)):Pure P e (.binOp .mul t x y t') (.int k (k.wrap (a*b))):=p_bin c d (eqGuard_int _ _ _ _ _ _ _ _) λw=>by simp[binOp,Op.intArith]
theorem Ajq(c:Env.ev e x=some (.int .i64 a))(d:Env.ev e y=some (.int .i64 b))(h : -9223372036854775808<=a+b/\a+b<=9223372036854775807):Pure P e (.binOp .add t x y t') (.int .i64 (a+b)):=by have:=p_add (P:=P) (t:=t) (t':=t') c d;rwa[IntWalk.i64_in _ h]at this
theorem Ll(c:Env.ev e x=some (.int .i64 a))(d:Env.ev e y=some (.int .i64 b))(h : -9223372036854775808<=a-b/\a-b<=9223372036854775807):Pure P e (.binOp .sub t x y t') (.int .i64 (a-b)):=by have:=p_sub (P:=P) (t:=t) (t':=t') c d;rwa[IntWalk.i64_in _ h]at this
theorem p_quo(c:Env.ev e x=some (.int k a))(d:Env.ev e y=some (.int k b))(h:b≠0):Pure P e (.binOp .quo t x y t') (.int k (k.wrap (a.tdiv b))):=p_bin c d (eqGuard_int _ _ _ _ _ _ _ _) λw=>by simp[binOp,Op.intDiv,h]
theorem p_rem(c:Env.ev e x=some (.int k a))(d:Env.ev e y=some (.int k b))(h:b≠0):Pure P e (.binOp .rem t x y t') (.int k (a.tmod b)):=p_bin c d (eqGuard_int _ _ _ _ _ _ _ _) λw=>by simp[binOp,Op.intDiv,h]
theorem p_and(c:Env.ev e x=some (.int k a))(d:Env.ev e y=some (.int k b)):Pure P e (.binOp .and t x y t') (.int k (k.wrap ((BitVec.ofInt k.bits a &&& BitVec.ofInt k.bits b).toNat))):=p_bin c d (eqGuard_int _ _ _ _ _ _ _ _) λw=>by simp[binOp,Op.intBits]
theorem p_or(c:Env.ev e x=some (.int k a))(d:Env.ev e y=some (.int k b)):Pure P e (.binOp .or t x y t') (.int k (k.wrap ((BitVec.ofInt k.bits a ||| BitVec.ofInt k.bits b).toNat))):=p_bin c d (eqGuard_int _ _ _ _ _ _ _ _) λw=>by simp[binOp,Op.intBits]
theorem p_xor(c:Env.ev e x=some (.int k a))(d:Env.ev e y=some (.int k b)):Pure P e (.binOp .xor t x y t') (.int k (k.wrap ((BitVec.ofInt k.bits a ^^^ BitVec.ofInt k.bits b).toNat))):=p_bin c d (eqGuard_int _ _ _ _ _ _ _ _) λw=>by simp[binOp,Op.intBits]
theorem p_shl{c:IntKind}(d:Env.ev e x=some (.int k a))(f:Env.ev e y=some (.int c b))(h : 0<=b):Pure P e (.binOp .shl t x y t') (.int k (k.wrap (a*2 ^ min b.toNat k.bits))):=p_bin d f (eqGuard_int _ _ _ _ _ _ _ _) λw=>by simp[binOp,Op.shift,Int.not_lt.2 h]
theorem p_shr{c:IntKind}(d:Env.ev e x=some (.int k a))(f:Env.ev e y=some (.int c b))(h : 0<=b):Pure P e (.binOp .shr t x y t') (.int k (a.fdiv (2 ^ min b.toNat k.bits))):=p_bin d f (eqGuard_int _ _ _ _ _ _ _ _) λw=>by simp[binOp,Op.shift,Int.not_lt.2 h]
theorem p_eql(c:Env.ev e x=some (.int k a))(d:Env.ev e y=some (.int k b)):Pure P e (.binOp .eql t x y t') (.bool (a == b)):=p_bin c d (eqGuard_int _ _ _ _ _ _ _ _) λw=>by simp[binOp,Op.intCmp]
theorem p_neq(c:Env.ev e x=some (.int k a))(d:Env.ev e y=some (.int k b)):Pure P e (.binOp .neq t x y t') (.bool (a != b)):=p_bin c d (eqGuard_int _ _ _ _ _ _ _ _) λw=>by simp[binOp,Op.intCmp]
theorem p_lss(c:Env.ev e x=some (.int k a))(d:Env.ev e y=some (.int k b)):Pure P e (.binOp .lss t x y t') (.bool (decide (a<b))):=p_bin c d (eqGuard_int _ _ _ _ _ _ _ _) λw=>by simp[binOp,Op.intCmp]
theorem p_leq(c:Env.ev e x=some (.int k a))(d:Env.ev e y=some (.int k b)):Pure P e (.binOp .leq t x y t') (.bool (decide (a<=b))):=p_bin c d (eqGuard_int _ _ _ _ _ _ _ _) λw=>by simp[binOp,Op.intCmp]
theorem p_gtr(c:Env.ev e x=some (.int k a))(d:Env.ev e y=some (.int k b)):Pure P e (.binOp .gtr t x y t') (.bool (decide (b<a))):=p_bin c d (eqGuard_int _ _ _ _ _ _ _ _) λw=>by simp[binOp,Op.intCmp]
theorem p_geq(c:Env.ev e x=some (.int k a))(d:Env.ev e y=some (.int k b)):Pure P e (.binOp .geq t x y t') (.bool (decide (b<=a))):=p_bin c d (eqGuard_int _ _ _ _ _ _ _ _) λw=>by simp[binOp,Op.intCmp]
end int
theorem beq_decide(l m:Yb1 UInt8):(l == m)=decide (l=m):=by grind
section str
variable {t t':TypeId}{x y:Operand}{l m:Yb1 UInt8}
theorem p_adds(a:Env.ev e x=some (S l))(b:Env.ev e y=some (S m))(h:l.length+m.length<=9223372036854775807):Pure P e (.binOp .add t x y t') (S (l++m)):=
 p_bin a b (eqGuard_str _ _ _ _ _ _) λw=>by
  have c:¬(((ByteArray.mk l.toArray).size+(ByteArray.mk m.toArray).size:Nat):Int) > IntKind.i64.max:=by simp[ByteArray.size];omega
  have d:(ByteArray.mk l.toArray++ByteArray.mk m.toArray)=ByteArray.mk (l++m).toArray:=by apply ByteArray.ext;simp
  simp only[binOp,Op.stringOp,if_neg c,Sem.run_pure,d]
theorem p_eqls(a:Env.ev e x=some (S l))(b:Env.ev e y=some (S m)):Pure P e (.binOp .eql t x y t') (.bool (decide (l=m))):=p_bin a b (eqGuard_str _ _ _ _ _ _) λw=>by simp[binOp,Op.stringOp];rw[beq_decide]
theorem p_neqs(a:Env.ev e x=some (S l))(b:Env.ev e y=some (S m)):Pure P e (.binOp .neq t x y t') (.bool (!decide (l=m))):=p_bin a b (eqGuard_str _ _ _ _ _ _) λw=>by simp[binOp,Op.stringOp];rw[beq_decide]
theorem p_lsss(a:Env.ev e x=some (S l))(b:Env.ev e y=some (S m)):Pure P e (.binOp .lss t x y t') (.bool (Op.bytesLess l m)):=p_bin a b (eqGuard_str _ _ _ _ _ _) λw=>by simp[binOp,Op.stringOp]
theorem Ays(d:Nat){a b:Bool}(c:P.underlying t=some .bool):(Op.equalIn (d+1) t (.bool a) (.bool b)).run P w = .ok (a == b) w:=by simp[Op.equalIn,run_underlying c]
theorem An1{a b:Bool}(c:P.underlying t=some .bool):(Op.equal t (.bool a) (.bool b)).run P w = .ok (a == b) w:=Ays 9999 c
theorem p_eqlb{a b:Bool}(c:tyB P t=true)(d:Env.ev e x=some (.bool a))(f:Env.ev e y=some (.bool b)):Pure P e (.binOp .eql t x y t') (.bool (decide (a=b))):=p_bin d f (Acc _ _ _ _ _ _) λw=>by rw[show binOp .eql t (.bool a) (.bool b)=(do pure (.bool (<-Op.equal t (.bool a) (.bool b)))) from rfl,Sem.run_bind,An1 (tyB_spec c)];rfl
theorem p_neqb{a b:Bool}(c:tyB P t=true)(d:Env.ev e x=some (.bool a))(f:Env.ev e y=some (.bool b)):Pure P e (.binOp .neq t x y t') (.bool (!decide (a=b))):=p_bin d f (Acc _ _ _ _ _ _) λw=>by rw[show binOp .neq t (.bool a) (.bool b)=(do pure (.bool (!(<-Op.equal t (.bool a) (.bool b))))) from rfl,Sem.run_bind,An1 (tyB_spec c)];rfl
end str
theorem p_not{b:Bool}(c:Env.ev e x=some (.bool b)):Pure P e (.unOp .not t x) (.bool (!b)):=λn a w o d f=>by simp[execOp,f,d.ev c,Op.unary]
theorem p_neg{a:Int}(b:Env.ev e x=some (.int k a)):Pure P e (.unOp .neg t x) (.int k (k.wrap (0-a))):=λn a' w o c d=>by simp[execOp,d,c.ev b,Op.unary,Op.intArith]
variable{s:TypeId}
theorem p_conv{f:IntKind}{a:Int}(k:IntKind)(b:tySome P s=true)(c:tyI P t k=true)(g:Env.ev e x=some (.int f a)):Pure P e (.convert s t x) (.int k (k.wrap a)):=λn a' w o h i=>by obtain⟨d,j⟩:=tySome_spec b;simp[execOp,i,h.ev g,convert,run_underlying j,run_underlying (tyI_spec c),Conv.intToInt]
variable{vs:Yb1 Value}
theorem B1e{fo:Operand}{xs:Yb1 Operand}{c:Array TypeId}{v:Value}(d:Env.ev e fo=some (.func (.func f) #[] #[]))(g:Env.evs e xs=some vs)(h:∀w,(callFunc f vs.toArray).run P w = .ok (.value v) w):Pure P e (.call ⟨.value fo,xs.toArray,c⟩) v:=λn a w o b i=>by simp[execOp,i,resolve,b.ev d,Deferred.ofValue,(b.evs g),invoke];simpa using h w
def nth:Yb1 Value->Nat->Ya1 Value|[],_=>none|v::_,0=>some v|_::vs,i+1=>nth vs i
theorem nth_eq:∀(l:Yb1 Value) (i:Nat),nth l i=l[i]?
 |[],_=>rfl
 |_::_,0=>rfl
 |_::l,i+1=>by simp[nth,nth_eq l i]
variable{i:Nat}
theorem p_extract{v:Value}(c:Env.ev e x=some (.tuple vs.toArray))(b:nth vs i=some v):Pure P e (.extract x i) v:=λn a w o d f=>by
 have hv:vs.toArray[i]? = some v:=by rw[nth_eq]at b;simpa using b
 simp[execOp,f,Sem.run_pure,Sem.run_bind,d.ev c,Instr.extract,hv]
theorem Bda(l:Yb1 UInt8):(ByteArray.mk l.toArray).size=l.length:=rfl
theorem p_lens{l:Yb1 UInt8}(b:tyS P t=true)(c:Env.ev e x=some (S l)):Pure P e (.call ⟨.builtin .len, #[x], #[t]⟩) (.int .i64 l.length):=λn a w o d f=>by simp[execOp,f,Sem.run_pure,Sem.run_bind,List.map_toArray,Zw1,List.map_nil,d.ev c,resolve,invoke,builtin,Builtin.len_,run_underlying (tyS_spec b),Result.andThen_ok,goInt,List.getElem?_toArray,List.getElem?_cons_zero,Bda]
theorem p_lensl{ad:Ya1 Addr}{l c:Nat}(b:tySl P t=true)(d:Env.ev e x=some (.slice ad l c)):Pure P e (.call ⟨.builtin .len, #[x], #[t]⟩) (.int .i64 l):=λn a w o f g=>by obtain⟨u,h⟩:=Bk6 b;simp[execOp,g,Sem.run_pure,Sem.run_bind,List.map_toArray,Zw1,List.map_nil,f.ev d,resolve,invoke,builtin,Builtin.len_,run_underlying h,Result.andThen_ok,goInt]
theorem p_index{l:Yb1 UInt8}{i:Int}(d:tyS P t=true)(f:Env.ev e x=some (S l))(g:Env.ev e y=some (.int k i))(h : 0<=i/\i<l.length):Pure P e (.index t x y) (.int .u8 (byt l i)):=λn a w o c j=>by
 have b:i.toNat<l.length:=by omega
 have hb:(ByteArray.mk l.toArray)[i.toNat]? = some (l[i.toNat]'b):=by
  have:i.toNat<(ByteArray.mk l.toArray).size:=by simpa[ByteArray.size]using b
  simp[getElem?_pos,this];rfl
 have e2:byt l i=((l[i.toNat]'b).toNat:Int):=by simp[byt,List.getD_eq_getElem?_getD,b]
 simp[execOp,j,Sem.run_pure,Sem.run_bind,c.ev f,c.ev g,Instr.index,asIntOf,run_underlying (tyS_spec d),Result.andThen_ok,if_pos h.1,hb,e2]
end
def tyAgg(P:Program)(t:TypeId):Bool:=match P.underlying t with|some (.struct _)|some (.array _ _)=>true|_=>false
def tySz(P:Program)(t:TypeId):Ya1 Nat:=(P.info? t).map (·.size)
def tyZero(P:Program)(t:TypeId):Ya1 (Yb1 Value):=((P.info? t).bind (·.zero)).map λz=>z.cells.toList
theorem run_isAgg{b:Bool}(h:(tySome P t&&(tyAgg P t == b))=true)(w:World):(isAgg t).run P w = .ok b w:=by simp at h;obtain⟨c,a⟩:=h;obtain⟨d,hd⟩:=tySome_spec c;unfold tyAgg at a;rw[hd]at a;simp[isAgg,run_underlying hd];cases d<;>simp at a<;>subst a<;>simp
theorem run_sizeOf{n:Nat}(h:tySz P t=some n)(w:World):(sizeOf t).run P w = .ok n w:=by unfold tySz at h;cases hi:P.info? t with|none=>rw[hi]at h;cases h|some i=>rw[hi]at h;simp at h;simp[sizeOf,typeInfo,hi,h]
section
variable {cx:Cx}{k:Yb1 KI}{e:Env}{L:Loc}{F:World->Prop}{Q:Exit->Act->World->Prop}{ops:Array Oper}{rest:Yb1 Oper}
theorem A4w{p:Addr}{v:Value}(h:w.cell? p=some v):(load p).run P w = .ok v w:=by simp[ h]
theorem Lq{P:Program}{w:World}{b off:Nat}:∀(vs:Yb1 Value) (i:Nat) (acc:Array Value),(∀j v,vs[j]? = some v->w.cell? ⟨b,off+(i+j),none⟩=some v) ->
  (loadCellsFrom ⟨b,off,none⟩ i vs.length acc).run P w = .ok (acc++vs.toArray) w
 |[],i,acc,_=>by simp[loadCellsFrom]
 |v::vs,i,acc,h=>by
  have a:w.cell? ((⟨b,off,none⟩:Addr).add i)=some v:=by rw[show(⟨b,off,none⟩:Addr).add i=⟨b,off+i,none⟩ by unfold Addr.add;split<;>simp_all];simpa using h 0 v (by simp)
  have c:=Lq (P:=P) vs (i+1) (acc.push v) (λj u d=>by have:=h (j+1) u (by simpa using d);rwa[show i+(j+1)=i+1+j by omega]at this)
  simp only[Zf1,loadCellsFrom,Sem.run_bind,A4w a,Result.andThen_ok,c];simp
theorem run_loadVar1{p:Addr}{v:Value}(a:(tySome P t&&(tyAgg P t == false))=true)(h:w.cell? p=some v):(loadVar t p).run P w = .ok v w:=by simp only[loadVar,Sem.run_bind,run_isAgg a,Result.andThen_ok,Zj2,if_false,A4w h]
variable{vs:Yb1 Value}
theorem run_loadVarn{b off:Nat}(a:(tySome P t&&(tyAgg P t == true))=true)(c:tySz P t=some vs.length)(h:∀j v,vs[j]? = some v->w.cell? ⟨b,off+j,none⟩=some v):(loadVar t ⟨b,off,none⟩).run P w = .ok (.agg vs.toArray) w:=by have d:=Lq (P:=P) (w:=w) (b:=b) (off:=off) vs 0 #[] (λj v e=>by simpa using h j v e);simp only[loadVar,Sem.run_bind,run_isAgg a,Result.andThen_ok,if_true,run_sizeOf c,loadCells,d];simp
variable{cs:Yb1 Value}
theorem Akx{b:Nat}(h:(Ent.blk b cs t).ok w){off:Nat}{v:Value}(hv:cs[off]? = some v):w.cell? ⟨b,off,none⟩=some v:=by have a:w.heap[b]? = some (.cells cs.toArray t (0,0)):=h;simp[World.cell?,a];simpa using hv
theorem StOk.alloc(h:StOk cx L F w)(cs:Yb1 Value)(t:TypeId):StOk cx (.blk w.heap.size cs t::L) F (w.alloc (.cells cs.toArray t)):=by
 have hc:Chg [] w (w.alloc (.cells cs.toArray t)):=Chg.alloc _ _ _;refine⟨h.chg.trans (hc.mono (by simp)),?_,?_,?_,h.away,?_⟩
 ·intro x c;simp at c;rcases c with rfl|c
  ·show(w.heap.push _)[w.heap.size]? = _;simp
  ·exact Ent.ok_chg (h.ok x c) hc (by simp)
 ·rw[Hu];refine List.nodup_append.2 ⟨by simp[Ent.fp],h.nodup,λa e b hb f=>?_⟩;simp[Ent.fp]at e;have:=h.lt b hb;omega
 ·intro b hb;rw[Hu]at hb;simp[Ent.fp]at hb;rcases hb with rfl|hb
  ·right;exact h.chg.size
  ·exact h.own b hb
 ·refine h.rob.fresh (hc.mono (by simp)) λb hb d=>?_;rw[Hu]at hb;simp[Ent.fp]at hb d;rcases hb with hb|rfl|hb
  ·exact absurd hb d.1
  ·exact Zn1 _
  ·exact absurd hb d.2
def fldOff(P:Program)(s:TypeId)(f:Nat):Ya1 Nat:=match P.underlying s with
 |some (.struct fs)=>match fs[f]? with
  |some fd=>match tySz P fd.type with|some sz=>if sz=0 then none else some fd.offset|none=>none
  |none=>none
 |_=>none
theorem add_mk(b off n:Nat):(⟨b,off,none⟩:Addr).add n=⟨b,off+n,none⟩:=by unfold Addr.add;split<;>simp_all
variable{s:TypeId}
theorem p_fa{f b off fo:Nat}(i:(fldOff P s f == some fo)=true)(j:Env.ev e x=some (.pointer (some ⟨b,off,none⟩))):Pure P e (.fieldAddr s x f) (.pointer (some ⟨b,off+fo,none⟩)):=λn a w o k l=>by
 have c:fldOff P s f=some fo:=by simpa using i
 unfold fldOff at c;split at c
 ·rename_i fs m;split at c
  ·rename_i fd d;split at c
   ·rename_i sz g;split at c
    ·cases c
    rename_i h;simp at c;simp[execOp,l,Instr.fieldAt,k.ev j,run_underlying m,d,Instr.sureAddr,fieldPlace,run_sizeOf g,if_neg h,add_mk]
   ·cases c
  ·cases c
 ·cases c
def elSz(P:Program)(t:TypeId):Ya1 Nat:=match P.underlying t with|some (.slice u)=>tySz P u|_=>none
theorem Nl{n:Nat}(h:elSz P t=some n):∃u,P.underlying t=some (.slice u)/\tySz P u=some n:=by
 unfold elSz at h;split at h
 ·grind
 ·cases h
variable{sz:Nat}{y:Operand}
theorem p_ia{b off l c:Nat}{g:IntKind}{i:Int}(j:(elSz P t == some sz)=true)(k:Env.ev e x=some (.slice (some ⟨b,off,none⟩) l c))(m:Env.ev e y=some (.int g i))(h : 0<=i/\i<l) :
  Pure P e (.indexAddr t x y) (.pointer (some ⟨b,off+i.toNat*sz,none⟩)):=λn a w o f p=>by
 obtain⟨u,q,d⟩:=Nl (by simpa using j);simp[execOp,p,Instr.indexAt,f.ev k,f.ev m,asIntOf,run_underlying q,Sem.run_bind,Sem.run_pure,Result.andThen_ok,if_pos h,run_sizeOf d,add_mk]
variable{Lf:Loc}{x':Ent}
theorem StOk.upd{x:Ent}(h:StOk cx (x::Lf) F w)(hc:Chg x.fp w w')(c:x'.ok w')(d:x'.fp.Nodup)(e:∀b,b∈x'.fp->b∈x.fp\/w.heap.size<=b):StOk cx (x'::Lf) F w':=by
 have a:=StOk.callee (Lin:=[x]) (Lf:=Lf) h (Pre:=λ_=>True) (λ_ _=>trivial);have f:fps [x]=x.fp:=by simp[fps]
 have e2:fps [x']=x'.fp:=by simp[fps]
 have g:StOk ⟨cx.P,0,w,fps [x],cx.M++fps Lf⟩ [x'] (λ_=>True) w':=⟨by rw[f];exact hc,by simpa using c,by rw[e2];exact d,by rw[e2,f];exact e,a.away,λ_ _=>trivial⟩
 exact(StOk.called (Lin:=[x]) (L':=[x']) h rfl g).fact λ_ i=>i.1
theorem At1:∀{L:Loc}{i:Nat}{x:Ent}(x':Ent),L[i]? = some x->∃A B,L=A++x::B/\L.set i x' = A++x'::B
 |[],_,_,_,h=>by simp at h
 |y::L,0,x,x',h=>by simp at h;subst h;exact⟨[],L,rfl,rfl⟩
 |y::L,i+1,x,x',h=>by obtain⟨A,B,a,b⟩:=At1 (L:=L) (i:=i) x' (by simpa using h);exact⟨y::A,B,by rw[a];rfl,by simp[b]⟩
theorem StOk.updAt{x:Ent}(h:StOk cx L F w)(i:Nat)(hi:L[i]? = some x)(hc:Chg x.fp w w')(a:x'.ok w')(c:x'.fp.Nodup)(d:∀b,b∈x'.fp->b∈x.fp\/w.heap.size<=b):StOk cx (L.set i x') F w':=by
 obtain⟨A,B,e,f⟩:=At1 x' hi;have p1:L.Perm (x::(A++B)):=by rw[e];exact List.perm_middle
 have p2:(x'::(A++B)).Perm (L.set i x'):=by rw[f];exact List.perm_middle.symm
 exact((h.perm p1).upd hc a c d).perm p2
def one:Value->Bool|.agg _=>false|.tuple _=>false|_=>true
theorem one_cells{v:Value}(h:one v=true):v.cells = #[v]:=by cases v<;>first|rfl|cases h
variable{u:Value}
theorem Bjk{p:Addr}{v:Value}(hv:one v=true)(hc:w.cell? p=some u)(a:w.frozen? p=false):(store p v).run P w = .ok () (w.setCell p v):=by cases v<;>first|(cases hv;done)|simp[store,Sem.run,hc,a]
def writeAt(cs:Yb1 Value)(off:Nat):Yb1 Value->Yb1 Value|[]=>cs|v::vs=>writeAt (cs.set off v) (off+1) vs
theorem writeAt_length:∀(vs:Yb1 Value) (cs:Yb1 Value) (off:Nat),(writeAt cs off vs).length=cs.length
 |[],_,_=>rfl
 |v::vs,cs,off=>by simp[writeAt,writeAt_length vs]
def setCells(w:World)(b off:Nat):Yb1 Value->World|[]=>w|v::vs=>setCells (w.setCell ⟨b,off,none⟩ v) b (off+1) vs
theorem setCell_heap{b off:Nat}{a:Nat×Nat}{v:Value}(h:w.heap[b]? = some (.cells cs.toArray t a)):(w.setCell ⟨b,off,none⟩ v).heap[b]? = some (.cells (cs.set off v).toArray t a):=by simp[World.setCell,Array.getElem?_modify,h]
theorem run_storeCells{P:Program}:∀(vs:Yb1 Value) (w:World) (b off i:Nat) (cs:Yb1 Value) (t:TypeId),w.heap[b]? = some (.cells cs.toArray t (0,0))->off+i+vs.length<=cs.length->(∀v,v∈vs->one v=true) ->
  (storeCells ⟨b,off,none⟩ vs i).run P w = .ok () (setCells w b (off+i) vs)/\(setCells w b (off+i) vs).heap[b]? = some (.cells (writeAt cs (off+i) vs).toArray t (0,0))/\Chg [b] w (setCells w b (off+i) vs)
 |[],w,b,off,i,cs,t,h,_,_=>by simp[storeCells,setCells,writeAt,h,Chg.refl]
 |v::vs,w,b,off,i,cs,t,h,hl,h1=>by
  simp at hl;have hc:w.cell? ⟨b,off+i,none⟩=some (cs[off+i]'(by omega)):=by simp only[World.cell?,h];simp
  have a:w.frozen? ⟨b,off+i,none⟩=false:=by simp[World.frozen?,h]
  have c:=Bjk (P:=P) (h1 v (by simp)) hc a;obtain⟨d,e,f⟩:=run_storeCells vs (w.setCell ⟨b,off+i,none⟩ v) b off (i+1) (cs.set (off+i) v) t (setCell_heap h) (by simp;omega) (λu g=>h1 u (by simp[g]));refine⟨?_,?_,?_⟩
  ·simp[storeCells,Sem.run_bind,add_mk,c];rw[d];rfl
  ·exact e
  ·exact(Chg.setCell w (by simp) v).trans f
section
variable {P:Program}{n:Nat}{w0:World}{I M:Yb1 Nat}{fn:Func}{Post:Value->Loc->(World->Prop)->Prop}{a1 t2 t3:Nat}{ty:TypeId}{p:Addr}{v1 v2 v3:Value}
end
end
section
variable {cx:Cx}{k:Yb1 KI}{e:Env}{L:Loc}{F:World->Prop}{Q:Exit->Act->World->Prop}{ops:Array Oper}{rest:Yb1 Oper}
def RdS(v:Value)(sz n:Nat)(xs:Yb1 Value)(w:World):Prop:=xs.length=n*sz/\∃a c,v = .slice a n c/\(n=0\/∃b off,a=some ⟨b,off,none⟩/\n<=c/\∀j u,xs[j]? = some u->w.cell? ⟨b,off+j,none⟩=some u)
structure ElTy (P:Program) (t u:TypeId) (sz by_:Nat):Prop where
 und:P.underlying t=some (.slice u)
 ex:∃i z,P.info? u=some i/\i.zero=some z/\i.size=sz/\i.bytes=by_/\z.cells.size=sz/\0<sz
def elTyB(P:Program)(t u:TypeId)(sz by_:Nat):Bool:=match P.underlying t with
 |some (.slice u')=>u' == u&&(match P.info? u with
  |some i=>(match i.zero with
   |some z=>i.size == sz&&i.bytes == by_&&z.cells.size == sz&&decide (0<sz)
   |none=>false)
  |none=>false)
 |_=>false
variable{by_:Nat}{sz:Nat}
theorem elTy_of{u:TypeId}(h:elTyB P t u sz by_=true):ElTy P t u sz by_:=by
 unfold elTyB at h;split at h
 ·rename_i c a;simp[ beq_iff_eq]at h;obtain⟨rfl,h⟩:=h;split at h
  ·rename_i i hi;split at h
   ·rename_i z b;simp[ beq_iff_eq]at h;exact⟨a,i,z,hi,b,h.1.1.1,h.1.1.2,h.1.2,h.2⟩
   ·cases h
  ·cases h
 ·cases h
theorem StOk.newRow(h:StOk cx L F w)(t:TypeId)(sz:Nat):StOk cx (.row (.slice none 0 0) t sz 0 []::L) F w:=by
 refine⟨h.chg,?_,?_,?_,h.away,?_⟩
 ·intro x a;simp at a;rcases a with rfl|a
  ·exact World.ownsRow_nil w 0 t sz
  ·exact h.ok x a
 ·rw[Hu];simpa[Ent.fp]using h.nodup
 ·rw[Hu];simpa[Ent.fp]using h.own
 ·refine h.rob.mono ?_;intro x a;rw[Hu]at a;simpa[Ent.fp]using a
def B1u(cx:Cx)(L:Loc)(F:World->Prop)(v:Value)(sz n:Nat)(xs:Yb1 Value):Prop:=∀w,StOk cx L F w->RdS v sz n xs w
variable{xs:Yb1 Value}
theorem Kx{v:Value}{n:Nat}(h:∀w,F w->RdS v sz n xs w):B1u cx L F v sz n xs:=λw a=>h w a.here
theorem one_oneCell{v:Value}(h:one v=true):v.oneCell' = true:=by cases v<;>first|rfl|cases h
variable{dst:Nat}{g:Ya1 (Nat×Bool)}{pos:String}{ty:TypeId}
theorem Kw{s:Operand}{u:TypeId}{a5:Array Edge}{v sv:Value}{n:Nat}{ys:Yb1 Value}(i:Nat)(hg:Gd ops e g=some true)(hd:Nat.blt dst cx.n=true)(hT:ElTy cx.P t u sz by_)
  (hs:Env.ev e s=some v) (hx:Env.ev e x=some sv) (hi:L[i]? = some (.row v u sz n xs)) (ae:B1u cx L F sv sz m ys) (ao:ys.all one=true) (p:(n+m)*by_<=140737488355328) (aw:n+m<=9223372036854775807)
  (h:∀f,O cx ops rest k ((dst,f)::e) (L.set i (.row f u sz (n+m) (xs++ys))) F Q) :
  O cx ops (⟨some dst,.call ⟨.builtin .append, #[s,x], #[t,t]⟩,ty,pos,a5,g⟩::rest) k e L F Q:=by
 refine Xe (λr L' F'=>∃f,r=f/\L' = L.set i (.row f u sz (n+m) (xs++ys))/\F' = F) hg hd (λa w he a9=>?_) (λr L' F' ⟨f,hr,hL,hF⟩=>by rw[hr,hL,hF];exact h f);have d:w.ownsRow 0 u sz v n xs:=a9.ok _ (List.mem_of_getElem? hi);have h1:∀y,y∈ys->one y=true:=Zg2.1 ao;obtain⟨a3,ad,c,rfl,aa⟩:=ae w a9;obtain⟨hu,i0,z,a4,hz,ag,ah,ap,ai⟩:=hT;have a6:∀(r:Value) (w':World),(Builtin.append_ #[t,t] ty #[v,.slice ad m c]).run cx.P w = .ok r w'->(execOp a.eval ⟨some dst,.call ⟨.builtin .append, #[s,x], #[t,t]⟩,ty,pos,a5,g⟩).run cx.P w = .ok (.value r) w':=by intro r w' hr;simp[execOp,resolve,invoke,builtin,Sem.run_bind,Sem.run_pure,Zw1,List.map_nil,he.ev hs,he.ev hx,hr]
 have a8:∀(f:Value) (w':World),w'.ownsRow 0 u sz f (n+m) (xs++ys)->w.grownBy w' v.ownBlock->(∀g,f.ownBlock=some g->v.ownBlock=some g\/w.heap.size<=g)->StOk cx (L.set i (.row f u sz (n+m) (xs++ys))) F w':=by
  intro f w' ho ab ar;have aj:∀(r:Value) (q:Nat),q∈(Ent.row r u sz n xs).fp↔r.ownBlock=some q:=by intro r q;cases r with|slice a l c=>cases a<;>simp[Ent.fp,Value.ownBlock,eq_comm]|_=>simp[Ent.fp,Value.ownBlock]
  have ak:∀(r:Value) (q:Nat),q∈(Ent.row r u sz (n+m) (xs++ys)).fp↔r.ownBlock=some q:=by intro r q;cases r with|slice a l c=>cases a<;>simp[Ent.fp,Value.ownBlock,eq_comm]|_=>simp[Ent.fp,Value.ownBlock]
  refine a9.updAt i hi (Chg.grown ab λq hq=>(aj v q).2 hq) ho ?_ λq hq=>?_
  ·cases f with|slice a l c=>cases a<;>simp[Ent.fp]|_=>simp[Ent.fp]
  ·rcases ar q ((ak f q).1 hq)with h'|h'
   ·exact .inl ((aj v q).2 h')
   ·exact .inr h'
 rcases aa with rfl|⟨b,off,rfl,_,a7⟩
 ·have au:ys=[]:=List.eq_nil_of_length_eq_zero (by simpa using a3);subst au;have hr:(Builtin.append_ #[t,t] ty #[v,.slice ad 0 c]).run cx.P w = .ok v w:=by
   rcases d.2 with ⟨rfl,rfl⟩|⟨q,cap,cur,rfl,_,hq,am,_⟩
   ·cases ad<;>simp[ run_underlying hu,go_sem,sizeOf,typeInfo,a4,Builtin.lenOf,loadCells,loadCellsFrom]
   ·cases ad<;>simp[ run_underlying hu,go_sem,sizeOf,typeInfo,a4,Builtin.lenOf,loadCells,loadCellsFrom,am,storeCells]
  refine⟨v,w,_,F,a6 v w hr,a8 v w (by simpa using d) ⟨rfl,rfl,rfl,Zn1 _,λ_ _ _=>rfl⟩ (λg hg=>.inl hg),v,rfl,rfl,rfl⟩
 ·have o:∀j u',ys[j]? = some u'->w.cell? ((⟨b,off,none⟩:Addr).add j)=some u':=λj u' hj=>by rw[add_mk];exact a7 j u' hj
  obtain⟨f,w',hr,ho,ab,_⟩:=run_append_own (P:=cx.P) w 0 t ty u i0 z sz by_ hu a4 hz ag ah ap ai v n xs d ⟨b,off,none⟩ m c ys a3 o (λy hy=>one_oneCell (h1 y hy)) (by simp[maxLen];omega) p (Nat.zero_le _);refine⟨f,w',_,F,a6 f w' hr,a8 f w' ho ab ?_,f,rfl,rfl,rfl⟩;intro g hg;subst ag;subst ah;rcases d.2 with ⟨rfl,rfl⟩|⟨q,cap,cur,rfl,_,hq,am,_,av,_⟩
  ·by_cases hm:m=0
   ·subst hm
    grind
   ·have h3:=run_append_nil (P:=cx.P) w t ty u i0 z hu a4 hz ⟨b,off,none⟩ m c ys a3 o (by omega) (by omega) (by simp[Nat.zero_add]at p;omega);have:=hr.symm.trans h3;simp at this;obtain⟨rfl,_⟩:=this;simp[Value.ownBlock]at hg;exact .inr (by omega)
  ·by_cases a2:n+m<=cap
   ·have an:n*i0.size+ys.length<=cur.size:=by rw[a3,av,<-Nat.add_mul];exact Nat.mul_le_mul_right _ a2
    have h3:=run_append_room (P:=cx.P) w t ty u i0 hu a4 q n cap cur hq ⟨b,off,none⟩ m c ys a3 o (λy hy=>one_oneCell (h1 y hy)) a2 an;have:=hr.symm.trans h3;simp at this;obtain⟨rfl,_⟩:=this;exact .inl hg
   ·have ac:∀j u',xs[j]? = some u'->w.cell? ((⟨q,0,none⟩:Addr).add j)=some u':=d.cells (g:=q) rfl;have h3:=run_append_grow (P:=cx.P) w t ty u i0 z hu a4 hz ⟨q,0,none⟩ n cap xs d.1 ac ⟨b,off,none⟩ m c ys a3 o (by omega) (by omega) (growslice_fits (by omega) p);have:=hr.symm.trans h3;simp at this;obtain⟨rfl,_⟩:=this;simp[Value.ownBlock]at hg;exact .inr (by omega)
end
section
variable {cx:Cx}{k:Yb1 KI}{e:Env}{L:Loc}{F:World->Prop}{Q:Exit->Act->World->Prop}{ops:Array Oper}{rest:Yb1 Oper}
theorem Bal(l:Yb1 UInt8)(a b:Nat):(ByteArray.mk l.toArray).extract a b=⟨((l.drop a).take (b-a)).toArray⟩:=by apply ByteArray.ext;simp[ List.take_drop]
theorem Qo{l:Yb1 UInt8}(c:tyS P t=true)(lo hi:Ya1 Value)(a b:Nat)(w:World)(h:(Instr.sliceBounds false l.length l.length lo hi none).run P w = .ok (a,b,l.length) w) :
  (Instr.sliceAt t (S l) lo hi none).run P w = .ok (S ((l.drop a).take (b-a))) w:=by
 simp[Instr.sliceAt,Instr.slice,run_underlying (tyS_spec c),Bda,h,Bal]
variable{j:Int}{y:Operand}{z:Operand}
theorem p_cut{l:Yb1 UInt8}{c d:IntKind}{i:Int}(f:tyS P t=true)(g:Env.ev e x=some (S l))(k:Env.ev e y=some (.int c i))(m:Env.ev e z=some (.int d j))(h : 0<=i/\i<=j/\j<=l.length) :
  Pure P e (.slice t x (some y) (some z) none) (S (cut l i j)):=λn a w o b p=>by
 have hb:(Instr.sliceBounds false l.length l.length (some (.int c i)) (some (.int d j)) none).run P w = .ok (i.toNat,j.toNat,l.length) w:=by
  have q : 0<=j/\j<=(l.length:Int):=by omega
  have r : 0<=i/\i<=(j.toNat:Int):=by omega
  simp only[Instr.sliceBounds,Instr.sliceBound,asIntOf,Sem.run_bind,Sem.run_pure,Result.andThen_ok,if_pos q,if_pos r]
 simp[execOp,p,b.ev g,b.ev k,b.ev m,(Qo f _ _ _ _ w hb),cut]
theorem p_cutlo{l:Yb1 UInt8}{b:IntKind}{i:Int}(d:tyS P t=true)(f:Env.ev e x=some (S l))(g:Env.ev e y=some (.int b i))(h : 0<=i/\i<=l.length) :
  Pure P e (.slice t x (some y) none none) (S (l.drop i.toNat)):=λn a w o c j=>by
 have hb:(Instr.sliceBounds false l.length l.length (some (.int b i)) none none).run P w = .ok (i.toNat,l.length,l.length) w:=by simp[Instr.sliceBounds,Instr.sliceBound,asIntOf,if_pos h]
 have k:(l.drop i.toNat).take (l.length-i.toNat)=l.drop i.toNat:=List.take_of_length_le (by simp);simp[execOp,j,c.ev f,c.ev g,(Qo d _ _ _ _ w hb),k]
theorem p_cuthi{l:Yb1 UInt8}{b:IntKind}(d:tyS P t=true)(f:Env.ev e x=some (S l))(g:Env.ev e z=some (.int b j))(h : 0<=j/\j<=l.length) :
  Pure P e (.slice t x none (some z) none) (S (l.take j.toNat)):=λn a w o c i=>by
 have hb:(Instr.sliceBounds false l.length l.length none (some (.int b j)) none).run P w = .ok (0,j.toNat,l.length) w:=by simp[Instr.sliceBounds,Instr.sliceBound,asIntOf,if_pos h]
 simp[execOp,i,c.ev f,c.ev g,(Qo d _ _ _ _ w hb),Nat.sub_zero]
variable{u:Value}
theorem p_slicex{v:Value}(b:Env.ev e x=some v)(c:∀w,(Instr.sliceAt t v none none none).run P w = .ok u w):Pure P e (.slice t x none none none) u:=λn a w o d f=>by simp[execOp,f,d.ev b,c w,Sem.run_pure]
theorem Atr:∀(us:Yb1 Value) (pre a post:Yb1 Value),us.length<=post.length ->
  (us.zipIdx a.length).foldl (λ(cs:Array Value) (x:Value×Nat)=>cs.setIfInBounds (pre.length+x.2) x.1) (pre++a++post).toArray=(pre++a++us++post.drop us.length).toArray
 |[],pre,a,post,_=>by simp
 |u::us,pre,a,[],h=>by simp at h
 |u::us,pre,a,p::post,h=>by
  have b:(pre++a++p::post).toArray.setIfInBounds (pre.length+a.length) u=(pre++(a++[u])++post).toArray:=by grind
  have c:=Atr us pre (a++[u]) post (by simpa using h)
  grind
theorem fill_all(sz:Nat):∀(vs:Yb1 Value) (st:Nat) (pre post:Yb1 Value),(∀v,v∈vs->v.cells.size=sz)->pre.length=st*sz->vs.length*sz<=post.length ->
  Instr.fill (λi=>some (i*sz,sz)) (pre++post).toArray ((List.range' st vs.length).zip vs)=some (pre++vs.flatMap (λv=>v.cells.toList)++post.drop (vs.length*sz)).toArray
 |[],st,pre,post,_,_,_=>by simp[Instr.fill]
 |v::vs,st,pre,post,h1,h2,h3=>by
  have hv:=h1 v (by simp);simp at h3;have b:sz+vs.length*sz<=post.length:=by rw[Nat.add_mul]at h3;omega
  have c:=Atr v.cells.toList pre [] post (by simp;omega);have a:¬((v.cells.size≠sz||decide (st*sz+v.cells.size > (pre++post).toArray.size))=true):=by simp;omega
  have d:=fill_all sz vs (st+1) (pre++v.cells.toList) (post.drop sz) (λu e=>h1 u (by simp[e])) (by simp[hv,h2,Nat.add_mul]) (by simp;omega);simp only[Zf1,List.range'_succ,List.zip_cons_cons,Instr.fill];rw[if_neg a];have e2:(v.cells.zipIdx.foldl (λ(cs:Array Value) (x:Value×Nat)=>cs.setIfInBounds (st*sz+x.2) x.1) (pre++post).toArray)=(pre++v.cells.toList++post.drop sz).toArray:=by rw[<-Array.foldl_toList,Array.toList_zipIdx,<-h2];simpa[hv]using c
  rw[e2,d];simp[ Nat.add_mul,Nat.add_comm]
variable{by_:Nat}{dst:Nat}{g:Ya1 (Nat×Bool)}{pos:String}{sz:Nat}{ty:TypeId}{vs:Yb1 Value}
theorem Gp{len:Nat}{parts:Yb1 (Nat×Operand)}{u:TypeId}{l:Array Edge}(hg:Gd ops e g=some true)(hd:Nat.blt dst cx.n=true)(hT:ElTy cx.P t u sz by_)
  (hp:parts.map (·.1)=List.range' 0 len) (hx:Env.evs e (parts.map (·.2))=some vs) (a5:vs.all (λv=>v.cells.size == sz)=true) (hm:Nat.ble (len*sz) 16777216=true)
  (h:∀b,O cx ops rest k ((dst,.slice (some ⟨b,0,none⟩) len len)::e) (.blk b (vs.flatMap λv=>v.cells.toList) u::L) F Q) :
  O cx ops (⟨some dst,.buildSlice t len parts.toArray,ty,pos,l,g⟩::rest) k e L F Q:=by
 refine Xe (λr L' F'=>∃b,r = .slice (some ⟨b,0,none⟩) len len/\L' = .blk b (vs.flatMap λv=>v.cells.toList) u::L/\F' = F) hg hd (λa w he hs=>⟨_,_,_,_,?_,hs.alloc _ u,w.heap.size,rfl,rfl,rfl⟩) (λr L' F' ⟨b,hr,hL,hF⟩=>by rw[hr,hL,hF];exact h b);obtain⟨hu,i0,z,s,hz,m,ae,ag,ac⟩:=hT;have a6:=he.evs hx;have y:parts.length=len:=by have:=congrArg List.length hp;simpa using this
 have o:vs.length=len:=by rw[<-a6];simpa using y
 have a7:parts.map (λp=>(p.1,a.eval p.2))=(List.range' 0 vs.length).zip vs:=by grind
 have a2:∀v,v∈vs->v.cells.size=sz:=by simpa using a5
 have a8:¬(len*sz > 2 ^ 24):=by simp_all
 have d:((Array.range (len*sz)).map λi=>z.cells[i % z.cells.size]!).toList.length=len*sz:=by simp
 have c:=fill_all sz vs 0 [] ((Array.range (len*sz)).map λi=>z.cells[i % z.cells.size]!).toList a2 (by simp) (by rw[d,o];exact Zn1 _);have q:((Array.range (len*sz)).map λi=>z.cells[i % z.cells.size]!).toList.drop (vs.length*sz)=[]:=Zk1 (by rw[d,o];exact Zn1 _);rw[q]at c;simp only[Zf2,List.append_nil]at c;have a9:(zeroValue u).run cx.P w = .ok z w:=by simp[zeroValue,typeInfo,s,hz]
 have j:(sizeOf u).run cx.P w = .ok sz w:=by simp[sizeOf,typeInfo,s,m]
 have a3:parts.toArray.map (λp=>(p.1,a.eval p.2))=((List.range' 0 vs.length).zip vs).toArray:=by rw[List.map_toArray,a7]
 by_cases h0:len*sz=0
 ·have aa:vs=[]:=by
   apply List.eq_nil_of_length_eq_zero;rw[o];rcases Nat.mul_eq_zero.1 h0 with h|h
   ·exact h
   ·omega
  subst aa;simp only[execOp,Instr.buildSlice,Sem.run_bind,run_underlying hu,Result.andThen_ok,j,h0,if_true];have a4:parts.toArray.map (λp=>(p.1,a.eval p.2)) = #[]:=by rw[a3];rfl
  have:(parts.toArray.map λx=>match x with|(i,x)=>(i,a.eval x)) = #[]:=a4;have ab:∀f:Nat->Value,(Array.range 0).map f = #[]:=λf=>by simp
  simp[this,Instr.fill,newRow,Sem.run,ab]
 ·have:(parts.toArray.map λx=>match x with|(i,x)=>(i,a.eval x))=((List.range' 0 vs.length).zip vs).toArray:=a3;simp[execOp,Instr.buildSlice,run_underlying hu,j,if_neg a8,if_neg h0,a9,this,c,newRow,Sem.run]
end
def Li(Q:Exit->Act->World->Prop):Prop:=∀b a w,¬Q (.panic b) a w
theorem J1{P':Program}:Li (bodyPost P fn (Be6 P' w I M Post)):=by rintro b a w' ⟨_,v,L',F',h,_⟩;cases h
theorem Et{P:Program}{Q:Exit->Act->World->Prop}(h:Li Q):∀k,Li (G2 P Q k)
 |[]=>h
 |.seq _::k=>λb a w c=>Et h k b a w c
 |.blk _::k=>λb a w c=>Et h k b a w c
 |.loop _::k=>λb a w c=>Et h k b a w c
 |.drawn _ _ _::k=>λb a w c=>Et h k b a w c
 |.scope::k=>λb a w c=>Et h k b a w c
def YP(P:Program)(ops:Array Oper)(b:Oper)(v:Value)(a:Act):Prop:=(Region.wanted b (yielded ops a.tmps)=true/\∀w,(execOp a.eval b).run P w = .ok (.value v) w)\/(Region.wanted b (yielded ops a.tmps)=false/\v=undef)
section
variable {P:Program}{ops:Array Oper}{md:Region.Mode}{Q:Exit->Act->World->Prop}
theorem YP.keep{c e:Oper}{v:Value}(f:∀cs b,c.op ≠ .select cs b)(g:∀d,e.dst=some d->d∉c.looksAt ops)(h:YP P ops c v a)(u:Value):YP P ops c v (a.put e.dst u):=by unfold YP at *;rw[execOp_put c f a e.dst u g,wanted_put c a e.dst u g];exact h
theorem YP.wpOp{i:Nat}{b:Oper}{v:Value}{a:Act}{w:World}{K:Act->World->Prop}(hi:ops[i]? = some b)(d:YP P ops b v a)(h:K (a.put b.dst v) w):wpOp P ops Q i K a w:=by
 unfold Go.wpOp;simp[hi];rcases d with ⟨c,e⟩|⟨c,rfl⟩
 ·simp[c];left;unfold Oper.wp;rw[e];exact h
 ·grind
variable{K:Act->World->Prop}
theorem Bns{j:Nat}{c g:Oper}{v:Value}(z:Li Q)(hj:ops[j]? = some g)(p:c.apart ops g=true)(e:∀cs b,c.op ≠ .select cs b)(m:∀cs b,g.op ≠ .select cs b)
  (k:YP P ops c v a) (h:wpOp P ops Q j K (a.put c.dst v) w):wpOp P ops Q j (λa' w'=>YP P ops c v a'/\K (a'.put c.dst v) w') a w:=by
 obtain⟨q,h2,l⟩:=Oper.apart_spec p;have comm:∀u,(a.put c.dst v).put g.dst u=(a.put g.dst u).put c.dst v:=λu=>Act.put_comm a v u h2;unfold wpOp at *;simp only[hj]at *;rw[wanted_put g a c.dst v q]at h;split
 ·rename_i t;simp[t]at h;rcases h with h|⟨⟨hm,o⟩,hl⟩
  ·left;unfold Oper.wp at *;rw[execOp_put g m a c.dst v q]at h;generalize (execOp a.eval g).run P w=r at *;cases r with
   |ok n w'=>
    cases n<;>simp[Oper.upon]at h ⊢
    case value u=>exact⟨k.keep e l u,by rw[<-comm];exact h⟩
    case skip=>exact⟨k.keep e l undef,by rw[<-comm];exact h⟩
    case defer d=>
     have o:YP P ops c v ({ a with defers:=d::a.defers }:Act):=k;refine⟨o.keep e l undef,?_⟩;rw[<-Act.put_comm _ v undef h2];have e1:({ a.put c.dst v with defers:=d::(a.put c.dst v).defers }:Act)=({ a with defers:=d::a.defers }:Act).put c.dst v:=by cases c.dst<;>rfl
     rw[<-e1];exact h
    case enter f args=>refine Calls.mono h λen y i=>?_;cases en with|returned u=>exact⟨k.keep e l u,by rw[<-comm];exact i⟩|panicked ch=>exact absurd i (z _ _ _)|outgrown=>exact i
    case row s args=>exact Rows.mono h λu y hu=>⟨k.keep e l u,by rw[<-comm];exact hu⟩
   |halt x w'=>
    cases x<;>simp[Oper.upon]at h ⊢
    case panic u=>exact absurd h (z _ _ _)
  ·right;rw[execOp_put g m a c.dst v q]at hm o;exact⟨⟨hm,o⟩,hl⟩
 ·rename_i t;simp[t]at h;exact⟨k.keep e l _,by rw[<-comm];exact h⟩
variable{i:Nat}
theorem A61{q:Oper}{v:Value}(hQ:Li Q)(hi:ops[i]? = some q)(g:∀(j:Nat) (o:Oper) cs b,ops[j]? = some o->o.op ≠ .select cs b) :
  ∀(fuel:Nat) (listed:Array Bool) (a:Act) (w:World),
   (∀j m,ops[j]? = some m->j≠i->listed.getD j true=false->(∀e∈m.after,Region.binds md e=true->e.on≠i)->q.apart ops m=true) ->
   i∈Region.ready md ops listed->YP P ops q v a->wpAny P md ops Q fuel (listed.setIfInBounds i true) (a.put q.dst v) w->wpAny P md ops Q (fuel+1) listed a w:=by
 intro fuel;induction fuel with
 |zero=>
  intro listed a w _ n t H;refine⟨λh=>(by rw[h]at n;cases n),λj u=>?_⟩;by_cases c:j=i
  ·subst c;exact t.wpOp hi H
  ·have:=ready_mono u c;rw[H.1]at this;cases this
 |succ fuel ih=>
  intro listed a w d n t H;refine⟨λh=>(by rw[h]at n;cases n),λj u=>?_⟩;by_cases c:j=i
  ·subst c;exact t.wpOp hi H
  ·have x:=H.2 j (ready_mono u c);obtain⟨l,m,p,r⟩:=mem_ready.1 u;have s:∀e∈m.after,Region.binds md e=true->e.on≠i:=λe he hb y=>by
    have x:=r e he hb;have h0:=(mem_ready.1 n).1;rw[y]at x;rcases Nat.lt_or_ge i listed.size with h'|h'
    ·grind
    ·grind
   have f:∀k ok,ops[k]? = some ok->k≠i->(listed.setIfInBounds j true).getD k true=false ->
     (∀e∈ok.after,Region.binds md e=true->e.on≠i)->q.apart ops ok=true:=λk ok hk z a4 a2=>by
    refine d k ok hk z ?_ a2;by_cases a3:j=k
    ·subst a3;exact l
    ·simp_all
   refine wpOp_mono (λa' w' h3=>ih (listed.setIfInBounds j true) a' w' f (ready_mono n (Ne.symm c)) h3.1 ?_) (Bns hQ p (d j m p c l s) (λcs b=>g i q cs b hi) (λcs b=>g j m cs b p) t x);rw[Array.setIfInBounds_comm _ _ c];exact h3.2
end
structure D (cx:Cx) (ops:Array Oper) (fuel:Nat) (listed:Array Bool) (k:List KI) (e:Env) (L:Loc) (F:World->Prop) (Q:Exit->Act->World->Prop):Prop where
 run:Li Q->∀a w,EnvOk cx.n e a->StOk cx L F w->wpAny cx.P .any ops (G2 cx.P Q k) fuel listed a w
section
variable {cx:Cx}{k:Yb1 KI}{e:Env}{L:Loc}{F:World->Prop}{Q:Exit->Act->World->Prop}{ops:Array Oper}{fuel:Nat}{listed:Array Bool}
variable{id:Nat}
theorem Bdo{l:Yb1 Oper}(hm:cx.P.follows .mixedOrders=true)(b:Li Q)(h:D cx l.toArray l.toArray.size (Array.replicate l.toArray.size false) k e L F Q):G cx (.region id l.toArray true) k e L F Q:=.mk λa w c d=>wp_region_any hm (h.run b a _ c (d.quiet (Chg.drawn [] w _)))
theorem B1h(g:(Region.ready .any ops listed).isEmpty=true)(h:N cx k e L F Q):D cx ops fuel listed k e L F Q:=.mk λ_ a w c d=>by
 have b:Region.ready .any ops listed=[]:=by simpa using g
 cases fuel with|zero=>exact⟨b,h.run a w c d⟩|succ f=>exact⟨λ_=>h.run a w c d,λi hi=>by rw[b]at hi;cases hi⟩
variable{i:Nat}
theorem B5m{b:Oper}{v:Value}(hc:(Region.noSelect ops&&(Region.ready .any ops listed).contains i&&Region.free .any ops listed i)=true)(hi:ops[i]? = some b)
  (l:∀a,EnvOk cx.n e a->YP cx.P ops b v a) (c:∀a,EnvOk cx.n e a->EnvOk cx.n ((match b.dst with|some d=>[(d,v)]|none=>[])++e) (a.put b.dst v)) (h:D cx ops fuel (listed.setIfInBounds i true) k ((match b.dst with|some d=>[(d,v)]|none=>[])++e) L F Q):D cx ops (fuel+1) listed k e L F Q:=.mk λg a w j m=>by
 simp at hc;obtain⟨⟨f,o⟩,p⟩:=hc;exact A61 (Et g k) hi (Region.noSelect_spec f) fuel listed a w (Region.free_spec hi p) (by simpa using o) (l a j) (h.run g _ w (c a j) m)
variable{dst:Nat}{g:Ya1 (Nat×Bool)}{op:Op}{pos:String}
theorem Gh{b:Array Edge}{v:Value}(i:Nat)(hi:ops[i]? = some ⟨some dst,op,t,pos,b,g⟩)(d:Gd ops e g=some true)(hd:Nat.blt dst cx.n=true)
  (hc:(Region.noSelect ops&&(Region.ready .any ops listed).contains i&&Region.free .any ops listed i)=true) (f:Pure cx.P e op v) (h:D cx ops fuel (listed.setIfInBounds i true) k ((dst,v)::e) L F Q):D cx ops (fuel+1) listed k e L F Q:=
 B5m hc hi (λa c=>.inl ⟨Gd.wanted (o:=⟨some dst,op,t,pos,b,g⟩) c d,λw=>f cx.n a w _ c rfl⟩) (λ_ c=>c.put hd v) h
variable{K:Act->World->Prop}{o:Oper}
theorem Axh{Q:Exit->Act->World->Prop}(hi:ops[i]? = some o)(h:wpList P ops (Exit.then K Q) [o] a w):wpOp P ops Q i K a w:=by
 unfold wpOp;simp[hi];simp[wpList]at h;split
 ·rename_i b;simp[b]at h;rcases h with h|⟨d,e⟩
  ·left;unfold Oper.wp at *;generalize (execOp a.eval o).run P w=r at *;cases r with
   |ok n w'=>
    cases n<;>simp[Oper.upon]at h ⊢ <;> first
     |exact h
     |exact Calls.mono h (λen f c=>by cases en<;>exact c)
   |halt x w'=>cases x<;>simp[Oper.upon]at h ⊢ <;> exact h
  ·right;exact⟨d,e⟩
 ·rename_i b;simp[b]at h;exact h
theorem B1v(i:Nat)(hi:ops[i]? = some o)(f:(Region.ready .any ops listed == [i])=true)(h:O cx ops [o] (.drawn ops fuel (listed.setIfInBounds i true)::k) e L F Q):D cx ops (fuel+1) listed k e L F Q:=.mk λ_ a w g l=>by
 have b:Region.ready .any ops listed=[i]:=by simpa using f
 refine⟨λd=>(by rw[b]at d;cases d),λj c=>?_⟩;rw[b]at c;simp at c;subst c;exact Axh hi (h.run a w g l)
theorem Bfr(b:Li Q)(h:D cx ops fuel listed k e L F Q):N cx (.drawn ops fuel listed::k) e L F Q:=.mk λa w c d=>h.run b a w c d
end
end Go.Sx
namespace Go.Sx
section
variable {cx:Cx}{k:Yb1 KI}{e:Env}{L:Loc}{F:World->Prop}{Q:Exit->Act->World->Prop}{ops:Array Oper}{l:Yb1 Oper}{c:Code}{id fuel:Nat}{listed:Array Bool}{Φ:Loc->(World->Prop)->Prop}
theorem Fl(h:O cx ops l k e L F Q):O cx ops l k e L F Q:=h
theorem Fq(h:G cx c k e L F Q):G cx c k e L F Q:=h
theorem Fj(h:N cx k e L F Q):N cx k e L F Q:=h
theorem Bw2(h:D cx ops fuel listed k e L F Q):D cx ops fuel listed k e L F Q:=h
end
open Go.RowKit
def sameI(c d:IntKind)(a b:Int)(r:Ya1 Bool):Ya1 Bool:=match decide (c=d),r with|true,some r=>some ((a == b)&&r)|_,_=>none
def eqRow(P:Program)(xs ys:Array Value):Yb1 Field->Ya1 Bool
 |[]=>some true
 |f::fs=>match f.name == "_",P.underlying f.type,xs[f.offset]?,ys[f.offset]? with|false,some (.int _),some (.int k1 a),some (.int k2 b)=>sameI k1 k2 a b (eqRow P xs ys fs)|false,some .string,some (.string a),some (.string b)=>(eqRow P xs ys fs).map λr=>(decide (a.data.toList=b.data.toList))&&r|false,some .bool,some (.bool a),some (.bool b)=>(eqRow P xs ys fs).map λr=>(a == b)&&r|_,_,_,_=>none
variable{P:Program}{t:TypeId}
theorem J9{d:TypeDesc}{xs:Array Value}{i:Nat}{v:Value}(a:P.underlying t=some d)(c:∀fs,d ≠ .struct fs)(hb:∀n e,d ≠ .array n e)(hv:xs[i]? = some v)(w:World):(part t xs i).run P w = .ok v w:=by
 have b:(isAgg t).run P w = .ok false w:=by
  simp only[isAgg,Sem.run_bind,run_underlying a]
  simp_all
 simp[part,b,hv]
theorem Vp{P:Program}{xs ys:Array Value}(d:Nat):∀(fs:Yb1 Field) (r:Bool),eqRow P xs ys fs=some r->∀w,(Op.eqFields (d+1) xs ys fs).run P w = .ok r w
 |[],r,h,w=>by simp[eqRow]at h;subst h;simp[Op.eqFields]
 |f::fs,r,h,w=>by
  unfold eqRow at h;split at h
  ·rename_i u p a t b j c k l;cases e:eqRow P xs ys fs with
   |none=>rw[e]at h;simp only[sameI]at h;split at h<;>first|(simp at *;done)|cases h
   |some m=>
    rw[e]at h;have o:p=t:=by
     by_cases o:p=t
     ·exact o
     ·simp[sameI,o]at h
    subst o;simp[sameI,decide_true]at h;have q:=Vp d fs m e w;have g:f.name ≠ "_" :=by simpa using j
    have s:=J9 c (λ_=>by simp) (λ_ _=>by simp) k w;have e2:=J9 c (λ_=>by simp) (λ_ _=>by simp) l w;have i:=run_equalIn_int (P:=P) w d f.type p _ a b c;simp only[Op.eqFields,if_pos g,Sem.run_bind,s,e2,i,Result.andThen_ok];rw[<-h];cases n:(a == b)
    ·simp
    ·simp[q]
  ·rename_i a b j c k l;cases e:eqRow P xs ys fs with
   |none=>rw[e]at h;cases h
   |some m=>
    rw[e]at h;simp only[Zl2,Za1]at h;have q:=Vp d fs m e w;have g:f.name ≠ "_" :=by simpa using j
    have s:=J9 c (λ_=>by simp) (λ_ _=>by simp) k w;have e2:=J9 c (λ_=>by simp) (λ_ _=>by simp) l w;have i:=run_equalIn_string (P:=P) w d f.type a b c;have v:(a.toList == b.toList)=decide (a.data.toList=b.data.toList):=by rw[ByteArray.toList_eq,ByteArray.toList_eq];rw[Bool.eq_iff_iff];simp
    rw[v]at i;simp only[Op.eqFields,if_pos g,Sem.run_bind,s,e2,i,Result.andThen_ok];rw[<-h];cases n:decide (a.data.toList=b.data.toList)
    ·simp
    ·simp[q]
  ·rename_i a b j c k l;cases e:eqRow P xs ys fs with
   |none=>rw[e]at h;cases h
   |some m=>
    rw[e]at h;simp[Zl2]at h;have g:f.name ≠ "_" :=by simpa using j
    have e2:=J9 c (λ_=>by simp) (λ_ _=>by simp) l w;have i:=run_equalIn_bool' (P:=P) w d f.type a b c;simp only[Op.eqFields,if_pos g,Sem.run_bind,(J9 c (λ_=>by simp) (λ_ _=>by simp) k w),e2,i,Result.andThen_ok];rw[<-h];cases n:(a == b)
    ·simp
    ·simp[(Vp d fs m e w)]
  ·cases h
def stOk(P:Program)(t:TypeId):Bool:=(match P.underlying t with|some (.struct _)=>true|_=>false) && !P.stoodInHeld t && !P.eqGuardType P.depth t
section
variable {P:Program}{e:Env}{t t':TypeId}{x y:Operand}{xs ys:Array Value}{r:Bool}
theorem A36(a:stOk P t=true)(b:eqRow P xs ys (P.fieldsOf t).toList=some r)(w:World):(Op.equalIn 10000 t (.agg xs) (.agg ys)).run P w = .ok r w:=by
 simp[stOk,Zb1]at a;have c:P.underlying t=some (.struct (P.fieldsOf t)):=by
  have:=a.1.1;unfold Program.fieldsOf
  grind
 rw[show(10000:Nat)=9999+1 from rfl,run_equalIn_struct w 9999 t xs ys c a.1.2];exact Vp 9998 _ r b w
theorem p_eqst(a:stOk P t=true)(b:Env.ev e x=some (.agg xs))(c:Env.ev e y=some (.agg ys))(d:eqRow P xs ys (P.fieldsOf t).toList=some r):Pure P e (.binOp .eql t x y t') (.bool r):=p_bin b c (λw=>run_eqGuard_agg w _ _ _ _ _ _ (by simp[stOk,Zb1]at a;exact a.2)) λw=>by rw[run_eql_struct,A36 a d];rfl
theorem p_neqst(a:stOk P t=true)(b:Env.ev e x=some (.agg xs))(c:Env.ev e y=some (.agg ys))(d:eqRow P xs ys (P.fieldsOf t).toList=some r):Pure P e (.binOp .neq t x y t') (.bool (!r)):=p_bin b c (λw=>run_eqGuard_agg w _ _ _ _ _ _ (by simp[stOk,Zb1]at a;exact a.2)) λw=>by rw[run_neq_struct,A36 a d];rfl
end
variable{a:Ya1 Addr}{c:Nat}
theorem RdS.cap{sz n:Nat}{xs:Yb1 Value}{w:World}(h:RdS (.slice a n c) sz n xs w):n<=c:=by
 obtain⟨_,a',e,b,d⟩:=h;simp at b;obtain⟨rfl,_,rfl⟩:=b;rcases d with rfl|⟨_,_,_,h,_⟩
 ·omega
 ·exact h
theorem Ma{e:Env}{x z:Operand}{n:Nat}{b:IntKind}{j:Int}(sz:Nat)(f:(elSz P t == some sz)=true)(g:Env.ev e x=some (.slice a n c))(i:Env.ev e z=some (.int b j))(h : 0<=j/\j<=c) :
  Pure P e (.slice t x none (some z) none) (.slice a j.toNat c):=λq a' w o d k=>by
 obtain⟨u,l,m⟩:=Nl (n:=sz) (by simpa using f);have p:(Instr.sliceAt t (.slice a n c) none (some (.int b j)) none).run P w = .ok (.slice a j.toNat c) w:=by
  have hm:(if c=0 then a else a.map (λx=>x.add 0))=a:=by
   split
   ·rfl
   ·cases a<;>simp[Addr.add]
  simp[Instr.sliceAt,Instr.slice,run_underlying l,Instr.sliceBounds,Instr.sliceBound,asIntOf,if_pos h,run_sizeOf m,hm]
 simp[execOp,k,d.ev g,d.ev i,p,Sem.run_pure]
end Go.Sx
namespace Go.Ax
open Go.RowKit
structure Cx where
 P:Program
 w0:World
 I:Fp
 M:Fp
 el:Ck->TypeId
 gl:Nat->Option Gv
structure FS where
 n:Nat
 env:Nat->Option D
 lb:Nat
 lt:Nat
 fr:List Fr
 bl:Nat->Option Blk
 nb:Nat
 al:Nat->Prop
 nt:Nat
 df:List D
def fs(st:St):FS:=⟨st.n,get st.env,st.lb,st.lt,st.fr,blk st.bl,st.nb,λt=>t∈st.tk,st.nt,st.df⟩
def D8(m:Mp)(s:FS):Fp:=λb i=>(∃k,s.bl k≠none/\m.bl k=b)\/∃t o,s.al t/\m.tk t=some (b,o)/\o<=i
def vx(cx:Cx)(m:Mp)(s:FS)(w:World):Vx:=⟨m,s.al,λb i=>cx.M b i\/D8 m s b i,w,s.nb,s.nt,cx.el⟩
def DfR(x:Vx):D->Deferred->Prop|.ptr b c,dd=>b<x.nb/\c<x.nb/\x.m.bl c=x.m.bl b+1/\dd={ target:=.collected (x.m.bl b),args:= #[] }|.fn f caps,dd=>∃vs:Yb1 Value,dd={ target:=.fn (.func f) vs.toArray,args:= #[] }/\Reps x caps vs|_,_=>False
def Az1(x:Vx):Yb1 D->Yb1 Deferred->Prop|[],l=>l=[]|d::ds,l=>∃a r,l=a::r/\DfR x d a/\Az1 x ds r
variable{x:Vx}{x':Vx}
theorem Az1.later(h:Nx x x'):∀{ds:Yb1 D}{l:Yb1 Deferred},Az1 x ds l->Az1 x' ds l
 |[],_,hr=>hr
 |d::ds,l,⟨dd,r,e,h1,h2⟩=>by
  refine⟨dd,r,e,?_,Az1.later h h2⟩;cases d<;>simp only[DfR]at h1 ⊢
  ·exact⟨Zx1 h1.1 h.nb,Zx1 h1.2.1 h.nb,by rw[h.bl _ h1.1,h.bl _ h1.2.1];exact h1.2.2⟩
  ·obtain⟨vs,e,hv⟩:=h1;exact⟨vs,e,Reps.later h _ _ hv⟩
structure EnvR (x:Vx) (n:Nat) (df:List D) (env:Nat->Option D) (a:Act):Prop where
 defers:Az1 x df a.defers
 size:a.tmps.size=n
 get:∀k d,env k=some d->∃v,a.tmps[k]? = some v/\Rep x d v
def Aiw(x:Vx):Nat->Nat->Yb1 Fr->Yb1 Act->Prop|_,_,[],as_=>as_=[]|lb,lt,f::fs,as_=>∃a r,as_=a::r/\f.lb<=lb/\f.lt<=lt/\EnvR { x with nb:=lb,nt:=lt } f.n f.df (get f.env) a/\Aiw x f.lb f.lt fs r
def A9k:Ex->Code|.exit id=>.exit id|_=>.ret
def B4o(j:Int)(q:Nat):Ex:=if j=1 then .ret else .exit q
def Gn(x:Vx)(β:Nat):Blk->Prop|.cells ds=>ds.all lf=true/\∃(vs:Yb1 Value) (t:TypeId),x.w.heap[β]? = some (.cells vs.toArray t (0,0))/\Reps x ds vs|.box c y=>agg? c=true/\∃(vs:Yb1 Value) (t:TypeId),x.w.heap[β]? = some (.cells vs.toArray t (0,0))/\vs.length=csz c/\∀(j:Nat) d,(enc c y)[j]? = some d->∃u,vs[j]? = some u/\RF x.S x.w d u|.row c n xs=>xs.length=n/\∃(vs:Yb1 Value) (t:TypeId),x.w.heap[β]? = some (.cells vs.toArray t (0,0))/\vs.length=xs.length*csz c/\∀i y j d,xs[i]? = some y->(enc c y)[j]? = some d->∃u,vs[i*csz c+j]? = some u/\RF x.S x.w d u|.dyn c xs=>xs.length<=maxLen/\∃(vs:Yb1 Value) (t:TypeId),x.w.heap[β]? = some (.cells vs.toArray t (0,0))/\xs.length*csz c<=vs.length/\∀i y j d,xs[i]? = some y->(enc c y)[j]? = some d->∃u,vs[i*csz c+j]? = some u/\RF x.S x.w d u|.ob k=>k=0->x.w.heap[β]? = some (.deferred (some []))|.lr s n ps asg body env=>∃r:Loop,x.w.heap[β]? = some (.loop r)/\r.params=ps.toArray/\r.assign=asg/\r.body=body/\EnvR x n [] (get env) { tmps:=r.tmps,defers:=[] }/\(s=0->r.state = .ready/\r.pending=none)|.lj e=>∃r:Loop,x.w.heap[β]? = some (.loop r)/\r.state = .done/\r.pending=some (A9k e)|.lx j n ps asg body env q=>Fy .i64 j=true/\(j=0->∃r:Loop,x.w.heap[β]? = some (.loop r)/\r.params=ps.toArray/\r.assign=asg/\r.body=body/\EnvR x n [] (get env) { tmps:=r.tmps,defers:=[] }/\(r.state = .ready/\r.pending=none))/\(j≠0->∃r:Loop,x.w.heap[β]? = some (.loop r)/\r.state = .done/\r.pending=some (A9k (B4o j q)))|.bld t d=>(∃l tk,d = .sl .byte l tk)/\∃(a v:Value),x.w.heap[β]? = some (.cells #[a,v] t (0,0))/\(a = .pointer none\/a = .pointer (some ⟨β,0,none⟩))/\Rep x d v
def GlR(x:Vx)(gl:Nat->Ya1 Gv):Prop:=(∀g c xs,gl g=some (.arr c xs)->∀i y,xs[i]? = some y->∀w',Chg x.S x.w w'->At w' c y g (i*csz c))/\(∀g l,gl g=some (.map l)->∃r es a,(∀w',Chg x.S x.w w'->w'.cell? ⟨g,0,none⟩=some (.map (some r))/\w'.heap[r]? = some (.map es a))/\Bf5 l es.toList)/\∀g k,gl g=some (.num k)->∃n,∀w',Chg x.S x.w w'->w'.cell? ⟨g,0,none⟩=some (.int k n)
structure Rel (cx:Cx) (m:Mp) (a:Act) (as_:List Act) (s:FS) (w:World):Prop where
 chg:Chg cx.I cx.w0 w
 env:EnvR (vx cx m s w) s.n s.df s.env a
 frs:Aiw (vx cx m s w) s.lb s.lt s.fr as_
 lb:s.lb<=s.nb
 lt:s.lt<=s.nt
 blks:∀b k,s.bl b=some k->b<s.nb/\Gn (vx cx m s w) (m.bl b) k
 als:∀t,s.al t->t<s.nt
 inj:∀b b',s.bl b≠none->s.bl b'≠none->m.bl b=m.bl b'->b=b'
 injt:∀t t' g o o',s.al t->s.al t'->m.tk t=some (g,o)->m.tk t' = some (g,o')->t=t'
 injbt:∀b t g o,s.bl b≠none->s.al t->m.tk t=some (g,o)->m.bl b≠g
 own:∀b i,D8 m s b i->b<w.heap.size/\(cx.I b i\/cx.w0.heap.size<=b)
 away:∀b i j,cx.M b i->b<cx.w0.heap.size/\¬cx.I b j
 glb:GlR (vx cx m s w) cx.gl
variable{a:Act}{as_:Yb1 Act}{cx:Cx}{m:Mp}{s:FS}{w:World}
theorem Rel.noDf(h:Rel cx m a as_ s w)(hd:s.df=[]):a.defers=[]:=by have b:=h.env.defers;rw[hd]at b;exact b
variable{df:Yb1 D}{env:Nat->Ya1 D}
theorem EnvR.later(h:Nx x x'){n:Nat}(b:EnvR x n df env a):EnvR x' n df env a:=⟨b.defers.later h,b.size,λk d c=>by obtain⟨v,hv,hd⟩:=b.get k d c;exact⟨v,hv,Rep.later h d v hd⟩⟩
theorem Nx.low(h:Nx x x'){lb lt:Nat}(a:lb<=x.nb)(c:lt<=x.nt):Nx { x with nb:=lb,nt:=lt } { x' with nb:=lb,nt:=lt }:=⟨h.chg,h.fp,h.el,λb hb=>h.bl b (Zx1 hb a),Zn1 _,Zn1 _,λt d e=>h.tk t (Zx1 d c) e⟩
theorem Aiw.later(h:Nx x x'):∀{frs:Yb1 Fr}{as_:Yb1 Act}{lb lt:Nat},lb<=x.nb->lt<=x.nt->Aiw x lb lt frs as_->Aiw x' lb lt frs as_
 |[],_,_,_,_,_,hr=>hr
 |f::frs,as_,lb,lt,h1,h2,hr=>by obtain⟨a,r,e,b,c,d,g⟩:=hr;exact⟨a,r,e,b,c,d.later (h.low h1 h2),Aiw.later h (Nat.le_trans b h1) (Nat.le_trans c h2) g⟩
variable{β:Nat}
theorem Gn.later(h:Nx x x')(hb:x'.w.heap[β]? = x.w.heap[β]?):∀{k:Blk},Gn x β k->Gn x' β k
 |.cells ds,⟨hl,vs,t,hh,hr⟩=>⟨hl,vs,t,by rw[hb];exact hh,Reps.later h ds vs hr⟩
 |.box c y,⟨ha,vs,t,hh,hl,hr⟩=>⟨ha,vs,t,by rw[hb];exact hh,hl,λj d hd=>by obtain⟨u,b,e⟩:=hr j d hd;exact⟨u,b,h.rf e⟩⟩
 |.row c n xs,⟨hn,vs,t,hh,hl,hr⟩=>⟨hn,vs,t,by rw[hb];exact hh,hl,λi y j d f hd=>by obtain⟨u,b,e⟩:=hr i y j d f hd;exact⟨u,b,h.rf e⟩⟩
 |.dyn c xs,⟨hn,vs,t,hh,hl,hr⟩=>⟨hn,vs,t,by rw[hb];exact hh,hl,λi y j d f hd=>by obtain⟨u,b,e⟩:=hr i y j d f hd;exact⟨u,b,h.rf e⟩⟩
 |.ob k,hk=>by simp only[Gn]at hk ⊢;rw[hb];exact hk
 |.lr _ _ _ _ _ _,⟨r,h1,h2,h3,h4,h5,h6⟩=>⟨r,by rw[hb];exact h1,h2,h3,h4,h5.later h,h6⟩
 |.lj _,⟨r,h1,h2⟩=>⟨r,by rw[hb];exact h1,h2⟩
 |.lx _ _ _ _ _ _ _,⟨b,h0,h1⟩=>⟨b,λg=>by
   obtain⟨r,l,m,o,p,q,s⟩:=h0 g;exact⟨r,by rw[hb];exact l,m,o,p,q.later h,s⟩,λg=>by
   obtain⟨r,l,m⟩:=h1 g;exact⟨r,by rw[hb];exact l,m⟩⟩
 |.bld _ d,⟨hd,a,v,hh,ha,hr⟩=>⟨hd,a,v,by rw[hb];exact hh,ha,Rep.later h d v hr⟩
theorem GlR.later(h:Nx x x'){gl:Nat->Ya1 Gv}(b:GlR x gl):GlR x' gl:=⟨λg c xs f i y j w' a=>b.1 g c xs f i y j w' (h.chg.later h.fp a),λg l m=>by obtain⟨r,es,d,e,o⟩:=b.2.1 g l m;exact⟨r,es,d,λw' a=>e w' (h.chg.later h.fp a),o⟩,λg k p=>by obtain⟨n,e⟩:=b.2.2 g k p;exact⟨n,λw' a=>e w' (h.chg.later h.fp a)⟩⟩
variable{j:Nat}
theorem Rel.disj(h:Rel cx m a as_ s w){b i:Nat}(hm:cx.M b i)(c:D8 m s b j):False:=by
 obtain⟨e,d⟩:=h.away b i j hm;rcases(h.own b j c).2 with hi|hi
 ·exact d hi
 ·omega
theorem Rel.quiet{w':World}(h:Rel cx m a as_ s w)(hc:Chg C2 w w'):Rel cx m a as_ s w':=by
 have hb:∀k,k<w.heap.size->w'.heap[k]? = w.heap[k]? :=λk c=>hc.block k c (λ_ h=>h);have d:Nx (vx cx m s w) (vx cx m s w'):=⟨hc.mono (λ_ _ h=>h.elim),λb i hi=>.inl hi,rfl,λ_ _=>rfl,Zn1 _,Zn1 _,λt _ j=>⟨j,rfl,λg o l=>hb g (h.own g o (.inr ⟨t,o,j,l,Zn1 _⟩)).1⟩⟩;refine⟨h.chg.trans (hc.mono (λ_ _ h=>h.elim)),h.env.later d,h.frs.later d h.lb h.lt,h.lb,h.lt,λb k c=>?_,h.als,h.inj,h.injt,h.injbt,λb i hi=>?_,h.away,h.glb.later d⟩
 ·obtain⟨e,f⟩:=h.blks b k c;exact⟨e,f.later d (hb _ (h.own (m.bl b) 0 (.inl ⟨b,by rw[c];simp,rfl⟩)).1)⟩
 ·obtain⟨e,f⟩:=h.own b i hi;exact⟨Zx1 e hc.size,f⟩
theorem EnvR.put{n:Nat}(h:EnvR x n df env a){k:Nat}(f:k<n){d:D}{v:Value}(hd:Rep x d v):EnvR x n df (λj=>if j=k then some d else env j) (a.put (some k) v):=by
 refine⟨by simpa[Act.put]using h.defers,by simpa[Act.put]using h.size,λj e b=>?_⟩;by_cases c:j=k
 ·subst c;simp at b;subst b;have:j<a.tmps.size:=by rw[h.size];exact f
  exact⟨v,by simp[Act.put,this],hd⟩
 ·simp[if_neg c]at b;obtain⟨u,g,i⟩:=h.get j e b;refine⟨u,?_,i⟩;simp[Act.put];rw[Array.getElem?_setIfInBounds_ne (Ne.symm c)];exact g
def FS.put(s:FS)(k:Nat)(d:D):FS:={ s with env:=λj=>if j=k then some d else s.env j }
theorem Gw{a b:Nat}(h:a≠b):Nat.beq a b=false:=by cases hb:Nat.beq a b with|true=>simp_all|false=>rfl
theorem Bl(e:Env)(k j:Nat)(d:D):get ((k,d)::e) j=if j=k then some d else get e j:=by
 simp[get];by_cases h:j=k
 ·subst h;simp
 ·have:Nat.beq k j=false:=Gw (Ne.symm h);simp[this,h]
theorem Ky(st:St)(k:Nat)(d:D):fs (st.put k d)=(fs st).put k d:=by simp[fs,St.put,FS.put];funext j;exact Bl st.env k j d
theorem Rel.put(h:Rel cx m a as_ s w){k:Nat}(b:k<s.n){d:D}{v:Value}(hd:Rep (vx cx m s w) d v):Rel cx m (a.put (some k) v) as_ (s.put k d) w:=⟨h.chg,h.env.put b hd,h.frs,h.lb,h.lt,h.blks,h.als,h.inj,h.injt,h.injbt,h.own,h.away,h.glb⟩
def Azn(a:Act):Sx.Env:=(List.range a.tmps.size).map λk=>(k,a.tmps.getD k undef)
theorem A6x{k:Nat}{v:Value}(h:a.tmps[k]? = some v):Sx.Env.get (Azn a) k=some v:=by
 have c:k<a.tmps.size:=(Zh2.1 h).1;have key:∀(n b:Nat),b<=k->k<b+n->Sx.Env.get ((List.range' b n).map λk=>(k,a.tmps.getD k undef)) k=some v:=by
  intro n;induction n with
  |zero=>intro b d e;omega
  |succ n f=>
   intro b d e;simp only[List.range'_succ,Zw1,Sx.Env.get];by_cases hb:b=k
   ·subst hb;simp[ h]
   ·have:Nat.beq b k=false:=Gw hb;simp only[this];exact f (b+1) (by omega) (by omega)
 have:=key a.tmps.size 0 (Nat.zero_le _) (by omega);simpa[Azn,List.range_eq_range']using this
theorem Ax7(h:a.defers=[]):Sx.EnvOk a.tmps.size (Azn a) a:=by
 refine⟨h,rfl,λk v e=>?_⟩;have key:∀(l:Yb1 Nat),Sx.Env.get (l.map λk=>(k,a.tmps.getD k undef)) k=some v->k∈l/\v=a.tmps.getD k undef:=by
  intro l;induction l with
  |nil=>intro h;simp[Sx.Env.get]at h
  |cons b l f=>
   intro h;simp only[Zw1,Sx.Env.get]at h;by_cases hb:b=k
   ·grind
   ·have:Nat.beq b k=false:=Gw hb;simp only[this]at h;obtain⟨c,d⟩:=f h;exact⟨by simp[c],d⟩
 obtain⟨c,d⟩:=key _ e;simp at c;rw[d];simp[ c]
section
variable {R:Type}(px:Px R)
def evF(env:Nat->Ya1 D)(t:Nat):Operand->Ya1 D|.tmp i=>env i|.const v=>cst (px.tt t) v|.global g=>some (.gp g)|.func f=>some (.fn f [])
theorem Ay(st:St)(t:Nat)(x:Operand):ev px st t x=evF px (get st.env) t x:=by cases x<;>rfl
end
theorem Av2{s:ByteArray}(h:Bqk s=true):s.data.toList.length<=maxLen:=by have:s.data.toList.length<=1048576:=Nat.le_of_ble_eq_true h;simp only[maxLen];omega
variable{z:D}
theorem Bp3{d:D}{v:Value}(h:B3y z v=some d):Rep x d v/\lf d=true:=by
 unfold B3y at h;split at h
 ·split at h
  ·simp at h;subst h;rename_i a;exact⟨by simp only[Rep];exact⟨trivial,a⟩,rfl⟩
  ·cases h
 ·simp at h;subst h;exact⟨by simp[Rep],rfl⟩
 ·split at h
  ·rename_i b;simp at h;subst h;exact⟨by simp only[Rep];exact⟨trivial,Av2 b⟩,rfl⟩
  ·cases h
 all_goals simp at h
 all_goals subst h
 ·exact⟨by simp[Rep];exact⟨λ_ _=>.nil _ _ _ _ trivial,by simp[TkR]⟩,rfl⟩
 ·exact⟨by simp[Rep],rfl⟩
 ·exact⟨by simp[Rep],rfl⟩
theorem Amm{x:Vx}:∀{zs ds:Yb1 D}{vs:Yb1 Value},A23 zs vs=some ds->Reps x ds vs/\ds.all lf=true
 |[],ds,[],h=>by simp[A23]at h;subst h;simp[Reps]
 |z::zs,ds,v::vs,h=>by
  simp[A23]at h;split at h
  ·rename_i d hd;split at h
   ·rename_i e a;simp at h;subst h;have b:=Bp3 (x:=x) hd;have c:=Amm (x:=x) a;exact⟨by simp only[Reps];exact⟨v,vs,rfl,b.1,c.1⟩,by simp[b.2,c.2]⟩
   ·cases h
  ·cases h
 |[],ds,v::vs,h=>by simp[A23]at h
 |z::zs,ds,[],h=>by simp[A23]at h
theorem Bz3{t:Ty}{v:Value}{d:D}(h:cst t v=some d):Rep x d v:=by
 unfold cst at h;split at h
 ·split at h
  ·rename_i c;simp at h;subst h;simp only[Rep];exact⟨trivial,c⟩
  ·cases h
 ·simp at h;subst h;simp[Rep]
 ·split at h
  ·rename_i e;simp at h;subst h;simp only[Rep];exact⟨trivial,Av2 e⟩
  ·cases h
 ·split at h
  ·simp at h;subst h;simp[Rep];exact⟨λ_ _=>.nil _ _ _ _ trivial,by simp[TkR]⟩
  ·cases h
 ·simp at h;subst h;simp[Rep]
 ·simp at h;subst h;simp[Rep]
 ·split at h
  ·split at h
   ·rename_i ds a;simp at h;subst h;have b:=Amm (x:=x) a;simp only[Rep];exact⟨b.2,_,by simp,b.1⟩
   ·cases h
  ·cases h
 ·simp at h;subst h;simp[Rep]
variable{R:Type}{px:Px R}{t:Nat}
theorem EnvR.ev{n:Nat}(h:EnvR x n df env a){o:Operand}{d:D}(b:evF px env t o=some d):∃v,Sx.Env.ev (Azn a) o=some v/\a.eval o=v/\Rep x d v:=by cases o with|tmp k=>obtain⟨v,hv,hd⟩:=h.get k d b;exact⟨v,A6x hv,by simp[Act.eval,hv],hd⟩|const v=>exact⟨v,rfl,rfl,Bz3 b⟩|global g=>simp[evF]at b;subst b;exact⟨_,rfl,rfl,by simp[Rep]⟩|func f=>simp[evF]at b;subst b;exact⟨_,rfl,rfl,by simp only[Rep];exact⟨[],rfl,by simp[Reps]⟩⟩
def zb:D->Value->Bool|.int k n,.int k' n'=>decide (k=k')&&decide (n=n')&&Fy k n|.bool b,.bool b'=>b == b'|.str [],.string s=>s.data.toList == []|.sl _ [] .nil,.slice none 0 0=>true|.sl _ [] .no,.slice none 0 0=>true|.nilp,.pointer none=>true|.nilfn,.nilFunc=>true|_,_=>false
def zbL:Yb1 D->Yb1 Value->Bool|[],[]=>true|d::ds,v::vs=>zb d v&&zbL ds vs|_,_=>false
theorem B4f{d:D}{v:Value}(h:zb d v=true):Rep x d v/\lf d=true:=by
 unfold zb at h;split at h
 ·simp at h;obtain⟨⟨rfl,rfl⟩,h⟩:=h;exact⟨by simp only[Rep];exact⟨trivial,h⟩,rfl⟩
 ·simp at h;subst h;exact⟨by simp[Rep],rfl⟩
 ·simp at h;refine⟨?_,rfl⟩;simp only[Rep];refine⟨?_,by simp⟩;rename_i s;obtain⟨⟨l⟩⟩:=s;simp at h;subst h;rfl
 ·exact⟨by simp[Rep];exact⟨λ_ _=>.nil _ _ _ _ trivial,by simp[TkR]⟩,rfl⟩
 ·exact⟨by simp[Rep];exact⟨λ_ _=>.nil _ _ _ _ trivial,by simp[TkR]⟩,rfl⟩
 ·exact⟨by simp[Rep],rfl⟩
 ·exact⟨by simp[Rep],rfl⟩
 ·cases h
theorem T6{x:Vx}:∀{ds:Yb1 D}{vs:Yb1 Value},zbL ds vs=true->Reps x ds vs/\ds.all lf=true
 |[],[],_=>by simp[Reps]
 |d::ds,v::vs,h=>by simp[zbL]at h;have a:=B4f (x:=x) h.1;have b:=T6 (x:=x) h.2;exact⟨by simp only[Reps];exact⟨v,vs,rfl,a.1,b.1⟩,by simp[a.2,b.2]⟩
 |[],_::_,h=>by simp[zbL]at h
 |_::_,[],h=>by simp[zbL]at h
def Bcp:Ck->Ya1 (Yb1 Nat)|.val=>some [0,0,1]|.tok=>some [0,0,1,0]|.col=>some [1,0,2,2,1]|_=>none
def Bdy(P:Program)(t:TypeId):Bool:=match P.underlying t with|some (.int _)=>true|_=>false
def fkB(P:Program):Nat->Yb1 Field->Yb1 Nat->Bool
 |_,[],[]=>true
 |i,f::fs,k::ks=> !(f.name == "_")&&f.offset == i&&(match k with
   |0=>Bdy P f.type
   |1=>Sx.tyS P f.type
   |_=>Sx.tyB P f.type)&&fkB P (i+1) fs ks
 |_,_,_=>false
def Xk(P:Program)(t:TypeId):Nat->Yb1 Field->Yb1 (Nat×Nat)->Bool|_,[],[]=>true|i,f::fs,(o,u)::l=>f.type == u&&Sx.fldOff P t i == some o&&f.offset == o&&Xk P t (i+1) fs l|_,_,_=>false
def C0(P:Program)(el:Ck->TypeId)(tt:Nat->Ty)(t:Nat):Bool:=match tt t with
 |.no=>true
 |ty=>Sx.tySome P t&&(Sx.tyAgg P t == ty.agg?)&&(Sx.tySz P t == some ty.n)&&(match ty.zero with
   |some z=>(match Sx.tyZero P t with
    |some zs=>zbL (cells z) zs
    |none=>false)
   |none=>true)&&(match ty with
  |.int k=>Sx.tyI P t k
  |.bool=>Sx.tyB P t
  |.str=>Sx.tyS P t
  |.sl c=>(match P.info? (el c)with
   |some i=>Sx.elTyB P t (el c) (csz c) i.bytes&&Nat.ble i.bytes 512&&(match c with
    |.byte=>Sx.tyI P (el c) .u8
    |_=>true)&&(match Sx.tyZero P (el c)with
    |some zs=>zbL (enc c (zer c)) zs
    |none=>false)
   |none=>false)
  |.st c l _=>(match P.underlying t with
   |some (.struct fds)=>Xk P t 0 fds.toList l&&(match c with
    |some c=>(match Bcp c with
     |some a=>Sx.stOk P t&&fkB P 0 fds.toList a
     |none=>true)
    |none=>true)
   |_=>false)
  |.arr n c=>(match P.underlying t with
   |some (.array n' u)=>n' == n&&u == el c&&Sx.tySz P u == some (csz c)&&Sx.tySome P u&&(Sx.tyAgg P u == agg? c)
   |_=>false)
  |.map=>(match P.underlying t with
   |some (.map k e)=>(match P.underlying k with
    |some (.int .i64)=>true
    |_=>false)&&(match P.info? e with
    |some i=>(match i.zero with
     |some (.string s)=>s.data.toList == []
     |_=>false)
    |none=>false)
   |_=>false)
  |.ptr=>(match P.underlying t with
   |some (.pointer _)=>true
   |_=>false)
  |_=>true)
def Ae7(st st':St):Prop:=st'.n=st.n/\st'.env=st.env/\st'.lb=st.lb/\st'.lt=st.lt/\(st'.fr,st'.df)=(st.fr,st.df)
def Bwi{R:Type}(cx:Cx)(px:Px R):Prop:=∀(b:Nat) (ds:Yb1 D) (st:St) (K:D->St->Ya1 R) (r:R),px.yld b ds st K=some r->∀(m:Mp) (a:Act) (as_:Yb1 Act) (w:World) (vs:Yb1 Value),Rel cx m a as_ (fs st) w->Reps (vx cx m (fs st) w) ds vs -> ∃fn tmps asg body,(Instr.yield (m.bl b) vs.toArray).run cx.P w = .ok (.round (m.bl b) fn tmps asg body) w/\RoundIn Fence.wide 0 cx.P (m.bl b) fn tmps asg body w λen w'=>∃v,en = .returned v/\∃d st' m',K d st' = some r/\Ae7 st st'/\Rel cx m' a as_ (fs st') w'/\Rep (vx cx m' (fs st') w') d v
def noY{R:Type}(px:Px R):Prop:=∀b ds st K,px.yld b ds st K=none
theorem noY.ok(h:noY px):Bwi cx px:=λb ds st K r a=>by rw[h]at a;cases a
structure PxOk {R:Type}(cx:Cx) (px:Px R):Prop where
 tt:∀t,C0 cx.P cx.el px.tt t=true
 gl:px.gl=cx.gl
 yl:Bwi cx px
section
variable {P:Program}{el:Ck->TypeId}{tt:Nat->Ty}{t:Nat}
theorem D5(h:C0 P el tt t=true)(a:tt t ≠ .no):Sx.tySome P t=true/\Sx.tyAgg P t=(tt t).agg? /\ Sx.tySz P t=some (tt t).n:=by
 unfold C0 at h;split at h
 ·grind
 ·grind
theorem Us(h:C0 P el tt t=true)(a:tt t ≠ .no)(b:(tt t).zero=some z):∃zs,Sx.tyZero P t=some zs/\zbL (cells z) zs=true:=by
 unfold C0 at h;split at h
 ·grind
 ·grind
variable{k:IntKind}
theorem Aps(h:C0 P el tt t=true)(a:tt t = .int k):Sx.tyI P t k=true:=by unfold C0 at h;rw[a]at h;simp at h;exact h.2
theorem Aef(h:C0 P el tt t=true)(a:tt t = .bool):Sx.tyB P t=true:=by unfold C0 at h;rw[a]at h;simp at h;exact h.2
theorem Hk(h:C0 P el tt t=true)(a:tt t = .str):Sx.tyS P t=true:=by unfold C0 at h;rw[a]at h;simp at h;exact h.2
variable{c:Ck}
theorem C8(h:C0 P el tt t=true)(b:tt t = .sl c):∃by_,Sx.ElTy P t (el c) (csz c) by_/\by_<=512/\(c = .byte->Sx.tyI P (el c) .u8=true):=by
 unfold C0 at h;rw[b]at h;simp at h
 have a:=h.2;split at a
 ·rename_i i hi;simp at a;refine⟨i.bytes,Sx.elTy_of a.1.1.1,by simpa using a.1.1.2,λhc=>?_⟩;subst hc;simpa using a.1.2
 ·cases a
theorem Bn4(h:C0 P el tt t=true)(b:tt t = .sl c):∃zs,Sx.tyZero P (el c)=some zs/\zbL (enc c (zer c)) zs=true:=by
 unfold C0 at h;rw[b]at h;simp at h
 have a:=h.2;split at a
 ·grind
 ·cases a
theorem Rx(h:C0 P el tt t=true){n:Nat}(b:tt t = .arr n c):P.underlying t=some (.array n (el c))/\Sx.tySz P (el c)=some (csz c)/\Sx.tySome P (el c)=true/\Sx.tyAgg P (el c)=agg? c:=by
 unfold C0 at h;rw[b]at h;simp at h
 have a:=h.2;split at a
 ·grind
 ·cases a
theorem Bq8(h:C0 P el tt t=true)(b:tt t = .ptr):∃u,P.underlying t=some (.pointer u):=by
 unfold C0 at h;rw[b]at h;simp only[Zb1]at h
 have a:=h.2;split at a
 ·exact⟨_,by assumption⟩
 ·cases a
theorem Bs7(h:C0 P el tt t=true)(d:tt t = .map):∃k e i,P.underlying t=some (.map k e)/\P.underlying k=some (.int .i64)/\P.info? e=some i/\i.zero=some (Sx.S []):=by
 unfold C0 at h;rw[d]at h;simp only[Zb1]at h
 have b:=h.2;split at b
 ·rename_i k e f;simp only[Zb1]at b;obtain⟨c,a⟩:=b;split at c
  ·rename_i g;split at a
   ·rename_i i hi;split at a
    ·rename_i s j;refine⟨k,e,i,f,g,hi,?_⟩;simp only[beq_iff_eq]at a;obtain⟨⟨l⟩⟩:=s;simp only at a;subst a;exact j
    ·cases a
   ·cases a
  ·cases c
 ·cases b
theorem Afc{P:Program}{t:TypeId}:∀{fds:Yb1 Field}{l:Yb1 (Nat×Nat)}{i f o u:Nat},Xk P t i fds l=true->l[f]? = some (o,u)->∃fd,fds[f]? = some fd/\fd.type=u/\fd.offset=o/\Sx.fldOff P t (i+f)=some o
 |[],[],i,f,o,u,_,hl=>by simp at hl
 |fd::fds,(o0,u0)::l,i,f,o,u,h,hl=>by simp[Xk]at h;cases f with|zero=>grind|succ f=>obtain⟨a,b,c,d,e⟩:=Afc h.2 (by simpa using hl);exact⟨a,by simpa using b,c,d,by rw[<-e];congr 1;omega⟩
 |[],_::_,_,_,_,_,h,_=>by simp[Xk]at h
 |_::_,[],_,_,_,_,h,_=>by simp[Xk]at h
theorem A0k(h:C0 P el tt t=true){c:Ya1 Ck}{l:Yb1 (Nat×Nat)}{z:Yb1 D}(e:tt t = .st c l z):∃fds,P.underlying t=some (.struct fds)/\Xk P t 0 fds.toList l=true/\∀a b,c=some a->Bcp a = some b->Sx.stOk P t=true/\fkB P 0 fds.toList b=true:=by
 unfold C0 at h;rw[e]at h;simp at h
 have d:=h.2;split at d
 ·grind
 ·cases d
end
section
variable {x:Vx}
variable{k:IntKind}
theorem Rep.int{n:Int}{v:Value}(h:Rep x (.int k n) v):v = .int k n:=by simp[Rep]at h;exact h.1
theorem Rep.str{l:Str}{v:Value}(h:Rep x (.str l) v):v=Sx.S l:=by simp[Rep]at h;exact h.1
theorem Rep.strLen{l:Str}{v:Value}(h:Rep x (.str l) v):l.length<=maxLen:=by simp[Rep]at h;exact h.2
theorem Rep.bool{b:Bool}{v:Value}(h:Rep x (.bool b) v):v = .bool b:=by simp[Rep]at h;exact h
theorem Bv(b:Bool):Rep x (.bool b) (.bool b):=by simp[Rep]
theorem Lu{l:Str}(h:l.length<=maxLen):Rep x (.str l) (Sx.S l):=by simp only[Rep];exact⟨trivial,h⟩
theorem Dl{n:Int}(h:Fy k n=true):Rep x (.int k n) (.int k n):=by simp only[Rep];exact⟨trivial,h⟩
theorem Aa6(k:IntKind)(n:Int):Fy k (k.wrap n)=true:=by cases k<;>simp[Fy,IntKind.wrap,IntKind.min,IntKind.max,IntKind.signed,IntKind.bits]<;>(try split)<;>omega
theorem Brt{n:Int}(h:Fy .u8 n=true) : 0<=n/\n<256:=by simp[Fy,IntKind.min,IntKind.max,IntKind.signed,IntKind.bits]at h;omega
theorem B1r{n:Int}(h : 0<=n/\n<256):Fy .u8 n=true:=by simp[Fy,IntKind.min,IntKind.max,IntKind.signed,IntKind.bits];omega
theorem Rj{n:Nat}(h:n<=maxLen):Fy .i64 (n:Int)=true:=by simp[maxLen]at h;simp[Fy,IntKind.min,IntKind.signed,IntKind.bits];omega
theorem Jl{n:Int}(h:Fy k n=true):k.min<=n/\n<=k.max:=by simpa[Fy]using h
theorem A5k{n:Int}(h:k.min<=n/\n<=k.max):Fy k n=true:=by simpa[Fy]using h
theorem B25{p:Int}{m:Nat}(h:Fy k p=true):Fy k (p.fdiv (2 ^ m))=true:=by
 obtain⟨b,c⟩:=Jl h;refine A5k ?_;have a:(0:Int)<2 ^ m:=Int.pow_pos (by omega);rw[Int.fdiv_eq_ediv_of_nonneg _ (by omega)];have d:k.min<=0/\0<=k.max:=by cases k<;>simp[IntKind.min,IntKind.max,IntKind.signed,IntKind.bits]
 rcases Int.le_total 0 p with h|h
 ·have:=Int.ediv_nonneg h (show(0:Int)<=2 ^ m by omega);have:=Int.ediv_le_self (2 ^ m) h;omega
 ·have e:p / 2 ^ m<=0:=by have:=Int.ediv_le_ediv a h;simpa using this
  have f:p<=p / 2 ^ m:=by rw[Int.le_ediv_iff_mul_le a];have:p*2 ^ m<=p*1:=Int.mul_le_mul_of_nonpos_left h (by omega);omega
  omega
theorem Bz7{a b:Int}(c:Fy k a=true)(hb:Fy k b=true):Fy k (a.tmod b)=true:=by
 obtain⟨e,f⟩:=Jl c;obtain⟨g,i⟩:=Jl hb;refine A5k ?_;have j:(a.tmod b).natAbs<=a.natAbs:=by rw[Int.natAbs_tmod];exact Nat.mod_le _ _
 rcases Int.le_total 0 a with h|h
 ·have d:=Int.tmod_nonneg b h;have:k.min<=0:=by cases k<;>simp[IntKind.min,IntKind.signed,IntKind.bits]
  omega
 ·have d:a.tmod b<=0:=by have:=Int.tmod_nonneg b (show 0 <= -a by omega);rw[Int.neg_tmod]at this;omega
  have : 0<=k.max:=by cases k<;>simp[IntKind.max,IntKind.signed,IntKind.bits]
  omega
theorem Rep.u8{n:Int}{v:Value}(h:Rep x (.int k n) v):Fy k n=true:=by simp[Rep]at h;exact h.2
end
section
variable {P:Program}{e:Sx.Env}{t t':TypeId}{x y:Operand}{k:IntKind}{a b:Int}{l m:Str}
theorem B2t(c:Sx.Env.ev e x=some (.int k a))(d:Sx.Env.ev e y=some (.int k b)):Sx.Pure P e (.binOp .andNot t x y t') (.int k (Boi k a b)):=Sx.p_bin c d (Sx.eqGuard_int _ _ _ _ _ _ _ _) λw=>by simp[binOp,Op.intBits,Boi,Anr]
theorem B4u(a:Sx.Env.ev e x=some (Sx.S l))(b:Sx.Env.ev e y=some (Sx.S m)):Sx.Pure P e (.binOp .leq t x y t') (.bool (Op.bytesLess l m||decide (l=m))):=Sx.p_bin a b (Sx.eqGuard_str _ _ _ _ _ _) λw=>by simp[binOp,Op.stringOp];rw[Sx.beq_decide]
theorem B28(a:Sx.Env.ev e x=some (Sx.S l))(b:Sx.Env.ev e y=some (Sx.S m)):Sx.Pure P e (.binOp .geq t x y t') (.bool (!Op.bytesLess l m)):=Sx.p_bin a b (Sx.eqGuard_str _ _ _ _ _ _) λw=>by simp[binOp,Op.stringOp]
theorem B3g(a:Sx.Env.ev e x=some (Sx.S l))(b:Sx.Env.ev e y=some (Sx.S m)):Sx.Pure P e (.binOp .gtr t x y t') (.bool (!(Op.bytesLess l m||decide (l=m)))):=Sx.p_bin a b (Sx.eqGuard_str _ _ _ _ _ _) λw=>by simp[binOp,Op.stringOp];rw[Sx.beq_decide]
theorem B2k{n:Int}(a:Sx.Env.ev e x=some (.int k n)):Sx.Pure P e (.unOp .xor t x) (.int k (Qg k (match k.signed with|true=> -1|false=>k.max) n)):=λd a' w o b c=>by simp[execOp,c,b.ev a,Op.unary,Qg,Anr];cases k<;>rfl
variable{op:BinOp}
theorem Bro{c:Bool}{d:D}{vx:Vx}(h:B38 op k a b=some (c,d))(hc:c=true)(f:Sx.Env.ev e x=some (.int k a))(g:Sx.Env.ev e y=some (.int k b))(l:Fy k a=true)(hb:Fy k b=true):∃v,Sx.Pure P e (.binOp op t x y t') v/\Rep vx d v:=by
 subst hc;have i:∀n,Rep vx (.int k (k.wrap n)) (.int k (k.wrap n)):=λn=>Dl (Aa6 k n);unfold B38 at h;split at h<;>simp at h
 ·subst h;exact⟨_,Sx.p_add f g,i _⟩
 ·subst h;exact⟨_,Sx.p_sub f g,i _⟩
 ·subst h;exact⟨_,Sx.p_mul f g,i _⟩
 ·obtain⟨j,rfl⟩:=h;exact⟨_,Sx.p_quo f g j,i _⟩
 ·obtain⟨j,rfl⟩:=h;exact⟨_,Sx.p_rem f g j,Dl (Bz7 l hb)⟩
 ·subst h;exact⟨_,Sx.p_and f g,i _⟩
 ·subst h;exact⟨_,Sx.p_or f g,i _⟩
 ·subst h;exact⟨_,Sx.p_xor f g,i _⟩
 ·subst h;exact⟨_,B2t f g,i _⟩
 ·subst h;exact⟨_,Sx.p_eql f g,by rw[show(a == b)=decide (a=b) by rw[Bool.eq_iff_iff];simp];exact Bv _⟩
 ·subst h;exact⟨_,Sx.p_neq f g,by rw[show(a != b) = !decide (a=b) by rw[Bool.eq_iff_iff];simp];exact Bv _⟩
 ·subst h;exact⟨_,Sx.p_lss f g,Bv _⟩
 ·subst h;exact⟨_,Sx.p_leq f g,Bv _⟩
 ·subst h;exact⟨_,Sx.p_gtr f g,Bv _⟩
 ·subst h;exact⟨_,Sx.p_geq f g,Bv _⟩
theorem Bu1{c:Bool}{d:D}{vx:Vx}(h:B2i op l m=some (c,d))(hc:c=true)(a:Sx.Env.ev e x=some (Sx.S l))(b:Sx.Env.ev e y=some (Sx.S m)):∃v,Sx.Pure P e (.binOp op t x y t') v/\Rep vx d v:=by
 subst hc;unfold B2i at h;split at h<;>simp only[Za1,Zp1,reduceCtorEq,Zg1,true_and]at h
 ·obtain⟨f,rfl⟩:=h;exact⟨_,Sx.p_adds a b (by unfold A9s at f;omega),Lu (by simp[A9s]at f;simp[maxLen];omega)⟩
 ·subst h;exact⟨_,Sx.p_eqls a b,Bv _⟩
 ·subst h;exact⟨_,Sx.p_neqs a b,Bv _⟩
 ·subst h;exact⟨_,Sx.p_lsss a b,Bv _⟩
 ·subst h;exact⟨_,B4u a b,Bv _⟩
 ·subst h;exact⟨_,B3g a b,Bv _⟩
 ·subst h;exact⟨_,B28 a b,Bv _⟩
end
def Wk(d e:D):Prop:=d=e\/(∃c xs t,d = .sl c xs t/\e = .sl c xs .no)\/∃n,d = .int .u8 n/\e = .int .u8 ((UInt8.ofNat n.toNat).toNat:Int)
def WkL:Yb1 D->Yb1 D->Prop|[],[]=>True|d::ds,e::es=>Wk d e/\WkL ds es|_,_=>False
theorem B0c(d:D):Wk d d:=.inl rfl
theorem B50(c:Ck)(xs:Yb1 (El c))(t:Tk):Wk (.sl c xs t) (.sl c xs .no):=.inr (.inl ⟨c,xs,t,rfl,rfl⟩)
theorem B5x(n:Int):Wk (.int .u8 n) (.int .u8 ((UInt8.ofNat n.toNat).toNat:Int)):=.inr (.inr ⟨n,rfl,rfl⟩)
variable{c:Ck}{ds:Yb1 D}{y:El c}
theorem Bss(h:dec c ds=some y):WkL ds (enc c y):=by
 unfold dec at h;split at h<;>simp only[Za1,reduceCtorEq]at h<;>subst h<;>simp only[enc,WkL,Xpr.kind,Xpr.v,Xpr.name,Xpr.l]<;>(repeat' apply And.intro)<;>first
  |exact B0c _
  |exact B50 _ _ _
  |exact B5x _
  |trivial
theorem WkL.get:∀{ds es:Yb1 D},WkL ds es->∀{j:Nat}{e:D},es[j]? = some e->∃d,ds[j]? = some d/\Wk d e
 |[],[],h,j,e,he=>by simp at he
 |d::ds,e0::es,h,j,e,he=>by simp only[WkL]at h;cases j with|zero=>simp at he;subst he;exact⟨d,by simp,h.1⟩|succ j=>obtain⟨a,b,c⟩:=WkL.get h.2 (by simpa using he);exact⟨a,by simpa using b,c⟩
 |[],_::_,h,_,_,_=>by simp[WkL]at h
 |_::_,[],h,_,_,_=>by simp[WkL]at h
theorem WkL.len:∀{ds es:Yb1 D},WkL ds es->ds.length=es.length
 |[],[],_=>rfl
 |d::ds,e0::es,h=>by simp only[WkL]at h;simp[WkL.len h.2]
 |[],_::_,h=>by simp[WkL]at h
 |_::_,[],h=>by simp[WkL]at h
theorem A9c{d e:D}{v:Value}(h:Rep x d v)(p:Wk d e)(q:∃(c:Ck) (y:El c) (j:Nat),(enc c y)[j]? = some e):RF x.S x.w e v:=by
 have g:∀f,(∃k n,f = .int k n)\/(∃b,f = .bool b)\/(∃l,f = .str l)\/(∃c xs,f = .sl c xs .no)->Rep x f v->RF x.S x.w f v:=by
  rintro f (⟨k,n,rfl⟩|⟨b,rfl⟩|⟨l,rfl⟩|⟨c,xs,rfl⟩) a w' i
  ·simp only[Rep]at a;rw[a.1];exact .int k n a.2
  ·simp only[Rep]at a;rw[a];exact .bool b
  ·simp only[Rep]at a;rw[a.1];exact .str l a.2
  ·simp only[Rep]at a;exact a.1 w' i
 rcases p with rfl|⟨c,xs,t,rfl,rfl⟩|⟨n,rfl,rfl⟩
 ·refine g d ?_ h;obtain⟨c,y,j,m⟩:=q;cases c<;>simp only[enc]at m<;>(rcases j with _|_|_|_|_|_|_|_|_|_|_|_|_|_|_|_|_|_|j<;>simp at m<;>subst m<;>simp)
 ·simp only[Rep]at h;exact h.1
 ·simp only[Rep]at h;obtain⟨rfl,o⟩:=h;have:=Brt o;have r:((UInt8.ofNat n.toNat).toNat:Int)=n:=by have:(UInt8.ofNat n.toNat).toNat=n.toNat % 256:=UInt8.toNat_ofNat';rw[this];omega
  intro w' _;rw[r];exact .int _ _ o
def ElR(x:Vx)(c:Ck)(y:El c)(vs:Yb1 Value):Prop:=vs.length=csz c/\∀(j:Nat) d,(enc c y)[j]? = some d->∃u,vs[j]? = some u/\RF x.S x.w d u
variable{vs:Yb1 Value}
theorem R0(h:dec c ds=some y)(a:Reps x ds vs):ElR x c y vs:=by have b:=Bss h;refine⟨by rw[a.len,b.len,B8],λj d hd=>?_⟩;obtain⟨k,e,f⟩:=b.get hd;obtain⟨u,g,i⟩:=a.get e;exact⟨u,g,A9c i f ⟨c,y,j,hd⟩⟩
theorem A7w{d:D}{v:Value}(h:FV w d v):Sx.one v=true:=by cases h<;>rfl
theorem ElR.one(h:ElR x c y vs):∀v,v∈vs->Sx.one v=true:=by
 intro v hv;obtain⟨j,d,rfl⟩:=List.mem_iff_getElem.1 hv;have a:j<(enc c y).length:=by rw[B8,<-h.1];exact d
 obtain⟨u,b,e⟩:=h.2 j _ (Zo1 a);rw[Zo1 d]at b;simp only[Za1]at b;rw[b];exact A7w e.here
theorem Ajy{d:D}{v:Value}(h:Rep x d v)(a:lf d=true):Sx.one v=true:=by
 cases d<;>simp only[Rep]at h<;>simp only[lf,Zj2]at a<;>first
  |(subst h;rfl)
  |(obtain⟨rfl,_⟩:=h;rfl)
  |(obtain⟨_,rfl⟩:=h;rfl)
  |(obtain⟨_,_,rfl,_⟩:=h;rfl)
  |(obtain⟨_,rfl,_⟩:=h;rfl)
  |(obtain⟨_,_,_,rfl,_⟩:=h;rfl)
  |(obtain⟨_,_,_,_,_,_,rfl,_⟩:=h;rfl)
  |exact A7w h.1.here
  |exact h.elim
theorem Ajo{d:D}(h:(enc c y)[j]? = some d):lf d=true/\∀a xs t,d = .sl a xs t->t = .no:=by
 cases c<;>simp only[enc]at h<;>(rcases j with _|_|_|_|_|_|_|_|_|_|_|_|_|_|_|_|_|_|j<;>simp at h<;>subst h<;>simp[lf])
 all_goals (intros;subst_vars;simp_all)
theorem Bqy{d:D}{v:Value}(h:RF x.S x.w d v)(e:∀c xs t,d = .sl c xs t->t = .no):Rep x d v:=by have f:=h.here;cases f with|int k n g=>exact Dl g|bool b=>exact Bv b|str l i=>exact Lu i|nil c t a cap=>obtain rfl:=e _ _ _ rfl;simp only[Rep];exact⟨h,trivial⟩|sl c xs t b o cap u hle hm hc j=>obtain rfl:=e _ _ _ rfl;simp only[Rep];exact⟨h,trivial⟩
theorem Bc8(h:ElR x c y vs):(agg? c=true->Rep x (ofK c y) (.agg vs.toArray))/\(agg? c=false->∃v,vs=[v]/\Rep x (ofK c y) v):=by
 constructor
 ·intro a;simp only[ofK,a,Rep];exact⟨trivial,vs,rfl,h.1,h.2⟩
 ·intro a;have b:csz c=1:=by cases c<;>simp[agg?]at a<;>rfl
  obtain⟨e,g⟩:=h;rw[b]at e;obtain⟨v,rfl⟩:=List.length_eq_one_iff.1 e;refine⟨v,rfl,?_⟩;have i:∃d,enc c y=[d]:=List.length_eq_one_iff.1 (by rw[B8,b]);obtain⟨d,hd⟩:=i;simp only[ofK,a,hd];obtain⟨u,f,k⟩:=g 0 d (by simp[hd]);simp at f;subst f;exact Bqy k (Ajo (c:=c) (y:=y) (j:=0) (by simp[hd])).2
theorem O1{d:D}{v:Value}(h:toK c d=some y)(a:Rep x d v):ElR x c y v.cells.toList/\(agg? c=true->∃vs,v = .agg vs)/\(agg? c=false->Sx.one v=true):=by
 unfold toK at h;split at h
 ·split at h
  ·rename_i r s hc;subst hc;simp only[Za1]at h;subst h;simp only[Rep]at a;obtain⟨g,vs,rfl,n,a⟩:=a;exact⟨⟨by simpa[Value.cells]using n,by simpa[Value.cells]using a⟩,λ_=>⟨_,rfl⟩,λb=>by rw[g]at b;cases b⟩
  ·cases h
 ·split at h
  ·rename_i ds g;simp only[Rep]at a;obtain⟨_,vs,rfl,a⟩:=a;exact⟨by simpa[Value.cells]using R0 h a,λ_=>⟨_,rfl⟩,λb=>by rw[g]at b;cases b⟩
  ·cases h
 ·rename_i o p;split at h
  ·cases h
  ·rename_i g;have k:lf d=true:=by
    have i:=Bss h;have q:csz c=1:=by cases c<;>simp[agg?]at g<;>rfl
    obtain⟨e,m⟩:=List.length_eq_one_iff.1 ((B8 c y).trans q);rw[m]at i;simp only[WkL]at i;replace i:=i.1;have l:=(Ajo (c:=c) (y:=y) (j:=0) (d:=e) (by simp[m])).1;rcases i with rfl|⟨_,_,_,rfl,_⟩|⟨_,rfl,_⟩
    ·exact l
    ·rfl
    ·rfl
   have f:=Ajy a k;have hc:v.cells.toList=[v]:=by rw[Sx.one_cells f]
   rw[hc];refine⟨R0 h (by simp only[Reps];exact⟨v,[],rfl,a,rfl⟩),λb=>?_,λ_=>f⟩;rw[g]at b;cases b
variable{o:Nat}
theorem At.elR{S:Fp}{b:Nat}(q:x.S=S)(h:∀w',Chg S x.w w'->At w' c y b o):∃vs,ElR x c y vs/\∀(j:Nat) u,vs[j]? = some u->x.w.cell? ⟨b,o+j,none⟩=some u:=by
 subst q;have h0:=h x.w (Chg.refl _ _);have key:∀(n:Nat),n<=csz c->∃vs:Yb1 Value,vs.length=n/\∀(j:Nat) u,vs[j]? = some u->x.w.cell? ⟨b,o+j,none⟩=some u:=by
  intro n;induction n with
  |zero=>intro _;exact⟨[],rfl,by simp⟩
  |succ n ih=>
   intro hn;obtain⟨vs,r,hv⟩:=ih (by omega);obtain⟨u,s,_⟩:=h0 n _ (Zo1 (by rw[B8];omega));refine⟨vs++[u],by simp[r],λj u' g=>?_⟩;rw[List.getElem?_append]at g;split at g
   ·exact hv j u' g
   ·rename_i m;have:j=n:=by
     rcases Nat.lt_or_ge (j-vs.length) 1 with h|h
     ·omega
     ·simp[List.getElem?_eq_none (l:=[u]) (by simpa using h)]at g
    subst this;rw[r]at g;simp at g;subst g;exact s
 obtain⟨vs,r,hv⟩:=key (csz c) (Zn1 _);refine⟨vs,⟨r,λj d hd=>?_⟩,hv⟩;have m:j<vs.length:=by rw[r,<-B8 c y];exact(Zi2.1 hd).1
 refine⟨vs[j],Zo1 m,λw' t=>?_⟩;obtain⟨u,s,hf⟩:=h w' t j d hd;obtain⟨u0,a4,_⟩:=h0 j d hd;have z:=hv j _ (Zo1 m);by_cases q:x.S b (o+j)
 ·exfalso;have hc:Chg x.S x.w (x.w.setCell ⟨b,o+j,none⟩ .nilFunc):=by
   refine⟨rfl,rfl,rfl,by simp[World.setCell],λk _ hn=>Below.heap_setCell _ _ _ _ (λe=>hn (o+j) (by rw[e];exact q)),λb' i v f hn=>?_,Arq _ _ _⟩;by_cases hb:b' = b
   ·subst hb;have hi:i≠o+j:=λe=>hn (e▸q);simp only[World.cell?,World.setCell,Array.getElem?_modify,if_true]at f ⊢;cases hh:x.w.heap[b']? with
    |none=>simp[hh]at f
    |some ob=>
     cases ob<;>simp[hh]at f ⊢
     rw[Array.getElem?_setIfInBounds_ne (Ne.symm hi)];exact f
   ·rw[World.cell?_of_block (a:=⟨b',i,none⟩) (Below.heap_setCell _ _ _ _ hb)];exact f
  obtain⟨u2,p,a3⟩:=h _ hc j d hd;have a2:(x.w.setCell ⟨b,o+j,none⟩ .nilFunc).cell? ⟨b,o+j,none⟩=some .nilFunc:=by
   simp only[World.cell?,World.setCell,Array.getElem?_modify,if_true]at z ⊢;cases hh:x.w.heap[b]? with
   |none=>simp[hh]at z
   |some ob=>
    cases ob<;>simp[hh]at z ⊢
    have:=(Zh2.1 z).1;simp[this]
  rw[a2]at p;simp only[Za1]at p;subst p;cases a3
 ·have:=t.cell b (o+j) _ z q;rw[this]at s;simp only[Za1]at s;rw[s];exact hf
def Ef(x:Vx)(ds:Yb1 D)(vs:Yb1 Value):Prop:=vs.length=ds.length/\∀(j:Nat) d,ds[j]? = some d->∃u,vs[j]? = some u/\Rep x d u
theorem Hf(h:Reps x ds vs):Ef x ds vs:=⟨h.len,λ_ _ hd=>h.get hd⟩
theorem Ef.reps(h:Ef x ds vs):Reps x ds vs:=Reps.mk h.1 λi d v hd hv=>by obtain⟨u,a,b⟩:=h.2 i d hd;rw[hv]at a;simp at a;rw[a];exact b
theorem Il(h:ElR x c y vs):Ef x (enc c y) vs:=⟨by rw[h.1,B8],λj d hd=>by obtain⟨u,a,b⟩:=h.2 j d hd;exact⟨u,a,Bqy b (Ajo hd).2⟩⟩
theorem Bbk(c:Ck)(y:El c):(enc c y).all lf=true:=by rw[Zg2];intro d hd;obtain⟨j,a,rfl⟩:=List.mem_iff_getElem.1 hd;exact(Ajo (Zo1 a)).1
theorem N2{d:D}{v:Value}(h:Rep x d v)(a:lfs d=true):Ef x (cells d) v.cells.toList:=by
 have b:lf d=true->cells d=[d]->Ef x (cells d) v.cells.toList:=λg i=>by
  rw[i,Sx.one_cells (Ajy h g)];exact⟨rfl,λj e k=>by
   cases j with
   |zero=>grind
   |succ j=>simp at k⟩
 cases d with|sv c y=>simp[Rep]at h;obtain⟨_,vs,rfl,a,f⟩:=h;simpa[Value.cells,cells]using Il (x:=x) (c:=c) (y:=y) (vs:=vs) ⟨a,f⟩|agg ds=>simp[Rep]at h;obtain⟨_,vs,rfl,f⟩:=h;simpa[Value.cells,cells]using Hf f|rw c n xs=>simp[lfs,cells,lf]at a|dn c xs=>simp[lfs,cells,lf]at a|tup ds=>simp[lfs,cells,lf]at a|undef=>simp[lfs,cells,lf]at a|junk=>simp[lfs,cells,lf]at a|_=>exact b rfl rfl
theorem Bkt(h:Ef x ds vs)(d:ds.all lf=true):∀v,v∈vs->Sx.one v=true:=by
 intro v hv;obtain⟨j,c,rfl⟩:=List.mem_iff_getElem.1 hv;have a:j<ds.length:=by rw[<-h.1];exact c
 obtain⟨u,b,e⟩:=h.2 j _ (Zo1 a);rw[Zo1 c]at b;simp at b;rw[b];exact Ajy e (Zg2.1 d _ (List.getElem_mem a))
theorem Ef.sub(h:Ef x ds vs)(o n:Nat):Ef x ((ds.drop o).take n) ((vs.drop o).take n):=by
 refine⟨by simp[h.1],λj d hd=>?_⟩;rw[List.getElem?_take]at hd;split at hd
 ·rename_i a;rw[List.getElem?_drop]at hd;obtain⟨u,b,c⟩:=h.2 _ d hd;exact⟨u,by rw[List.getElem?_take,if_pos a,List.getElem?_drop];exact b,c⟩
 ·cases hd
theorem Bxz(h:ds.all lf=true)(o n:Nat):((ds.drop o).take n).all lf=true:=by grind
theorem A2r{t:Ty}{off:Nat}{d:D}(h:part t ds off=some d)(hc:Ef x ds vs)(b:ds.all lf=true) :
  (t.agg? = true->off+t.n<=vs.length/\Rep x d (.agg ((vs.drop off).take t.n).toArray))/\(t.agg? = false->∃u,vs[off]? = some u/\Rep x d u):=by
 unfold part at h;constructor
 ·intro a;rw[a]at h;simp only at h;split at h
  ·rename_i hle;simp at h;subst h;refine⟨by rw[hc.1];simpa using hle,?_⟩;simp only[Rep];exact⟨Bxz b _ _,_,rfl,(hc.sub off t.n).reps⟩
  ·cases h
 ·intro a;rw[a]at h;exact hc.2 off d h
section
variable {P:Program}{el:Ck->TypeId}{tt:Nat->Ty}{t:Nat}{w:World}
theorem Bu5(h:C0 P el tt t=true)(a:tt t ≠ .no)(c:(tt t).agg? = true){b:Nat}(d:vs.length=(tt t).n)(hc:∀(j:Nat) v,vs[j]? = some v->w.cell? ⟨b,o+j,none⟩=some v):(loadVar t ⟨b,o,none⟩).run P w = .ok (.agg vs.toArray) w:=by obtain⟨e,f,g⟩:=D5 h a;exact Sx.run_loadVarn (by simp[e,f,c]) (by rw[g,d]) hc
theorem Aj1(h:C0 P el tt t=true)(a:tt t ≠ .no)(c:(tt t).agg? = false){b:Nat}{v:Value}(hc:w.cell? ⟨b,o,none⟩=some v):(loadVar t ⟨b,o,none⟩).run P w = .ok v w:=by obtain⟨d,e,_⟩:=D5 h a;exact Sx.run_loadVar1 (by simp[d,e,c]) hc
theorem Az7(h:C0 P el tt t=true)(e:tt t ≠ .no){off:Nat}{d:D}{b:Nat}(f:part (tt t) ds off=some d)(hc:Ef x ds vs)(g:ds.all lf=true)(hm:∀(j:Nat) v,vs[j]? = some v->w.cell? ⟨b,o+j,none⟩=some v):∃v,(loadVar t ⟨b,o+off,none⟩).run P w = .ok v w/\Rep x d v:=by
 obtain⟨i,k⟩:=A2r f hc g;cases a:(tt t).agg? with
 |true=>
  obtain⟨q,l⟩:=i a;refine⟨_,Bu5 h e a (vs:=(vs.drop off).take (tt t).n) (by simp;omega) λj v c=>?_,l⟩;rw[List.getElem?_take]at c;split at c
  ·grind
  ·cases c
 |false=>obtain⟨u,m,p⟩:=k a;exact⟨u,Aj1 h e a (hm off u m),p⟩
theorem Bes(h:C0 P el tt t=true)(f:tt t ≠ .no){b:Nat}(e:(tt t).n=csz c)(a:(tt t).agg? = agg? c)(g:ElR x c y vs)(hm:∀(j:Nat) v,vs[j]? = some v->w.cell? ⟨b,o+j,none⟩=some v):∃v,(loadVar t ⟨b,o,none⟩).run P w = .ok v w/\Rep x (ofK c y) v:=by obtain⟨i,k⟩:=Bc8 g;cases d:agg? c with|true=>exact⟨_,Bu5 h f (by rw[a,d]) (by rw[g.1,e]) hm,i d⟩|false=>obtain⟨v,rfl,l⟩:=k d;exact⟨v,Aj1 h f (by rw[a,d]) (by simpa using hm 0 v (by simp)),l⟩
end
section
variable {R:Type}{px:Px R}{cx:Cx}{m:Mp}{a:Act}{as_:Yb1 Act}{s:FS}{w:World}
theorem E9{t:Ty}(h:t.known=true):t ≠ .no/\t ≠ .map:=by cases t<;>simp[Ty.known]at h<;>simp
def Ahs(_px:Px R)(bl:Nat->Ya1 Blk)(t:Ty):D->Ya1 D
 |.ep c x off=>match Nat.beq off 0&&Nat.beq t.n (csz c)&&(t.agg? == agg? c)with|true=>some (ofK c x)|false=>part t (enc c x) off
 |.ptr b off=>match bl b with
  |some (.cells ds)=>part t ds off
  |some (.box c x)=>match Nat.beq off 0&&Nat.beq t.n (csz c)&&(t.agg? == agg? c)with|true=>some (ofK c x)|false=>part t (enc c x) off
  |some (.bld _ d)=>match Nat.beq off 1 && !t.agg? with|true=>some d|false=>none
  |_=>none
 |.rp b c0 n0 i=>match bl b with
  |some (.row c n xs)=>match Nat.beq t.n (csz c)&&(t.agg? == agg? c)&&decide (c0=c)&&Nat.beq n0 n with|true=>some (ofK c (at' c xs i))|false=>none
  |_=>none
 |_=>none
theorem Bc6(st:St)(t:Ty)(d:D):load px st t d=Ahs px (blk st.bl) t d:=by cases d<;>rfl
variable{i:Int}
theorem Aag{xs:Yb1 (El c)}(h : 0<=i/\i<(xs.length:Int)):xs[i.toNat]? = some (at' c xs i):=by
 have:i.toNat<xs.length:=by omega
 simp[at',this]
theorem M4{t:TypeId}{b:Nat}(h:w.heap[b]? = some (.cells vs.toArray t (0,0))):∀(j:Nat) v,vs[j]? = some v->w.cell? ⟨b,0+j,none⟩=some v:=λj v hv=>by simp[World.cell?,h];simpa using hv
variable{P:Program}{el:Ck->TypeId}{tt:Nat->Ty}
theorem B2g(h:C0 P el tt t=true)(k:tt t ≠ .no){xs:Yb1 (El c)}{ty:TypeId}(e:(tt t).n=csz c)(f:(tt t).agg? = agg? c)(l:w.heap[β]? = some (.cells vs.toArray ty (0,0)))(g:xs.length*csz c<=vs.length)(a:∀i y j d,xs[i]? = some y->(enc c y)[j]? = some d->∃u,vs[i*csz c+j]? = some u/\RF x.S x.w d u)(hi : 0<=i/\i<(xs.length:Int)):∃u,(loadVar t ⟨β,i.toNat*csz c,none⟩).run P w = .ok u w/\Rep x (ofK c (at' c xs i)) u:=by
 refine Bes h k (vs:=(vs.drop (i.toNat*csz c)).take (csz c)) e f ⟨?_,λj d hd=>?_⟩ λj v b=>?_
 ·have:i.toNat*csz c+csz c<=xs.length*csz c:=by rw[<-Nat.succ_mul];exact Nat.mul_le_mul_right _ (by omega)
  simp;omega
 ·obtain⟨u,m,o⟩:=a _ _ j d (Aag hi) hd;have b:j<csz c:=by rw[<-B8 c (at' c xs i)];exact(Zi2.1 hd).1
  exact⟨u,by rw[List.getElem?_take,if_pos b,List.getElem?_drop];exact m,o⟩
 ·rw[List.getElem?_take]at b;split at b
  ·rw[List.getElem?_drop]at b;have:=M4 l _ v b;rwa[Nat.zero_add]at this
  ·cases b
theorem Awn(hp:PxOk cx px)(hr:Rel cx m a as_ s w)(hk:(px.tt t).known=true){p d:D}{v:Value}(h:Ahs px s.bl (px.tt t) p=some d)(hv:Rep (vx cx m s w) p v):∃u,(Instr.loadAt t v).run cx.P w = .ok u w/\Rep (vx cx m s w) d u:=by
 have q:=hp.tt t;obtain⟨r,hg⟩:=E9 hk;have done:∀b o,v = .pointer (some ⟨b,o,none⟩)->(∃u,(loadVar t ⟨b,o,none⟩).run cx.P w = .ok u w/\Rep (vx cx m s w) d u)->∃u,(Instr.loadAt t v).run cx.P w = .ok u w/\Rep (vx cx m s w) d u:=by rintro b o rfl ⟨u,h1,h2⟩;exact⟨u,by simp[Instr.loadAt,Instr.sureAddr,h1],h2⟩
 unfold Ahs at h;split at h
 ·rename_i c y off;simp[Rep]at hv;obtain⟨b,o,hv,a3⟩:=hv;obtain⟨vs,e,hm⟩:=At.elR rfl a3;refine done b (o+off) hv ?_;split at h
  ·rename_i hb;simp only[Zb1,beq_iff_eq]at hb;simp at h;subst h;have h0:off=0:=Zl1 hb.1.1;subst h0;exact Bes q r (Zl1 hb.1.2) hb.2 e hm
  ·exact Az7 q r h (Il e) (Bbk c y) hm
 ·rename_i b off;simp[Rep]at hv;split at h
  ·rename_i ds hb;obtain⟨_,hl,vs,ty,g,f⟩:=hr.blks b _ hb;have:=Az7 (x:=vx cx m s w) (w:=w) (b:=m.bl b) (o:=0) q r h (Hf f) hl (M4 g);rw[Nat.zero_add]at this;exact done _ _ hv.2 this
  ·rename_i c y hb;obtain⟨_,_,vs,ty,g,l,e⟩:=hr.blks b _ hb;have e:ElR (vx cx m s w) c y vs:=⟨l,e⟩;refine done _ _ hv.2 ?_;split at h
   ·rename_i k;simp only[Zb1,beq_iff_eq]at k;simp at h;subst h;have h0:off=0:=Zl1 k.1.1;subst h0;exact Bes q r (Zl1 k.1.2) k.2 e (M4 g)
   ·have:=Az7 (x:=vx cx m s w) (w:=w) (b:=m.bl b) (o:=0) q r h (Il e) (Bbk c y) (M4 g);rw[Nat.zero_add]at this;exact this
  ·rename_i T d0 hb;obtain⟨_,a0,v0,g,_,a2⟩:=(hr.blks b _ hb).2;have g:w.heap[m.bl b]? = some (.cells #[a0,v0] T (0,0)):=g;split at h
   ·rename_i hc;simp only[Zb1,Bool.not_eq_true']at hc;obtain rfl:=Zl1 hc.1;simp at h;subst h;have a4:w.heap[(vx cx m s w).m.bl b]? = some (.cells #[a0,v0] T (0,0)):=g;exact done _ _ hv.2 ⟨v0,Aj1 q r hc.2 (by simp[World.cell?,a4]),a2⟩
   ·cases h
  ·cases h
 ·rename_i b c0 n0 i;simp[Rep]at hv;split at h
  ·rename_i c n xs hb;split at h
   ·rename_i hk;simp only[Zb1,beq_iff_eq,Zg1]at hk;obtain⟨⟨⟨h1,h2⟩,rfl⟩,h4⟩:=hk;have h4:=Zl1 h4;subst h4;simp at h;subst h;obtain⟨_,a5,vs,ty,g,l,f⟩:=hr.blks b _ hb;have hi : 0<=i/\i<(xs.length:Int):=by rw[a5];exact hv.2.2
    refine done _ _ hv.2.1 (Bes q r (vs:=(vs.drop (i.toNat*csz c0)).take (csz c0)) (Zl1 h1) h2 ⟨?_,λj d hd=>?_⟩ λj v z=>?_)
    ·have:i.toNat*csz c0+csz c0<=xs.length*csz c0:=by rw[<-Nat.succ_mul];exact Nat.mul_le_mul_right _ (by omega)
     simp;omega
    ·obtain⟨u,hu,hf⟩:=f _ _ j d (Aag hi) hd;have z:j<csz c0:=by rw[<-B8 c0 (at' c0 xs i)];exact(Zi2.1 hd).1
     exact⟨u,by rw[List.getElem?_take,if_pos z,List.getElem?_drop];exact hu,hf⟩
    ·rw[List.getElem?_take]at z;split at z
     ·rw[List.getElem?_drop]at z;have:=M4 g _ v z;rwa[Nat.zero_add]at this
     ·cases z
   ·cases h
  ·cases h
 ·cases h
end
variable{P:Program}
theorem A8n{t:TypeId}(h:Bdy P t=true):∃k,P.underlying t=some (.int k):=by
 unfold Bdy at h;split at h
 ·grind
 ·cases h
variable{f:Field}{k:IntKind}{r:Bool}{xs:Array Value}{ys:Array Value}
theorem Blj{l:Yb1 Field}{a b:Int}(c:(f.name == "_")=false)(d:Bdy P f.type=true)(e:xs[f.offset]? = some (.int k a))(g:ys[f.offset]? = some (.int k b))(h:Sx.eqRow P xs ys l=some r):Sx.eqRow P xs ys (f::l)=some (decide (a=b)&&r):=by
 obtain⟨j,i⟩:=A8n d;simp only[Sx.eqRow,c,i,e,g,h,Sx.sameI]
 grind
theorem Bk7{l:Yb1 Field}{a b:Str}(c:(f.name == "_")=false)(d:Sx.tyS P f.type=true)(e:xs[f.offset]? = some (.string ⟨a.toArray⟩))(g:ys[f.offset]? = some (.string ⟨b.toArray⟩))(h:Sx.eqRow P xs ys l=some r):Sx.eqRow P xs ys (f::l)=some (decide (a=b)&&r):=by simp[Sx.eqRow,c,Sx.tyS_spec d,e,g,h]
theorem Bbe{l:Yb1 Field}{a b:Bool}(c:(f.name == "_")=false)(d:Sx.tyB P f.type=true)(e:xs[f.offset]? = some (.bool a))(g:ys[f.offset]? = some (.bool b))(h:Sx.eqRow P xs ys l=some r):Sx.eqRow P xs ys (f::l)=some (decide (a=b)&&r):=by
 simp[Sx.eqRow,c,Sx.tyB_spec d,e,g,h]
 grind
def Adt:Yb1 D->Yb1 D->Ya1 Bool
 |[],[]=>some true
 |.int k a::l,.int k' b::m=>match decide (k=k'),Adt l m with|true,some r=>some (decide (a=b)&&r)|_,_=>none
 |.str a::l,.str b::m=>match Adt l m with|some r=>some (decide (a=b)&&r)|none=>none
 |.bool a::l,.bool b::m=>match Adt l m with|some r=>some (decide (a=b)&&r)|none=>none
 |_,_=>none
def kOf:D->Nat|.int _ _=>0|.str _=>1|_=>2
theorem A18{P:Program}{x:Vx}{xs ys:Array Value}:∀(fds:Yb1 Field) (t:Yb1 Nat) (i:Nat) (l m:Yb1 D) (r:Bool),fkB P i fds t=true->t=l.map kOf->Adt l m=some r ->
  (∀(j:Nat) d,l[j]? = some d->∃v,xs[i+j]? = some v/\Rep x d v)->(∀(j:Nat) d,m[j]? = some d->∃v,ys[i+j]? = some v/\Rep x d v)->Sx.eqRow P xs ys fds=some r
 |[],[],i,l,m,r,_,hk,he,_,_=>by
  have:l=[]:=by cases l<;>simp at hk;rfl
  subst this;cases m with|nil=>simp[Adt]at he;subst he;rfl|cons d m=>cases d<;>simp[Adt]at he
 |f::fds,k::t,i,[],m,r,_,hk,_,_,_=>by simp at hk
 |f::fds,k::t,i,d::l,[],r,_,_,he,_,_=>by cases d<;>simp[Adt]at he
 |f::fds,k::t,i,d::l,e::m,r,hf,hk,he,hx,hy=>by
  simp only[fkB,Zb1,beq_iff_eq,Bool.not_eq_true']at hf;obtain⟨⟨⟨h1,h2⟩,w⟩,h4⟩:=hf;simp[Zw1]at hk;obtain⟨v,hv,p⟩:=hx 0 d (by simp);obtain⟨u,z,q⟩:=hy 0 e (by simp);rw[Nat.add_zero,<-h2]at hv z;have o:∀s,Adt l m=some s->Sx.eqRow P xs ys fds=some s:=λs n=>A18 fds t (i+1) l m s h4 hk.2 n (λj d hd=>by have:=hx (j+1) d (by simpa using hd);rwa[show i+(j+1)=i+1+j by omega]at this) (λj d hd=>by have:=hy (j+1) d (by simpa using hd);rwa[show i+(j+1)=i+1+j by omega]at this)
  unfold Adt at he;split at he
  ·rename_i a2 _;cases a2
  ·rename_i k1 a l1 k2 b m1 c g;obtain⟨rfl,rfl⟩:=c;obtain⟨rfl,rfl⟩:=g;split at he
   ·rename_i s y n;simp at y;subst y;simp at he;subst he;obtain rfl:=Rep.int p;obtain rfl:=Rep.int q;rw[hk.1]at w;exact Blj h1 w hv z (o _ n)
   ·cases he
  ·rename_i a l1 b m1 c g;obtain⟨rfl,rfl⟩:=c;obtain⟨rfl,rfl⟩:=g;split at he
   ·rename_i s n;simp at he;subst he;obtain rfl:=Rep.str p;obtain rfl:=Rep.str q;rw[hk.1]at w;exact Bk7 h1 w hv z (o _ n)
   ·cases he
  ·rename_i a l1 b m1 c g;obtain⟨rfl,rfl⟩:=c;obtain⟨rfl,rfl⟩:=g;split at he
   ·rename_i s n;simp at he;subst he;obtain rfl:=Rep.bool p;obtain rfl:=Rep.bool q;rw[hk.1]at w;exact Bbe h1 w hv z (o _ n)
   ·cases he
  ·cases he
 |[],_::_,_,_,_,_,h,_,_,_,_=>by simp[fkB]at h
 |_::_,[],_,_,_,_,h,_,_,_,_=>by simp[fkB]at h
theorem B4b{a b:El c}(h:eqK c a b=some r):∃d,Bcp c=some d/\d=(enc c a).map kOf/\Adt (enc c a) (enc c b)=some r:=by
 unfold eqK at h;split at h
 ·rename_i a b;simp at h;subst h;refine⟨_,rfl,rfl,?_⟩;simp[enc,Adt,Bool.and_true];cases a;cases b;simp
 ·rename_i a b;simp at h;subst h;refine⟨_,rfl,rfl,?_⟩;simp[enc,Adt,Bool.and_true];cases a;cases b;simp
 ·rename_i a b;simp at h;subst h;refine⟨_,rfl,rfl,?_⟩;simp[enc,Adt,Bool.and_true];cases a;cases b;simp
 ·cases h
variable{el:Ck->TypeId}{tt:Nat->Ty}{u:Value}
theorem A6h{vx:Vx}{a b:D}{v:Value}(p:C0 P el tt t=true)(h:Bw7 (tt t) a b=some r)(q:Rep vx a u)(hb:Rep vx b v):Sx.stOk P t=true/\∃xs ys,u = .agg xs/\v = .agg ys/\Sx.eqRow P xs ys (P.fieldsOf t).toList=some r:=by
 unfold Bw7 at h;split at h
 ·rename_i c l z g;split at h
  ·rename_i x s;split at h
   ·rename_i y w;obtain⟨o,f,i,k⟩:=B4b h;obtain⟨fds,hu,_,m⟩:=A0k p g;obtain⟨h1,h2⟩:=m c o rfl f;have e:agg? c=true:=by cases c<;>simp[Bcp]at f<;>rfl
    obtain⟨e1,ea,_⟩:=O1 s q;obtain⟨e2,eb,_⟩:=O1 w hb;obtain⟨xs,rfl⟩:=ea e;obtain⟨ys,rfl⟩:=eb e;refine⟨h1,xs,ys,rfl,rfl,?_⟩;have n:P.fieldsOf t=fds:=by simp[Program.fieldsOf,hu]
    rw[n];have g1:=(Il e1).2;have g2:=(Il e2).2;simp[Value.cells]at g1 g2;refine A18 (x:=vx) fds.toList o 0 (enc c x) (enc c y) r h2 i k (λj d hd=>?_) (λj d hd=>?_)
    ·grind
    ·grind
   ·cases h
  ·cases h
 ·cases h
theorem Arj(d:Nat){t e:TypeId}{a:Ya1 Addr}{n c:Nat}(b:P.underlying t=some (.slice e)):(Op.equalIn (d+1) t (.slice a n c) (.slice none 0 0)).run P w = .ok a.isNone w:=by cases a<;>simp[Op.equalIn,Sem.run_bind,run_underlying b,Sem.run_pure]
theorem Ag8{t e:TypeId}{a:Ya1 Addr}{n c:Nat}(b:P.underlying t=some (.slice e)):(Op.equal t (.slice a n c) (.slice none 0 0)).run P w = .ok a.isNone w:=Arj 9999 b
theorem Blb{d:D}(h:Bae d=true):∃c,d = .sl c [] .nil:=by
 unfold Bae at h;split at h
 ·exact⟨_,rfl⟩
 ·cases h
variable{op:BinOp}{t':Nat}
theorem Boz{e:Sx.Env}{x y:Operand}{c:Bool}{b d:D}{c0:Ck}{xs:Yb1 (El c0)}{tk:Tk}{v:Value}{vx:Vx}(p:C0 P el tt t=true)(h:B3r op (tt t) xs.isEmpty tk b=some (c,d))(hc:c=true)(m:Sx.Env.ev e x=some u)(n:Sx.Env.ev e y=some v)(k:Rep vx (.sl c0 xs tk) u)(hb:Rep vx b v):∃r,Sx.Pure P e (.binOp op t x y t') r/\Rep vx d r:=by
 unfold B3r at h;split at h
 ·rename_i c1 l;obtain⟨_,s,_,_⟩:=C8 p l;have o:=s.und;split at h
  ·rename_i z;obtain⟨c2,rfl⟩:=Blb z;simp[Rep]at k hb;obtain⟨_,rfl,_⟩:=hb;obtain⟨a,cap,rfl,a2⟩:=k.1.here.slice;have f:xs.isEmpty=false->a.isNone=false:=λj=>by grind
   have key:∀q,a.isNone=q->(∃r,Sx.Pure P e (.binOp .eql t x y t') r/\Rep vx (.bool q) r)/\∃r,Sx.Pure P e (.binOp .neq t x y t') r/\Rep vx (.bool (!q)) r:=λq g=>
    ⟨⟨_,Sx.p_bin m n (λw=>rfl) (λw=>by rw[show binOp .eql t (.slice a xs.length cap) (.slice none 0 0)=(do pure (.bool (<-Op.equal t (.slice a xs.length cap) (.slice none 0 0)))) from rfl,Sem.run_bind,Ag8 o,g];rfl),Bv _⟩,
    ⟨_,Sx.p_bin m n (λw=>rfl) (λw=>by rw[show binOp .neq t (.slice a xs.length cap) (.slice none 0 0)=(do pure (.bool (!(<-Op.equal t (.slice a xs.length cap) (.slice none 0 0))))) from rfl,Sem.run_bind,Ag8 o,g];rfl),Bv _⟩⟩
   have mark:∀q,Bsv tk=some q->xs.isEmpty=true->a.isNone=q:=λq g j=>by obtain rfl:xs=[]:=List.isEmpty_iff.1 j;have h2:=k.2;unfold Bsv at g;split at g<;>simp only[Za1,reduceCtorEq]at g<;>subst g<;>simp[TkR]at h2<;>grind
   split at h<;>simp[ reduceCtorEq]at h
   ·obtain⟨i,rfl⟩:=h;rw[hc]at i;exact(key _ (f (by simpa using i))).1
   ·obtain⟨i,rfl⟩:=h;rw[hc]at i;exact(key _ (f (by simpa using i))).2
   ·rename_i q g;obtain⟨i,rfl⟩:=h;rw[hc]at i;exact(key _ (mark q g (by simpa using i))).1
   ·rename_i q g;obtain⟨i,rfl⟩:=h;rw[hc]at i;exact(key _ (mark q g (by simpa using i))).2
  ·cases h
 ·cases h
theorem Amz(d:Nat){t e:TypeId}{a:Ya1 Addr}(b:P.underlying t=some (.pointer e)):(Op.equalIn (d+1) t (.pointer a) (.pointer none)).run P w = .ok a.isNone w:=by cases a<;>simp[Op.equalIn,Sem.run_bind,run_underlying b,Sem.run_pure]
theorem A2y{e:Sx.Env}{x y:Operand}{c:Bool}{a b d:D}{v:Value}{vx:Vx}(o:C0 P el tt t=true)(h:Byw op (tt t) a b=some (c,d))(m:Sx.Env.ev e x=some u)(n:Sx.Env.ev e y=some v)(f:Rep vx a u)(hb:Rep vx b v):∃r,Sx.Pure P e (.binOp op t x y t') r/\Rep vx d r:=by
 unfold Byw at h;split at h
 ·rename_i k;obtain⟨e0,s⟩:=Bq8 o k;split at h
  ·rename_i q j g;have hv:v = .pointer none:=by
    unfold Bgx at g;split at g
    ·simpa[Rep]using hb
    ·cases g
   subst hv;have l:∃p,u = .pointer p/\p.isNone=q:=by
    unfold Bpy at j;split at j<;>simp only[Za1,reduceCtorEq]at j<;>subst j<;>simp only[Rep]at f
    ·exact⟨_,f,rfl⟩
    ·exact⟨_,f.2,rfl⟩
    ·obtain⟨_,_,e,_⟩:=f;exact⟨_,e,rfl⟩
    ·exact⟨_,f,rfl⟩
    ·exact⟨_,f.2.1,rfl⟩
    ·exact⟨_,f.2.1,rfl⟩
   obtain⟨p,rfl,z⟩:=l;have i:∀w,(Op.equal t (.pointer p) (.pointer none)).run P w = .ok q w:=λw=>by rw[<-z];exact Amz 9999 s
   split at h<;>simp[ reduceCtorEq]at h
   ·obtain⟨_,rfl⟩:=h;exact⟨_,Sx.p_bin m n (λw=>rfl) (λw=>by rw[show binOp .eql t (.pointer p) (.pointer none)=(do pure (.bool (<-Op.equal t (.pointer p) (.pointer none)))) from rfl,Sem.run_bind,i];rfl),Bv _⟩
   ·obtain⟨_,rfl⟩:=h;exact⟨_,Sx.p_bin m n (λw=>rfl) (λw=>by rw[show binOp .neq t (.pointer p) (.pointer none)=(do pure (.bool (!(<-Op.equal t (.pointer p) (.pointer none))))) from rfl,Sem.run_bind,i];rfl),Bv _⟩
  ·cases h
 ·cases h
theorem Bz1{e:Sx.Env}{x y:Operand}{c:Bool}{a b d:D}{v:Value}{vx:Vx}(n:C0 P el tt t=true)(h:bin op (tt t) a b=some (c,d))(hc:c=true)(f:Sx.Env.ev e x=some u)(g:Sx.Env.ev e y=some v)(i:Rep vx a u)(hb:Rep vx b v):∃r,Sx.Pure P e (.binOp op t x y t') r/\Rep vx d r:=by
 unfold bin at h;split at h
 ·rename_i k p;obtain rfl:=Rep.int i;split at h
  ·rename_i k' q;obtain rfl:=Rep.int hb;split at h
   ·simp[ Zp1]at h;obtain⟨j,rfl⟩:=h;subst hc;refine⟨_,Sx.p_shl f g (by simpa using j),Dl (Aa6 _ _)⟩
   ·simp[ Zp1]at h;obtain⟨j,rfl⟩:=h;subst hc;exact⟨_,Sx.p_shr f g (by simpa using j),Dl (B25 i.u8)⟩
   ·split at h
    ·rename_i hk;simp at hk;subst hk;exact Bro h hc f g i.u8 hb.u8
    ·cases h
  ·cases h
 ·rename_i l;obtain rfl:=Rep.str i;split at h
  ·rename_i m;obtain rfl:=Rep.str hb;exact Bu1 h hc f g
  ·cases h
 ·rename_i p;obtain rfl:=Rep.bool i;split at h
  ·rename_i q;obtain rfl:=Rep.bool hb;split at h
   ·rename_i s;have o:=Aef n s;split at h<;>simp[ reduceCtorEq]at h
    ·obtain⟨_,rfl⟩:=h;exact⟨_,Sx.p_eqlb o f g,Bv _⟩
    ·obtain⟨_,rfl⟩:=h;exact⟨_,Sx.p_neqb o f g,Bv _⟩
   ·cases h
  ·cases h
 ·rename_i c0 xs tk;exact Boz n h hc f g i hb
 ·split at h
  ·split at h
   ·rename_i r w;simp[ Zp1]at h;obtain⟨_,rfl⟩:=h;obtain⟨j,xs,ys,rfl,rfl,z⟩:=A6h n w i hb;exact⟨_,Sx.p_eqst j f g z,Bv _⟩
   ·exact A2y n h f g i hb
  ·split at h
   ·rename_i r w;simp[ Zp1]at h;obtain⟨_,rfl⟩:=h;obtain⟨j,xs,ys,rfl,rfl,z⟩:=A6h n w i hb;exact⟨_,Sx.p_neqst j f g z,Bv _⟩
   ·exact A2y n h f g i hb
  ·cases h
end Go.Ax
namespace Go.Ax
abbrev Yc1:Sg:=.int .i64
abbrev Yd1:Sg:=.sv .expr
abbrev Ye1:Sg:=.sl .expr false
abbrev Yf1:Sg:=.sl .str false
abbrev Yg1:Sg:=.sv .stmt
abbrev Yh1:Sg:=.sv .tbl
abbrev Yi1:Sg:=.sv .val
abbrev Yj1:Sg:=.sl .val false
abbrev Yk1:Sg:=.sl .col false
abbrev Yl1:Sg:=.sl .byte false
abbrev Ym1:Sg:=.sl .bool false
abbrev Yn1:Sg:=.sl .exprs false
abbrev Yo1:Sg:=.sl .set false
end Go.Ax
