/- Texts of the proof,one behind the other: AxA,AxB,AxC,SxA,SxB,SxC,SxD,SxE,SxF,SxG,SxH,SxI,SxJ,AxD,AxE,AxF,AxG,AxH. -/
import Derived.WalkKit
import Derived.WalkSpells
import Derived.WalkLawsBesides
import Derived.MapKept
import Derived.Laws.IdiomStrings
import Derived.Still
import Derived.Laws.StructEq
import Derived.CallsIn
import Derived.RangeFuncRecord
set_option linter.all false
open List renaming length->I,replicate->eK,range->dy,mem_append->fM,getElem_mem->fo,getElem?_take->fQ
open Option renaming some->J,none->ah
open Bool renaming true->ae,false->ai
open Decidable renaming decide->aa
open Go.Sem renaming run_bind->dG,run_pure->eW
open UInt8 renaming ofNat->bj
open Nat renaming beq->bV,ble->dz,blt->ec,le_trans->e2,zero_le->cp
open BitVec renaming ofInt->fO
open Go.Region renaming ready->hM
open Go.Result renaming andThen_ok->fg
open Go.Fence renaming wide->gK
open Go renaming Value->aA,run_underlying->eX,IntKind->b',Operand->ct,Builtin->fP,Oper->bw,World->aK,TypeId->bD,maxLen->c5,Program->cx,execOp->cl
namespace Go
theorem ag{p:Prop}(h:p:=by omega):p:=h
theorem dh{p:Prop}(h:p:=by simp;omega):p:=h
theorem Gb{p:Prop}(h:p:=by rw[<-Nat.succ_mul];exact Nat.mul_le_mul_right _ (by omega)):p:=h
theorem aeo{p:Prop}(h:p:=by intro r q;cases r with|slice a l c=>cases a<;>simp[e7.dI,aA.ownBlock,eq_comm]|_=>simp[e7.dI,aA.ownBlock]):p:=h
theorem nk{p:Prop}(h:p:=by simpa using h1):p:=h
theorem n1{p:Prop}(h:p:=by simpa using h):p:=h
theorem qh{p:Prop}(h:p:=by simpa using bB):p:=h
theorem jk{p:Prop}(h:p:=by grind):p:=h
theorem qi{p:Prop}(h:p:=by simpa using b):p:=h
theorem aex{p:Prop}(h:p:=by simp[Instr.sliceBounds,Instr.sliceBound,asIntOf,if_pos h]):p:=h
theorem tB{p:Prop}(h:p:=by simpa using d):p:=h
theorem xd{p:Prop}(h:p:=by simpa using ao):p:=h
theorem rG{p:Prop}(h:p:=by rw[aj];rfl):p:=h
theorem xg{p:Prop}(h:p:=by simpa using g):p:=h
theorem aeE{p:Prop}(h:p:=by simp only[aB];exact⟨trivial,h⟩):p:=h
theorem GT{p:Prop}(h:p:=by simp[e7.dI]):p:=h
theorem rH{p:Prop}(h:p:=by simp[a]):p:=h
theorem Gu{p:Prop}(h:p:=by simpa using aE):p:=h
theorem Gx{p:Prop}(h:p:=by simpa using j):p:=h
theorem tL{p:Prop}(h:p:=by simp[e]):p:=h
theorem Gy{p:Prop}(h:p:=by cases c<;>rfl):p:=h
theorem Gz{p:Prop}(h:p:=by simpa using i):p:=h
end Go
namespace Go
theorem AC{p:Prop}(h:p:=by simp at h;subst h;rfl):p:=h
theorem vD{p:Prop}(h:p:=by exact⟨by simp[aB],rfl⟩):p:=h
theorem vE{p:Prop}(h:p:=by simp[binOp,Op.intCmp]):p:=h
theorem Dp{p:Prop}(h:p:=by simp at h;subst h;simp[aB]):p:=h
theorem Kv{p:Prop}(h:p:=by simp[enc,nT,Bool.and_true];cases a;cases b;simp):p:=h
theorem N2{p:Prop}(h:p:=by exact⟨by simp[aB];exact⟨λ_ _=>.nil _ _ _ _ trivial,by simp[qJ]⟩,rfl⟩):p:=h
theorem N3{p:Prop}(h:p:=by unfold eL at h;rw[a]at h;simp at h;exact h.2):p:=h
theorem _x{p:Prop}(h:p:=by have:=ay.symm.trans h3;simp at this;obtain⟨rfl,_⟩:=this;simp[aA.ownBlock]at cP;exact .inr ag):p:=h
theorem ad2{p:Prop}(h:p:=by cases a<;>simp[Op.equalIn,dG,eX b,eW]):p:=h
theorem ad5{p:Prop}(h:p:=by simp[gv,b'.min,b'.max,b'.signed,b'.bits];omega):p:=h
end Go
namespace Go
abbrev af:=Option
abbrev U:=List
theorem c4:type_of% @Option.some.injEq:=@Option.some.injEq
theorem bx:type_of% @Bool.and_eq_true:=@Bool.and_eq_true
theorem bZ:type_of% @Option.bind_some:=@Option.bind_some
theorem bl:type_of% @decide_eq_false:=@decide_eq_false
theorem aY:type_of% @decide_eq_true:=@decide_eq_true
theorem dm:type_of% @List.length_cons:=@List.length_cons
theorem dM:type_of% @decide_eq_true_eq:=@decide_eq_true_eq
theorem dc:type_of% @List.length_append:=@List.length_append
theorem hn:type_of% @List.length_nil:=@List.length_nil
theorem fI:type_of% @List.append_assoc:=@List.append_assoc
theorem g0:type_of% @List.drop_eq_nil_of_le:=@List.drop_eq_nil_of_le
theorem cU:type_of% @Nat.eq_of_beq_eq_true:=@Nat.eq_of_beq_eq_true
theorem pv:type_of% @Nat.not_lt_zero:=@Nat.not_lt_zero
theorem b2:type_of% @Nat.le_refl:=@Nat.le_refl
theorem ho:type_of% @List.getElem?_eq_getElem:=@List.getElem?_eq_getElem
theorem iH:type_of% @Prod.mk.injEq:=@Prod.mk.injEq
theorem gH:type_of% @List.drop_zero:=@List.drop_zero
theorem ot:type_of% @List.mem_cons_self:=@List.mem_cons_self
theorem jd:type_of% @Bool.not_false:=@Bool.not_false
theorem dj:type_of% @Bool.not_true:=@Bool.not_true
theorem nE:type_of% @List.mem_cons_of_mem:=@List.mem_cons_of_mem
theorem et:type_of% @List.all_cons:=@List.all_cons
theorem e0:type_of% @List.map_cons:=@List.map_cons
theorem gy:type_of% @Nat.lt_of_lt_of_le:=@Nat.lt_of_lt_of_le
theorem hH:type_of% @decide_eq_decide:=@decide_eq_decide
theorem mX:type_of% @List.flatten_cons:=@List.flatten_cons
theorem iu:type_of% @List.length_drop:=@List.length_drop
theorem gY:type_of% @List.cons_append:=@List.cons_append
theorem nD:type_of% @List.drop_length:=@List.drop_length
theorem k_:type_of% @Bool.or_eq_true:=@Bool.or_eq_true
theorem gZ:type_of% @List.cons.injEq:=@List.cons.injEq
theorem ib:type_of% @List.nil_append:=@List.nil_append
theorem cX:type_of% @List.all_eq_true:=@List.all_eq_true
theorem gG:type_of% @Array.getElem?_eq_some_iff:=@Array.getElem?_eq_some_iff
theorem hG:type_of% @List.getElem?_eq_some_iff:=@List.getElem?_eq_some_iff
theorem mW:type_of% @Bool.false_eq_true:=@Bool.false_eq_true
theorem k':type_of% @Array.getElem?_eq_getElem:=@Array.getElem?_eq_getElem
theorem yZ:type_of% @Option.map_some:=@Option.map_some
end Go
namespace Go.dS
abbrev ar:=U UInt8
structure aH where
 kind:Int
 n:Int
 s:ar
 deriving DecidableEq
structure Tok where
 kind:Int
 pos:Int
 s:ar
 n:Int
 deriving DecidableEq
structure cW where
 name:ar
 kind:Int
 IW:Bool
 unique:Bool
 ref:ar
 deriving DecidableEq
inductive bh where
 |mk (kind:Int) (v:aH) (name:ar) (l:List bh)
def bh.kind:bh->Int|.mk k _ _ _=>k
def bh.v:bh->aH|.mk _ v _ _=>v
def bh.name:bh->ar|.mk _ _ n _=>n
def bh.l:bh->U bh|.mk _ _ _ l=>l
structure awL where
 minus:Bool
 d:List Int
structure kE where
 name:ar
 e:bh
structure b4 where
 kind:Int
 name:ar
 on:ar
 al:List cW
 names:List ar
 l:List bh
 rows:List (List bh)
 b8:List kE
 has:Bool
 ej:bh
 order:List ar
 desc:List Bool
 ca:Int
structure awH where
 pos:Int
 bad:Bool
 deriving DecidableEq
structure awQ where
 sign:ar
 kind:Int
 deriving DecidableEq
structure c3 where
 name:ar
 al:List ar
structure bU where
 name:ar
 al:List cW
 key:List ar
 e9:List bh
 idx:List c3
inductive bs where
 |mk (kind:Int) (path:List UInt8) (has:Bool) (val:List UInt8) (kids:List bs) (hash:List UInt8)
def bs.kind:bs->Int|.mk k _ _ _ _ _=>k
def bs.path:bs->U UInt8|.mk _ p _ _ _ _=>p
def bs.has:bs->Bool|.mk _ _ h _ _ _=>h
def bs.val:bs->U UInt8|.mk _ _ _ v _ _=>v
def bs.kids:bs->U bs|.mk _ _ _ _ l _=>l
def bs.hash:bs->U UInt8|.mk _ _ _ _ _ h=>h
structure b7 where
 key:List UInt8
 val:List UInt8
structure iO where
 l:List b7
 e:Int
structure iP where
 low:List UInt8
 high:List UInt8
 op:Bool
structure awG where
 kind:Int
 p:b7
structure Hk where
 rows:List (List aH)
 n:Int
structure awN where
 e:Int
 pos:Int
 l:List Hk
inductive b1 where
 |byte|int|u64|str|bool|val|tok|cO|expr|num|ep|exprs|strs|bytes|set|stmt|qR|pair|idx|tbl|node|kv|jM|lay|stt|res|qX|ow|span|u32
 deriving DecidableEq
@[reducible] def cL:b1->Type|.byte=>UInt8|.int=>Int|.u64=>Int|.str=>ar|.bool=>Bool|.val=>aH|.tok=>Tok|.cO=>cW|.expr=>bh|.num=>awL|.ep=>U aH|.exprs=>U bh|.strs=>U ar|.bytes=>U UInt8|.set=>kE|.stmt=>b4|.qR=>awH|.pair=>awQ|.idx=>c3|.tbl=>bU|.node=>bs|.kv=>b7|.jM=>U b7|.lay=>iO|.stt=>bs|.res=>Hk|.qX=>awN|.ow=>awG|.span=>iP|.u32=>Int
inductive hY where
 |no|nil|id (n:Nat)|z|ne|vq|f
inductive D where
 |bool (b:Bool)
 |int (k:b') (n:Int)
 |str (l:ar)
 |sl (c:b1) (xs:List (cL c)) (t:hY)
 |aI (c:b1) (x:cL c)
 |lb (c:b1) (x:cL c) (off:Nat)
 |ptr (b off:Nat)
 |kS
 |lf (g:Nat)
 |Co (l:List (Int×ar))
 |gB (b:Nat) (c:b1) (lo len:Int)
 |ou (b:Nat) (c:b1) (i:Int)
 |e3 (c:b1) (xs:List (cL c))
 |lP (b:Nat) (c:b1) (n:Nat) (i:Int)
 |rw (c:b1) (n:Nat) (xs:List (cL c))
 |fn (f:Nat) (hp:List D)
 |kL (f:Nat) (first:List D)
 |oC
 |ks (b:Nat)
 |agg (av:List D)
 |pN (av:List D)
 |undef
 |l4
def enc:(c:b1)->cL c->U D|.byte,b=>[.int .u8 (b.toNat:Int)]|.int,n=>[.int .i64 n]|.u64,n=>[.int .u64 n]|.str,s=>[.str s]|.bool,b=>[.bool b]|.val,v=>[.int .i64 v.kind,.int .i64 v.n,.str v.s]|.tok,t=>[.int .i64 t.kind,.int .i64 t.pos,.str t.s,.int .i64 t.n]|.cO,c=>[.str c.name,.int .i64 c.kind,.bool c.IW,.bool c.unique,.str c.ref]|.expr,e=>[.int .i64 e.kind,.int .i64 e.v.kind,.int .i64 e.v.n,.str e.v.s,.str e.name,.sl .expr e.l .no]|.num,n=>[.bool n.minus,.sl .int n.d .no]|.ep,l=>[.sl .val l .no]|.exprs,l=>[.sl .expr l .no]|.strs,l=>[.sl .str l .no]|.bytes,l=>[.sl .byte l .no]|.set,s=>[.str s.name,.int .i64 s.e.kind,.int .i64 s.e.v.kind,.int .i64 s.e.v.n,.str s.e.v.s,.str s.e.name,.sl .expr s.e.l .no]|.stmt,s=>[.int .i64 s.kind,.str s.name,.str s.on,.sl .cO s.al .no,.sl .str s.names .no,.sl .expr s.l .no,.sl .exprs s.rows .no,.sl .set s.b8 .no,.bool s.has,.int .i64 s.ej.kind,.int .i64 s.ej.v.kind,.int .i64 s.ej.v.n,.str s.ej.v.s,.str s.ej.name,.sl .expr s.ej.l .no,.sl .str s.order .no,.sl .bool s.desc .no,.int .i64 s.ca]|.qR,g=>[.int .i64 g.pos,.bool g.bad]|.pair,p=>[.str p.sign,.int .i64 p.kind]|.idx,x=>[.str x.name,.sl .str x.al .no]|.tbl,t=>[.str t.name,.sl .cO t.al .no,.sl .str t.key .no,.sl .expr t.e9 .no,.sl .idx t.idx .no]|.node,n=>[.int .i64 n.kind,.sl .byte n.path .no,.bool n.has,.sl .byte n.val .no,.sl .node n.kids .no,.sl .byte n.hash .no]|.kv,p=>[.sl .byte p.key .no,.sl .byte p.val .no]|.jM,l=>[.sl .kv l .no]|.lay,y=>[.sl .kv y.l .no,.int .i64 y.e]|.stt,n=>[.int .i64 n.kind,.sl .byte n.path .no,.bool n.has,.sl .byte n.val .no,.sl .node n.kids .no,.sl .byte n.hash .no]|.res,r=>[.sl .ep r.rows .no,.int .i64 r.n]|.qX,o=>[.int .i64 o.e,.int .i64 o.pos,.sl .res o.l .no]|.ow,x=>[.int .i64 x.kind,.sl .byte x.p.key .no,.sl .byte x.p.val .no]|.span,x=>[.sl .byte x.low .no,.sl .byte x.high .no,.bool x.op]|.u32,n=>[.int .u32 n]
def dec:(c:b1)->U D->af (cL c)|.byte,[.int .u8 n]=>J (bj n.toNat)|.int,[.int .i64 n]=>J n|.u64,[.int .u64 n]=>J n|.str,[.str s]=>J s|.bool,[.bool b]=>J b|.val,[.int .i64 k,.int .i64 n,.str s]=>J ⟨k,n,s⟩|.tok,[.int .i64 k,.int .i64 a,.str s,.int .i64 n]=>J ⟨k,a,s,n⟩|.cO,[.str a,.int .i64 k,.bool n,.bool u,.str r]=>J ⟨a,k,n,u,r⟩|.expr,[.int .i64 k,.int .i64 a,.int .i64 n,.str s,.str c',.sl .expr l _]=>J (.mk k ⟨a,n,s⟩ c' l)|.num,[.bool m,.sl .int d _]=>J ⟨m,d⟩|.ep,[.sl .val l _]=>J l|.exprs,[.sl .expr l _]=>J l|.strs,[.sl .str l _]=>J l|.bytes,[.sl .byte l _]=>J l|.set,[.str ayL,.int .i64 k,.int .i64 a,.int .i64 n,.str s,.str c',.sl .expr l _]=>J ⟨ayL,.mk k ⟨a,n,s⟩ c' l⟩|.stmt,[.int .i64 k,.str c',.str on,.sl .cO cs _,.sl .str iX _,.sl .expr l _,.sl .exprs rs _,.sl .set Q' _,.bool h,.int .i64 ayT,.int .i64 ayS,.int .i64 wn,.str ws,.str ayU,.sl .expr wl _,.sl .str os _,.sl .bool av _,.int .i64 m]=>J ⟨k,c',on,cs,iX,l,rs,Q',h,.mk ayT ⟨ayS,wn,ws⟩ ayU wl,os,av,m⟩|.qR,[.int .i64 a,.bool b]=>J ⟨a,b⟩|.pair,[.str s,.int .i64 k]=>J ⟨s,k⟩|.idx,[.str n,.sl .str l _]=>J ⟨n,l⟩|.tbl,[.str n,.sl .cO cs _,.sl .str QT _,.sl .expr es _,.sl .idx xs _]=>J ⟨n,cs,QT,es,xs⟩|.node,[.int .i64 k,.sl .byte p _,.bool h,.sl .byte v _,.sl .node l _,.sl .byte s _]=>J (.mk k p h v l s)|.kv,[.sl .byte k _,.sl .byte v _]=>J ⟨k,v⟩|.jM,[.sl .kv l _]=>J l|.lay,[.sl .kv l _,.int .i64 e]=>J ⟨l,e⟩|.stt,[.int .i64 k,.sl .byte p _,.bool h,.sl .byte v _,.sl .node l _,.sl .byte s _]=>J (.mk k p h v l s)|.res,[.sl .ep l _,.int .i64 n]=>J ⟨l,n⟩|.qX,[.int .i64 e,.int .i64 p,.sl .res l _]=>J ⟨e,p,l⟩|.ow,[.int .i64 n,.sl .byte k _,.sl .byte v _]=>J ⟨n,⟨k,v⟩⟩|.span,[.sl .byte l _,.sl .byte h _,.bool b]=>J ⟨l,h,b⟩|.u32,[.int .u32 n]=>J n|_,_=>ah
def eV : b1->Bool|.val|.tok|.cO|.expr|.num|.set|.stmt|.qR|.pair|.idx|.tbl|.node|.kv|.lay|.stt|.res|.qX|.ow|.span=>ae|_=>ai
def aL:b1->Nat|.val=>3|.tok=>4|.cO=>5|.expr=>6|.num=>2|.set=>7|.stmt=>18|.qR=>2|.pair=>2|.idx=>2|.tbl=>5|.node=>6|.kv=>2|.lay=>2|.stt=>6|.res=>2|.qX=>3|.ow=>3|.span=>3|_=>1
def e6:(c:b1)->cL c|.byte=>0|.int=>0|.u64=>0|.str=>[]|.bool=>ai|.val=>⟨0,0,[]⟩|.tok=>⟨0,0,[],0⟩|.cO=>⟨[],0,ai,ai,[]⟩|.expr=>.mk 0 ⟨0,0,[]⟩ [] []|.num=>⟨ai,[]⟩|.ep=>[]|.exprs=>[]|.strs=>[]|.bytes=>[]|.set=>⟨[],.mk 0 ⟨0,0,[]⟩ [] []⟩|.stmt=>⟨0,[],[],[],[],[],[],[],ai,.mk 0 ⟨0,0,[]⟩ [] [],[],[],0⟩|.qR=>⟨0,ai⟩|.pair=>⟨[],0⟩|.idx=>⟨[],[]⟩|.tbl=>⟨[],[],[],[],[]⟩|.node=>.mk 0 [] ai [] [] []|.kv=>⟨[],[]⟩|.jM=>[]|.lay=>⟨[],0⟩|.stt=>.mk 0 [] ai [] [] []|.res=>⟨[],0⟩|.qX=>⟨0,0,[]⟩|.ow=>⟨0,⟨[],[]⟩⟩|.span=>⟨[],[],ai⟩|.u32=>0
def l6(c:b1)(x:cL c):D:=match eV c with
 |true=>.aI c x
 |false=>match enc c x with|d::_=>d|[]=>.undef
def cells:D->U D|.aI c x=>enc c x|.agg av=>av|d=>[d]
def pM(c:b1):D->af (cL c)
 |.aI a x=>if h:a = c then J (h▸x)else ah
 |.agg av=>match eV c with|true=>dec c av|false=>ah
 |d=>match eV c with|true=>ah|false=>dec c [d]
def sB(c:b1):D->af (U (cL c))|.sl a xs _=>if h:a = c then J (h▸xs)else ah|_=>ah
def cv:D->Bool|.aI _ _|.rw _ _ _|.e3 _ _|.agg _|.pN _|.undef|.l4=>ai|_=>ae
def my(d:D):Bool:=(cells d).all cv
inductive ck where
 |int (k:b')
 |bool
 |str
 |sl (c:b1) (own:Bool)
 |aI (c:b1)
 |rw (c:b1) (n:Nat)
 |e3 (c:b1)
 |nl (c:b1)
@[reducible] def den:ck->Type|.int _=>Int|.bool=>Bool|.str=>ar|.sl c _=>U (cL c)|.aI c=>cL c|.rw c _=>U (cL c)|.e3 c=>U (cL c)|.nl _=>Unit
@[reducible] def au:U ck->Type|[]=>Unit|[a]=>den a|a::b::l=>den a×au (b::l)
def eT(i:Nat):(s:ck)->den s->D|.int k,n=>.int k n|.bool,b=>.bool b|.str,l=>.str l|.sl c ae,xs=>.sl c xs (.id i)|.sl c ai,xs=>.sl c xs .no|.aI c,x=>.aI c x|.rw c n,xs=>.rw c n xs|.e3 c,xs=>.e3 c xs|.nl c,_=>.sl c [] .nil
def en:(i:Nat)->(l:U ck)->au l->U D|_,[],_=>[]|i,[a],x=>[eT i a x]|i,a::b::l,(x,y)=>eT i a x::en (i+1) (b::l) y
def c8(i:Nat):U ck->U Nat|[]=>[]|.sl _ ae::l=>i::c8 (i+1) l|_::l=>c8 (i+1) l
def lv(cc:U Nat):hY->af (U Nat)
 |.no=>ah
 |.nil=>J cc
 |.id t=>match cc.contains t with|true=>J (cc.filter λu=> !Nat.beq u t)|false=>ah
 |.z=>ah
 |.ne=>ah
 |.vq=>ah
 |.f=>ah
def tl(cc:U Nat):(s:ck)->D->af (den s×U Nat)
 |.int k,.int eh n=>match aa (eh = k)with|true=>J (n,cc)|false=>ah
 |.bool,.bool b=>J (b,cc)
 |.str,.str l=>J (l,cc)
 |.sl c own,.sl cj xs t=>if h:cj = c then match own with
   |true=>match lv cc t with|some a=>J (h▸xs,a)|none=>ah
   |false=>J (h▸xs,cc)else ah
 |.aI c,d=>match eV c,pM c d with|true,J x=>J (x,cc)|_,_=>ah
 |.rw c n,.rw cj hr xs=>if h:cj = c then match bV hr n with|true=>J (h▸xs,cc)|false=>ah else ah
 |.e3 c,.e3 cj xs=>if h:cj = c then J (h▸xs,cc)else ah
 |.nl c,.sl cj xs t=>match t with
  |.nil=>match aa (cj = c)with
   |true=>match List.isEmpty xs with|true=>J ((),cc)|false=>ah
   |false=>ah
  |_=>ah
 |_,_=>ah
def j3:(l:U ck)->U Nat->U D->af (au l)
 |[],_,[]=>J ()
 |[a],cc,[d]=>match tl cc a d with|some (x,_)=>J x|none=>ah
 |a::b::l,cc,d::av=>match tl cc a d with
  |some (x,aw6)=>match j3 (b::l) aw6 av with|some y=>J (x,y)|none=>ah
  |none=>ah
 |_,_,_=>ah
inductive ds where
 |int (k:b')
 |bool
 |str
 |sl (c:b1)
 |st (c:Option b1) (az:List (Nat×Nat)) (z:List D)
 |arr (n:Nat) (c:b1)
 |ptr
 |fn
 |map
 |no
def ds.zero:ds->af D|.int k=>J (.int k 0)|.bool=>J (.bool ai)|.str=>J (.str [])|.sl c=>J (.sl c [] .nil)|.st _ _ z=>J (.agg z)|.arr n c=>J (.agg ((eK n (enc c (e6 c))).flatten))|.ptr=>J .kS|.fn=>J .oC|_=>ah
def ds.n:ds->Nat|.st _ _ z=>I z|.arr n c=>n*aL c|_=>1
def ds.eV : ds->Bool|.st _ _ _|.arr _ _=>ae|_=>ai
def ds.known:ds->Bool|.no|.map=>ai|_=>ae
def ds.oB(c:b1):ds->Bool|.sl a=>aa (a = c)|_=>ai
def ds.isStr:ds->Bool|.str=>ae|_=>ai
abbrev Env:=U (Nat×D)
def get:Env->Nat->af D|[],_=>ah|(k,v)::e,n=>match bV k n with|true=>J v|false=>get e n
inductive bf where
 |normal
 |exit (id:Nat)
 |ret
inductive c_ where
 |cells (av:List D)
 |box (c:b1) (y:cL c)
 |row (c:b1) (n:Nat) (xs:List (cL c))
 |dyn (c:b1) (xs:List (cL c))
 |gO (t:Nat) (d:D)
 |e' (k:Nat)
 |hc (s:Nat) (n:Nat) (bE:List Nat) (bS body:Code) (env:List (Nat×D))
 |nN (e:bf)
 |lj (j:Int) (n:Nat) (bE:List Nat) (bS body:Code) (env:List (Nat×D)) (q:Nat)
structure Fr where
 n:Nat
 env:Env
 cd:Nat
 lt:Nat
 df:List D
structure bc where
 n:Nat
 env:Env
 cd:Nat
 lt:Nat
 bI:List Fr
 ak:List (Nat×c_)
 nb:Nat
 a9:List Nat
 ba:Nat
 df:List D
def bu:U (Nat×c_)->Nat->af c_|[],_=>ah|(k,v)::e,n=>match bV k n with|true=>J v|false=>bu e n
def eZ:U (Nat×c_)->Nat->c_->U (Nat×c_)|[],_,_=>[]|(k,v)::e,n,u=>match bV k n with|true=>(k,u)::e|false=>(k,v)::eZ e n u
def fc:U (Nat×c_)->Nat->U (Nat×c_)|[],_=>[]|(k,v)::e,n=>match bV k n with|true=>fc e n|false=>(k,v)::fc e n
def bc.put(st:bc)(d:Nat)(v:D):bc:={ st with env:=(d,v)::st.env }
inductive h_ where
 |arr (c:b1) (xs:List (cL c))
 |map (l:List (Int×ar))
 |num (k:b')
structure aM (R:Type) where
 aO:Nat->ds
 bM:Nat->Option h_
 call:Nat->List D->bc->(List D->bc->Option R)->Option R
 u0:Nat->List D->(List D->Option R)->Option R
 loop:Code->bc->(bf->bc->Option R)->Option R
 u1:Nat->Option (List D->bc->(D->List Nat->bc->Option R)->Option R)
 zj:Nat->List D->bc->(D->bc->Option R)->Option R:=λ_ _ _ _=>ah
def gv(k:b')(n:Int):Bool:=aa (k.min<=n)&&aa (n<=k.max)
def Pc(s:ByteArray):Bool:=dz (I s.data.toList) 1048576
def Pn:D->aA->af D
 |.int _ _,.int k n=>match gv k n with|true=>J (.int k n)|false=>ah
 |.bool _,.bool b=>J (.bool b)
 |.str _,.string s=>match Pc s with|true=>J (.str s.data.toList)|false=>ah
 |.sl c _ _,.slice ah 0 0=>J (.sl c [] .nil)
 |.kS,.pointer ah=>J .kS
 |.oC,.nilFunc=>J .oC
 |_,_=>ah
def q':U D->U aA->af (U D)
 |[],[]=>J []
 |z::zs,v::vs=>match Pn z v with
  |some d=>match q' zs vs with|some av=>J (d::av)|none=>ah
  |none=>ah
 |_,_=>ah
def y1(t:ds):aA->af D
 |.int k n=>match gv k n with|true=>J (.int k n)|false=>ah
 |.bool b=>J (.bool b)
 |.string s=>match Pc s with|true=>J (.str s.data.toList)|false=>ah
 |.slice ah 0 0=>match t with|.sl c=>J (.sl c [] .nil)|_=>ah
 |.pointer ah=>J .kS
 |.nilFunc=>J .oC
 |.agg cs=>match t with
  |.st _ _ z=>match q' z cs.toList with|some av=>J (.agg av)|none=>ah
  |_=>ah
 |_=>J .l4
section
variable {R:Type}
def aF(px:aM R)(st:bc)(t:Nat):ct->af D|.tmp i=>get st.env i|.const v=>y1 (px.aO t) v|.global g=>J (.lf g)|.func f=>J (.fn f [])
def fJ(px:aM R)(st:bc):U Nat->U ct->af (U D)
 |_,[]=>J []
 |hd,x::xs=>match aF px st (hd.headD 0) x with
  |none=>ah
  |some v=>match fJ px st hd.tail xs with|none=>ah|some vs=>J (v::vs)
def wr(k:b')(n:Int):Int:=k.wrap n
def lI(l:ar)(i:Int):Int:=((l.getD i.toNat 0).toNat:Int)
def s_(k:b')(f:BitVec k.bits->BitVec k.bits->BitVec k.bits)(x y:Int):Int:=k.wrap ((f (fO k.bits x) (fO k.bits y)).toNat:Int)
def fp(k:b')(x y:Int):Int:=s_ k (· &&& ·) x y
def iW(k:b')(x y:Int):Int:=s_ k (· ||| ·) x y
def gx(k:b')(x y:Int):Int:=s_ k (· ^^^ ·) x y
def O'(k:b')(x y:Int):Int:=s_ k (λa b=>a &&& ~~~b) x y
def js(k:b')(x y:Int):Int:=k.wrap (x*2 ^ min y.toNat k.bits)
def cK(k:b')(x y:Int):Int:=x.fdiv (2 ^ min y.toNat k.bits)
def Pv(op:BinOp)(k:b')(x y:Int):af (Bool×D):=match op with|.add=>J (ae,.int k (wr k (x+y)))|.sub=>J (ae,.int k (wr k (x-y)))|.mul=>J (ae,.int k (wr k (x*y)))|.quo=>J (!decide (y=0),.int k (wr k (x.tdiv y)))|.rem=>J (!decide (y=0),.int k (x.tmod y))|.and=>J (ae,.int k (fp k x y))|.or=>J (ae,.int k (iW k x y))|.xor=>J (ae,.int k (gx k x y))|.andNot=>J (ae,.int k (O' k x y))|.eql=>J (ae,.bool (aa (x=y)))|.neq=>J (ae,.bool (!decide (x=y)))|.lss=>J (ae,.bool (aa (x<y)))|.leq=>J (ae,.bool (aa (x<=y)))|.gtr=>J (ae,.bool (aa (y<x)))|.geq=>J (ae,.bool (aa (y<=x)))|_=>ah
def OD:Nat:=4611686018427387904
def NY(op:BinOp)(l m:ar):af (Bool×D):=match op with|.add=>J (aa (I l+I m<=OD),.str (l++m))|.eql=>J (ae,.bool (aa (l=m)))|.neq=>J (ae,.bool (!decide (l=m)))|.lss=>J (ae,.bool (Op.bytesLess l m))|.leq=>J (ae,.bool (Op.bytesLess l m||decide (l=m)))|.gtr=>J (ae,.bool (!(Op.bytesLess l m||decide (l=m))))|.geq=>J (ae,.bool (!Op.bytesLess l m))|_=>ah
def QK:(c:b1)->cL c->cL c->af Bool|.val,a,b=>J (aa (a=b))|.tok,a,b=>J (aa (a=b))|.cO,a,b=>J (aa (a=b))|_,_,_=>ah
def Fb(t:ds)(a b:D):af Bool:=match t with
 |.st (J c) _ _=>match pM c a with
  |some x=>match pM c b with|some y=>QK c x y|none=>ah
  |none=>ah
 |_=>ah
def OA:D->Bool|.sl _ [] .nil=>ae|_=>ai
def Pk:hY->af Bool|.nil=>J ae|.ne=>J ai|.vq=>J ai|_=>ah
def Pt(op:BinOp)(t:ds)(e:Bool)(a9:hY)(b:D):af (Bool×D):=match t with
 |.sl _=>match OA b with
  |true=>match op,Pk a9 with|.eql,ah=>J (!e,.bool ai)|.neq,ah=>J (!e,.bool ae)|.eql,J q=>J (e,.bool q)|.neq,J q=>J (e,.bool (!q))|_,_=>ah
  |false=>ah
 |_=>ah
def adp:D->af Bool|.kS=>J ae|.ptr _ _|.lb _ _ _|.lf _|.lP _ _ _ _|.ou _ _ _=>J ai|_=>ah
def ac2:D->Bool|.kS=>ae|_=>ai
def Fo(op:BinOp)(t:ds)(a b:D):af (Bool×D):=match t with
 |.ptr=>match adp a,ac2 b with
  |some q,ae=>match op with|.eql=>J (ae,.bool q)|.neq=>J (ae,.bool (!q))|_=>ah
  |_,_=>ah
 |_=>ah
def bin(op:BinOp)(t:ds)(a b:D):af (Bool×D):=match a with
 |.int k x=>match b with
  |.int c y=>match op with
   |.shl=>J (aa (0<=y),.int k (js k x y))
   |.shr=>J (aa (0<=y),.int k (cK k x y))
   |op=>match aa (k=c)with|true=>Pv op k x y|false=>ah
  |_=>ah
 |.str l=>match b with|.str m=>NY op l m|_=>ah
 |.bool x=>match b with
  |.bool y=>match t with
   |.bool=>match op with|.eql=>J (ae,.bool (aa (x=y)))|.neq=>J (ae,.bool (!decide (x=y)))|_=>ah
   |_=>ah
  |_=>ah
 |.sl _ xs a9=>Pt op t xs.isEmpty a9 b
 |_=>match op with
  |.eql=>match Fb t a b with|some r=>J (ae,.bool r)|none=>Fo .eql t a b
  |.neq=>match Fb t a b with|some r=>J (ae,.bool (!r))|none=>Fo .neq t a b
  |_=>ah
def un(op:UnOp)(a:D):af D:=match op,a with
 |.not,.bool b=>J (.bool (!b))
 |.neg,.int k n=>J (.int k (wr k (0-n)))
 |.xor,.int k n=>J (.int k (gx k (match k.signed with|true=> -1|false=>k.max) n))
 |_,_=>ah
def lH:U (Int×ar)->Int->ar|[],_=>[]|(k,s)::l,n=>match aa (k=n)with|true=>s|false=>lH l n
def aU(i:Int)(n:Nat):Bool:=aa (0<=i)&&aa (i<(n:Int))
def upto(i j:Int)(n:Nat):Bool:=aa (0<=i)&&aa (i<=j)&&aa (j<=(n:Int))
def cut{α:Type}(l:U α)(i j:Int):U α:=(l.drop i.toNat).take (j.toNat-i.toNat)
def at'(c:b1)(xs:U (cL c))(i:Int):cL c:=xs.getD i.toNat (e6 c)
def oN(c:b1):Nat->U D->af (U (cL c))
 |0,[]=>J []
 |0,_=>ah
 |n+1,av=>match dec c (av.take (aL c))with
  |some x=>match oN c n (av.drop (aL c))with|some xs=>J (x::xs)|none=>ah
  |none=>ah
def ts(c:b1):U D->af (U (cL c))
 |[]=>J []
 |d::av=>match pM c d with
  |some x=>match ts c av with|some xs=>J (x::xs)|none=>ah
  |none=>ah
def part(t:ds)(av:U D)(off:Nat):af D:=match t.eV with
 |true=>match dz (off+t.n) (I av) with|true=>J (.agg ((av.drop off).take t.n))|false=>ah
 |false=>av[off]?
def write(av:U D)(off:Nat):U D->U D|[]=>av|v::vs=>write (av.set off v) (off+1) vs
def bJ:Nat:=274877906944
def ax(b:Bool)(x:af R):af R:=cond b x ah
def zC(t:ds)(n:Nat)(c:b1):Bool:=match t with|.arr a b=>bV a n&&aa (b = c)|_=>ai
def Q_(c:b1)(n:Nat):D->af (U (cL c))
 |.rw a b xs=>if h:a = c then match bV b n with|true=>J (h▸xs)|false=>ah else ah
 |.agg av=>oN c n av
 |_=>ah
def load(aw4:aM R)(st:bc)(t:ds):D->af D
 |.lb c x off=>match bV off 0&&bV t.n (aL c)&&(t.eV == eV c)with|true=>J (l6 c x)|false=>part t (enc c x) off
 |.ptr b off=>match bu st.ak b with
  |some (.cells av)=>part t av off
  |some (.box c x)=>match bV off 0&&bV t.n (aL c)&&(t.eV == eV c)with|true=>J (l6 c x)|false=>part t (enc c x) off
  |some (.gO _ d)=>match bV off 1 && !t.eV with|true=>J d|false=>ah
  |some (.row c n xs)=>match bV off 0&&zC t n c with|true=>J (.rw c n xs)|false=>ah
  |_=>ah
 |.lP b dd jN i=>match bu st.ak b with
  |some (.row c n xs)=>match bV t.n (aL c)&&(t.eV == eV c)&&aa (dd=c)&&bV jN n with|true=>J (l6 c (at' c xs i))|false=>ah
  |_=>ah
 |_=>ah
def pT(px:aM R)(s f:Nat):af (Nat×ds):=match px.aO s with
 |.st _ az _=>match az[f]? with|some (o,u)=>J (o,px.aO u)|none=>ah
 |_=>ah
def vz(px:aM R)(s:Nat)(z:U D):U (Nat×D)->af (U D)
 |[]=>J z
 |(f,d)::l=>match pT px s f with
  |some (o,u)=>match bV (I (cells d)) u.n&&dz (o+I (cells d)) (I z)&&my d&&u.known with|true=>vz px s (write z o (cells d)) l|false=>ah
  |none=>ah
def avJ(px:aM R)(s f:Nat):Nat:=match px.aO s with
 |.st _ az _=>match az[f]? with|some (_,u)=>u|none=>0
 |_=>0
def AK(px:aM R)(st:bc)(s:Nat):U (Nat×ct)->af (U (Nat×D))
 |[]=>J []
 |(i,x)::xs=>match aF px st (avJ px s i) x with
  |none=>ah
  |some v=>match AK px st s xs with|none=>ah|some vs=>J ((i,v)::vs)
def AN:U (Nat×ct)->Nat|[]=>0|(i,_)::_=>i
def wC(px:aM R)(st:bc):Nat->U (Nat×ct)->af (U D)
 |_,[]=>J []
 |i,(j,x)::xs=>match bV i j with
  |true=>match aF px st 0 x with
   |none=>ah
   |some v=>match wC px st (i+1) xs with|none=>ah|some vs=>J (v::vs)
  |false=>ah
def O8:D->c_|.aI c y=>.box c y|d=>.cells (cells d)
def Om(t:Nat):U D->c_|[.kS,.sl .byte [] .nil]=>.gO t (.sl .byte [] .nil)|av=>.cells av
def hV(st:bc):bc:={ st with a9:=st.ba::st.a9,ba:=st.ba+1 }
def hE(st:bc)(b:c_):bc:={ st with ak:=(st.nb,b)::st.ak,nb:=st.nb+1 }
def hl:U D->D|[d]=>d|av=>.pN av
def yl(st:bc)(c:b1)(s x:D)(K:D->bc->af R):af R:=match s with
 |.sl a xs t=>if h:a = c then match lv st.a9 t with
   |none=>ah
   |some cc=>match sB c x with
    |none=>ah
    |some ys=>ax (aa (I xs+I ys<=bJ)) (K (.sl c ((h▸xs:U (cL c))++ys) (.id st.ba)) (hV { st with a9:=cc }))else ah
 |_=>ah
def Ki(st:bc)(c:b1)(s x:D)(K:D->bc->af R):af R:=match s with
 |.sl cj xs .f=>if h:cj = c then match sB c x with|none=>ah|some ys=>cond ys.isEmpty (K (.sl c (h▸xs) .f) st) (ax (aa (I xs+I ys<=bJ)) (K (.sl c ((h▸xs:U (cL c))++ys) (.id st.ba)) (hV st)))else ah
 |s=>yl st c s x K
def hR{α:Type}(xs:U α)(o:Nat)(l:U α):U α:=xs.take o++(l++xs.drop (o+I l))
def Pe(st:bc)(dd:b1)(s x:D)(K:D->bc->af R):af R:=match s with
 |.gB b c1 s n=>match bu st.ak b with
  |some (.dyn c xs)=>match sB c x,aa (c1=c)&&aa (dd=c)&&bV (aL c) 1 with
   |some ys,ae=>ax (aa (0<=s)&&aa (0<=n)&&aa (s+n<=(I xs:Int))) (K (.int .i64 ((min n.toNat (I ys):Nat):Int)) { st with ak:=eZ st.ak b (.dyn c (hR xs s.toNat (ys.take n.toNat))) })
   |_,_=>ah
  |_=>ah
 |_=>ah
def Ow(l:ar)(lo hi:af D)(K:D->af R):af R:=match lo,hi with|some (.int _ i),ah=>ax (upto i (I l) (I l)) (K (.str (l.drop i.toNat)))|none,J (.int _ j)=>ax (upto 0 j (I l)) (K (.str (l.take j.toNat)))|some (.int _ i),J (.int _ j)=>ax (upto i j (I l)) (K (.str (cut l i j)))|_,_=>ah
def OL(c:b1)(l:U (cL c))(lo hi:af D)(K:D->af R):af R:=match lo,hi with|none,ah=>K (.sl c l .no)|some (.int _ i),ah=>ax (upto i (I l) (I l)) (K (.sl c (l.drop i.toNat) .no))|none,J (.int _ j)=>ax (upto 0 j (I l)) (K (.sl c (l.take j.toNat) .no))|some (.int _ i),J (.int _ j)=>ax (upto i j (I l)) (K (.sl c (cut l i j) .no))|_,_=>ah
def jQ(i j n:Int):Bool:=aa (0<=i)&&aa (i<=j)&&aa (j<=n)
def iJ(i n:Int):Bool:=aa (0<=i)&&aa (i<n)
def ON(b:Nat)(c:b1)(s n:Int)(lo hi:af D)(K:D->af R):af R:=match lo,hi with|none,ah=>K (.gB b c s n)|some (.int _ i),ah=>ax (jQ i n n) (K (.gB b c (s+i) (n-i)))|none,J (.int _ j)=>ax (jQ 0 j n) (K (.gB b c s j))|some (.int _ i),J (.int _ j)=>ax (jQ i j n) (K (.gB b c (s+i) (j-i)))|_,_=>ah
def adB(px:aM R)(ty:ds)(x:D)(lo hi:af D)(K:D->af R):af R:=match x with
 |.str l=>match ty.isStr with|true=>Ow l lo hi K|false=>ah
 |.sl c l _=>match ty.oB c with|true=>OL c l lo hi K|false=>ah
 |.gB b c s n=>match ty.oB c with|true=>ON b c s n lo hi K|false=>ah
 |.lf g=>match px.bM g,ty,lo,hi with
  |some (.arr c xs),.arr n cj,ah,ah=>match bV (I xs) n&&aa (c=cj)&&dz n 1048576 with|true=>K (.sl c xs .no)|false=>ah
  |_,_,_,_=>ah
 |_=>ah
def min2(x y:Int):Int:=if y<x then y else x
def max2(x y:Int):Int:=if x<y then y else x
def Ee(ty:ds)(b:fP)(args:U D):af D:=match b,args with
 |.len,[.str l]=>match ty.isStr with|true=>J (.int .i64 (I l))|false=>ah
 |.len,[.sl c xs _]=>match ty.oB c with|true=>J (.int .i64 (I xs))|false=>ah
 |.len,[.gB _ c _ n]=>match ty.oB c with|true=>J (.int .i64 n)|false=>ah
 |.min,[.int k x,.int eh y]=>match aa (k=eh)with|true=>J (.int k (min2 x y))|false=>ah
 |.max,[.int k x,.int eh y]=>match aa (k=eh)with|true=>J (.int k (max2 x y))|false=>ah
 |_,_=>ah
def Cg(px:aM R)(st:bc):af ct->af (af D)|none=>J ah|some x=>match aF px st 0 x with|some d=>J (J d)|none=>ah
def pn(px:aM R)(o:bw)(st:bc)(K:D->af R):af R:=match o.op with
 |.move x=>match aF px st o.type x with|some d=>K d|none=>ah
 |.assign x=>match aF px st o.type x with|some d=>K d|none=>ah
 |.pick c a b=>match aF px st 0 c,aF px st o.type a,aF px st o.type b with|some (.bool x),J u,J v=>cond x (K u) (K v)|_,_,_=>ah
 |.build t bE=>match px.aO t with
  |.st _ _ z=>match AK px st t bE.toList with
   |some l=>match vz px t z l with|some av=>K (.agg av)|none=>ah
   |none=>ah
  |.arr n c=>match wC px st (AN bE.toList) bE.toList with
   |some l=>match bV (AN bE.toList+I l) n&&l.all λd=>my d&&bV (I (cells d)) (aL c)with|true=>K (.agg ((eK (AN bE.toList) (enc c (e6 c))).flatten++(l.map cells).flatten))|false=>ah
   |none=>ah
  |_=>ah
 |.load t x=>match aF px st 0 x with
  |some (.lf g)=>match px.aO t,px.bM g with
   |.map,J (.map l)=>K (.Co l)
   |.arr n c,J (.arr cj xs)=>match aa (c=cj)&&bV (I xs) n with|true=>K (.agg (xs.map (enc cj)).flatten)|false=>ah
   |_,_=>ah
  |some (.ou b c i)=>match bu st.ak b with
   |some (.dyn cj xs)=>match bV (px.aO t).n (aL cj)&&((px.aO t).eV == eV cj)&&aa (c=cj)&&(px.aO t).known with|true=>ax (aU i (I xs)) (K (l6 cj (at' cj xs i)))|false=>ah
   |_=>ah
  |some p=>match(px.aO t).known,load px st (px.aO t) p with|true,J d=>K d|_,_=>ah
  |none=>ah
 |.nilCheck x=>match aF px st 0 x with|some (.ptr b o)=>K (.ptr b o)|some (.lb c x o)=>K (.lb c x o)|some (.lf g)=>K (.lf g)|some (.lP b c n i)=>K (.lP b c n i)|some (.ou b c i)=>K (.ou b c i)|some (.fn f cs)=>K (.fn f cs)|_=>ah
 |.binOp op t x y t'=>match aF px st t x,aF px st t' y with
  |some a,J b=>match bin op (px.aO t) a b with|some (c,d)=>ax c (K d)|none=>ah
  |_,_=>ah
 |.unOp op t x=>match aF px st t x with
  |some a=>match un op a with|some d=>K d|none=>ah
  |none=>ah
 |.convert s t x=>match aF px st s x,px.aO t with
  |some (.int _ n),.int k=>match(px.aO s).known with|true=>K (.int k (wr k n))|false=>ah
  |some (.str l),.str=>match(px.aO s).known with|true=>K (.str l)|false=>ah
  |some (.sl .byte xs _),.str=>match(px.aO s).oB .byte with|true=>K (.str xs)|false=>ah
  |_,_=>ah
 |.slice t x lo hi ah=>match aF px st t x,Cg px st lo,Cg px st hi with|some d,J i,J j=>adB px (px.aO t) d i j K|_,_,_=>ah
 |.slice t x ah (J y) (J z)=>match aF px st t x,aF px st 0 y,aF px st 0 z with
  |some (.sl c l _),J (.int _ j),J (.int _ k)=>match(px.aO t).oB c&&aa (j=k)with|true=>ax (upto 0 j (I l)) (K (.sl c (l.take j.toNat) .f))|false=>ah
  |_,_,_=>ah
 |.fieldAddr s x f=>match aF px st 0 x,pT px s f with|some (.ptr b o),J (gA,_)=>K (.ptr b (o+gA))|some (.lb c x o),J (gA,_)=>K (.lb c x (o+gA))|_,_=>ah
 |.field s x f=>match aF px st s x,pT px s f with
  |some d,J (gA,u)=>match u.known&&my d&&(match d with|.aI _ _=>ae|.agg _=>ae|_=>ai),part u (cells d) gA with|true,J v=>K v|_,_=>ah
  |_,_=>ah
 |.indexAddr t x y=>match aF px st t x,aF px st 0 y with
  |some (.sl c xs _),J (.int _ i)=>match(px.aO t).oB c with|true=>ax (aU i (I xs)) (K (.lb c (at' c xs i) 0))|false=>ah
  |some (.lf g),J (.int _ i)=>match px.bM g,px.aO t with
   |some (.arr c xs),.arr n cj=>match bV (I xs) n&&aa (c=cj)with|true=>ax (aU i n) (K (.lb c (at' c xs i) 0))|false=>ah
   |_,_=>ah
  |some (.ptr b o),J (.int _ i)=>match bu st.ak b,px.aO t with
   |some (.row c hr _),.arr n cj=>match aa (c=cj)&&bV hr n&&bV o 0 with|true=>ax (aU i n) (K (.lP b c n i))|false=>ah
   |some (.cells _),.arr n c=>ax (aU i n) (K (.ptr b (o+i.toNat*aL c)))
   |_,_=>ah
  |some (.gB b c s n),J (.int _ i)=>match(px.aO t).oB c with|true=>ax (iJ i n) (K (.ou b c (s+i)))|false=>ah
  |_,_=>ah
 |.index t x y=>match aF px st t x,aF px st 0 y with
  |some (.str l),J (.int _ i)=>match(px.aO t).isStr with|true=>ax (aU i (I l)) (K (.int .u8 (lI l i)))|false=>ah
  |some (.agg av),J (.int _ i)=>match px.aO t with
   |.arr n c=>match oN c n av with|some xs=>ax (aU i n) (K (l6 c (at' c xs i)))|none=>ah
   |_=>ah
  |some (.rw cj hr xs),J (.int _ i)=>match px.aO t with
   |.arr n c=>match aa (cj = c)&&bV hr n with|true=>ax (aU i n) (K (l6 cj (at' cj xs i)))|false=>ah
   |_=>ah
  |_,_=>ah
 |.lookup t x y ai=>match aF px st 0 x,aF px st 0 y,px.aO t with|some (.Co l),J (.int .i64 i),.map=>K (.str (lH l i))|_,_,_=>ah
 |.extract x i=>match aF px st 0 x with
  |some (.pN av)=>match av[i]? with|some d=>K d|none=>ah
  |_=>ah
 |.makeFunc (.func f) ⟨[]⟩ ⟨cs⟩=>match fJ px st [] cs with|some av=>K (.fn f av)|none=>ah
 |.makeFunc (.func f) ⟨c::cs⟩ ⟨[]⟩=>match fJ px st [] (c::cs)with|some av=>K (.kL f av)|none=>ah
 |.call ⟨.builtin b,xs,hd⟩=>match fJ px st hd.toList xs.toList with
  |some av=>match Ee (px.aO (hd.toList.headD 0)) b av with|some d=>K d|none=>ah
  |none=>ah
 |_=>ah
def _k:U (Nat×ct)->af (U aA)|[(0,.const (.agg cs))]=>J cs.toList|_=>ah
def p7(px:aM R)(st:bc)(c:b1)(len:Nat)(bE:U (Nat×ct)):af (U (cL c)):=match _k bE with
 |some cs=>match q' (enc c (e6 c)) cs with
  |some av=>match eV c&&bV len 1,dec c av with|true,J x=>J [x]|_,_=>ah
  |none=>ah
 |none=>match wC px st 0 bE with
  |some l=>match bV (I l) len&&dz (len*aL c) 16777216,ts c l with|true,J xs=>J xs|_,_=>ah
  |none=>ah
def step(px:aM R)(o:bw)(st:bc)(K:D->bc->af R):af R:=match o.op with
 |.alloc t=>match px.aO t with
  |.arr n c=>K (.ptr st.nb 0) (hE st (.row c n (eK n (e6 c))))
  |ty=>match ty.zero with|some z=>K (.ptr st.nb 0) (hE st (Om t (cells z)))|none=>ah
 |.makeSlice t x y=>match px.aO t,aF px st 0 x,aF px st 0 y with|.sl c,J (.int _ n),J (.int _ q)=>ax (jQ 0 n q&&aa (q<=(bJ:Int))) (K (.gB st.nb c 0 n) (hE st (.dyn c (eK q.toNat (e6 c)))))|_,_,_=>ah
 |.box t x=>match aF px st t x with
  |some d=>match my d with|true=>K (.ptr st.nb 0) (hE st (O8 d))|false=>ah
  |none=>ah
 |.buildSlice t len bE=>match px.aO t with
  |.sl c=>match p7 px st c len bE.toList with|some xs=>K (.sl c xs (.id st.ba)) (hV st)|none=>ah
  |_=>ah
 |.convert s t x=>match aF px st s x,px.aO t with
  |some (.str l),.sl .byte=>match(px.aO s).isStr with|true=>ax (aa (I l<=bJ)) (K (.sl .byte l .no) st)|false=>ah
  |_,_=>pn px o st λd=>K d st
 |.call ⟨.builtin .append,⟨[x,y]⟩,⟨[t,t']⟩⟩=>match px.aO t,aF px st t x,aF px st t y,bV t t' with
  |.sl c,J s,J d,ae=>Ki st c s d K
  |.sl .byte,J s,J (.str l),ai=>match(px.aO t').isStr with|true=>yl st .byte s (.sl .byte l .no) K|false=>ah
  |_,_,_,_=>ah
 |.call ⟨.builtin .copy,⟨[x,y]⟩,⟨[t,_]⟩⟩=>match px.aO t,aF px st t x,aF px st t y with|.sl c,J s,J d=>Pe st c s d K|_,_,_=>ah
 |.call ⟨.value f,xs,hd⟩=>match aF px st 0 f with
  |some (.fn g hp)=>match fJ px st hd.toList xs.toList with|some av=>px.call g (av++hp) st λrs aG=>K (hl rs) aG|none=>ah
  |some (.kL g az)=>match fJ px st hd.toList xs.toList with|some av=>px.call g (az++av) st λrs aG=>K (hl rs) aG|none=>ah
  |_=>ah
 |_=>pn px o st λd=>K d st
def ZO:hY->hY|.id _=>.no|t=>t
def dw:D->D|.sl c xs t=>.sl c xs (ZO t)|d=>d
def _d:D->D|.sl c xs _=>.sl c xs .f|d=>d
def EC:Nat->Bool|177=>ae|178=>ae|69=>ae|151=>ae|154=>ae|112=>ae|128=>ae|62=>ae|_=>ai
def FH(px:aM R)(g:Nat)(args:U D)(st:bc)(K:D->U Nat->bc->af R):af R:=match EC g,px.u1 g with|false,J F=>F args st K|_,_=>px.u0 g args λrs=>K (hl (rs.map dw)) [] st
def NN(px:aM R)(o:bw)(st:bc)(K:D->U Nat->bc->af R):af R:=match o.op with
 |.buildSlice _ _ _=>step px o st λd _=>K (_d d) [] st
 |.convert _ _ _=>step px o st λd _=>K (dw d) [] st
 |.alloc _=>match bu st.ak st.nb with|none=>step px o st λd aG=>K d [] aG|some _=>ah
 |.box _ _=>match bu st.ak st.nb with|none=>step px o st λd aG=>K d [] aG|some _=>ah
 |.makeSlice _ _ _=>match bu st.ak st.nb with|none=>step px o st λd aG=>K d [] aG|some _=>ah
 |.call ⟨.value f,xs,hd⟩=>match aF px st 0 f with
  |some (.fn g hp)=>match fJ px st hd.toList xs.toList with|some av=>FH px g (av++hp) st K|none=>ah
  |some (.kL g az)=>match fJ px st hd.toList xs.toList with|some av=>FH px g (az++av) st K|none=>ah
  |_=>ah
 |.call ⟨.builtin .copy,⟨[x,_]⟩,⟨[t,_]⟩⟩=>match aF px st t x with|some (.gB b _ _ _)=>step px o st λd aG=>K d [b] aG|_=>ah
 |_=>step px o st λd aG=>K d [] aG
def N1:D->Bool|.sl .byte _ _=>ae|_=>ai
def Ov(av:U D)(off:Nat)(d:D):c_:=match d with
 |.aI c y=>match bV off 0&&bV (I av) (aL c)with|true=>.box c y|false=>.cells (write av off (cells (.aI c y)))
 |d=>.cells (write av off (cells d))
def p6(px:aM R)(o:bw)(st:bc)(K:bc->af R):af R:=match o.op with
 |.store t x y=>match aF px st 0 x,aF px st t y with
  |some (.ptr b off),J d=>match bu st.ak b with
   |some (.gO ty _)=>match bV off 1&&N1 d&&(px.aO t).oB .byte with
    |true=>K { st with ak:=eZ st.ak b (.gO ty d) }
    |false=>ah
   |some (.row c n _)=>match Q_ c n d,bV off 0&&zC (px.aO t) n c with
    |some xs,ae=>K { st with ak:=eZ st.ak b (.row c n xs) }
    |_,_=>ah
   |_=>match(match bu st.ak b with
    |some (.cells av)=>J av
    |some (.box c y)=>J (enc c y)
    |_=>ah)with
    |some av=>match bV (I (cells d)) (px.aO t).n&&dz (off+I (cells d)) (I av)&&my d&&(px.aO t).known with
     |true=>K { st with ak:=eZ st.ak b (Ov av off d) }
     |false=>ah
    |_=>ah
  |some (.lP b dd jN i),J d=>match bu st.ak b with
   |some (.row c n xs)=>match pM c d,bV (px.aO t).n (aL c)&&aa (dd=c)&&bV jN n&&(px.aO t).known with
    |some x,ae=>K { st with ak:=eZ st.ak b (.row c n (xs.set i.toNat x)) }
    |_,_=>ah
   |_=>ah
  |some (.ou b dd i),J d=>match bu st.ak b with
   |some (.dyn c xs)=>match pM c d,bV (px.aO t).n (aL c)&&aa (dd=c)&&(px.aO t).known with
    |some x,ae=>ax (aU i (I xs)) (K { st with ak:=eZ st.ak b (.dyn c (xs.set i.toNat x)) })
    |_,_=>ah
   |_=>ah
  |_,_=>ah
 |_=>ah
def Ga(px:aM R)(o:bw)(st:bc)(K:bc->af R):af R:=match o.op with
 |.defer ⟨.value f,⟨[]⟩,_⟩=>match aF px st 0 f with
  |some (.fn g hp)=>K { st with df:=.fn g hp::st.df }
  |_=>ah
 |_=>p6 px o st K
def Rg(px:aM R)(o:bw)(st:bc):U Nat:=match o.op with
 |.store _ x _=>match aF px st 0 x with|some (.ptr b _)=>[b]|some (.lP b _ _ _)=>[b]|some (.ou b _ _)=>[b]|_=>[]
 |_=>[]
def AA(px:aM R)(o:bw)(st:bc):af (Nat×U D):=match o.op with
 |.call ⟨.value (.tmp f),xs,hd⟩=>match get st.env f with
  |some (.ks b)=>match fJ px st hd.toList xs.toList with|some av=>J (b,av)|none=>ah
  |_=>ah
 |_=>ah
def one(px:aM R)(o:bw)(st:bc)(K:bc->af R):af R:=match o.dst with
 |some d=>match ec d st.n with
  |true=>match AA px o st with|some (b,av)=>px.zj b av st λv aG=>K (aG.put d v)|none=>step px o st λv aG=>K (aG.put d v)
  |false=>ah
 |none=>Ga px o st K
def off(o:bw)(st:bc):bc:=match o.dst with|some d=>st.put d .undef|none=>st
def su(px:aM R)(all:Array bw)(o:bw)(st:bc)(K:bc->af R):af R:=match o.guard with
 |none=>one px o st K
 |some (j,b)=>match(all[j]?).bind (·.dst)with
  |none=>ah
  |some g=>match get st.env g with
   |some (.bool x)=>cond x (match b with
      |true=>one px o (st.put g (.bool ae)) K
      |false=>K (off o (st.put g (.bool ae)))) (match b with
      |false=>one px o (st.put g (.bool ai)) K
      |true=>K (off o (st.put g (.bool ai))))
   |some .undef=>K (off o st)
   |_=>ah
def j2(x:ct)(d:Nat):Bool:=match x with|.tmp k=> !Nat.beq k d|_=>ae
def s8(px:aM R)(o dq lk:bw)(st:bc):af (Bool×bc):=match o.op with
 |.call ⟨.builtin .append,⟨[x,z]⟩,⟨[t,t']⟩⟩=>match dq.op with
  |.indexAddr t2 (.tmp a) i=>match lk.op with
   |.store u (.tmp b) y=>match o.dst,dq.dst,lk.dst with
    |some d,J d2,ah=>match o.guard.isNone&&dq.guard.isNone&&lk.guard.isNone&&bV t t'&&bV t2 t&&bV a d&&bV b d2 && !Nat.beq d d2&&ec d st.n&&ec d2 st.n&&j2 i d&&j2 y d&&j2 y d2 with
     |true=>match px.aO t,aF px st t x,aF px st t z,aF px st 0 i,aF px st u y with
      |.sl c,J (.sl cj xs a9),J zs,J (.int _ n),J afh=>match sB c zs,pM c afh,lv st.a9 a9,bV (px.aO u).n (aL c)&&(px.aO u).known with
       |some [_],J e,J cc,ae=>if h:cj = c then J (aa (I xs+1<=bJ)&&aa (n=(I xs:Int)),(((hV { st with a9:=cc }).put d (.sl c ((h▸xs:U (cL c))++[e]) (.id st.ba))).put d2 .l4))else ah
       |_,_,_,_=>ah
      |_,_,_,_,_=>ah
     |false=>ah
    |_,_,_=>ah
   |_=>ah
  |_=>ah
 |_=>ah
def ops(px:aM R)(all:Array bw):U bw->bc->(bc->af R)->af R|[],st,K=>K st|[o],st,K=>su px all o st K|[o,dq],st,K=>su px all o st λaG=>ops px all [dq] aG K|o::dq::lk::l,st,K=>match s8 px o dq lk st with|some p=>ax p.1 (ops px all l p.2 K)|none=>su px all o st λaG=>ops px all (dq::lk::l) aG K
def jG(ops:Array bw):Nat->bw->Nat->Bool|0,_,_=>ai|n+1,o,i=>o.after.any λe=>Region.binds .any e&&dz i e.on&&(bV e.on i||match ops[e.on]? with|some p=>jG ops n p i|none=>ai)
def _b(ops:Array bw)(j:Nat):Bool:=match ops[j]? with|some o=>(dy j).all λq=>jG ops 12 o q|none=>ai
def o5(ops:Array bw):Nat->Nat|0=>0|n+1=>match _b ops n with|true=>o5 ops n|false=>n+1
def eN(n:Nat)(p:Nat->Bool):Array Bool:=((dy n).map p).toArray
def sk(a:Nat)(l:U Nat):Bool:=l.all λb=> !Nat.beq a b
def F_(ops:Array bw)(e:Nat)(c:Bool):Bool:=match ops[e]?,ops[e+1]?,ops[e+2]? with
 |some oD,J e',J g3=>match e'.op,g3.op,oD.dst,e'.dst,g3.dst with
  |.indexAddr _ (.tmp a) i,.store _ (.tmp b) y,J d,J d2,ah=>oD.guard.isNone&&e'.guard.isNone&&g3.guard.isNone&&bV a d&&bV b d2 && !Nat.beq d d2&&j2 i d&&j2 y d&&j2 y d2&&match c with
   |false=>match ops[e+3]? with
    |some os=>match os.op,os.dst with|.store _ (.tmp k) (.tmp q),ah=>os.guard.isNone&&bV q d&&sk k [d,d2]|_,_=>ai
    |none=>ai
   |true=>match ops[e+3]?,ops[e+4]?,ops[e+5]? with
    |some on,J of,J os=>match on.op,of.op,os.op,on.dst,of.dst,os.dst with|.nilCheck (.tmp k),.fieldAddr _ (.tmp f1) _,.store _ (.tmp p) (.tmp q),J e3,J df,ah=>on.guard.isNone&&of.guard.isNone&&os.guard.isNone&&bV f1 e3&&bV p df&&bV q d&&sk k [d,d2,e3,df]&&sk e3 [d,d2,df]&&sk df [d,d2]&&j2 y e3&&j2 y df|_,_,_,_,_,_=>ai
    |_,_,_=>ai
  |_,_,_,_,_=>ai
 |_,_,_=>ai
def mS(ops:Array bw)(e:Nat)(a:Bool):Bool:=Region.noSelect ops&&((dy ops.size).all λj=>ec j e||match ops[j]? with
  |some o=>(dy e).all λq=>jG ops 12 o q
  |none=>ae) && hM .any ops (eN ops.size λi=>ec i e) == [e] && (hM .any ops (eN ops.size λi=>dz i e)).contains (e+1)&&Region.free .any ops (eN ops.size λi=>dz i e) (e+1) && (hM .any ops (eN ops.size λ_=>ae)).isEmpty && match a with
 |false=>bV ops.size (e+4)&&(hM .any ops (eN ops.size λi=>dz i (e+1))).contains (e+2) && hM .any ops (eN ops.size λi=>dz i (e+2)) == [e+3] && hM .any ops (eN ops.size λi=>dz i (e+1)||bV i (e+3)) == [e+2]
 |true=>bV ops.size (e+6)&&(hM .any ops (eN ops.size λi=>dz i (e+1))).contains (e+3)&&Region.free .any ops (eN ops.size λi=>dz i (e+1)) (e+3) && (hM .any ops (eN ops.size λi=>dz i (e+1)||bV i (e+3))).contains (e+4)&&Region.free .any ops (eN ops.size λi=>dz i (e+1)||bV i (e+3)) (e+4) && (hM .any ops (eN ops.size λi=>dz i (e+1)||bV i (e+3)||bV i (e+4))).contains (e+2) && hM .any ops (eN ops.size λi=>dz i (e+4)) == [e+5] && hM .any ops (eN ops.size λi=>dz i (e+1)||bV i (e+3)||bV i (e+4)||bV i (e+5)) == [e+2]
def FR(ops:Array bw)(e:Nat)(a:Bool):Bool:=F_ ops e a&&mS ops e a
def sd(ops:Array bw):af (Nat×Bool):=match dz 4 ops.size&&FR ops (ops.size-4) ai with
 |true=>J (ops.size-4,ai)
 |false=>match dz 6 ops.size&&FR ops (ops.size-6) ae with|true=>J (ops.size-6,ae)|false=>ah
def jZ(ops:Array bw):Nat:=match bV (o5 ops ops.size) 0 with
 |true=>0
 |false=>match sd ops with|some p=>p.1|none=>o5 ops ops.size
def O9(ops:Array bw)(e:Nat)(a:Bool):af Nat:=match ops[match a with|true=>e+3|false=>e+3]? with
 |some o=>match o.op with|.nilCheck (.tmp k)=>J k|.store _ (.tmp k) _=>J k|_=>ah
 |none=>ah
def C0(px:aM R)(os:Array bw)(st:bc):Bool:=match bV (o5 os os.size) 0 with
 |true=>ae
 |false=>match sd os with
  |some (e,fK)=>match O9 os e fK,os[e]?,os[e+1]?,os[e+2]? with
   |some k,J oD,J e',J g3=>(s8 px oD e' g3 st).isSome&&(match get st.env k with
    |some (.ptr b _)=>match bu st.ak b with|some (.cells _)=>ae|some (.box _ _)=>ae|_=>ai
    |_=>ai)
   |_,_,_,_=>ai
  |none=>ae
def wF:D->af Nat|.ptr b _=>J b|.lP b _ _ _=>J b|.ou b _ _=>J b|_=>ah
def N6(o:bw):af Nat:=match o.op with|.load _ (.tmp k)=>J k|_=>ah
def AJ(ops:Array bw)(i j:Nat):Bool:=match ec i j with
 |true=>match ops[j]? with|some o=>jG ops 12 o i|none=>ai
 |false=>match ops[i]? with|some o=>bV i j||jG ops 12 o j|none=>ai
def ac7(ops:Array bw)(k lo hi:Nat):Bool:=(dy hi).all λq=>ec q lo||match ops[q]? with
 |some o=>match o.dst with|some d=> !Nat.beq d k|none=>ae
 |none=>ae
def PA(ops:Array bw)(T i:Nat)(env:Env)(ws:U Nat):Bool:=(dy T).all λj=>match ops[j]? with
 |some a=>match N6 a with
  |some k=>AJ ops i j||(ac7 ops k (min i j) (max i j)&&match get env k with
   |some d=>match wF d with|some b=> !ws.contains b|none=>ae
   |none=>ai)
  |none=>ae
 |none=>ae
def wP(px:aM R)(all:Array bw)(T i:Nat)(o:bw)(st:bc)(K:bc->af R):af R:=match o.dst with
 |some d=>match ec d st.n with
  |true=>NN px o st λv ws aG=>match ws.isEmpty||PA all T i st.env ws with|true=>K (aG.put d v)|false=>ah
  |false=>ah
 |none=>match PA all T i st.env (Rg px o st)with|true=>p6 px o st K|false=>ah
def aef(px:aM R)(all:Array bw)(T i:Nat)(o:bw)(st:bc)(K:bc->af R):af R:=match o.guard with
 |none=>wP px all T i o st K
 |some (j,b)=>match(all[j]?).bind (·.dst)with
  |none=>ah
  |some g=>match get st.env g with
   |some (.bool x)=>cond x (match b with
      |true=>wP px all T i o (st.put g (.bool ae)) K
      |false=>K (off o (st.put g (.bool ae)))) (match b with
      |false=>wP px all T i o (st.put g (.bool ai)) K
      |true=>K (off o (st.put g (.bool ai))))
   |some .undef=>K (off o st)
   |_=>ah
def wM(px:aM R)(all:Array bw)(T:Nat):Nat->U bw->bc->(bc->af R)->af R|_,[],st,K=>K st|i,o::l,st,K=>aef px all T i o st λaG=>wM px all T (i+1) l aG K
def hj(px:aM R):Code->bc->(bf->bc->af R)->af R
 |.skip,st,K=>K .normal st
 |.region _ os QH,st,K=>match QH with
  |false=>ops px os os.toList st (K .normal)
  |true=>wM px os (jZ os) 0 (os.toList.take (jZ os)) st λaG=>match C0 px os aG with|true=>ops px os (os.toList.drop (jZ os)) aG (K .normal)|false=>ah
 |.seq a b,st,K=>hj px a st λe aG=>match e with|.normal=>hj px b aG K|e=>K e aG
 |.cond c a b,st,K=>match aF px st 0 c with|some (.bool x)=>cond x (hj px a st K) (hj px b st K)|_=>ah
 |.block id b,st,K=>hj px b st λe aG=>match e with
  |.exit i=>match bV i id with|true=>K .normal aG|false=>K e aG
  |e=>K e aG
 |.loop b,st,K=>px.loop b st K
 |.exit id,st,K=>K (.exit id) st
 |.scope b,st,K=>hj px b st K
 |.label _,st,K=>K .normal st
 |.ret,st,K=>K .ret st
 |.rangeFunc g bE bS body,st,K=>match aF px st 0 g with
  |some (.fn f hp)=>px.call f (.ks (st.nb+1)::hp) { st with ak:=(st.nb+1,.hc 0 st.n bE.toList bS body st.env)::(st.nb,.e' 0)::st.ak,nb:=st.nb+2,df:=.ptr st.nb (st.nb+1)::st.df } λ_ aG=>match bu aG.ak (st.nb+1)with
   |some (.hc 0 _ _ _ _ _)=>K .normal { aG with ak:=eZ aG.ak (st.nb+1) (.e' 2) }
   |some (.nN (.exit id))=>K (.exit id) { aG with ak:=eZ aG.ak (st.nb+1) (.e' 2) }
   |some (.nN .ret)=>K .ret { aG with ak:=eZ aG.ak (st.nb+1) (.e' 2) }
   |some (.lj j _ _ _ _ _ q)=>cond (aa (j=0)) (K .normal { aG with ak:=eZ aG.ak (st.nb+1) (.e' 2) }) (cond (aa (j=1)) (K .ret { aG with ak:=eZ aG.ak (st.nb+1) (.e' 2) }) (K (.exit q) { aG with ak:=eZ aG.ak (st.nb+1) (.e' 2) }))
   |_=>ah
  |_=>ah
 |_,_,_=>ah
def hh:Nat->U D->Env|_,[]=>[]|i,v::vs=>(i,v)::hh (i+1) vs
def results(px:aM R)(st:bc):U ResultVar->af (U D)
 |[]=>J []
 |.tmp t::l=>match get st.env t,results px st l with|some d,J av=>J (d::av)|_,_=>ah
 |.cell a t::l=>match get st.env a with
  |some p=>match(px.aO t).known,load px st (px.aO t) p,results px st l with|true,J d,J av=>J (d::av)|_,_,_=>ah
  |none=>ah
def gD(n:Nat)(sa:U ck)(x:au sa):bc:=⟨n,hh 0 (en 0 sa x),0,0,[],[],0,c8 0 sa,I sa,[]⟩
def w6(ak:U (Nat×c_))(d:D)(K:D->U (Nat×c_)->af R):af R:=match d with
 |.gB b c s n=>match bu ak b with
  |some (.dyn cj xs)=>match aa (c=cj)with|true=>ax (aa (0<=s)&&aa (0<=n)&&aa (s+n<=(I xs:Int))) (K (.sl cj (cut xs s (s+n)) .no) (fc ak b))|false=>ah
  |_=>ah
 |d=>K d ak
def Az(ak:U (Nat×c_)):U D->(U D->U (Nat×c_)->af R)->af R|[],K=>K [] ak|d::av,K=>w6 ak d λe a=>Az a av λb c=>K (e::b) c
def wV(ak:U (Nat×c_))(d:D)(K:D->U (Nat×c_)->af R):af R:=match d with|.agg av=>Az ak av λa b=>K (.agg a) b|d=>w6 ak d K
def wT(ak:U (Nat×c_)):U D->(U D->U (Nat×c_)->af R)->af R|[],K=>K [] ak|d::av,K=>wV ak d λe a=>wT a av λb c=>K (e::b) c
def nc:U ck->bc->U D->(U D->bc->af R)->af R
 |.sl _ ae::bH,st,.gB b c s n::av,K=>match bu st.ak b with
  |some (.dyn cj xs)=>match aa (c=cj)with
   |true=>ax (aa (s=0)&&aa (0<n)&&aa (n<=(I xs:Int))) (nc bH (hV { st with ak:=fc st.ak b }) av λa aG=>K (.sl cj (xs.take n.toNat) (.id st.ba)::a) aG)
   |false=>ah
  |_=>ah
 |_::bH,st,d::av,K=>wV st.ak d λf e=>nc bH { st with ak:=e } av λa aG=>K (f::a) aG
 |[],st,[],K=>K [] st
 |_,_,_,_=>ah
def mF(px:aM R)(fn:Func)(sa bH:U ck)(x:au sa)(fin:au bH->af R):af R:=match fn.body with
 |some c=>hj px c (gD fn.ntmps sa x) λe st=>match e with
  |.exit _=>ah
  |_=>match st.df,results px st fn.results.toList with
   |[],J rs=>nc bH st rs λa aG=>match j3 bH aG.a9 a with|some r=>fin r|none=>ah
   |_,_=>ah
 |none=>ah
def tr:ck->Bool|.int _|.bool|.str=>ae|_=>ai
def pb(sa bH:U ck)(F:au sa->af (au bH))(args:U D)(st:bc)(K:U D->bc->af R):af R:=wT st.ak args λa b=>match j3 sa st.a9 a with
 |some x=>(F x).bind λr=>K (en st.ba bH r) { st with ak:=(match bH.all tr with|true=>st.ak|false=>b),a9:=c8 st.ba bH++st.a9,ba:=st.ba+I bH }
 |none=>ah
def AQ:b1->Bool|.byte|.int|.u64|.str|.bool|.val|.tok|.cO|.qR|.pair=>ae|_=>ai
def xS(sa:U ck)(c:b1)(F:au sa->af (au [.sl c ae]))(args:U D)(st:bc)(K:U D->bc->af R):af R:=wT st.ak args λa b=>match j3 sa st.a9 a with
 |some x=>(F x).bind λr=>cond (List.isEmpty (α:=cL c) r) (K [.sl c [] .no] { st with ak:=b,nb:=st.nb+1,ba:=st.ba+1 }) (K [.gB st.nb c 0 ((List.length (α:=cL c) r:Nat):Int)] (hE { st with ak:=b,ba:=st.ba+1 } (.dyn c r)))
 |none=>ah
def qB(sa bH:U ck)(F:au sa->af (au bH))(args:U D)(K:U D->af R):af R:=match j3 sa [] args with|some x=>(F x).bind λr=>K (en 0 bH r)|none=>ah
def CR(px:aM R)(fn:Func)(args:U D)(st:bc)(K:U D->bc->af R):af R:=match fn.body with
 |some c=>hj px c { st with n:=fn.ntmps,env:=hh 0 args,cd:=st.nb,lt:=st.ba,bI:=⟨st.n,st.env,st.cd,st.lt,st.df⟩::st.bI,df:=[] } λe aG=>match e with
  |.exit _=>ah
  |_=>match aG.df,results px aG fn.results.toList,aG.bI with
   |[],J rs,f::bI=>K rs { aG with n:=f.n,env:=f.env,cd:=f.cd,lt:=f.lt,bI:=bI,df:=f.df }
   |_,_,_=>ah
 |none=>ah
def oo:U Nat->U D->Env->af Env|[],[],e=>J e|p::bE,d::av,e=>oo bE av ((p,d)::e)|_,_,_=>ah
def F3(px:aM R)(b:Nat)(av:U D)(st:bc)(K:D->bc->af R):af R:=match bu st.ak b with
 |some (.hc 0 n bE bS body env)=>match oo bE av env,bE.all (λp=>ec p n)with
  |some axw,ae=>hj px bS { st with n:=n,env:=axw,cd:=st.nb,lt:=st.ba,bI:=⟨1,[(0,.ptr b 0)],st.nb,st.ba,[]⟩::⟨st.n,st.env,st.cd,st.lt,st.df⟩::st.bI,df:=[] } λe cD=>match e,bu cD.ak b with
   |.normal,J (.hc 0 pH ayx aw9 axd axx)=>hj px body { cD with ak:=eZ cD.ak b (.hc 1 pH ayx aw9 axd axx) } λaS cH=>match cH.df,cH.bI,bu cH.ak b with
    |[],_::f::bI,J (.hc 1 vb ayy axa axe axy)=>match aS with
     |.normal=>K (.bool ae) { cH with n:=f.n,env:=f.env,cd:=f.cd,lt:=f.lt,bI:=bI,df:=f.df,ak:=eZ cH.ak b (.hc 0 vb ayy axa axe axy) }
     |aS=>K (.bool ai) { cH with n:=f.n,env:=f.env,cd:=f.cd,lt:=f.lt,bI:=bI,df:=f.df,ak:=eZ cH.ak b (.nN aS) }
    |_,_,_=>ah
   |_,_=>ah
  |_,_=>ah
 |_=>ah
def F1(px:aM R)(b:Nat)(av:U D)(st:bc)(K:D->bc->af R):af R:=match bu st.ak b with
 |some (.lj j n bE bS body env _)=>ax (aa (j=0)) (F3 px b av { st with ak:=eZ st.ak b (.hc 0 n bE bS body env) } K)
 |_=>F3 px b av st K
inductive g6 where
 |cells (l:List ck)
 |one (s:ck)
 |gO (t:Nat)
 |iT (av:List D)
 |g3 (l:List ck) (b:Nat) (c:b1)
 |rc (n:Nat) (bE:List Nat) (bS body:Code) (env:List (Nat×D)) (q:Nat)
def g6.b3:g6->U ck|.cells l=>l|.one s=>[s]|.gO _=>[.sl .byte ae]|.iT _=>[]|.g3 l _ _=>l++[.int .i64,.int .i64]|.rc _ _ _ _ _ _=>[.int .i64]
def wU:c_->D|.cells av=>.agg av|.box c y=>.aI c y|.row c n xs=>.rw c n xs|.dyn c xs=>.e3 c xs|.gO _ d=>d|.e' _=>.l4|.hc _ _ _ _ _ _=>.l4|.nN _=>.l4|.lj _ _ _ _ _ _ _=>.l4
structure bt where
 n:Nat
 vars:List (Nat×ck)
 fix:List (Nat×D)
 ak:List (Nat×g6)
 nb:Nat
 cd:Nat
 lt:Nat
 a9:List Nat
 kq:List (Nat×Nat×b1):=[]
def rb:U (Nat×Nat×b1)->U ck|[]=>[]|_::l=>.int .i64 :: .int .i64::rb l
def bt.b3(s:bt):U ck:=s.vars.map (·.2)++((s.ak.map (·.2.b3)).flatten++rb s.kq)
def n'(env:Env):U (Nat×ck)->af (U D)|[]=>J []|(k,_)::l=>match get env k,n' env l with|some d,J av=>J (d::av)|_,_=>ah
def x3:U D->U D->Bool|[],[]=>ae|.ptr b o::l,.ptr bQ o'::m=>bV b bQ&&bV o o'&&x3 l m|_,_=>ai
def yW:U D->U D->Bool|[],[]=>ae|.str a::l,.str b::m=>aa (a=b)&&yW l m|_,_=>ai
def yc:D->D->Bool|.ptr b o,.ptr bQ o'=>bV b bQ&&bV o o'|.fn f cs,.fn fl cs'=>bV f fl&&x3 cs cs'|.kL f cs,.kL fl cs'=>bV f fl&&x3 cs cs'|.lf g,.lf iU=>bV g iU|.ks b,.ks bQ=>bV b bQ|.kS,.kS=>ae|.agg l,.agg m=>yW l m|_,_=>ai
def x0:U D->U D->Bool|[],[]=>ae|a::l,b::m=>yc a b&&x0 l m|_,_=>ai
def wA:Nat->Nat->b1->U D->af (U D)
 |0,b,c,[.gB bQ cj s n]=>match bV bQ b&&aa (cj = c)with|true=>J [.int .i64 s,.int .i64 n]|false=>ah
 |k+1,b,c,d::av=>match wA k b c av with|some a=>J (d::a)|none=>ah
 |_,_,_,_=>ah
def po:Nat->Nat->b1->U D->U D|0,b,c,.int _ s :: .int _ n::_=>[.gB b c s n]|k+1,b,c,d::av=>d::po k b c av|_,_,_,_=>[]
def NT:aA->aA->Bool|.int k n,.int eh hr=>aa (k=eh)&&aa (n=hr)|.bool a,.bool b=>a == b|.slice ah 0 0,.slice ah 0 0=>ae|_,_=>ai
def oh:ct->ct->Bool|.tmp a,.tmp b=>bV a b|.const v,.const w=>NT v w|_,_=>ai
def vN:U ct->U ct->Bool|[],[]=>ae|a::l,b::m=>oh a b&&vN l m|_,_=>ai
def sZ:U Nat->U Nat->Bool|[],[]=>ae|a::l,b::m=>bV a b&&sZ l m|_,_=>ai
def yS:U (Nat×ct)->U (Nat×ct)->Bool|[],[]=>ae|(i,a)::l,(j,b)::m=>bV i j&&oh a b&&yS l m|_,_=>ai
def Pr:Op->Op->Bool|.alloc t,.alloc t'=>bV t t'|.store t a b,.store t' bC bQ=>bV t t'&&oh a bC&&oh b bQ|.load t a,.load t' bC=>bV t t'&&oh a bC|.fieldAddr t a f,.fieldAddr t' bC fl=>bV t t'&&oh a bC&&bV f fl|.binOp o t a b u,.binOp o' t' bC bQ iK=>aa (o=o')&&bV t t'&&oh a bC&&oh b bQ&&bV u iK|.buildSlice t n ⟨l⟩,.buildSlice t' hr ⟨m⟩=>bV t t'&&bV n hr&&yS l m|.call ⟨.builtin f,⟨xs⟩,⟨hd⟩⟩,.call ⟨.builtin g,⟨ys⟩,⟨us⟩⟩=>aa (f=g)&&vN xs ys&&sZ hd us|_,_=>ai
def yN:U Edge->U Edge->Bool|[],[]=>ae|⟨a,g⟩::l,⟨b,h⟩::m=>bV a b&&aa (g=h)&&yN l m|_,_=>ai
def yQ:U bw->U bw->Bool|[],[]=>ae|⟨d,o,t,p,⟨a⟩,g⟩::l,⟨hq,o',t',sv,⟨bC⟩,iU⟩::m=>aa (d=hq)&&Pr o o'&&bV t t'&&aa (p=sv)&&yN a bC&&aa (g=iU)&&yQ l m|_,_=>ai
def il:Code->Code->Bool|.skip,.skip=>ae|.ret,.ret=>ae|.exit i,.exit j=>bV i j|.region i ⟨l⟩ d,.region j ⟨m⟩ e=>bV i j&&yQ l m&&(d == e)|.seq a b,.seq bC bQ=>il a bC&&il b bQ|.cond c a b,.cond cj bC bQ=>oh c cj&&il a bC&&il b bQ|.block i b,.block j bQ=>bV i j&&il b bQ|_,_=>ai
def p8(env:Env):U (Nat×D)->Bool|[]=>ae|(k,d)::l=>match get env k with|some a=>yc d a&&p8 env l|none=>ai
def C7(n:Nat)(bE:U Nat)(bS body:Code)(env:U (Nat×D))(e:Nat)(d:U Nat)(b a:Code)(c:Env):Bool:=bV n e&&sZ bE d&&il bS b&&il body a&&p8 c env
def AF(n:Nat)(bE:U Nat)(bS body:Code)(env:U (Nat×D))(q:Nat):c_->af Int
 |.hc s e d b a c=>match bV s 0&&C7 n bE bS body env e d b a c with|true=>J 0|false=>ah
 |.nN .ret=>J 1
 |.nN (.exit i)=>match bV i q with|true=>J 2|false=>ah
 |.lj j e d b a c f=>match bV f q&&C7 n bE bS body env e d b a c with|true=>J j|false=>ah
 |_=>ah
def hv(ak:U (Nat×c_)):U (Nat×g6)->af (U D)
 |[]=>J []
 |(b,.cells l)::r=>match bu ak b,hv ak r with
  |some (.cells av),J es=>match bV (I av) (I l) with|true=>J (av++es)|false=>ah
  |_,_=>ah
 |(b,.one _)::r=>match bu ak b,hv ak r with|some (.gO _ _),_=>ah|some (.e' _),_=>ah|some (.hc _ _ _ _ _ _),_=>ah|some (.nN _),_=>ah|some (.lj _ _ _ _ _ _ _),_=>ah|some k,J es=>J (wU k::es)|_,_=>ah
 |(b,.gO t)::r=>match bu ak b,hv ak r with
  |some (.gO t' d),J es=>match bV t' t with|true=>J (d::es)|false=>ah
  |_,_=>ah
 |(b,.iT av)::r=>match bu ak b,hv ak r with
  |some (.cells a),J es=>match x0 av a with|true=>J es|false=>ah
  |_,_=>ah
 |(b,.g3 l du c)::r=>match bu ak b,hv ak r with
  |some (.cells av),J es=>match wA (I l) du c av with|some a=>J (a++es)|none=>ah
  |_,_=>ah
 |(b,.rc n bE bS body env q)::r=>match bu ak b,hv ak r with
  |some k,J es=>match AF n bE bS body env q k with|some j=>J (.int .i64 j::es)|none=>ah
  |_,_=>ah
def r1(env:Env):U (Nat×Nat×b1)->af (U D)
 |[]=>J []
 |(k,b,c)::l=>match get env k,r1 env l with
  |some (.gB bQ cj s n),J av=>match bV bQ b&&aa (cj = c)with|true=>J (.int .i64 s :: .int .i64 n::av)|false=>ah
  |_,_=>ah
def im:U Nat->U Nat->Bool|[],[]=>ae|a::l,b::m=>bV a b&&im l m|_,_=>ai
def ly(s:bt)(st:bc):af (au s.b3):=match n' st.env s.vars,hv st.ak s.ak,r1 st.env s.kq,p8 st.env s.fix&&bV st.n s.n&&bV st.cd s.cd&&bV st.lt s.lt&&st.df.isEmpty&&s.a9.all (λt=>ec t s.lt&&st.a9.contains t)with|some a,J b,J o,ae=>j3 s.b3 (st.a9.filter λt=> !s.a9.contains t) (a++(b++o))|_,_,_,_=>ah
def q7:U (Nat×ck)->U D->Env×U D
 |(k,_)::l,d::av=>match q7 l av with|(e,r)=>((k,d)::e,r)
 |_,r=>([],r)
def age:D->c_|.aI c y=>.box c y|.rw c n xs=>.row c n xs|.e3 c xs=>.dyn c xs|d=>.cells (cells d)
def eQ:U (Nat×g6)->U D->U (Nat×c_)|[],_=>[]|(b,.cells l)::r,av=>(b,.cells (av.take (I l)))::eQ r (av.drop (I l))|(b,.one _)::r,d::av=>(b,age d)::eQ r av|(b,.one _)::r,[]=>(b,.cells [])::eQ r []|(b,.gO t)::r,d::av=>(b,.gO t d)::eQ r av|(b,.gO _)::r,[]=>(b,.cells [])::eQ r []|(b,.iT l)::r,av=>(b,.cells l)::eQ r av|(b,.g3 l du c)::r,av=>(b,.cells (po (I l) du c av))::eQ r (av.drop (I l+2))|(b,.rc n bE bS body env q)::r,.int _ j::av=>(b,.lj j n bE bS body env q)::eQ r av|(b,.rc _ _ _ _ _ _)::r,av=>(b,.e' 2)::eQ r (av.drop 1)
def pX:U (Nat×Nat×b1)->U D->Env|(k,b,c)::l,.int _ s :: .int _ n::av=>(k,.gB b c s n)::pX l av|_,_=>[]
def jq(s:bt)(bI:U Fr)(x:au s.b3):bc:=match q7 s.vars (en s.lt s.b3 x)with|(e,r)=>⟨s.n,e++(s.fix++pX s.kq (r.drop (I ((s.ak.map (·.2.b3)).flatten)))),s.cd,s.lt,bI,eQ s.ak r,s.nb,c8 s.lt s.b3++s.a9,s.lt+I s.b3,[]⟩
def aT{V:Type}(step:(V->af R)->V->af R):Nat->V->af R|0,_=>ah|n+1,v=>step (aT step n) v
abbrev oQ(V R:Type):=(V->af R)->(bf->V->af R)->V->af R
def round(px:aM R)(s:bt)(b:Code)(bI:U Fr):oQ (au s.b3) R:=λa kx v=>hj px b (jq s bI v) λe st=>match ly s st with
 |some c=>match e with|.normal=>a c|e=>kx e c
 |none=>ah
def cq(k:Nat)(s:bt)(step:oQ (au s.b3) R)(st:bc)(K:bf->bc->af R):af R:=match ly s st with|some v=>aT (λa=>step a (λe b=>K e (jq s st.bI b))) k v|none=>ah
def aeh(a:aM R)(b:Code)(st:bc)(K:bf->bc->af R):af R:=hj a b st λe aG=>match e with|.normal=>ah|e=>K e aG
def CV(a:aM R)(b:Code)(k:Nat)(s:bt)(step:oQ (au s.b3) R)(st:bc)(K:bf->bc->af R):af R:=match ly s st with|some _=>cq k s step st K|none=>aeh a b st K
def AM(a:aM R)(b:Code):Nat->bc->(bf->bc->af R)->af R|0,_,_=>ah|n+1,st,K=>hj a b st λe aG=>match e with|.normal=>AM a b n aG K|e=>K e aG
def BP:Code->Nat|.region id _ _=>id|.seq a _=>BP a|.block _ b=>BP b|.loop b=>BP b|.scope b=>BP b|_=>0
end
def gr:Code->U Code|.seq a b=>gr a++gr b|.cond _ a b=>gr a++gr b|.block _ b=>gr b|.loop b=>b::gr b|.scope b=>gr b|_=>[]
def rY:Code->U (U Nat×Code×Code)|.seq a b=>rY a++rY b|.cond _ a b=>rY a++rY b|.block _ b=>rY b|.loop b=>rY b|.scope b=>rY b|.rangeFunc _ bE bS body=>[(bE.toList,bS,body)]|_=>[]
def rd(fn:Func)(i:Nat):U Nat×Code×Code:=match fn.body with|some c=>(rY c).getD i ([],.skip,.skip)|none=>([],.skip,.skip)
def b_(fn:Func)(i:Nat):Code:=match fn.body with|some c=>(gr c).getD i .skip|none=>.skip
open Go.RowKit
abbrev g7:=Nat->Nat->Prop
structure bF (S:g7) (w w':aK):Prop where
 os:w'.os=w.os
 tape:w'.tape=w.tape
 output:w'.output=w.output
 size:w.heap.size<=w'.heap.size
 block:∀k,k<w.heap.size->(∀i,¬S k i)->w'.heap[k]? = w.heap[k]?
 cell:∀b i v,w.cell? ⟨b,i,ah⟩=J v->¬S b i->w'.cell? ⟨b,i,ah⟩=J v
 shape:∀(b:Nat) (cs:Array aA) (t:bD) (f:Nat×Nat),w.heap[b]? = J (.cells cs t f)->∃cs' fl,w'.heap[b]? = J (.cells cs' t fl)/\cs'.size=cs.size
variable{w:aK}
theorem Ab{b i:Nat}{v:aA}(h:w.cell? ⟨b,i,ah⟩=J v):b<w.heap.size:=aK.block_lt_of_cell? w ⟨b,i,ah⟩ h
theorem bF.refl(S:g7)(w:aK):bF S w w:=⟨rfl,rfl,rfl,b2 _,λ_ _ _=>rfl,λ_ _ _ h _=>h,λ_ cs _ f h=>⟨cs,f,h,rfl⟩⟩
variable{a:aK}
theorem bF.later{S T:g7}{b c:aK}(h:bF S a b)(j:∀k i,T k i->S k i\/a.heap.size<=k)(k:bF T b c):bF S a c:=by
 refine⟨k.os.trans h.os,k.tape.trans h.tape,k.output.trans h.output,e2 h.size k.size,λq d e=>?_,λq i v aE e=>?_,λq cs t f d=>by obtain⟨c1,f1,h1,h2⟩:=h.shape q cs t f d;obtain⟨c2,l,h3,h4⟩:=k.shape q c1 t f1 h1;exact⟨c2,l,h3,h4.trans h2⟩⟩
 .rw[k.block q (gy d h.size) (λi hi=>?_)]
  .exact h.block q d e
  .grind
 .refine k.cell q i v (h.cell q i v aE e) λhi=>?_;rcases j q i hi with g|g
  .exact e g
  .have:=Ab aE;omega
theorem bF.trans{S:g7}{b c:aK}(h:bF S a b)(k:bF S b c):bF S a c:=h.later (λ_ _ h=>.inl h) k
theorem bF.mono{S T:g7}{b:aK}(h:bF S a b)(d:∀k i,S k i->T k i):bF T a b:=⟨h.os,h.tape,h.output,h.size,λk e c=>h.block k e (λi hm=>c i (d k i hm)),λb i v aE c=>h.cell b i v aE (λhm=>c (d b i hm)),h.shape⟩
def er:g7:=λ_ _=>False
variable{w':aK}
theorem bF.y'{S:g7}(c:w'.os=w.os)(d:w'.tape=w.tape)(e:w'.output=w.output)(g:w.heap.size<=w'.heap.size)(aj:∀k,k<w.heap.size->w'.heap[k]? = w.heap[k]?):bF S w w':=⟨c,d,e,g,λk j _=>aj k j,λb i v aE _=>by rw[aK.cell?_of_block (a:=⟨b,i,ah⟩) (aj b (Ab aE))];exact aE,λb cs t f h=>⟨cs,f,by rw[aj b (gG.1 h).1];exact h,rfl⟩⟩
theorem ahT(w:aK)(a:Addr)(v:aA):∀(b:Nat) (cs:Array aA) (t:bD) (f:Nat×Nat),w.heap[b]? = J (.cells cs t f)->∃cs' fl,(w.setCell a v).heap[b]? = J (.cells cs' t fl)/\cs'.size=cs.size:=λb cs t f h=>by
 by_cases aj:b=a.block
 .subst aj;refine⟨if a.spot.isSome then cs else cs.setIfInBounds a.off v,f,?_,by split<;>simp⟩;simp[aK.setCell,Array.getElem?_modify,h]
 .exact⟨cs,f,by rw[Below.heap_setCell _ _ _ _ aj];exact h,rfl⟩
theorem bF.drew(S:g7)(w:aK):bF S w w.drew:=.y' rfl rfl rfl (b2 _) λ_ _=>rfl
theorem bF.drawn(S:g7)(w:aK)(n:Nat):bF S w { w with drawn:=n }:=.y' rfl rfl rfl (b2 _) λ_ _=>rfl
theorem bF.alloc(S:g7)(w:aK)(o:Obj):bF S w (w.alloc o):=.y' rfl rfl rfl (by simp) λk a=>Below.heap_alloc _ _ _ a
theorem bF.below(h:bF er w w'):Below w.heap.size w w':=⟨h.os,h.tape,h.output,h.size,λk a=>h.block k a (λ_ h=>h)⟩
theorem bF.ayb{S:g7}(h:Below w.heap.size w w'):bF S w w':=.y' h.os h.tape h.output h.size h.block
theorem ij(c:b1)(x:cL c):I (enc c x)=aL c:=Gy
theorem EH(c:b1) : 0<aL c:=by cases c<;>simp[aL]
def awb(t:hY)(a:af Addr)(cap:Nat):Prop:=match t with|.nil=>a=ah/\cap=0|.ne=>a≠ah|.vq=>a≠ah/\cap=0|_=>True
inductive i' (w:aK):D->aA->Prop
 |int (k:b') (n:Int):gv k n=ae->i' w (.int k n) (.int k n)
 |bool (b:Bool):i' w (.bool b) (.bool b)
 |str (l:ar):I l<=c5->i' w (.str l) (.string ⟨l.toArray⟩)
 |nil (c:b1) (t:hY) (a:Option Addr) (cap:Nat):awb t a cap->i' w (.sl c [] t) (.slice a 0 cap)
 |sl (c:b1) (xs:List (cL c)) (t:hY) (b o cap:Nat) (u:Nat->aA) (hle:I xs<=cap) (hm:cap<=c5)
   (an:∀i x j d,xs[i]? = J x->(enc c x)[j]? = J d->w.cell? ⟨b,o+(i*aL c+j),ah⟩=J (u (i*aL c+j)))
   (h:∀i x j d,xs[i]? = J x->(enc c x)[j]? = J d->i' w d (u (i*aL c+j))):i' w (.sl c xs t) (.slice (J ⟨b,o,ah⟩) (I xs) cap)
def eI(S:g7)(w:aK)(d:D)(v:aA):Prop:=∀w',bF S w w'->i' w' d v
theorem eI.here{S:g7}{d:D}{v:aA}(h:eI S w d v):i' w d v:=h w (bF.refl S w)
theorem eI.later{S T:g7}{d:D}{v:aA}(h:eI S w d v)(an:bF S w w')(c:∀k i,T k i->S k i\/w.heap.size<=k):eI T w' d v:=λa b=>h a (an.later c b)
def lq(w:aK)(c:b1)(x:cL c)(b o:Nat):Prop:=∀j d,(enc c x)[j]? = J d->∃u,w.cell? ⟨b,o+j,ah⟩=J u/\i' w d u
variable{c:b1}{t:hY}{xs:U (cL c)}
theorem i'.slice{v:aA}(h:i' w (.sl c xs t) v) :
  ∃a cap,v = .slice a (I xs) cap/\(xs=[]\/∃b o,a=J ⟨b,o,ah⟩/\(I xs<=cap/\cap<=c5)/\∀i x,xs[i]? = J x->lq w c x b (o+i*aL c)):=by
 cases h with|nil c t a cap=>simp_all|sl c xs t b o cap u hle hm an h=>refine⟨_,cap,rfl,.inr ⟨b,o,rfl,⟨hle,hm⟩,λi x e j d ao=>⟨u (i*aL c+j),?_,h i x j d e ao⟩⟩⟩;rw[Nat.add_assoc];exact an i x j d e ao
theorem i'.mkSlice{b o cap:Nat}(hle:I xs<=cap/\cap<=c5)(h:∀i x,xs[i]? = J x->lq w c x b (o+i*aL c)):i' w (.sl c xs t) (.slice (J ⟨b,o,ah⟩) (I xs) cap):=by
 have key:∀i x j d,xs[i]? = J x->(enc c x)[j]? = J d->∃u,w.cell? ⟨b,o+(i*aL c+j),ah⟩=J u/\i' w d u:=λi x j d a ao=>by have:=h i x a j d ao;rwa[Nat.add_assoc]at this
 refine .sl c xs t b o cap (λk=>(w.cell? ⟨b,o+k,ah⟩).getD default) hle.1 hle.2 (λi x j d a ao=>?_) (λi x j d a ao=>?_)
 .grind
 .grind
theorem i'.ax5{v:aA}{a:af Addr}{cap:Nat}(aE:v = .slice a (I xs) cap)(h:xs=[]\/∃b o,a=J ⟨b,o,ah⟩/\(I xs<=cap/\cap<=c5)/\∀i x,xs[i]? = J x->lq w c x b (o+i*aL c)):i' w (.sl c xs .no) v:=by
 rcases h with rfl|⟨b,o,rfl,hle,h⟩
 .subst aE;exact .nil c .no a cap trivial
 .subst aE;exact .mkSlice hle h
theorem i'.len{v:aA}(h:i' w (.sl c xs t) v):I xs<=maxLen:=by
 obtain⟨_,_,_,rfl|⟨_,_,_,h,_⟩⟩:=h.slice
 .simp
 .omega
def F9(l:U (Int×ar))(es:U MapEntry):Prop:=∀n,I (lH l n)<=c5/\((Instr.findNow (.int .i64) (.int .i64 n) es 0=J ah/\lH l n=[])\/∃i,Instr.findNow (.int .i64) (.int .i64 n) es 0=J (J (i,.string ⟨(lH l n).toArray⟩)))
structure dg where
 ak:Nat->Nat
 a9:Nat->Option (Nat×Nat)
structure cM where
 m:dg
 cc:Nat->Prop
 S:g7
 w:aK
 nb:Nat
 ba:Nat
 el:b1->bD
def awa(x:cM)(t:Nat)(c:b1)(xs:U (cL c))(v:aA):Prop:=(v = .slice ah 0 0/\x.m.a9 t=ah/\xs=[])\/∃g cap cur,v = .slice (J ⟨g,0,ah⟩) (I xs) cap/\x.m.a9 t=J (g,I xs*aL c)/\x.w.heap[g]? = J (.cells cur (x.el c) (0,0))/\cur.size=cap*aL c/\I xs<=cap/\cap<=c5
def qJ(x:cM)(c:b1)(xs:U (cL c))(v:aA):hY->Prop|.no=>True|.nil=>v = .slice ah 0 0/\xs=[]|.id t=>t<x.ba/\(x.cc t->awa x t c xs v)|.z=>xs=[]/\∃a,v = .slice a 0 0|.ne=>xs=[]->∃a cap,v = .slice (J a) 0 cap|.vq=>xs=[]/\∃a,v = .slice (J a) 0 0|.f=>∃a,v = .slice a (I xs) (I xs)
mutual
def aB(x:cM):D->aA->Prop|.bool b,v=>v = .bool b|.int k n,v=>v = .int k n/\gv k n=ae|.str l,v=>v = .string ⟨l.toArray⟩/\I l<=c5|.sl c xs t,v=>eI x.S x.w (.sl c xs .no) v/\qJ x c xs v t|.aI c y,v=>eV c=ae/\∃vs:U aA,v = .agg vs.toArray/\I vs=aL c/\∀(j:Nat) d,(enc c y)[j]? = J d->∃u,vs[j]? = J u/\eI x.S x.w d u|.lb c y off,v=>∃b o,v = .pointer (J ⟨b,o+off,ah⟩)/\∀w',bF x.S x.w w'->lq w' c y b o|.ptr b off,v=>b<x.nb/\v = .pointer (J ⟨x.m.ak b,off,ah⟩)|.kS,v=>v = .pointer ah|.lf g,v=>v = .pointer (J ⟨g,0,ah⟩)|.Co l,v=>∃r es e,v = .map (J r)/\(∀w',bF x.S x.w w'->w'.heap[r]? = J (.map es e))/\F9 l es.toList|.gB b c s n,v=>b<x.nb/\0<=s/\0<=n/\s+n<=(c5:Int)/\∃a cap,v = .slice a n.toNat cap/\(n=0\/a=J ⟨x.m.ak b,s.toNat*aL c,ah⟩)/\n.toNat<=cap/\cap<=c5/\∃cur f,x.w.heap[x.m.ak b]? = J (.cells cur (x.el c) f)/\cur.size=(s.toNat+cap)*aL c|.ou b c i,v=>b<x.nb/\v = .pointer (J ⟨x.m.ak b,i.toNat*aL c,ah⟩)/\0<=i|.e3 c xs,v=>I xs<=c5/\∃vs:U aA,v = .agg vs.toArray/\I xs*aL c<=I vs/\∀i y j d,xs[i]? = J y->(enc c y)[j]? = J d->∃u,vs[i*aL c+j]? = J u/\eI x.S x.w d u|.lP b c n i,v=>b<x.nb/\v = .pointer (J ⟨x.m.ak b,i.toNat*aL c,ah⟩)/\0<=i/\i<(n:Int)|.rw c n xs,v=>I xs=n/\∃vs:U aA,v = .agg vs.toArray/\I vs=I xs*aL c/\∀i y j d,xs[i]? = J y->(enc c y)[j]? = J d->∃u,vs[i*aL c+j]? = J u/\eI x.S x.w d u|.fn f hp,v=>∃vs:U aA,v = .func (.func f) #[] vs.toArray/\aX x hp vs|.kL f az,v=>∃vs:U aA,v = .func (.func f) vs.toArray #[]/\aX x az vs|.oC,v=>v = .nilFunc|.ks b,v=>b<x.nb/\v = .func (.yield (x.m.ak b)) #[] #[]|.agg av,v=>av.all cv=ae/\∃vs:U aA,v = .agg vs.toArray/\aX x av vs|.pN av,v=>∃vs:U aA,v = .tuple vs.toArray/\aX x av vs|.undef,v=>v = .tuple #[]|.l4,_=>True
def aX(x:cM):U D->U aA->Prop|[],vs=>vs=[]|d::av,vs=>∃u us,vs=u::us/\aB x d u/\aX x av us
end
structure eD (x x':cM):Prop where
 dV:bF x.S x.w x'.w
 dI:∀b i,x'.S b i->x.S b i\/x.w.heap.size<=b
 el:x'.el=x.el
 ak:∀b,b<x.nb->x'.m.ak b=x.m.ak b
 nb:x.nb<=x'.nb
 ba:x.ba<=x'.ba
 a9:∀t,t<x.ba->x'.cc t->x.cc t/\x'.m.a9 t=x.m.a9 t/\∀g o,x.m.a9 t=J (g,o)->x'.w.heap[g]? = x.w.heap[g]?
variable{x:cM}{x':cM}
theorem eD.rf(h:eD x x'){d:D}{v:aA}(a:eI x.S x.w d v):eI x'.S x'.w d v:=a.later h.dV h.dI
theorem qJ.later(h:eD x x'){v:aA}(e:qJ x c xs v t):qJ x' c xs v t:=by
 cases t with
 |no=>trivial
 |nil=>exact e
 |z=>exact e
 |ne=>exact e
 |vq=>exact e
 |f=>exact e
 |id t=>
  obtain⟨i,e⟩:=e;refine⟨gy i h.ba,λj=>?_⟩;obtain⟨h1,h2,h3⟩:=h.a9 t i j;rcases e h1 with ⟨a,b,c⟩|⟨g,cap,cur,a,b,c,d⟩
  .exact .inl ⟨a,h2.trans b,c⟩
  .refine .inr ⟨g,cap,cur,a,h2.trans b,?_,d⟩;rw[h3 g _ b,h.el];exact c
mutual
theorem aB.later{x x':cM}(h:eD x x'):∀(d:D) (v:aA),aB x d v->aB x' d v
 |.bool _,_,e=>by simpa[aB]using e
 |.int _ _,_,e=>by simpa[aB]using e
 |.str _,_,e=>by simpa[aB]using e
 |.sl c xs t,v,e=>by simp only[aB]at e ⊢;exact⟨h.rf e.1,e.2.later h⟩
 |.aI c y,v,e=>by simp only[aB]at e ⊢;obtain⟨cI,vs,aE,g,e⟩:=e;exact⟨cI,vs,aE,g,λj d ao=>by obtain⟨u,k,m⟩:=e j d ao;exact⟨u,k,h.rf m⟩⟩
 |.lb c y off,v,e=>by simp only[aB]at e ⊢;obtain⟨b,o,aE,e⟩:=e;exact⟨b,o,aE,λw' q=>e w' (h.dV.later h.dI q)⟩
 |.ptr b off,v,e=>by simp only[aB]at e ⊢;exact⟨gy e.1 h.nb,by rw[h.ak b e.1];exact e.2⟩
 |.kS,_,e=>by simpa[aB]using e
 |.lf _,_,e=>by simpa[aB]using e
 |.Co l,v,e=>by simp only[aB]at e ⊢;obtain⟨r,es,w,aE,h1,h2⟩:=e;exact⟨r,es,w,aE,λw' q=>h1 w' (h.dV.later h.dI q),h2⟩
 |.gB b c s n,v,e=>by simp only[aB]at e ⊢;obtain⟨h1,h2,h3,h4,a,cap,h5,h6,h7,lL,cur,f,l3,z⟩:=e;obtain⟨p,fl,gJ,fm⟩:=h.dV.shape _ _ _ _ l3;exact⟨gy h1 h.nb,h2,h3,h4,a,cap,h5,by rw[h.ak b h1];exact h6,h7,lL,p,fl,by rw[h.ak b h1,h.el];exact gJ,fm.trans z⟩
 |.ou b c i,v,e=>by simp only[aB]at e ⊢;exact⟨gy e.1 h.nb,by rw[h.ak b e.1];exact e.2⟩
 |.e3 c xs,v,e=>by simp only[aB]at e ⊢;obtain⟨cJ,vs,aE,g,e⟩:=e;exact⟨cJ,vs,aE,g,λi y j d bN ao=>by obtain⟨u,k,m⟩:=e i y j d bN ao;exact⟨u,k,h.rf m⟩⟩
 |.lP b c n i,v,e=>by simp only[aB]at e ⊢;exact⟨gy e.1 h.nb,by rw[h.ak b e.1];exact e.2⟩
 |.rw c n xs,v,e=>by simp only[aB]at e ⊢;obtain⟨cJ,vs,aE,g,e⟩:=e;exact⟨cJ,vs,aE,g,λi y j d bN ao=>by obtain⟨u,k,m⟩:=e i y j d bN ao;exact⟨u,k,h.rf m⟩⟩
 |.fn f hp,v,e=>by simp only[aB]at e ⊢;obtain⟨vs,aE,e⟩:=e;exact⟨vs,aE,aX.later h hp vs e⟩
 |.kL f az,v,e=>by simp only[aB]at e ⊢;obtain⟨vs,aE,e⟩:=e;exact⟨vs,aE,aX.later h az vs e⟩
 |.oC,_,e=>by simpa[aB]using e
 |.ks b,v,e=>by simp only[aB]at e ⊢;exact⟨gy e.1 h.nb,by rw[h.ak b e.1];exact e.2⟩
 |.agg av,v,e=>by simp only[aB]at e ⊢;obtain⟨g,vs,aE,e⟩:=e;exact⟨g,vs,aE,aX.later h av vs e⟩
 |.pN av,v,e=>by simp only[aB]at e ⊢;obtain⟨vs,aE,e⟩:=e;exact⟨vs,aE,aX.later h av vs e⟩
 |.undef,_,e=>by simpa[aB]using e
 |.l4,_,_=>by simp[aB]
theorem aX.later{x x':cM}(h:eD x x'):∀(av:U D) (vs:U aA),aX x av vs->aX x' av vs
 |[],_,ay=>by simpa[aX]using ay
 |d::av,vs,ay=>by simp only[aX]at ay ⊢;obtain⟨u,us,aE,h1,h2⟩:=ay;exact⟨u,us,aE,aB.later h d u h1,aX.later h av us h2⟩
end
theorem aX.len:∀{av:U D}{vs:U aA},aX x av vs->I vs=I av
 |[],_,ay=>by simp[aX]at ay;simp[ay]
 |d::av,vs,ay=>by simp[aX]at ay;obtain⟨u,us,rfl,_,h2⟩:=ay;simp[aX.len h2]
theorem aX.get:∀{av:U D}{vs:U aA},aX x av vs->∀{i:Nat}{d:D},av[i]? = J d->∃v,vs[i]? = J v/\aB x d v
 |[],_,_,i,d,ao=>by simp at ao
 |d0::av,vs,a,i,d,ao=>by simp[aX]at a;obtain⟨u,us,rfl,h1,h2⟩:=a;cases i with|zero=>simp at ao;subst ao;exact⟨u,by simp,h1⟩|succ i=>simp at ao;obtain⟨v,aE,a⟩:=aX.get h2 ao;exact⟨v,by simpa using aE,a⟩
theorem aX.mk:∀{av:U D}{vs:U aA},I vs=I av->(∀(i:Nat) d v,av[i]? = J d->vs[i]? = J v->aB x d v)->aX x av vs
 |[],vs,bB,_=>by simp[aX];exact List.eq_nil_of_length_eq_zero bB
 |d::av,[],bB,_=>by simp at bB
 |d::av,u::us,bB,h=>by simp only[aX];exact⟨u,us,rfl,h 0 d u (by simp) (by simp),aX.mk qh λi d v ao aE=>h (i+1) d v xd Gu⟩
theorem aX.append{av es:U D}{vs us:U aA}(h:aX x av vs)(k:aX x es us):aX x (av++es) (vs++us):=by induction av generalizing vs with|nil=>simp[aX]at h;subst h;simpa using k|cons d av a=>simp[aX]at h;obtain⟨u,r,rfl,h1,h2⟩:=h;simp only[gY];exact⟨u,r++us,rfl,h1,a h2⟩
end Go.dS
namespace Go.aw
open Go.RowKit
abbrev Env:=U (Nat×aA)
def Env.get:Env->Nat->af aA|[],_=>ah|(k,v)::e,n=>match bV k n with|true=>J v|false=>Env.get e n
def Env.aF(e:Env):ct->af aA|.tmp t=>Env.get e t|.const v=>J v|.global g=>J (.pointer (J ⟨g,0,ah⟩))|.func f=>J (.func (.func f) #[] #[])
def Env.fJ(e:Env):U ct->af (U aA)
 |[]=>J []
 |x::xs=>match Env.aF e x with
  |none=>ah
  |some v=>match Env.fJ e xs with|none=>ah|some vs=>J (v::vs)
structure jl (n:Nat) (e:Env) (a:Act):Prop where
 defers:a.defers=[]
 size:a.tmps.size=n
 get:∀k v,Env.get e k=J v->a.tmps[k]? = J v
variable{a:Act}{x:ct}
theorem jl.aF{n:Nat}{e:Env}(h:jl n e a){v:aA}(b:Env.aF e x=J v):a.eval x=v:=by cases x with|tmp t=>have:=h.get t v b;simp[Act.eval,this]|const u=>simpa[Env.aF,Act.eval]using b|global g=>simpa[Env.aF,Act.eval]using b|func f=>simpa[Env.aF,Act.eval]using b
theorem jl.fJ{n:Nat}{e:Env}(h:jl n e a):∀{xs:U ct}{vs:U aA},Env.fJ e xs=J vs->xs.map a.eval=vs
 |[],vs,aW=>by simp[Env.fJ]at aW;simp[aW]
 |x::xs,vs,aW=>by
  simp[Env.fJ]at aW;cases aE:Env.aF e x with
  |none=>simp[aE]at aW
  |some v=>rw[aE]at aW;cases b:Env.fJ e xs with|none=>simp[b]at aW|some r=>simp[b]at aW;subst aW;simp[h.aF aE,jl.fJ h b]
theorem jl.put{n:Nat}{e:Env}(h:jl n e a){d:Nat}(ao:ec d n=ae)(v:aA):jl n ((d,v)::e) (a.put (J d) v):=by
 have c:d<n:=xd
 refine⟨by simpa[Act.put]using h.defers,by simpa[Act.put]using h.size,λk u b=>?_⟩;simp[Env.get]at b;cases aj:bV d k with
 |true=>
  have f:d=k:=cU aj;subst f;simp at b;subst b;have:d<a.tmps.size:=by rw[h.size];exact c
  simp[Act.put,this]
 |false=>
  rw[aj]at b;have g:d≠k:=Nat.ne_of_beq_eq_false aj;have:=h.get k u b;simp[Act.put]
  grind
structure bF (S:List Nat) (w w':aK):Prop where
 os:w'.os=w.os
 tape:w'.tape=w.tape
 output:w'.output=w.output
 size:w.heap.size<=w'.heap.size
 block:∀k,k<w.heap.size->k∉S->w'.heap[k]? = w.heap[k]?
theorem bF.refl(S:U Nat)(w:aK):bF S w w:=⟨rfl,rfl,rfl,b2 _,λ_ _ _=>rfl⟩
theorem bF.trans{S:U Nat}{a b c:aK}(h:bF S a b)(k:bF S b c):bF S a c:=⟨k.os.trans h.os,k.tape.trans h.tape,k.output.trans h.output,e2 h.size k.size,λi hi d=>(k.block i (gy hi h.size) d).trans (h.block i hi d)⟩
theorem bF.mono{S T:U Nat}{a b:aK}(h:bF S a b)(c:∀x,x∈S->x∈T):bF T a b:=⟨h.os,h.tape,h.output,h.size,λk d e=>h.block k d (λhm=>e (c k hm))⟩
theorem bF.drew(S:U Nat)(w:aK):bF S w w.drew:=⟨rfl,rfl,rfl,b2 _,λ_ _ _=>rfl⟩
theorem bF.drawn(S:U Nat)(w:aK)(n:Nat):bF S w { w with drawn:=n }:=⟨rfl,rfl,rfl,b2 _,λ_ _ _=>rfl⟩
theorem bF.alloc(S:U Nat)(w:aK)(o:Obj):bF S w (w.alloc o):=⟨rfl,rfl,rfl,by simp,λk a _=>Below.heap_alloc _ _ _ a⟩
theorem bF.setCell{S:U Nat}(w:aK){p:Addr}(a:p.block∈S)(u:aA):bF S w (w.setCell p u):=⟨rfl,rfl,rfl,by simp,λk _ b=>Below.heap_setCell _ _ _ _ (λe=>b (e▸a))⟩
variable{w:aK}{w':aK}
theorem bF.grown{S:U Nat}{row:af Nat}(h:w.grownBy w' row)(a:∀k,row=J k->k∈S):bF S w w':=⟨h.os,h.tape,h.output,h.size,λk b c=>h.block k b (λe=>c (a k e.symm))⟩
theorem bF.below(h:bF [] w w'):Below w.heap.size w w':=⟨h.os,h.tape,h.output,h.size,λk a=>h.block k a (by simp)⟩
theorem bF.cell{S:U Nat}(h:bF S w w'){p:Addr}{v:aA}(an:w.cell? p=J v)(a:p.block∉S):w'.cell? p=J v:=(aK.cell?_of_block (h.block p.block (aK.block_lt_of_cell? w p an) a)).trans an
def j4(S:U Nat)(F:aK->Prop)(w:aK):Prop:=∀w',bF S w w'->F w'
variable{F:aK->Prop}
theorem j4.here{S:U Nat}(h:j4 S F w):F w:=h w (bF.refl S w)
theorem j4.mono{S T:U Nat}(h:j4 T F w)(a:∀x,x∈S->x∈T):j4 S F w:=λw' an=>h w' (an.mono a)
theorem j4.imp{S:U Nat}{G:aK->Prop}(h:j4 S F w)(hi:∀w,F w->G w):j4 S G w:=λw' an=>hi _ (h w' an)
theorem j4.and{S:U Nat}{G:aK->Prop}(h:j4 S F w)(k:j4 S G w):j4 S (λw=>F w/\G w) w:=λw' an=>⟨h w' an,k w' an⟩
theorem j4.step{S:U Nat}(h:j4 S F w)(an:bF S w w'):j4 S F w':=λ_ a=>h _ (an.trans a)
theorem j4.fresh{S T:U Nat}(h:j4 S F w)(an:bF S w w')(f:∀b,b∈T->b∉S->w.heap.size<=b):j4 T F w':=by intro c a;refine h c ⟨a.os.trans an.os,a.tape.trans an.tape,a.output.trans an.output,e2 an.size a.size,λk d e=>?_⟩;rw[a.block k (gy d an.size) (λhm=>by have:=f k hm e;omega)];exact an.block k d e
inductive e7 where
 |bu (b:Nat) (cs:List aA) (t:bD)
 |row (v:aA) (t:bD) (bP n:Nat) (xs:List aA)
abbrev Loc:=U e7
def e7.dI:e7->U Nat|.bu b _ _=>[b]|.row (.slice (J a) _ _) _ _ _ _=>[a.block]|.row _ _ _ _ _=>[]
def e7.ok(w:aK):e7->Prop|.bu b cs t=>w.heap[b]? = J (.cells cs.toArray t (0,0))|.row v t bP n xs=>w.ownsRow 0 t bP v n xs
def eA(L:Loc):U Nat:=L.flatMap e7.dI
theorem e7.afn{x:e7}(h:x.ok w):∀b,b∈x.dI->b<w.heap.size:=by
 cases x with
 |bu b cs t=>intro bQ aj;simp[e7.dI]at aj;subst aj;exact(gG.1 h).1
 |row v t bP n xs=>
  intro bQ aj;have c:w.ownsRow 0 t bP v n xs:=h;cases v<;>simp[e7.dI]at aj
  rename_i a len cap;cases a with|none=>simp at aj|some a=>simp at aj;subst aj;exact(c.lt a.block rfl).2
theorem e7.Q0{S:U Nat}{x:e7}(h:x.ok w)(an:bF S w w')(ao:∀b,b∈x.dI->b∉S):x.ok w':=by
 have a:=e7.afn h;cases x with
 |bu b cs t=>show w'.heap[b]? = _;rw[an.block b (a b GT) (ao b GT)];exact h
 |row v t bP n xs=>
  have c:w.ownsRow 0 t bP v n xs:=h;refine⟨c.1,?_⟩;rcases c.2 with h2|⟨g,cap,cur,rfl,aj,d,r⟩
  .exact .inl h2
  .refine .inr ⟨g,cap,cur,rfl,aj,?_,r⟩;rw[an.block g (a g GT) (ao g GT)];exact d
structure cB where
 P:cx
 n:Nat
 jy:aK
 g':List Nat
 M:List Nat
structure dx (ab:cB) (L:Loc) (F:aK->Prop) (w:aK):Prop where
 dV:bF ab.g' ab.jy w
 ok:∀x,x∈L->x.ok w
 nodup:(eA L).Nodup
 own:∀b,b∈eA L->b∈ab.g'\/ab.jy.heap.size<=b
 fE:∀b,b∈ab.M->b<ab.jy.heap.size/\b∉ab.g'
 nP:j4 (ab.M++eA L) F w
variable{L:Loc}{ab:cB}
theorem dx.lt(h:dx ab L F w):∀b,b∈eA L->b<w.heap.size:=by intro b aj;simp[eA]at aj;obtain⟨x,a,aj⟩:=aj;exact e7.afn (h.ok x a) b aj
theorem dx.here(h:dx ab L F w):F w:=h.nP.here
theorem dx.y2(h:dx ab L F w):∀b,b∈ab.M->b∉eA L:=by
 intro b aj hm;rcases h.own b hm with hi|hi
 .exact(h.fE b aj).2 hi
 .have:=(h.fE b aj).1;omega
theorem dx.quiet(h:dx ab L F w)(an:bF [] w w'):dx ab L F w':=⟨h.dV.trans (an.mono (by simp)),λx a=>e7.Q0 (h.ok x a) an (by simp),h.nodup,h.own,h.fE,h.nP.step (an.mono (by simp))⟩
theorem dx.fact{G:aK->Prop}(h:dx ab L F w)(hi:∀w,F w->G w):dx ab L G w:=⟨h.dV,h.ok,h.nodup,h.own,h.fE,h.nP.imp hi⟩
def uc(P:cx)(c:Code)(Q:Exit->Act->aK->Prop)(a:Act)(w:aK):Prop:=∀(b:Frame) (k:U Item) (cs:U Frame),∃e bC w',Q e bC w'/\Arrives P (lone (b.at a (.code c :: .inLoop c::k)) cs w) b k cs e bC w'
variable{P:cx}{Q:Exit->Act->aK->Prop}{c:Code}
theorem I9(h:uc P c Q a w):(Code.loop c).wp P Q a w:=by intro b k cs;obtain⟨e,bC,w',f,d⟩:=h b k cs;exact⟨e,bC,w',f,.of_steps (.one step_loop) d⟩
theorem GO(h:c.wp P (Exit.then (uc P c Q) Q) a w):uc P c Q a w:=by intro b k cs;obtain⟨e,B8,CM,f,d⟩:=h b (.inLoop c::k) cs;cases e with|normal=>obtain⟨axA,axb,ayV,axU,axM⟩:=f b k cs;exact⟨axA,axb,ayV,axU,.of_steps (Steps.trans d (.one step_inLoop)) axM⟩|exit id=>exact⟨_,B8,CM,f,.pass (x:=.inLoop c) rfl (λ_ _=>.inl (by simp)) d⟩|goto l=>exact⟨_,B8,CM,f,.pass (x:=.inLoop c) rfl (λ_ _=>.inl (by simp)) d⟩|ret=>exact⟨_,B8,CM,f,.pass (x:=.inLoop c) rfl (λ_ _=>.inl (by simp)) d⟩|panic g=>exact⟨_,B8,CM,f,.pass (x:=.inLoop c) rfl (λ_ _=>.inl (by simp)) d⟩|outgrown=>exact⟨_,B8,CM,f,.pass (x:=.inLoop c) rfl (λ_ _=>.inl (by simp)) d⟩
inductive k7 where
 |seq (c:Code)
 |bu (id:Nat)
 |loop (c:Code)
 |scope
 |drawn (ops:Array bw) (fuel:Nat) (listed:Array Bool)
def l1(P:cx)(Q:Exit->Act->aK->Prop):U k7->Exit->Act->aK->Prop|[]=>Q|.seq c::k=>Exit.then (c.wp P (l1 P Q k)) (l1 P Q k)|.bu id::k=>Exit.inBlock id (l1 P Q k)|.loop c::k=>Exit.then (uc P c (l1 P Q k)) (l1 P Q k)|.scope::k=>Exit.noGoto (l1 P Q k)|.drawn ops fuel listed::k=>Exit.then (wpAny P .any ops (l1 P Q k) fuel listed) (l1 P Q k)
structure G (ab:cB) (c:Code) (k:List k7) (e:Env) (L:Loc) (F:aK->Prop) (Q:Exit->Act->aK->Prop):Prop where
 run:∀a w,jl ab.n e a->dx ab L F w->c.wp ab.P (l1 ab.P Q k) a w
structure N (ab:cB) (k:List k7) (e:Env) (L:Loc) (F:aK->Prop) (Q:Exit->Act->aK->Prop):Prop where
 run:∀a w,jl ab.n e a->dx ab L F w->l1 ab.P Q k .normal a w
structure O (ab:cB) (ops:Array bw) (l:List bw) (k:List k7) (e:Env) (L:Loc) (F:aK->Prop) (Q:Exit->Act->aK->Prop):Prop where
 run:∀a w,jl ab.n e a->dx ab L F w->wpList ab.P ops (l1 ab.P Q k) l a w
section control
variable {ab:cB}{k:U k7}{e:Env}{L:Loc}{F:aK->Prop}{Q:Exit->Act->aK->Prop}
theorem hU{x y:Code}(h:G ab x (.seq y::k) e L F Q):G ab (.seq x y) k e L F Q:=.mk λa w b c=>wp_seq (h.run a w b c)
theorem kg(h:N ab k e L F Q):G ab .skip k e L F Q:=.mk λa w b c=>wp_skip (h.run a w b c)
variable{id:Nat}
theorem ih{l:U bw}(h:O ab l.toArray l k e L F Q):G ab (.region id l.toArray ai) k e L F Q:=.mk λa w b c=>wp_region_lit (h.run a w b c)
theorem mQ{c:ct}{x y:Code}{b:Bool}(an:Env.aF e c=J (.bool b))(h1:b=ae->G ab x k e L F Q)(h2:b=ai->G ab y k e L F Q):G ab (.cond c x y) k e L F Q:=.mk λa w d f=>wp_cond_split (d.aF an) (λaj=>(h1 aj).run a w d f) (λaj=>(h2 aj).run a w d f)
theorem qz{c:ct}{x y:Code}{p:Prop}[inst:Decidable p](an:Env.aF e c=J (.bool (decide p)))(h1:p->G ab x k e L F Q)(h2:¬p->G ab y k e L F Q):G ab (.cond c x y) k e L F Q:=mQ an (λh=>h1 (of_decide_eq_true h)) (λh=>h2 (of_decide_eq_false h))
theorem fU(h:G ab c k e L F Q):N ab (.seq c::k) e L F Q:=.mk h.run
theorem xo(P:cx)(Q:Exit->Act->aK->Prop)(a:Act)(w:aK)(h:Q .ret a w):∀k,l1 P Q k .ret a w
 |[]=>h
 |.seq _::k=>xo P Q a w h k
 |.bu _::k=>xo P Q a w h k
 |.loop _::k=>xo P Q a w h k
 |.drawn _ _ _::k=>xo P Q a w h k
 |.scope::k=>by show Exit.noGoto (l1 P Q k) .ret a w;rw[Exit.noGoto_ret];exact xo P Q a w h k
theorem avZ(h:∀a w,jl ab.n e a->dx ab L F w->Q .ret a w):G ab .ret k e L F Q:=.mk λa w b c=>wp_ret (xo _ _ _ _ (h a w b c) k)
variable {ops:Array bw}{rest:U bw}
theorem fT(h:N ab k e L F Q):O ab ops [] k e L F Q:=.mk h.run
def k1(ops:Array bw)(e:Env):af (Nat×Bool)->af Bool
 |none=>J ae
 |some (j,b)=>match(ops[j]?).bind (·.dst)with
  |none=>ah
  |some d=>match Env.get e d with|some (.bool x)=>J (x == b)|some (.tuple _)=>J ai|_=>ah
variable{o:bw}
theorem k1.wanted{n:Nat}{r:Bool}(f:jl n e a)(h:k1 ops e o.guard=J r):Region.wanted o (yielded ops a.tmps)=r:=by
 unfold Region.wanted;unfold k1 at h;split at h
 .grind
 .rename_i j b g;rw[g];split at h
  .cases h
  .rename_i d ao;split at h
   .rename_i x c;have:=f.get d _ c;simp only[yielded,ao,bZ,this,c4]at h ⊢;rw[<-h];cases x<;>cases b<;>rfl
   .rename_i x c;have:=f.get d _ c;simp only[yielded,ao,bZ,this,c4]at h ⊢;rw[<-h];cases b<;>rfl
   .cases h
variable{dst:Nat}{g:af (Nat×Bool)}{op:Op}{pos:String}{t:bD}
theorem ps{b:Array Edge}(R:aA->Loc->(aK->Prop)->Prop)(i:k1 ops e g=J ae)(ao:ec dst ab.n=ae)
  (j:∀a w,jl ab.n e a->dx ab L F w->∃v w' L' dP,(cl a.eval ⟨J dst,op,t,pos,b,g⟩).run ab.P w = .ok (.value v) w'/\dx ab L' dP w'/\R v L' dP)
  (h:∀v L' dP,R v L' dP->O ab ops rest k ((dst,v)::e) L' dP Q) :
  O ab ops (⟨J dst,op,t,pos,b,g⟩::rest) k e L F Q:=.mk λa w d l=>by
 have m:=k1.wanted (o:=⟨J dst,op,t,pos,b,g⟩) d i;obtain⟨v,w',L',dP,c,f,p⟩:=j a w d l;simp[wpList,m,bw.wp];left;rw[c];simp[bw.upon];exact(h v L' dP p).run _ w' (d.put ao v) f
def Pure(P:cx)(e:Env)(op:Op)(v:aA):Prop:=∀(n:Nat) (a:Act) (w:aK) (o:bw),jl n e a->o.op=op->(cl a.eval o).run P w = .ok (.value v) w
theorem dD{b:Array Edge}{v:aA}(c:k1 ops e g=J ae)(ao:ec dst ab.n=ae)
  (d:Pure ab.P e op v) (h:O ab ops rest k ((dst,v)::e) L F Q):O ab ops (⟨J dst,op,t,pos,b,g⟩::rest) k e L F Q:=
 ps (λu L' dP=>u=v/\L' = L/\dP = F) c ao (λa w f i=>⟨v,w,L,F,d ab.n a w _ f rfl,i,rfl,rfl,rfl⟩) (λu L' dP ⟨j,l,m⟩=>by rw[j,l,m];exact h)
end control
def jE(P:cx)(f:FuncId):Prop:=∀args w,(callFunc f args).run P w = .ok (.enter f args) w
variable{f:FuncId}{fn:Func}
theorem ga(b:P.funcs[f]? = J fn)(aj:fn.body.isNone=ai)(d:(fn.name == "runtime.NumGoroutine")=ai):jE P f:=by
 intro args w;have a:¬fn.name = "runtime.NumGoroutine" :=tB
 obtain⟨c,an⟩:∃c,fn.body=J c:=by cases h:fn.body with|none=>rw[h]at aj;cases aj|some c=>exact⟨c,rfl⟩
 simp[callFunc,b,an,a]
structure hg (P:cx) (f:FuncId) (args:List aA) (k9:Loc) (Pre:aK->Prop) (jH:aA->Loc->(aK->Prop)->Prop):Prop where
 enters:jE P f
 run:∀(w:aK) (M:List Nat),dx ⟨P,0,w,eA k9,M⟩ k9 Pre w ->
  Calls P f args.toArray w λdv w'=>∃v L' dP,dv = .returned v/\jH v L' dP/\dx ⟨P,0,w,eA k9,M⟩ L' dP w'
def hh:Nat->U aA->Env|_,[]=>[]|i,v::vs=>(i,v)::hh (i+1) vs
theorem tR:∀(vs:U aA) (i k:Nat) (v:aA),Env.get (hh i vs) k=J v->i<=k/\vs[k-i]? = J v
 |[],i,k,v,h=>by simp[hh,Env.get]at h
 |u::vs,i,k,v,h=>by
  simp[hh,Env.get]at h;cases aj:bV i k with
  |true=>simp_all
  |false=>
   rw[aj]at h;have a:i≠k:=Nat.ne_of_beq_eq_false aj;obtain⟨h1,h2⟩:=tR vs (i+1) k v h;refine⟨by omega,?_⟩;have:k-i=(k-(i+1))+1:=ag
   rw[this];simpa using h2
def FZ(P:cx)(w:aK)(g' M:U Nat)(jH:aA->Loc->(aK->Prop)->Prop)(dv:Ending)(w':aK):Prop:=∃v L' dP,dv = .returned v/\jH v L' dP/\dx ⟨P,0,w,g',M⟩ L' dP w'
variable{g':U Nat}{M:U Nat}{m:Nat}{jy:aK}
theorem dx.n{n:Nat}(h:dx ⟨P,n,jy,g',M⟩ L F w):dx ⟨P,m,jy,g',M⟩ L F w:=⟨h.dV,h.ok,h.nodup,h.own,h.fE,h.nP⟩
variable{k9:Loc}{jH:aA->Loc->(aK->Prop)->Prop}{Pre:aK->Prop}{args:U aA}
theorem jT{n:Nat}
  (e:P.funcs[f]? = J fn) (j:fn.ntmps=n) (aj:fn.body=J c) (a:(fn.name == "runtime.NumGoroutine")=ai) (b:dz (I args) n=ae)
  (h:∀w M,G ⟨P,n,w,eA k9,M⟩ c [] (hh 0 args) k9 Pre (bodyPost P fn (FZ P w (eA k9) M jH))):hg P f args k9 Pre jH:=by
 refine⟨ga e rG a,λw M g=>?_⟩;have hle:I args<=n:=qi
 refine calls_of_wp e aj ((h w M).run _ w ⟨rfl,?_,?_⟩ g.n)
 .simp;omega
 .intro k v i;obtain⟨_,h2⟩:=tR args 0 k v i;simp at h2;have d:k<I args:=jk
  simp only[Array.getElem?_append,List.size_toArray,d];simpa using h2
theorem hg.calls(h:hg P f args [] Pre jH)(w:aK)(d:∀w',Below w.heap.size w w'->Pre w') :
  Calls P f args.toArray w λdv w'=>∃v L' dP,dv = .returned v/\jH v L' dP/\dP w'/\Below w.heap.size w w':=
 (h.run w [] ⟨bF.refl _ _,by simp,by simp[eA],by simp[eA],by simp,λw' an=>d w' (bF.below (by simpa[eA]using an))⟩).mono λ_ _ ⟨v,L',dP,a,b,c⟩=>⟨v,L',dP,a,b,c.here,bF.below (by simpa[eA]using c.dV)⟩
section
variable {ab:cB}{k:U k7}{e:Env}{L:Loc}{F:aK->Prop}{Q:Exit->Act->aK->Prop}{ops:Array bw}{rest:U bw}
theorem ma(A B:Loc):eA (A++B)=eA A++eA B:=by simp[eA]
theorem qt(x:e7)(B:Loc):eA (x::B)=x.dI++eA B:=by simp[eA]
theorem dx.perm{PR:Loc}(h:dx ab L F w)(d:L.Perm PR):dx ab PR F w:=by have c:(eA L).Perm (eA PR):=d.flatMap_right _;refine⟨h.dV,λx a=>h.ok x (d.mem_iff.2 a),c.nodup_iff.1 h.nodup,λb aj=>h.own b (c.mem_iff.2 aj),h.fE,h.nP.mono ?_⟩;intro x a;simp at a ⊢;exact a.imp id c.mem_iff.2
theorem dx.drop{x:e7}(h:dx ab (x::L) F w):dx ab L F w:=by
 have c:=h.nodup;rw[qt]at c;exact⟨h.dV,λy a=>h.ok y rH,(List.nodup_append.1 c).2.1,λb aj=>h.own b (by rw[qt];simp[aj]),h.fE,h.nP.mono (by
  intro y a;rw[qt];simp at a ⊢;rcases a with a|a
  .exact .inl a
  .exact .inr (.inr a))⟩
variable{nz:Loc}
theorem dx.called{L':Loc}{dP:aK->Prop}{aeJ:U Nat}(h:dx ab (k9++nz) F w)(o:aeJ = ab.M++eA nz)(g:dx ⟨ab.P,0,w,eA k9,aeJ⟩ L' dP w'):dx ab (L'++nz) (λw=>F w/\dP w) w':=by
 subst o;have m:=h.nodup;rw[ma]at m;obtain⟨r,p,n⟩:=List.nodup_append.1 m;have f:∀b,b∈eA L'->b∈eA k9\/w.heap.size<=b:=g.own;have c:bF (eA k9) w w':=g.dV;have j:∀b,b∈eA L'->b∉eA nz:=λb aj hm=>by
  rcases f b aj with hi|hi
  .exact n b hi b hm rfl
  .have:=h.lt b (by rw[ma];simp[hm]);omega
 refine⟨?_,?_,?_,?_,h.fE,?_⟩
 .have an:=h.dV;refine⟨c.os.trans an.os,c.tape.trans an.tape,c.output.trans an.output,e2 an.size c.size,λi hi k=>?_⟩;rw[c.block i (gy hi an.size) (λhm=>?_)]
  .exact an.block i hi k
  .rcases h.own i (by rw[ma];simp[hm])with bK|bK
   .exact k bK
   .omega
 .intro x d;simp at d;rcases d with d|d
  .exact g.ok x d
  .refine e7.Q0 (h.ok x (by simp[d])) c λb aj hm=>?_;exact n b hm b (by simp[eA];exact⟨x,d,aj⟩) rfl
 .rw[ma];exact List.nodup_append.2 ⟨g.nodup,p,λa q b aj l=>by subst l;exact j a q aj⟩
 .intro b aj;rw[ma]at aj;simp at aj;rcases aj with aj|aj
  .rcases f b aj with hi|hi
   .exact h.own b (by rw[ma];simp[hi])
   .right;have:=h.dV.size;omega
  .exact h.own b (by rw[ma];simp[aj])
 .refine j4.and (h.nP.fresh (c.mono ?_) ?_) (g.nP.mono ?_)
  .intro x d;rw[ma];simp[d]
  .intro b aj e;rw[ma]at aj e;simp at aj e;rcases aj with aj|aj|aj
   .exact absurd aj e.1
   .grind
   .exact absurd aj e.2.2
  .intro x d;rw[ma]at d;simp only[fM]at d ⊢;rcases d with d|d|d
   .exact .inl (.inl d)
   .exact .inr d
   .exact .inl (.inr d)
theorem dx.callee(h:dx ab (k9++nz) F w)(d:∀w,F w->Pre w):dx ⟨ab.P,0,w,eA k9,ab.M++eA nz⟩ k9 Pre w:=by
 have c:=h.nodup;rw[ma]at c;obtain⟨e,g,f⟩:=List.nodup_append.1 c;refine⟨bF.refl _ _,λx a=>h.ok x rH,e,λb aj=>.inl aj,?_,(h.nP.imp d).mono ?_⟩
 .intro b aj;simp at aj;rcases aj with aj|aj
  .exact⟨gy (h.fE b aj).1 h.dV.size,λhm=>h.y2 b aj (by rw[ma];simp[hm])⟩
  .exact⟨h.lt b (by rw[ma];simp[aj]),λhm=>f b hm b aj rfl⟩
 .intro x a;rw[ma];simp only[fM]at a ⊢;rcases a with (a|a)|a
  .exact .inl a
  .exact .inr (.inr a)
  .exact .inr (.inl a)
def GD(v:aA):aA->Loc->(aK->Prop)->Prop:=λu L F=>u=v/\L=[]/\F=λ_=>True
structure x_ (ab:cB) (L:Loc) (F:aK->Prop) (pR:Loc->(aK->Prop)->Prop):Prop where
 run:∀w,dx ab L F w->∃L' dP, pR L' dP/\dx ab L' dP w
variable {pR:Loc->(aK->Prop)->Prop}
theorem kc(h : pR L F):x_ ab L F pR:=.mk λ_ a=>⟨L,F,h,a⟩
theorem dx.nil:∀{L:Loc}{w:aK},dx ab L F w->dx ab [] F w
 |[],_,h=>h
 |_::_,_,h=>dx.nil h.drop
theorem amc(h : pR [] λ_=>True):x_ ab L F pR:=.mk λ_ a=>⟨[],_,h,(a.nil).fact λ_ _=>trivial⟩
variable{u:aA}
theorem ZY{v:aA}(h:u=v):x_ ab L F (GD v u):=amc ⟨h,rfl,rfl⟩
def lO:U aA->aA|[v]=>v|vs=>.tuple vs.toArray
def awS(ab:cB)(e:Env)(L:Loc)(F:aK->Prop):ResultVar->aA->Prop|.tmp t,v=>Env.get e t=J v|.cell a t,v=>∃p,Env.get e a=J (.pointer (J p))/\∀w,dx ab L F w->(loadVar t p).run ab.P w = .ok v w
def uL(ab:cB)(e:Env)(L:Loc)(F:aK->Prop):U ResultVar->U aA->Prop|[],[]=>True|r::rs,v::vs=>awS ab e L F r v/\uL ab e L F rs vs|_,_=>False
def rdv(tmps:Array aA):ResultVar->Sem aA
 |.tmp t=>pure (tmps.getD t undef)
 |.cell a t=>do loadVar t (<-asAddr (tmps.getD a undef))
theorem uL.run(b:jl ab.n e a)(c:dx ab L F w):∀{rs:U ResultVar}{vs:U aA},uL ab e L F rs vs->Sem.run ab.P (rs.mapM (rdv a.tmps)) w=Result.ok vs w
 |[],[],_=>by simp
 |[],_::_,h=>h.elim
 |_::_,[],h=>h.elim
 |.tmp t::rs,v::vs,h=>by have h1:a.tmps[t]? = J v:=b.get t v h.1;have h2:=uL.run b c h.2;simp[ rdv,h1,h2]
 |.cell bC t::rs,v::vs,h=>by obtain⟨⟨p,d,f⟩,g⟩:=h;have h1:a.tmps[bC]? = J _:=b.get bC _ d;have h2:=uL.run b c g;simp[ rdv,h1,h2,asAddr,(f w c)]
theorem CC(fn:Func)(tmps:Array aA):results fn tmps=(do let vs <-fn.results.mapM (rdv tmps);pure (if h:vs.size=1 then vs[0]else .tuple vs)):=by unfold results;congr 1
variable{vs:U aA}
theorem aim{n:Nat}{rs:U ResultVar}{v:aA}(b:fn.results=rs.toArray)(aE:uL ⟨P,n,jy,g',M⟩ e L F rs vs)(c:lO vs=v)
  (h:x_ ⟨P,n,jy,g',M⟩ L F (jH v)):G ⟨P,n,jy,g',M⟩ .ret k e L F (bodyPost P fn (FZ P jy g' M jH)):=by
 refine avZ λa w f g=>?_;obtain⟨L',dP,i,d⟩:=h.run w g;refine⟨f.defers,v,?_,v,L',dP,rfl,i,d.n⟩;rw[CC,b];simp only[List.mapM_toArray,dG,map_eq_pure_bind,(uL.run f g aE)];congr 1;rw[<-c];match vs with|[]=>rfl|[v]=>rfl|_::_::_=>simp[lO]
section
variable {P:cx}{n:Nat}{jy:aK}{g' M:U Nat}{fn:Func}{jH:aA->Loc->(aK->Prop)->Prop}{t1 t2 t3:Nat}{v1 v2 aD:aA}
theorem hz(a:fn.results = #[.tmp t1])(h1:Env.get e t1=J v1)(b:x_ ⟨P,n,jy,g',M⟩ L F (jH v1)):G ⟨P,n,jy,g',M⟩ .ret k e L F (bodyPost P fn (FZ P jy g' M jH)):=aim (rs:=[.tmp t1]) (vs:=[v1]) a ⟨h1,trivial⟩ rfl b
end
end
abbrev S(l:U UInt8):Value:=.string ⟨l.toArray⟩
def pB(l:U UInt8)(i:Int):Int:=((l.getD i.toNat 0).toNat:Int)
def cut(l:U UInt8)(a b:Int):U UInt8:=(l.drop a.toNat).take (b.toNat-a.toNat)
def mC(P:cx)(t:bD):Bool:=match P.underlying t with|some .string=>ae|_=>ai
def sD(P:cx)(t:bD):Bool:=match P.underlying t with|some .bool=>ae|_=>ai
def CJ(P:cx)(t:bD):Bool:=match P.underlying t with|some (.slice _)=>ae|_=>ai
def vk(P:cx)(t:bD)(k:b'):Bool:=match P.underlying t with|some (.int eh)=>eh == k|_=>ai
def oH(P:cx)(t:bD):Bool:=(P.underlying t).isSome
variable{t:bD}
theorem pO(h:mC P t=ae):P.underlying t=J .string:=by
 unfold mC at h;split at h
 .assumption
 .cases h
theorem CH(h:sD P t=ae):P.underlying t=J .bool:=by
 unfold sD at h;split at h
 .assumption
 .cases h
theorem aqJ(h:CJ P t=ae):∃u,P.underlying t=J (.slice u):=by
 unfold CJ at h;split at h
 .grind
 .cases h
variable{k:b'}
theorem CI(h:vk P t k=ae):P.underlying t=J (.int k):=by
 unfold vk at h;split at h
 .grind
 .cases h
theorem Rf(h:oH P t=ae):∃d,P.underlying t=J d:=by unfold oH at h;exact Option.isSome_iff_exists.1 h
section
variable {P:cx}{e:Env}
theorem gd{v:aA}(h:Env.aF e x=J v):Pure P e (.move x) v:=λn a w o b c=>by simp[cl,c,b.aF h]
theorem gq{v:aA}(h:Env.aF e x=J v):Pure P e (.assign x) v:=λn a w o b c=>by simp[cl,c,b.aF h]
variable{y:ct}
theorem afV{c:ct}{v:aA}(an:Env.aF e c=J (.bool ae))(h:Env.aF e x=J v):Pure P e (.pick c x y) v:=λn a w o b d=>by simp[cl,d,b.aF h,b.aF an,asBool]
theorem afU{c:ct}{v:aA}(an:Env.aF e c=J (.bool ai))(h:Env.aF e y=J v):Pure P e (.pick c x y) v:=λn a w o b d=>by simp[cl,d,b.aF h,b.aF an,asBool]
variable{u:aA}
theorem gR{op:BinOp}{t':bD}{v r:aA}(c:Env.aF e x=J u)(d:Env.aF e y=J v)
  (f:∀w,(eqGuard op t x y u v).run P w = .ok () w) (h:∀w,(binOp op t u v).run P w = .ok r w):Pure P e (.binOp op t x y t') r:=λn a w o b g=>by
 simp[cl,g,b.aF c,b.aF d,f,h]
section int
variable {t t':bD}{x y:ct}{k:b'}{a b:Int}
theorem ld(op:BinOp)(t:bD)(x y:ct)(k c:b')(a b:Int)(w:aK):(eqGuard op t x y (.int k a) (.int c b)).run P w = .ok () w:=by cases op<;>rfl
theorem u5(op:BinOp)(t:bD)(x y:ct)(a b:ByteArray)(w:aK):(eqGuard op t x y (.string a) (.string b)).run P w = .ok () w:=by cases op<;>rfl
theorem Ty(op:BinOp)(t:bD)(x y:ct)(a b:Bool)(w:aK):(eqGuard op t x y (.bool a) (.bool b)).run P w = .ok () w:=by cases op<;>rfl
theorem afH(c:Env.aF e x=J (.int k a))(d:Env.aF e y=J (.int k b)):Pure P e (.binOp .add t x y t') (.int k (k.wrap (a+b))):=gR c d (ld _ _ _ _ _ _ _ _) λw=>by simp[binOp,Op.intArith]
theorem afW(c:Env.aF e x=J (.int k a))(d:Env.aF e y=J (.int k b)):Pure P e (.binOp .sub t x y t') (.int k (k.wrap (a-b))):=gR c d (ld _ _ _ _ _ _ _ _) λw=>by simp[binOp,Op.intArith]
theorem ayl(c:Env.aF e x=J (.int k a))(d:Env.aF e y=J (.int k b)):Pure P e (.binOp .mul t x y t') (.int k (k.wrap (a*b))):=gR c d (ld _ _ _ _ _ _ _ _) λw=>by simp[binOp,Op.intArith]
theorem EB(c:Env.aF e x=J (.int .i64 a))(d:Env.aF e y=J (.int .i64 b))(h : -9223372036854775808<=a+b/\a+b<=9223372036854775807):Pure P e (.binOp .add t x y t') (.int .i64 (a+b)):=by have:=afH (P:=P) (t:=t) (t':=t') c d;rwa[IntWalk.i64_in _ h]at this
theorem r3(c:Env.aF e x=J (.int .i64 a))(d:Env.aF e y=J (.int .i64 b))(h : -9223372036854775808<=a-b/\a-b<=9223372036854775807):Pure P e (.binOp .sub t x y t') (.int .i64 (a-b)):=by have:=afW (P:=P) (t:=t) (t':=t') c d;rwa[IntWalk.i64_in _ h]at this
theorem ayq(c:Env.aF e x=J (.int k a))(d:Env.aF e y=J (.int k b))(h:b≠0):Pure P e (.binOp .quo t x y t') (.int k (k.wrap (a.tdiv b))):=gR c d (ld _ _ _ _ _ _ _ _) λw=>by simp[binOp,Op.intDiv,h]
theorem ayr(c:Env.aF e x=J (.int k a))(d:Env.aF e y=J (.int k b))(h:b≠0):Pure P e (.binOp .rem t x y t') (.int k (a.tmod b)):=gR c d (ld _ _ _ _ _ _ _ _) λw=>by simp[binOp,Op.intDiv,h]
theorem ayg(c:Env.aF e x=J (.int k a))(d:Env.aF e y=J (.int k b)):Pure P e (.binOp .and t x y t') (.int k (k.wrap ((fO k.bits a &&& fO k.bits b).toNat))):=gR c d (ld _ _ _ _ _ _ _ _) λw=>by simp[binOp,Op.intBits]
theorem ayp(c:Env.aF e x=J (.int k a))(d:Env.aF e y=J (.int k b)):Pure P e (.binOp .or t x y t') (.int k (k.wrap ((fO k.bits a ||| fO k.bits b).toNat))):=gR c d (ld _ _ _ _ _ _ _ _) λw=>by simp[binOp,Op.intBits]
theorem ayv(c:Env.aF e x=J (.int k a))(d:Env.aF e y=J (.int k b)):Pure P e (.binOp .xor t x y t') (.int k (k.wrap ((fO k.bits a ^^^ fO k.bits b).toNat))):=gR c d (ld _ _ _ _ _ _ _ _) λw=>by simp[binOp,Op.intBits]
theorem ays{c:b'}(d:Env.aF e x=J (.int k a))(f:Env.aF e y=J (.int c b))(h : 0<=b):Pure P e (.binOp .shl t x y t') (.int k (k.wrap (a*2 ^ min b.toNat k.bits))):=gR d f (ld _ _ _ _ _ _ _ _) λw=>by simp[binOp,Op.shift,Int.not_lt.2 h]
theorem ayt{c:b'}(d:Env.aF e x=J (.int k a))(f:Env.aF e y=J (.int c b))(h : 0<=b):Pure P e (.binOp .shr t x y t') (.int k (a.fdiv (2 ^ min b.toNat k.bits))):=gR d f (ld _ _ _ _ _ _ _ _) λw=>by simp[binOp,Op.shift,Int.not_lt.2 h]
theorem IZ(c:Env.aF e x=J (.int k a))(d:Env.aF e y=J (.int k b)):Pure P e (.binOp .eql t x y t') (.bool (a == b)):=gR c d (ld _ _ _ _ _ _ _ _) λw=>vE
theorem afS(c:Env.aF e x=J (.int k a))(d:Env.aF e y=J (.int k b)):Pure P e (.binOp .neq t x y t') (.bool (a != b)):=gR c d (ld _ _ _ _ _ _ _ _) λw=>vE
theorem sw(c:Env.aF e x=J (.int k a))(d:Env.aF e y=J (.int k b)):Pure P e (.binOp .lss t x y t') (.bool (aa (a<b))):=gR c d (ld _ _ _ _ _ _ _ _) λw=>vE
theorem afR(c:Env.aF e x=J (.int k a))(d:Env.aF e y=J (.int k b)):Pure P e (.binOp .leq t x y t') (.bool (aa (a<=b))):=gR c d (ld _ _ _ _ _ _ _ _) λw=>vE
theorem qY(c:Env.aF e x=J (.int k a))(d:Env.aF e y=J (.int k b)):Pure P e (.binOp .gtr t x y t') (.bool (aa (b<a))):=gR c d (ld _ _ _ _ _ _ _ _) λw=>vE
theorem afN(c:Env.aF e x=J (.int k a))(d:Env.aF e y=J (.int k b)):Pure P e (.binOp .geq t x y t') (.bool (aa (b<=a))):=gR c d (ld _ _ _ _ _ _ _ _) λw=>vE
end int
theorem IE(l m:U UInt8):(l == m)=aa (l=m):=jk
section str
variable {t t':bD}{x y:ct}{l m:U UInt8}
theorem ayf(a:Env.aF e x=J (S l))(b:Env.aF e y=J (S m))(h:I l+I m<=9223372036854775807):Pure P e (.binOp .add t x y t') (S (l++m)):=
 gR a b (u5 _ _ _ _ _ _) λw=>by
  have h1:¬(((ByteArray.mk l.toArray).size+(ByteArray.mk m.toArray).size:Nat):Int) > b'.i64.max:=by simp[ByteArray.size];omega
  have h2:(ByteArray.mk l.toArray++ByteArray.mk m.toArray)=ByteArray.mk (l++m).toArray:=by apply ByteArray.ext;simp
  simp only[binOp,Op.stringOp,if_neg h1,eW,h2]
theorem afL(a:Env.aF e x=J (S l))(b:Env.aF e y=J (S m)):Pure P e (.binOp .eql t x y t') (.bool (aa (l=m))):=gR a b (u5 _ _ _ _ _ _) λw=>by simp[binOp,Op.stringOp];rw[IE]
theorem afT(a:Env.aF e x=J (S l))(b:Env.aF e y=J (S m)):Pure P e (.binOp .neq t x y t') (.bool (!decide (l=m))):=gR a b (u5 _ _ _ _ _ _) λw=>by simp[binOp,Op.stringOp];rw[IE]
theorem ayk(a:Env.aF e x=J (S l))(b:Env.aF e y=J (S m)):Pure P e (.binOp .lss t x y t') (.bool (Op.bytesLess l m)):=gR a b (u5 _ _ _ _ _ _) λw=>by simp[binOp,Op.stringOp]
theorem agB(d:Nat){a b:Bool}(c:P.underlying t=J .bool):(Op.equalIn (d+1) t (.bool a) (.bool b)).run P w = .ok (a == b) w:=by simp[Op.equalIn,eX c]
theorem V'{a b:Bool}(c:P.underlying t=J .bool):(Op.equal t (.bool a) (.bool b)).run P w = .ok (a == b) w:=agB 9999 c
theorem ayi{a b:Bool}(c:sD P t=ae)(d:Env.aF e x=J (.bool a))(f:Env.aF e y=J (.bool b)):Pure P e (.binOp .eql t x y t') (.bool (aa (a=b))):=gR d f (Ty _ _ _ _ _ _) λw=>by rw[show binOp .eql t (.bool a) (.bool b)=(do pure (.bool (<-Op.equal t (.bool a) (.bool b)))) from rfl,dG,V' (CH c)];rfl
theorem ayn{a b:Bool}(c:sD P t=ae)(d:Env.aF e x=J (.bool a))(f:Env.aF e y=J (.bool b)):Pure P e (.binOp .neq t x y t') (.bool (!decide (a=b))):=gR d f (Ty _ _ _ _ _ _) λw=>by rw[show binOp .neq t (.bool a) (.bool b)=(do pure (.bool (!(<-Op.equal t (.bool a) (.bool b))))) from rfl,dG,V' (CH c)];rfl
end str
theorem Q4{b:Bool}(c:Env.aF e x=J (.bool b)):Pure P e (.unOp .not t x) (.bool (!b)):=λn a w o d f=>by simp[cl,f,d.aF c,Op.unary]
theorem aym{a:Int}(b:Env.aF e x=J (.int k a)):Pure P e (.unOp .neg t x) (.int k (k.wrap (0-a))):=λn bC w o c d=>by simp[cl,d,c.aF b,Op.unary,Op.intArith]
variable{s:bD}
theorem ayh{f:b'}{a:Int}(k:b')(b:oH P s=ae)(c:vk P t k=ae)(g:Env.aF e x=J (.int f a)):Pure P e (.convert s t x) (.int k (k.wrap a)):=λn bC w o h i=>by obtain⟨d,j⟩:=Rf b;simp[cl,i,h.aF g,convert,eX j,eX (CI c),Conv.intToInt]
variable{vs:U aA}
theorem alM{gA:ct}{xs:U ct}{c:Array bD}{v:aA}(d:Env.aF e gA=J (.func (.func f) #[] #[]))(g:Env.fJ e xs=J vs)(h:∀w,(callFunc f vs.toArray).run P w = .ok (.value v) w):Pure P e (.call ⟨.value gA,xs.toArray,c⟩) v:=λn a w o b i=>by simp[cl,i,resolve,b.aF d,Deferred.ofValue,(b.fJ g),invoke];simpa using h w
def nth:U aA->Nat->af aA|[],_=>ah|v::_,0=>J v|_::vs,i+1=>nth vs i
theorem QY:∀(l:U aA) (i:Nat),nth l i=l[i]?
 |[],_=>rfl
 |_::_,0=>rfl
 |_::l,i+1=>by simp[nth,QY l i]
variable{i:Nat}
theorem afM{v:aA}(c:Env.aF e x=J (.tuple vs.toArray))(b:nth vs i=J v):Pure P e (.extract x i) v:=λn a w o d f=>by
 have aE:vs.toArray[i]? = J v:=by rw[QY]at b;simpa using b
 simp[cl,f,eW,dG,d.aF c,Instr.extract,aE]
theorem abj(l:U UInt8):(ByteArray.mk l.toArray).size=I l:=rfl
theorem afQ{l:U UInt8}(b:mC P t=ae)(c:Env.aF e x=J (S l)):Pure P e (.call ⟨.builtin .len, #[x], #[t]⟩) (.int .i64 (I l)):=λn a w o d f=>by simp[cl,f,eW,dG,List.map_toArray,e0,List.map_nil,d.aF c,resolve,invoke,builtin,fP.len_,eX (pO b),fg,goInt,List.getElem?_toArray,List.getElem?_cons_zero,abj]
theorem mA{ad:af Addr}{l c:Nat}(b:CJ P t=ae)(d:Env.aF e x=J (.slice ad l c)):Pure P e (.call ⟨.builtin .len, #[x], #[t]⟩) (.int .i64 l):=λn a w o f g=>by obtain⟨u,h⟩:=aqJ b;simp[cl,g,eW,dG,List.map_toArray,e0,List.map_nil,f.aF d,resolve,invoke,builtin,fP.len_,eX h,fg,goInt]
theorem afP{l:U UInt8}{i:Int}(d:mC P t=ae)(f:Env.aF e x=J (S l))(g:Env.aF e y=J (.int k i))(h : 0<=i/\i<I l):Pure P e (.index t x y) (.int .u8 (pB l i)):=λn a w o c j=>by
 have b:i.toNat<I l:=ag
 have aj:(ByteArray.mk l.toArray)[i.toNat]? = J (l[i.toNat]'b):=by
  have:i.toNat<(ByteArray.mk l.toArray).size:=by simpa[ByteArray.size]using b
  simp[getElem?_pos,this];rfl
 have aS:pB l i=((l[i.toNat]'b).toNat:Int):=by simp[pB,List.getD_eq_getElem?_getD,b]
 simp[cl,j,eW,dG,c.aF f,c.aF g,Instr.index,asIntOf,eX (pO d),fg,if_pos h.1,aj,aS]
end
def sC(P:cx)(t:bD):Bool:=match P.underlying t with|some (.struct _)|some (.array _ _)=>ae|_=>ai
def ft(P:cx)(t:bD):af Nat:=(P.info? t).map (·.size)
def sE(P:cx)(t:bD):af (U aA):=((P.info? t).bind (·.zero)).map λz=>z.cells.toList
theorem sy{b:Bool}(h:(oH P t&&(sC P t == b))=ae)(w:aK):(isAgg t).run P w = .ok b w:=by simp at h;obtain⟨h1,h2⟩:=h;obtain⟨d,ao⟩:=Rf h1;unfold sC at h2;rw[ao]at h2;simp[isAgg,eX ao];cases d<;>simp at h2<;>subst h2<;>simp
theorem run_sizeOf{n:Nat}(h:ft P t=J n)(w:aK):(sizeOf t).run P w = .ok n w:=by unfold ft at h;cases hi:P.info? t with|none=>rw[hi]at h;cases h|some i=>rw[hi]at h;simp at h;simp[sizeOf,typeInfo,hi,h]
section
variable {ab:cB}{k:U k7}{e:Env}{L:Loc}{F:aK->Prop}{Q:Exit->Act->aK->Prop}{ops:Array bw}{rest:U bw}
theorem SR{p:Addr}{v:aA}(h:w.cell? p=J v):(load p).run P w = .ok v w:=by simp[ h]
theorem aeL{P:cx}{w:aK}{b off:Nat}:∀(vs:U aA) (i:Nat) (acc:Array aA),(∀j v,vs[j]? = J v->w.cell? ⟨b,off+(i+j),ah⟩=J v) ->
  (loadCellsFrom ⟨b,off,ah⟩ i (I vs) acc).run P w = .ok (acc++vs.toArray) w
 |[],i,acc,_=>by simp[loadCellsFrom]
 |v::vs,i,acc,h=>by
  have h0:w.cell? ((⟨b,off,ah⟩:Addr).add i)=J v:=by rw[show(⟨b,off,ah⟩:Addr).add i=⟨b,off+i,ah⟩ by unfold Addr.add;split<;>simp_all];simpa using h 0 v (by simp)
  have a:=aeL (P:=P) vs (i+1) (acc.push v) (λj u c=>by have:=h (j+1) u (by simpa using c);rwa[show i+(j+1)=i+1+j by omega]at this)
  simp only[dm,loadCellsFrom,dG,SR h0,fg,a];simp
theorem ayI{p:Addr}{v:aA}(a:(oH P t&&(sC P t == ai))=ae)(h:w.cell? p=J v):(loadVar t p).run P w = .ok v w:=by simp only[loadVar,dG,sy a,fg,mW,if_false,SR h]
variable{vs:U aA}
theorem ayJ{b off:Nat}(a:(oH P t&&(sC P t == ae))=ae)(c:ft P t=J (I vs))(h:∀j v,vs[j]? = J v->w.cell? ⟨b,off+j,ah⟩=J v):(loadVar t ⟨b,off,ah⟩).run P w = .ok (.agg vs.toArray) w:=by have d:=aeL (P:=P) (w:=w) (b:=b) (off:=off) vs 0 #[] (λj v e=>by simpa using h j v e);simp only[loadVar,dG,sy a,fg,if_true,run_sizeOf c,loadCells,d];simp
variable{cs:U aA}
theorem MF{b:Nat}(h:(e7.bu b cs t).ok w){off:Nat}{v:aA}(aE:cs[off]? = J v):w.cell? ⟨b,off,ah⟩=J v:=by have a:w.heap[b]? = J (.cells cs.toArray t (0,0)):=h;simp[aK.cell?,a];simpa using aE
theorem dx.alloc(h:dx ab L F w)(cs:U aA)(t:bD):dx ab (.bu w.heap.size cs t::L) F (w.alloc (.cells cs.toArray t)):=by
 have an:bF [] w (w.alloc (.cells cs.toArray t)):=bF.alloc _ _ _;refine⟨h.dV.trans (an.mono (by simp)),?_,?_,?_,h.fE,?_⟩
 .intro x c;simp at c;rcases c with rfl|c
  .show(w.heap.push _)[w.heap.size]? = _;simp
  .exact e7.Q0 (h.ok x c) an (by simp)
 .rw[qt];refine List.nodup_append.2 ⟨by simp[e7.dI],h.nodup,λa e b aj f=>?_⟩;simp[e7.dI]at e;have:=h.lt b aj;omega
 .intro b aj;rw[qt]at aj;simp[e7.dI]at aj;rcases aj with rfl|aj
  .right;exact h.dV.size
  .exact h.own b aj
 .refine h.nP.fresh (an.mono (by simp)) λb aj d=>?_;rw[qt]at aj;simp[e7.dI]at aj d;rcases aj with aj|rfl|aj
  .exact absurd aj d.1
  .exact b2 _
  .exact absurd aj d.2
def u7(P:cx)(s:bD)(f:Nat):af Nat:=match P.underlying s with
 |some (.struct az)=>match az[f]? with
  |some fd=>match ft P fd.type with|some bP=>if bP=0 then ah else J fd.offset|none=>ah
  |none=>ah
 |_=>ah
theorem hI(b off n:Nat):(⟨b,off,ah⟩:Addr).add n=⟨b,off+n,ah⟩:=by unfold Addr.add;split<;>simp_all
variable{s:bD}
theorem vg{f b off gA:Nat}(i:(u7 P s f == J gA)=ae)(j:Env.aF e x=J (.pointer (J ⟨b,off,ah⟩))):Pure P e (.fieldAddr s x f) (.pointer (J ⟨b,off+gA,ah⟩)):=λn a w o k l=>by
 have c:u7 P s f=J gA:=Gz
 unfold u7 at c;split at c
 .rename_i az m;split at c
  .rename_i fd d;split at c
   .rename_i bP g;split at c
    .cases c
    rename_i h;simp at c;simp[cl,l,Instr.fieldAt,k.aF j,eX m,d,Instr.sureAddr,fieldPlace,run_sizeOf g,if_neg h,hI]
   .cases c
  .cases c
 .cases c
def nI(P:cx)(t:bD):af Nat:=match P.underlying t with|some (.slice u)=>ft P u|_=>ah
theorem Bn{n:Nat}(h:nI P t=J n):∃u,P.underlying t=J (.slice u)/\ft P u=J n:=by
 unfold nI at h;split at h
 .grind
 .cases h
variable{bP:Nat}{y:ct}
theorem afO{b off l c:Nat}{g:b'}{i:Int}(j:(nI P t == J bP)=ae)(k:Env.aF e x=J (.slice (J ⟨b,off,ah⟩) l c))(m:Env.aF e y=J (.int g i))(h : 0<=i/\i<l) :
  Pure P e (.indexAddr t x y) (.pointer (J ⟨b,off+i.toNat*bP,ah⟩)):=λn a w o f p=>by
 obtain⟨u,q,d⟩:=Bn Gx;simp[cl,p,Instr.indexAt,f.aF k,f.aF m,asIntOf,eX q,dG,eW,fg,if_pos h,run_sizeOf d,hI]
variable{nz:Loc}{x':e7}
theorem dx.jg{x:e7}(h:dx ab (x::nz) F w)(an:bF x.dI w w')(c:x'.ok w')(d:x'.dI.Nodup)(e:∀b,b∈x'.dI->b∈x.dI\/w.heap.size<=b):dx ab (x'::nz) F w':=by
 have a:=dx.callee (k9:=[x]) (nz:=nz) h (Pre:=λ_=>True) (λ_ _=>trivial);have f:eA [x]=x.dI:=by simp[eA]
 have aS:eA [x']=x'.dI:=by simp[eA]
 have g:dx ⟨ab.P,0,w,eA [x],ab.M++eA nz⟩ [x'] (λ_=>True) w':=⟨by rw[f];exact an,by simpa using c,by rw[aS];exact d,by rw[aS,f];exact e,a.fE,λ_ _=>trivial⟩
 exact(dx.called (k9:=[x]) (L':=[x']) h rfl g).fact λ_ i=>i.1
theorem X8:∀{L:Loc}{i:Nat}{x:e7}(x':e7),L[i]? = J x->∃A B,L=A++x::B/\L.set i x' = A++x'::B
 |[],_,_,_,h=>by simp at h
 |y::L,0,x,x',h=>by simp at h;subst h;exact⟨[],L,rfl,rfl⟩
 |y::L,i+1,x,x',h=>by obtain⟨A,B,h1,h2⟩:=X8 (L:=L) (i:=i) x' n1;exact⟨y::A,B,by rw[h1];rfl,by simp[h2]⟩
theorem dx.agf{x:e7}(h:dx ab L F w)(i:Nat)(hi:L[i]? = J x)(an:bF x.dI w w')(a:x'.ok w')(c:x'.dI.Nodup)(d:∀b,b∈x'.dI->b∈x.dI\/w.heap.size<=b):dx ab (L.set i x') F w':=by
 obtain⟨A,B,h1,h2⟩:=X8 x' hi;have p1:L.Perm (x::(A++B)):=by rw[h1];exact List.perm_middle
 have p2:(x'::(A++B)).Perm (L.set i x'):=by rw[h2];exact List.perm_middle.symm
 exact((h.perm p1).jg an a c d).perm p2
def one:aA->Bool|.agg _=>ai|.tuple _=>ai|_=>ae
theorem IY{v:aA}(h:one v=ae):v.cells = #[v]:=by cases v<;>first|rfl|cases h
variable{u:aA}
theorem aph{p:Addr}{v:aA}(aE:one v=ae)(an:w.cell? p=J u)(a:w.frozen? p=ai):(store p v).run P w = .ok () (w.setCell p v):=by cases v<;>first|(cases aE;done)|simp[store,Sem.run,an,a]
def ig(cs:U aA)(off:Nat):U aA->U aA|[]=>cs|v::vs=>ig (cs.set off v) (off+1) vs
theorem I_:∀(vs:U aA) (cs:U aA) (off:Nat),I (ig cs off vs)=I cs
 |[],_,_=>rfl
 |v::vs,cs,off=>by simp[ig,I_ vs]
def setCells(w:aK)(b off:Nat):U aA->aK|[]=>w|v::vs=>setCells (w.setCell ⟨b,off,ah⟩ v) b (off+1) vs
theorem af4{b off:Nat}{a:Nat×Nat}{v:aA}(h:w.heap[b]? = J (.cells cs.toArray t a)):(w.setCell ⟨b,off,ah⟩ v).heap[b]? = J (.cells (cs.set off v).toArray t a):=by simp[aK.setCell,Array.getElem?_modify,h]
theorem sz{P:cx}:∀(vs:U aA) (w:aK) (b off i:Nat) (cs:U aA) (t:bD),w.heap[b]? = J (.cells cs.toArray t (0,0))->off+i+I vs<=I cs->(∀v,v∈vs->one v=ae) ->
  (storeCells ⟨b,off,ah⟩ vs i).run P w = .ok () (setCells w b (off+i) vs)/\(setCells w b (off+i) vs).heap[b]? = J (.cells (ig cs (off+i) vs).toArray t (0,0))/\bF [b] w (setCells w b (off+i) vs)
 |[],w,b,off,i,cs,t,h,_,_=>by simp[storeCells,setCells,ig,h,bF.refl]
 |v::vs,w,b,off,i,cs,t,h,bB,h1=>by
  simp at bB;have an:w.cell? ⟨b,off+i,ah⟩=J (cs[off+i]' ag):=by simp only[aK.cell?,h];simp
  have a:w.frozen? ⟨b,off+i,ah⟩=false:=by simp[aK.frozen?,h]
  have c:=aph (P:=P) (h1 v (by simp)) an a;obtain⟨d,e,f⟩:=sz vs (w.setCell ⟨b,off+i,ah⟩ v) b off (i+1) (cs.set (off+i) v) t (af4 h) dh (λu g=>h1 u (by simp[g]));refine⟨?_,?_,?_⟩
  .simp[storeCells,dG,hI,c];rw[d];rfl
  .exact e
  .exact(bF.setCell w (by simp) v).trans f
section
variable {P:cx}{n:Nat}{jy:aK}{g' M:U Nat}{fn:Func}{jH:aA->Loc->(aK->Prop)->Prop}{a1 t2 t3:Nat}{ty:bD}{p:Addr}{v1 v2 aD:aA}
end
end
section
variable {ab:cB}{k:U k7}{e:Env}{L:Loc}{F:aK->Prop}{Q:Exit->Act->aK->Prop}{ops:Array bw}{rest:U bw}
def mr(v:aA)(bP n:Nat)(xs:U aA)(w:aK):Prop:=I xs=n*bP/\∃a c,v = .slice a n c/\(n=0\/∃b off,a=J ⟨b,off,ah⟩/\n<=c/\∀j u,xs[j]? = J u->w.cell? ⟨b,off+j,ah⟩=J u)
structure iZ (P:cx) (t u:bD) (bP by_:Nat):Prop where
 vl:P.underlying t=J (.slice u)
 ex:∃i z,P.info? u=J i/\i.zero=J z/\i.size=bP/\i.bytes=by_/\z.cells.size=bP/\0<bP
def QJ(P:cx)(t u:bD)(bP by_:Nat):Bool:=match P.underlying t with
 |some (.slice iK)=>iK == u&&(match P.info? u with
  |some i=>(match i.zero with
   |some z=>i.size == bP&&i.bytes == by_&&z.cells.size == bP&&aa (0<bP)
   |none=>ai)
  |none=>ai)
 |_=>ai
variable{by_:Nat}{bP:Nat}
theorem ov{u:bD}(h:QJ P t u bP by_=ae):iZ P t u bP by_:=by
 unfold QJ at h;split at h
 .rename_i c a;simp[ beq_iff_eq]at h;obtain⟨rfl,h⟩:=h;split at h
  .rename_i i hi;split at h
   .rename_i z b;simp[ beq_iff_eq]at h;exact⟨a,i,z,hi,b,h.1.1.1,h.1.1.2,h.1.2,h.2⟩
   .cases h
  .cases h
 .cases h
theorem dx.newRow(h:dx ab L F w)(t:bD)(bP:Nat):dx ab (.row (.slice ah 0 0) t bP 0 []::L) F w:=by
 refine⟨h.dV,?_,?_,?_,h.fE,?_⟩
 .intro x a;simp at a;rcases a with rfl|a
  .exact aK.ownsRow_nil w 0 t bP
  .exact h.ok x a
 .rw[qt];simpa[e7.dI]using h.nodup
 .rw[qt];simpa[e7.dI]using h.own
 .refine h.nP.mono ?_;intro x a;rw[qt]at a;simpa[e7.dI]using a
def _g(ab:cB)(L:Loc)(F:aK->Prop)(v:aA)(bP n:Nat)(xs:U aA):Prop:=∀w,dx ab L F w->mr v bP n xs w
variable{xs:U aA}
theorem ui{v:aA}{n:Nat}(h:∀w,F w->mr v bP n xs w):_g ab L F v bP n xs:=λw a=>h w a.here
theorem vf{v:aA}(h:one v=ae):v.oneCell' = true:=by cases v<;>first|rfl|cases h
variable{dst:Nat}{g:af (Nat×Bool)}{pos:String}{ty:bD}
theorem uh{s:ct}{u:bD}{bz:Array Edge}{v aI:aA}{n:Nat}{ys:U aA}(i:Nat)(cP:k1 ops e g=J ae)(ao:ec dst ab.n=ae)(eg:iZ ab.P t u bP by_)
  (cG:Env.aF e s=J v) (aW:Env.aF e x=J aI) (hi:L[i]? = J (.row v u bP n xs)) (am:_g ab L F aI bP m ys) (d':ys.all one=ae) (p:(n+m)*by_<=140737488355328) (dF:n+m<=9223372036854775807)
  (h:∀f,O ab ops rest k ((dst,f)::e) (L.set i (.row f u bP (n+m) (xs++ys))) F Q) :
  O ab ops (⟨J dst,.call ⟨.builtin .append, #[s,x], #[t,t]⟩,ty,pos,bz,g⟩::rest) k e L F Q:=by
 refine ps (λr L' dP=>∃f,r=f/\L' = L.set i (.row f u bP (n+m) (xs++ys))/\dP = F) cP ao (λa w he b9=>?_) (λr L' dP ⟨f,ay,iV,eu⟩=>by rw[ay,iV,eu];exact h f);have d:w.ownsRow 0 u bP v n xs:=b9.ok _ (List.mem_of_getElem? hi);have h1:∀y,y∈ys->one y=true:=cX.1 d';obtain⟨aZ,ad,c,rfl,ch⟩:=am w b9;obtain⟨hu,i0,z,bk,dB,cZ,dp,ef,ap⟩:=eg;have ac:∀(r:aA) (w':aK),(fP.append_ #[t,t] ty #[v,.slice ad m c]).run ab.P w = .ok r w'->(cl a.eval ⟨J dst,.call ⟨.builtin .append, #[s,x], #[t,t]⟩,ty,pos,bz,g⟩).run ab.P w = .ok (.value r) w':=by intro r w' ay;simp[cl,resolve,invoke,builtin,dG,eW,e0,List.map_nil,he.aF cG,he.aF aW,ay]
 have bW:∀(f:aA) (w':aK),w'.ownsRow 0 u bP f (n+m) (xs++ys)->w.grownBy w' v.ownBlock->(∀g,f.ownBlock=J g->v.ownBlock=J g\/w.heap.size<=g)->dx ab (L.set i (.row f u bP (n+m) (xs++ys))) F w':=by
  intro f w' bK cy ea;have dH:∀(r:aA) (q:Nat),q∈(e7.row r u bP n xs).dI↔r.ownBlock=J q:=aeo
  have dE:∀(r:aA) (q:Nat),q∈(e7.row r u bP (n+m) (xs++ys)).dI↔r.ownBlock=J q:=aeo
  refine b9.agf i hi (bF.grown cy λq cA=>(dH v q).2 cA) bK ?_ λq cA=>?_
  .cases f with|slice a l c=>cases a<;>simp[e7.dI]|_=>simp[e7.dI]
  .rcases ea q ((dE f q).1 cA)with jv|jv
   .exact .inl ((dH v q).2 jv)
   .exact .inr jv
 rcases ch with rfl|⟨b,off,rfl,_,bL⟩
 .have c0:ys=[]:=List.eq_nil_of_length_eq_zero (by simpa using aZ);subst c0;have ay:(fP.append_ #[t,t] ty #[v,.slice ad 0 c]).run ab.P w = .ok v w:=by
   rcases d.2 with ⟨rfl,rfl⟩|⟨q,cap,cur,rfl,_,cA,dL,_⟩
   .cases ad<;>simp[ eX hu,go_sem,sizeOf,typeInfo,bk,fP.lenOf,loadCells,loadCellsFrom]
   .cases ad<;>simp[ eX hu,go_sem,sizeOf,typeInfo,bk,fP.lenOf,loadCells,loadCellsFrom,dL,storeCells]
  refine⟨v,w,_,F,ac v w ay,bW v w tB ⟨rfl,rfl,rfl,b2 _,λ_ _ _=>rfl⟩ (λg cP=>.inl cP),v,rfl,rfl,rfl⟩
 .have o:∀j iK,ys[j]? = J iK->w.cell? ((⟨b,off,ah⟩:Addr).add j)=J iK:=λj iK cN=>by rw[hI];exact bL j iK cN
  obtain⟨f,w',ay,bK,cy,_⟩:=run_append_own (P:=ab.P) w 0 t ty u i0 z bP by_ hu bk dB cZ dp ef ap v n xs d ⟨b,off,ah⟩ m c ys aZ o (λy bN=>vf (h1 y bN)) (by simp[c5];omega) p (cp _);refine⟨f,w',_,F,ac f w' ay,bW f w' bK cy ?_,f,rfl,rfl,rfl⟩;intro g cP;subst cZ;subst dp;rcases d.2 with ⟨rfl,rfl⟩|⟨q,cap,cur,rfl,_,cA,dL,_,du,_⟩
  .by_cases hm:m=0
   .subst hm
    grind
   .have h3:=run_append_nil (P:=ab.P) w t ty u i0 z hu bk dB ⟨b,off,ah⟩ m c ys aZ o ag ag (by simp[Nat.zero_add]at p;omega);exact _x
  .by_cases aJ:n+m<=cap
   .have d_:n*i0.size+I ys<=cur.size:=by rw[aZ,du,<-Nat.add_mul];exact Nat.mul_le_mul_right _ aJ
    have h3:=run_append_room (P:=ab.P) w t ty u i0 hu bk q n cap cur cA ⟨b,off,ah⟩ m c ys aZ o (λy bN=>vf (h1 y bN)) aJ d_;have:=ay.symm.trans h3;simp at this;obtain⟨rfl,_⟩:=this;exact .inl cP
   .have cE:∀j iK,xs[j]? = J iK->w.cell? ((⟨q,0,ah⟩:Addr).add j)=J iK:=d.cells (g:=q) rfl;have h3:=run_append_grow (P:=ab.P) w t ty u i0 z hu bk dB ⟨q,0,ah⟩ n cap xs d.1 cE ⟨b,off,ah⟩ m c ys aZ o ag ag (growslice_fits ag p);exact _x
end
section
variable {ab:cB}{k:U k7}{e:Env}{L:Loc}{F:aK->Prop}{Q:Exit->Act->aK->Prop}{ops:Array bw}{rest:U bw}
theorem anE(l:U UInt8)(a b:Nat):(ByteArray.mk l.toArray).extract a b=⟨((l.drop a).take (b-a)).toArray⟩:=by apply ByteArray.ext;simp[ List.take_drop]
theorem P_{l:U UInt8}(c:mC P t=ae)(lo hi:af aA)(a b:Nat)(w:aK)(h:(Instr.sliceBounds ai (I l) (I l) lo hi ah).run P w = .ok (a,b,I l) w) :
  (Instr.sliceAt t (S l) lo hi ah).run P w = .ok (S ((l.drop a).take (b-a))) w:=by
 simp[Instr.sliceAt,Instr.slice,eX (pO c),abj,h,anE]
variable{j:Int}{y:ct}{z:ct}
theorem afI{l:U UInt8}{c d:b'}{i:Int}(f:mC P t=ae)(g:Env.aF e x=J (S l))(k:Env.aF e y=J (.int c i))(m:Env.aF e z=J (.int d j))(h : 0<=i/\i<=j/\j<=I l) :
  Pure P e (.slice t x (J y) (J z) ah) (S (cut l i j)):=λn a w o b p=>by
 have aj:(Instr.sliceBounds ai (I l) (I l) (J (.int c i)) (J (.int d j)) ah).run P w = .ok (i.toNat,j.toNat,I l) w:=by
  have h1 : 0<=j/\j<=(I l:Int):=ag
  have h2 : 0<=i/\i<=(j.toNat:Int):=ag
  simp only[Instr.sliceBounds,Instr.sliceBound,asIntOf,dG,eW,fg,if_pos h1,if_pos h2]
 simp[cl,p,b.aF g,b.aF k,b.aF m,(P_ f _ _ _ _ w aj),cut]
theorem afK{l:U UInt8}{b:b'}{i:Int}(d:mC P t=ae)(f:Env.aF e x=J (S l))(g:Env.aF e y=J (.int b i))(h : 0<=i/\i<=I l) :
  Pure P e (.slice t x (J y) ah ah) (S (l.drop i.toNat)):=λn a w o c j=>by
 have aj:(Instr.sliceBounds ai (I l) (I l) (J (.int b i)) ah ah).run P w = .ok (i.toNat,I l,I l) w:=aex
 have k:(l.drop i.toNat).take (I l-i.toNat)=l.drop i.toNat:=List.take_of_length_le (by simp);simp[cl,j,c.aF f,c.aF g,(P_ d _ _ _ _ w aj),k]
theorem afJ{l:U UInt8}{b:b'}(d:mC P t=ae)(f:Env.aF e x=J (S l))(g:Env.aF e z=J (.int b j))(h : 0<=j/\j<=I l) :
  Pure P e (.slice t x ah (J z) ah) (S (l.take j.toNat)):=λn a w o c i=>by
 have aj:(Instr.sliceBounds ai (I l) (I l) ah (J (.int b j)) ah).run P w = .ok (0,j.toNat,I l) w:=aex
 simp[cl,i,c.aF f,c.aF g,(P_ d _ _ _ _ w aj),Nat.sub_zero]
variable{u:aA}
theorem ayu{v:aA}(b:Env.aF e x=J v)(c:∀w,(Instr.sliceAt t v ah ah ah).run P w = .ok u w):Pure P e (.slice t x ah ah ah) u:=λn a w o d f=>by simp[cl,f,d.aF b,c w,eW]
theorem Xv:∀(us:U aA) (pre a post:U aA),I us<=I post ->
  (us.zipIdx (I a)).foldl (λ(cs:Array aA) (x:aA×Nat)=>cs.setIfInBounds (I pre+x.2) x.1) (pre++a++post).toArray=(pre++a++us++post.drop (I us)).toArray
 |[],pre,a,post,_=>by simp
 |u::us,pre,a,[],h=>by simp at h
 |u::us,pre,a,p::post,h=>by
  have b:(pre++a++p::post).toArray.setIfInBounds (I pre+I a) u=(pre++(a++[u])++post).toArray:=jk
  have c:=Xv us pre (a++[u]) post n1
  grind
theorem II(bP:Nat):∀(vs:U aA) (st:Nat) (pre post:U aA),(∀v,v∈vs->v.cells.size=bP)->I pre=st*bP->I vs*bP<=I post ->
  Instr.fill (λi=>J (i*bP,bP)) (pre++post).toArray ((List.range' st (I vs)).zip vs)=J (pre++vs.flatMap (λv=>v.cells.toList)++post.drop (I vs*bP)).toArray
 |[],st,pre,post,_,_,_=>by simp[Instr.fill]
 |v::vs,st,pre,post,h1,h2,h3=>by
  have aE:=h1 v (by simp);simp at h3;have b:bP+I vs*bP<=I post:=by rw[Nat.add_mul]at h3;omega
  have c:=Xv v.cells.toList pre [] post dh;have a:¬((v.cells.size≠bP||decide (st*bP+v.cells.size > (pre++post).toArray.size))=ae):=dh
  have d:=II bP vs (st+1) (pre++v.cells.toList) (post.drop bP) (λu e=>h1 u tL) (by simp[aE,h2,Nat.add_mul]) dh;simp only[dm,List.range'_succ,List.zip_cons_cons,Instr.fill];rw[if_neg a];have aS:(v.cells.zipIdx.foldl (λ(cs:Array aA) (x:aA×Nat)=>cs.setIfInBounds (st*bP+x.2) x.1) (pre++post).toArray)=(pre++v.cells.toList++post.drop bP).toArray:=by rw[<-Array.foldl_toList,Array.toList_zipIdx,<-h2];simpa[aE]using c
  rw[aS,d];simp[ Nat.add_mul,Nat.add_comm]
variable{by_:Nat}{dst:Nat}{g:af (Nat×Bool)}{pos:String}{bP:Nat}{ty:bD}{vs:U aA}
theorem o6{len:Nat}{parts:U (Nat×ct)}{u:bD}{l:Array Edge}(cP:k1 ops e g=J ae)(ao:ec dst ab.n=ae)(eg:iZ ab.P t u bP by_)
  (bn:parts.map (·.1)=List.range' 0 len) (aW:Env.fJ e (parts.map (·.2))=J vs) (bz:vs.all (λv=>v.cells.size == bP)=ae) (hm:dz (len*bP) 16777216=ae)
  (h:∀b,O ab ops rest k ((dst,.slice (J ⟨b,0,ah⟩) len len)::e) (.bu b (vs.flatMap λv=>v.cells.toList) u::L) F Q) :
  O ab ops (⟨J dst,.buildSlice t len parts.toArray,ty,pos,l,g⟩::rest) k e L F Q:=by
 refine ps (λr L' dP=>∃b,r = .slice (J ⟨b,0,ah⟩) len len/\L' = .bu b (vs.flatMap λv=>v.cells.toList) u::L/\dP = F) cP ao (λa w he cG=>⟨_,_,_,_,?_,cG.alloc _ u,w.heap.size,rfl,rfl,rfl⟩) (λr L' dP ⟨b,ay,iV,eu⟩=>by rw[ay,iV,eu];exact h b);obtain⟨hu,i0,z,s,dB,m,am,cZ,cE⟩:=eg;have ac:=he.fJ aW;have y:I parts=len:=by have:=congrArg List.length bn;simpa using this
 have o:I vs=len:=by rw[<-ac];simpa using y
 have bL:parts.map (λp=>(p.1,a.eval p.2))=(List.range' 0 (I vs)).zip vs:=jk
 have aJ:∀v,v∈vs->v.cells.size=bP:=by simpa using bz
 have bW:¬(len*bP > 2 ^ 24):=by simp_all
 have d:I ((Array.range (len*bP)).map λi=>z.cells[i % z.cells.size]!).toList=len*bP:=by simp
 have c:=II bP vs 0 [] ((Array.range (len*bP)).map λi=>z.cells[i % z.cells.size]!).toList aJ (by simp) (by rw[d,o];exact b2 _);have q:((Array.range (len*bP)).map λi=>z.cells[i % z.cells.size]!).toList.drop (I vs*bP)=[]:=g0 (by rw[d,o];exact b2 _);rw[q]at c;simp only[ib,List.append_nil]at c;have b9:(zeroValue u).run ab.P w = .ok z w:=by simp[zeroValue,typeInfo,s,dB]
 have j:(sizeOf u).run ab.P w = .ok bP w:=by simp[sizeOf,typeInfo,s,m]
 have aZ:parts.toArray.map (λp=>(p.1,a.eval p.2))=((List.range' 0 (I vs)).zip vs).toArray:=by rw[List.map_toArray,bL]
 by_cases h0:len*bP=0
 .have ch:vs=[]:=by
   apply List.eq_nil_of_length_eq_zero;rw[o];rcases Nat.mul_eq_zero.1 h0 with h|h
   .exact h
   .omega
  subst ch;simp only[cl,Instr.buildSlice,dG,eX hu,fg,j,h0,if_true];have bk:parts.toArray.map (λp=>(p.1,a.eval p.2)) = #[]:=by rw[aZ];rfl
  have:(parts.toArray.map λx=>match x with|(i,x)=>(i,a.eval x)) = #[]:=bk;have cy:∀f:Nat->aA,(Array.range 0).map f = #[]:=λf=>by simp
  simp[this,Instr.fill,newRow,Sem.run,cy]
 .have:(parts.toArray.map λx=>match x with|(i,x)=>(i,a.eval x))=((List.range' 0 (I vs)).zip vs).toArray:=aZ;simp[cl,Instr.buildSlice,eX hu,j,if_neg bW,if_neg h0,b9,this,c,newRow,Sem.run]
end
def r2(Q:Exit->Act->aK->Prop):Prop:=∀b a w,¬Q (.panic b) a w
theorem GL{awP:cx}:r2 (bodyPost P fn (FZ awP w g' M jH)):=by rintro b a w' ⟨_,v,L',dP,h,_⟩;cases h
theorem w_{P:cx}{Q:Exit->Act->aK->Prop}(h:r2 Q):∀k,r2 (l1 P Q k)
 |[]=>h
 |.seq _::k=>λb a w c=>w_ h k b a w c
 |.bu _::k=>λb a w c=>w_ h k b a w c
 |.loop _::k=>λb a w c=>w_ h k b a w c
 |.drawn _ _ _::k=>λb a w c=>w_ h k b a w c
 |.scope::k=>λb a w c=>w_ h k b a w c
def oq(P:cx)(ops:Array bw)(b:bw)(v:aA)(a:Act):Prop:=(Region.wanted b (yielded ops a.tmps)=ae/\∀w,(cl a.eval b).run P w = .ok (.value v) w)\/(Region.wanted b (yielded ops a.tmps)=ai/\v=undef)
section
variable {P:cx}{ops:Array bw}{md:Region.Mode}{Q:Exit->Act->aK->Prop}
theorem oq.pG{c e:bw}{v:aA}(f:∀cs b,c.op ≠ .select cs b)(h3:∀d,e.dst=J d->d∉c.looksAt ops)(h:oq P ops c v a)(u:aA):oq P ops c v (a.put e.dst u):=by unfold oq at *;rw[execOp_put c f a e.dst u h3,wanted_put c a e.dst u h3];exact h
theorem oq.wpOp{i:Nat}{b:bw}{v:aA}{a:Act}{w:aK}{K:Act->aK->Prop}(hi:ops[i]? = J b)(d:oq P ops b v a)(h:K (a.put b.dst v) w):wpOp P ops Q i K a w:=by
 unfold Go.wpOp;simp[hi];rcases d with ⟨c,e⟩|⟨c,rfl⟩
 .simp[c];left;unfold bw.wp;rw[e];exact h
 .grind
variable{K:Act->aK->Prop}
theorem ar7{j:Nat}{c g:bw}{v:aA}(t:r2 Q)(y:ops[j]? = J g)(o:c.apart ops g=ae)(e:∀cs b,c.op ≠ .select cs b)(l:∀cs b,g.op ≠ .select cs b)
  (k:oq P ops c v a) (h:wpOp P ops Q j K (a.put c.dst v) w):wpOp P ops Q j (λbC w'=>oq P ops c v bC/\K (bC.put c.dst v) w') a w:=by
 obtain⟨h1,h2,h3⟩:=bw.apart_spec o;have comm:∀u,(a.put c.dst v).put g.dst u=(a.put g.dst u).put c.dst v:=λu=>Act.put_comm a v u h2;unfold wpOp at *;simp only[y]at *;rw[wanted_put g a c.dst v h1]at h;split
 .rename_i p;simp[p]at h;rcases h with h|⟨⟨hm,m⟩,z⟩
  .left;unfold bw.wp at *;rw[execOp_put g l a c.dst v h1]at h;generalize (cl a.eval g).run P w=r at *;cases r with
   |ok n w'=>
    cases n<;>simp[bw.upon]at h ⊢
    case value u=>exact⟨k.pG e h3 u,by rw[<-comm];exact h⟩
    case skip=>exact⟨k.pG e h3 undef,by rw[<-comm];exact h⟩
    case defer d=>
     have m:oq P ops c v ({ a with defers:=d::a.defers }:Act):=k;refine⟨m.pG e h3 undef,?_⟩;rw[<-Act.put_comm _ v undef h2];have cF:({ a.put c.dst v with defers:=d::(a.put c.dst v).defers }:Act)=({ a with defers:=d::a.defers }:Act).put c.dst v:=by cases c.dst<;>rfl
     rw[<-cF];exact h
    case enter f args=>refine Calls.mono h λdv q i=>?_;cases dv with|returned u=>exact⟨k.pG e h3 u,by rw[<-comm];exact i⟩|panicked QF=>exact absurd i (t _ _ _)|outgrown=>exact i
    case row s args=>exact Rows.mono h λu q hu=>⟨k.pG e h3 u,by rw[<-comm];exact hu⟩
   |halt x w'=>
    cases x<;>simp[bw.upon]at h ⊢
    case panic u=>exact absurd h (t _ _ _)
  .right;rw[execOp_put g l a c.dst v h1]at hm m;exact⟨⟨hm,m⟩,z⟩
 .rename_i p;simp[p]at h;exact⟨k.pG e h3 _,by rw[<-comm];exact h⟩
variable{i:Nat}
theorem amr{q:bw}{v:aA}(ew:r2 Q)(hi:ops[i]? = J q)(g:∀(j:Nat) (o:bw) cs b,ops[j]? = J o->o.op ≠ .select cs b) :
  ∀(fuel:Nat) (listed:Array Bool) (a:Act) (w:aK),
   (∀j m,ops[j]? = J m->j≠i->listed.getD j ae=ai->(∀e∈m.after,Region.binds md e=ae->e.on≠i)->q.apart ops m=ae) ->
   i∈hM md ops listed->oq P ops q v a->wpAny P md ops Q fuel (listed.setIfInBounds i ae) (a.put q.dst v) w->wpAny P md ops Q (fuel+1) listed a w:=by
 intro fuel;induction fuel with
 |zero=>
  intro listed a w _ n t H;refine⟨λh=>(by rw[h]at n;cases n),λj u=>?_⟩;by_cases c:j=i
  .subst c;exact t.wpOp hi H
  .have:=ready_mono u c;rw[H.1]at this;cases this
 |succ fuel iw=>
  intro listed a w d n t H;refine⟨λh=>(by rw[h]at n;cases n),λj u=>?_⟩;by_cases c:j=i
  .subst c;exact t.wpOp hi H
  .have h1:=H.2 j (ready_mono u c);obtain⟨l,m,p,r⟩:=mem_ready.1 u;have s:∀e∈m.after,Region.binds md e=ae->e.on≠i:=λe he aj x=>by
    have h1:=r e he aj;have h0:=(mem_ready.1 n).1;rw[x]at h1;rcases Nat.lt_or_ge i listed.size with jv|jv
    .grind
    .grind
   have f:∀k ok,ops[k]? = J ok->k≠i->(listed.setIfInBounds j ae).getD k ae=ai ->
     (∀e∈ok.after,Region.binds md e=ae->e.on≠i)->q.apart ops ok=true:=λk ok aV y aZ z=>by
    refine d k ok aV y ?_ z;by_cases aJ:j=k
    .subst aJ;exact l
    .simp_all
   refine wpOp_mono (λbC w' h3=>iw (listed.setIfInBounds j ae) bC w' f (ready_mono n (Ne.symm c)) h3.1 ?_) (ar7 ew p (d j m p c l s) (λcs b=>g i q cs b hi) (λcs b=>g j m cs b p) t h1);rw[Array.setIfInBounds_comm _ _ c];exact h3.2
end
structure D (ab:cB) (ops:Array bw) (fuel:Nat) (listed:Array Bool) (k:List k7) (e:Env) (L:Loc) (F:aK->Prop) (Q:Exit->Act->aK->Prop):Prop where
 run:r2 Q->∀a w,jl ab.n e a->dx ab L F w->wpAny ab.P .any ops (l1 ab.P Q k) fuel listed a w
section
variable {ab:cB}{k:U k7}{e:Env}{L:Loc}{F:aK->Prop}{Q:Exit->Act->aK->Prop}{ops:Array bw}{fuel:Nat}{listed:Array Bool}
variable{id:Nat}
theorem aby{l:U bw}(hm:ab.P.follows .mixedOrders=ae)(b:r2 Q)(h:D ab l.toArray l.toArray.size (Array.replicate l.toArray.size ai) k e L F Q):G ab (.region id l.toArray ae) k e L F Q:=.mk λa w c d=>wp_region_any hm (h.run b a _ c (d.quiet (bF.drawn [] w _)))
theorem Z4(g:(hM .any ops listed).isEmpty=ae)(h:N ab k e L F Q):D ab ops fuel listed k e L F Q:=.mk λ_ a w c d=>by
 have b:hM .any ops listed=[]:=xg
 cases fuel with|zero=>exact⟨b,h.run a w c d⟩|succ f=>exact⟨λ_=>h.run a w c d,λi hi=>by rw[b]at hi;cases hi⟩
variable{i:Nat}
theorem av3{b:bw}{v:aA}(an:(Region.noSelect ops&&(hM .any ops listed).contains i&&Region.free .any ops listed i)=ae)(hi:ops[i]? = J b)
  (l:∀a,jl ab.n e a->oq ab.P ops b v a) (c:∀a,jl ab.n e a->jl ab.n ((match b.dst with|some d=>[(d,v)]|none=>[])++e) (a.put b.dst v)) (h:D ab ops fuel (listed.setIfInBounds i ae) k ((match b.dst with|some d=>[(d,v)]|none=>[])++e) L F Q):D ab ops (fuel+1) listed k e L F Q:=.mk λg a w j m=>by
 simp at an;obtain⟨⟨f,o⟩,p⟩:=an;exact amr (w_ g k) hi (Region.noSelect_spec f) fuel listed a w (Region.free_spec hi p) (by simpa using o) (l a j) (h.run g _ w (c a j) m)
variable{dst:Nat}{g:af (Nat×Bool)}{op:Op}{pos:String}
theorem lu{b:Array Edge}{v:aA}(i:Nat)(hi:ops[i]? = J ⟨J dst,op,t,pos,b,g⟩)(d:k1 ops e g=J ae)(ao:ec dst ab.n=ae)
  (an:(Region.noSelect ops&&(hM .any ops listed).contains i&&Region.free .any ops listed i)=ae) (f:Pure ab.P e op v) (h:D ab ops fuel (listed.setIfInBounds i ae) k ((dst,v)::e) L F Q):D ab ops (fuel+1) listed k e L F Q:=
 av3 an hi (λa c=>.inl ⟨k1.wanted (o:=⟨J dst,op,t,pos,b,g⟩) c d,λw=>f ab.n a w _ c rfl⟩) (λ_ c=>c.put ao v) h
variable{K:Act->aK->Prop}{o:bw}
theorem agp{Q:Exit->Act->aK->Prop}(hi:ops[i]? = J o)(h:wpList P ops (Exit.then K Q) [o] a w):wpOp P ops Q i K a w:=by
 unfold wpOp;simp[hi];simp[wpList]at h;split
 .rename_i b;simp[b]at h;rcases h with h|⟨h1,h2⟩
  .left;unfold bw.wp at *;generalize (cl a.eval o).run P w=r at *;cases r with
   |ok n w'=>
    cases n<;>simp[bw.upon]at h ⊢ <;> first
     |exact h
     |exact Calls.mono h (λdv d c=>by cases dv<;>exact c)
   |halt x w'=>cases x<;>simp[bw.upon]at h ⊢ <;> exact h
  .right;exact⟨h1,h2⟩
 .rename_i b;simp[b]at h;exact h
theorem _h(i:Nat)(hi:ops[i]? = J o)(d:(hM .any ops listed == [i])=ae)(h:O ab ops [o] (.drawn ops fuel (listed.setIfInBounds i ae)::k) e L F Q):D ab ops (fuel+1) listed k e L F Q:=.mk λ_ a w f g=>by
 have b:hM .any ops listed=[i]:=tB
 refine⟨λh0=>(by rw[b]at h0;cases h0),λj c=>?_⟩;rw[b]at c;simp at c;subst c;exact agp hi (h.run a w f g)
theorem ab9(b:r2 Q)(h:D ab ops fuel listed k e L F Q):N ab (.drawn ops fuel listed::k) e L F Q:=.mk λa w c d=>h.run b a w c d
end
end Go.aw
namespace Go.aw
section
variable {ab:cB}{k:U k7}{e:Env}{L:Loc}{F:aK->Prop}{Q:Exit->Act->aK->Prop}{ops:Array bw}{l:U bw}{c:Code}{id fuel:Nat}{listed:Array Bool}{pR:Loc->(aK->Prop)->Prop}
theorem fY(h:O ab ops l k e L F Q):O ab ops l k e L F Q:=h
theorem fZ(h:G ab c k e L F Q):G ab c k e L F Q:=h
theorem f_(h:N ab k e L F Q):N ab k e L F Q:=h
theorem E'(h:D ab ops fuel listed k e L F Q):D ab ops fuel listed k e L F Q:=h
end
open Go.RowKit
def pL(c d:b')(a b:Int)(r:af Bool):af Bool:=match aa (c=d),r with|true,J r=>J ((a == b)&&r)|_,_=>ah
def iS(P:cx)(xs ys:Array aA):U Field->af Bool
 |[]=>J ae
 |f::az=>match f.name == "_",P.underlying f.type,xs[f.offset]?,ys[f.offset]? with|false,J (.int _),J (.int dN a),J (.int eJ b)=>pL dN eJ a b (iS P xs ys az)|false,J .string,J (.string a),J (.string b)=>(iS P xs ys az).map λr=>(aa (a.data.toList=b.data.toList))&&r|false,J .bool,J (.bool a),J (.bool b)=>(iS P xs ys az).map λr=>(a == b)&&r|_,_,_,_=>ah
variable{P:cx}{t:bD}
theorem xG{d:TypeDesc}{xs:Array aA}{i:Nat}{v:aA}(a:P.underlying t=J d)(b:∀az,d ≠ .struct az)(aj:∀n e,d ≠ .array n e)(aE:xs[i]? = J v)(w:aK):(part t xs i).run P w = .ok v w:=by
 have h1:(isAgg t).run P w = .ok ai w:=by
  simp only[isAgg,dG,eX a]
  simp_all
 simp[part,h1,aE]
theorem Ij{P:cx}{xs ys:Array aA}(d:Nat):∀(az:U Field) (r:Bool),iS P xs ys az=J r->∀w,(Op.eqFields (d+1) xs ys az).run P w = .ok r w
 |[],r,h,w=>by simp[iS]at h;subst h;simp[Op.eqFields]
 |f::az,r,h,w=>by
  unfold iS at h;split at h
  .rename_i u p a t b j c k l;cases e:iS P xs ys az with
   |none=>rw[e]at h;simp only[pL]at h;split at h<;>first|(simp at *;done)|cases h
   |some m=>
    rw[e]at h;have o:p=t:=by
     by_cases o:p=t
     .exact o
     .simp[pL,o]at h
    subst o;simp[pL,decide_true]at h;have q:=Ij d az m e w;have g:f.name ≠ "_" :=Gx
    have s:=xG c (λ_=>by simp) (λ_ _=>by simp) k w;have aS:=xG c (λ_=>by simp) (λ_ _=>by simp) l w;have i:=run_equalIn_int (P:=P) w d f.type p _ a b c;simp only[Op.eqFields,if_pos g,dG,s,aS,i,fg];rw[<-h];cases n:(a == b)
    .simp
    .simp[q]
  .rename_i a b j c k l;cases e:iS P xs ys az with
   |none=>rw[e]at h;cases h
   |some m=>
    rw[e]at h;simp only[yZ,c4]at h;have q:=Ij d az m e w;have g:f.name ≠ "_" :=Gx
    have s:=xG c (λ_=>by simp) (λ_ _=>by simp) k w;have aS:=xG c (λ_=>by simp) (λ_ _=>by simp) l w;have i:=run_equalIn_string (P:=P) w d f.type a b c;have v:(a.toList == b.toList)=aa (a.data.toList=b.data.toList):=by rw[ByteArray.toList_eq,ByteArray.toList_eq];rw[Bool.eq_iff_iff];simp
    rw[v]at i;simp only[Op.eqFields,if_pos g,dG,s,aS,i,fg];rw[<-h];cases n:aa (a.data.toList=b.data.toList)
    .simp
    .simp[q]
  .rename_i a b j c k l;cases e:iS P xs ys az with
   |none=>rw[e]at h;cases h
   |some m=>
    rw[e]at h;simp[yZ]at h;have g:f.name ≠ "_" :=Gx
    have aS:=xG c (λ_=>by simp) (λ_ _=>by simp) l w;have i:=run_equalIn_bool' (P:=P) w d f.type a b c;simp only[Op.eqFields,if_pos g,dG,(xG c (λ_=>by simp) (λ_ _=>by simp) k w),aS,i,fg];rw[<-h];cases n:(a == b)
    .simp
    .simp[(Ij d az m e w)]
  .cases h
def qZ(P:cx)(t:bD):Bool:=(match P.underlying t with|some (.struct _)=>ae|_=>ai) && !P.stoodInHeld t && !P.eqGuardType P.depth t
section
variable {P:cx}{e:Env}{t t':bD}{x y:ct}{xs ys:Array aA}{r:Bool}
theorem SZ(a:qZ P t=ae)(b:iS P xs ys (P.fieldsOf t).toList=J r)(w:aK):(Op.equalIn 10000 t (.agg xs) (.agg ys)).run P w = .ok r w:=by
 simp[qZ,bx]at a;have c:P.underlying t=J (.struct (P.fieldsOf t)):=by
  have:=a.1.1;unfold cx.fieldsOf
  grind
 rw[show(10000:Nat)=9999+1 from rfl,run_equalIn_struct w 9999 t xs ys c a.1.2];exact Ij 9998 _ r b w
theorem ayj(a:qZ P t=ae)(b:Env.aF e x=J (.agg xs))(c:Env.aF e y=J (.agg ys))(d:iS P xs ys (P.fieldsOf t).toList=J r):Pure P e (.binOp .eql t x y t') (.bool r):=gR b c (λw=>run_eqGuard_agg w _ _ _ _ _ _ (by simp[qZ,bx]at a;exact a.2)) λw=>by rw[run_eql_struct,SZ a d];rfl
theorem ayo(a:qZ P t=ae)(b:Env.aF e x=J (.agg xs))(c:Env.aF e y=J (.agg ys))(d:iS P xs ys (P.fieldsOf t).toList=J r):Pure P e (.binOp .neq t x y t') (.bool (!r)):=gR b c (λw=>run_eqGuard_agg w _ _ _ _ _ _ (by simp[qZ,bx]at a;exact a.2)) λw=>by rw[run_neq_struct,SZ a d];rfl
end
variable{a:af Addr}{c:Nat}
theorem mr.cap{bP n:Nat}{xs:U aA}{w:aK}(h:mr (.slice a n c) bP n xs w):n<=c:=by
 obtain⟨_,bC,e,b,d⟩:=h;simp at b;obtain⟨rfl,_,rfl⟩:=b;rcases d with rfl|⟨_,_,_,h,_⟩
 .omega
 .exact h
theorem pa{e:Env}{x z:ct}{n:Nat}{b:b'}{j:Int}(bP:Nat)(f:(nI P t == J bP)=ae)(g:Env.aF e x=J (.slice a n c))(i:Env.aF e z=J (.int b j))(h : 0<=j/\j<=c) :
  Pure P e (.slice t x ah (J z) ah) (.slice a j.toNat c):=λq bC w o d k=>by
 obtain⟨u,l,m⟩:=Bn (n:=bP) (by simpa using f);have p:(Instr.sliceAt t (.slice a n c) ah (J (.int b j)) ah).run P w = .ok (.slice a j.toNat c) w:=by
  have hm:(if c=0 then a else a.map (λx=>x.add 0))=a:=by
   split
   .rfl
   .cases a<;>simp[Addr.add]
  simp[Instr.sliceAt,Instr.slice,eX l,Instr.sliceBounds,Instr.sliceBound,asIntOf,if_pos h,run_sizeOf m,hm]
 simp[cl,k,d.aF g,d.aF i,p,eW]
end Go.aw
namespace Go.dS
open Go.RowKit
structure cB where
 P:cx
 jy:aK
 g':g7
 M:g7
 el:b1->bD
 bM:Nat->Option h_
structure FS where
 n:Nat
 env:Nat->Option D
 cd:Nat
 lt:Nat
 bI:List Fr
 ak:Nat->Option c_
 nb:Nat
 cc:Nat->Prop
 ba:Nat
 df:List D
def az(st:bc):FS:=⟨st.n,get st.env,st.cd,st.lt,st.bI,bu st.ak,st.nb,λt=>t∈st.a9,st.ba,st.df⟩
def fj(m:dg)(s:FS):g7:=λb i=>(∃k,s.ak k≠ah/\m.ak k=b)\/∃t o,s.cc t/\m.a9 t=J (b,o)/\o<=i
def vx(ab:cB)(m:dg)(s:FS)(w:aK):cM:=⟨m,s.cc,λb i=>ab.M b i\/fj m s b i,w,s.nb,s.ba,ab.el⟩
def aeq(x:cM):D->Deferred->Prop|.ptr b c,u2=>b<x.nb/\c<x.nb/\x.m.ak c=x.m.ak b+1/\u2={ target:=.collected (x.m.ak b),args:= #[] }|.fn f hp,u2=>∃vs:U aA,u2={ target:=.fn (.func f) vs.toArray,args:= #[] }/\aX x hp vs|_,_=>False
def pU(x:cM):U D->U Deferred->Prop|[],l=>l=[]|d::av,l=>∃a r,l=a::r/\aeq x d a/\pU x av r
variable{x:cM}{x':cM}
theorem pU.later(h:eD x x'):∀{av:U D}{l:U Deferred},pU x av l->pU x' av l
 |[],_,ay=>ay
 |d::av,l,⟨u2,r,e,h1,h2⟩=>by
  refine⟨u2,r,e,?_,pU.later h h2⟩;cases d<;>simp only[aeq]at h1 ⊢
  .exact⟨gy h1.1 h.nb,gy h1.2.1 h.nb,by rw[h.ak _ h1.1,h.ak _ h1.2.1];exact h1.2.2⟩
  .obtain⟨vs,e,aE⟩:=h1;exact⟨vs,e,aX.later h _ _ aE⟩
structure jm (x:cM) (n:Nat) (df:List D) (env:Nat->Option D) (a:Act):Prop where
 defers:pU x df a.defers
 size:a.tmps.size=n
 get:∀k d,env k=J d->∃v,a.tmps[k]? = J v/\aB x d v
def nj(x:cM):Nat->Nat->U Fr->U Act->Prop|_,_,[],as_=>as_=[]|cd,lt,f::az,as_=>∃a r,as_=a::r/\f.cd<=cd/\f.lt<=lt/\jm { x with nb:=cd,ba:=lt } f.n f.df (get f.env) a/\nj x f.cd f.lt az r
def Oi:bf->Code|.exit id=>.exit id|_=>.ret
def Py(j:Int)(q:Nat):bf:=if j=1 then .ret else .exit q
def gX(x:cM)(β:Nat):c_->Prop|.cells av=>av.all cv=ae/\∃(vs:U aA) (t:bD),x.w.heap[β]? = J (.cells vs.toArray t (0,0))/\aX x av vs|.box c y=>eV c=ae/\∃(vs:U aA) (t:bD),x.w.heap[β]? = J (.cells vs.toArray t (0,0))/\I vs=aL c/\∀(j:Nat) d,(enc c y)[j]? = J d->∃u,vs[j]? = J u/\eI x.S x.w d u|.row c n xs=>I xs=n/\∃(vs:U aA) (t:bD),x.w.heap[β]? = J (.cells vs.toArray t (0,0))/\I vs=I xs*aL c/\∀i y j d,xs[i]? = J y->(enc c y)[j]? = J d->∃u,vs[i*aL c+j]? = J u/\eI x.S x.w d u|.dyn c xs=>I xs<=c5/\∃(vs:U aA) (t:bD),x.w.heap[β]? = J (.cells vs.toArray t (0,0))/\I xs*aL c<=I vs/\∀i y j d,xs[i]? = J y->(enc c y)[j]? = J d->∃u,vs[i*aL c+j]? = J u/\eI x.S x.w d u|.e' k=>k=0->x.w.heap[β]? = J (.deferred (J []))|.hc s n bE bS body env=>∃r:Loop,x.w.heap[β]? = J (.loop r)/\r.params=bE.toArray/\r.assign=bS/\r.body=body/\jm x n [] (get env) { tmps:=r.tmps,defers:=[] }/\(s=0->r.state = .ready/\r.pending=ah)|.nN e=>∃r:Loop,x.w.heap[β]? = J (.loop r)/\r.state = .done/\r.pending=J (Oi e)|.lj j n bE bS body env q=>gv .i64 j=ae/\(j=0->∃r:Loop,x.w.heap[β]? = J (.loop r)/\r.params=bE.toArray/\r.assign=bS/\r.body=body/\jm x n [] (get env) { tmps:=r.tmps,defers:=[] }/\(r.state = .ready/\r.pending=ah))/\(j≠0->∃r:Loop,x.w.heap[β]? = J (.loop r)/\r.state = .done/\r.pending=J (Oi (Py j q)))|.gO t d=>(∃l a9,d = .sl .byte l a9)/\∃(a v:aA),x.w.heap[β]? = J (.cells #[a,v] t (0,0))/\(a = .pointer ah\/a = .pointer (J ⟨β,0,ah⟩))/\aB x d v
def n5(x:cM)(bM:Nat->af h_):Prop:=(∀g c xs,bM g=J (.arr c xs)->∀i y,xs[i]? = J y->∀w',bF x.S x.w w'->lq w' c y g (i*aL c))/\(∀g l,bM g=J (.map l)->∃r es a,(∀w',bF x.S x.w w'->w'.cell? ⟨g,0,ah⟩=J (.map (J r))/\w'.heap[r]? = J (.map es a))/\F9 l es.toList)/\∀g k,bM g=J (.num k)->∃n,∀w',bF x.S x.w w'->w'.cell? ⟨g,0,ah⟩=J (.int k n)
structure Rel (ab:cB) (m:dg) (a:Act) (as_:List Act) (s:FS) (w:aK):Prop where
 dV:bF ab.g' ab.jy w
 env:jm (vx ab m s w) s.n s.df s.env a
 gI:nj (vx ab m s w) s.cd s.lt s.bI as_
 cd:s.cd<=s.nb
 lt:s.lt<=s.ba
 eb:∀b k,s.ak b=J k->b<s.nb/\gX (vx ab m s w) (m.ak b) k
 hZ:∀t,s.cc t->t<s.ba
 inj:∀b bQ,s.ak b≠ah->s.ak bQ≠ah->m.ak b=m.ak bQ->b=bQ
 gb:∀t t' g o o',s.cc t->s.cc t'->m.a9 t=J (g,o)->m.a9 t' = J (g,o')->t=t'
 fH:∀b t g o,s.ak b≠ah->s.cc t->m.a9 t=J (g,o)->m.ak b≠g
 own:∀b i,fj m s b i->b<w.heap.size/\(ab.g' b i\/ab.jy.heap.size<=b)
 fE:∀b i j,ab.M b i->b<ab.jy.heap.size/\¬ab.g' b j
 g1:n5 (vx ab m s w) ab.bM
variable{a:Act}{as_:U Act}{ab:cB}{m:dg}{s:FS}{w:aK}
theorem Rel.y_(h:Rel ab m a as_ s w)(ao:s.df=[]):a.defers=[]:=by have h1:=h.env.defers;rw[ao]at h1;exact h1
variable{df:U D}{env:Nat->af D}
theorem jm.later(h:eD x x'){n:Nat}(b:jm x n df env a):jm x' n df env a:=⟨b.defers.later h,b.size,λk d c=>by obtain⟨v,aE,ao⟩:=b.get k d c;exact⟨v,aE,aB.later h d v ao⟩⟩
theorem eD.low(h:eD x x'){cd lt:Nat}(h1:cd<=x.nb)(h2:lt<=x.ba):eD { x with nb:=cd,ba:=lt } { x' with nb:=cd,ba:=lt }:=⟨h.dV,h.dI,h.el,λb aj=>h.ak b (gy aj h1),b2 _,b2 _,λt a c=>h.a9 t (gy a h2) c⟩
theorem nj.later(h:eD x x'):∀{gI:U Fr}{as_:U Act}{cd lt:Nat},cd<=x.nb->lt<=x.ba->nj x cd lt gI as_->nj x' cd lt gI as_
 |[],_,_,_,_,_,ay=>ay
 |f::gI,as_,cd,lt,h1,h2,ay=>by obtain⟨a,r,e,h3,h4,b,c⟩:=ay;exact⟨a,r,e,h3,h4,b.later (h.low h1 h2),nj.later h (e2 h3 h1) (e2 h4 h2) c⟩
variable{β:Nat}
theorem gX.later(h:eD x x')(aj:x'.w.heap[β]? = x.w.heap[β]?):∀{k:c_},gX x β k->gX x' β k
 |.cells av,⟨bB,vs,t,cf,ay⟩=>⟨bB,vs,t,by rw[aj];exact cf,aX.later h av vs ay⟩
 |.box c y,⟨cI,vs,t,cf,bB,ay⟩=>⟨cI,vs,t,by rw[aj];exact cf,bB,λj d ao=>by obtain⟨u,b,e⟩:=ay j d ao;exact⟨u,b,h.rf e⟩⟩
 |.row c n xs,⟨cJ,vs,t,cf,bB,ay⟩=>⟨cJ,vs,t,by rw[aj];exact cf,bB,λi y j d f ao=>by obtain⟨u,b,e⟩:=ay i y j d f ao;exact⟨u,b,h.rf e⟩⟩
 |.dyn c xs,⟨cJ,vs,t,cf,bB,ay⟩=>⟨cJ,vs,t,by rw[aj];exact cf,bB,λi y j d f ao=>by obtain⟨u,b,e⟩:=ay i y j d f ao;exact⟨u,b,h.rf e⟩⟩
 |.e' k,aV=>by simp only[gX]at aV ⊢;rw[aj];exact aV
 |.hc _ _ _ _ _ _,⟨r,h1,h2,h3,h4,h5,h6⟩=>⟨r,by rw[aj];exact h1,h2,h3,h4,h5.later h,h6⟩
 |.nN _,⟨r,h1,h2⟩=>⟨r,by rw[aj];exact h1,h2⟩
 |.lj _ _ _ _ _ _ _,⟨b,h0,h1⟩=>⟨b,λg=>by
   obtain⟨r,l,m,o,p,q,s⟩:=h0 g;exact⟨r,by rw[aj];exact l,m,o,p,q.later h,s⟩,λg=>by
   obtain⟨r,l,m⟩:=h1 g;exact⟨r,by rw[aj];exact l,m⟩⟩
 |.gO _ d,⟨ao,a,v,cf,cI,ay⟩=>⟨ao,a,v,by rw[aj];exact cf,cI,aB.later h d v ay⟩
theorem n5.later(h:eD x x'){bM:Nat->af h_}(b:n5 x bM):n5 x' bM:=⟨λg c xs e i y f w' a=>b.1 g c xs e i y f w' (h.dV.later h.dI a),λg l j=>by obtain⟨r,es,d,h1,h2⟩:=b.2.1 g l j;exact⟨r,es,d,λw' a=>h1 w' (h.dV.later h.dI a),h2⟩,λg k m=>by obtain⟨n,h1⟩:=b.2.2 g k m;exact⟨n,λw' a=>h1 w' (h.dV.later h.dI a)⟩⟩
variable{j:Nat}
theorem Rel.y2(h:Rel ab m a as_ s w){b i:Nat}(hm:ab.M b i)(c:fj m s b j):False:=by
 obtain⟨h1,h2⟩:=h.fE b i j hm;rcases(h.own b j c).2 with hi|hi
 .exact h2 hi
 .omega
theorem Rel.quiet{w':aK}(h:Rel ab m a as_ s w)(an:bF er w w'):Rel ab m a as_ s w':=by
 have aj:∀k,k<w.heap.size->w'.heap[k]? = w.heap[k]? :=λk c=>an.block k c (λ_ h=>h);have d:eD (vx ab m s w) (vx ab m s w'):=⟨an.mono (λ_ _ h=>h.elim),λb i hi=>.inl hi,rfl,λ_ _=>rfl,b2 _,b2 _,λt _ e=>⟨e,rfl,λg o f=>aj g (h.own g o (.inr ⟨t,o,e,f,b2 _⟩)).1⟩⟩;refine⟨h.dV.trans (an.mono (λ_ _ h=>h.elim)),h.env.later d,h.gI.later d h.cd h.lt,h.cd,h.lt,λb k c=>?_,h.hZ,h.inj,h.gb,h.fH,λb i hi=>?_,h.fE,h.g1.later d⟩
 .obtain⟨h1,h2⟩:=h.eb b k c;exact⟨h1,h2.later d (aj _ (h.own (m.ak b) 0 (.inl ⟨b,by rw[c];simp,rfl⟩)).1)⟩
 .obtain⟨h1,h2⟩:=h.own b i hi;exact⟨gy h1 an.size,h2⟩
theorem jm.put{n:Nat}(h:jm x n df env a){k:Nat}(f:k<n){d:D}{v:aA}(ao:aB x d v):jm x n df (λj=>if j=k then J d else env j) (a.put (J k) v):=by
 refine⟨by simpa[Act.put]using h.defers,by simpa[Act.put]using h.size,λj e b=>?_⟩;by_cases c:j=k
 .subst c;simp at b;subst b;have:j<a.tmps.size:=by rw[h.size];exact f
  exact⟨v,by simp[Act.put,this],ao⟩
 .simp[if_neg c]at b;obtain⟨u,g,i⟩:=h.get j e b;refine⟨u,?_,i⟩;simp[Act.put];rw[Array.getElem?_setIfInBounds_ne (Ne.symm c)];exact g
def FS.put(s:FS)(k:Nat)(d:D):FS:={ s with env:=λj=>if j=k then J d else s.env j }
theorem lZ{a b:Nat}(h:a≠b):bV a b=false:=by cases aj:bV a b with|true=>simp_all|false=>rfl
theorem ix(e:Env)(k j:Nat)(d:D):get ((k,d)::e) j=if j=k then J d else get e j:=by
 simp[get];by_cases h:j=k
 .subst h;simp
 .have:bV k j=false:=lZ (Ne.symm h);simp[this,h]
theorem od(st:bc)(k:Nat)(d:D):az (st.put k d)=(az st).put k d:=by simp[az,bc.put,FS.put];funext j;exact ix st.env k j d
theorem Rel.put(h:Rel ab m a as_ s w){k:Nat}(b:k<s.n){d:D}{v:aA}(ao:aB (vx ab m s w) d v):Rel ab m (a.put (J k) v) as_ (s.put k d) w:=⟨h.dV,h.env.put b ao,h.gI,h.cd,h.lt,h.eb,h.hZ,h.inj,h.gb,h.fH,h.own,h.fE,h.g1⟩
def pV(a:Act):aw.Env:=(dy a.tmps.size).map λk=>(k,a.tmps.getD k undef)
theorem aak{k:Nat}{v:aA}(h:a.tmps[k]? = J v):aw.Env.get (pV a) k=J v:=by
 have c:k<a.tmps.size:=(gG.1 h).1;have key:∀(n b:Nat),b<=k->k<b+n->aw.Env.get ((List.range' b n).map λk=>(k,a.tmps.getD k undef)) k=J v:=by
  intro n;induction n with
  |zero=>intro b h1 h2;omega
  |succ n d=>
   intro b h1 h2;simp only[List.range'_succ,e0,aw.Env.get];by_cases aj:b=k
   .subst aj;simp[ h]
   .have:bV b k=false:=lZ aj;simp only[this];exact d (b+1) ag ag
 have:=key a.tmps.size 0 (cp _) ag;simpa[pV,List.range_eq_range']using this
theorem Jz(h:a.defers=[]):aw.jl a.tmps.size (pV a) a:=by
 refine⟨h,rfl,λk v c=>?_⟩;have key:∀(l:U Nat),aw.Env.get (l.map λk=>(k,a.tmps.getD k undef)) k=J v->k∈l/\v=a.tmps.getD k undef:=by
  intro l;induction l with
  |nil=>intro h;simp[aw.Env.get]at h
  |cons b l d=>
   intro h;simp only[e0,aw.Env.get]at h;by_cases aj:b=k
   .grind
   .have:bV b k=false:=lZ aj;simp only[this]at h;obtain⟨h1,h2⟩:=d h;exact⟨by simp[h1],h2⟩
 obtain⟨h1,h2⟩:=key _ c;simp at h1;rw[h2];simp[ h1]
section
variable {R:Type}(px:aM R)
def hK(env:Nat->af D)(t:Nat):ct->af D|.tmp i=>env i|.const v=>y1 (px.aO t) v|.global g=>J (.lf g)|.func f=>J (.fn f [])
theorem cR(st:bc)(t:Nat)(x:ct):aF px st t x=hK px (get st.env) t x:=by cases x<;>rfl
end
theorem Ze{s:ByteArray}(h:Pc s=ae):I s.data.toList<=maxLen:=by have:I s.data.toList<=1048576:=Nat.le_of_ble_eq_true h;simp only[c5];omega
variable{z:D}
theorem ate{d:D}{v:aA}(h:Pn z v=J d):aB x d v/\cv d=true:=by
 unfold Pn at h;split at h
 .split at h
  .simp at h;subst h;rename_i a;exact⟨by simp only[aB];exact⟨trivial,a⟩,rfl⟩
  .cases h
 .simp at h;subst h;exact vD
 .split at h
  .rename_i b;simp at h;subst h;exact⟨by simp only[aB];exact⟨trivial,Ze b⟩,rfl⟩
  .cases h
 all_goals simp at h
 all_goals subst h
 .exact N2
 .exact vD
 .exact vD
theorem MN{x:cM}:∀{zs av:U D}{vs:U aA},q' zs vs=J av->aX x av vs/\av.all cv=ae
 |[],av,[],h=>by simp[q']at h;subst h;simp[aX]
 |z::zs,av,v::vs,h=>by
  simp[q']at h;split at h
  .rename_i d ao;split at h
   .rename_i b a;simp at h;subst h;have h1:=ate (x:=x) ao;have h2:=MN (x:=x) a;exact⟨by simp only[aX];exact⟨v,vs,rfl,h1.1,h2.1⟩,by simp[h1.2,h2.2]⟩
   .cases h
  .cases h
 |[],av,v::vs,h=>by simp[q']at h
 |z::zs,av,[],h=>by simp[q']at h
theorem akG{t:ds}{v:aA}{d:D}(h:y1 t v=J d):aB x d v:=by
 unfold y1 at h;split at h
 .split at h
  .rename_i b;simp at h;subst h;simp only[aB];exact⟨trivial,b⟩
  .cases h
 .exact Dp
 .split at h
  .rename_i c;simp at h;subst h;simp only[aB];exact⟨trivial,Ze c⟩
  .cases h
 .split at h
  .simp at h;subst h;simp[aB];exact⟨λ_ _=>.nil _ _ _ _ trivial,by simp[qJ]⟩
  .cases h
 .exact Dp
 .exact Dp
 .split at h
  .split at h
   .rename_i av a;simp at h;subst h;have h2:=MN (x:=x) a;simp only[aB];exact⟨h2.2,_,by simp,h2.1⟩
   .cases h
  .cases h
 .exact Dp
variable{R:Type}{px:aM R}{t:Nat}
theorem jm.aF{n:Nat}(h:jm x n df env a){o:ct}{d:D}(b:hK px env t o=J d):∃v,aw.Env.aF (pV a) o=J v/\a.eval o=v/\aB x d v:=by cases o with|tmp k=>obtain⟨v,aE,ao⟩:=h.get k d b;exact⟨v,aak aE,by simp[Act.eval,aE],ao⟩|const v=>exact⟨v,rfl,rfl,akG b⟩|global g=>simp[hK]at b;subst b;exact⟨_,rfl,rfl,by simp[aB]⟩|func f=>simp[hK]at b;subst b;exact⟨_,rfl,rfl,by simp only[aB];exact⟨[],rfl,by simp[aX]⟩⟩
def Rj:D->aA->Bool|.int k n,.int eh hr=>aa (k=eh)&&aa (n=hr)&&gv k n|.bool b,.bool bQ=>b == bQ|.str [],.string s=>s.data.toList == []|.sl _ [] .nil,.slice ah 0 0=>ae|.sl _ [] .no,.slice ah 0 0=>ae|.kS,.pointer ah=>ae|.oC,.nilFunc=>ae|_,_=>ai
def pQ:U D->U aA->Bool|[],[]=>ae|d::av,v::vs=>Rj d v&&pQ av vs|_,_=>ai
theorem avs{d:D}{v:aA}(h:Rj d v=ae):aB x d v/\cv d=true:=by
 unfold Rj at h;split at h
 .simp at h;obtain⟨⟨rfl,rfl⟩,h⟩:=h;exact⟨by simp only[aB];exact⟨trivial,h⟩,rfl⟩
 .simp at h;subst h;exact vD
 .simp at h;refine⟨?_,rfl⟩;simp only[aB];refine⟨?_,by simp⟩;rename_i s;obtain⟨⟨l⟩⟩:=s;exact AC
 .exact N2
 .exact N2
 .exact vD
 .exact vD
 .cases h
theorem yb{x:cM}:∀{av:U D}{vs:U aA},pQ av vs=ae->aX x av vs/\av.all cv=ae
 |[],[],_=>by simp[aX]
 |d::av,v::vs,h=>by simp[pQ]at h;have h1:=avs (x:=x) h.1;have h2:=yb (x:=x) h.2;exact⟨by simp only[aX];exact⟨v,vs,rfl,h1.1,h2.1⟩,by simp[h1.2,h2.2]⟩
 |[],_::_,h=>by simp[pQ]at h
 |_::_,[],h=>by simp[pQ]at h
def FB:b1->af (U Nat)|.val=>J [0,0,1]|.tok=>J [0,0,1,0]|.cO=>J [1,0,2,2,1]|_=>ah
def FF(P:cx)(t:bD):Bool:=match P.underlying t with|some (.int _)=>ae|_=>ai
def u6(P:cx):Nat->U Field->U Nat->Bool
 |_,[],[]=>ae
 |i,f::az,k::QT=> !(f.name == "_")&&f.offset == i&&(match k with
   |0=>FF P f.type
   |1=>aw.mC P f.type
   |_=>aw.sD P f.type)&&u6 P (i+1) az QT
 |_,_,_=>ai
def pw(P:cx)(t:bD):Nat->U Field->U (Nat×Nat)->Bool|_,[],[]=>ae|i,f::az,(o,u)::l=>f.type == u&&aw.u7 P t i == J o&&f.offset == o&&pw P t (i+1) az l|_,_,_=>ai
def eL(P:cx)(el:b1->bD)(aO:Nat->ds)(t:Nat):Bool:=match aO t with
 |.no=>ae
 |ty=>aw.oH P t&&(aw.sC P t == ty.eV)&&(aw.ft P t == J ty.n)&&(match ty.zero with
   |some z=>(match aw.sE P t with
    |some zs=>pQ (cells z) zs
    |none=>ai)
   |none=>ae)&&(match ty with
  |.int k=>aw.vk P t k
  |.bool=>aw.sD P t
  |.str=>aw.mC P t
  |.sl c=>(match P.info? (el c)with
   |some i=>aw.QJ P t (el c) (aL c) i.bytes&&dz i.bytes 512&&(match c with
    |.byte=>aw.vk P (el c) .u8
    |_=>ae)&&(match aw.sE P (el c)with
    |some zs=>pQ (enc c (e6 c)) zs
    |none=>ai)
   |none=>ai)
  |.st c l _=>(match P.underlying t with
   |some (.struct fds)=>pw P t 0 fds.toList l&&(match c with
    |some c=>(match FB c with
     |some a=>aw.qZ P t&&u6 P 0 fds.toList a
     |none=>ae)
    |none=>ae)
   |_=>ai)
  |.arr n c=>(match P.underlying t with
   |some (.array hr u)=>hr == n&&u == el c&&aw.ft P u == J (aL c)&&aw.oH P u&&(aw.sC P u == eV c)
   |_=>ai)
  |.map=>(match P.underlying t with
   |some (.map k e)=>(match P.underlying k with
    |some (.int .i64)=>ae
    |_=>ai)&&(match P.info? e with
    |some i=>(match i.zero with
     |some (.string s)=>s.data.toList == []
     |_=>ai)
    |none=>ai)
   |_=>ai)
  |.ptr=>(match P.underlying t with
   |some (.pointer _)=>ae
   |_=>ai)
  |_=>ae)
def mG(st aG:bc):Prop:=aG.n=st.n/\aG.env=st.env/\aG.cd=st.cd/\aG.lt=st.lt/\(aG.bI,aG.df)=(st.bI,st.df)
def NU{R:Type}(ab:cB)(px:aM R):Prop:=∀(b:Nat) (av:U D) (st:bc) (K:D->bc->af R) (r:R),px.zj b av st K=J r->∀(m:dg) (a:Act) (as_:U Act) (w:aK) (vs:U aA),Rel ab m a as_ (az st) w->aX (vx ab m (az st) w) av vs -> ∃fn tmps bS body,(Instr.yield (m.ak b) vs.toArray).run ab.P w = .ok (.round (m.ak b) fn tmps bS body) w/\RoundIn gK 0 ab.P (m.ak b) fn tmps bS body w λdv w'=>∃v,dv = .returned v/\∃d aG aR,K d aG = J r/\mG st aG/\Rel ab aR a as_ (az aG) w'/\aB (vx ab aR (az aG) w') d v
def IV{R:Type}(px:aM R):Prop:=∀b av st K,px.zj b av st K=ah
theorem IV.ok(h:IV px):NU ab px:=λb av st K r a=>by rw[h]at a;cases a
structure eR {R:Type}(ab:cB) (px:aM R):Prop where
 aO:∀t,eL ab.P ab.el px.aO t=ae
 bM:px.bM=ab.bM
 ks:NU ab px
section
variable {P:cx}{el:b1->bD}{aO:Nat->ds}{t:Nat}
theorem nr(h:eL P el aO t=ae)(a:aO t ≠ .no):aw.oH P t=ae/\aw.sC P t=(aO t).eV /\ aw.ft P t=J (aO t).n:=by
 unfold eL at h;split at h
 .grind
 .grind
theorem HZ(h:eL P el aO t=ae)(a:aO t ≠ .no)(b:(aO t).zero=J z):∃zs,aw.sE P t=J zs/\pQ (cells z) zs=true:=by
 unfold eL at h;split at h
 .grind
 .grind
variable{k:b'}
theorem Nj(h:eL P el aO t=ae)(a:aO t = .int k):aw.vk P t k=true:=N3
theorem LR(h:eL P el aO t=ae)(a:aO t = .bool):aw.sD P t=true:=N3
theorem qu(h:eL P el aO t=ae)(a:aO t = .str):aw.mC P t=true:=N3
variable{c:b1}
theorem jC(h:eL P el aO t=ae)(a:aO t = .sl c):∃by_,aw.iZ P t (el c) (aL c) by_/\by_<=512/\(c = .byte->aw.vk P (el c) .u8=ae):=by
 unfold eL at h;rw[a]at h;simp at h
 have h2:=h.2;split at h2
 .rename_i i hi;simp at h2;refine⟨i.bytes,aw.ov h2.1.1.1,by simpa using h2.1.1.2,λan=>?_⟩;subst an;simpa using h2.1.2
 .cases h2
theorem arR(h:eL P el aO t=ae)(a:aO t = .sl c):∃zs,aw.sE P (el c)=J zs/\pQ (enc c (e6 c)) zs=true:=by
 unfold eL at h;rw[a]at h;simp at h
 have h2:=h.2;split at h2
 .grind
 .cases h2
theorem uj(h:eL P el aO t=ae){n:Nat}(a:aO t = .arr n c):P.underlying t=J (.array n (el c))/\aw.ft P (el c)=J (aL c)/\aw.oH P (el c)=ae/\aw.sC P (el c)=eV c:=by
 unfold eL at h;rw[a]at h;simp at h
 have h2:=h.2;split at h2
 .grind
 .cases h2
theorem atN(h:eL P el aO t=ae)(a:aO t = .ptr):∃u,P.underlying t=J (.pointer u):=by
 unfold eL at h;rw[a]at h;simp only[bx]at h
 have h2:=h.2;split at h2
 .exact⟨_,by assumption⟩
 .cases h2
theorem auN(h:eL P el aO t=ae)(a:aO t = .map):∃k e i,P.underlying t=J (.map k e)/\P.underlying k=J (.int .i64)/\P.info? e=J i/\i.zero=J (aw.S []):=by
 unfold eL at h;rw[a]at h;simp only[bx]at h
 have h2:=h.2;split at h2
 .rename_i k e b;simp only[bx]at h2;obtain⟨h3,h4⟩:=h2;split at h3
  .rename_i c;split at h4
   .rename_i i hi;split at h4
    .rename_i s d;refine⟨k,e,i,b,c,hi,?_⟩;simp only[beq_iff_eq]at h4;obtain⟨⟨l⟩⟩:=s;simp only at h4;subst h4;exact d
    .cases h4
   .cases h4
  .cases h3
 .cases h2
theorem Me{P:cx}{t:bD}:∀{fds:U Field}{l:U (Nat×Nat)}{i f o u:Nat},pw P t i fds l=ae->l[f]? = J (o,u)->∃fd,fds[f]? = J fd/\fd.type=u/\fd.offset=o/\aw.u7 P t (i+f)=J o
 |[],[],i,f,o,u,_,bB=>by simp at bB
 |fd::fds,(azp,agd)::l,i,f,o,u,h,bB=>by simp[pw]at h;cases f with|zero=>grind|succ f=>obtain⟨a,h1,h2,h3,h4⟩:=Me h.2 qh;exact⟨a,by simpa using h1,h2,h3,by rw[<-h4];congr 1;omega⟩
 |[],_::_,_,_,_,_,h,_=>by simp[pw]at h
 |_::_,[],_,_,_,_,h,_=>by simp[pw]at h
theorem Kh(h:eL P el aO t=ae){c:af b1}{l:U (Nat×Nat)}{z:U D}(d:aO t = .st c l z):∃fds,P.underlying t=J (.struct fds)/\pw P t 0 fds.toList l=ae/\∀a b,c=J a->FB a = J b->aw.qZ P t=ae/\u6 P 0 fds.toList b=true:=by
 unfold eL at h;rw[d]at h;simp at h
 have h2:=h.2;split at h2
 .grind
 .cases h2
end
section
variable {x:cM}
variable{k:b'}
theorem aB.int{n:Int}{v:aA}(h:aB x (.int k n) v):v = .int k n:=by simp[aB]at h;exact h.1
theorem aB.str{l:ar}{v:aA}(h:aB x (.str l) v):v=aw.S l:=by simp[aB]at h;exact h.1
theorem aB.CG{l:ar}{v:aA}(h:aB x (.str l) v):I l<=maxLen:=by simp[aB]at h;exact h.2
theorem aB.bool{b:Bool}{v:aA}(h:aB x (.bool b) v):v = .bool b:=by simp[aB]at h;exact h
theorem ji(b:Bool):aB x (.bool b) (.bool b):=by simp[aB]
theorem r6{l:ar}(h:I l<=c5):aB x (.str l) (aw.S l):=aeE
theorem jV{n:Int}(h:gv k n=ae):aB x (.int k n) (.int k n):=aeE
theorem zP(k:b')(n:Int):gv k (k.wrap n)=true:=by cases k<;>simp[gv,b'.wrap,b'.min,b'.max,b'.signed,b'.bits]<;>(try split)<;>omega
theorem at5{n:Int}(h:gv .u8 n=ae) : 0<=n/\n<256:=by simp[gv,b'.min,b'.max,b'.signed,b'.bits]at h;omega
theorem _c{n:Int}(h : 0<=n/\n<256):gv .u8 n=true:=ad5
theorem sb{n:Nat}(h:n<=c5):gv .i64 (n:Int)=true:=by simp[c5]at h;simp[gv,b'.min,b'.signed,b'.bits];omega
theorem rS{n:Int}(h:gv k n=ae):k.min<=n/\n<=k.max:=by simpa[gv]using h
theorem zF{n:Int}(h:k.min<=n/\n<=k.max):gv k n=true:=by simpa[gv]using h
theorem alR{p:Int}{m:Nat}(h:gv k p=ae):gv k (p.fdiv (2 ^ m))=true:=by
 obtain⟨h1,h2⟩:=rS h;refine zF ?_;have a:(0:Int)<2 ^ m:=Int.pow_pos ag;rw[Int.fdiv_eq_ediv_of_nonneg _ ag];have h0:k.min<=0/\0<=k.max:=by cases k<;>simp[b'.min,b'.max,b'.signed,b'.bits]
 rcases Int.le_total 0 p with h|h
 .have:=Int.ediv_nonneg h (show(0:Int)<=2 ^ m by omega);have:=Int.ediv_le_self (2 ^ m) h;omega
 .have b:p / 2 ^ m<=0:=by have:=Int.ediv_le_ediv a h;simpa using this
  have c:p<=p / 2 ^ m:=by rw[Int.le_ediv_iff_mul_le a];have:p*2 ^ m<=p*1:=Int.mul_le_mul_of_nonpos_left h ag;omega
  omega
theorem akK{a b:Int}(c:gv k a=ae)(aj:gv k b=ae):gv k (a.tmod b)=true:=by
 obtain⟨h1,h2⟩:=rS c;obtain⟨h3,h4⟩:=rS aj;refine zF ?_;have h5:(a.tmod b).natAbs<=a.natAbs:=by rw[Int.natAbs_tmod];exact Nat.mod_le _ _
 rcases Int.le_total 0 a with h|h
 .have h6:=Int.tmod_nonneg b h;have:k.min<=0:=by cases k<;>simp[b'.min,b'.signed,b'.bits]
  omega
 .have h6:a.tmod b<=0:=by have:=Int.tmod_nonneg b (show 0 <= -a by omega);rw[Int.neg_tmod]at this;omega
  have : 0<=k.max:=by cases k<;>simp[b'.max,b'.signed,b'.bits]
  omega
theorem aB.u8{n:Int}{v:aA}(h:aB x (.int k n) v):gv k n=true:=by simp[aB]at h;exact h.2
end
section
variable {P:cx}{e:aw.Env}{t t':bD}{x y:ct}{k:b'}{a b:Int}{l m:ar}
theorem al9(c:aw.Env.aF e x=J (.int k a))(d:aw.Env.aF e y=J (.int k b)):aw.Pure P e (.binOp .andNot t x y t') (.int k (O' k a b)):=aw.gR c d (aw.ld _ _ _ _ _ _ _ _) λw=>by simp[binOp,Op.intBits,O',s_]
theorem avD(a:aw.Env.aF e x=J (aw.S l))(b:aw.Env.aF e y=J (aw.S m)):aw.Pure P e (.binOp .leq t x y t') (.bool (Op.bytesLess l m||decide (l=m))):=aw.gR a b (aw.u5 _ _ _ _ _ _) λw=>by simp[binOp,Op.stringOp];rw[aw.IE]
theorem alU(a:aw.Env.aF e x=J (aw.S l))(b:aw.Env.aF e y=J (aw.S m)):aw.Pure P e (.binOp .geq t x y t') (.bool (!Op.bytesLess l m)):=aw.gR a b (aw.u5 _ _ _ _ _ _) λw=>by simp[binOp,Op.stringOp]
theorem au3(a:aw.Env.aF e x=J (aw.S l))(b:aw.Env.aF e y=J (aw.S m)):aw.Pure P e (.binOp .gtr t x y t') (.bool (!(Op.bytesLess l m||decide (l=m)))):=aw.gR a b (aw.u5 _ _ _ _ _ _) λw=>by simp[binOp,Op.stringOp];rw[aw.IE]
theorem al3{n:Int}(a:aw.Env.aF e x=J (.int k n)):aw.Pure P e (.unOp .xor t x) (.int k (gx k (match k.signed with|true=> -1|false=>k.max) n)):=λd bC w o b c=>by simp[cl,c,b.aF a,Op.unary,gx,s_];cases k<;>rfl
variable{op:BinOp}
theorem atC{c:Bool}{d:D}{vx:cM}(h:Pv op k a b=J (c,d))(an:c=ae)(f:aw.Env.aF e x=J (.int k a))(g:aw.Env.aF e y=J (.int k b))(l:gv k a=ae)(aj:gv k b=ae):∃v,aw.Pure P e (.binOp op t x y t') v/\aB vx d v:=by
 subst an;have i:∀n,aB vx (.int k (k.wrap n)) (.int k (k.wrap n)):=λn=>jV (zP k n);unfold Pv at h;split at h<;>simp at h
 .subst h;exact⟨_,aw.afH f g,i _⟩
 .subst h;exact⟨_,aw.afW f g,i _⟩
 .subst h;exact⟨_,aw.ayl f g,i _⟩
 .obtain⟨j,rfl⟩:=h;exact⟨_,aw.ayq f g j,i _⟩
 .obtain⟨j,rfl⟩:=h;exact⟨_,aw.ayr f g j,jV (akK l aj)⟩
 .subst h;exact⟨_,aw.ayg f g,i _⟩
 .subst h;exact⟨_,aw.ayp f g,i _⟩
 .subst h;exact⟨_,aw.ayv f g,i _⟩
 .subst h;exact⟨_,al9 f g,i _⟩
 .subst h;exact⟨_,aw.IZ f g,by rw[show(a == b)=aa (a=b) by rw[Bool.eq_iff_iff];simp];exact ji _⟩
 .subst h;exact⟨_,aw.afS f g,by rw[show(a != b) = !decide (a=b) by rw[Bool.eq_iff_iff];simp];exact ji _⟩
 .subst h;exact⟨_,aw.sw f g,ji _⟩
 .subst h;exact⟨_,aw.afR f g,ji _⟩
 .subst h;exact⟨_,aw.qY f g,ji _⟩
 .subst h;exact⟨_,aw.afN f g,ji _⟩
theorem aiw{c:Bool}{d:D}{vx:cM}(h:NY op l m=J (c,d))(an:c=ae)(a:aw.Env.aF e x=J (aw.S l))(b:aw.Env.aF e y=J (aw.S m)):∃v,aw.Pure P e (.binOp op t x y t') v/\aB vx d v:=by
 subst an;unfold NY at h;split at h<;>simp only[c4,iH,reduceCtorEq,dM,true_and]at h
 .obtain⟨f,rfl⟩:=h;exact⟨_,aw.ayf a b (by unfold OD at f;omega),r6 (by simp[OD]at f;simp[c5];omega)⟩
 .subst h;exact⟨_,aw.afL a b,ji _⟩
 .subst h;exact⟨_,aw.afT a b,ji _⟩
 .subst h;exact⟨_,aw.ayk a b,ji _⟩
 .subst h;exact⟨_,avD a b,ji _⟩
 .subst h;exact⟨_,au3 a b,ji _⟩
 .subst h;exact⟨_,alU a b,ji _⟩
end
def yu(d e:D):Prop:=d=e\/(∃c xs t,d = .sl c xs t/\e = .sl c xs .no)\/∃n,d = .int .u8 n/\e = .int .u8 ((bj n.toNat).toNat:Int)
def lB:U D->U D->Prop|[],[]=>True|d::av,e::es=>yu d e/\lB av es|_,_=>False
theorem alm(d:D):yu d d:=.inl rfl
theorem avK(c:b1)(xs:U (cL c))(t:hY):yu (.sl c xs t) (.sl c xs .no):=.inr (.inl ⟨c,xs,t,rfl,rfl⟩)
theorem avG(n:Int):yu (.int .u8 n) (.int .u8 ((bj n.toNat).toNat:Int)):=.inr (.inr ⟨n,rfl,rfl⟩)
variable{c:b1}{av:U D}{y:cL c}
theorem OQ(h:dec c av=J y):lB av (enc c y):=by
 unfold dec at h;split at h<;>simp only[c4,reduceCtorEq]at h<;>subst h<;>simp only[enc,lB,bh.kind,bh.v,bh.name,bh.l]<;>(repeat' apply And.intro)<;>first
  |exact alm _
  |exact avK _ _ _
  |exact avG _
  |trivial
theorem lB.get:∀{av es:U D},lB av es->∀{j:Nat}{e:D},es[j]? = J e->∃d,av[j]? = J d/\yu d e
 |[],[],h,j,e,he=>by simp at he
 |d::av,la::es,h,j,e,he=>by simp only[lB]at h;cases j with|zero=>simp at he;subst he;exact⟨d,by simp,h.1⟩|succ j=>obtain⟨a,h3,h4⟩:=lB.get h.2 (by simpa using he);exact⟨a,by simpa using h3,h4⟩
 |[],_::_,h,_,_,_=>by simp[lB]at h
 |_::_,[],h,_,_,_=>by simp[lB]at h
theorem lB.len:∀{av es:U D},lB av es->I av=I es
 |[],[],_=>rfl
 |d::av,la::es,h=>by simp only[lB]at h;simp[lB.len h.2]
 |[],_::_,h=>by simp[lB]at h
 |_::_,[],h=>by simp[lB]at h
theorem Oy{d e:D}{v:aA}(h:aB x d v)(p:yu d e)(q:∃(c:b1) (y:cL c) (j:Nat),(enc c y)[j]? = J e):eI x.S x.w e v:=by
 have g:∀f,(∃k n,f = .int k n)\/(∃b,f = .bool b)\/(∃l,f = .str l)\/(∃c xs,f = .sl c xs .no)->aB x f v->eI x.S x.w f v:=by
  rintro f (⟨k,n,rfl⟩|⟨b,rfl⟩|⟨l,rfl⟩|⟨c,xs,rfl⟩) a w' i
  .simp only[aB]at a;rw[a.1];exact .int k n a.2
  .simp only[aB]at a;rw[a];exact .bool b
  .simp only[aB]at a;rw[a.1];exact .str l a.2
  .simp only[aB]at a;exact a.1 w' i
 rcases p with rfl|⟨c,xs,t,rfl,rfl⟩|⟨n,rfl,rfl⟩
 .refine g d ?_ h;obtain⟨c,y,j,m⟩:=q;cases c<;>simp only[enc]at m<;>(rcases j with _|_|_|_|_|_|_|_|_|_|_|_|_|_|_|_|_|_|j<;>simp at m<;>subst m<;>simp)
 .simp only[aB]at h;exact h.1
 .simp only[aB]at h;obtain⟨rfl,o⟩:=h;have:=at5 o;have r:((bj n.toNat).toNat:Int)=n:=by have:(bj n.toNat).toNat=n.toNat % 256:=UInt8.toNat_ofNat';rw[this];omega
  intro w' _;rw[r];exact .int _ _ o
def mf(x:cM)(c:b1)(y:cL c)(vs:U aA):Prop:=I vs=aL c/\∀(j:Nat) d,(enc c y)[j]? = J d->∃u,vs[j]? = J u/\eI x.S x.w d u
variable{vs:U aA}
theorem xU(h:dec c av=J y)(a:aX x av vs):mf x c y vs:=by have b:=OQ h;refine⟨by rw[a.len,b.len,ij],λj d ao=>?_⟩;obtain⟨e,h1,h2⟩:=b.get ao;obtain⟨u,h3,h4⟩:=a.get h1;exact⟨u,h3,Oy h4 h2 ⟨c,y,j,ao⟩⟩
theorem N_{d:D}{v:aA}(h:i' w d v):aw.one v=true:=by cases h<;>rfl
theorem mf.one(h:mf x c y vs):∀v,v∈vs->aw.one v=true:=by
 intro v aE;obtain⟨j,d,rfl⟩:=List.mem_iff_getElem.1 aE;have a:j<I (enc c y):=by rw[ij,<-h.1];exact d
 obtain⟨u,b,e⟩:=h.2 j _ (ho a);rw[ho d]at b;simp only[c4]at b;rw[b];exact N_ e.here
theorem E6{d:D}{v:aA}(h:aB x d v)(a:cv d=ae):aw.one v=true:=by
 cases d<;>simp only[aB]at h<;>simp only[cv,mW]at a<;>first
  |(subst h;rfl)
  |(obtain⟨rfl,_⟩:=h;rfl)
  |(obtain⟨_,rfl⟩:=h;rfl)
  |(obtain⟨_,_,rfl,_⟩:=h;rfl)
  |(obtain⟨_,rfl,_⟩:=h;rfl)
  |(obtain⟨_,_,_,rfl,_⟩:=h;rfl)
  |(obtain⟨_,_,_,_,_,_,rfl,_⟩:=h;rfl)
  |exact N_ h.1.here
  |exact h.elim
theorem Ey{d:D}(h:(enc c y)[j]? = J d):cv d=ae/\∀a xs t,d = .sl a xs t->t = .no:=by
 cases c<;>simp only[enc]at h<;>(rcases j with _|_|_|_|_|_|_|_|_|_|_|_|_|_|_|_|_|_|j<;>simp at h<;>subst h<;>simp[cv])
 all_goals (intros;subst_vars;simp_all)
theorem adC{d:D}{v:aA}(h:eI x.S x.w d v)(e:∀c xs t,d = .sl c xs t->t = .no):aB x d v:=by have f:=h.here;cases f with|int k n g=>exact jV g|bool b=>exact ji b|str l i=>exact r6 i|nil c t a cap=>obtain rfl:=e _ _ _ rfl;simp only[aB];exact⟨h,trivial⟩|sl c xs t b o cap u hle hm an j=>obtain rfl:=e _ _ _ rfl;simp only[aB];exact⟨h,trivial⟩
theorem Jg(h:mf x c y vs):(eV c=ae->aB x (l6 c y) (.agg vs.toArray))/\(eV c=ai->∃v,vs=[v]/\aB x (l6 c y) v):=by
 constructor
 .intro a;simp only[l6,a,aB];exact⟨trivial,vs,rfl,h.1,h.2⟩
 .intro a;have h1:aL c=1:=by cases c<;>simp[eV]at a<;>rfl
  obtain⟨b,h2⟩:=h;rw[h1]at b;obtain⟨v,rfl⟩:=List.length_eq_one_iff.1 b;refine⟨v,rfl,?_⟩;have f:∃d,enc c y=[d]:=List.length_eq_one_iff.1 (by rw[ij,h1]);obtain⟨d,ao⟩:=f;simp only[l6,a,ao];obtain⟨u,e,g⟩:=h2 0 d (by simp[ao]);simp at e;subst e;exact adC g (Ey (c:=c) (y:=y) (j:=0) (by simp[ao])).2
theorem uz{d:D}{v:aA}(h:pM c d=J y)(a:aB x d v):mf x c y v.cells.toList/\(eV c=ae->∃vs,v = .agg vs)/\(eV c=ai->aw.one v=ae):=by
 unfold pM at h;split at h
 .split at h
  .rename_i p q an;subst an;simp only[c4]at h;subst h;simp only[aB]at a;obtain⟨f,vs,rfl,m,a⟩:=a;exact⟨⟨by simpa[aA.cells]using m,by simpa[aA.cells]using a⟩,λ_=>⟨_,rfl⟩,λh0=>by rw[f]at h0;cases h0⟩
  .cases h
 .split at h
  .rename_i av f;simp only[aB]at a;obtain⟨_,vs,rfl,a⟩:=a;exact⟨by simpa[aA.cells]using xU h a,λ_=>⟨_,rfl⟩,λh0=>by rw[f]at h0;cases h0⟩
  .cases h
 .rename_i n o;split at h
  .cases h
  .rename_i f;have i:cv d=true:=by
    have g:=OQ h;have h1:aL c=1:=by cases c<;>simp[eV]at f<;>rfl
    obtain⟨e,l⟩:=List.length_eq_one_iff.1 ((ij c y).trans h1);rw[l]at g;simp only[lB]at g;replace g:=g.1;have k:=(Ey (c:=c) (y:=y) (j:=0) (d:=e) (by simp[l])).1;rcases g with rfl|⟨_,_,_,rfl,_⟩|⟨_,rfl,_⟩
    .exact k
    .rfl
    .rfl
   have b:=E6 a i;have an:v.cells.toList=[v]:=by rw[aw.IY b]
   rw[an];refine⟨xU h (by simp only[aX];exact⟨v,[],rfl,a,rfl⟩),λh0=>?_,λ_=>b⟩;rw[f]at h0;cases h0
variable{o:Nat}
theorem lq.QI{S:g7}{b:Nat}(q:x.S=S)(h:∀w',bF S x.w w'->lq w' c y b o):∃vs,mf x c y vs/\∀(j:Nat) u,vs[j]? = J u->x.w.cell? ⟨b,o+j,ah⟩=J u:=by
 subst q;have h0:=h x.w (bF.refl _ _);have key:∀(n:Nat),n<=aL c->∃vs:U aA,I vs=n/\∀(j:Nat) u,vs[j]? = J u->x.w.cell? ⟨b,o+j,ah⟩=J u:=by
  intro n;induction n with
  |zero=>intro _;exact⟨[],rfl,by simp⟩
  |succ n iw=>
   intro cJ;obtain⟨vs,r,aE⟩:=iw ag;obtain⟨u,s,_⟩:=h0 n _ (ho (by rw[ij];omega));refine⟨vs++[u],by simp[r],λj iK g=>?_⟩;rw[List.getElem?_append]at g;split at g
   .exact aE j iK g
   .rename_i m;have:j=n:=by
     rcases Nat.lt_or_ge (j-I vs) 1 with h|h
     .omega
     .simp[List.getElem?_eq_none (l:=[u]) n1]at g
    subst this;rw[r]at g;simp at g;subst g;exact s
 obtain⟨vs,r,aE⟩:=key (aL c) (b2 _);refine⟨vs,⟨r,λj d ao=>?_⟩,aE⟩;have m:j<I vs:=by rw[r,<-ij c y];exact(hG.1 ao).1
 refine⟨vs[j],ho m,λw' t=>?_⟩;obtain⟨u,s,bO⟩:=h w' t j d ao;obtain⟨agd,bk,_⟩:=h0 j d ao;have h1:=aE j _ (ho m);by_cases q:x.S b (o+j)
 .exfalso;have an:bF x.S x.w (x.w.setCell ⟨b,o+j,ah⟩ .nilFunc):=by
   refine⟨rfl,rfl,rfl,by simp[aK.setCell],λk _ cJ=>Below.heap_setCell _ _ _ _ (λe=>cJ (o+j) (by rw[e];exact q)),λbQ i v f cJ=>?_,ahT _ _ _⟩;by_cases aj:bQ = b
   .subst aj;have hi:i≠o+j:=λe=>cJ (e▸q);simp only[aK.cell?,aK.setCell,Array.getElem?_modify,if_true]at f ⊢;cases z:x.w.heap[bQ]? with
    |none=>simp[z]at f
    |some e'=>
     cases e'<;>simp[z]at f ⊢
     rw[Array.getElem?_setIfInBounds_ne (Ne.symm hi)];exact f
   .rw[aK.cell?_of_block (a:=⟨bQ,i,ah⟩) (Below.heap_setCell _ _ _ _ aj)];exact f
  obtain⟨oI,p,aZ⟩:=h _ an j d ao;have aJ:(x.w.setCell ⟨b,o+j,ah⟩ .nilFunc).cell? ⟨b,o+j,ah⟩=J .nilFunc:=by
   simp only[aK.cell?,aK.setCell,Array.getElem?_modify,if_true]at h1 ⊢;cases z:x.w.heap[b]? with
   |none=>simp[z]at h1
   |some e'=>
    cases e'<;>simp[z]at h1 ⊢
    have:=(gG.1 h1).1;simp[this]
  rw[aJ]at p;simp only[c4]at p;subst p;cases aZ
 .have:=t.cell b (o+j) _ h1 q;rw[this]at s;simp only[c4]at s;rw[s];exact bO
def jF(x:cM)(av:U D)(vs:U aA):Prop:=I vs=I av/\∀(j:Nat) d,av[j]? = J d->∃u,vs[j]? = J u/\aB x d u
theorem tK(h:aX x av vs):jF x av vs:=⟨h.len,λ_ _ ao=>h.get ao⟩
theorem jF.oE(h:jF x av vs):aX x av vs:=aX.mk h.1 λi d v ao aE=>by obtain⟨u,a,b⟩:=h.2 i d ao;rw[aE]at a;simp at a;rw[a];exact b
theorem tG(h:mf x c y vs):jF x (enc c y) vs:=⟨by rw[h.1,ij],λj d ao=>by obtain⟨u,a,b⟩:=h.2 j d ao;exact⟨u,a,adC b (Ey ao).2⟩⟩
theorem Df(c:b1)(y:cL c):(enc c y).all cv=true:=by rw[cX];intro d ao;obtain⟨j,a,rfl⟩:=List.mem_iff_getElem.1 ao;exact(Ey (ho a)).1
theorem BB{d:D}{v:aA}(h:aB x d v)(a:my d=ae):jF x (cells d) v.cells.toList:=by
 have leaf:cv d=ae->cells d=[d]->jF x (cells d) v.cells.toList:=λh1 h2=>by
  rw[h2,aw.IY (E6 h h1)];exact⟨rfl,λj e f=>by
   cases j with
   |zero=>grind
   |succ j=>simp at f⟩
 cases d with|aI c y=>simp[aB]at h;obtain⟨_,vs,rfl,a,b⟩:=h;simpa[aA.cells,cells]using tG (x:=x) (c:=c) (y:=y) (vs:=vs) ⟨a,b⟩|agg av=>simp[aB]at h;obtain⟨_,vs,rfl,b⟩:=h;simpa[aA.cells,cells]using tK b|rw c n xs=>simp[my,cells,cv]at a|e3 c xs=>simp[my,cells,cv]at a|pN av=>simp[my,cells,cv]at a|undef=>simp[my,cells,cv]at a|l4=>simp[my,cells,cv]at a|_=>exact leaf rfl rfl
theorem aqw(h:jF x av vs)(d:av.all cv=ae):∀v,v∈vs->aw.one v=true:=by
 intro v aE;obtain⟨j,c,rfl⟩:=List.mem_iff_getElem.1 aE;have a:j<I av:=by rw[<-h.1];exact c
 obtain⟨u,b,e⟩:=h.2 j _ (ho a);rw[ho c]at b;simp at b;rw[b];exact E6 e (cX.1 d _ (fo a))
theorem jF.sub(h:jF x av vs)(o n:Nat):jF x ((av.drop o).take n) ((vs.drop o).take n):=by
 refine⟨by simp[h.1],λj d ao=>?_⟩;rw[fQ]at ao;split at ao
 .rename_i a;rw[List.getElem?_drop]at ao;obtain⟨u,b,c⟩:=h.2 _ d ao;exact⟨u,by rw[fQ,if_pos a,List.getElem?_drop];exact b,c⟩
 .cases ao
theorem ajG(h:av.all cv=ae)(o n:Nat):((av.drop o).take n).all cv=true:=jk
theorem R0{t:ds}{off:Nat}{d:D}(h:part t av off=J d)(an:jF x av vs)(b:av.all cv=ae) :
  (t.eV = ae->off+t.n<=I vs/\aB x d (.agg ((vs.drop off).take t.n).toArray))/\(t.eV = ai->∃u,vs[off]? = J u/\aB x d u):=by
 unfold part at h;constructor
 .intro a;rw[a]at h;simp only at h;split at h
  .rename_i hle;simp at h;subst h;refine⟨by rw[an.1];simpa using hle,?_⟩;simp only[aB];exact⟨ajG b _ _,_,rfl,(an.sub off t.n).oE⟩
  .cases h
 .intro a;rw[a]at h;exact an.2 off d h
section
variable {P:cx}{el:b1->bD}{aO:Nat->ds}{t:Nat}{w:aK}
theorem Di(h:eL P el aO t=ae)(a:aO t ≠ .no)(c:(aO t).eV = ae){b:Nat}(d:I vs=(aO t).n)(an:∀(j:Nat) v,vs[j]? = J v->w.cell? ⟨b,o+j,ah⟩=J v):(loadVar t ⟨b,o,ah⟩).run P w = .ok (.agg vs.toArray) w:=by obtain⟨h1,h2,h3⟩:=nr h a;exact aw.ayJ (by simp[h1,h2,c]) (by rw[h3,d]) an
theorem E9(h:eL P el aO t=ae)(a:aO t ≠ .no)(c:(aO t).eV = ai){b:Nat}{v:aA}(an:w.cell? ⟨b,o,ah⟩=J v):(loadVar t ⟨b,o,ah⟩).run P w = .ok v w:=by obtain⟨h1,h2,_⟩:=nr h a;exact aw.ayI (by simp[h1,h2,c]) an
theorem JS(h:eL P el aO t=ae)(e:aO t ≠ .no){off:Nat}{d:D}{b:Nat}(f:part (aO t) av off=J d)(an:jF x av vs)(g:av.all cv=ae)(hm:∀(j:Nat) v,vs[j]? = J v->w.cell? ⟨b,o+j,ah⟩=J v):∃v,(loadVar t ⟨b,o+off,ah⟩).run P w = .ok v w/\aB x d v:=by
 obtain⟨h1,h2⟩:=R0 f an g;cases a:(aO t).eV with
 |true=>
  obtain⟨h3,h4⟩:=h1 a;refine⟨_,Di h e a (vs:=(vs.drop off).take (aO t).n) dh λj v c=>?_,h4⟩;rw[fQ]at c;split at c
  .grind
  .cases c
 |false=>obtain⟨u,i,k⟩:=h2 a;exact⟨u,E9 h e a (hm off u i),k⟩
theorem FK(h:eL P el aO t=ae)(f:aO t ≠ .no){b:Nat}(e:(aO t).n=aL c)(a:(aO t).eV = eV c)(g:mf x c y vs)(hm:∀(j:Nat) v,vs[j]? = J v->w.cell? ⟨b,o+j,ah⟩=J v):∃v,(loadVar t ⟨b,o,ah⟩).run P w = .ok v w/\aB x (l6 c y) v:=by obtain⟨h1,h2⟩:=Jg g;cases d:eV c with|true=>exact⟨_,Di h f (by rw[a,d]) (by rw[g.1,e]) hm,h1 d⟩|false=>obtain⟨v,rfl,i⟩:=h2 d;exact⟨v,E9 h f (by rw[a,d]) (by simpa using hm 0 v (by simp)),i⟩
end
section
variable {R:Type}{px:aM R}{ab:cB}{m:dg}{a:Act}{as_:U Act}{s:FS}{w:aK}
theorem nt{t:ds}(h:t.known=ae):t ≠ .no/\t ≠ .map:=by cases t<;>simp[ds.known]at h<;>simp
def rn(aw4:aM R)(ak:Nat->af c_)(t:ds):D->af D
 |.lb c x off=>match bV off 0&&bV t.n (aL c)&&(t.eV == eV c)with|true=>J (l6 c x)|false=>part t (enc c x) off
 |.ptr b off=>match ak b with
  |some (.cells av)=>part t av off
  |some (.box c x)=>match bV off 0&&bV t.n (aL c)&&(t.eV == eV c)with|true=>J (l6 c x)|false=>part t (enc c x) off
  |some (.gO _ d)=>match bV off 1 && !t.eV with|true=>J d|false=>ah
  |some (.row c n xs)=>match bV off 0&&zC t n c with|true=>J (.rw c n xs)|false=>ah
  |_=>ah
 |.lP b dd jN i=>match ak b with
  |some (.row c n xs)=>match bV t.n (aL c)&&(t.eV == eV c)&&aa (dd=c)&&bV jN n with|true=>J (l6 c (at' c xs i))|false=>ah
  |_=>ah
 |_=>ah
theorem abg(st:bc)(t:ds)(d:D):load px st t d=rn px (bu st.ak) t d:=by cases d<;>rfl
variable{i:Int}
theorem yf{xs:U (cL c)}(h : 0<=i/\i<(I xs:Int)):xs[i.toNat]? = J (at' c xs i):=by
 have:i.toNat<I xs:=ag
 simp[at',this]
theorem xF{t:bD}{b:Nat}(h:w.heap[b]? = J (.cells vs.toArray t (0,0))):∀(j:Nat) v,vs[j]? = J v->w.cell? ⟨b,0+j,ah⟩=J v:=λj v aE=>by simp[aK.cell?,h];simpa using aE
variable{P:cx}{el:b1->bD}{aO:Nat->ds}
theorem al1(h:eL P el aO t=ae)(k:aO t ≠ .no){xs:U (cL c)}{ty:bD}(e:(aO t).n=aL c)(f:(aO t).eV = eV c)(l:w.heap[β]? = J (.cells vs.toArray ty (0,0)))(g:I xs*aL c<=I vs)(a:∀i y j d,xs[i]? = J y->(enc c y)[j]? = J d->∃u,vs[i*aL c+j]? = J u/\eI x.S x.w d u)(hi : 0<=i/\i<(I xs:Int)):∃u,(loadVar t ⟨β,i.toNat*aL c,ah⟩).run P w = .ok u w/\aB x (l6 c (at' c xs i)) u:=by
 refine FK h k (vs:=(vs.drop (i.toNat*aL c)).take (aL c)) e f ⟨?_,λj d ao=>?_⟩ λj v b=>?_
 .have:i.toNat*aL c+aL c<=I xs*aL c:=Gb
  simp;omega
 .obtain⟨u,m,o⟩:=a _ _ j d (yf hi) ao;have b:j<aL c:=by rw[<-ij c (at' c xs i)];exact(hG.1 ao).1
  exact⟨u,by rw[fQ,if_pos b,List.getElem?_drop];exact m,o⟩
 .rw[fQ]at b;split at b
  .rw[List.getElem?_drop]at b;have:=xF l _ v b;rwa[Nat.zero_add]at this
  .cases b
theorem U0{t:ds}{n:Nat}(h:zC t n c=ae):t = .arr n c:=by
 cases t<;>simp[zC]at h
 obtain⟨h1,rfl⟩:=h;obtain rfl:=h1;rfl
theorem Y4(bn:eR ab px)(ay:Rel ab m a as_ s w)(aV:(px.aO t).known=ae){p d:D}{v:aA}(h:rn px s.ak (px.aO t) p=J d)(aE:aB (vx ab m s w) p v):∃u,(Instr.loadAt t v).run ab.P w = .ok u w/\aB (vx ab m s w) d u:=by
 have r:=bn.aO t;obtain⟨z,cP⟩:=nt aV;have done:∀b o,v = .pointer (J ⟨b,o,ah⟩)->(∃u,(loadVar t ⟨b,o,ah⟩).run ab.P w = .ok u w/\aB (vx ab m s w) d u)->∃u,(Instr.loadAt t v).run ab.P w = .ok u w/\aB (vx ab m s w) d u:=by rintro b o rfl ⟨u,h1,h2⟩;exact⟨u,by simp[Instr.loadAt,Instr.sureAddr,h1],h2⟩
 unfold rn at h;split at h
 .rename_i c y off;simp[aB]at aE;obtain⟨b,o,aE,bk⟩:=aE;obtain⟨vs,g,hm⟩:=lq.QI rfl bk;refine done b (o+off) aE ?_;split at h
  .rename_i aj;simp only[bx,beq_iff_eq]at aj;simp at h;subst h;have h0:off=0:=cU aj.1.1;subst h0;exact FK r z (cU aj.1.2) aj.2 g hm
  .exact JS r z h (tG g) (Df c y) hm
 .rename_i b off;simp[aB]at aE;split at h
  .rename_i av aj;obtain⟨_,bB,vs,ty,k,e⟩:=ay.eb b _ aj;have:=JS (x:=vx ab m s w) (w:=w) (b:=m.ak b) (o:=0) r z h (tK e) bB (xF k);rw[Nat.zero_add]at this;exact done _ _ aE.2 this
  .rename_i c y aj;obtain⟨_,_,vs,ty,k,f,g⟩:=ay.eb b _ aj;have g:mf (vx ab m s w) c y vs:=⟨f,g⟩;refine done _ _ aE.2 ?_;split at h
   .rename_i l;simp only[bx,beq_iff_eq]at l;simp at h;subst h;have h0:off=0:=cU l.1.1;subst h0;exact FK r z (cU l.1.2) l.2 g (xF k)
   .have:=JS (x:=vx ab m s w) (w:=w) (b:=m.ak b) (o:=0) r z h (tG g) (Df c y) (xF k);rw[Nat.zero_add]at this;exact this
  .rename_i T d0 aj;obtain⟨_,a0,v0,k,_,aJ⟩:=(ay.eb b _ aj).2;have k:w.heap[m.ak b]? = J (.cells #[a0,v0] T (0,0)):=k;split at h
   .rename_i an;simp only[bx,Bool.not_eq_true']at an;obtain rfl:=cU an.1;simp at h;subst h;have bz:w.heap[(vx ab m s w).m.ak b]? = J (.cells #[a0,v0] T (0,0)):=k;exact done _ _ aE.2 ⟨v0,E9 r z an.2 (by simp[aK.cell?,bz]),aJ⟩
   .cases h
  .rename_i c n xs aj;split at h
   .rename_i an;simp only[bx]at an;obtain rfl:=cU an.1;have aZ:=U0 an.2;simp at h;subst h;obtain⟨_,q,vs,ty,k,f,e⟩:=ay.eb b _ aj;refine done _ _ aE.2 ⟨_,Di r z (by rw[aZ];rfl) (vs:=vs) (by rw[f,q,aZ];rfl) (xF k),?_⟩;simp only[aB];exact⟨q,vs,rfl,f,e⟩
   .cases h
  .cases h
 .rename_i b dd jN i;simp[aB]at aE;split at h
  .rename_i c n xs aj;split at h
   .rename_i aV;simp only[bx,beq_iff_eq,dM]at aV;obtain⟨⟨⟨h1,h2⟩,rfl⟩,h4⟩:=aV;have h4:=cU h4;subst h4;simp at h;subst h;obtain⟨_,q,vs,ty,k,f,e⟩:=ay.eb b _ aj;have hi : 0<=i/\i<(I xs:Int):=by rw[q];exact aE.2.2
    refine done _ _ aE.2.1 (FK r z (vs:=(vs.drop (i.toNat*aL dd)).take (aL dd)) (cU h1) h2 ⟨?_,λj d ao=>?_⟩ λj v cN=>?_)
    .have:i.toNat*aL dd+aL dd<=I xs*aL dd:=Gb
     simp;omega
    .obtain⟨u,hu,bO⟩:=e _ _ j d (yf hi) ao;have cN:j<aL dd:=by rw[<-ij dd (at' dd xs i)];exact(hG.1 ao).1
     exact⟨u,by rw[fQ,if_pos cN,List.getElem?_drop];exact hu,bO⟩
    .rw[fQ]at cN;split at cN
     .rw[List.getElem?_drop]at cN;have:=xF k _ v cN;rwa[Nat.zero_add]at this
     .cases cN
   .cases h
  .cases h
 .cases h
end
variable{P:cx}
theorem amz{t:bD}(h:FF P t=ae):∃k,P.underlying t=J (.int k):=by
 unfold FF at h;split at h
 .grind
 .cases h
variable{f:Field}{k:b'}{r:Bool}{xs:Array aA}{ys:Array aA}
theorem aqV{l:U Field}{a b:Int}(c:(f.name == "_")=ai)(d:FF P f.type=ae)(e:xs[f.offset]? = J (.int k a))(g:ys[f.offset]? = J (.int k b))(h:aw.iS P xs ys l=J r):aw.iS P xs ys (f::l)=J (aa (a=b)&&r):=by
 obtain⟨j,i⟩:=amz d;simp only[aw.iS,c,i,e,g,h,aw.pL]
 grind
theorem aqK{l:U Field}{a b:ar}(c:(f.name == "_")=ai)(d:aw.mC P f.type=ae)(e:xs[f.offset]? = J (.string ⟨a.toArray⟩))(g:ys[f.offset]? = J (.string ⟨b.toArray⟩))(h:aw.iS P xs ys l=J r):aw.iS P xs ys (f::l)=J (aa (a=b)&&r):=by simp[aw.iS,c,aw.pO d,e,g,h]
theorem anC{l:U Field}{a b:Bool}(c:(f.name == "_")=ai)(d:aw.sD P f.type=ae)(e:xs[f.offset]? = J (.bool a))(g:ys[f.offset]? = J (.bool b))(h:aw.iS P xs ys l=J r):aw.iS P xs ys (f::l)=J (aa (a=b)&&r):=by
 simp[aw.iS,c,aw.CH d,e,g,h]
 grind
def nT:U D->U D->af Bool
 |[],[]=>J ae
 |.int k a::l,.int eh b::m=>match aa (k=eh),nT l m with|true,J r=>J (aa (a=b)&&r)|_,_=>ah
 |.str a::l,.str b::m=>match nT l m with|some r=>J (aa (a=b)&&r)|none=>ah
 |.bool a::l,.bool b::m=>match nT l m with|some r=>J (aa (a=b)&&r)|none=>ah
 |_,_=>ah
def afB:D->Nat|.int _ _=>0|.str _=>1|_=>2
theorem Sa{P:cx}{x:cM}{xs ys:Array aA}:∀(fds:U Field) (t:U Nat) (i:Nat) (l m:U D) (r:Bool),u6 P i fds t=ae->t=l.map afB->nT l m=J r ->
  (∀(j:Nat) d,l[j]? = J d->∃v,xs[i+j]? = J v/\aB x d v)->(∀(j:Nat) d,m[j]? = J d->∃v,ys[i+j]? = J v/\aB x d v)->aw.iS P xs ys fds=J r
 |[],[],i,l,m,r,_,aV,he,_,_=>by
  have:l=[]:=by cases l<;>simp at aV;rfl
  subst this;cases m with|nil=>simp[nT]at he;subst he;rfl|cons d m=>cases d<;>simp[nT]at he
 |f::fds,k::t,i,[],m,r,_,aV,_,_,_=>by simp at aV
 |f::fds,k::t,i,d::l,[],r,_,_,he,_,_=>by cases d<;>simp[nT]at he
 |f::fds,k::t,i,d::l,e::m,r,bO,aV,he,aW,bN=>by
  simp only[u6,bx,beq_iff_eq,Bool.not_eq_true']at bO;obtain⟨⟨⟨h1,h2⟩,h3⟩,h4⟩:=bO;simp[e0]at aV;obtain⟨v,aE,p⟩:=aW 0 d (by simp);obtain⟨u,y,q⟩:=bN 0 e (by simp);rw[Nat.add_zero,<-h2]at aE y;have o:∀s,nT l m=J s->aw.iS P xs ys fds=J s:=λs n=>Sa fds t (i+1) l m s h4 aV.2 n (λj d ao=>by have:=aW (j+1) d xd;rwa[show i+(j+1)=i+1+j by omega]at this) (λj d ao=>by have:=bN (j+1) d xd;rwa[show i+(j+1)=i+1+j by omega]at this)
  unfold nT at he;split at he
  .rename_i z _;cases z
  .rename_i dN a eO eJ b gn c g;obtain⟨rfl,rfl⟩:=c;obtain⟨rfl,rfl⟩:=g;split at he
   .rename_i s w n;simp at w;subst w;simp at he;subst he;obtain rfl:=aB.int p;obtain rfl:=aB.int q;rw[aV.1]at h3;exact aqV h1 h3 aE y (o _ n)
   .cases he
  .rename_i a eO b gn c g;obtain⟨rfl,rfl⟩:=c;obtain⟨rfl,rfl⟩:=g;split at he
   .rename_i s n;simp at he;subst he;obtain rfl:=aB.str p;obtain rfl:=aB.str q;rw[aV.1]at h3;exact aqK h1 h3 aE y (o _ n)
   .cases he
  .rename_i a eO b gn c g;obtain⟨rfl,rfl⟩:=c;obtain⟨rfl,rfl⟩:=g;split at he
   .rename_i s n;simp at he;subst he;obtain rfl:=aB.bool p;obtain rfl:=aB.bool q;rw[aV.1]at h3;exact anC h1 h3 aE y (o _ n)
   .cases he
  .cases he
 |[],_::_,_,_,_,_,h,_,_,_,_=>by simp[u6]at h
 |_::_,[],_,_,_,_,h,_,_,_,_=>by simp[u6]at h
theorem avq{a b:cL c}(h:QK c a b=J r):∃d,FB c=J d/\d=(enc c a).map afB/\nT (enc c a) (enc c b)=J r:=by
 unfold QK at h;split at h
 .rename_i a b;simp at h;subst h;refine⟨_,rfl,rfl,?_⟩;exact Kv
 .rename_i a b;simp at h;subst h;refine⟨_,rfl,rfl,?_⟩;exact Kv
 .rename_i a b;simp at h;subst h;refine⟨_,rfl,rfl,?_⟩;exact Kv
 .cases h
variable{el:b1->bD}{aO:Nat->ds}{u:aA}
theorem _7{vx:cM}{a b:D}{v:aA}(p:eL P el aO t=ae)(h:Fb (aO t) a b=J r)(q:aB vx a u)(aj:aB vx b v):aw.qZ P t=ae/\∃xs ys,u = .agg xs/\v = .agg ys/\aw.iS P xs ys (P.fieldsOf t).toList=J r:=by
 unfold Fb at h;split at h
 .rename_i c l z g;split at h
  .rename_i x s;split at h
   .rename_i y w;obtain⟨o,f,i,k⟩:=avq h;obtain⟨fds,hu,_,m⟩:=Kh p g;obtain⟨h1,h2⟩:=m c o rfl f;have e:eV c=true:=by cases c<;>simp[FB]at f<;>rfl
    obtain⟨cF,axv,_⟩:=uz s q;obtain⟨aS,afj,_⟩:=uz w aj;obtain⟨xs,rfl⟩:=axv e;obtain⟨ys,rfl⟩:=afj e;refine⟨h1,xs,ys,rfl,rfl,?_⟩;have n:P.fieldsOf t=fds:=by simp[cx.fieldsOf,hu]
    rw[n];have gJ:=(tG cF).2;have fm:=(tG aS).2;simp[aA.cells]at gJ fm;refine Sa (x:=vx) fds.toList o 0 (enc c x) (enc c y) r h2 i k (λj d ao=>?_) (λj d ao=>?_)
    .grind
    .grind
   .cases h
  .cases h
 .cases h
theorem ah3(d:Nat){t e:bD}{a:af Addr}{n c:Nat}(b:P.underlying t=J (.slice e)):(Op.equalIn (d+1) t (.slice a n c) (.slice ah 0 0)).run P w = .ok a.isNone w:=ad2
theorem Ug{t e:bD}{a:af Addr}{n c:Nat}(b:P.underlying t=J (.slice e)):(Op.equal t (.slice a n c) (.slice ah 0 0)).run P w = .ok a.isNone w:=ah3 9999 b
theorem aqf{d:D}(h:OA d=ae):∃c,d = .sl c [] .nil:=by
 unfold OA at h;split at h
 .exact⟨_,rfl⟩
 .cases h
variable{op:BinOp}{t':Nat}
theorem asj{e:aw.Env}{x y:ct}{c:Bool}{b d:D}{dd:b1}{xs:U (cL dd)}{a9:hY}{v:aA}{vx:cM}(o:eL P el aO t=ae)(h:Pt op (aO t) xs.isEmpty a9 b=J (c,d))(an:c=ae)(l:aw.Env.aF e x=J u)(m:aw.Env.aF e y=J v)(j:aB vx (.sl dd xs a9) u)(aj:aB vx b v):∃r,aw.Pure P e (.binOp op t x y t') r/\aB vx d r:=by
 unfold Pt at h;split at h
 .rename_i c1 k;obtain⟨_,p,_,_⟩:=jC o k;have n:=p.vl;split at h
  .rename_i s;obtain⟨c2,rfl⟩:=aqf s;simp[aB]at j aj;obtain⟨_,rfl,_⟩:=aj;obtain⟨a,cap,rfl,z⟩:=j.1.here.slice;have f:xs.isEmpty=ai->a.isNone=false:=λi=>by grind
   have key:∀q,a.isNone=q->(∃r,aw.Pure P e (.binOp .eql t x y t') r/\aB vx (.bool q) r)/\∃r,aw.Pure P e (.binOp .neq t x y t') r/\aB vx (.bool (!q)) r:=λq g=>
    ⟨⟨_,aw.gR l m (λw=>rfl) (λw=>by rw[show binOp .eql t (.slice a (I xs) cap) (.slice ah 0 0)=(do pure (.bool (<-Op.equal t (.slice a (I xs) cap) (.slice ah 0 0)))) from rfl,dG,Ug n,g];rfl),ji _⟩,
    ⟨_,aw.gR l m (λw=>rfl) (λw=>by rw[show binOp .neq t (.slice a (I xs) cap) (.slice ah 0 0)=(do pure (.bool (!(<-Op.equal t (.slice a (I xs) cap) (.slice ah 0 0))))) from rfl,dG,Ug n,g];rfl),ji _⟩⟩
   have mark:∀q,Pk a9=J q->xs.isEmpty=ae->a.isNone=q:=λq g i=>by obtain rfl:xs=[]:=List.isEmpty_iff.1 i;have h2:=j.2;unfold Pk at g;split at g<;>simp only[c4,reduceCtorEq]at g<;>subst g<;>simp[qJ]at h2<;>grind
   split at h<;>simp[ reduceCtorEq]at h
   .obtain⟨h1,rfl⟩:=h;rw[an]at h1;exact(key _ (f nk)).1
   .obtain⟨h1,rfl⟩:=h;rw[an]at h1;exact(key _ (f nk)).2
   .rename_i q g;obtain⟨h1,rfl⟩:=h;rw[an]at h1;exact(key _ (mark q g nk)).1
   .rename_i q g;obtain⟨h1,rfl⟩:=h;rw[an]at h1;exact(key _ (mark q g nk)).2
  .cases h
 .cases h
theorem ahQ(d:Nat){t e:bD}{a:af Addr}(b:P.underlying t=J (.pointer e)):(Op.equalIn (d+1) t (.pointer a) (.pointer ah)).run P w = .ok a.isNone w:=ad2
theorem R7{e:aw.Env}{x y:ct}{c:Bool}{a b d:D}{v:aA}{vx:cM}(o:eL P el aO t=ae)(h:Fo op (aO t) a b=J (c,d))(m:aw.Env.aF e x=J u)(n:aw.Env.aF e y=J v)(f:aB vx a u)(aj:aB vx b v):∃r,aw.Pure P e (.binOp op t x y t') r/\aB vx d r:=by
 unfold Fo at h;split at h
 .rename_i k;obtain⟨la,s⟩:=atN o k;split at h
  .rename_i q j g;have aE:v = .pointer none:=by
    unfold ac2 at g;split at g
    .simpa[aB]using aj
    .cases g
   subst aE;have l:∃p,u = .pointer p/\p.isNone=q:=by
    unfold adp at j;split at j<;>simp only[c4,reduceCtorEq]at j<;>subst j<;>simp only[aB]at f
    .exact⟨_,f,rfl⟩
    .exact⟨_,f.2,rfl⟩
    .obtain⟨_,_,e,_⟩:=f;exact⟨_,e,rfl⟩
    .exact⟨_,f,rfl⟩
    .exact⟨_,f.2.1,rfl⟩
    .exact⟨_,f.2.1,rfl⟩
   obtain⟨p,rfl,z⟩:=l;have i:∀w,(Op.equal t (.pointer p) (.pointer ah)).run P w = .ok q w:=λw=>by rw[<-z];exact ahQ 9999 s
   split at h<;>simp[ reduceCtorEq]at h
   .obtain⟨_,rfl⟩:=h;exact⟨_,aw.gR m n (λw=>rfl) (λw=>by rw[show binOp .eql t (.pointer p) (.pointer ah)=(do pure (.bool (<-Op.equal t (.pointer p) (.pointer ah)))) from rfl,dG,i];rfl),ji _⟩
   .obtain⟨_,rfl⟩:=h;exact⟨_,aw.gR m n (λw=>rfl) (λw=>by rw[show binOp .neq t (.pointer p) (.pointer ah)=(do pure (.bool (!(<-Op.equal t (.pointer p) (.pointer ah))))) from rfl,dG,i];rfl),ji _⟩
  .cases h
 .cases h
theorem akE{e:aw.Env}{x y:ct}{c:Bool}{a b d:D}{v:aA}{vx:cM}(j:eL P el aO t=ae)(h:bin op (aO t) a b=J (c,d))(an:c=ae)(f:aw.Env.aF e x=J u)(g:aw.Env.aF e y=J v)(i:aB vx a u)(aj:aB vx b v):∃r,aw.Pure P e (.binOp op t x y t') r/\aB vx d r:=by
 unfold bin at h;split at h
 .rename_i k p;obtain rfl:=aB.int i;split at h
  .rename_i z q;obtain rfl:=aB.int aj;split at h
   .simp[ iH]at h;obtain⟨h1,rfl⟩:=h;subst an;refine⟨_,aw.ays f g nk,jV (zP _ _)⟩
   .simp[ iH]at h;obtain⟨h1,rfl⟩:=h;subst an;exact⟨_,aw.ayt f g nk,jV (alR i.u8)⟩
   .split at h
    .rename_i w;simp at w;subst w;exact atC h an f g i.u8 aj.u8
    .cases h
  .cases h
 .rename_i l;obtain rfl:=aB.str i;split at h
  .rename_i m;obtain rfl:=aB.str aj;exact aiw h an f g
  .cases h
 .rename_i p;obtain rfl:=aB.bool i;split at h
  .rename_i q;obtain rfl:=aB.bool aj;split at h
   .rename_i o;have n:=LR j o;split at h<;>simp[ reduceCtorEq]at h
    .obtain⟨_,rfl⟩:=h;exact⟨_,aw.ayi n f g,ji _⟩
    .obtain⟨_,rfl⟩:=h;exact⟨_,aw.ayn n f g,ji _⟩
   .cases h
  .cases h
 .rename_i dd xs a9;exact asj j h an f g i aj
 .split at h
  .split at h
   .rename_i r s;simp[ iH]at h;obtain⟨_,rfl⟩:=h;obtain⟨h1,xs,ys,rfl,rfl,h2⟩:=_7 j s i aj;exact⟨_,aw.ayj h1 f g h2,ji _⟩
   .exact R7 j h f g i aj
  .split at h
   .rename_i r s;simp[ iH]at h;obtain⟨_,rfl⟩:=h;obtain⟨h1,xs,ys,rfl,rfl,h2⟩:=_7 j s i aj;exact⟨_,aw.ayo h1 f g h2,ji _⟩
   .exact R7 j h f g i aj
  .cases h
end Go.dS
namespace Go.dS
abbrev aq:ck:=.int .i64
abbrev bR:ck:=.aI .expr
abbrev kJ:ck:=.sl .expr ai
abbrev eU:ck:=.sl .str ai
abbrev dQ:ck:=.aI .stmt
abbrev cu:ck:=.aI .tbl
abbrev dt:ck:=.aI .val
abbrev dA:ck:=.sl .val ai
abbrev dJ:ck:=.sl .cO ai
abbrev aC:ck:=.sl .byte ai
abbrev sg:ck:=.sl .bool ai
abbrev IB:ck:=.sl .exprs ai
abbrev IC:ck:=.sl .set ai
end Go.dS
