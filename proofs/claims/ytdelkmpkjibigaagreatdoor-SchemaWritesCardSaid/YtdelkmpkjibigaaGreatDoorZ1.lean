/- Texts of the proof,one behind the other: AxA,AxB,AxC,SxA,SxB,SxC,SxD,SxE,SxF,SxG,SxH,SxI,SxJ,AxD,AxE,AxF,AxG,AxH,AxI,AxJ. -/
import Derived.WalkKit
import Derived.WalkSpells
import Derived.WalkLawsBesides
import Derived.MapKept
import Derived.Laws.IdiomStrings
import Derived.Still
import Derived.Laws.StructEq
set_option linter.all false
open List renaming length->I,replicate->lX,range->hg,eq_nil_of_length_eq_zero->k0,mem_append->lx,mem_of_getElem?->lW,range'->j4,append_nil->kq,getElem_mem->hf,getElem?_take->h5,getElem?_drop->kr
open Option renaming some->J,none->aj
open Bool renaming true->ab,false->ai
open Decidable renaming decide->aa
open Nat renaming mul_le_mul_right->ly,beq->cp,ble->eF,blt->eU,le_trans->fV,zero_le->cL,zero_add->h6
open Go.Instr renaming sliceBounds->ko
open Go.IntKind renaming signed->lu,bits->kp
open UInt8 renaming ofNat->eh
open BitVec renaming ofInt->km
open Go.Region renaming ready->iB,wanted->kt
open Go.Sem renaming run_bind->e3,run_pure->ga
open Go.Result renaming andThen_ok->gr
open Go.World renaming cell?->h7
open Go.Builtin renaming append_->oT
open Ne renaming symm->hE
open Go.Value renaming cells->lY
open Go renaming Value->aD,IntKind->df,Operand->cO,Builtin->jq,Oper->bx,World->aT,TypeId->bD,maxLen->dr,Program->cP,execOp->cE,run_underlying->dO
namespace Go
theorem af{p:Prop}(h:p:=by omega):p:=h
theorem d'{p:Prop}(h:p:=by simp;omega):p:=h
theorem ajd{p:Prop}(h:p:=by intro r q;cases r with|slice a l c=>cases a<;>simp[fB.dZ,aD.ownBlock,eq_comm]|_=>simp[fB.dZ,aD.ownBlock]):p:=h
theorem im{p:Prop}(h:p:=by grind):p:=h
theorem uM{p:Prop}(h:p:=by simpa using bz):p:=h
theorem aka{p:Prop}(h:p:=by rw[<-Nat.succ_mul];exact ly _ (by omega)):p:=h
theorem akc{p:Prop}(h:p:=by simp[ko,Instr.sliceBound,asIntOf,if_pos h]):p:=h
theorem uN{p:Prop}(h:p:=by simpa using d):p:=h
theorem uO{p:Prop}(h:p:=by simpa using h):p:=h
theorem w5{p:Prop}(h:p:=by simpa using a):p:=h
theorem w6{p:Prop}(h:p:=by simpa using g):p:=h
theorem AE{p:Prop}(h:p:=by simpa using j):p:=h
theorem AF{p:Prop}(h:p:=by simpa using n):p:=h
theorem te{p:Prop}(h:p:=by simp[ag]):p:=h
theorem Eg{p:Prop}(h:p:=by simpa using ar):p:=h
theorem akl{p:Prop}(h:p:=by simp only[aG];exact⟨trivial,h⟩):p:=h
theorem Ei{p:Prop}(h:p:=by simpa using b):p:=h
theorem Ek{p:Prop}(h:p:=by simp[fB.dZ]):p:=h
theorem GE{p:Prop}(h:p:=by simp[e]):p:=h
end Go
namespace Go
theorem sV{p:Prop}(h:p:=by simp at h;subst h;rfl):p:=h
theorem y7{p:Prop}(h:p:=by exact⟨by simp[aG],rfl⟩):p:=h
theorem y8{p:Prop}(h:p:=by simp[binOp,Op.intCmp]):p:=h
theorem G3{p:Prop}(h:p:=by simp at h;subst h;simp[aG]):p:=h
theorem NX{p:Prop}(h:p:=by exact⟨by simp[aG];exact⟨λ_ _=>.nil _ _ _ _,by simp[vm]⟩,rfl⟩):p:=h
theorem NZ{p:Prop}(h:p:=by simp[enc,qi,Bool.and_true];cases a;cases b;simp):p:=h
theorem N0{p:Prop}(h:p:=by unfold fO at h;rw[a]at h;simp at h;exact h.2):p:=h
theorem adA{p:Prop}(h:p:=by simp[ko,Instr.sliceBound,asIntOf,if_pos h]):p:=h
theorem ai2{p:Prop}(h:p:=by have:=aF.symm.trans bg;simp at this;obtain⟨rfl,_⟩:=this;simp[aD.ownBlock]at cr;exact .inr af):p:=h
theorem ai7{p:Prop}(h:p:=by simp[hY,df.min,df.max,lu,kp];omega):p:=h
end Go
namespace Go
abbrev ae:=Option
abbrev U:=List
theorem dN:type_of% @Option.some.injEq:=@Option.some.injEq
theorem bN:type_of% @Bool.and_eq_true:=@Bool.and_eq_true
theorem bA:type_of% @Option.bind_some:=@Option.bind_some
theorem aL:type_of% @decide_eq_false:=@decide_eq_false
theorem aH:type_of% @decide_eq_true:=@decide_eq_true
theorem eo:type_of% @List.length_cons:=@List.length_cons
theorem fQ:type_of% @decide_eq_true_eq:=@decide_eq_true_eq
theorem e7:type_of% @List.length_append:=@List.length_append
theorem dB:type_of% @List.length_nil:=@List.length_nil
theorem hp:type_of% @List.append_assoc:=@List.append_assoc
theorem gn:type_of% @List.drop_eq_nil_of_le:=@List.drop_eq_nil_of_le
theorem dS:type_of% @Nat.eq_of_beq_eq_true:=@Nat.eq_of_beq_eq_true
theorem dY:type_of% @Nat.not_lt_zero:=@Nat.not_lt_zero
theorem bU:type_of% @Nat.le_refl:=@Nat.le_refl
theorem ic:type_of% @List.getElem?_eq_getElem:=@List.getElem?_eq_getElem
theorem ni:type_of% @Prod.mk.injEq:=@Prod.mk.injEq
theorem iW:type_of% @List.drop_zero:=@List.drop_zero
theorem jy:type_of% @List.mem_cons_self:=@List.mem_cons_self
theorem kd:type_of% @Bool.not_false:=@Bool.not_false
theorem ef:type_of% @Bool.not_true:=@Bool.not_true
theorem mg:type_of% @List.mem_cons_of_mem:=@List.mem_cons_of_mem
theorem fk:type_of% @List.all_cons:=@List.all_cons
theorem hk:type_of% @List.map_cons:=@List.map_cons
theorem iv:type_of% @Nat.lt_of_lt_of_le:=@Nat.lt_of_lt_of_le
theorem hL:type_of% @decide_eq_decide:=@decide_eq_decide
theorem oC:type_of% @List.flatten_cons:=@List.flatten_cons
theorem ff:type_of% @List.length_drop:=@List.length_drop
theorem se:type_of% @List.cons_append:=@List.cons_append
theorem tI:type_of% @List.drop_length:=@List.drop_length
theorem mK:type_of% @Bool.or_eq_true:=@Bool.or_eq_true
theorem mL:type_of% @List.cons.injEq:=@List.cons.injEq
theorem nX:type_of% @List.nil_append:=@List.nil_append
theorem dH:type_of% @List.all_eq_true:=@List.all_eq_true
theorem hZ:type_of% @Array.getElem?_eq_some_iff:=@Array.getElem?_eq_some_iff
theorem lN:type_of% @List.getElem?_eq_some_iff:=@List.getElem?_eq_some_iff
theorem pX:type_of% @Bool.false_eq_true:=@Bool.false_eq_true
theorem mM:type_of% @Array.getElem?_eq_getElem:=@Array.getElem?_eq_getElem
theorem q5:type_of% @Option.map_some:=@Option.map_some
end Go
namespace Go.ft
abbrev ak:=U UInt8
structure dA where
 kind:Int
 n:Int
 s:ak
 deriving DecidableEq
structure Tok where
 kind:Int
 pos:Int
 s:ak
 n:Int
 deriving DecidableEq
structure bk where
 name:ak
 kind:Int
 h2:Bool
 unique:Bool
 ref:ak
 deriving DecidableEq
inductive aq where
 |mk (kind:Int) (v:dA) (name:ak) (l:List aq)
def aq.kind:aq->Int|.mk k _ _ _=>k
def aq.v:aq->dA|.mk _ v _ _=>v
def aq.name:aq->ak|.mk _ _ n _=>n
def aq.l:aq->U aq|.mk _ _ _ l=>l
structure nf where
 minus:Bool
 d:List Int
structure ds where
 name:ak
 e:aq
structure aP where
 kind:Int
 name:ak
 on:ak
 ay:List bk
 names:List ak
 l:List aq
 rows:List (List aq)
 bT:List ds
 has:Bool
 cX:aq
 order:List ak
 desc:List Bool
 bH:Int
structure a' where
 pos:Int
 bad:Bool
 deriving DecidableEq
structure eR where
 sign:ak
 kind:Int
 deriving DecidableEq
structure c' where
 name:ak
 ay:List ak
structure b5 where
 name:ak
 ay:List bk
 key:List ak
 ie:List aq
 idx:List c'
inductive cl where
 |byte|int|u64|str|bool|val|tok|b2|expr|num|v8|exprs|strs|bytes|set|stmt|gz|pair|idx|eT
 deriving DecidableEq
@[reducible] def dy:cl->Type|.byte=>UInt8|.int=>Int|.u64=>Int|.str=>ak|.bool=>Bool|.val=>dA|.tok=>Tok|.b2=>bk|.expr=>aq|.num=>nf|.v8=>U dA|.exprs=>U aq|.strs=>U ak|.bytes=>U UInt8|.set=>ds|.stmt=>aP|.gz=>a'|.pair=>eR|.idx=>c'|.eT=>b5
inductive l' where
 |no|nil|id (n:Nat)|z
inductive D where
 |bool (b:Bool)
 |int (k:df) (n:Int)
 |str (l:ak)
 |sl (c:cl) (xs:List (dy c)) (t:l')
 |bm (c:cl) (x:dy c)
 |lo (c:cl) (x:dy c) (off:Nat)
 |ptr (b off:Nat)
 |n8
 |oI (g:Nat)
 |F4 (l:List (Int×ak))
 |h3 (b:Nat) (c:cl) (dU len:Int)
 |oG (b:Nat) (c:cl) (i:Int)
 |fx (c:cl) (xs:List (dy c))
 |qd (b:Nat) (c:cl) (n:Nat) (i:Int)
 |rw (c:cl) (n:Nat) (xs:List (dy c))
 |fn (f:Nat) (nn:List D)
 |hB (f:Nat) (first:List D)
 |tS
 |agg (az:List D)
 |sB (az:List D)
 |undef
 |tP
def enc:(c:cl)->dy c->U D|.byte,b=>[.int .u8 (b.toNat:Int)]|.int,n=>[.int .i64 n]|.u64,n=>[.int .u64 n]|.str,s=>[.str s]|.bool,b=>[.bool b]|.val,v=>[.int .i64 v.kind,.int .i64 v.n,.str v.s]|.tok,t=>[.int .i64 t.kind,.int .i64 t.pos,.str t.s,.int .i64 t.n]|.b2,c=>[.str c.name,.int .i64 c.kind,.bool c.h2,.bool c.unique,.str c.ref]|.expr,e=>[.int .i64 e.kind,.int .i64 e.v.kind,.int .i64 e.v.n,.str e.v.s,.str e.name,.sl .expr e.l .no]|.num,n=>[.bool n.minus,.sl .int n.d .no]|.v8,l=>[.sl .val l .no]|.exprs,l=>[.sl .expr l .no]|.strs,l=>[.sl .str l .no]|.bytes,l=>[.sl .byte l .no]|.set,s=>[.str s.name,.int .i64 s.e.kind,.int .i64 s.e.v.kind,.int .i64 s.e.v.n,.str s.e.v.s,.str s.e.name,.sl .expr s.e.l .no]|.stmt,s=>[.int .i64 s.kind,.str s.name,.str s.on,.sl .b2 s.ay .no,.sl .str s.names .no,.sl .expr s.l .no,.sl .exprs s.rows .no,.sl .set s.bT .no,.bool s.has,.int .i64 s.cX.kind,.int .i64 s.cX.v.kind,.int .i64 s.cX.v.n,.str s.cX.v.s,.str s.cX.name,.sl .expr s.cX.l .no,.sl .str s.order .no,.sl .bool s.desc .no,.int .i64 s.bH]|.gz,g=>[.int .i64 g.pos,.bool g.bad]|.pair,p=>[.str p.sign,.int .i64 p.kind]|.idx,x=>[.str x.name,.sl .str x.ay .no]|.eT,t=>[.str t.name,.sl .b2 t.ay .no,.sl .str t.key .no,.sl .expr t.ie .no,.sl .idx t.idx .no]
def dec:(c:cl)->U D->ae (dy c)|.byte,[.int .u8 n]=>J (eh n.toNat)|.int,[.int .i64 n]=>J n|.u64,[.int .u64 n]=>J n|.str,[.str s]=>J s|.bool,[.bool b]=>J b|.val,[.int .i64 k,.int .i64 n,.str s]=>J ⟨k,n,s⟩|.tok,[.int .i64 k,.int .i64 a,.str s,.int .i64 n]=>J ⟨k,a,s,n⟩|.b2,[.str a,.int .i64 k,.bool n,.bool u,.str r]=>J ⟨a,k,n,u,r⟩|.expr,[.int .i64 k,.int .i64 a,.int .i64 n,.str s,.str a7,.sl .expr l _]=>J (.mk k ⟨a,n,s⟩ a7 l)|.num,[.bool m,.sl .int d _]=>J ⟨m,d⟩|.v8,[.sl .val l _]=>J l|.exprs,[.sl .expr l _]=>J l|.strs,[.sl .str l _]=>J l|.bytes,[.sl .byte l _]=>J l|.set,[.str lU,.int .i64 k,.int .i64 a,.int .i64 n,.str s,.str a7,.sl .expr l _]=>J ⟨lU,.mk k ⟨a,n,s⟩ a7 l⟩|.stmt,[.int .i64 k,.str a7,.str on,.sl .b2 cs _,.sl .str cW _,.sl .expr l _,.sl .exprs rs _,.sl .set ss _,.bool h,.int .i64 qg,.int .i64 aE2,.int .i64 wn,.str ws,.str aE6,.sl .expr wl _,.sl .str os _,.sl .bool az _,.int .i64 m]=>J ⟨k,a7,on,cs,cW,l,rs,ss,h,.mk qg ⟨aE2,wn,ws⟩ aE6 wl,os,az,m⟩|.gz,[.int .i64 a,.bool b]=>J ⟨a,b⟩|.pair,[.str s,.int .i64 k]=>J ⟨s,k⟩|.idx,[.str n,.sl .str l _]=>J ⟨n,l⟩|.eT,[.str n,.sl .b2 cs _,.sl .str UM _,.sl .expr es _,.sl .idx xs _]=>J ⟨n,cs,UM,es,xs⟩|_,_=>aj
def fv : cl->Bool|.val|.tok|.b2|.expr|.num|.set|.stmt|.gz|.pair|.idx|.eT=>ab|_=>ai
def a8:cl->Nat|.val=>3|.tok=>4|.b2=>5|.expr=>6|.num=>2|.set=>7|.stmt=>18|.gz=>2|.pair=>2|.idx=>2|.eT=>5|_=>1
def mr:(c:cl)->dy c|.byte=>0|.int=>0|.u64=>0|.str=>[]|.bool=>ai|.val=>⟨0,0,[]⟩|.tok=>⟨0,0,[],0⟩|.b2=>⟨[],0,ai,ai,[]⟩|.expr=>.mk 0 ⟨0,0,[]⟩ [] []|.num=>⟨ai,[]⟩|.v8=>[]|.exprs=>[]|.strs=>[]|.bytes=>[]|.set=>⟨[],.mk 0 ⟨0,0,[]⟩ [] []⟩|.stmt=>⟨0,[],[],[],[],[],[],[],ai,.mk 0 ⟨0,0,[]⟩ [] [],[],[],0⟩|.gz=>⟨0,ai⟩|.pair=>⟨[],0⟩|.idx=>⟨[],[]⟩|.eT=>⟨[],[],[],[],[]⟩
def oL(c:cl)(x:dy c):D:=match fv c with
 |true=>.bm c x
 |false=>match enc c x with|d::_=>d|[]=>.undef
def cells:D->U D|.bm c x=>enc c x|.agg az=>az|d=>[d]
def sA(c:cl):D->ae (dy c)
 |.bm a x=>if h:a = c then J (h▸x)else aj
 |.agg az=>match fv c with|true=>dec c az|false=>aj
 |d=>match fv c with|true=>aj|false=>dec c [d]
def CG(c:cl):D->ae (U (dy c))|.sl a xs _=>if h:a = c then J (h▸xs)else aj|_=>aj
def e_:D->Bool|.bm _ _|.rw _ _ _|.fx _ _|.agg _|.sB _|.undef|.tP=>ai|_=>ab
def oK(d:D):Bool:=(cells d).all e_
inductive cA where
 |int (k:df)
 |bool
 |str
 |sl (c:cl) (own:Bool)
 |bm (c:cl)
 |rw (c:cl) (n:Nat)
 |fx (c:cl)
@[reducible] def den:cA->Type|.int _=>Int|.bool=>Bool|.str=>ak|.sl c _=>U (dy c)|.bm c=>dy c|.rw c _=>U (dy c)|.fx c=>U (dy c)
@[reducible] def aw:U cA->Type|[]=>Unit|[a]=>den a|a::b::l=>den a×aw (b::l)
def fy(i:Nat):(s:cA)->den s->D|.int k,n=>.int k n|.bool,b=>.bool b|.str,l=>.str l|.sl c ab,xs=>.sl c xs (.id i)|.sl c ai,xs=>.sl c xs .no|.bm c,x=>.bm c x|.rw c n,xs=>.rw c n xs|.fx c,xs=>.fx c xs
def eK:(i:Nat)->(l:U cA)->aw l->U D|_,[],_=>[]|i,[a],x=>[fy i a x]|i,a::b::l,(x,y)=>fy i a x::eK (i+1) (b::l) y
def dw(i:Nat):U cA->U Nat|[]=>[]|.sl _ ab::l=>i::dw (i+1) l|_::l=>dw (i+1) l
def o4(bJ:U Nat):l'->ae (U Nat)
 |.no=>aj
 |.nil=>J bJ
 |.id t=>match bJ.contains t with|true=>J (bJ.filter λu=> !Nat.beq u t)|false=>aj
 |.z=>aj
def wS(bJ:U Nat):(s:cA)->D->ae (den s×U Nat)
 |.int k,.int fg n=>match aa (fg = k)with|true=>J (n,bJ)|false=>aj
 |.bool,.bool b=>J (b,bJ)
 |.str,.str l=>J (l,bJ)
 |.sl c own,.sl dT xs t=>if h:dT = c then match own with
   |true=>match o4 bJ t with|some a=>J (h▸xs,a)|none=>aj
   |false=>J (h▸xs,bJ)else aj
 |.bm c,d=>match fv c,sA c d with|true,J x=>J (x,bJ)|_,_=>aj
 |.rw c n,.rw dT mS xs=>if h:dT = c then match cp mS n with|true=>J (h▸xs,bJ)|false=>aj else aj
 |.fx c,.fx dT xs=>if h:dT = c then J (h▸xs,bJ)else aj
 |_,_=>aj
def mc:(l:U cA)->U Nat->U D->ae (aw l)
 |[],_,[]=>J ()
 |[a],bJ,[d]=>match wS bJ a d with|some (x,_)=>J x|none=>aj
 |a::b::l,bJ,d::az=>match wS bJ a d with
  |some (x,aDn)=>match mc (b::l) aDn az with|some y=>J (x,y)|none=>aj
  |none=>aj
 |_,_,_=>aj
inductive ej where
 |int (k:df)
 |bool
 |str
 |sl (c:cl)
 |st (c:Option cl) (aB:List (Nat×Nat)) (z:List D)
 |arr (n:Nat) (c:cl)
 |ptr
 |fn
 |map
 |no
def ej.zero:ej->ae D|.int k=>J (.int k 0)|.bool=>J (.bool ai)|.str=>J (.str [])|.sl c=>J (.sl c [] .nil)|.st _ _ z=>J (.agg z)|.arr n c=>J (.agg ((lX n (enc c (mr c))).flatten))|.ptr=>J .n8|.fn=>J .tS|_=>aj
def ej.n:ej->Nat|.st _ _ z=>I z|.arr n c=>n*a8 c|_=>1
def ej.fv : ej->Bool|.st _ _ _|.arr _ _=>ab|_=>ai
def ej.known:ej->Bool|.no|.map=>ai|_=>ab
def ej.sm(c:cl):ej->Bool|.sl a=>aa (a = c)|_=>ai
def ej.isStr:ej->Bool|.str=>ab|_=>ai
abbrev Env:=U (Nat×D)
def get:Env->Nat->ae D|[],_=>aj|(k,v)::e,n=>match cp k n with|true=>J v|false=>get e n
inductive dW where
 |cells (az:List D)
 |box (c:cl) (y:dy c)
 |row (c:cl) (n:Nat) (xs:List (dy c))
 |dyn (c:cl) (xs:List (dy c))
 |fb (t:Nat) (d:D)
structure Fr where
 n:Nat
 env:Env
 c7:Nat
 lt:Nat
structure bw where
 n:Nat
 env:Env
 c7:Nat
 lt:Nat
 cx:List Fr
 au:List (Nat×dW)
 nb:Nat
 bh:List Nat
 bu:Nat
def bF:U (Nat×dW)->Nat->ae dW|[],_=>aj|(k,v)::e,n=>match cp k n with|true=>J v|false=>bF e n
def lh:U (Nat×dW)->Nat->dW->U (Nat×dW)|[],_,_=>[]|(k,v)::e,n,u=>match cp k n with|true=>(k,u)::e|false=>(k,v)::lh e n u
def fM:U (Nat×dW)->Nat->U (Nat×dW)|[],_=>[]|(k,v)::e,n=>match cp k n with|true=>fM e n|false=>(k,v)::fM e n
def bw.put(st:bw)(d:Nat)(v:D):bw:={ st with env:=(d,v)::st.env }
inductive aX where
 |normal
 |exit (id:Nat)
 |ret
inductive lI where
 |arr (c:cl) (xs:List (dy c))
 |map (l:List (Int×ak))
 |num (k:df)
structure aR (R:Type) where
 a1:Nat->ej
 cD:Nat->Option lI
 call:Nat->List D->bw->(List D->bw->Option R)->Option R
 LX:Nat->List D->(List D->Option R)->Option R
 loop:Code->bw->(aX->bw->Option R)->Option R
 LY:Nat->Option (List D->bw->(D->List Nat->bw->Option R)->Option R)
def hY(k:df)(n:Int):Bool:=aa (k.min<=n)&&aa (n<=k.max)
def Rq(s:ByteArray):Bool:=eF (I s.data.toList) 1048576
def S2:D->aD->ae D
 |.int _ _,.int k n=>match hY k n with|true=>J (.int k n)|false=>aj
 |.bool _,.bool b=>J (.bool b)
 |.str _,.string s=>match Rq s with|true=>J (.str s.data.toList)|false=>aj
 |.sl c _ _,.slice aj 0 0=>J (.sl c [] .nil)
 |.n8,.pointer aj=>J .n8
 |.tS,.nilFunc=>J .tS
 |_,_=>aj
def uA:U D->U aD->ae (U D)
 |[],[]=>J []
 |z::zs,v::vs=>match S2 z v with
  |some d=>match uA zs vs with|some az=>J (d::az)|none=>aj
  |none=>aj
 |_,_=>aj
def Ck(t:ej):aD->ae D
 |.int k n=>match hY k n with|true=>J (.int k n)|false=>aj
 |.bool b=>J (.bool b)
 |.string s=>match Rq s with|true=>J (.str s.data.toList)|false=>aj
 |.slice aj 0 0=>match t with|.sl c=>J (.sl c [] .nil)|_=>aj
 |.pointer aj=>J .n8
 |.nilFunc=>J .tS
 |.agg cs=>match t with
  |.st _ _ z=>match uA z cs.toList with|some az=>J (.agg az)|none=>aj
  |_=>aj
 |_=>J .tP
section
variable {R:Type}
def aJ(px:aR R)(st:bw)(t:Nat):cO->ae D|.tmp i=>get st.env i|.const v=>Ck (px.a1 t) v|.global g=>J (.oI g)|.func f=>J (.fn f [])
def gH(px:aR R)(st:bw):U Nat->U cO->ae (U D)
 |_,[]=>J []
 |bQ,x::xs=>match aJ px st (bQ.headD 0) x with
  |none=>aj
  |some v=>match gH px st bQ.tail xs with|none=>aj|some vs=>J (v::vs)
def wr(k:df)(n:Int):Int:=k.wrap n
def b_(l:ak)(i:Int):Int:=((l.getD i.toNat 0).toNat:Int)
def yV(k:df)(f:BitVec k.bits->BitVec k.bits->BitVec k.bits)(x y:Int):Int:=k.wrap ((f (km k.bits x) (km k.bits y)).toNat:Int)
def ib(k:df)(x y:Int):Int:=yV k (· &&& ·) x y
def pj(k:df)(x y:Int):Int:=yV k (· ||| ·) x y
def Kp(k:df)(x y:Int):Int:=yV k (· ^^^ ·) x y
def Ry(k:df)(x y:Int):Int:=yV k (λa b=>a &&& ~~~b) x y
def sK(k:df)(x y:Int):Int:=k.wrap (x*2 ^ min y.toNat k.bits)
def hj(k:df)(x y:Int):Int:=x.fdiv (2 ^ min y.toNat k.bits)
def S3(op:BinOp)(k:df)(x y:Int):ae (Bool×D):=match op with|.add=>J (ab,.int k (wr k (x+y)))|.sub=>J (ab,.int k (wr k (x-y)))|.mul=>J (ab,.int k (wr k (x*y)))|.quo=>J (!decide (y=0),.int k (wr k (x.tdiv y)))|.rem=>J (!decide (y=0),.int k (x.tmod y))|.and=>J (ab,.int k (ib k x y))|.or=>J (ab,.int k (pj k x y))|.xor=>J (ab,.int k (Kp k x y))|.andNot=>J (ab,.int k (Ry k x y))|.eql=>J (ab,.bool (aa (x=y)))|.neq=>J (ab,.bool (!decide (x=y)))|.lss=>J (ab,.bool (aa (x<y)))|.leq=>J (ab,.bool (aa (x<=y)))|.gtr=>J (ab,.bool (aa (y<x)))|.geq=>J (ab,.bool (aa (y<=x)))|_=>aj
def c0:Nat:=4611686018427387904
def SV(op:BinOp)(l m:ak):ae (Bool×D):=match op with|.add=>J (aa (I l+I m<=c0),.str (l++m))|.eql=>J (ab,.bool (aa (l=m)))|.neq=>J (ab,.bool (!decide (l=m)))|.lss=>J (ab,.bool (Op.bytesLess l m))|.leq=>J (ab,.bool (Op.bytesLess l m||decide (l=m)))|.gtr=>J (ab,.bool (!(Op.bytesLess l m||decide (l=m))))|.geq=>J (ab,.bool (!Op.bytesLess l m))|_=>aj
def Uw:(c:cl)->dy c->dy c->ae Bool|.val,a,b=>J (aa (a=b))|.tok,a,b=>J (aa (a=b))|.b2,a,b=>J (aa (a=b))|_,_,_=>aj
def Ki(t:ej)(a b:D):ae Bool:=match t with
 |.st (J c) _ _=>match sA c a with
  |some x=>match sA c b with|some y=>Uw c x y|none=>aj
  |none=>aj
 |_=>aj
def Sa:D->Bool|.sl _ [] .nil=>ab|_=>ai
def SM(op:BinOp)(t:ej)(e:Bool)(b:D):ae (Bool×D):=match t with
 |.sl _=>match Sa b with
  |true=>match op with|.eql=>J (!e,.bool ai)|.neq=>J (!e,.bool ab)|_=>aj
  |false=>aj
 |_=>aj
def bin(op:BinOp)(t:ej)(a b:D):ae (Bool×D):=match a with
 |.int k x=>match b with
  |.int c y=>match op with
   |.shl=>J (aa (0<=y),.int k (sK k x y))
   |.shr=>J (aa (0<=y),.int k (hj k x y))
   |op=>match aa (k=c)with|true=>S3 op k x y|false=>aj
  |_=>aj
 |.str l=>match b with|.str m=>SV op l m|_=>aj
 |.bool x=>match b with
  |.bool y=>match t with
   |.bool=>match op with|.eql=>J (ab,.bool (aa (x=y)))|.neq=>J (ab,.bool (!decide (x=y)))|_=>aj
   |_=>aj
  |_=>aj
 |.sl _ xs _=>SM op t xs.isEmpty b
 |_=>match op with
  |.eql=>match Ki t a b with|some r=>J (ab,.bool r)|none=>aj
  |.neq=>match Ki t a b with|some r=>J (ab,.bool (!r))|none=>aj
  |_=>aj
def un(op:UnOp)(a:D):ae D:=match op,a with
 |.not,.bool b=>J (.bool (!b))
 |.neg,.int k n=>J (.int k (wr k (0-n)))
 |.xor,.int k n=>J (.int k (Kp k (match k.signed with|true=> -1|false=>k.max) n))
 |_,_=>aj
def lM:U (Int×ak)->Int->ak|[],_=>[]|(k,s)::l,n=>match aa (k=n)with|true=>s|false=>lM l n
def a_(i:Int)(n:Nat):Bool:=aa (0<=i)&&aa (i<(n:Int))
def dP(i j:Int)(n:Nat):Bool:=aa (0<=i)&&aa (i<=j)&&aa (j<=(n:Int))
def cut{α:Type}(l:U α)(i j:Int):U α:=(l.drop i.toNat).take (j.toNat-i.toNat)
def at'(c:cl)(xs:U (dy c))(i:Int):dy c:=xs.getD i.toNat (mr c)
def Ao(c:cl):Nat->U D->ae (U (dy c))
 |0,[]=>J []
 |0,_=>aj
 |n+1,az=>match dec c (az.take (a8 c))with
  |some x=>match Ao c n (az.drop (a8 c))with|some xs=>J (x::xs)|none=>aj
  |none=>aj
def wV(c:cl):U D->ae (U (dy c))
 |[]=>J []
 |d::az=>match sA c d with
  |some x=>match wV c az with|some xs=>J (x::xs)|none=>aj
  |none=>aj
def part(t:ej)(az:U D)(off:Nat):ae D:=match t.fv with
 |true=>match eF (off+t.n) (I az) with|true=>J (.agg ((az.drop off).take t.n))|false=>aj
 |false=>az[off]?
def write(az:U D)(off:Nat):U D->U D|[]=>az|v::vs=>write (az.set off v) (off+1) vs
def bY:Nat:=274877906944
def ax(b:Bool)(x:ae R):ae R:=cond b x aj
def load(aDm:aR R)(st:bw)(t:ej):D->ae D
 |.lo c x off=>match cp off 0&&cp t.n (a8 c)&&(t.fv == fv c)with|true=>J (oL c x)|false=>part t (enc c x) off
 |.ptr b off=>match bF st.au b with
  |some (.cells az)=>part t az off
  |some (.box c x)=>match cp off 0&&cp t.n (a8 c)&&(t.fv == fv c)with|true=>J (oL c x)|false=>part t (enc c x) off
  |some (.fb _ d)=>match cp off 1 && !t.fv with|true=>J d|false=>aj
  |_=>aj
 |.qd b dD iz i=>match bF st.au b with
  |some (.row c n xs)=>match cp t.n (a8 c)&&(t.fv == fv c)&&aa (dD=c)&&cp iz n with|true=>J (oL c (at' c xs i))|false=>aj
  |_=>aj
 |_=>aj
def sL(px:aR R)(s f:Nat):ae (Nat×ej):=match px.a1 s with
 |.st _ aB _=>match aB[f]? with|some (o,u)=>J (o,px.a1 u)|none=>aj
 |_=>aj
def y3(px:aR R)(s:Nat)(z:U D):U (Nat×D)->ae (U D)
 |[]=>J z
 |(f,d)::l=>match sL px s f with
  |some (o,u)=>match cp (I (cells d)) u.n&&eF (o+I (cells d)) (I z)&&oK d&&u.known with|true=>y3 px s (write z o (cells d)) l|false=>aj
  |none=>aj
def aCm(px:aR R)(s f:Nat):Nat:=match px.a1 s with
 |.st _ aB _=>match aB[f]? with|some (_,u)=>u|none=>0
 |_=>0
def DH(px:aR R)(st:bw)(s:Nat):U (Nat×cO)->ae (U (Nat×D))
 |[]=>J []
 |(i,x)::xs=>match aJ px st (aCm px s i) x with
  |none=>aj
  |some v=>match DH px st s xs with|none=>aj|some vs=>J ((i,v)::vs)
def DQ:U (Nat×cO)->Nat|[]=>0|(i,_)::_=>i
def yP(px:aR R)(st:bw):Nat->U (Nat×cO)->ae (U D)
 |_,[]=>J []
 |i,(j,x)::xs=>match cp i j with
  |true=>match aJ px st 0 x with
   |none=>aj
   |some v=>match yP px st (i+1) xs with|none=>aj|some vs=>J (v::vs)
  |false=>aj
def RD:D->dW|.bm c y=>.box c y|d=>.cells (cells d)
def Sw(t:Nat):U D->dW|[.n8,.sl .byte [] .nil]=>.fb t (.sl .byte [] .nil)|az=>.cells az
def lf(st:bw):bw:={ st with bh:=st.bu::st.bh,bu:=st.bu+1 }
def jl(st:bw)(b:dW):bw:={ st with au:=(st.nb,b)::st.au,nb:=st.nb+1 }
def iU:U D->D|[d]=>d|az=>.sB az
def zk(st:bw)(c:cl)(s x:D)(K:D->bw->ae R):ae R:=match s with
 |.sl a xs t=>if h:a = c then match o4 st.bh t with
   |none=>aj
   |some bJ=>match CG c x with
    |none=>aj
    |some ys=>ax (aa (I xs+I ys<=bY)) (K (.sl c ((h▸xs:U (dy c))++ys) (.id st.bu)) (lf { st with bh:=bJ }))else aj
 |_=>aj
def Sh(l:ak)(dU a:ae D)(K:D->ae R):ae R:=match dU,a with|some (.int _ i),aj=>ax (dP i (I l) (I l)) (K (.str (l.drop i.toNat)))|none,J (.int _ j)=>ax (dP 0 j (I l)) (K (.str (l.take j.toNat)))|some (.int _ i),J (.int _ j)=>ax (dP i j (I l)) (K (.str (cut l i j)))|_,_=>aj
def RU(c:cl)(l:U (dy c))(dU a:ae D)(K:D->ae R):ae R:=match dU,a with|none,aj=>K (.sl c l .no)|some (.int _ i),aj=>ax (dP i (I l) (I l)) (K (.sl c (l.drop i.toNat) .no))|none,J (.int _ j)=>ax (dP 0 j (I l)) (K (.sl c (l.take j.toNat) .no))|some (.int _ i),J (.int _ j)=>ax (dP i j (I l)) (K (.sl c (cut l i j) .no))|_,_=>aj
def Gl(i j n:Int):Bool:=aa (0<=i)&&aa (i<=j)&&aa (j<=n)
def q_(i n:Int):Bool:=aa (0<=i)&&aa (i<n)
def R8(b:Nat)(c:cl)(s n:Int)(dU a:ae D)(K:D->ae R):ae R:=match dU,a with|none,aj=>K (.h3 b c s n)|some (.int _ i),aj=>ax (Gl i n n) (K (.h3 b c (s+i) (n-i)))|none,J (.int _ j)=>ax (Gl 0 j n) (K (.h3 b c s j))|some (.int _ i),J (.int _ j)=>ax (Gl i j n) (K (.h3 b c (s+i) (j-i)))|_,_=>aj
def adg(px:aR R)(ty:ej)(x:D)(dU a:ae D)(K:D->ae R):ae R:=match x with
 |.str l=>match ty.isStr with|true=>Sh l dU a K|false=>aj
 |.sl c l _=>match ty.sm c with|true=>RU c l dU a K|false=>aj
 |.h3 b c s n=>match ty.sm c with|true=>R8 b c s n dU a K|false=>aj
 |.oI g=>match px.cD g,ty,dU,a with
  |some (.arr c xs),.arr n dT,aj,aj=>match cp (I xs) n&&aa (c=dT)&&eF n 1048576 with|true=>K (.sl c xs .no)|false=>aj
  |_,_,_,_=>aj
 |_=>aj
def min2(x y:Int):Int:=if y<x then y else x
def max2(x y:Int):Int:=if x<y then y else x
def IP(ty:ej)(b:jq)(args:U D):ae D:=match b,args with
 |.len,[.str l]=>match ty.isStr with|true=>J (.int .i64 (I l))|false=>aj
 |.len,[.sl c xs _]=>match ty.sm c with|true=>J (.int .i64 (I xs))|false=>aj
 |.len,[.h3 _ c _ n]=>match ty.sm c with|true=>J (.int .i64 n)|false=>aj
 |.min,[.int k x,.int fg y]=>match aa (k=fg)with|true=>J (.int k (min2 x y))|false=>aj
 |.max,[.int k x,.int fg y]=>match aa (k=fg)with|true=>J (.int k (max2 x y))|false=>aj
 |_,_=>aj
def FZ(px:aR R)(st:bw):ae cO->ae (ae D)|none=>J aj|some x=>match aJ px st 0 x with|some d=>J (J d)|none=>aj
def rE(px:aR R)(o:bx)(st:bw)(K:D->ae R):ae R:=match o.op with
 |.move x=>match aJ px st o.type x with|some d=>K d|none=>aj
 |.assign x=>match aJ px st o.type x with|some d=>K d|none=>aj
 |.pick c a b=>match aJ px st 0 c,aJ px st o.type a,aJ px st o.type b with|some (.bool x),J u,J v=>cond x (K u) (K v)|_,_,_=>aj
 |.build t dL=>match px.a1 t with
  |.st _ _ z=>match DH px st t dL.toList with
   |some l=>match y3 px t z l with|some az=>K (.agg az)|none=>aj
   |none=>aj
  |.arr n c=>match yP px st (DQ dL.toList) dL.toList with
   |some l=>match cp (DQ dL.toList+I l) n&&l.all λd=>oK d&&cp (I (cells d)) (a8 c)with|true=>K (.agg ((lX (DQ dL.toList) (enc c (mr c))).flatten++(l.map cells).flatten))|false=>aj
   |none=>aj
  |_=>aj
 |.load t x=>match aJ px st 0 x with
  |some (.oI g)=>match px.a1 t,px.cD g with|.map,J (.map l)=>K (.F4 l)|_,_=>aj
  |some (.oG b c i)=>match bF st.au b with
   |some (.dyn dT xs)=>match cp (px.a1 t).n (a8 dT)&&((px.a1 t).fv == fv dT)&&aa (c=dT)&&(px.a1 t).known with|true=>ax (a_ i (I xs)) (K (oL dT (at' dT xs i)))|false=>aj
   |_=>aj
  |some p=>match(px.a1 t).known,load px st (px.a1 t) p with|true,J d=>K d|_,_=>aj
  |none=>aj
 |.nilCheck x=>match aJ px st 0 x with|some (.ptr b o)=>K (.ptr b o)|some (.lo c x o)=>K (.lo c x o)|some (.oI g)=>K (.oI g)|some (.qd b c n i)=>K (.qd b c n i)|some (.oG b c i)=>K (.oG b c i)|some (.fn f cs)=>K (.fn f cs)|_=>aj
 |.binOp op t x y t'=>match aJ px st t x,aJ px st t' y with
  |some a,J b=>match bin op (px.a1 t) a b with|some (c,d)=>ax c (K d)|none=>aj
  |_,_=>aj
 |.unOp op t x=>match aJ px st t x with
  |some a=>match un op a with|some d=>K d|none=>aj
  |none=>aj
 |.convert s t x=>match aJ px st s x,px.a1 t with
  |some (.int _ n),.int k=>match(px.a1 s).known with|true=>K (.int k (wr k n))|false=>aj
  |some (.str l),.str=>match(px.a1 s).known with|true=>K (.str l)|false=>aj
  |some (.sl .byte xs _),.str=>match(px.a1 s).sm .byte with|true=>K (.str xs)|false=>aj
  |_,_=>aj
 |.slice t x dU e aj=>match aJ px st t x,FZ px st dU,FZ px st e with|some d,J i,J j=>adg px (px.a1 t) d i j K|_,_,_=>aj
 |.fieldAddr s x f=>match aJ px st 0 x,sL px s f with|some (.ptr b o),J (gJ,_)=>K (.ptr b (o+gJ))|some (.lo c x o),J (gJ,_)=>K (.lo c x (o+gJ))|_,_=>aj
 |.field s x f=>match aJ px st s x,sL px s f with
  |some d,J (gJ,u)=>match u.known&&oK d&&(match d with|.bm _ _=>ab|.agg _=>ab|_=>ai),part u (cells d) gJ with|true,J v=>K v|_,_=>aj
  |_,_=>aj
 |.indexAddr t x y=>match aJ px st t x,aJ px st 0 y with
  |some (.sl c xs _),J (.int _ i)=>match(px.a1 t).sm c with|true=>ax (a_ i (I xs)) (K (.lo c (at' c xs i) 0))|false=>aj
  |some (.oI g),J (.int _ i)=>match px.cD g,px.a1 t with
   |some (.arr c xs),.arr n dT=>match cp (I xs) n&&aa (c=dT)with|true=>ax (a_ i n) (K (.lo c (at' c xs i) 0))|false=>aj
   |_,_=>aj
  |some (.ptr b 0),J (.int _ i)=>match bF st.au b,px.a1 t with
   |some (.row c mS _),.arr n dT=>match aa (c=dT)&&cp mS n with|true=>ax (a_ i n) (K (.qd b c n i))|false=>aj
   |_,_=>aj
  |some (.h3 b c s n),J (.int _ i)=>match(px.a1 t).sm c with|true=>ax (q_ i n) (K (.oG b c (s+i)))|false=>aj
  |_,_=>aj
 |.index t x y=>match aJ px st t x,aJ px st 0 y with
  |some (.str l),J (.int _ i)=>match(px.a1 t).isStr with|true=>ax (a_ i (I l)) (K (.int .u8 (b_ l i)))|false=>aj
  |some (.agg az),J (.int _ i)=>match px.a1 t with
   |.arr n c=>match Ao c n az with|some xs=>ax (a_ i n) (K (oL c (at' c xs i)))|none=>aj
   |_=>aj
  |_,_=>aj
 |.lookup t x y ai=>match aJ px st 0 x,aJ px st 0 y,px.a1 t with|some (.F4 l),J (.int .i64 i),.map=>K (.str (lM l i))|_,_,_=>aj
 |.extract x i=>match aJ px st 0 x with
  |some (.sB az)=>match az[i]? with|some d=>K d|none=>aj
  |_=>aj
 |.makeFunc (.func f) ⟨[]⟩ ⟨cs⟩=>match gH px st [] cs with|some az=>K (.fn f az)|none=>aj
 |.makeFunc (.func f) ⟨c::cs⟩ ⟨[]⟩=>match gH px st [] (c::cs)with|some az=>K (.hB f az)|none=>aj
 |.call ⟨.builtin b,xs,bQ⟩=>match gH px st bQ.toList xs.toList with
  |some az=>match IP (px.a1 (bQ.toList.headD 0)) b az with|some d=>K d|none=>aj
  |none=>aj
 |_=>aj
def ajj:U (Nat×cO)->ae (U aD)|[(0,.const (.agg cs))]=>J cs.toList|_=>aj
def s6(px:aR R)(st:bw)(c:cl)(len:Nat)(dL:U (Nat×cO)):ae (U (dy c)):=match ajj dL with
 |some cs=>match uA (enc c (mr c)) cs with
  |some az=>match fv c&&cp len 1,dec c az with|true,J x=>J [x]|_,_=>aj
  |none=>aj
 |none=>match yP px st 0 dL with
  |some l=>match cp (I l) len&&eF (len*a8 c) 16777216,wV c l with|true,J xs=>J xs|_,_=>aj
  |none=>aj
def step(px:aR R)(o:bx)(st:bw)(K:D->bw->ae R):ae R:=match o.op with
 |.alloc t=>match px.a1 t with
  |.arr n c=>K (.ptr st.nb 0) (jl st (.row c n (lX n (mr c))))
  |ty=>match ty.zero with|some z=>K (.ptr st.nb 0) (jl st (Sw t (cells z)))|none=>aj
 |.box t x=>match aJ px st t x with
  |some d=>match oK d with|true=>K (.ptr st.nb 0) (jl st (RD d))|false=>aj
  |none=>aj
 |.buildSlice t len dL=>match px.a1 t with
  |.sl c=>match s6 px st c len dL.toList with|some xs=>K (.sl c xs (.id st.bu)) (lf st)|none=>aj
  |_=>aj
 |.convert s t x=>match aJ px st s x,px.a1 t with
  |some (.str l),.sl .byte=>match(px.a1 s).isStr with|true=>ax (aa (I l<=bY)) (K (.sl .byte l .no) st)|false=>aj
  |_,_=>rE px o st λd=>K d st
 |.call ⟨.builtin .append,⟨[x,y]⟩,⟨[t,t']⟩⟩=>match px.a1 t,aJ px st t x,aJ px st t y,cp t t' with
  |.sl c,J s,J d,ab=>zk st c s d K
  |.sl .byte,J s,J (.str l),ai=>match(px.a1 t').isStr with|true=>zk st .byte s (.sl .byte l .no) K|false=>aj
  |_,_,_,_=>aj
 |.call ⟨.value f,xs,bQ⟩=>match aJ px st 0 f with
  |some (.fn g nn)=>match gH px st bQ.toList xs.toList with|some az=>px.call g (az++nn) st λrs aS=>K (iU rs) aS|none=>aj
  |some (.hB g aB)=>match gH px st bQ.toList xs.toList with|some az=>px.call g (aB++az) st λrs aS=>K (iU rs) aS|none=>aj
  |_=>aj
 |_=>rE px o st λd=>K d st
def pW:D->D|.sl c xs _=>.sl c xs .no|d=>d
def Jk:Nat->Bool|69=>ab|70=>ab|_=>ai
def JW(px:aR R)(g:Nat)(args:U D)(st:bw)(K:D->U Nat->bw->ae R):ae R:=match Jk g,px.LY g with|false,J F=>F args st K|_,_=>px.LX g args λrs=>K (iU (rs.map pW)) [] st
def RB(px:aR R)(o:bx)(st:bw)(K:D->U Nat->bw->ae R):ae R:=match o.op with
 |.buildSlice _ _ _=>step px o st λd _=>K (pW d) [] st
 |.convert _ _ _=>step px o st λd _=>K (pW d) [] st
 |.alloc _=>match bF st.au st.nb with|none=>step px o st λd aS=>K d [] aS|some _=>aj
 |.box _ _=>match bF st.au st.nb with|none=>step px o st λd aS=>K d [] aS|some _=>aj
 |.call ⟨.value f,xs,bQ⟩=>match aJ px st 0 f with
  |some (.fn g nn)=>match gH px st bQ.toList xs.toList with|some az=>JW px g (az++nn) st K|none=>aj
  |some (.hB g aB)=>match gH px st bQ.toList xs.toList with|some az=>JW px g (aB++az) st K|none=>aj
  |_=>aj
 |_=>step px o st λd aS=>K d [] aS
def SX:D->Bool|.sl .byte _ _=>ab|_=>ai
def Sm(az:U D)(off:Nat)(d:D):dW:=match d with
 |.bm c y=>match cp off 0&&cp (I az) (a8 c)with|true=>.box c y|false=>.cells (write az off (cells (.bm c y)))
 |d=>.cells (write az off (cells d))
def uq(px:aR R)(o:bx)(st:bw)(K:bw->ae R):ae R:=match o.op with
 |.store t x y=>match aJ px st 0 x,aJ px st t y with
  |some (.ptr b off),J d=>match bF st.au b with
   |some (.fb ty _)=>match cp off 1&&SX d&&(px.a1 t).sm .byte with
    |true=>K { st with au:=lh st.au b (.fb ty d) }
    |false=>aj
   |_=>match(match bF st.au b with
    |some (.cells az)=>J az
    |some (.box c y)=>J (enc c y)
    |_=>aj)with
    |some az=>match cp (I (cells d)) (px.a1 t).n&&eF (off+I (cells d)) (I az)&&oK d&&(px.a1 t).known with
     |true=>K { st with au:=lh st.au b (Sm az off d) }
     |false=>aj
    |_=>aj
  |some (.qd b dD iz i),J d=>match bF st.au b with
   |some (.row c n xs)=>match sA c d,cp (px.a1 t).n (a8 c)&&aa (dD=c)&&cp iz n&&(px.a1 t).known with
    |some x,ab=>K { st with au:=lh st.au b (.row c n (xs.set i.toNat x)) }
    |_,_=>aj
   |_=>aj
  |some (.oG b dD i),J d=>match bF st.au b with
   |some (.dyn c xs)=>match sA c d,cp (px.a1 t).n (a8 c)&&aa (dD=c)&&(px.a1 t).known with
    |some x,ab=>ax (a_ i (I xs)) (K { st with au:=lh st.au b (.dyn c (xs.set i.toNat x)) })
    |_,_=>aj
   |_=>aj
  |_,_=>aj
 |_=>aj
def Vs(px:aR R)(o:bx)(st:bw):U Nat:=match o.op with
 |.store _ x _=>match aJ px st 0 x with|some (.ptr b _)=>[b]|some (.qd b _ _ _)=>[b]|some (.oG b _ _)=>[b]|_=>[]
 |_=>[]
def one(px:aR R)(o:bx)(st:bw)(K:bw->ae R):ae R:=match o.dst with
 |some d=>match eU d st.n with|true=>step px o st λv aS=>K (aS.put d v)|false=>aj
 |none=>uq px o st K
def off(o:bx)(st:bw):bw:=match o.dst with|some d=>st.put d .undef|none=>st
def vR(px:aR R)(all:Array bx)(o:bx)(st:bw)(K:bw->ae R):ae R:=match o.guard with
 |none=>one px o st K
 |some (j,b)=>match(all[j]?).bind (·.dst)with
  |none=>aj
  |some g=>match get st.env g with
   |some (.bool x)=>cond x (match b with
      |true=>one px o (st.put g (.bool ab)) K
      |false=>K (off o (st.put g (.bool ab)))) (match b with
      |false=>one px o (st.put g (.bool ai)) K
      |true=>K (off o (st.put g (.bool ai))))
   |some .undef=>K (off o st)
   |_=>aj
def lk(x:cO)(d:Nat):Bool:=match x with|.tmp k=> !Nat.beq k d|_=>ab
def wJ(px:aR R)(o ew mT:bx)(st:bw):ae (Bool×bw):=match o.op with
 |.call ⟨.builtin .append,⟨[x,z]⟩,⟨[t,t']⟩⟩=>match ew.op with
  |.indexAddr t2 (.tmp a) i=>match mT.op with
   |.store u (.tmp b) y=>match o.dst,ew.dst,mT.dst with
    |some d,J d2,aj=>match o.guard.isNone&&ew.guard.isNone&&mT.guard.isNone&&cp t t'&&cp t2 t&&cp a d&&cp b d2 && !Nat.beq d d2&&eU d st.n&&eU d2 st.n&&lk i d&&lk y d&&lk y d2 with
     |true=>match px.a1 t,aJ px st t x,aJ px st t z,aJ px st 0 i,aJ px st u y with
      |.sl c,J (.sl dT xs bh),J zs,J (.int _ n),J Cs=>match CG c zs,sA c Cs,o4 st.bh bh,cp (px.a1 u).n (a8 c)&&(px.a1 u).known with
       |some [_],J e,J bJ,ab=>if h:dT = c then J (aa (I xs+1<=bY)&&aa (n=(I xs:Int)),(((lf { st with bh:=bJ }).put d (.sl c ((h▸xs:U (dy c))++[e]) (.id st.bu))).put d2 .tP))else aj
       |_,_,_,_=>aj
      |_,_,_,_,_=>aj
     |false=>aj
    |_,_,_=>aj
   |_=>aj
  |_=>aj
 |_=>aj
def ops(px:aR R)(all:Array bx):U bx->bw->(bw->ae R)->ae R|[],st,K=>K st|[o],st,K=>vR px all o st K|[o,ew],st,K=>vR px all o st λaS=>ops px all [ew] aS K|o::ew::mT::l,st,K=>match wJ px o ew mT st with|some p=>ax p.1 (ops px all l p.2 K)|none=>vR px all o st λaS=>ops px all (ew::mT::l) aS K
def kD(ops:Array bx):Nat->bx->Nat->Bool|0,_,_=>ai|n+1,o,i=>o.after.any λe=>Region.binds .any e&&eF i e.on&&(cp e.on i||match ops[e.on]? with|some p=>kD ops n p i|none=>ai)
def ajr(ops:Array bx)(j:Nat):Bool:=match ops[j]? with|some o=>(hg j).all λq=>kD ops 12 o q|none=>ai
def rY(ops:Array bx):Nat->Nat|0=>0|n+1=>match ajr ops n with|true=>rY ops n|false=>n+1
def fa(n:Nat)(p:Nat->Bool):Array Bool:=((hg n).map p).toArray
def vD(a:Nat)(l:U Nat):Bool:=l.all λb=> !Nat.beq a b
def JY(ops:Array bx)(e:Nat)(c:Bool):Bool:=match ops[e]?,ops[e+1]?,ops[e+2]? with
 |some ra,J nr,J hQ=>match nr.op,hQ.op,ra.dst,nr.dst,hQ.dst with
  |.indexAddr _ (.tmp a) i,.store _ (.tmp b) y,J d,J d2,aj=>ra.guard.isNone&&nr.guard.isNone&&hQ.guard.isNone&&cp a d&&cp b d2 && !Nat.beq d d2&&lk i d&&lk y d&&lk y d2&&match c with
   |false=>match ops[e+3]? with
    |some os=>match os.op,os.dst with|.store _ (.tmp k) (.tmp q),aj=>os.guard.isNone&&cp q d&&vD k [d,d2]|_,_=>ai
    |none=>ai
   |true=>match ops[e+3]?,ops[e+4]?,ops[e+5]? with
    |some on,J of,J os=>match on.op,of.op,os.op,on.dst,of.dst,os.dst with|.nilCheck (.tmp k),.fieldAddr _ (.tmp f1) _,.store _ (.tmp p) (.tmp q),J fx,J kf,aj=>on.guard.isNone&&of.guard.isNone&&os.guard.isNone&&cp f1 fx&&cp p kf&&cp q d&&vD k [d,d2,fx,kf]&&vD fx [d,d2,kf]&&vD kf [d,d2]&&lk y fx&&lk y kf|_,_,_,_,_,_=>ai
    |_,_,_=>ai
  |_,_,_,_,_=>ai
 |_,_,_=>ai
def pb(ops:Array bx)(e:Nat)(a:Bool):Bool:=Region.noSelect ops&&((hg ops.size).all λj=>eU j e||match ops[j]? with
  |some o=>(hg e).all λq=>kD ops 12 o q
  |none=>ab) && iB .any ops (fa ops.size λi=>eU i e) == [e] && (iB .any ops (fa ops.size λi=>eF i e)).contains (e+1)&&Region.free .any ops (fa ops.size λi=>eF i e) (e+1) && (iB .any ops (fa ops.size λ_=>ab)).isEmpty && match a with
 |false=>cp ops.size (e+4)&&(iB .any ops (fa ops.size λi=>eF i (e+1))).contains (e+2) && iB .any ops (fa ops.size λi=>eF i (e+2)) == [e+3] && iB .any ops (fa ops.size λi=>eF i (e+1)||cp i (e+3)) == [e+2]
 |true=>cp ops.size (e+6)&&(iB .any ops (fa ops.size λi=>eF i (e+1))).contains (e+3)&&Region.free .any ops (fa ops.size λi=>eF i (e+1)) (e+3) && (iB .any ops (fa ops.size λi=>eF i (e+1)||cp i (e+3))).contains (e+4)&&Region.free .any ops (fa ops.size λi=>eF i (e+1)||cp i (e+3)) (e+4) && (iB .any ops (fa ops.size λi=>eF i (e+1)||cp i (e+3)||cp i (e+4))).contains (e+2) && iB .any ops (fa ops.size λi=>eF i (e+4)) == [e+5] && iB .any ops (fa ops.size λi=>eF i (e+1)||cp i (e+3)||cp i (e+4)||cp i (e+5)) == [e+2]
def J7(ops:Array bx)(e:Nat)(a:Bool):Bool:=JY ops e a&&pb ops e a
def Dz(ops:Array bx):ae (Nat×Bool):=match eF 4 ops.size&&J7 ops (ops.size-4) ai with
 |true=>J (ops.size-4,ai)
 |false=>match eF 6 ops.size&&J7 ops (ops.size-6) ab with|true=>J (ops.size-6,ab)|false=>aj
def lb(ops:Array bx):Nat:=match cp (rY ops ops.size) 0 with
 |true=>0
 |false=>match Dz ops with|some p=>p.1|none=>rY ops ops.size
def RA(ops:Array bx)(e:Nat)(a:Bool):ae Nat:=match ops[match a with|true=>e+3|false=>e+3]? with
 |some o=>match o.op with|.nilCheck (.tmp k)=>J k|.store _ (.tmp k) _=>J k|_=>aj
 |none=>aj
def GK(px:aR R)(os:Array bx)(st:bw):Bool:=match cp (rY os os.size) 0 with
 |true=>ab
 |false=>match Dz os with
  |some (e,fr)=>match RA os e fr,os[e]?,os[e+1]?,os[e+2]? with
   |some k,J ra,J nr,J hQ=>(wJ px ra nr hQ st).isSome&&(match get st.env k with
    |some (.ptr b _)=>match bF st.au b with|some (.cells _)=>ab|some (.box _ _)=>ab|_=>ai
    |_=>ai)
   |_,_,_,_=>ai
  |none=>ab
def y6:D->ae Nat|.ptr b _=>J b|.qd b _ _ _=>J b|.oG b _ _=>J b|_=>aj
def R0(o:bx):ae Nat:=match o.op with|.load _ (.tmp k)=>J k|_=>aj
def DG(ops:Array bx)(i j:Nat):Bool:=match eU i j with
 |true=>match ops[j]? with|some o=>kD ops 12 o i|none=>ai
 |false=>match ops[i]? with|some o=>cp i j||kD ops 12 o j|none=>ai
def ada(ops:Array bx)(k dU a:Nat):Bool:=(hg a).all λq=>eU q dU||match ops[q]? with
 |some o=>match o.dst with|some d=> !Nat.beq d k|none=>ab
 |none=>ab
def SQ(ops:Array bx)(T i:Nat)(env:Env)(ws:U Nat):Bool:=(hg T).all λj=>match ops[j]? with
 |some a=>match R0 a with
  |some k=>DG ops i j||(ada ops k (min i j) (max i j)&&match get env k with
   |some d=>match y6 d with|some b=> !ws.contains b|none=>ab
   |none=>ai)
  |none=>ab
 |none=>ab
def Ar(px:aR R)(all:Array bx)(T i:Nat)(o:bx)(st:bw)(K:bw->ae R):ae R:=match o.dst with
 |some d=>match eU d st.n with
  |true=>RB px o st λv ws aS=>match ws.isEmpty||SQ all T i st.env ws with|true=>K (aS.put d v)|false=>aj
  |false=>aj
 |none=>match SQ all T i st.env (Vs px o st)with|true=>uq px o st K|false=>aj
def ajM(px:aR R)(all:Array bx)(T i:Nat)(o:bx)(st:bw)(K:bw->ae R):ae R:=match o.guard with
 |none=>Ar px all T i o st K
 |some (j,b)=>match(all[j]?).bind (·.dst)with
  |none=>aj
  |some g=>match get st.env g with
   |some (.bool x)=>cond x (match b with
      |true=>Ar px all T i o (st.put g (.bool ab)) K
      |false=>K (off o (st.put g (.bool ab)))) (match b with
      |false=>Ar px all T i o (st.put g (.bool ai)) K
      |true=>K (off o (st.put g (.bool ai))))
   |some .undef=>K (off o st)
   |_=>aj
def Ap(px:aR R)(all:Array bx)(T:Nat):Nat->U bx->bw->(bw->ae R)->ae R|_,[],st,K=>K st|i,o::l,st,K=>ajM px all T i o st λaS=>Ap px all T (i+1) l aS K
def ll(px:aR R):Code->bw->(aX->bw->ae R)->ae R
 |.skip,st,K=>K .normal st
 |.region _ os x4,st,K=>match x4 with
  |false=>ops px os os.toList st (K .normal)
  |true=>Ap px os (lb os) 0 (os.toList.take (lb os)) st λaS=>match GK px os aS with|true=>ops px os (os.toList.drop (lb os)) aS (K .normal)|false=>aj
 |.seq a b,st,K=>ll px a st λe aS=>match e with|.normal=>ll px b aS K|e=>K e aS
 |.cond c a b,st,K=>match aJ px st 0 c with|some (.bool x)=>cond x (ll px a st K) (ll px b st K)|_=>aj
 |.block id b,st,K=>ll px b st λe aS=>match e with
  |.exit i=>match cp i id with|true=>K .normal aS|false=>K e aS
  |e=>K e aS
 |.loop b,st,K=>px.loop b st K
 |.exit id,st,K=>K (.exit id) st
 |.scope b,st,K=>ll px b st K
 |.label _,st,K=>K .normal st
 |.ret,st,K=>K .ret st
 |_,_,_=>aj
def gf:Nat->U D->Env|_,[]=>[]|i,v::vs=>(i,v)::gf (i+1) vs
def results(px:aR R)(st:bw):U ResultVar->ae (U D)
 |[]=>J []
 |.tmp t::l=>match get st.env t,results px st l with|some d,J az=>J (d::az)|_,_=>aj
 |.cell a t::l=>match get st.env a with
  |some p=>match(px.a1 t).known,load px st (px.a1 t) p,results px st l with|true,J d,J az=>J (d::az)|_,_,_=>aj
  |none=>aj
def hS(n:Nat)(cj:U cA)(x:aw cj):bw:=⟨n,gf 0 (eK 0 cj x),0,0,[],[],0,dw 0 cj,I cj⟩
def As(au:U (Nat×dW))(d:D)(K:D->U (Nat×dW)->ae R):ae R:=match d with
 |.h3 b c s n=>match bF au b with
  |some (.dyn dT xs)=>match aa (c=dT)with|true=>ax (aa (0<=s)&&aa (0<=n)&&aa (s+n<=(I xs:Int))) (K (.sl dT (cut xs s (s+n)) .no) (fM au b))|false=>aj
  |_=>aj
 |d=>K d au
def Kr(au:U (Nat×dW)):U D->(U D->U (Nat×dW)->ae R)->ae R|[],K=>K [] au|d::az,K=>As au d λe a=>Kr a az λb c=>K (e::b) c
def Ay(au:U (Nat×dW))(d:D)(K:D->U (Nat×dW)->ae R):ae R:=match d with|.agg az=>Kr au az λa b=>K (.agg a) b|d=>As au d K
def Kj(au:U (Nat×dW)):U D->(U D->U (Nat×dW)->ae R)->ae R|[],K=>K [] au|d::az,K=>Ay au d λe a=>Kj a az λb c=>K (e::b) c
def qk:U cA->bw->U D->(U D->bw->ae R)->ae R
 |.sl _ ab::b3,st,.h3 b c s n::az,K=>match bF st.au b with
  |some (.dyn dT xs)=>match aa (c=dT)with
   |true=>ax (aa (s=0)&&aa (0<n)&&aa (n<=(I xs:Int))) (qk b3 (lf { st with au:=fM st.au b }) az λa aS=>K (.sl dT (xs.take n.toNat) (.id st.bu)::a) aS)
   |false=>aj
  |_=>aj
 |_::b3,st,d::az,K=>Ay st.au d λf e=>qk b3 { st with au:=e } az λa aS=>K (f::a) aS
 |[],st,[],K=>K [] st
 |_,_,_,_=>aj
def DT(px:aR R)(fn:Func)(cj b3:U cA)(x:aw cj)(fin:aw b3->ae R):ae R:=match fn.body with
 |some c=>ll px c (hS fn.ntmps cj x) λe st=>match e with
  |.exit _=>aj
  |_=>match results px st fn.results.toList with
   |some rs=>qk b3 st rs λa aS=>match mc b3 aS.bh a with|some r=>fin r|none=>aj
   |none=>aj
 |none=>aj
def w0:cA->Bool|.int _|.bool|.str=>ab|_=>ai
def zT(cj b3:U cA)(F:aw cj->ae (aw b3))(args:U D)(st:bw)(K:U D->bw->ae R):ae R:=Kj st.au args λa b=>match mc cj st.bh a with
 |some x=>(F x).bind λr=>K (eK st.bu b3 r) { st with au:=(match b3.all w0 with|true=>st.au|false=>b),bh:=dw st.bu b3++st.bh,bu:=st.bu+I b3 }
 |none=>aj
def Kv:cl->Bool|.byte|.int|.u64|.str|.bool|.val|.tok|.b2|.gz|.pair=>ab|_=>ai
def Dc(cj b3:U cA)(F:aw cj->ae (aw b3))(args:U D)(K:U D->ae R):ae R:=match mc cj [] args with|some x=>(F x).bind λr=>K (eK 0 b3 r)|none=>aj
def GS(px:aR R)(fn:Func)(args:U D)(st:bw)(K:U D->bw->ae R):ae R:=match fn.body with
 |some c=>ll px c { st with n:=fn.ntmps,env:=gf 0 args,c7:=st.nb,lt:=st.bu,cx:=⟨st.n,st.env,st.c7,st.lt⟩::st.cx } λe aS=>match e with
  |.exit _=>aj
  |_=>match results px aS fn.results.toList,aS.cx with
   |some rs,f::cx=>K rs { aS with n:=f.n,env:=f.env,c7:=f.c7,lt:=f.lt,cx:=cx }
   |_,_=>aj
 |none=>aj
inductive h9 where
 |cells (l:List cA)
 |one (s:cA)
 |fb (t:Nat)
 |i' (az:List D)
 |hQ (l:List cA) (b:Nat) (c:cl)
def h9.cF:h9->U cA|.cells l=>l|.one s=>[s]|.fb _=>[.sl .byte ab]|.i' _=>[]|.hQ l _ _=>l++[.int .i64,.int .i64]
def Au:dW->D|.cells az=>.agg az|.box c y=>.bm c y|.row c n xs=>.rw c n xs|.dyn c xs=>.fx c xs|.fb _ d=>d
structure bn where
 n:Nat
 vars:List (Nat×cA)
 fix:List (Nat×D)
 au:List (Nat×h9)
 nb:Nat
 c7:Nat
 lt:Nat
 bh:List Nat
 lR:List (Nat×Nat×cl):=[]
def uF:U (Nat×Nat×cl)->U cA|[]=>[]|_::l=>.int .i64 :: .int .i64::uF l
def bn.cF(s:bn):U cA:=s.vars.map (·.2)++((s.au.map (·.2.cF)).flatten++uF s.lR)
def qU(env:Env):U (Nat×cA)->ae (U D)|[]=>J []|(k,_)::l=>match get env k,qU env l with|some d,J az=>J (d::az)|_,_=>aj
def BS:U D->U D->Bool|[],[]=>ab|.ptr b o::l,.ptr cu dq::m=>cp b cu&&cp o dq&&BS l m|_,_=>ai
def zC:U D->U D->Bool|[],[]=>ab|.str a::l,.str b::m=>aa (a=b)&&zC l m|_,_=>ai
def C1:D->D->Bool|.ptr b o,.ptr cu dq=>cp b cu&&cp o dq|.fn f cs,.fn gI cs'=>cp f gI&&BS cs cs'|.hB f cs,.hB gI cs'=>cp f gI&&BS cs cs'|.oI g,.oI g'=>cp g g'|.n8,.n8=>ab|.agg l,.agg m=>zC l m|_,_=>ai
def BI:U D->U D->Bool|[],[]=>ab|a::l,b::m=>C1 a b&&BI l m|_,_=>ai
def yM:Nat->Nat->cl->U D->ae (U D)
 |0,b,c,[.h3 cu dT s n]=>match cp cu b&&aa (dT = c)with|true=>J [.int .i64 s,.int .i64 n]|false=>aj
 |k+1,b,c,d::az=>match yM k b c az with|some a=>J (d::a)|none=>aj
 |_,_,_,_=>aj
def rC:Nat->Nat->cl->U D->U D|0,b,c,.int _ s :: .int _ n::_=>[.h3 b c s n]|k+1,b,c,d::az=>d::rC k b c az|_,_,_,_=>[]
def jt(au:U (Nat×dW)):U (Nat×h9)->ae (U D)
 |[]=>J []
 |(b,.cells l)::r=>match bF au b,jt au r with
  |some (.cells az),J es=>match cp (I az) (I l) with|true=>J (az++es)|false=>aj
  |_,_=>aj
 |(b,.one _)::r=>match bF au b,jt au r with|some (.fb _ _),_=>aj|some k,J es=>J (Au k::es)|_,_=>aj
 |(b,.fb t)::r=>match bF au b,jt au r with
  |some (.fb t' d),J es=>match cp t' t with|true=>J (d::es)|false=>aj
  |_,_=>aj
 |(b,.i' az)::r=>match bF au b,jt au r with
  |some (.cells a),J es=>match BI az a with|true=>J es|false=>aj
  |_,_=>aj
 |(b,.hQ l dC c)::r=>match bF au b,jt au r with
  |some (.cells az),J es=>match yM (I l) dC c az with|some a=>J (a++es)|none=>aj
  |_,_=>aj
def vl(env:Env):U (Nat×Nat×cl)->ae (U D)
 |[]=>J []
 |(k,b,c)::l=>match get env k,vl env l with
  |some (.h3 cu dT s n),J az=>match cp cu b&&aa (dT = c)with|true=>J (.int .i64 s :: .int .i64 n::az)|false=>aj
  |_,_=>aj
def J1(env:Env):U (Nat×D)->Bool|[]=>ab|(k,d)::l=>match get env k with|some a=>C1 d a&&J1 env l|none=>ai
def l8:U Nat->U Nat->Bool|[],[]=>ab|a::l,b::m=>cp a b&&l8 l m|_,_=>ai
def nW(s:bn)(st:bw):ae (aw s.cF):=match qU st.env s.vars,jt st.au s.au,vl st.env s.lR,J1 st.env s.fix&&cp st.n s.n&&cp st.c7 s.c7&&cp st.lt s.lt&&s.bh.all (λt=>eU t s.lt&&st.bh.contains t)with|some a,J b,J o,ab=>mc s.cF (st.bh.filter λt=> !s.bh.contains t) (a++(b++o))|_,_,_,_=>aj
def uC:U (Nat×cA)->U D->Env×U D
 |(k,_)::l,d::az=>match uC l az with|(e,r)=>((k,d)::e,r)
 |_,r=>([],r)
def alV:D->dW|.bm c y=>.box c y|.rw c n xs=>.row c n xs|.fx c xs=>.dyn c xs|d=>.cells (cells d)
def fG:U (Nat×h9)->U D->U (Nat×dW)|[],_=>[]|(b,.cells l)::r,az=>(b,.cells (az.take (I l)))::fG r (az.drop (I l))|(b,.one _)::r,d::az=>(b,alV d)::fG r az|(b,.one _)::r,[]=>(b,.cells [])::fG r []|(b,.fb t)::r,d::az=>(b,.fb t d)::fG r az|(b,.fb _)::r,[]=>(b,.cells [])::fG r []|(b,.i' l)::r,az=>(b,.cells l)::fG r az|(b,.hQ l dC c)::r,az=>(b,.cells (rC (I l) dC c az))::fG r (az.drop (I l+2))
def sQ:U (Nat×Nat×cl)->U D->Env|(k,b,c)::l,.int _ s :: .int _ n::az=>(k,.h3 b c s n)::sQ l az|_,_=>[]
def iF(s:bn)(cx:U Fr)(x:aw s.cF):bw:=match uC s.vars (eK s.lt s.cF x)with|(e,r)=>⟨s.n,e++(s.fix++sQ s.lR (r.drop (I ((s.au.map (·.2.cF)).flatten)))),s.c7,s.lt,cx,fG s.au r,s.nb,dw s.lt s.cF++s.bh,s.lt+I s.cF⟩
def aI{V:Type}(step:(V->ae R)->V->ae R):Nat->V->ae R|0,_=>aj|n+1,v=>step (aI step n) v
abbrev rF(V R:Type):=(V->ae R)->(aX->V->ae R)->V->ae R
def q6(px:aR R)(s:bn)(b:Code)(cx:U Fr):rF (aw s.cF) R:=λrec kx v=>ll px b (iF s cx v) λe st=>match nW s st with
 |some a=>match e with|.normal=>rec a|e=>kx e a
 |none=>aj
def b8(k:Nat)(s:bn)(step:rF (aw s.cF) R)(st:bw)(K:aX->bw->ae R):ae R:=match nW s st with|some v=>aI (λrec=>step rec (λe a=>K e (iF s st.cx a))) k v|none=>aj
def ajY(a:aR R)(b:Code)(st:bw)(K:aX->bw->ae R):ae R:=ll a b st λe aS=>match e with|.normal=>aj|e=>K e aS
def SK(a:aR R)(b:Code)(k:Nat)(s:bn)(step:rF (aw s.cF) R)(st:bw)(K:aX->bw->ae R):ae R:=match nW s st with|some _=>b8 k s step st K|none=>ajY a b st K
def Fs:Code->Nat|.region id _ _=>id|.seq a _=>Fs a|.block _ b=>Fs b|.loop b=>Fs b|.scope b=>Fs b|_=>0
end
def jg:Code->U Code|.seq a b=>jg a++jg b|.cond _ a b=>jg a++jg b|.block _ b=>jg b|.loop b=>b::jg b|.scope b=>jg b|_=>[]
def b0(fn:Func)(i:Nat):Code:=match fn.body with|some c=>(jg c).getD i .skip|none=>.skip
open Go.RowKit
abbrev hn:=Nat->Nat->Prop
structure bM (S:hn) (w w':aT):Prop where
 os:w'.os=w.os
 tape:w'.tape=w.tape
 output:w'.output=w.output
 size:w.heap.size<=w'.heap.size
 block:∀k,k<w.heap.size->(∀i,¬S k i)->w'.heap[k]? = w.heap[k]?
 cell:∀b i v,w.cell? ⟨b,i,aj⟩=J v->¬S b i->w'.cell? ⟨b,i,aj⟩=J v
 shape:∀(b:Nat) (cs:Array aD) (t:bD) (f:Nat×Nat),w.heap[b]? = J (.cells cs t f)->∃cs' gI,w'.heap[b]? = J (.cells cs' t gI)/\cs'.size=cs.size
variable{w:aT}
theorem zv{b i:Nat}{v:aD}(h:w.cell? ⟨b,i,aj⟩=J v):b<w.heap.size:=aT.block_lt_of_cell? w ⟨b,i,aj⟩ h
theorem bM.refl(S:hn)(w:aT):bM S w w:=⟨rfl,rfl,rfl,bU _,λ_ _ _=>rfl,λ_ _ _ h _=>h,λ_ cs _ f h=>⟨cs,f,h,rfl⟩⟩
variable{a:aT}
theorem bM.later{S T:hn}{b c:aT}(h:bM S a b)(m:∀k i,T k i->S k i\/a.heap.size<=k)(k:bM T b c):bM S a c:=by
 refine⟨k.os.trans h.os,k.tape.trans h.tape,k.output.trans h.output,fV h.size k.size,λq d e=>?_,λq i v g e=>?_,λq cs t f d=>by obtain⟨c1,f1,n,o⟩:=h.shape q cs t f d;obtain⟨c2,p,r,s⟩:=k.shape q c1 t f1 n;exact⟨c2,p,r,s.trans o⟩⟩
 .rw[k.block q (iv d h.size) (λi j=>?_)]
  .exact h.block q d e
  .grind
 .refine k.cell q i v (h.cell q i v g e) λj=>?_;rcases m q i j with l|l
  .exact e l
  .have:=zv g;omega
theorem bM.trans{S:hn}{b c:aT}(h:bM S a b)(k:bM S b c):bM S a c:=h.later (λ_ _ h=>.inl h) k
theorem bM.mono{S T:hn}{b:aT}(h:bM S a b)(d:∀k i,S k i->T k i):bM T a b:=⟨h.os,h.tape,h.output,h.size,λk e c=>h.block k e (λi hm=>c i (d k i hm)),λb i v f c=>h.cell b i v f (λhm=>c (d b i hm)),h.shape⟩
def fE:hn:=λ_ _=>False
variable{w':aT}
theorem bM.Cx{S:hn}(c:w'.os=w.os)(e:w'.tape=w.tape)(g:w'.output=w.output)(j:w.heap.size<=w'.heap.size)(al:∀k,k<w.heap.size->w'.heap[k]? = w.heap[k]?):bM S w w':=⟨c,e,g,j,λk l _=>al k l,λb i v d _=>by rw[aT.cell?_of_block (a:=⟨b,i,aj⟩) (al b (zv d))];exact d,λb cs t f h=>⟨cs,f,by rw[al b (hZ.1 h).1];exact h,rfl⟩⟩
theorem YG(w:aT)(a:Addr)(v:aD):∀(b:Nat) (cs:Array aD) (t:bD) (f:Nat×Nat),w.heap[b]? = J (.cells cs t f)->∃cs' gI,(w.setCell a v).heap[b]? = J (.cells cs' t gI)/\cs'.size=cs.size:=λb cs t f h=>by
 by_cases al:b=a.block
 .subst al;refine⟨if a.spot.isSome then cs else cs.setIfInBounds a.off v,f,?_,by split<;>simp⟩;simp[aT.setCell,Array.getElem?_modify,h]
 .exact⟨cs,f,by rw[Below.heap_setCell _ _ _ _ al];exact h,rfl⟩
theorem bM.drew(S:hn)(w:aT):bM S w w.drew:=.Cx rfl rfl rfl (bU _) λ_ _=>rfl
theorem bM.drawn(S:hn)(w:aT)(n:Nat):bM S w { w with drawn:=n }:=.Cx rfl rfl rfl (bU _) λ_ _=>rfl
theorem bM.alloc(S:hn)(w:aT)(o:Obj):bM S w (w.alloc o):=.Cx rfl rfl rfl (by simp) λk a=>Below.heap_alloc _ _ _ a
theorem bM.below(h:bM fE w w'):Below w.heap.size w w':=⟨h.os,h.tape,h.output,h.size,λk a=>h.block k a (λ_ h=>h)⟩
theorem bM.UU{S:hn}(h:Below w.heap.size w w'):bM S w w':=.Cx h.os h.tape h.output h.size h.block
theorem k5(c:cl)(x:dy c):I (enc c x)=a8 c:=by cases c<;>rfl
theorem I9(c:cl) : 0<a8 c:=by cases c<;>simp[a8]
inductive jj (w:aT):D->aD->Prop
 |int (k:df) (n:Int):hY k n=ab->jj w (.int k n) (.int k n)
 |bool (b:Bool):jj w (.bool b) (.bool b)
 |str (l:ak):I l<=dr->jj w (.str l) (.string ⟨l.toArray⟩)
 |nil (c:cl) (t:l') (a:Option Addr) (cap:Nat):jj w (.sl c [] t) (.slice a 0 cap)
 |sl (c:cl) (xs:List (dy c)) (t:l') (b o cap:Nat) (u:Nat->aD) (hle:I xs<=cap) (hm:cap<=dr)
   (ao:∀i x j d,xs[i]? = J x->(enc c x)[j]? = J d->w.cell? ⟨b,o+(i*a8 c+j),aj⟩=J (u (i*a8 c+j)))
   (h:∀i x j d,xs[i]? = J x->(enc c x)[j]? = J d->jj w d (u (i*a8 c+j))):jj w (.sl c xs t) (.slice (J ⟨b,o,aj⟩) (I xs) cap)
def gl(S:hn)(w:aT)(d:D)(v:aD):Prop:=∀w',bM S w w'->jj w' d v
theorem gl.here{S:hn}{d:D}{v:aD}(h:gl S w d v):jj w d v:=h w (bM.refl S w)
theorem gl.later{S T:hn}{d:D}{v:aD}(h:gl S w d v)(ao:bM S w w')(c:∀k i,T k i->S k i\/w.heap.size<=k):gl T w' d v:=λa b=>h a (ao.later c b)
variable{c:cl}{t:l'}{xs:U (dy c)}
theorem jj.tok{v:aD}(h:jj w (.sl c xs t) v)(t':l'):jj w (.sl c xs t') v:=by cases h with|nil c t a cap=>exact .nil c t' a cap|sl c xs t b o cap u hle hm ao h=>exact .sl c xs t' b o cap u hle hm ao h
def ob(w:aT)(c:cl)(x:dy c)(b o:Nat):Prop:=∀j d,(enc c x)[j]? = J d->∃u,w.cell? ⟨b,o+j,aj⟩=J u/\jj w d u
theorem jj.slice{v:aD}(h:jj w (.sl c xs t) v) :
  ∃a cap,v = .slice a (I xs) cap/\(xs=[]\/∃b o,a=J ⟨b,o,aj⟩/\(I xs<=cap/\cap<=dr)/\∀i x,xs[i]? = J x->ob w c x b (o+i*a8 c)):=by
 cases h with|nil c t a cap=>simp_all|sl c xs t b o cap u hle hm ao h=>refine⟨_,cap,rfl,.inr ⟨b,o,rfl,⟨hle,hm⟩,λi x ag j d ar=>⟨u (i*a8 c+j),?_,h i x j d ag ar⟩⟩⟩;rw[Nat.add_assoc];exact ao i x j d ag ar
theorem jj.mkSlice{b o cap:Nat}(hle:I xs<=cap/\cap<=dr)(h:∀i x,xs[i]? = J x->ob w c x b (o+i*a8 c)):jj w (.sl c xs t) (.slice (J ⟨b,o,aj⟩) (I xs) cap):=by
 have key:∀i x j d,xs[i]? = J x->(enc c x)[j]? = J d->∃u,w.cell? ⟨b,o+(i*a8 c+j),aj⟩=J u/\jj w d u:=λi x j d ag ar=>by have:=h i x ag j d ar;rwa[Nat.add_assoc]at this
 refine .sl c xs t b o cap (λk=>(w.cell? ⟨b,o+k,aj⟩).getD default) hle.1 hle.2 (λi x j d ag ar=>?_) (λi x j d ag ar=>?_)
 .grind
 .grind
theorem jj.aD8{v:aD}{a:ae Addr}{cap:Nat}(d:v = .slice a (I xs) cap)(h:xs=[]\/∃b o,a=J ⟨b,o,aj⟩/\(I xs<=cap/\cap<=dr)/\∀i x,xs[i]? = J x->ob w c x b (o+i*a8 c)):jj w (.sl c xs t) v:=by
 rcases h with rfl|⟨b,o,rfl,hle,h⟩
 .subst d;exact .nil c t a cap
 .subst d;exact .mkSlice hle h
theorem jj.len{v:aD}(h:jj w (.sl c xs t) v):I xs<=maxLen:=by
 obtain⟨_,_,_,rfl|⟨_,_,_,h,_⟩⟩:=h.slice
 .simp
 .omega
def J0(l:U (Int×ak))(es:U MapEntry):Prop:=∀n,I (lM l n)<=dr/\((Instr.findNow (.int .i64) (.int .i64 n) es 0=J aj/\lM l n=[])\/∃i,Instr.findNow (.int .i64) (.int .i64 n) es 0=J (J (i,.string ⟨(lM l n).toArray⟩)))
structure ed where
 au:Nat->Nat
 bh:Nat->Option (Nat×Nat)
structure dn where
 m:ed
 bJ:Nat->Prop
 S:hn
 w:aT
 nb:Nat
 bu:Nat
 el:cl->bD
def aCh(x:dn)(t:Nat)(c:cl)(xs:U (dy c))(v:aD):Prop:=(v = .slice aj 0 0/\x.m.bh t=aj/\xs=[])\/∃g cap cur,v = .slice (J ⟨g,0,aj⟩) (I xs) cap/\x.m.bh t=J (g,I xs*a8 c)/\x.w.heap[g]? = J (.cells cur (x.el c) (0,0))/\cur.size=cap*a8 c/\I xs<=cap/\cap<=dr
def vm(x:dn)(c:cl)(xs:U (dy c))(v:aD):l'->Prop|.no=>True|.nil=>v = .slice aj 0 0/\xs=[]|.id t=>t<x.bu/\(x.bJ t->aCh x t c xs v)|.z=>xs=[]/\∃a,v = .slice a 0 0
mutual
def aG(x:dn):D->aD->Prop|.bool b,v=>v = .bool b|.int k n,v=>v = .int k n/\hY k n=ab|.str l,v=>v = .string ⟨l.toArray⟩/\I l<=dr|.sl c xs t,v=>gl x.S x.w (.sl c xs .no) v/\vm x c xs v t|.bm c y,v=>fv c=ab/\∃vs:U aD,v = .agg vs.toArray/\I vs=a8 c/\∀(j:Nat) d,(enc c y)[j]? = J d->∃u,vs[j]? = J u/\gl x.S x.w d u|.lo c y off,v=>∃b o,v = .pointer (J ⟨b,o+off,aj⟩)/\∀w',bM x.S x.w w'->ob w' c y b o|.ptr b off,v=>b<x.nb/\v = .pointer (J ⟨x.m.au b,off,aj⟩)|.n8,v=>v = .pointer aj|.oI g,v=>v = .pointer (J ⟨g,0,aj⟩)|.F4 l,v=>∃r es e,v = .map (J r)/\(∀w',bM x.S x.w w'->w'.heap[r]? = J (.map es e))/\J0 l es.toList|.h3 b c s n,v=>b<x.nb/\0<=s/\0<=n/\s+n<=(dr:Int)/\∃a cap,v = .slice a n.toNat cap/\(n=0\/a=J ⟨x.m.au b,s.toNat*a8 c,aj⟩)/\n.toNat<=cap/\cap<=dr/\∃cur f,x.w.heap[x.m.au b]? = J (.cells cur (x.el c) f)/\cur.size=(s.toNat+cap)*a8 c|.oG b c i,v=>b<x.nb/\v = .pointer (J ⟨x.m.au b,i.toNat*a8 c,aj⟩)/\0<=i|.fx c xs,v=>I xs<=dr/\∃vs:U aD,v = .agg vs.toArray/\I xs*a8 c<=I vs/\∀i y j d,xs[i]? = J y->(enc c y)[j]? = J d->∃u,vs[i*a8 c+j]? = J u/\gl x.S x.w d u|.qd b c n i,v=>b<x.nb/\v = .pointer (J ⟨x.m.au b,i.toNat*a8 c,aj⟩)/\0<=i/\i<(n:Int)|.rw c n xs,v=>I xs=n/\∃vs:U aD,v = .agg vs.toArray/\I vs=I xs*a8 c/\∀i y j d,xs[i]? = J y->(enc c y)[j]? = J d->∃u,vs[i*a8 c+j]? = J u/\gl x.S x.w d u|.fn f nn,v=>∃vs:U aD,v = .func (.func f) #[] vs.toArray/\bl x nn vs|.hB f aB,v=>∃vs:U aD,v = .func (.func f) vs.toArray #[]/\bl x aB vs|.tS,v=>v = .nilFunc|.agg az,v=>az.all e_=ab/\∃vs:U aD,v = .agg vs.toArray/\bl x az vs|.sB az,v=>∃vs:U aD,v = .tuple vs.toArray/\bl x az vs|.undef,v=>v = .tuple #[]|.tP,_=>True
def bl(x:dn):U D->U aD->Prop|[],vs=>vs=[]|d::az,vs=>∃u us,vs=u::us/\aG x d u/\bl x az us
end
structure fI (x x':dn):Prop where
 fw:bM x.S x.w x'.w
 dZ:∀b i,x'.S b i->x.S b i\/x.w.heap.size<=b
 el:x'.el=x.el
 au:∀b,b<x.nb->x'.m.au b=x.m.au b
 nb:x.nb<=x'.nb
 bu:x.bu<=x'.bu
 bh:∀t,t<x.bu->x'.bJ t->x.bJ t/\x'.m.bh t=x.m.bh t/\∀g o,x.m.bh t=J (g,o)->x'.w.heap[g]? = x.w.heap[g]?
variable{x:dn}{x':dn}
theorem fI.rf(h:fI x x'){d:D}{v:aD}(a:gl x.S x.w d v):gl x'.S x'.w d v:=a.later h.fw h.dZ
theorem vm.later(h:fI x x'){v:aD}(e:vm x c xs v t):vm x' c xs v t:=by
 cases t with
 |no=>trivial
 |nil=>exact e
 |z=>exact e
 |id t=>
  obtain⟨f,e⟩:=e;refine⟨iv f h.bu,λj=>?_⟩;obtain⟨k,i,l⟩:=h.bh t f j;rcases e k with ⟨a,b,c⟩|⟨g,cap,cur,a,b,c,d⟩
  .exact .inl ⟨a,i.trans b,c⟩
  .refine .inr ⟨g,cap,cur,a,i.trans b,?_,d⟩;rw[l g _ b,h.el];exact c
mutual
theorem aG.later{x x':dn}(h:fI x x'):∀(d:D) (v:aD),aG x d v->aG x' d v
 |.bool _,_,e=>by simpa[aG]using e
 |.int _ _,_,e=>by simpa[aG]using e
 |.str _,_,e=>by simpa[aG]using e
 |.sl c xs t,v,e=>by simp only[aG]at e ⊢;exact⟨h.rf e.1,e.2.later h⟩
 |.bm c y,v,e=>by simp only[aG]at e ⊢;obtain⟨c5,vs,g,k,e⟩:=e;exact⟨c5,vs,g,k,λj d ar=>by obtain⟨u,m,p⟩:=e j d ar;exact⟨u,m,h.rf p⟩⟩
 |.lo c y off,v,e=>by simp only[aG]at e ⊢;obtain⟨b,o,g,e⟩:=e;exact⟨b,o,g,λw' z=>e w' (h.fw.later h.dZ z)⟩
 |.ptr b off,v,e=>by simp only[aG]at e ⊢;exact⟨iv e.1 h.nb,by rw[h.au b e.1];exact e.2⟩
 |.n8,_,e=>by simpa[aG]using e
 |.oI _,_,e=>by simpa[aG]using e
 |.F4 l,v,e=>by simp only[aG]at e ⊢;obtain⟨r,es,a2,g,q,aZ⟩:=e;exact⟨r,es,a2,g,λw' z=>q w' (h.fw.later h.dZ z),aZ⟩
 |.h3 b c s n,v,e=>by simp only[aG]at e ⊢;obtain⟨q,aZ,bg,cB,a,cap,dE,eI,jJ,j0,cur,f,vI,a3⟩:=e;obtain⟨w,gI,g1,g2⟩:=h.fw.shape _ _ _ _ vI;exact⟨iv q h.nb,aZ,bg,cB,a,cap,dE,by rw[h.au b q];exact eI,jJ,j0,w,gI,by rw[h.au b q,h.el];exact g1,g2.trans a3⟩
 |.oG b c i,v,e=>by simp only[aG]at e ⊢;exact⟨iv e.1 h.nb,by rw[h.au b e.1];exact e.2⟩
 |.fx c xs,v,e=>by simp only[aG]at e ⊢;obtain⟨ck,vs,g,k,e⟩:=e;exact⟨ck,vs,g,k,λi y j d aE ar=>by obtain⟨u,m,p⟩:=e i y j d aE ar;exact⟨u,m,h.rf p⟩⟩
 |.qd b c n i,v,e=>by simp only[aG]at e ⊢;exact⟨iv e.1 h.nb,by rw[h.au b e.1];exact e.2⟩
 |.rw c n xs,v,e=>by simp only[aG]at e ⊢;obtain⟨ck,vs,g,k,e⟩:=e;exact⟨ck,vs,g,k,λi y j d aE ar=>by obtain⟨u,m,p⟩:=e i y j d aE ar;exact⟨u,m,h.rf p⟩⟩
 |.fn f nn,v,e=>by simp only[aG]at e ⊢;obtain⟨vs,g,e⟩:=e;exact⟨vs,g,bl.later h nn vs e⟩
 |.hB f aB,v,e=>by simp only[aG]at e ⊢;obtain⟨vs,g,e⟩:=e;exact⟨vs,g,bl.later h aB vs e⟩
 |.tS,_,e=>by simpa[aG]using e
 |.agg az,v,e=>by simp only[aG]at e ⊢;obtain⟨k,vs,g,e⟩:=e;exact⟨k,vs,g,bl.later h az vs e⟩
 |.sB az,v,e=>by simp only[aG]at e ⊢;obtain⟨vs,g,e⟩:=e;exact⟨vs,g,bl.later h az vs e⟩
 |.undef,_,e=>by simpa[aG]using e
 |.tP,_,_=>by simp[aG]
theorem bl.later{x x':dn}(h:fI x x'):∀(az:U D) (vs:U aD),bl x az vs->bl x' az vs
 |[],_,aF=>by simpa[bl]using aF
 |d::az,vs,aF=>by simp only[bl]at aF ⊢;obtain⟨u,us,a,b,c⟩:=aF;exact⟨u,us,a,aG.later h d u b,bl.later h az us c⟩
end
theorem bl.len:∀{az:U D}{vs:U aD},bl x az vs->I vs=I az
 |[],_,aF=>by simp[bl]at aF;simp[aF]
 |d::az,vs,aF=>by simp[bl]at aF;obtain⟨u,us,rfl,_,a⟩:=aF;simp[bl.len a]
theorem bl.get:∀{az:U D}{vs:U aD},bl x az vs->∀{i:Nat}{d:D},az[i]? = J d->∃v,vs[i]? = J v/\aG x d v
 |[],_,_,i,d,ar=>by simp at ar
 |d0::az,vs,a,i,d,ar=>by simp[bl]at a;obtain⟨u,us,rfl,b,c⟩:=a;cases i with|zero=>simp at ar;subst ar;exact⟨u,by simp,b⟩|succ i=>simp at ar;obtain⟨v,e,a⟩:=bl.get c ar;exact⟨v,by simpa using e,a⟩
theorem bl.mk:∀{az:U D}{vs:U aD},I vs=I az->(∀(i:Nat) d v,az[i]? = J d->vs[i]? = J v->aG x d v)->bl x az vs
 |[],vs,bz,_=>by simp[bl];exact k0 bz
 |d::az,[],bz,_=>by simp at bz
 |d::az,u::us,bz,h=>by simp only[bl];exact⟨u,us,rfl,h 0 d u (by simp) (by simp),bl.mk uM λi d v ar a=>h (i+1) d v Eg w5⟩
theorem bl.append{az es:U D}{vs us:U aD}(h:bl x az vs)(k:bl x es us):bl x (az++es) (vs++us):=by induction az generalizing vs with|nil=>simp[bl]at h;subst h;simpa using k|cons d az a=>simp[bl]at h;obtain⟨u,r,rfl,b,c⟩:=h;simp only[se];exact⟨u,r++us,rfl,b,a c⟩
end Go.ft
namespace Go.av
open Go.RowKit
abbrev Env:=U (Nat×aD)
def Env.get:Env->Nat->ae aD|[],_=>aj|(k,v)::e,n=>match cp k n with|true=>J v|false=>Env.get e n
def Env.aJ(e:Env):cO->ae aD|.tmp t=>Env.get e t|.const v=>J v|.global g=>J (.pointer (J ⟨g,0,aj⟩))|.func f=>J (.func (.func f) #[] #[])
def Env.gH(e:Env):U cO->ae (U aD)
 |[]=>J []
 |x::xs=>match Env.aJ e x with
  |none=>aj
  |some v=>match Env.gH e xs with|none=>aj|some vs=>J (v::vs)
structure jO (n:Nat) (e:Env) (a:Act):Prop where
 defers:a.defers=[]
 size:a.tmps.size=n
 get:∀k v,Env.get e k=J v->a.tmps[k]? = J v
variable{a:Act}{e:Env}{x:cO}
theorem jO.aJ{n:Nat}(h:jO n e a){v:aD}(ag:Env.aJ e x=J v):a.eval x=v:=by cases x with|tmp t=>have:=h.get t v ag;simp[Act.eval,this]|const u=>simpa[Env.aJ,Act.eval]using ag|global g=>simpa[Env.aJ,Act.eval]using ag|func f=>simpa[Env.aJ,Act.eval]using ag
theorem jO.gH{n:Nat}(h:jO n e a):∀{xs:U cO}{vs:U aD},Env.gH e xs=J vs->xs.map a.eval=vs
 |[],vs,ag=>by simp[Env.gH]at ag;simp[ag]
 |x::xs,vs,ag=>by
  simp[Env.gH]at ag;cases b:Env.aJ e x with
  |none=>simp[b]at ag
  |some v=>rw[b]at ag;cases c:Env.gH e xs with|none=>simp[c]at ag|some r=>simp[c]at ag;subst ag;simp[h.aJ b,jO.gH h c]
theorem jO.put{n:Nat}(h:jO n e a){d:Nat}(ar:eU d n=ab)(v:aD):jO n ((d,v)::e) (a.put (J d) v):=by
 have c:d<n:=Eg
 refine⟨by simpa[Act.put]using h.defers,by simpa[Act.put]using h.size,λk u b=>?_⟩;simp[Env.get]at b;cases al:cp d k with
 |true=>
  have f:d=k:=dS al;subst f;simp at b;subst b;have:d<a.tmps.size:=by rw[h.size];exact c
  simp[Act.put,this]
 |false=>
  rw[al]at b;have g:d≠k:=Nat.ne_of_beq_eq_false al;have:=h.get k u b;simp[Act.put]
  grind
structure bM (S:List Nat) (w w':aT):Prop where
 os:w'.os=w.os
 tape:w'.tape=w.tape
 output:w'.output=w.output
 size:w.heap.size<=w'.heap.size
 block:∀k,k<w.heap.size->k∉S->w'.heap[k]? = w.heap[k]?
theorem bM.refl(S:U Nat)(w:aT):bM S w w:=⟨rfl,rfl,rfl,bU _,λ_ _ _=>rfl⟩
theorem bM.trans{S:U Nat}{a b c:aT}(h:bM S a b)(k:bM S b c):bM S a c:=⟨k.os.trans h.os,k.tape.trans h.tape,k.output.trans h.output,fV h.size k.size,λi d e=>(k.block i (iv d h.size) e).trans (h.block i d e)⟩
theorem bM.mono{S T:U Nat}{a b:aT}(h:bM S a b)(c:∀x,x∈S->x∈T):bM T a b:=⟨h.os,h.tape,h.output,h.size,λk d e=>h.block k d (λhm=>e (c k hm))⟩
theorem bM.drew(S:U Nat)(w:aT):bM S w w.drew:=⟨rfl,rfl,rfl,bU _,λ_ _ _=>rfl⟩
theorem bM.drawn(S:U Nat)(w:aT)(n:Nat):bM S w { w with drawn:=n }:=⟨rfl,rfl,rfl,bU _,λ_ _ _=>rfl⟩
theorem bM.alloc(S:U Nat)(w:aT)(o:Obj):bM S w (w.alloc o):=⟨rfl,rfl,rfl,by simp,λk a _=>Below.heap_alloc _ _ _ a⟩
theorem bM.setCell{S:U Nat}(w:aT){p:Addr}(a:p.block∈S)(u:aD):bM S w (w.setCell p u):=⟨rfl,rfl,rfl,by simp,λk _ b=>Below.heap_setCell _ _ _ _ (λe=>b (e▸a))⟩
variable{w:aT}{w':aT}
theorem bM.grown{S:U Nat}{row:ae Nat}(h:w.grownBy w' row)(a:∀k,row=J k->k∈S):bM S w w':=⟨h.os,h.tape,h.output,h.size,λk b c=>h.block k b (λe=>c (a k e.symm))⟩
theorem bM.below(h:bM [] w w'):Below w.heap.size w w':=⟨h.os,h.tape,h.output,h.size,λk a=>h.block k a (by simp)⟩
theorem bM.cell{S:U Nat}(h:bM S w w'){p:Addr}{v:aD}(ao:w.cell? p=J v)(a:p.block∉S):w'.cell? p=J v:=(aT.cell?_of_block (h.block p.block (aT.block_lt_of_cell? w p ao) a)).trans ao
def lj(S:U Nat)(F:aT->Prop)(w:aT):Prop:=∀w',bM S w w'->F w'
variable{F:aT->Prop}
theorem lj.here{S:U Nat}(h:lj S F w):F w:=h w (bM.refl S w)
theorem lj.mono{S T:U Nat}(h:lj T F w)(a:∀x,x∈S->x∈T):lj S F w:=λw' ao=>h w' (ao.mono a)
theorem lj.imp{S:U Nat}{G:aT->Prop}(h:lj S F w)(a:∀w,F w->G w):lj S G w:=λw' ao=>a _ (h w' ao)
theorem lj.and{S:U Nat}{G:aT->Prop}(h:lj S F w)(k:lj S G w):lj S (λw=>F w/\G w) w:=λw' ao=>⟨h w' ao,k w' ao⟩
theorem lj.step{S:U Nat}(h:lj S F w)(ao:bM S w w'):lj S F w':=λ_ a=>h _ (ao.trans a)
theorem lj.fresh{S T:U Nat}(h:lj S F w)(ao:bM S w w')(f:∀b,b∈T->b∉S->w.heap.size<=b):lj T F w':=by intro c a;refine h c ⟨a.os.trans ao.os,a.tape.trans ao.tape,a.output.trans ao.output,fV ao.size a.size,λk d e=>?_⟩;rw[a.block k (iv d ao.size) (λhm=>by have:=f k hm e;omega)];exact ao.block k d e
inductive fB where
 |bF (b:Nat) (cs:List aD) (t:bD)
 |row (v:aD) (t:bD) (bX n:Nat) (xs:List aD)
abbrev Loc:=U fB
def fB.dZ:fB->U Nat|.bF b _ _=>[b]|.row (.slice (J a) _ _) _ _ _ _=>[a.block]|.row _ _ _ _ _=>[]
def fB.ok(w:aT):fB->Prop|.bF b cs t=>w.heap[b]? = J (.cells cs.toArray t (0,0))|.row v t bX n xs=>w.ownsRow 0 t bX v n xs
def e9(L:Loc):U Nat:=L.flatMap fB.dZ
theorem fB.ak1{x:fB}(h:x.ok w):∀b,b∈x.dZ->b<w.heap.size:=by
 cases x with
 |bF b cs t=>intro cu al;simp[fB.dZ]at al;subst al;exact(hZ.1 h).1
 |row v t bX n xs=>
  intro cu al;have c:w.ownsRow 0 t bX v n xs:=h;cases v<;>simp[fB.dZ]at al
  rename_i a len cap;cases a with|none=>simp at al|some a=>simp at al;subst al;exact(c.lt a.block rfl).2
theorem fB.UW{S:U Nat}{x:fB}(h:x.ok w)(ao:bM S w w')(ar:∀b,b∈x.dZ->b∉S):x.ok w':=by
 have a:=fB.ak1 h;cases x with
 |bF b cs t=>show w'.heap[b]? = _;rw[ao.block b (a b Ek) (ar b Ek)];exact h
 |row v t bX n xs=>
  have c:w.ownsRow 0 t bX v n xs:=h;refine⟨c.1,?_⟩;rcases c.2 with d|⟨g,cap,cur,rfl,al,e,r⟩
  .exact .inl d
  .refine .inr ⟨g,cap,cur,rfl,al,?_,r⟩;rw[ao.block g (a g Ek) (ar g Ek)];exact e
structure di where
 P:cP
 n:Nat
 ij:aT
 gE:List Nat
 M:List Nat
structure du (ah:di) (L:Loc) (F:aT->Prop) (w:aT):Prop where
 fw:bM ah.gE ah.ij w
 ok:∀x,x∈L->x.ok w
 nodup:(e9 L).Nodup
 own:∀b,b∈e9 L->b∈ah.gE\/ah.ij.heap.size<=b
 hN:∀b,b∈ah.M->b<ah.ij.heap.size/\b∉ah.gE
 qc:lj (ah.M++e9 L) F w
variable{L:Loc}{ah:di}
theorem du.lt(h:du ah L F w):∀b,b∈e9 L->b<w.heap.size:=by intro b al;simp[e9]at al;obtain⟨x,ag,al⟩:=al;exact fB.ak1 (h.ok x ag) b al
theorem du.here(h:du ah L F w):F w:=h.qc.here
theorem du.Cr(h:du ah L F w):∀b,b∈ah.M->b∉e9 L:=by
 intro b al hm;rcases h.own b hm with a|a
 .exact(h.hN b al).2 a
 .have:=(h.hN b al).1;omega
theorem du.quiet(h:du ah L F w)(ao:bM [] w w'):du ah L F w':=⟨h.fw.trans (ao.mono (by simp)),λx ag=>fB.UW (h.ok x ag) ao (by simp),h.nodup,h.own,h.hN,h.qc.step (ao.mono (by simp))⟩
theorem du.fact{G:aT->Prop}(h:du ah L F w)(a:∀w,F w->G w):du ah L G w:=⟨h.fw,h.ok,h.nodup,h.own,h.hN,h.qc.imp a⟩
def Ep(P:cP)(c:Code)(Q:Exit->Act->aT->Prop)(a:Act)(w:aT):Prop:=∀(b:Frame) (k:U Item) (cs:U Frame),∃e ca w',Q e ca w'/\Arrives P (lone (b.at a (.code c :: .inLoop c::k)) cs w) b k cs e ca w'
variable{P:cP}{Q:Exit->Act->aT->Prop}{c:Code}
theorem al0(h:Ep P c Q a w):(Code.loop c).wp P Q a w:=by intro b k cs;obtain⟨e,ca,w',f,d⟩:=h b k cs;exact⟨e,ca,w',f,.of_steps (.one step_loop) d⟩
theorem akr(h:c.wp P (Exit.then (Ep P c Q) Q) a w):Ep P c Q a w:=by intro b k cs;obtain⟨e,FP,Gn,f,d⟩:=h b (.inLoop c::k) cs;cases e with|normal=>obtain⟨aDy,aDq,aE7,aDZ,aDV⟩:=f b k cs;exact⟨aDy,aDq,aE7,aDZ,.of_steps (Steps.trans d (.one step_inLoop)) aDV⟩|exit id=>exact⟨_,FP,Gn,f,.pass (x:=.inLoop c) rfl (λ_ _=>.inl (by simp)) d⟩|goto l=>exact⟨_,FP,Gn,f,.pass (x:=.inLoop c) rfl (λ_ _=>.inl (by simp)) d⟩|ret=>exact⟨_,FP,Gn,f,.pass (x:=.inLoop c) rfl (λ_ _=>.inl (by simp)) d⟩|panic g=>exact⟨_,FP,Gn,f,.pass (x:=.inLoop c) rfl (λ_ _=>.inl (by simp)) d⟩|outgrown=>exact⟨_,FP,Gn,f,.pass (x:=.inLoop c) rfl (λ_ _=>.inl (by simp)) d⟩
inductive mB where
 |seq (c:Code)
 |bF (id:Nat)
 |loop (c:Code)
 |scope
 |drawn (ops:Array bx) (fuel:Nat) (listed:Array Bool)
def m3(P:cP)(Q:Exit->Act->aT->Prop):U mB->Exit->Act->aT->Prop|[]=>Q|.seq c::k=>Exit.then (c.wp P (m3 P Q k)) (m3 P Q k)|.bF id::k=>Exit.inBlock id (m3 P Q k)|.loop c::k=>Exit.then (Ep P c (m3 P Q k)) (m3 P Q k)|.scope::k=>Exit.noGoto (m3 P Q k)|.drawn ops fuel listed::k=>Exit.then (wpAny P .any ops (m3 P Q k) fuel listed) (m3 P Q k)
structure G (ah:di) (c:Code) (k:List mB) (e:Env) (L:Loc) (F:aT->Prop) (Q:Exit->Act->aT->Prop):Prop where
 run:∀a w,jO ah.n e a->du ah L F w->c.wp ah.P (m3 ah.P Q k) a w
structure N (ah:di) (k:List mB) (e:Env) (L:Loc) (F:aT->Prop) (Q:Exit->Act->aT->Prop):Prop where
 run:∀a w,jO ah.n e a->du ah L F w->m3 ah.P Q k .normal a w
structure O (ah:di) (ops:Array bx) (l:List bx) (k:List mB) (e:Env) (L:Loc) (F:aT->Prop) (Q:Exit->Act->aT->Prop):Prop where
 run:∀a w,jO ah.n e a->du ah L F w->wpList ah.P ops (m3 ah.P Q k) l a w
section control
variable {ah:di}{k:U mB}{e:Env}{L:Loc}{F:aT->Prop}{Q:Exit->Act->aT->Prop}
theorem nd{x y:Code}(h:G ah x (.seq y::k) e L F Q):G ah (.seq x y) k e L F Q:=.mk λa w b c=>wp_seq (h.run a w b c)
theorem sa(h:N ah k e L F Q):G ah .skip k e L F Q:=.mk λa w b c=>wp_skip (h.run a w b c)
variable{id:Nat}
theorem oj{l:U bx}(h:O ah l.toArray l k e L F Q):G ah (.region id l.toArray ai) k e L F Q:=.mk λa w b c=>wp_region_lit (h.run a w b c)
theorem r_{c:cO}{x y:Code}{b:Bool}(ao:Env.aJ e c=J (.bool b))(g:b=ab->G ah x k e L F Q)(h:b=ai->G ah y k e L F Q):G ah (.cond c x y) k e L F Q:=.mk λa w d f=>wp_cond_split (d.aJ ao) (λal=>(g al).run a w d f) (λal=>(h al).run a w d f)
theorem IW{c:cO}{x y:Code}{p:Prop}[inst:Decidable p](ao:Env.aJ e c=J (.bool (decide p)))(a:p->G ah x k e L F Q)(b:¬p->G ah y k e L F Q):G ah (.cond c x y) k e L F Q:=r_ ao (λh=>a (of_decide_eq_true h)) (λh=>b (of_decide_eq_false h))
theorem jP(h:G ah c k e L F Q):N ah (.seq c::k) e L F Q:=.mk h.run
theorem AT(P:cP)(Q:Exit->Act->aT->Prop)(a:Act)(w:aT)(h:Q .ret a w):∀k,m3 P Q k .ret a w
 |[]=>h
 |.seq _::k=>AT P Q a w h k
 |.bF _::k=>AT P Q a w h k
 |.loop _::k=>AT P Q a w h k
 |.drawn _ _ _::k=>AT P Q a w h k
 |.scope::k=>by show Exit.noGoto (m3 P Q k) .ret a w;rw[Exit.noGoto_ret];exact AT P Q a w h k
theorem aB7(h:∀a w,jO ah.n e a->du ah L F w->Q .ret a w):G ah .ret k e L F Q:=.mk λa w b c=>wp_ret (AT _ _ _ _ (h a w b c) k)
variable {ops:Array bx}{rest:U bx}
theorem jU(h:N ah k e L F Q):O ah ops [] k e L F Q:=.mk h.run
def m2(ops:Array bx)(e:Env):ae (Nat×Bool)->ae Bool
 |none=>J ab
 |some (j,b)=>match(ops[j]?).bind (·.dst)with
  |none=>aj
  |some d=>match Env.get e d with|some (.bool x)=>J (x == b)|some (.tuple _)=>J ai|_=>aj
variable{o:bx}
theorem m2.wanted{n:Nat}{r:Bool}(c:jO n e a)(h:m2 ops e o.guard=J r):kt o (yielded ops a.tmps)=r:=by
 unfold kt;unfold m2 at h;split at h
 .grind
 .rename_i j b f;rw[f];split at h
  .cases h
  .rename_i d ar;split at h
   .rename_i x ag;have:=c.get d _ ag;simp only[yielded,ar,bA,this,dN]at h ⊢;rw[<-h];cases x<;>cases b<;>rfl
   .rename_i x ag;have:=c.get d _ ag;simp only[yielded,ar,bA,this,dN]at h ⊢;rw[<-h];cases b<;>rfl
   .cases h
variable{dst:Nat}{g:ae (Nat×Bool)}{op:Op}{pos:String}{t:bD}
theorem sZ{b:Array Edge}(R:aD->Loc->(aT->Prop)->Prop)(i:m2 ops e g=J ab)(ar:eU dst ah.n=ab)
  (j:∀a w,jO ah.n e a->du ah L F w->∃v w' L' eG,(cE a.eval ⟨J dst,op,t,pos,b,g⟩).run ah.P w = .ok (.value v) w'/\du ah L' eG w'/\R v L' eG)
  (h:∀v L' eG,R v L' eG->O ah ops rest k ((dst,v)::e) L' eG Q) :
  O ah ops (⟨J dst,op,t,pos,b,g⟩::rest) k e L F Q:=.mk λa w d l=>by
 have m:=m2.wanted (o:=⟨J dst,op,t,pos,b,g⟩) d i;obtain⟨v,w',L',eG,c,f,p⟩:=j a w d l;simp[wpList,m,bx.wp];left;rw[c];simp[bx.upon];exact(h v L' eG p).run _ w' (d.put ar v) f
def Pure(P:cP)(e:Env)(op:Op)(v:aD):Prop:=∀(n:Nat) (a:Act) (w:aT) (o:bx),jO n e a->o.op=op->(cE a.eval o).run P w = .ok (.value v) w
theorem gC{b:Array Edge}{v:aD}(c:m2 ops e g=J ab)(ar:eU dst ah.n=ab)
  (d:Pure ah.P e op v) (h:O ah ops rest k ((dst,v)::e) L F Q):O ah ops (⟨J dst,op,t,pos,b,g⟩::rest) k e L F Q:=
 sZ (λu L' eG=>u=v/\L' = L/\eG = F) c ar (λa w f i=>⟨v,w,L,F,d ah.n a w _ f rfl,i,rfl,rfl,rfl⟩) (λu L' eG ⟨j,l,m⟩=>by rw[j,l,m];exact h)
end control
def Enters(P:cP)(f:FuncId):Prop:=∀args w,(callFunc f args).run P w = .ok (.enter f args) w
variable{f:FuncId}{fn:Func}
theorem enters_of(b:P.funcs[f]? = J fn)(al:fn.body.isNone=ai)(d:(fn.name == "runtime.NumGoroutine")=ai):Enters P f:=by
 intro args w;have a:¬fn.name = "runtime.NumGoroutine" :=uN
 obtain⟨c,ao⟩:∃c,fn.body=J c:=by cases h:fn.body with|none=>rw[h]at al;cases al|some c=>exact⟨c,rfl⟩
 simp[callFunc,b,ao,a]
structure lE (P:cP) (f:FuncId) (args:List aD) (mF:Loc) (Pre:aT->Prop) (kG:aD->Loc->(aT->Prop)->Prop):Prop where
 enters:Enters P f
 run:∀(w:aT) (M:List Nat),du ⟨P,0,w,e9 mF,M⟩ mF Pre w ->
  Calls P f args.toArray w λdJ w'=>∃v L' eG,dJ = .returned v/\kG v L' eG/\du ⟨P,0,w,e9 mF,M⟩ L' eG w'
def gf:Nat->U aD->Env|_,[]=>[]|i,v::vs=>(i,v)::gf (i+1) vs
theorem Bb:∀(vs:U aD) (i k:Nat) (v:aD),Env.get (gf i vs) k=J v->i<=k/\vs[k-i]? = J v
 |[],i,k,v,h=>by simp[gf,Env.get]at h
 |u::vs,i,k,v,h=>by
  simp[gf,Env.get]at h;cases al:cp i k with
  |true=>simp_all
  |false=>
   rw[al]at h;have a:i≠k:=Nat.ne_of_beq_eq_false al;obtain⟨c,b⟩:=Bb vs (i+1) k v h;refine⟨by omega,?_⟩;have:k-i=(k-(i+1))+1:=af
   rw[this];simpa using b
def Ke(P:cP)(w:aT)(gE M:U Nat)(kG:aD->Loc->(aT->Prop)->Prop)(dJ:Ending)(w':aT):Prop:=∃v L' eG,dJ = .returned v/\kG v L' eG/\du ⟨P,0,w,gE,M⟩ L' eG w'
variable{gE:U Nat}{M:U Nat}{m:Nat}{ij:aT}
theorem du.n{n:Nat}(h:du ⟨P,n,ij,gE,M⟩ L F w):du ⟨P,m,ij,gE,M⟩ L F w:=⟨h.fw,h.ok,h.nodup,h.own,h.hN,h.qc⟩
variable{mF:Loc}{kG:aD->Loc->(aT->Prop)->Prop}{Pre:aT->Prop}{args:U aD}
theorem qC{n:Nat}
  (e:P.funcs[f]? = J fn) (l:fn.ntmps=n) (al:fn.body=J c) (a:(fn.name == "runtime.NumGoroutine")=ai) (b:eF (I args) n=ab)
  (h:∀w M,G ⟨P,n,w,e9 mF,M⟩ c [] (gf 0 args) mF Pre (bodyPost P fn (Ke P w (e9 mF) M kG))):lE P f args mF Pre kG:=by
 refine⟨enters_of e (by rw[al];rfl) a,λw M i=>?_⟩;have hle:I args<=n:=Ei
 refine calls_of_wp e al ((h w M).run _ w ⟨rfl,?_,?_⟩ i.n)
 .simp;omega
 .intro k v j;obtain⟨_,g⟩:=Bb args 0 k v j;simp at g;have d:k<I args:=im
  simp only[Array.getElem?_append,List.size_toArray,d];simpa using g
theorem lE.calls(h:lE P f args [] Pre kG)(w:aT)(d:∀w',Below w.heap.size w w'->Pre w') :
  Calls P f args.toArray w λdJ w'=>∃v L' eG,dJ = .returned v/\kG v L' eG/\eG w'/\Below w.heap.size w w':=
 (h.run w [] ⟨bM.refl _ _,by simp,by simp[e9],by simp[e9],by simp,λw' ao=>d w' (bM.below (by simpa[e9]using ao))⟩).mono λ_ _ ⟨v,L',eG,a,b,c⟩=>⟨v,L',eG,a,b,c.here,bM.below (by simpa[e9]using c.fw)⟩
section
variable {ah:di}{k:U mB}{e:Env}{L:Loc}{F:aT->Prop}{Q:Exit->Act->aT->Prop}{ops:Array bx}{rest:U bx}
theorem oc(A B:Loc):e9 (A++B)=e9 A++e9 B:=by simp[e9]
theorem tt(x:fB)(B:Loc):e9 (x::B)=x.dZ++e9 B:=by simp[e9]
theorem du.perm{Ti:Loc}(h:du ah L F w)(c:L.Perm Ti):du ah Ti F w:=by have a:(e9 L).Perm (e9 Ti):=c.flatMap_right _;refine⟨h.fw,λx ag=>h.ok x (c.mem_iff.2 ag),a.nodup_iff.1 h.nodup,λb al=>h.own b (a.mem_iff.2 al),h.hN,h.qc.mono ?_⟩;intro x ag;simp at ag ⊢;exact ag.imp id a.mem_iff.2
theorem du.drop{x:fB}(h:du ah (x::L) F w):du ah L F w:=by
 have a:=h.nodup;rw[tt]at a;exact⟨h.fw,λy aE=>h.ok y (by simp[aE]),(List.nodup_append.1 a).2.1,λb al=>h.own b (by rw[tt];simp[al]),h.hN,h.qc.mono (by
  intro y aE;rw[tt];simp at aE ⊢;rcases aE with aE|aE
  .exact .inl aE
  .exact .inr (.inr aE))⟩
variable{pM:Loc}
theorem du.called{L':Loc}{eG:aT->Prop}{aku:U Nat}(h:du ah (mF++pM) F w)(o:aku = ah.M++e9 pM)(g:du ⟨ah.P,0,w,e9 mF,aku⟩ L' eG w'):du ah (L'++pM) (λw=>F w/\eG w) w':=by
 subst o;have m:=h.nodup;rw[oc]at m;obtain⟨r,p,n⟩:=List.nodup_append.1 m;have e:∀b,b∈e9 L'->b∈e9 mF\/w.heap.size<=b:=g.own;have c:bM (e9 mF) w w':=g.fw;have j:∀b,b∈e9 L'->b∉e9 pM:=λb al hm=>by
  rcases e b al with f|f
  .exact n b f b hm rfl
  .have:=h.lt b (by rw[oc];simp[hm]);omega
 refine⟨?_,?_,?_,?_,h.hN,?_⟩
 .have ao:=h.fw;refine⟨c.os.trans ao.os,c.tape.trans ao.tape,c.output.trans ao.output,fV ao.size c.size,λi f k=>?_⟩;rw[c.block i (iv f ao.size) (λhm=>?_)]
  .exact ao.block i f k
  .rcases h.own i (by rw[oc];simp[hm])with bS|bS
   .exact k bS
   .omega
 .intro x ag;simp at ag;rcases ag with ag|ag
  .exact g.ok x ag
  .refine fB.UW (h.ok x te) c λb al hm=>?_;exact n b hm b (by simp[e9];exact⟨x,ag,al⟩) rfl
 .rw[oc];exact List.nodup_append.2 ⟨g.nodup,p,λa q b al l=>by subst l;exact j a q al⟩
 .intro b al;rw[oc]at al;simp at al;rcases al with al|al
  .rcases e b al with f|f
   .exact h.own b (by rw[oc];simp[f])
   .right;have:=h.fw.size;omega
  .exact h.own b (by rw[oc];simp[al])
 .refine lj.and (h.qc.fresh (c.mono ?_) ?_) (g.qc.mono ?_)
  .intro x ag;rw[oc];simp[ag]
  .intro b al d;rw[oc]at al d;simp at al d;rcases al with al|al|al
   .exact absurd al d.1
   .grind
   .exact absurd al d.2.2
  .intro x ag;rw[oc]at ag;simp only[lx]at ag ⊢;rcases ag with ag|ag|ag
   .exact .inl (.inl ag)
   .exact .inr ag
   .exact .inl (.inr ag)
theorem du.callee(h:du ah (mF++pM) F w)(c:∀w,F w->Pre w):du ⟨ah.P,0,w,e9 mF,ah.M++e9 pM⟩ mF Pre w:=by
 have a:=h.nodup;rw[oc]at a;obtain⟨d,f,e⟩:=List.nodup_append.1 a;refine⟨bM.refl _ _,λx ag=>h.ok x te,d,λb al=>.inl al,?_,(h.qc.imp c).mono ?_⟩
 .intro b al;simp at al;rcases al with al|al
  .exact⟨iv (h.hN b al).1 h.fw.size,λhm=>h.Cr b al (by rw[oc];simp[hm])⟩
  .exact⟨h.lt b (by rw[oc];simp[al]),λhm=>e b hm b al rfl⟩
 .intro x ag;rw[oc];simp only[lx]at ag ⊢;rcases ag with (ag|ag)|ag
  .exact .inl ag
  .exact .inr (.inr ag)
  .exact .inr (.inl ag)
def En(v:aD):aD->Loc->(aT->Prop)->Prop:=λu L F=>u=v/\L=[]/\F=λ_=>True
structure Bs (ah:di) (L:Loc) (F:aT->Prop) (sI:Loc->(aT->Prop)->Prop):Prop where
 run:∀w,du ah L F w->∃L' eG, sI L' eG/\du ah L' eG w
variable {sI:Loc->(aT->Prop)->Prop}
theorem o1(h : sI L F):Bs ah L F sI:=.mk λ_ a=>⟨L,F,h,a⟩
theorem du.nil:∀{L:Loc}{w:aT},du ah L F w->du ah [] F w
 |[],_,h=>h
 |_::_,_,h=>du.nil h.drop
theorem aAU(h : sI [] λ_=>True):Bs ah L F sI:=.mk λ_ a=>⟨[],_,h,(a.nil).fact λ_ _=>trivial⟩
variable{u:aD}
theorem Ru{v:aD}(h:u=v):Bs ah L F (En v u):=aAU ⟨h,rfl,rfl⟩
def oN:U aD->aD|[v]=>v|vs=>.tuple vs.toArray
def aDg(ah:di)(e:Env)(L:Loc)(F:aT->Prop):ResultVar->aD->Prop|.tmp t,v=>Env.get e t=J v|.cell a t,v=>∃p,Env.get e a=J (.pointer (J p))/\∀w,du ah L F w->(loadVar t p).run ah.P w = .ok v w
def xH(ah:di)(e:Env)(L:Loc)(F:aT->Prop):U ResultVar->U aD->Prop|[],[]=>True|r::rs,v::vs=>aDg ah e L F r v/\xH ah e L F rs vs|_,_=>False
def rdv(tmps:Array aD):ResultVar->Sem aD
 |.tmp t=>pure (tmps.getD t undef)
 |.cell a t=>do loadVar t (<-asAddr (tmps.getD a undef))
theorem xH.run(b:jO ah.n e a)(c:du ah L F w):∀{rs:U ResultVar}{vs:U aD},xH ah e L F rs vs->Sem.run ah.P (rs.mapM (rdv a.tmps)) w=Result.ok vs w
 |[],[],_=>by simp
 |[],_::_,h=>h.elim
 |_::_,[],h=>h.elim
 |.tmp t::rs,v::vs,h=>by have d:a.tmps[t]? = J v:=b.get t v h.1;have f:=xH.run b c h.2;simp[ rdv,d,f]
 |.cell ca t::rs,v::vs,h=>by obtain⟨⟨p,g,i⟩,j⟩:=h;have d:a.tmps[ca]? = J _:=b.get ca _ g;have f:=xH.run b c j;simp[ rdv,d,f,asAddr,(i w c)]
theorem Mh(fn:Func)(tmps:Array aD):results fn tmps=(do let vs <-fn.results.mapM (rdv tmps);pure (if h:vs.size=1 then vs[0]else .tuple vs)):=by unfold results;congr 1
variable{vs:U aD}
theorem aoV{n:Nat}{rs:U ResultVar}{v:aD}(b:fn.results=rs.toArray)(h:xH ⟨P,n,ij,gE,M⟩ e L F rs vs)(c:oN vs=v)
  (i:Bs ⟨P,n,ij,gE,M⟩ L F (kG v)):G ⟨P,n,ij,gE,M⟩ .ret k e L F (bodyPost P fn (Ke P ij gE M kG)):=by
 refine aB7 λa w f g=>?_;obtain⟨L',eG,j,d⟩:=i.run w g;refine⟨f.defers,v,?_,v,L',eG,rfl,j,d.n⟩;rw[Mh,b];simp only[List.mapM_toArray,e3,map_eq_pure_bind,(xH.run f g h)];congr 1;rw[<-c];match vs with|[]=>rfl|[v]=>rfl|_::_::_=>simp[oN]
section
variable {P:cP}{n:Nat}{ij:aT}{gE M:U Nat}{fn:Func}{kG:aD->Loc->(aT->Prop)->Prop}{t1 t2 t3:Nat}{v1 v2 v3:aD}
theorem mA(a:fn.results = #[.tmp t1])(b:Env.get e t1=J v1)(c:Bs ⟨P,n,ij,gE,M⟩ L F (kG v1)):G ⟨P,n,ij,gE,M⟩ .ret k e L F (bodyPost P fn (Ke P ij gE M kG)):=aoV (rs:=[.tmp t1]) (vs:=[v1]) a ⟨b,trivial⟩ rfl c
end
end
abbrev S(l:U UInt8):Value:=.string ⟨l.toArray⟩
def cf(l:U UInt8)(i:Int):Int:=((l.getD i.toNat 0).toNat:Int)
def cut(l:U UInt8)(a b:Int):U UInt8:=(l.drop a.toNat).take (b.toNat-a.toNat)
theorem HG(l:U UInt8)(i:Int) : 0<=cf l i/\cf l i<=255:=by unfold cf;have:=(l.getD i.toNat 0).toNat_lt;omega
def oR(P:cP)(t:bD):Bool:=match P.underlying t with|some .string=>ab|_=>ai
def vZ(P:cP)(t:bD):Bool:=match P.underlying t with|some .bool=>ab|_=>ai
def Gk(P:cP)(t:bD):Bool:=match P.underlying t with|some (.slice _)=>ab|_=>ai
def yy(P:cP)(t:bD)(k:df):Bool:=match P.underlying t with|some (.int fg)=>fg == k|_=>ai
def rk(P:cP)(t:bD):Bool:=(P.underlying t).isSome
variable{t:bD}
theorem sC(h:oR P t=ab):P.underlying t=J .string:=by
 unfold oR at h;split at h
 .assumption
 .cases h
theorem Gi(h:vZ P t=ab):P.underlying t=J .bool:=by
 unfold vZ at h;split at h
 .assumption
 .cases h
theorem awI(h:Gk P t=ab):∃u,P.underlying t=J (.slice u):=by
 unfold Gk at h;split at h
 .grind
 .cases h
variable{k:df}
theorem Gj(h:yy P t k=ab):P.underlying t=J (.int k):=by
 unfold yy at h;split at h
 .grind
 .cases h
theorem Vo(h:rk P t=ab):∃d,P.underlying t=J d:=by unfold rk at h;exact Option.isSome_iff_exists.1 h
section
variable {P:cP}{e:Env}
theorem jA{v:aD}(h:Env.aJ e x=J v):Pure P e (.move x) v:=λn a w o b c=>by simp[cE,c,b.aJ h]
theorem kX{v:aD}(h:Env.aJ e x=J v):Pure P e (.assign x) v:=λn a w o b c=>by simp[cE,c,b.aJ h]
variable{y:cO}
theorem Vc{c:cO}{v:aD}(ao:Env.aJ e c=J (.bool ab))(h:Env.aJ e x=J v):Pure P e (.pick c x y) v:=λn a w o b d=>by simp[cE,d,b.aJ h,b.aJ ao,asBool]
theorem Vb{c:cO}{v:aD}(ao:Env.aJ e c=J (.bool ai))(h:Env.aJ e y=J v):Pure P e (.pick c x y) v:=λn a w o b d=>by simp[cE,d,b.aJ h,b.aJ ao,asBool]
variable{u:aD}
theorem h4{op:BinOp}{t':bD}{v r:aD}(ag:Env.aJ e x=J u)(aE:Env.aJ e y=J v)
  (c:∀w,(eqGuard op t x y u v).run P w = .ok () w) (h:∀w,(binOp op t u v).run P w = .ok r w):Pure P e (.binOp op t x y t') r:=λn a w o b d=>by
 simp[cE,d,b.aJ ag,b.aJ aE,c,h]
section int
variable {t t':bD}{x y:cO}{k:df}{a b:Int}
theorem mP(op:BinOp)(t:bD)(x y:cO)(k c:df)(a b:Int)(w:aT):(eqGuard op t x y (.int k a) (.int c b)).run P w = .ok () w:=by cases op<;>rfl
theorem x6(op:BinOp)(t:bD)(x y:cO)(a b:ByteArray)(w:aT):(eqGuard op t x y (.string a) (.string b)).run P w = .ok () w:=by cases op<;>rfl
theorem Y2(op:BinOp)(t:bD)(x y:cO)(a b:Bool)(w:aT):(eqGuard op t x y (.bool a) (.bool b)).run P w = .ok () w:=by cases op<;>rfl
theorem aly(ag:Env.aJ e x=J (.int k a))(aE:Env.aJ e y=J (.int k b)):Pure P e (.binOp .add t x y t') (.int k (k.wrap (a+b))):=h4 ag aE (mP _ _ _ _ _ _ _ _) λw=>by simp[binOp,Op.intArith]
theorem alA(ag:Env.aJ e x=J (.int k a))(aE:Env.aJ e y=J (.int k b)):Pure P e (.binOp .sub t x y t') (.int k (k.wrap (a-b))):=h4 ag aE (mP _ _ _ _ _ _ _ _) λw=>by simp[binOp,Op.intArith]
theorem aEs(ag:Env.aJ e x=J (.int k a))(aE:Env.aJ e y=J (.int k b)):Pure P e (.binOp .mul t x y t') (.int k (k.wrap (a*b))):=h4 ag aE (mP _ _ _ _ _ _ _ _) λw=>by simp[binOp,Op.intArith]
theorem C7(ag:Env.aJ e x=J (.int .i64 a))(aE:Env.aJ e y=J (.int .i64 b))(h : -9223372036854775808<=a+b/\a+b<=9223372036854775807):Pure P e (.binOp .add t x y t') (.int .i64 (a+b)):=by have:=aly (P:=P) (t:=t) (t':=t') ag aE;rwa[IntWalk.i64_in _ h]at this
theorem Nj(ag:Env.aJ e x=J (.int .i64 a))(aE:Env.aJ e y=J (.int .i64 b))(h : -9223372036854775808<=a-b/\a-b<=9223372036854775807):Pure P e (.binOp .sub t x y t') (.int .i64 (a-b)):=by have:=alA (P:=P) (t:=t) (t':=t') ag aE;rwa[IntWalk.i64_in _ h]at this
theorem aEy(ag:Env.aJ e x=J (.int k a))(aE:Env.aJ e y=J (.int k b))(h:b≠0):Pure P e (.binOp .quo t x y t') (.int k (k.wrap (a.tdiv b))):=h4 ag aE (mP _ _ _ _ _ _ _ _) λw=>by simp[binOp,Op.intDiv,h]
theorem aEz(ag:Env.aJ e x=J (.int k a))(aE:Env.aJ e y=J (.int k b))(h:b≠0):Pure P e (.binOp .rem t x y t') (.int k (a.tmod b)):=h4 ag aE (mP _ _ _ _ _ _ _ _) λw=>by simp[binOp,Op.intDiv,h]
theorem aEn(ag:Env.aJ e x=J (.int k a))(aE:Env.aJ e y=J (.int k b)):Pure P e (.binOp .and t x y t') (.int k (k.wrap ((km k.bits a &&& km k.bits b).toNat))):=h4 ag aE (mP _ _ _ _ _ _ _ _) λw=>by simp[binOp,Op.intBits]
theorem aEx(ag:Env.aJ e x=J (.int k a))(aE:Env.aJ e y=J (.int k b)):Pure P e (.binOp .or t x y t') (.int k (k.wrap ((km k.bits a ||| km k.bits b).toNat))):=h4 ag aE (mP _ _ _ _ _ _ _ _) λw=>by simp[binOp,Op.intBits]
theorem aED(ag:Env.aJ e x=J (.int k a))(aE:Env.aJ e y=J (.int k b)):Pure P e (.binOp .xor t x y t') (.int k (k.wrap ((km k.bits a ^^^ km k.bits b).toNat))):=h4 ag aE (mP _ _ _ _ _ _ _ _) λw=>by simp[binOp,Op.intBits]
theorem aEA{c:df}(ag:Env.aJ e x=J (.int k a))(aE:Env.aJ e y=J (.int c b))(h : 0<=b):Pure P e (.binOp .shl t x y t') (.int k (k.wrap (a*2 ^ min b.toNat k.bits))):=h4 ag aE (mP _ _ _ _ _ _ _ _) λw=>by simp[binOp,Op.shift,Int.not_lt.2 h]
theorem aEB{c:df}(ag:Env.aJ e x=J (.int k a))(aE:Env.aJ e y=J (.int c b))(h : 0<=b):Pure P e (.binOp .shr t x y t') (.int k (a.fdiv (2 ^ min b.toNat k.bits))):=h4 ag aE (mP _ _ _ _ _ _ _ _) λw=>by simp[binOp,Op.shift,Int.not_lt.2 h]
theorem Ga(ag:Env.aJ e x=J (.int k a))(aE:Env.aJ e y=J (.int k b)):Pure P e (.binOp .eql t x y t') (.bool (a == b)):=h4 ag aE (mP _ _ _ _ _ _ _ _) λw=>y8
theorem U'(ag:Env.aJ e x=J (.int k a))(aE:Env.aJ e y=J (.int k b)):Pure P e (.binOp .neq t x y t') (.bool (a != b)):=h4 ag aE (mP _ _ _ _ _ _ _ _) λw=>y8
theorem U_(ag:Env.aJ e x=J (.int k a))(aE:Env.aJ e y=J (.int k b)):Pure P e (.binOp .lss t x y t') (.bool (aa (a<b))):=h4 ag aE (mP _ _ _ _ _ _ _ _) λw=>y8
theorem U9(ag:Env.aJ e x=J (.int k a))(aE:Env.aJ e y=J (.int k b)):Pure P e (.binOp .leq t x y t') (.bool (aa (a<=b))):=h4 ag aE (mP _ _ _ _ _ _ _ _) λw=>y8
theorem Md(ag:Env.aJ e x=J (.int k a))(aE:Env.aJ e y=J (.int k b)):Pure P e (.binOp .gtr t x y t') (.bool (aa (b<a))):=h4 ag aE (mP _ _ _ _ _ _ _ _) λw=>y8
theorem U6(ag:Env.aJ e x=J (.int k a))(aE:Env.aJ e y=J (.int k b)):Pure P e (.binOp .geq t x y t') (.bool (aa (b<=a))):=h4 ag aE (mP _ _ _ _ _ _ _ _) λw=>y8
end int
theorem LW(l m:U UInt8):(l == m)=aa (l=m):=im
section str
variable {t t':bD}{x y:cO}{l m:U UInt8}
theorem aEm(ag:Env.aJ e x=J (S l))(aE:Env.aJ e y=J (S m))(h:I l+I m<=9223372036854775807):Pure P e (.binOp .add t x y t') (S (l++m)):=
 h4 ag aE (x6 _ _ _ _ _ _) λw=>by
  have a:¬(((ByteArray.mk l.toArray).size+(ByteArray.mk m.toArray).size:Nat):Int) > df.i64.max:=by simp[ByteArray.size];omega
  have b:(ByteArray.mk l.toArray++ByteArray.mk m.toArray)=ByteArray.mk (l++m).toArray:=by apply ByteArray.ext;simp
  simp only[binOp,Op.stringOp,if_neg a,ga,b]
theorem U4(ag:Env.aJ e x=J (S l))(aE:Env.aJ e y=J (S m)):Pure P e (.binOp .eql t x y t') (.bool (aa (l=m))):=h4 ag aE (x6 _ _ _ _ _ _) λw=>by simp[binOp,Op.stringOp];rw[LW]
theorem Va(ag:Env.aJ e x=J (S l))(aE:Env.aJ e y=J (S m)):Pure P e (.binOp .neq t x y t') (.bool (!decide (l=m))):=h4 ag aE (x6 _ _ _ _ _ _) λw=>by simp[binOp,Op.stringOp];rw[LW]
theorem aEr(ag:Env.aJ e x=J (S l))(aE:Env.aJ e y=J (S m)):Pure P e (.binOp .lss t x y t') (.bool (Op.bytesLess l m)):=h4 ag aE (x6 _ _ _ _ _ _) λw=>by simp[binOp,Op.stringOp]
theorem al8(d:Nat){a b:Bool}(c:P.underlying t=J .bool):(Op.equalIn (d+1) t (.bool a) (.bool b)).run P w = .ok (a == b) w:=by simp[Op.equalIn,dO c]
theorem _'{a b:Bool}(c:P.underlying t=J .bool):(Op.equal t (.bool a) (.bool b)).run P w = .ok (a == b) w:=al8 9999 c
theorem aEp{a b:Bool}(c:vZ P t=ab)(ag:Env.aJ e x=J (.bool a))(aE:Env.aJ e y=J (.bool b)):Pure P e (.binOp .eql t x y t') (.bool (aa (a=b))):=h4 ag aE (Y2 _ _ _ _ _ _) λw=>by rw[show binOp .eql t (.bool a) (.bool b)=(do pure (.bool (<-Op.equal t (.bool a) (.bool b)))) from rfl,e3,_' (Gi c)];rfl
theorem aEu{a b:Bool}(c:vZ P t=ab)(ag:Env.aJ e x=J (.bool a))(aE:Env.aJ e y=J (.bool b)):Pure P e (.binOp .neq t x y t') (.bool (!decide (a=b))):=h4 ag aE (Y2 _ _ _ _ _ _) λw=>by rw[show binOp .neq t (.bool a) (.bool b)=(do pure (.bool (!(<-Op.equal t (.bool a) (.bool b))))) from rfl,e3,_' (Gi c)];rfl
end str
theorem Me{b:Bool}(ag:Env.aJ e x=J (.bool b)):Pure P e (.unOp .not t x) (.bool (!b)):=λn a w o c d=>by simp[cE,d,c.aJ ag,Op.unary]
theorem aEt{a:Int}(ag:Env.aJ e x=J (.int k a)):Pure P e (.unOp .neg t x) (.int k (k.wrap (0-a))):=λn ca w o b c=>by simp[cE,c,b.aJ ag,Op.unary,Op.intArith]
variable{s:bD}
theorem aEo{f:df}{a:Int}(k:df)(b:rk P s=ab)(c:yy P t k=ab)(ag:Env.aJ e x=J (.int f a)):Pure P e (.convert s t x) (.int k (k.wrap a)):=λn ca w o g h=>by obtain⟨d,i⟩:=Vo b;simp[cE,h,g.aJ ag,convert,dO i,dO (Gj c),Conv.intToInt]
variable{vs:U aD}
theorem agZ{gJ:cO}{xs:U cO}{bQ:Array bD}{v:aD}(c:Env.aJ e gJ=J (.func (.func f) #[] #[]))(ag:Env.gH e xs=J vs)(d:∀w,(callFunc f vs.toArray).run P w = .ok (.value v) w):Pure P e (.call ⟨.value gJ,xs.toArray,bQ⟩) v:=λn a w o b g=>by simp[cE,g,resolve,b.aJ c,Deferred.ofValue,(b.gH ag),invoke];simpa using d w
def nth:U aD->Nat->ae aD|[],_=>aj|v::_,0=>J v|_::vs,i+1=>nth vs i
theorem UT:∀(l:U aD) (i:Nat),nth l i=l[i]?
 |[],_=>rfl
 |_::_,0=>rfl
 |_::l,i+1=>by simp[nth,UT l i]
variable{i:Nat}
theorem U5{v:aD}(ag:Env.aJ e x=J (.tuple vs.toArray))(b:nth vs i=J v):Pure P e (.extract x i) v:=λn a w o c d=>by
 have f:vs.toArray[i]? = J v:=by rw[UT]at b;simpa using b
 simp[cE,d,ga,e3,c.aJ ag,Instr.extract,f]
theorem ag9(l:U UInt8):(ByteArray.mk l.toArray).size=I l:=rfl
theorem U8{l:U UInt8}(b:oR P t=ab)(ag:Env.aJ e x=J (S l)):Pure P e (.call ⟨.builtin .len, #[x], #[t]⟩) (.int .i64 (I l)):=λn a w o c d=>by simp[cE,d,ga,e3,List.map_toArray,hk,List.map_nil,c.aJ ag,resolve,invoke,builtin,jq.len_,dO (sC b),gr,goInt,List.getElem?_toArray,List.getElem?_cons_zero,ag9]
theorem Cy{ad:ae Addr}{l c:Nat}(b:Gk P t=ab)(ag:Env.aJ e x=J (.slice ad l c)):Pure P e (.call ⟨.builtin .len, #[x], #[t]⟩) (.int .i64 l):=λn a w o d f=>by obtain⟨u,g⟩:=awI b;simp[cE,f,ga,e3,List.map_toArray,hk,List.map_nil,d.aJ ag,resolve,invoke,builtin,jq.len_,dO g,gr,goInt]
theorem U7{l:U UInt8}{i:Int}(d:oR P t=ab)(ag:Env.aJ e x=J (S l))(aE:Env.aJ e y=J (.int k i))(h : 0<=i/\i<I l):Pure P e (.index t x y) (.int .u8 (cf l i)):=λn a w o c f=>by
 have b:i.toNat<I l:=af
 have al:(ByteArray.mk l.toArray)[i.toNat]? = J (l[i.toNat]'b):=by
  have:i.toNat<(ByteArray.mk l.toArray).size:=by simpa[ByteArray.size]using b
  simp[getElem?_pos,this];rfl
 have g:cf l i=((l[i.toNat]'b).toNat:Int):=by simp[cf,List.getD_eq_getElem?_getD,b]
 simp[cE,f,ga,e3,c.aJ ag,c.aJ aE,Instr.index,asIntOf,dO (sC d),gr,if_pos h.1,al,g]
end
def vY(P:cP)(t:bD):Bool:=match P.underlying t with|some (.struct _)|some (.array _ _)=>ab|_=>ai
def gA(P:cP)(t:bD):ae Nat:=(P.info? t).map (·.size)
def yz(P:cP)(t:bD):ae (U aD):=((P.info? t).bind (·.zero)).map λz=>z.cells.toList
theorem CC{b:Bool}(h:(rk P t&&(vY P t == b))=ab)(w:aT):(isAgg t).run P w = .ok b w:=by simp at h;obtain⟨c,a⟩:=h;obtain⟨d,ar⟩:=Vo c;unfold vY at a;rw[ar]at a;simp[isAgg,dO ar];cases d<;>simp at a<;>subst a<;>simp
theorem run_sizeOf{n:Nat}(h:gA P t=J n)(w:aT):(sizeOf t).run P w = .ok n w:=by unfold gA at h;cases a:P.info? t with|none=>rw[a]at h;cases h|some i=>rw[a]at h;simp at h;simp[sizeOf,typeInfo,a,h]
section
variable {ah:di}{k:U mB}{e:Env}{L:Loc}{F:aT->Prop}{Q:Exit->Act->aT->Prop}{ops:Array bx}{rest:U bx}
theorem adL{p:Addr}{v:aD}(h:w.cell? p=J v):(load p).run P w = .ok v w:=by simp[ h]
theorem akv{P:cP}{w:aT}{b off:Nat}:∀(vs:U aD) (i:Nat) (acc:Array aD),(∀j v,vs[j]? = J v->w.cell? ⟨b,off+(i+j),aj⟩=J v) ->
  (loadCellsFrom ⟨b,off,aj⟩ i (I vs) acc).run P w = .ok (acc++vs.toArray) w
 |[],i,acc,_=>by simp[loadCellsFrom]
 |v::vs,i,acc,h=>by
  have a:w.cell? ((⟨b,off,aj⟩:Addr).add i)=J v:=by rw[show(⟨b,off,aj⟩:Addr).add i=⟨b,off+i,aj⟩ by unfold Addr.add;split<;>simp_all];simpa using h 0 v (by simp)
  have c:=akv (P:=P) vs (i+1) (acc.push v) (λj u d=>by have:=h (j+1) u uN;rwa[show i+(j+1)=i+1+j by omega]at this)
  simp only[eo,loadCellsFrom,e3,adL a,gr,c];simp
theorem aEP{p:Addr}{v:aD}(a:(rk P t&&(vY P t == ai))=ab)(h:w.cell? p=J v):(loadVar t p).run P w = .ok v w:=by simp only[loadVar,e3,CC a,gr,pX,if_false,adL h]
variable{vs:U aD}
theorem aEQ{b off:Nat}(a:(rk P t&&(vY P t == ab))=ab)(c:gA P t=J (I vs))(h:∀j v,vs[j]? = J v->w.cell? ⟨b,off+j,aj⟩=J v):(loadVar t ⟨b,off,aj⟩).run P w = .ok (.agg vs.toArray) w:=by have d:=akv (P:=P) (w:=w) (b:=b) (off:=off) vs 0 #[] (λj v e=>by simpa using h j v e);simp only[loadVar,e3,CC a,gr,if_true,run_sizeOf c,loadCells,d];simp
variable{cs:U aD}
theorem Qn{b:Nat}(h:(fB.bF b cs t).ok w){off:Nat}{v:aD}(a:cs[off]? = J v):w.cell? ⟨b,off,aj⟩=J v:=by have c:w.heap[b]? = J (.cells cs.toArray t (0,0)):=h;simp[h7,c];simpa using a
theorem du.alloc(h:du ah L F w)(cs:U aD)(t:bD):du ah (.bF w.heap.size cs t::L) F (w.alloc (.cells cs.toArray t)):=by
 have ao:bM [] w (w.alloc (.cells cs.toArray t)):=bM.alloc _ _ _;refine⟨h.fw.trans (ao.mono (by simp)),?_,?_,?_,h.hN,?_⟩
 .intro x ag;simp at ag;rcases ag with rfl|ag
  .show(w.heap.push _)[w.heap.size]? = _;simp
  .exact fB.UW (h.ok x ag) ao (by simp)
 .rw[tt];refine List.nodup_append.2 ⟨by simp[fB.dZ],h.nodup,λa d b al e=>?_⟩;simp[fB.dZ]at d;have:=h.lt b al;omega
 .intro b al;rw[tt]at al;simp[fB.dZ]at al;rcases al with rfl|al
  .right;exact h.fw.size
  .exact h.own b al
 .refine h.qc.fresh (ao.mono (by simp)) λb al c=>?_;rw[tt]at al;simp[fB.dZ]at al c;rcases al with al|rfl|al
  .exact absurd al c.1
  .exact bU _
  .exact absurd al c.2
def x_(P:cP)(s:bD)(f:Nat):ae Nat:=match P.underlying s with
 |some (.struct aB)=>match aB[f]? with
  |some fd=>match gA P fd.type with|some bX=>if bX=0 then aj else J fd.offset|none=>aj
  |none=>aj
 |_=>aj
theorem jE(b off n:Nat):(⟨b,off,aj⟩:Addr).add n=⟨b,off+n,aj⟩:=by unfold Addr.add;split<;>simp_all
variable{s:bD}
theorem rb{f b off gJ:Nat}(i:(x_ P s f == J gJ)=ab)(ag:Env.aJ e x=J (.pointer (J ⟨b,off,aj⟩))):Pure P e (.fieldAddr s x f) (.pointer (J ⟨b,off+gJ,aj⟩)):=λn a w o j k=>by
 have c:x_ P s f=J gJ:=by simpa using i
 unfold x_ at c;split at c
 .rename_i aB l;split at c
  .rename_i fd d;split at c
   .rename_i bX g;split at c
    .cases c
    rename_i h;simp at c;simp[cE,k,Instr.fieldAt,j.aJ ag,dO l,d,Instr.sureAddr,fieldPlace,run_sizeOf g,if_neg h,jE]
   .cases c
  .cases c
 .cases c
def p9(P:cP)(t:bD):ae Nat:=match P.underlying t with|some (.slice u)=>gA P u|_=>aj
theorem Fe{n:Nat}(h:p9 P t=J n):∃u,P.underlying t=J (.slice u)/\gA P u=J n:=by
 unfold p9 at h;split at h
 .grind
 .cases h
variable{bX:Nat}{y:cO}
theorem alz{b off l c:Nat}{g:df}{i:Int}(j:(p9 P t == J bX)=ab)(ag:Env.aJ e x=J (.slice (J ⟨b,off,aj⟩) l c))(aE:Env.aJ e y=J (.int g i))(h : 0<=i/\i<l) :
  Pure P e (.indexAddr t x y) (.pointer (J ⟨b,off+i.toNat*bX,aj⟩)):=λn a w o f k=>by
 obtain⟨u,m,d⟩:=Fe AE;simp[cE,k,Instr.indexAt,f.aJ ag,f.aJ aE,asIntOf,dO m,e3,ga,gr,if_pos h,run_sizeOf d,jE]
variable{pM:Loc}{x':fB}
theorem du.aE0{x:fB}(h:du ah (x::pM) F w)(ao:bM x.dZ w w')(c:x'.ok w')(d:x'.dZ.Nodup)(e:∀b,b∈x'.dZ->b∈x.dZ\/w.heap.size<=b):du ah (x'::pM) F w':=by
 have a:=du.callee (mF:=[x]) (pM:=pM) h (Pre:=λ_=>True) (λ_ _=>trivial);have f:e9 [x]=x.dZ:=by simp[e9]
 have g:e9 [x']=x'.dZ:=by simp[e9]
 have i:du ⟨ah.P,0,w,e9 [x],ah.M++e9 pM⟩ [x'] (λ_=>True) w':=⟨by rw[f];exact ao,by simpa using c,by rw[g];exact d,by rw[g,f];exact e,a.hN,λ_ _=>trivial⟩
 exact(du.called (mF:=[x]) (L':=[x']) h rfl i).fact λ_ j=>j.1
theorem XU:∀{L:Loc}{i:Nat}{x:fB}(x':fB),L[i]? = J x->∃A B,L=A++x::B/\L.set i x' = A++x'::B
 |[],_,_,_,h=>by simp at h
 |y::L,0,x,x',h=>by simp at h;subst h;exact⟨[],L,rfl,rfl⟩
 |y::L,i+1,x,x',h=>by obtain⟨A,B,a,b⟩:=XU (L:=L) (i:=i) x' uO;exact⟨y::A,B,by rw[a];rfl,by simp[b]⟩
theorem du.alY{x:fB}(h:du ah L F w)(i:Nat)(e:L[i]? = J x)(ao:bM x.dZ w w')(a:x'.ok w')(c:x'.dZ.Nodup)(d:∀b,b∈x'.dZ->b∈x.dZ\/w.heap.size<=b):du ah (L.set i x') F w':=by
 obtain⟨A,B,f,g⟩:=XU x' e;have p1:L.Perm (x::(A++B)):=by rw[f];exact List.perm_middle
 have p2:(x'::(A++B)).Perm (L.set i x'):=by rw[g];exact List.perm_middle.symm
 exact((h.perm p1).aE0 ao a c d).perm p2
def one:aD->Bool|.agg _=>ai|.tuple _=>ai|_=>ab
theorem Mc{v:aD}(h:one v=ab):v.cells = #[v]:=by cases v<;>first|rfl|cases h
variable{u:aD}
theorem axY{p:Addr}{v:aD}(a:one v=ab)(ao:w.cell? p=J u)(b:w.frozen? p=ai):(store p v).run P w = .ok () (w.setCell p v):=by cases v<;>first|(cases a;done)|simp[store,Sem.run,ao,b]
def je(cs:U aD)(off:Nat):U aD->U aD|[]=>cs|v::vs=>je (cs.set off v) (off+1) vs
theorem Mw:∀(vs:U aD) (cs:U aD) (off:Nat),I (je cs off vs)=I cs
 |[],_,_=>rfl
 |v::vs,cs,off=>by simp[je,Mw vs]
def setCells(w:aT)(b off:Nat):U aD->aT|[]=>w|v::vs=>setCells (w.setCell ⟨b,off,aj⟩ v) b (off+1) vs
theorem alO{b off:Nat}{a:Nat×Nat}{v:aD}(h:w.heap[b]? = J (.cells cs.toArray t a)):(w.setCell ⟨b,off,aj⟩ v).heap[b]? = J (.cells (cs.set off v).toArray t a):=by simp[aT.setCell,Array.getElem?_modify,h]
theorem yv{P:cP}:∀(vs:U aD) (w:aT) (b off i:Nat) (cs:U aD) (t:bD),w.heap[b]? = J (.cells cs.toArray t (0,0))->off+i+I vs<=I cs->(∀v,v∈vs->one v=ab) ->
  (storeCells ⟨b,off,aj⟩ vs i).run P w = .ok () (setCells w b (off+i) vs)/\(setCells w b (off+i) vs).heap[b]? = J (.cells (je cs (off+i) vs).toArray t (0,0))/\bM [b] w (setCells w b (off+i) vs)
 |[],w,b,off,i,cs,t,h,_,_=>by simp[storeCells,setCells,je,h,bM.refl]
 |v::vs,w,b,off,i,cs,t,h,bz,aY=>by
  simp at bz;have ao:w.cell? ⟨b,off+i,aj⟩=J (cs[off+i]' af):=by simp only[h7,h];simp
  have a:w.frozen? ⟨b,off+i,aj⟩=false:=by simp[aT.frozen?,h]
  have c:=axY (P:=P) (aY v (by simp)) ao a;obtain⟨d,e,f⟩:=yv vs (w.setCell ⟨b,off+i,aj⟩ v) b off (i+1) (cs.set (off+i) v) t (alO h) d' (λu g=>aY u (by simp[g]));refine⟨?_,?_,?_⟩
  .simp[storeCells,e3,jE,c];rw[d];rfl
  .exact e
  .exact(bM.setCell w (by simp) v).trans f
section
variable {P:cP}{n:Nat}{ij:aT}{gE M:U Nat}{fn:Func}{kG:aD->Loc->(aT->Prop)->Prop}{bI t2 t3:Nat}{ty:bD}{p:Addr}{v1 v2 v3:aD}
end
end
section
variable {ah:di}{k:U mB}{e:Env}{L:Loc}{F:aT->Prop}{Q:Exit->Act->aT->Prop}{ops:Array bx}{rest:U bx}
def qW(v:aD)(bX n:Nat)(xs:U aD)(w:aT):Prop:=I xs=n*bX/\∃a c,v = .slice a n c/\(n=0\/∃b off,a=J ⟨b,off,aj⟩/\n<=c/\∀j u,xs[j]? = J u->w.cell? ⟨b,off+j,aj⟩=J u)
structure nK (P:cP) (t u:bD) (bX by_:Nat):Prop where
 yA:P.underlying t=J (.slice u)
 ex:∃i z,P.info? u=J i/\i.zero=J z/\i.size=bX/\i.bytes=by_/\z.cells.size=bX/\0<bX
def Uu(P:cP)(t u:bD)(bX by_:Nat):Bool:=match P.underlying t with
 |some (.slice kk)=>kk == u&&(match P.info? u with
  |some i=>(match i.zero with
   |some z=>i.size == bX&&i.bytes == by_&&z.cells.size == bX&&aa (0<bX)
   |none=>ai)
  |none=>ai)
 |_=>ai
variable{by_:Nat}{bX:Nat}
theorem FX{u:bD}(h:Uu P t u bX by_=ab):nK P t u bX by_:=by
 unfold Uu at h;split at h
 .rename_i d a;simp[ beq_iff_eq]at h;obtain⟨rfl,h⟩:=h;split at h
  .rename_i i b;split at h
   .rename_i z c;simp[ beq_iff_eq]at h;exact⟨a,i,z,b,c,h.1.1.1,h.1.1.2,h.1.2,h.2⟩
   .cases h
  .cases h
 .cases h
theorem du.newRow(h:du ah L F w)(t:bD)(bX:Nat):du ah (.row (.slice aj 0 0) t bX 0 []::L) F w:=by
 refine⟨h.fw,?_,?_,?_,h.hN,?_⟩
 .intro x ag;simp at ag;rcases ag with rfl|ag
  .exact aT.ownsRow_nil w 0 t bX
  .exact h.ok x ag
 .rw[tt];simpa[fB.dZ]using h.nodup
 .rw[tt];simpa[fB.dZ]using h.own
 .refine h.qc.mono ?_;intro x ag;rw[tt]at ag;simpa[fB.dZ]using ag
def ajs(ah:di)(L:Loc)(F:aT->Prop)(v:aD)(bX n:Nat)(xs:U aD):Prop:=∀w,du ah L F w->qW v bX n xs w
variable{xs:U aD}
theorem H7{v:aD}{n:Nat}(h:∀w,F w->qW v bX n xs w):ajs ah L F v bX n xs:=λw a=>h w a.here
theorem yn{v:aD}(h:one v=ab):v.oneCell' = true:=by cases v<;>first|rfl|cases h
variable{dst:Nat}{g:ae (Nat×Bool)}{pos:String}{ty:bD}
theorem H9{s:cO}{u:bD}{a5:Array Edge}{v bm:aD}{n:Nat}{ys:U aD}(i:Nat)(cr:m2 ops e g=J ab)(ar:eU dst ah.n=ab)(eZ:nK ah.P t u bX by_)
  (cw:Env.aJ e s=J v) (ag:Env.aJ e x=J bm) (bO:L[i]? = J (.row v u bX n xs)) (cq:ajs ah L F bm bX m ys) (dk:ys.all one=ab) (p:(n+m)*by_<=140737488355328) (ev:n+m<=9223372036854775807)
  (h:∀f,O ah ops rest k ((dst,f)::e) (L.set i (.row f u bX (n+m) (xs++ys))) F Q) :
  O ah ops (⟨J dst,.call ⟨.builtin .append, #[s,x], #[t,t]⟩,ty,pos,a5,g⟩::rest) k e L F Q:=by
 refine sZ (λr L' eG=>∃f,r=f/\L' = L.set i (.row f u bX (n+m) (xs++ys))/\eG = F) cr ar (λa w he a9=>?_) (λr L' eG ⟨f,aF,gR,fC⟩=>by rw[aF,gR,fC];exact h f);have d:w.ownsRow 0 u bX v n xs:=a9.ok _ (lW bO);have aY:∀y,y∈ys->one y=true:=dH.1 dk;obtain⟨a3,ad,c,rfl,bZ⟩:=cq w a9;obtain⟨hu,i0,z,a4,dK,ct,cM,ap,cV⟩:=eZ;have bB:∀(r:aD) (w':aT),(oT #[t,t] ty #[v,.slice ad m c]).run ah.P w = .ok r w'->(cE a.eval ⟨J dst,.call ⟨.builtin .append, #[s,x], #[t,t]⟩,ty,pos,a5,g⟩).run ah.P w = .ok (.value r) w':=by intro r w' aF;simp[cE,resolve,invoke,builtin,e3,ga,hk,List.map_nil,he.aJ cw,he.aJ ag,aF]
 have bG:∀(f:aD) (w':aT),w'.ownsRow 0 u bX f (n+m) (xs++ys)->w.grownBy w' v.ownBlock->(∀g,f.ownBlock=J g->v.ownBlock=J g\/w.heap.size<=g)->du ah (L.set i (.row f u bX (n+m) (xs++ys))) F w':=by
  intro f w' bS b7 dv;have cS:∀(r:aD) (q:Nat),q∈(fB.row r u bX n xs).dZ↔r.ownBlock=J q:=ajd
  have cZ:∀(r:aD) (q:Nat),q∈(fB.row r u bX (n+m) (xs++ys)).dZ↔r.ownBlock=J q:=ajd
  refine a9.alY i bO (bM.grown b7 λq bV=>(cS v q).2 bV) bS ?_ λq bV=>?_
  .cases f with|slice a l c=>cases a<;>simp[fB.dZ]|_=>simp[fB.dZ]
  .rcases dv q ((cZ f q).1 bV)with tN|tN
   .exact .inl ((cS v q).2 tN)
   .exact .inr tN
 rcases bZ with rfl|⟨b,off,rfl,_,bE⟩
 .have dI:ys=[]:=k0 (by simpa using a3);subst dI;have aF:(oT #[t,t] ty #[v,.slice ad 0 c]).run ah.P w = .ok v w:=by
   rcases d.2 with ⟨rfl,rfl⟩|⟨q,cap,cur,rfl,_,bV,am,_⟩
   .cases ad<;>simp[ dO hu,go_sem,sizeOf,typeInfo,a4,jq.lenOf,loadCells,loadCellsFrom]
   .cases ad<;>simp[ dO hu,go_sem,sizeOf,typeInfo,a4,jq.lenOf,loadCells,loadCellsFrom,am,storeCells]
  refine⟨v,w,_,F,bB v w aF,bG v w uN ⟨rfl,rfl,rfl,bU _,λ_ _ _=>rfl⟩ (λg cr=>.inl cr),v,rfl,rfl,rfl⟩
 .have o:∀j kk,ys[j]? = J kk->w.cell? ((⟨b,off,aj⟩:Addr).add j)=J kk:=λj kk dh=>by rw[jE];exact bE j kk dh
  obtain⟨f,w',aF,bS,b7,_⟩:=run_append_own (P:=ah.P) w 0 t ty u i0 z bX by_ hu a4 dK ct cM ap cV v n xs d ⟨b,off,aj⟩ m c ys a3 o (λy aE=>yn (aY y aE)) (by simp[dr];omega) p (cL _);refine⟨f,w',_,F,bB f w' aF,bG f w' bS b7 ?_,f,rfl,rfl,rfl⟩;intro g cr;subst ct;subst cM;rcases d.2 with ⟨rfl,rfl⟩|⟨q,cap,cur,rfl,_,bV,am,_,ek,_⟩
  .by_cases hm:m=0
   .subst hm
    grind
   .have bg:=run_append_nil (P:=ah.P) w t ty u i0 z hu a4 dK ⟨b,off,aj⟩ m c ys a3 o af af (by simp[h6]at p;omega);exact ai2
  .by_cases a2:n+m<=cap
   .have db:n*i0.size+I ys<=cur.size:=by rw[a3,ek,<-Nat.add_mul];exact ly _ a2
    have bg:=run_append_room (P:=ah.P) w t ty u i0 hu a4 q n cap cur bV ⟨b,off,aj⟩ m c ys a3 o (λy aE=>yn (aY y aE)) a2 db;have:=aF.symm.trans bg;simp at this;obtain⟨rfl,_⟩:=this;exact .inl cr
   .have ac:∀j kk,xs[j]? = J kk->w.cell? ((⟨q,0,aj⟩:Addr).add j)=J kk:=d.cells (g:=q) rfl;have bg:=run_append_grow (P:=ah.P) w t ty u i0 z hu a4 dK ⟨q,0,aj⟩ n cap xs d.1 ac ⟨b,off,aj⟩ m c ys a3 o af af (growslice_fits af p);exact ai2
end
section
variable {ah:di}{k:U mB}{e:Env}{L:Loc}{F:aT->Prop}{Q:Exit->Act->aT->Prop}{ops:Array bx}{rest:U bx}
theorem at0(l:U UInt8)(a b:Nat):(ByteArray.mk l.toArray).extract a b=⟨((l.drop a).take (b-a)).toArray⟩:=by apply ByteArray.ext;simp[ List.take_drop]
theorem Tu{l:U UInt8}(d:oR P t=ab)(dU c:ae aD)(a b:Nat)(w:aT)(h:(ko ai (I l) (I l) dU c aj).run P w = .ok (a,b,I l) w) :
  (Instr.sliceAt t (S l) dU c aj).run P w = .ok (S ((l.drop a).take (b-a))) w:=by
 simp[Instr.sliceAt,Instr.slice,dO (sC d),ag9,h,at0]
variable{j:Int}{y:cO}{z:cO}
theorem U1{l:U UInt8}{c d:df}{i:Int}(f:oR P t=ab)(ag:Env.aJ e x=J (S l))(aE:Env.aJ e y=J (.int c i))(g:Env.aJ e z=J (.int d j))(h : 0<=i/\i<=j/\j<=I l) :
  Pure P e (.slice t x (J y) (J z) aj) (S (cut l i j)):=λn a w o b k=>by
 have al:(ko ai (I l) (I l) (J (.int c i)) (J (.int d j)) aj).run P w = .ok (i.toNat,j.toNat,I l) w:=by
  have m : 0<=j/\j<=(I l:Int):=af
  have p : 0<=i/\i<=(j.toNat:Int):=af
  simp only[ko,Instr.sliceBound,asIntOf,e3,ga,gr,if_pos m,if_pos p]
 simp[cE,k,b.aJ ag,b.aJ aE,b.aJ g,(Tu f _ _ _ _ w al),cut]
theorem U3{l:U UInt8}{b:df}{i:Int}(d:oR P t=ab)(ag:Env.aJ e x=J (S l))(aE:Env.aJ e y=J (.int b i))(h : 0<=i/\i<=I l) :
  Pure P e (.slice t x (J y) aj aj) (S (l.drop i.toNat)):=λn a w o c f=>by
 have al:(ko ai (I l) (I l) (J (.int b i)) aj aj).run P w = .ok (i.toNat,I l,I l) w:=akc
 have g:(l.drop i.toNat).take (I l-i.toNat)=l.drop i.toNat:=List.take_of_length_le (by simp);simp[cE,f,c.aJ ag,c.aJ aE,(Tu d _ _ _ _ w al),g]
theorem U2{l:U UInt8}{b:df}(d:oR P t=ab)(ag:Env.aJ e x=J (S l))(f:Env.aJ e z=J (.int b j))(h : 0<=j/\j<=I l) :
  Pure P e (.slice t x aj (J z) aj) (S (l.take j.toNat)):=λn a w o c g=>by
 have al:(ko ai (I l) (I l) aj (J (.int b j)) aj).run P w = .ok (0,j.toNat,I l) w:=akc
 simp[cE,g,c.aJ ag,c.aJ f,(Tu d _ _ _ _ w al),Nat.sub_zero]
variable{u:aD}
theorem aEC{v:aD}(ag:Env.aJ e x=J v)(b:∀w,(Instr.sliceAt t v aj aj aj).run P w = .ok u w):Pure P e (.slice t x aj aj aj) u:=λn a w o c d=>by simp[cE,d,c.aJ ag,b w,ga]
theorem V6:∀(us:U aD) (pre a post:U aD),I us<=I post ->
  (us.zipIdx (I a)).foldl (λ(cs:Array aD) (x:aD×Nat)=>cs.setIfInBounds (I pre+x.2) x.1) (pre++a++post).toArray=(pre++a++us++post.drop (I us)).toArray
 |[],pre,a,post,_=>by simp
 |u::us,pre,a,[],h=>by simp at h
 |u::us,pre,a,p::post,h=>by
  have b:(pre++a++p::post).toArray.setIfInBounds (I pre+I a) u=(pre++(a++[u])++post).toArray:=im
  have c:=V6 us pre (a++[u]) post uO
  grind
theorem L3(bX:Nat):∀(vs:U aD) (st:Nat) (pre post:U aD),(∀v,v∈vs->v.cells.size=bX)->I pre=st*bX->I vs*bX<=I post ->
  Instr.fill (λi=>J (i*bX,bX)) (pre++post).toArray ((j4 st (I vs)).zip vs)=J (pre++vs.flatMap (λv=>v.cells.toList)++post.drop (I vs*bX)).toArray
 |[],st,pre,post,_,_,_=>by simp[Instr.fill]
 |v::vs,st,pre,post,aY,aZ,bg=>by
  have b:=aY v (by simp);simp at bg;have c:bX+I vs*bX<=I post:=by rw[Nat.add_mul]at bg;omega
  have d:=V6 v.cells.toList pre [] post d';have a:¬((v.cells.size≠bX||decide (st*bX+v.cells.size > (pre++post).toArray.size))=ab):=d'
  have e:=L3 bX vs (st+1) (pre++v.cells.toList) (post.drop bX) (λu f=>aY u (by simp[f])) (by simp[b,aZ,Nat.add_mul]) d';simp only[eo,List.range'_succ,List.zip_cons_cons,Instr.fill];rw[if_neg a];have g:(v.cells.zipIdx.foldl (λ(cs:Array aD) (x:aD×Nat)=>cs.setIfInBounds (st*bX+x.2) x.1) (pre++post).toArray)=(pre++v.cells.toList++post.drop bX).toArray:=by rw[<-Array.foldl_toList,Array.toList_zipIdx,<-aZ];simpa[b]using d
  rw[g,e];simp[ Nat.add_mul,Nat.add_comm]
variable{by_:Nat}{dst:Nat}{g:ae (Nat×Bool)}{pos:String}{bX:Nat}{ty:bD}{vs:U aD}
theorem BK{len:Nat}{parts:U (Nat×cO)}{u:bD}{l:Array Edge}(cr:m2 ops e g=J ab)(ar:eU dst ah.n=ab)(eZ:nK ah.P t u bX by_)
  (aW:parts.map (·.1)=j4 0 len) (ag:Env.gH e (parts.map (·.2))=J vs) (a5:vs.all (λv=>v.cells.size == bX)=ab) (hm:eF (len*bX) 16777216=ab)
  (h:∀b,O ah ops rest k ((dst,.slice (J ⟨b,0,aj⟩) len len)::e) (.bF b (vs.flatMap λv=>v.cells.toList) u::L) F Q) :
  O ah ops (⟨J dst,.buildSlice t len parts.toArray,ty,pos,l,g⟩::rest) k e L F Q:=by
 refine sZ (λr L' eG=>∃b,r = .slice (J ⟨b,0,aj⟩) len len/\L' = .bF b (vs.flatMap λv=>v.cells.toList) u::L/\eG = F) cr ar (λa w he cw=>⟨_,_,_,_,?_,cw.alloc _ u,w.heap.size,rfl,rfl,rfl⟩) (λr L' eG ⟨b,aF,gR,fC⟩=>by rw[aF,gR,fC];exact h b);obtain⟨hu,i0,z,s,dK,m,cq,ct,ac⟩:=eZ;have bB:=he.gH ag;have y:I parts=len:=by have:=congrArg List.length aW;simpa using this
 have o:I vs=len:=by rw[<-bB];simpa using y
 have bE:parts.map (λp=>(p.1,a.eval p.2))=(j4 0 (I vs)).zip vs:=im
 have a2:∀v,v∈vs->v.cells.size=bX:=by simpa using a5
 have bG:¬(len*bX > 2 ^ 24):=by simp_all
 have d:I ((Array.range (len*bX)).map λi=>z.cells[i % z.cells.size]!).toList=len*bX:=by simp
 have c:=L3 bX vs 0 [] ((Array.range (len*bX)).map λi=>z.cells[i % z.cells.size]!).toList a2 (by simp) (by rw[d,o];exact bU _);have q:((Array.range (len*bX)).map λi=>z.cells[i % z.cells.size]!).toList.drop (I vs*bX)=[]:=gn (by rw[d,o];exact bU _);rw[q]at c;simp only[nX,kq]at c;have a9:(zeroValue u).run ah.P w = .ok z w:=by simp[zeroValue,typeInfo,s,dK]
 have j:(sizeOf u).run ah.P w = .ok bX w:=by simp[sizeOf,typeInfo,s,m]
 have a3:parts.toArray.map (λp=>(p.1,a.eval p.2))=((j4 0 (I vs)).zip vs).toArray:=by rw[List.map_toArray,bE]
 by_cases dm:len*bX=0
 .have bZ:vs=[]:=by
   apply k0;rw[o];rcases Nat.mul_eq_zero.1 dm with h|h
   .exact h
   .omega
  subst bZ;simp only[cE,Instr.buildSlice,e3,dO hu,gr,j,dm,if_true];have a4:parts.toArray.map (λp=>(p.1,a.eval p.2)) = #[]:=by rw[a3];rfl
  have:(parts.toArray.map λx=>match x with|(i,x)=>(i,a.eval x)) = #[]:=a4;have b7:∀f:Nat->aD,(Array.range 0).map f = #[]:=λf=>by simp
  simp[this,Instr.fill,newRow,Sem.run,b7]
 .have:(parts.toArray.map λx=>match x with|(i,x)=>(i,a.eval x))=((j4 0 (I vs)).zip vs).toArray:=a3;simp[cE,Instr.buildSlice,dO hu,j,if_neg bG,if_neg dm,a9,this,c,newRow,Sem.run]
end
def vh(Q:Exit->Act->aT->Prop):Prop:=∀b a w,¬Q (.panic b) a w
theorem K1{aDf:cP}:vh (bodyPost P fn (Ke aDf w gE M kG)):=by rintro b a w' ⟨_,v,L',eG,h,_⟩;cases h
theorem AH{P:cP}{Q:Exit->Act->aT->Prop}(h:vh Q):∀k,vh (m3 P Q k)
 |[]=>h
 |.seq _::k=>λb a w c=>AH h k b a w c
 |.bF _::k=>λb a w c=>AH h k b a w c
 |.loop _::k=>λb a w c=>AH h k b a w c
 |.drawn _ _ _::k=>λb a w c=>AH h k b a w c
 |.scope::k=>λb a w c=>AH h k b a w c
def q2(P:cP)(ops:Array bx)(b:bx)(v:aD)(a:Act):Prop:=(kt b (yielded ops a.tmps)=ab/\∀w,(cE a.eval b).run P w = .ok (.value v) w)\/(kt b (yielded ops a.tmps)=ai/\v=undef)
section
variable {P:cP}{ops:Array bx}{md:Region.Mode}{Q:Exit->Act->aT->Prop}
theorem q2.sn{c e:bx}{v:aD}(f:∀cs b,c.op ≠ .select cs b)(g:∀d,e.dst=J d->d∉c.looksAt ops)(h:q2 P ops c v a)(u:aD):q2 P ops c v (a.put e.dst u):=by unfold q2 at *;rw[execOp_put c f a e.dst u g,wanted_put c a e.dst u g];exact h
theorem q2.wpOp{i:Nat}{b:bx}{v:aD}{a:Act}{w:aT}{K:Act->aT->Prop}(d:ops[i]? = J b)(aE:q2 P ops b v a)(h:K (a.put b.dst v) w):wpOp P ops Q i K a w:=by
 unfold Go.wpOp;simp[d];rcases aE with ⟨c,e⟩|⟨c,rfl⟩
 .simp[c];left;unfold bx.wp;rw[e];exact h
 .grind
variable{K:Act->aT->Prop}
theorem aqr{j:Nat}{c g:bx}{v:aD}(y:vh Q)(dh:ops[j]? = J g)(o:c.apart ops g=ab)(e:∀cs b,c.op ≠ .select cs b)(l:∀cs b,g.op ≠ .select cs b)
  (aE:q2 P ops c v a) (h:wpOp P ops Q j K (a.put c.dst v) w):wpOp P ops Q j (λca w'=>q2 P ops c v ca/\K (ca.put c.dst v) w') a w:=by
 obtain⟨p,z,k⟩:=bx.apart_spec o;have comm:∀u,(a.put c.dst v).put g.dst u=(a.put g.dst u).put c.dst v:=λu=>Act.put_comm a v u z;unfold wpOp at *;simp only[dh]at *;rw[wanted_put g a c.dst v p]at h;split
 .rename_i q;simp[q]at h;rcases h with h|⟨⟨hm,m⟩,bz⟩
  .left;unfold bx.wp at *;rw[execOp_put g l a c.dst v p]at h;generalize (cE a.eval g).run P w=r at *;cases r with
   |ok n w'=>
    cases n<;>simp[bx.upon]at h ⊢
    case value u=>exact⟨aE.sn e k u,by rw[<-comm];exact h⟩
    case skip=>exact⟨aE.sn e k undef,by rw[<-comm];exact h⟩
    case defer d=>
     have m:q2 P ops c v ({ a with defers:=d::a.defers }:Act):=aE;refine⟨m.sn e k undef,?_⟩;rw[<-Act.put_comm _ v undef z];have de:({ a.put c.dst v with defers:=d::(a.put c.dst v).defers }:Act)=({ a with defers:=d::a.defers }:Act).put c.dst v:=by cases c.dst<;>rfl
     rw[<-de];exact h
    case enter f args=>refine Calls.mono h λdJ t i=>?_;cases dJ with|returned u=>exact⟨aE.sn e k u,by rw[<-comm];exact i⟩|panicked x2=>exact absurd i (y _ _ _)|outgrown=>exact i
    case row s args=>exact Rows.mono h λu t hu=>⟨aE.sn e k u,by rw[<-comm];exact hu⟩
   |halt x w'=>
    cases x<;>simp[bx.upon]at h ⊢
    case panic u=>exact absurd h (y _ _ _)
  .right;rw[execOp_put g l a c.dst v p]at hm m;exact⟨⟨hm,m⟩,bz⟩
 .rename_i q;simp[q]at h;exact⟨aE.sn e k _,by rw[<-comm];exact h⟩
variable{i:Nat}
theorem arj{q:bx}{v:aD}(gg:vh Q)(u:ops[i]? = J q)(g:∀(j:Nat) (o:bx) cs b,ops[j]? = J o->o.op ≠ .select cs b) :
  ∀(fuel:Nat) (listed:Array Bool) (a:Act) (w:aT),
   (∀j m,ops[j]? = J m->j≠i->listed.getD j ab=ai->(∀e∈m.after,Region.binds md e=ab->e.on≠i)->q.apart ops m=ab) ->
   i∈iB md ops listed->q2 P ops q v a->wpAny P md ops Q fuel (listed.setIfInBounds i ab) (a.put q.dst v) w->wpAny P md ops Q (fuel+1) listed a w:=by
 intro fuel;induction fuel with
 |zero=>
  intro listed a w _ n aE H;refine⟨λh=>(by rw[h]at n;cases n),λj t=>?_⟩;by_cases c:j=i
  .subst c;exact aE.wpOp u H
  .have:=ready_mono t c;rw[H.1]at this;cases this
 |succ fuel jz=>
  intro listed a w d n aE H;refine⟨λh=>(by rw[h]at n;cases n),λj t=>?_⟩;by_cases c:j=i
  .subst c;exact aE.wpOp u H
  .have x:=H.2 j (ready_mono t c);obtain⟨l,m,p,r⟩:=mem_ready.1 t;have s:∀e∈m.after,Region.binds md e=ab->e.on≠i:=λe he al y=>by
    have x:=r e he al;have dm:=(mem_ready.1 n).1;rw[y]at x;rcases Nat.lt_or_ge i listed.size with tN|tN
    .grind
    .grind
   have f:∀k ok,ops[k]? = J ok->k≠i->(listed.setIfInBounds j ab).getD k ab=ai ->
     (∀e∈ok.after,Region.binds md e=ab->e.on≠i)->q.apart ops ok=true:=λk ok bf z a4 a2=>by
    refine d k ok bf z ?_ a2;by_cases a3:j=k
    .subst a3;exact l
    .simp_all
   refine wpOp_mono (λca w' bg=>jz (listed.setIfInBounds j ab) ca w' f (ready_mono n (hE c)) bg.1 ?_) (aqr gg p (d j m p c l s) (λcs b=>g i q cs b u) (λcs b=>g j m cs b p) aE x);rw[Array.setIfInBounds_comm _ _ c];exact bg.2
end
structure D (ah:di) (ops:Array bx) (fuel:Nat) (listed:Array Bool) (k:List mB) (e:Env) (L:Loc) (F:aT->Prop) (Q:Exit->Act->aT->Prop):Prop where
 run:vh Q->∀a w,jO ah.n e a->du ah L F w->wpAny ah.P .any ops (m3 ah.P Q k) fuel listed a w
section
variable {ah:di}{k:U mB}{e:Env}{L:Loc}{F:aT->Prop}{Q:Exit->Act->aT->Prop}{ops:Array bx}{fuel:Nat}{listed:Array Bool}
variable{id:Nat}
theorem af1{l:U bx}(hm:ah.P.follows .mixedOrders=ab)(b:vh Q)(h:D ah l.toArray l.toArray.size (Array.replicate l.toArray.size ai) k e L F Q):G ah (.region id l.toArray ab) k e L F Q:=.mk λa w c d=>wp_region_any hm (h.run b a _ c (d.quiet (bM.drawn [] w _)))
theorem ajK(j:(iB .any ops listed).isEmpty=ab)(h:N ah k e L F Q):D ah ops fuel listed k e L F Q:=.mk λ_ a w c d=>by
 have b:iB .any ops listed=[]:=AE
 cases fuel with|zero=>exact⟨b,h.run a w c d⟩|succ f=>exact⟨λ_=>h.run a w c d,λi g=>by rw[b]at g;cases g⟩
variable{i:Nat}
theorem aB0{b:bx}{v:aD}(ao:(Region.noSelect ops&&(iB .any ops listed).contains i&&Region.free .any ops listed i)=ab)(g:ops[i]? = J b)
  (aE:∀a,jO ah.n e a->q2 ah.P ops b v a) (c:∀a,jO ah.n e a->jO ah.n ((match b.dst with|some d=>[(d,v)]|none=>[])++e) (a.put b.dst v)) (h:D ah ops fuel (listed.setIfInBounds i ab) k ((match b.dst with|some d=>[(d,v)]|none=>[])++e) L F Q):D ah ops (fuel+1) listed k e L F Q:=.mk λj a w l m=>by
 simp at ao;obtain⟨⟨f,o⟩,p⟩:=ao;exact arj (AH j k) g (Region.noSelect_spec f) fuel listed a w (Region.free_spec g p) (by simpa using o) (aE a l) (h.run j _ w (c a l) m)
variable{dst:Nat}{g:ae (Nat×Bool)}{op:Op}{pos:String}
theorem m8{b:Array Edge}{v:aD}(i:Nat)(d:ops[i]? = J ⟨J dst,op,t,pos,b,g⟩)(f:m2 ops e g=J ab)(ar:eU dst ah.n=ab)
  (ao:(Region.noSelect ops&&(iB .any ops listed).contains i&&Region.free .any ops listed i)=ab) (j:Pure ah.P e op v) (h:D ah ops fuel (listed.setIfInBounds i ab) k ((dst,v)::e) L F Q):D ah ops (fuel+1) listed k e L F Q:=
 aB0 ao d (λa c=>.inl ⟨m2.wanted (o:=⟨J dst,op,t,pos,b,g⟩) c f,λw=>j ah.n a w _ c rfl⟩) (λ_ c=>c.put ar v) h
variable{K:Act->aT->Prop}{o:bx}
theorem al7{Q:Exit->Act->aT->Prop}(d:ops[i]? = J o)(h:wpList P ops (Exit.then K Q) [o] a w):wpOp P ops Q i K a w:=by
 unfold wpOp;simp[d];simp[wpList]at h;split
 .rename_i b;simp[b]at h;rcases h with h|⟨e,f⟩
  .left;unfold bx.wp at *;generalize (cE a.eval o).run P w=r at *;cases r with
   |ok n w'=>
    cases n<;>simp[bx.upon]at h ⊢ <;> first
     |exact h
     |exact Calls.mono h (λdJ g c=>by cases dJ<;>exact c)
   |halt x w'=>cases x<;>simp[bx.upon]at h ⊢ <;> exact h
  .right;exact⟨e,f⟩
 .rename_i b;simp[b]at h;exact h
theorem ajh(i:Nat)(f:ops[i]? = J o)(g:(iB .any ops listed == [i])=ab)(h:O ah ops [o] (.drawn ops fuel (listed.setIfInBounds i ab)::k) e L F Q):D ah ops (fuel+1) listed k e L F Q:=.mk λ_ a w l m=>by
 have b:iB .any ops listed=[i]:=w6
 refine⟨λd=>(by rw[b]at d;cases d),λj c=>?_⟩;rw[b]at c;simp at c;subst c;exact al7 f (h.run a w l m)
theorem ahC(b:vh Q)(h:D ah ops fuel listed k e L F Q):N ah (.drawn ops fuel listed::k) e L F Q:=.mk λa w c d=>h.run b a w c d
end
end Go.av
namespace Go.av
section
variable {ah:di}{k:U mB}{e:Env}{L:Loc}{F:aT->Prop}{Q:Exit->Act->aT->Prop}{ops:Array bx}{l:U bx}{c:Code}{id fuel:Nat}{listed:Array Bool}{sI:Loc->(aT->Prop)->Prop}
theorem kI(h:O ah ops l k e L F Q):O ah ops l k e L F Q:=h
theorem kJ(h:G ah c k e L F Q):G ah c k e L F Q:=h
theorem kH(h:N ah k e L F Q):N ah k e L F Q:=h
theorem Kt(h:D ah ops fuel listed k e L F Q):D ah ops fuel listed k e L F Q:=h
end
open Go.RowKit
def Gf(c d:df)(a b:Int)(r:ae Bool):ae Bool:=match aa (c=d),r with|true,J r=>J ((a == b)&&r)|_,_=>aj
def jH(P:cP)(xs ys:Array aD):U Field->ae Bool
 |[]=>J ab
 |f::aB=>match f.name == "_",P.underlying f.type,xs[f.offset]?,ys[f.offset]? with|false,J (.int _),J (.int fJ a),J (.int f_ b)=>Gf fJ f_ a b (jH P xs ys aB)|false,J .string,J (.string a),J (.string b)=>(jH P xs ys aB).map λr=>(aa (a.data.toList=b.data.toList))&&r|false,J .bool,J (.bool a),J (.bool b)=>(jH P xs ys aB).map λr=>(a == b)&&r|_,_,_,_=>aj
variable{P:cP}{t:bD}
theorem A5{d:TypeDesc}{xs:Array aD}{i:Nat}{v:aD}(a:P.underlying t=J d)(f:∀aB,d ≠ .struct aB)(al:∀n e,d ≠ .array n e)(b:xs[i]? = J v)(w:aT):(part t xs i).run P w = .ok v w:=by
 have c:(isAgg t).run P w = .ok ai w:=by
  simp only[isAgg,e3,dO a]
  simp_all
 simp[part,c,b]
theorem HK{P:cP}{xs ys:Array aD}(d:Nat):∀(aB:U Field) (r:Bool),jH P xs ys aB=J r->∀w,(Op.eqFields (d+1) xs ys aB).run P w = .ok r w
 |[],r,h,w=>by simp[jH]at h;subst h;simp[Op.eqFields]
 |f::aB,r,h,w=>by
  unfold jH at h;split at h
  .rename_i u o a s b j c ag aE;cases e:jH P xs ys aB with
   |none=>rw[e]at h;simp only[Gf]at h;split at h<;>first|(simp at *;done)|cases h
   |some k=>
    rw[e]at h;have n:o=s:=by
     by_cases n:o=s
     .exact n
     .simp[Gf,n]at h
    subst n;simp[Gf,decide_true]at h;have p:=HK d aB k e w;have g:f.name ≠ "_" :=AE
    have q:=A5 c (λ_=>by simp) (λ_ _=>by simp) ag w;have l:=A5 c (λ_=>by simp) (λ_ _=>by simp) aE w;have i:=run_equalIn_int (P:=P) w d f.type o _ a b c;simp only[Op.eqFields,if_pos g,e3,q,l,i,gr];rw[<-h];cases m:(a == b)
    .simp
    .simp[p]
  .rename_i a b j c ag aE;cases e:jH P xs ys aB with
   |none=>rw[e]at h;cases h
   |some k=>
    rw[e]at h;simp only[q5,dN]at h;have p:=HK d aB k e w;have g:f.name ≠ "_" :=AE
    have q:=A5 c (λ_=>by simp) (λ_ _=>by simp) ag w;have l:=A5 c (λ_=>by simp) (λ_ _=>by simp) aE w;have i:=run_equalIn_string (P:=P) w d f.type a b c;have t:(a.toList == b.toList)=aa (a.data.toList=b.data.toList):=by rw[ByteArray.toList_eq,ByteArray.toList_eq];rw[Bool.eq_iff_iff];simp
    rw[t]at i;simp only[Op.eqFields,if_pos g,e3,q,l,i,gr];rw[<-h];cases m:aa (a.data.toList=b.data.toList)
    .simp
    .simp[p]
  .rename_i a b j c ag aE;cases e:jH P xs ys aB with
   |none=>rw[e]at h;cases h
   |some k=>
    rw[e]at h;simp[q5]at h;have g:f.name ≠ "_" :=AE
    have l:=A5 c (λ_=>by simp) (λ_ _=>by simp) aE w;have i:=run_equalIn_bool' (P:=P) w d f.type a b c;simp only[Op.eqFields,if_pos g,e3,(A5 c (λ_=>by simp) (λ_ _=>by simp) ag w),l,i,gr];rw[<-h];cases m:(a == b)
    .simp
    .simp[(HK d aB k e w)]
  .cases h
def tX(P:cP)(t:bD):Bool:=(match P.underlying t with|some (.struct _)=>ab|_=>ai) && !P.stoodInHeld t && !P.eqGuardType P.depth t
section
variable {P:cP}{e:Env}{t t':bD}{x y:cO}{xs ys:Array aD}{r:Bool}
theorem adO(a:tX P t=ab)(b:jH P xs ys (P.fieldsOf t).toList=J r)(w:aT):(Op.equalIn 10000 t (.agg xs) (.agg ys)).run P w = .ok r w:=by
 simp[tX,bN]at a;have c:P.underlying t=J (.struct (P.fieldsOf t)):=by
  have:=a.1.1;unfold cP.fieldsOf
  grind
 rw[show(10000:Nat)=9999+1 from rfl,run_equalIn_struct w 9999 t xs ys c a.1.2];exact HK 9998 _ r b w
theorem aEq(a:tX P t=ab)(ag:Env.aJ e x=J (.agg xs))(aE:Env.aJ e y=J (.agg ys))(b:jH P xs ys (P.fieldsOf t).toList=J r):Pure P e (.binOp .eql t x y t') (.bool r):=h4 ag aE (λw=>run_eqGuard_agg w _ _ _ _ _ _ (by simp[tX,bN]at a;exact a.2)) λw=>by rw[run_eql_struct,adO a b];rfl
theorem aEv(a:tX P t=ab)(ag:Env.aJ e x=J (.agg xs))(aE:Env.aJ e y=J (.agg ys))(b:jH P xs ys (P.fieldsOf t).toList=J r):Pure P e (.binOp .neq t x y t') (.bool (!r)):=h4 ag aE (λw=>run_eqGuard_agg w _ _ _ _ _ _ (by simp[tX,bN]at a;exact a.2)) λw=>by rw[run_neq_struct,adO a b];rfl
end
variable{a:ae Addr}{c:Nat}
theorem qW.cap{bX n:Nat}{xs:U aD}{w:aT}(h:qW (.slice a n c) bX n xs w):n<=c:=by
 obtain⟨_,ca,e,b,d⟩:=h;simp at b;obtain⟨rfl,_,rfl⟩:=b;rcases d with rfl|⟨_,_,_,h,_⟩
 .omega
 .exact h
theorem aAR{e:Env}{x z:cO}{n:Nat}{b:df}{j:Int}(bX:Nat)(f:(p9 P t == J bX)=ab)(ag:Env.aJ e x=J (.slice a n c))(g:Env.aJ e z=J (.int b j))(h : 0<=j/\j<=c) :
  Pure P e (.slice t x aj (J z) aj) (.slice a j.toNat c):=λp ca w o d i=>by
 obtain⟨u,k,l⟩:=Fe (n:=bX) (by simpa using f);have m:(Instr.sliceAt t (.slice a n c) aj (J (.int b j)) aj).run P w = .ok (.slice a j.toNat c) w:=by
  have hm:(if c=0 then a else a.map (λx=>x.add 0))=a:=by
   split
   .rfl
   .cases a<;>simp[Addr.add]
  simp[Instr.sliceAt,Instr.slice,dO k,ko,Instr.sliceBound,asIntOf,if_pos h,run_sizeOf l,hm]
 simp[cE,i,d.aJ ag,d.aJ g,m,ga]
end Go.av
namespace Go.ft
open Go.RowKit
structure di where
 P:cP
 ij:aT
 gE:hn
 M:hn
 el:cl->bD
 cD:Nat->Option lI
structure FS where
 n:Nat
 env:Nat->Option D
 c7:Nat
 lt:Nat
 cx:List Fr
 au:Nat->Option dW
 nb:Nat
 bJ:Nat->Prop
 bu:Nat
def aB(st:bw):FS:=⟨st.n,get st.env,st.c7,st.lt,st.cx,bF st.au,st.nb,λt=>t∈st.bh,st.bu⟩
def fF(m:ed)(s:FS):hn:=λb i=>(∃k,s.au k≠aj/\m.au k=b)\/∃t o,s.bJ t/\m.bh t=J (b,o)/\o<=i
def vx(ah:di)(m:ed)(s:FS)(w:aT):dn:=⟨m,s.bJ,λb i=>ah.M b i\/fF m s b i,w,s.nb,s.bu,ah.el⟩
structure mx (x:dn) (n:Nat) (env:Nat->Option D) (a:Act):Prop where
 defers:a.defers=[]
 size:a.tmps.size=n
 get:∀k d,env k=J d->∃v,a.tmps[k]? = J v/\aG x d v
def pz(x:dn):Nat->Nat->U Fr->U Act->Prop|_,_,[],as_=>as_=[]|c7,lt,f::aB,as_=>∃a r,as_=a::r/\f.c7<=c7/\f.lt<=lt/\mx { x with nb:=c7,bu:=lt } f.n (get f.env) a/\pz x f.c7 f.lt aB r
def kK(x:dn)(β:Nat):dW->Prop|.cells az=>az.all e_=ab/\∃(vs:U aD) (t:bD),x.w.heap[β]? = J (.cells vs.toArray t (0,0))/\bl x az vs|.box c y=>fv c=ab/\∃(vs:U aD) (t:bD),x.w.heap[β]? = J (.cells vs.toArray t (0,0))/\I vs=a8 c/\∀(j:Nat) d,(enc c y)[j]? = J d->∃u,vs[j]? = J u/\gl x.S x.w d u|.row c n xs=>I xs=n/\∃(vs:U aD) (t:bD),x.w.heap[β]? = J (.cells vs.toArray t (0,0))/\I vs=I xs*a8 c/\∀i y j d,xs[i]? = J y->(enc c y)[j]? = J d->∃u,vs[i*a8 c+j]? = J u/\gl x.S x.w d u|.dyn c xs=>I xs<=dr/\∃(vs:U aD) (t:bD),x.w.heap[β]? = J (.cells vs.toArray t (0,0))/\I xs*a8 c<=I vs/\∀i y j d,xs[i]? = J y->(enc c y)[j]? = J d->∃u,vs[i*a8 c+j]? = J u/\gl x.S x.w d u|.fb t d=>(∃l bh,d = .sl .byte l bh)/\∃(a v:aD),x.w.heap[β]? = J (.cells #[a,v] t (0,0))/\(a = .pointer aj\/a = .pointer (J ⟨β,0,aj⟩))/\aG x d v
def qE(x:dn)(cD:Nat->ae lI):Prop:=(∀g c xs,cD g=J (.arr c xs)->∀i y,xs[i]? = J y->∀w',bM x.S x.w w'->ob w' c y g (i*a8 c))/\(∀g l,cD g=J (.map l)->∃r es a,(∀w',bM x.S x.w w'->w'.cell? ⟨g,0,aj⟩=J (.map (J r))/\w'.heap[r]? = J (.map es a))/\J0 l es.toList)/\∀g k,cD g=J (.num k)->∃n,∀w',bM x.S x.w w'->w'.cell? ⟨g,0,aj⟩=J (.int k n)
structure Rel (ah:di) (m:ed) (a:Act) (as_:List Act) (s:FS) (w:aT):Prop where
 fw:bM ah.gE ah.ij w
 env:mx (vx ah m s w) s.n s.env a
 jI:pz (vx ah m s w) s.c7 s.lt s.cx as_
 c7:s.c7<=s.nb
 lt:s.lt<=s.bu
 gp:∀b k,s.au b=J k->b<s.nb/\kK (vx ah m s w) (m.au b) k
 mi:∀t,s.bJ t->t<s.bu
 inj:∀b cu,s.au b≠aj->s.au cu≠aj->m.au b=m.au cu->b=cu
 jm:∀t t' g o dq,s.bJ t->s.bJ t'->m.bh t=J (g,o)->m.bh t' = J (g,dq)->t=t'
 h0:∀b t g o,s.au b≠aj->s.bJ t->m.bh t=J (g,o)->m.au b≠g
 own:∀b i,fF m s b i->b<w.heap.size/\(ah.gE b i\/ah.ij.heap.size<=b)
 hN:∀b i j,ah.M b i->b<ah.ij.heap.size/\¬ah.gE b j
 kT:qE (vx ah m s w) ah.cD
variable{a:Act}{env:Nat->ae D}{x:dn}{x':dn}
theorem mx.later(h:fI x x'){n:Nat}(b:mx x n env a):mx x' n env a:=⟨b.defers,b.size,λk d c=>by obtain⟨v,e,ar⟩:=b.get k d c;exact⟨v,e,aG.later h d v ar⟩⟩
theorem fI.low(h:fI x x'){c7 lt:Nat}(a:c7<=x.nb)(c:lt<=x.bu):fI { x with nb:=c7,bu:=lt } { x' with nb:=c7,bu:=lt }:=⟨h.fw,h.dZ,h.el,λb al=>h.au b (iv al a),bU _,bU _,λt d e=>h.bh t (iv d c) e⟩
theorem pz.later(h:fI x x'):∀{jI:U Fr}{as_:U Act}{c7 lt:Nat},c7<=x.nb->lt<=x.bu->pz x c7 lt jI as_->pz x' c7 lt jI as_
 |[],_,_,_,_,_,aF=>aF
 |f::jI,as_,c7,lt,aY,aZ,aF=>by obtain⟨a,r,e,b,c,d,g⟩:=aF;exact⟨a,r,e,b,c,d.later (h.low aY aZ),pz.later h (fV b aY) (fV c aZ) g⟩
variable{β:Nat}
theorem kK.later(h:fI x x')(al:x'.w.heap[β]? = x.w.heap[β]?):∀{k:dW},kK x β k->kK x' β k
 |.cells az,⟨bz,vs,t,ch,aF⟩=>⟨bz,vs,t,by rw[al];exact ch,bl.later h az vs aF⟩
 |.box c y,⟨c5,vs,t,ch,bz,aF⟩=>⟨c5,vs,t,by rw[al];exact ch,bz,λj d ar=>by obtain⟨u,b,e⟩:=aF j d ar;exact⟨u,b,h.rf e⟩⟩
 |.row c n xs,⟨ck,vs,t,ch,bz,aF⟩=>⟨ck,vs,t,by rw[al];exact ch,bz,λi y j d aE ar=>by obtain⟨u,b,e⟩:=aF i y j d aE ar;exact⟨u,b,h.rf e⟩⟩
 |.dyn c xs,⟨ck,vs,t,ch,bz,aF⟩=>⟨ck,vs,t,by rw[al];exact ch,bz,λi y j d aE ar=>by obtain⟨u,b,e⟩:=aF i y j d aE ar;exact⟨u,b,h.rf e⟩⟩
 |.fb _ d,⟨ar,a,v,ch,c5,aF⟩=>⟨ar,a,v,by rw[al];exact ch,c5,aG.later h d v aF⟩
theorem qE.later(h:fI x x'){cD:Nat->ae lI}(b:qE x cD):qE x' cD:=⟨λg c xs ag i y aE w' a=>b.1 g c xs ag i y aE w' (h.fw.later h.dZ a),λg l f=>by obtain⟨r,es,d,e,j⟩:=b.2.1 g l f;exact⟨r,es,d,λw' a=>e w' (h.fw.later h.dZ a),j⟩,λg k m=>by obtain⟨n,e⟩:=b.2.2 g k m;exact⟨n,λw' a=>e w' (h.fw.later h.dZ a)⟩⟩
variable{as_:U Act}{ah:di}{j:Nat}{m:ed}{s:FS}{w:aT}
theorem Rel.Cr(h:Rel ah m a as_ s w){b i:Nat}(hm:ah.M b i)(d:fF m s b j):False:=by
 obtain⟨f,e⟩:=h.hN b i j hm;rcases(h.own b j d).2 with c|c
 .exact e c
 .omega
theorem Rel.quiet{w':aT}(h:Rel ah m a as_ s w)(ao:bM fE w w'):Rel ah m a as_ s w':=by
 have al:∀k,k<w.heap.size->w'.heap[k]? = w.heap[k]? :=λk c=>ao.block k c (λ_ h=>h);have d:fI (vx ah m s w) (vx ah m s w'):=⟨ao.mono (λ_ _ h=>h.elim),λb i e=>.inl e,rfl,λ_ _=>rfl,bU _,bU _,λt _ l=>⟨l,rfl,λg o n=>al g (h.own g o (.inr ⟨t,o,l,n,bU _⟩)).1⟩⟩;refine⟨h.fw.trans (ao.mono (λ_ _ h=>h.elim)),h.env.later d,h.jI.later d h.c7 h.lt,h.c7,h.lt,λb k c=>?_,h.mi,h.inj,h.jm,h.h0,λb i e=>?_,h.hN,h.kT.later d⟩
 .obtain⟨f,j⟩:=h.gp b k c;exact⟨f,j.later d (al _ (h.own (m.au b) 0 (.inl ⟨b,by rw[c];simp,rfl⟩)).1)⟩
 .obtain⟨f,j⟩:=h.own b i e;exact⟨iv f ao.size,j⟩
theorem mx.put{n:Nat}(h:mx x n env a){k:Nat}(f:k<n){d:D}{v:aD}(ar:aG x d v):mx x n (λj=>if j=k then J d else env j) (a.put (J k) v):=by
 refine⟨by simpa[Act.put]using h.defers,by simpa[Act.put]using h.size,λj e b=>?_⟩;by_cases c:j=k
 .subst c;simp at b;subst b;have:j<a.tmps.size:=by rw[h.size];exact f
  exact⟨v,by simp[Act.put,this],ar⟩
 .simp[if_neg c]at b;obtain⟨u,g,i⟩:=h.get j e b;refine⟨u,?_,i⟩;simp[Act.put];rw[Array.getElem?_setIfInBounds_ne (hE c)];exact g
def FS.put(s:FS)(k:Nat)(d:D):FS:={ s with env:=λj=>if j=k then J d else s.env j }
theorem m5{a b:Nat}(h:a≠b):cp a b=false:=by cases al:cp a b with|true=>simp_all|false=>rfl
theorem k3(e:Env)(k j:Nat)(d:D):get ((k,d)::e) j=if j=k then J d else get e j:=by
 simp[get];by_cases h:j=k
 .subst h;simp
 .have:cp k j=false:=m5 (hE h);simp[this,h]
theorem r8(st:bw)(k:Nat)(d:D):aB (st.put k d)=(aB st).put k d:=by simp[aB,bw.put,FS.put];funext j;exact k3 st.env k j d
theorem Rel.put(h:Rel ah m a as_ s w){k:Nat}(b:k<s.n){d:D}{v:aD}(ar:aG (vx ah m s w) d v):Rel ah m (a.put (J k) v) as_ (s.put k d) w:=⟨h.fw,h.env.put b ar,h.jI,h.c7,h.lt,h.gp,h.mi,h.inj,h.jm,h.h0,h.own,h.hN,h.kT⟩
def sS(a:Act):av.Env:=(hg a.tmps.size).map λk=>(k,a.tmps.getD k undef)
theorem ae7{k:Nat}{v:aD}(h:a.tmps[k]? = J v):av.Env.get (sS a) k=J v:=by
 have c:k<a.tmps.size:=(hZ.1 h).1;have key:∀(n b:Nat),b<=k->k<b+n->av.Env.get ((j4 b n).map λk=>(k,a.tmps.getD k undef)) k=J v:=by
  intro n;induction n with
  |zero=>intro b d e;omega
  |succ n f=>
   intro b d e;simp only[List.range'_succ,hk,av.Env.get];by_cases al:b=k
   .subst al;simp[ h]
   .have:cp b k=false:=m5 al;simp only[this];exact f (b+1) af af
 have:=key a.tmps.size 0 (cL _) af;simpa[sS,List.range_eq_range']using this
theorem MI(h:a.defers=[]):av.jO a.tmps.size (sS a) a:=by
 refine⟨h,rfl,λk v e=>?_⟩;have key:∀(l:U Nat),av.Env.get (l.map λk=>(k,a.tmps.getD k undef)) k=J v->k∈l/\v=a.tmps.getD k undef:=by
  intro l;induction l with
  |nil=>intro h;simp[av.Env.get]at h
  |cons b l f=>
   intro h;simp only[hk,av.Env.get]at h;by_cases al:b=k
   .grind
   .have:cp b k=false:=m5 al;simp only[this]at h;obtain⟨c,d⟩:=f h;exact⟨by simp[c],d⟩
 obtain⟨c,d⟩:=key _ e;simp at c;rw[d];simp[ c]
section
variable {R:Type}(px:aR R)
def iy(env:Nat->ae D)(t:Nat):cO->ae D|.tmp i=>env i|.const v=>Ck (px.a1 t) v|.global g=>J (.oI g)|.func f=>J (.fn f [])
theorem dx(st:bw)(t:Nat)(x:cO):aJ px st t x=iy px (get st.env) t x:=by cases x<;>rfl
end
theorem Xh{s:ByteArray}(h:Rq s=ab):I s.data.toList<=maxLen:=by have:I s.data.toList<=1048576:=Nat.le_of_ble_eq_true h;simp only[dr];omega
variable{z:D}
theorem ayc{d:D}{v:aD}(h:S2 z v=J d):aG x d v/\e_ d=true:=by
 unfold S2 at h;split at h
 .split at h
  .simp at h;subst h;rename_i a;exact⟨by simp only[aG];exact⟨trivial,a⟩,rfl⟩
  .cases h
 .simp at h;subst h;exact y7
 .split at h
  .rename_i b;simp at h;subst h;exact⟨by simp only[aG];exact⟨trivial,Xh b⟩,rfl⟩
  .cases h
 all_goals simp at h
 all_goals subst h
 .exact NX
 .exact y7
 .exact y7
theorem Qj{x:dn}:∀{zs az:U D}{vs:U aD},uA zs vs=J az->bl x az vs/\az.all e_=ab
 |[],az,[],h=>by simp[uA]at h;subst h;simp[bl]
 |z::zs,az,v::vs,h=>by
  simp[uA]at h;split at h
  .rename_i d ar;split at h
   .rename_i e a;simp at h;subst h;have b:=ayc (x:=x) ar;have c:=Qj (x:=x) a;exact⟨by simp only[bl];exact⟨v,vs,rfl,b.1,c.1⟩,by simp[b.2,c.2]⟩
   .cases h
  .cases h
 |[],az,v::vs,h=>by simp[uA]at h
 |z::zs,az,[],h=>by simp[uA]at h
theorem azT{t:ej}{v:aD}{d:D}(h:Ck t v=J d):aG x d v:=by
 unfold Ck at h;split at h
 .split at h
  .rename_i c;simp at h;subst h;simp only[aG];exact⟨trivial,c⟩
  .cases h
 .exact G3
 .split at h
  .rename_i e;simp at h;subst h;simp only[aG];exact⟨trivial,Xh e⟩
  .cases h
 .split at h
  .simp at h;subst h;simp[aG];exact⟨λ_ _=>.nil _ _ _ _,by simp[vm]⟩
  .cases h
 .exact G3
 .exact G3
 .split at h
  .split at h
   .rename_i az a;simp at h;subst h;have b:=Qj (x:=x) a;simp only[aG];exact⟨b.2,_,by simp,b.1⟩
   .cases h
  .cases h
 .exact G3
variable{t:Nat}
theorem mx.aJ{R:Type}{px:aR R}{n:Nat}(h:mx x n env a){o:cO}{d:D}(b:iy px env t o=J d):∃v,av.Env.aJ (sS a) o=J v/\a.eval o=v/\aG x d v:=by cases o with|tmp k=>obtain⟨v,c,ar⟩:=h.get k d b;exact⟨v,ae7 c,by simp[Act.eval,c],ar⟩|const v=>exact⟨v,rfl,rfl,azT b⟩|global g=>simp[iy]at b;subst b;exact⟨_,rfl,rfl,by simp[aG]⟩|func f=>simp[iy]at b;subst b;exact⟨_,rfl,rfl,by simp only[aG];exact⟨[],rfl,by simp[bl]⟩⟩
def Vu:D->aD->Bool|.int k n,.int fg mS=>aa (k=fg)&&aa (n=mS)&&hY k n|.bool b,.bool cu=>b == cu|.str [],.string s=>s.data.toList == []|.sl _ [] .nil,.slice aj 0 0=>ab|.sl _ [] .no,.slice aj 0 0=>ab|.n8,.pointer aj=>ab|.tS,.nilFunc=>ab|_,_=>ai
def ua:U D->U aD->Bool|[],[]=>ab|d::az,v::vs=>Vu d v&&ua az vs|_,_=>ai
theorem aA6{d:D}{v:aD}(h:Vu d v=ab):aG x d v/\e_ d=true:=by
 unfold Vu at h;split at h
 .simp at h;obtain⟨⟨rfl,rfl⟩,h⟩:=h;exact⟨by simp only[aG];exact⟨trivial,h⟩,rfl⟩
 .simp at h;subst h;exact y7
 .simp at h;refine⟨?_,rfl⟩;simp only[aG];refine⟨?_,by simp⟩;rename_i s;obtain⟨⟨l⟩⟩:=s;exact sV
 .exact NX
 .exact NX
 .exact y7
 .exact y7
 .cases h
theorem CP{x:dn}:∀{az:U D}{vs:U aD},ua az vs=ab->bl x az vs/\az.all e_=ab
 |[],[],_=>by simp[bl]
 |d::az,v::vs,h=>by simp[ua]at h;have a:=aA6 (x:=x) h.1;have b:=CP (x:=x) h.2;exact⟨by simp only[bl];exact⟨v,vs,rfl,a.1,b.1⟩,by simp[a.2,b.2]⟩
 |[],_::_,h=>by simp[ua]at h
 |_::_,[],h=>by simp[ua]at h
def JV:cl->ae (U Nat)|.val=>J [0,0,1]|.tok=>J [0,0,1,0]|.b2=>J [1,0,2,2,1]|_=>aj
def J_(P:cP)(t:bD):Bool:=match P.underlying t with|some (.int _)=>ab|_=>ai
def x9(P:cP):Nat->U Field->U Nat->Bool
 |_,[],[]=>ab
 |i,f::aB,k::UM=> !(f.name == "_")&&f.offset == i&&(match k with
   |0=>J_ P f.type
   |1=>av.oR P f.type
   |_=>av.vZ P f.type)&&x9 P (i+1) aB UM
 |_,_,_=>ai
def rB(P:cP)(t:bD):Nat->U Field->U (Nat×Nat)->Bool|_,[],[]=>ab|i,f::aB,(o,u)::l=>f.type == u&&av.x_ P t i == J o&&f.offset == o&&rB P t (i+1) aB l|_,_,_=>ai
def fO(P:cP)(el:cl->bD)(a1:Nat->ej)(t:Nat):Bool:=match a1 t with
 |.no=>ab
 |ty=>av.rk P t&&(av.vY P t == ty.fv)&&(av.gA P t == J ty.n)&&(match ty.zero with
   |some z=>(match av.yz P t with
    |some zs=>ua (cells z) zs
    |none=>ai)
   |none=>ab)&&(match ty with
  |.int k=>av.yy P t k
  |.bool=>av.vZ P t
  |.str=>av.oR P t
  |.sl c=>(match P.info? (el c)with
   |some i=>av.Uu P t (el c) (a8 c) i.bytes&&eF i.bytes 512&&(match c with
    |.byte=>av.yy P (el c) .u8
    |_=>ab)&&(match av.yz P (el c)with
    |some zs=>ua (enc c (mr c)) zs
    |none=>ai)
   |none=>ai)
  |.st c l _=>(match P.underlying t with
   |some (.struct fds)=>rB P t 0 fds.toList l&&(match c with
    |some c=>(match JV c with
     |some a=>av.tX P t&&x9 P 0 fds.toList a
     |none=>ab)
    |none=>ab)
   |_=>ai)
  |.arr n c=>(match P.underlying t with
   |some (.array mS u)=>mS == n&&u == el c&&av.gA P u == J (a8 c)&&av.rk P u&&(av.vY P u == fv c)
   |_=>ai)
  |.map=>(match P.underlying t with
   |some (.map k e)=>(match P.underlying k with
    |some (.int .i64)=>ab
    |_=>ai)&&(match P.info? e with
    |some i=>(match i.zero with
     |some (.string s)=>s.data.toList == []
     |_=>ai)
    |none=>ai)
   |_=>ai)
  |_=>ab)
structure gx {R:Type}(ah:di) (px:aR R):Prop where
 a1:∀t,fO ah.P ah.el px.a1 t=ab
 cD:px.cD=ah.cD
section
variable {P:cP}{el:cl->bD}{a1:Nat->ej}{t:Nat}
theorem pE(h:fO P el a1 t=ab)(a:a1 t ≠ .no):av.rk P t=ab/\av.vY P t=(a1 t).fv /\ av.gA P t=J (a1 t).n:=by
 unfold fO at h;split at h
 .grind
 .grind
theorem Hi(h:fO P el a1 t=ab)(a:a1 t ≠ .no)(b:(a1 t).zero=J z):∃zs,av.yz P t=J zs/\ua (cells z) zs=true:=by
 unfold fO at h;split at h
 .grind
 .grind
variable{k:df}
theorem Rj(h:fO P el a1 t=ab)(a:a1 t = .int k):av.yy P t k=true:=N0
theorem PE(h:fO P el a1 t=ab)(a:a1 t = .bool):av.vZ P t=true:=N0
theorem tr(h:fO P el a1 t=ab)(a:a1 t = .str):av.oR P t=true:=N0
variable{c:cl}
theorem m0(h:fO P el a1 t=ab)(b:a1 t = .sl c):∃by_,av.nK P t (el c) (a8 c) by_/\by_<=512/\(c = .byte->av.yy P (el c) .u8=ab):=by
 unfold fO at h;rw[b]at h;simp at h
 have a:=h.2;split at a
 .rename_i i d;simp at a;refine⟨i.bytes,av.FX a.1.1.1,by simpa using a.1.1.2,λao=>?_⟩;subst ao;simpa using a.1.2
 .cases a
theorem FN(h:fO P el a1 t=ab){n:Nat}(b:a1 t = .arr n c):P.underlying t=J (.array n (el c))/\av.gA P (el c)=J (a8 c)/\av.rk P (el c)=ab/\av.vY P (el c)=fv c:=by
 unfold fO at h;rw[b]at h;simp at h
 have a:=h.2;split at a
 .grind
 .cases a
theorem apH(h:fO P el a1 t=ab)(d:a1 t = .map):∃k e i,P.underlying t=J (.map k e)/\P.underlying k=J (.int .i64)/\P.info? e=J i/\i.zero=J (av.S []):=by
 unfold fO at h;rw[d]at h;simp only[bN]at h
 have b:=h.2;split at b
 .rename_i k e f;simp only[bN]at b;obtain⟨c,a⟩:=b;split at c
  .rename_i g;split at a
   .rename_i i j;split at a
    .rename_i s m;refine⟨k,e,i,f,g,j,?_⟩;simp only[beq_iff_eq]at a;obtain⟨⟨l⟩⟩:=s;simp only at a;subst a;exact m
    .cases a
   .cases a
  .cases c
 .cases b
theorem O_{P:cP}{t:bD}:∀{fds:U Field}{l:U (Nat×Nat)}{i f o u:Nat},rB P t i fds l=ab->l[f]? = J (o,u)->∃fd,fds[f]? = J fd/\fd.type=u/\fd.offset=o/\av.x_ P t (i+f)=J o
 |[],[],i,f,o,u,_,bz=>by simp at bz
 |fd::fds,(aEf,alU)::l,i,f,o,u,h,bz=>by simp[rB]at h;cases f with|zero=>grind|succ f=>obtain⟨a,b,c,d,e⟩:=O_ h.2 uM;exact⟨a,by simpa using b,c,d,by rw[<-e];congr 1;omega⟩
 |[],_::_,_,_,_,_,h,_=>by simp[rB]at h
 |_::_,[],_,_,_,_,h,_=>by simp[rB]at h
theorem Ny(h:fO P el a1 t=ab){c:ae cl}{l:U (Nat×Nat)}{z:U D}(e:a1 t = .st c l z):∃fds,P.underlying t=J (.struct fds)/\rB P t 0 fds.toList l=ab/\∀a b,c=J a->JV a = J b->av.tX P t=ab/\x9 P 0 fds.toList b=true:=by
 unfold fO at h;rw[e]at h;simp at h
 have d:=h.2;split at d
 .grind
 .cases d
end
section
variable {x:dn}
variable{k:df}
theorem aG.int{n:Int}{v:aD}(h:aG x (.int k n) v):v = .int k n:=by simp[aG]at h;exact h.1
theorem aG.str{l:ak}{v:aD}(h:aG x (.str l) v):v=av.S l:=by simp[aG]at h;exact h.1
theorem aG.Gh{l:ak}{v:aD}(h:aG x (.str l) v):I l<=maxLen:=by simp[aG]at h;exact h.2
theorem aG.bool{b:Bool}{v:aD}(h:aG x (.bool b) v):v = .bool b:=by simp[aG]at h;exact h
theorem k1(b:Bool):aG x (.bool b) (.bool b):=by simp[aG]
theorem vi{l:ak}(h:I l<=dr):aG x (.str l) (av.S l):=akl
theorem k4{n:Int}(h:hY k n=ab):aG x (.int k n) (.int k n):=akl
theorem Di(k:df)(n:Int):hY k (k.wrap n)=true:=by cases k<;>simp[hY,df.wrap,df.min,df.max,lu,kp]<;>(try split)<;>omega
theorem an7{n:Int}(h:hY .u8 n=ab) : 0<=n/\n<256:=by simp[hY,df.min,df.max,lu,kp]at h;omega
theorem ajG{n:Int}(h : 0<=n/\n<256):hY .u8 n=true:=ai7
theorem wh{n:Nat}(h:n<=dr):hY .i64 (n:Int)=true:=by simp[dr]at h;simp[hY,df.min,lu,kp];omega
theorem oS{n:Int}(h:hY k n=ab):k.min<=n/\n<=k.max:=by simpa[hY]using h
theorem JK{n:Int}(h:k.min<=n/\n<=k.max):hY k n=true:=by simpa[hY]using h
theorem aBa{p:Int}{m:Nat}(h:hY k p=ab):hY k (p.fdiv (2 ^ m))=true:=by
 obtain⟨b,c⟩:=oS h;refine JK ?_;have a:(0:Int)<2 ^ m:=Int.pow_pos af;rw[Int.fdiv_eq_ediv_of_nonneg _ af];have d:k.min<=0/\0<=k.max:=by cases k<;>simp[df.min,df.max,lu,kp]
 rcases Int.le_total 0 p with h|h
 .have:=Int.ediv_nonneg h (show(0:Int)<=2 ^ m by omega);have:=Int.ediv_le_self (2 ^ m) h;omega
 .have e:p / 2 ^ m<=0:=by have:=Int.ediv_le_ediv a h;simpa using this
  have f:p<=p / 2 ^ m:=by rw[Int.le_ediv_iff_mul_le a];have:p*2 ^ m<=p*1:=Int.mul_le_mul_of_nonpos_left h af;omega
  omega
theorem azp{a b:Int}(c:hY k a=ab)(al:hY k b=ab):hY k (a.tmod b)=true:=by
 obtain⟨e,f⟩:=oS c;obtain⟨g,i⟩:=oS al;refine JK ?_;have j:(a.tmod b).natAbs<=a.natAbs:=by rw[Int.natAbs_tmod];exact Nat.mod_le _ _
 rcases Int.le_total 0 a with h|h
 .have d:=Int.tmod_nonneg b h;have:k.min<=0:=by cases k<;>simp[df.min,lu,kp]
  omega
 .have d:a.tmod b<=0:=by have:=Int.tmod_nonneg b (show 0 <= -a by omega);rw[Int.neg_tmod]at this;omega
  have : 0<=k.max:=by cases k<;>simp[df.max,lu,kp]
  omega
theorem aG.u8{n:Int}{v:aD}(h:aG x (.int k n) v):hY k n=true:=by simp[aG]at h;exact h.2
end
section
variable {P:cP}{e:av.Env}{t t':bD}{x y:cO}{k:df}{a b:Int}{l m:ak}
theorem aBt(ag:av.Env.aJ e x=J (.int k a))(aE:av.Env.aJ e y=J (.int k b)):av.Pure P e (.binOp .andNot t x y t') (.int k (Ry k a b)):=av.h4 ag aE (av.mP _ _ _ _ _ _ _ _) λw=>by simp[binOp,Op.intBits,Ry,yV]
theorem aBh(ag:av.Env.aJ e x=J (av.S l))(aE:av.Env.aJ e y=J (av.S m)):av.Pure P e (.binOp .leq t x y t') (.bool (Op.bytesLess l m||decide (l=m))):=av.h4 ag aE (av.x6 _ _ _ _ _ _) λw=>by simp[binOp,Op.stringOp];rw[av.LW]
theorem aAm(ag:av.Env.aJ e x=J (av.S l))(aE:av.Env.aJ e y=J (av.S m)):av.Pure P e (.binOp .geq t x y t') (.bool (!Op.bytesLess l m)):=av.h4 ag aE (av.x6 _ _ _ _ _ _) λw=>by simp[binOp,Op.stringOp]
theorem aAs(ag:av.Env.aJ e x=J (av.S l))(aE:av.Env.aJ e y=J (av.S m)):av.Pure P e (.binOp .gtr t x y t') (.bool (!(Op.bytesLess l m||decide (l=m)))):=av.h4 ag aE (av.x6 _ _ _ _ _ _) λw=>by simp[binOp,Op.stringOp];rw[av.LW]
theorem aBi{n:Int}(ag:av.Env.aJ e x=J (.int k n)):av.Pure P e (.unOp .xor t x) (.int k (Kp k (match k.signed with|true=> -1|false=>k.max) n)):=λc ca w o a b=>by simp[cE,b,a.aJ ag,Op.unary,Kp,yV];cases k<;>rfl
variable{op:BinOp}
theorem ao9{c:Bool}{d:D}{vx:dn}(h:S3 op k a b=J (c,d))(ao:c=ab)(ag:av.Env.aJ e x=J (.int k a))(aE:av.Env.aJ e y=J (.int k b))(i:hY k a=ab)(al:hY k b=ab):∃v,av.Pure P e (.binOp op t x y t') v/\aG vx d v:=by
 subst ao;have f:∀n,aG vx (.int k (k.wrap n)) (.int k (k.wrap n)):=λn=>k4 (Di k n);unfold S3 at h;split at h<;>simp at h
 .subst h;exact⟨_,av.aly ag aE,f _⟩
 .subst h;exact⟨_,av.alA ag aE,f _⟩
 .subst h;exact⟨_,av.aEs ag aE,f _⟩
 .obtain⟨g,rfl⟩:=h;exact⟨_,av.aEy ag aE g,f _⟩
 .obtain⟨g,rfl⟩:=h;exact⟨_,av.aEz ag aE g,k4 (azp i al)⟩
 .subst h;exact⟨_,av.aEn ag aE,f _⟩
 .subst h;exact⟨_,av.aEx ag aE,f _⟩
 .subst h;exact⟨_,av.aED ag aE,f _⟩
 .subst h;exact⟨_,aBt ag aE,f _⟩
 .subst h;exact⟨_,av.Ga ag aE,by rw[show(a == b)=aa (a=b) by rw[Bool.eq_iff_iff];simp];exact k1 _⟩
 .subst h;exact⟨_,av.U' ag aE,by rw[show(a != b) = !decide (a=b) by rw[Bool.eq_iff_iff];simp];exact k1 _⟩
 .subst h;exact⟨_,av.U_ ag aE,k1 _⟩
 .subst h;exact⟨_,av.U9 ag aE,k1 _⟩
 .subst h;exact⟨_,av.Md ag aE,k1 _⟩
 .subst h;exact⟨_,av.U6 ag aE,k1 _⟩
theorem aps{c:Bool}{d:D}{vx:dn}(h:SV op l m=J (c,d))(ao:c=ab)(ag:av.Env.aJ e x=J (av.S l))(aE:av.Env.aJ e y=J (av.S m)):∃v,av.Pure P e (.binOp op t x y t') v/\aG vx d v:=by
 subst ao;unfold SV at h;split at h<;>simp only[dN,ni,reduceCtorEq,fQ,true_and]at h
 .obtain⟨a,rfl⟩:=h;exact⟨_,av.aEm ag aE (by unfold c0 at a;omega),vi (by simp[c0]at a;simp[dr];omega)⟩
 .subst h;exact⟨_,av.U4 ag aE,k1 _⟩
 .subst h;exact⟨_,av.Va ag aE,k1 _⟩
 .subst h;exact⟨_,av.aEr ag aE,k1 _⟩
 .subst h;exact⟨_,aBh ag aE,k1 _⟩
 .subst h;exact⟨_,aAs ag aE,k1 _⟩
 .subst h;exact⟨_,aAm ag aE,k1 _⟩
end
def BW(d e:D):Prop:=d=e\/(∃c xs t,d = .sl c xs t/\e = .sl c xs .no)\/∃n,d = .int .u8 n/\e = .int .u8 ((eh n.toNat).toNat:Int)
def nh:U D->U D->Prop|[],[]=>True|d::az,e::es=>BW d e/\nh az es|_,_=>False
theorem aqX(d:D):BW d d:=.inl rfl
theorem aBM(c:cl)(xs:U (dy c))(t:l'):BW (.sl c xs t) (.sl c xs .no):=.inr (.inl ⟨c,xs,t,rfl,rfl⟩)
theorem aBR(n:Int):BW (.int .u8 n) (.int .u8 ((eh n.toNat).toNat:Int)):=.inr (.inr ⟨n,rfl,rfl⟩)
variable{c:cl}{az:U D}{y:dy c}
theorem ack(h:dec c az=J y):nh az (enc c y):=by
 unfold dec at h;split at h<;>simp only[dN,reduceCtorEq]at h<;>subst h<;>simp only[enc,nh,aq.kind,aq.v,aq.name,aq.l]<;>(repeat' apply And.intro)<;>first
  |exact aqX _
  |exact aBM _ _ _
  |exact aBR _
  |trivial
theorem nh.get:∀{az es:U D},nh az es->∀{j:Nat}{e:D},es[j]? = J e->∃d,az[j]? = J d/\BW d e
 |[],[],h,j,e,he=>by simp at he
 |d::az,jZ::es,h,j,e,he=>by simp only[nh]at h;cases j with|zero=>simp at he;subst he;exact⟨d,by simp,h.1⟩|succ j=>obtain⟨a,b,c⟩:=nh.get h.2 (by simpa using he);exact⟨a,by simpa using b,c⟩
 |[],_::_,h,_,_,_=>by simp[nh]at h
 |_::_,[],h,_,_,_=>by simp[nh]at h
theorem nh.len:∀{az es:U D},nh az es->I az=I es
 |[],[],_=>rfl
 |d::az,jZ::es,h=>by simp only[nh]at h;simp[nh.len h.2]
 |[],_::_,h=>by simp[nh]at h
 |_::_,[],h=>by simp[nh]at h
theorem acB{d e:D}{v:aD}(h:aG x d v)(p:BW d e)(q:∃(c:cl) (y:dy c) (j:Nat),(enc c y)[j]? = J e):gl x.S x.w e v:=by
 have g:∀f,(∃k n,f = .int k n)\/(∃b,f = .bool b)\/(∃l,f = .str l)\/(∃c xs,f = .sl c xs .no)->aG x f v->gl x.S x.w f v:=by
  rintro f (⟨k,n,rfl⟩|⟨b,rfl⟩|⟨l,rfl⟩|⟨c,xs,rfl⟩) a w' i
  .simp only[aG]at a;rw[a.1];exact .int k n a.2
  .simp only[aG]at a;rw[a];exact .bool b
  .simp only[aG]at a;rw[a.1];exact .str l a.2
  .simp only[aG]at a;exact a.1 w' i
 rcases p with rfl|⟨c,xs,t,rfl,rfl⟩|⟨n,rfl,rfl⟩
 .refine g d ?_ h;obtain⟨c,y,j,m⟩:=q;cases c<;>simp only[enc]at m<;>(rcases j with _|_|_|_|_|_|_|_|_|_|_|_|_|_|_|_|_|_|j<;>simp at m<;>subst m<;>simp)
 .simp only[aG]at h;exact h.1
 .simp only[aG]at h;obtain⟨rfl,o⟩:=h;have:=an7 o;have r:((eh n.toNat).toNat:Int)=n:=by have:(eh n.toNat).toNat=n.toNat % 256:=UInt8.toNat_ofNat';rw[this];omega
  intro w' _;rw[r];exact .int _ _ o
def pF(x:dn)(c:cl)(y:dy c)(vs:U aD):Prop:=I vs=a8 c/\∀(j:Nat) d,(enc c y)[j]? = J d->∃u,vs[j]? = J u/\gl x.S x.w d u
variable{vs:U aD}
theorem Fg(h:dec c az=J y)(a:bl x az vs):pF x c y vs:=by have b:=ack h;refine⟨by rw[a.len,b.len,k5],λj d ar=>?_⟩;obtain⟨k,e,f⟩:=b.get ar;obtain⟨u,g,i⟩:=a.get e;exact⟨u,g,acB i f ⟨c,y,j,ar⟩⟩
theorem SB{d:D}{v:aD}(h:jj w d v):av.one v=true:=by cases h<;>rfl
theorem pF.one(h:pF x c y vs):∀v,v∈vs->av.one v=true:=by
 intro v e;obtain⟨j,d,rfl⟩:=List.mem_iff_getElem.1 e;have a:j<I (enc c y):=by rw[k5,<-h.1];exact d
 obtain⟨u,b,f⟩:=h.2 j _ (ic a);rw[ic d]at b;simp only[dN]at b;rw[b];exact SB f.here
theorem Jw{d:D}{v:aD}(h:aG x d v)(a:e_ d=ab):av.one v=true:=by
 cases d<;>simp only[aG]at h<;>simp only[e_,pX]at a<;>first
  |(subst h;rfl)
  |(obtain⟨rfl,_⟩:=h;rfl)
  |(obtain⟨_,rfl⟩:=h;rfl)
  |(obtain⟨_,_,rfl,_⟩:=h;rfl)
  |(obtain⟨_,rfl,_⟩:=h;rfl)
  |(obtain⟨_,_,_,rfl,_⟩:=h;rfl)
  |(obtain⟨_,_,_,_,_,_,rfl,_⟩:=h;rfl)
  |exact SB h.1.here
  |exact h.elim
theorem IU{d:D}(h:(enc c y)[j]? = J d):e_ d=ab/\∀a xs t,d = .sl a xs t->t = .no:=by
 cases c<;>simp only[enc]at h<;>(rcases j with _|_|_|_|_|_|_|_|_|_|_|_|_|_|_|_|_|_|j<;>simp at h<;>subst h<;>simp[e_])
 all_goals (intros;subst_vars;simp_all)
theorem acO{d:D}{v:aD}(h:gl x.S x.w d v)(e:∀c xs t,d = .sl c xs t->t = .no):aG x d v:=by have f:=h.here;cases f with|int k n g=>exact k4 g|bool b=>exact k1 b|str l i=>exact vi i|nil c t a cap=>obtain rfl:=e _ _ _ rfl;simp only[aG];exact⟨h,trivial⟩|sl c xs t b o cap u hle hm ao j=>obtain rfl:=e _ _ _ rfl;simp only[aG];exact⟨h,trivial⟩
theorem ahJ(h:pF x c y vs):(fv c=ab->aG x (oL c y) (.agg vs.toArray))/\(fv c=ai->∃v,vs=[v]/\aG x (oL c y) v):=by
 constructor
 .intro a;simp only[oL,a,aG];exact⟨trivial,vs,rfl,h.1,h.2⟩
 .intro a;have b:a8 c=1:=by cases c<;>simp[fv]at a<;>rfl
  obtain⟨e,g⟩:=h;rw[b]at e;obtain⟨v,rfl⟩:=List.length_eq_one_iff.1 e;refine⟨v,rfl,?_⟩;have i:∃d,enc c y=[d]:=List.length_eq_one_iff.1 (by rw[k5,b]);obtain⟨d,ar⟩:=i;simp only[oL,a,ar];obtain⟨u,f,k⟩:=g 0 d (by simp[ar]);simp at f;subst f;exact acO k (IU (c:=c) (y:=y) (j:=0) (by simp[ar])).2
theorem xW{d:D}{v:aD}(h:sA c d=J y)(a:aG x d v):pF x c y v.cells.toList/\(fv c=ab->∃vs,v = .agg vs)/\(fv c=ai->av.one v=ab):=by
 unfold sA at h;split at h
 .split at h
  .rename_i r s ao;subst ao;simp only[dN]at h;subst h;simp only[aG]at a;obtain⟨g,vs,rfl,n,a⟩:=a;exact⟨⟨by simpa[lY]using n,by simpa[lY]using a⟩,λ_=>⟨_,rfl⟩,λb=>by rw[g]at b;cases b⟩
  .cases h
 .split at h
  .rename_i az g;simp only[aG]at a;obtain⟨_,vs,rfl,a⟩:=a;exact⟨by simpa[lY]using Fg h a,λ_=>⟨_,rfl⟩,λb=>by rw[g]at b;cases b⟩
  .cases h
 .rename_i o p;split at h
  .cases h
  .rename_i g;have k:e_ d=true:=by
    have i:=ack h;have q:a8 c=1:=by cases c<;>simp[fv]at g<;>rfl
    obtain⟨e,m⟩:=List.length_eq_one_iff.1 ((k5 c y).trans q);rw[m]at i;simp only[nh]at i;replace i:=i.1;have l:=(IU (c:=c) (y:=y) (j:=0) (d:=e) (by simp[m])).1;rcases i with rfl|⟨_,_,_,rfl,_⟩|⟨_,rfl,_⟩
    .exact l
    .rfl
    .rfl
   have f:=Jw a k;have ao:v.cells.toList=[v]:=by rw[av.Mc f]
   rw[ao];refine⟨Fg h (by simp only[bl];exact⟨v,[],rfl,a,rfl⟩),λb=>?_,λ_=>f⟩;rw[g]at b;cases b
variable{o:Nat}
theorem ob.akX{S:hn}{b:Nat}(q:x.S=S)(h:∀w',bM S x.w w'->ob w' c y b o):∃vs,pF x c y vs/\∀(j:Nat) u,vs[j]? = J u->x.w.cell? ⟨b,o+j,aj⟩=J u:=by
 subst q;have dm:=h x.w (bM.refl _ _);have key:∀(n:Nat),n<=a8 c->∃vs:U aD,I vs=n/\∀(j:Nat) u,vs[j]? = J u->x.w.cell? ⟨b,o+j,aj⟩=J u:=by
  intro n;induction n with
  |zero=>intro _;exact⟨[],rfl,by simp⟩
  |succ n jz=>
   intro ck;obtain⟨vs,r,en⟩:=jz af;obtain⟨u,s,_⟩:=dm n _ (ic (by rw[k5];omega));refine⟨vs++[u],by simp[r],λj kk g=>?_⟩;rw[List.getElem?_append]at g;split at g
   .exact en j kk g
   .rename_i m;have:j=n:=by
     rcases Nat.lt_or_ge (j-I vs) 1 with h|h
     .omega
     .simp[List.getElem?_eq_none (l:=[u]) uO]at g
    subst this;rw[r]at g;simp at g;subst g;exact s
 obtain⟨vs,r,en⟩:=key (a8 c) (bU _);refine⟨vs,⟨r,λj d ar=>?_⟩,en⟩;have m:j<I vs:=by rw[r,<-k5 c y];exact(lN.1 ar).1
 refine⟨vs[j],ic m,λw' t=>?_⟩;obtain⟨u,s,cb⟩:=h w' t j d ar;obtain⟨alU,a4,_⟩:=dm j d ar;have z:=en j _ (ic m);by_cases q:x.S b (o+j)
 .exfalso;have ao:bM x.S x.w (x.w.setCell ⟨b,o+j,aj⟩ .nilFunc):=by
   refine⟨rfl,rfl,rfl,by simp[aT.setCell],λk _ ck=>Below.heap_setCell _ _ _ _ (λe=>ck (o+j) (by rw[e];exact q)),λcu i v f ck=>?_,YG _ _ _⟩;by_cases al:cu = b
   .subst al;have bO:i≠o+j:=λe=>ck (e▸q);simp only[h7,aT.setCell,Array.getElem?_modify,if_true]at f ⊢;cases ch:x.w.heap[cu]? with
    |none=>simp[ch]at f
    |some nr=>
     cases nr<;>simp[ch]at f ⊢
     rw[Array.getElem?_setIfInBounds_ne (hE bO)];exact f
   .rw[aT.cell?_of_block (a:=⟨cu,i,aj⟩) (Below.heap_setCell _ _ _ _ al)];exact f
  obtain⟨ny,p,a3⟩:=h _ ao j d ar;have a2:(x.w.setCell ⟨b,o+j,aj⟩ .nilFunc).cell? ⟨b,o+j,aj⟩=J .nilFunc:=by
   simp only[h7,aT.setCell,Array.getElem?_modify,if_true]at z ⊢;cases ch:x.w.heap[b]? with
   |none=>simp[ch]at z
   |some nr=>
    cases nr<;>simp[ch]at z ⊢
    have:=(hZ.1 z).1;simp[this]
  rw[a2]at p;simp only[dN]at p;subst p;cases a3
 .have:=t.cell b (o+j) _ z q;rw[this]at s;simp only[dN]at s;rw[s];exact cb
def kz(x:dn)(az:U D)(vs:U aD):Prop:=I vs=I az/\∀(j:Nat) d,az[j]? = J d->∃u,vs[j]? = J u/\aG x d u
theorem AP(h:bl x az vs):kz x az vs:=⟨h.len,λ_ _ ar=>h.get ar⟩
theorem kz.tU(h:kz x az vs):bl x az vs:=bl.mk h.1 λi d v ar b=>by obtain⟨u,a,c⟩:=h.2 i d ar;rw[b]at a;simp at a;rw[a];exact c
theorem AZ(h:pF x c y vs):kz x (enc c y) vs:=⟨by rw[h.1,k5],λj d ar=>by obtain⟨u,a,b⟩:=h.2 j d ar;exact⟨u,a,acO b (IU ar).2⟩⟩
theorem Sv(c:cl)(y:dy c):(enc c y).all e_=true:=by rw[dH];intro d ar;obtain⟨j,a,rfl⟩:=List.mem_iff_getElem.1 ar;exact(IU (ic a)).1
theorem E8{d:D}{v:aD}(h:aG x d v)(a:oK d=ab):kz x (cells d) v.cells.toList:=by
 have b:e_ d=ab->cells d=[d]->kz x (cells d) v.cells.toList:=λg i=>by
  rw[i,av.Mc (Jw h g)];exact⟨rfl,λj e k=>by
   cases j with
   |zero=>grind
   |succ j=>simp at k⟩
 cases d with|bm c y=>simp[aG]at h;obtain⟨_,vs,rfl,a,f⟩:=h;simpa[lY,cells]using AZ (x:=x) (c:=c) (y:=y) (vs:=vs) ⟨a,f⟩|agg az=>simp[aG]at h;obtain⟨_,vs,rfl,f⟩:=h;simpa[lY,cells]using AP f|rw c n xs=>simp[oK,cells,e_]at a|fx c xs=>simp[oK,cells,e_]at a|sB az=>simp[oK,cells,e_]at a|undef=>simp[oK,cells,e_]at a|tP=>simp[oK,cells,e_]at a|_=>exact b rfl rfl
theorem auK(h:kz x az vs)(d:az.all e_=ab):∀v,v∈vs->av.one v=true:=by
 intro v e;obtain⟨j,c,rfl⟩:=List.mem_iff_getElem.1 e;have a:j<I az:=by rw[<-h.1];exact c
 obtain⟨u,b,f⟩:=h.2 j _ (ic a);rw[ic c]at b;simp at b;rw[b];exact Jw f (dH.1 d _ (hf a))
theorem kz.sub(h:kz x az vs)(o n:Nat):kz x ((az.drop o).take n) ((vs.drop o).take n):=by
 refine⟨by simp[h.1],λj d ar=>?_⟩;rw[h5]at ar;split at ar
 .rename_i a;rw[kr]at ar;obtain⟨u,b,c⟩:=h.2 _ d ar;exact⟨u,by rw[h5,if_pos a,kr];exact b,c⟩
 .cases ar
theorem ayx(h:az.all e_=ab)(o n:Nat):((az.drop o).take n).all e_=true:=im
theorem afv{t:ej}{off:Nat}{d:D}(h:part t az off=J d)(ao:kz x az vs)(b:az.all e_=ab) :
  (t.fv = ab->off+t.n<=I vs/\aG x d (.agg ((vs.drop off).take t.n).toArray))/\(t.fv = ai->∃u,vs[off]? = J u/\aG x d u):=by
 unfold part at h;constructor
 .intro a;rw[a]at h;simp only at h;split at h
  .rename_i hle;simp at h;subst h;refine⟨by rw[ao.1];simpa using hle,?_⟩;simp only[aG];exact⟨ayx b _ _,_,rfl,(ao.sub off t.n).tU⟩
  .cases h
 .intro a;rw[a]at h;exact ao.2 off d h
section
variable {P:cP}{el:cl->bD}{a1:Nat->ej}{t:Nat}{w:aT}
theorem acf(h:fO P el a1 t=ab)(a:a1 t ≠ .no)(c:(a1 t).fv = ab){b:Nat}(d:I vs=(a1 t).n)(ao:∀(j:Nat) v,vs[j]? = J v->w.cell? ⟨b,o+j,aj⟩=J v):(loadVar t ⟨b,o,aj⟩).run P w = .ok (.agg vs.toArray) w:=by obtain⟨e,f,g⟩:=pE h a;exact av.aEQ (by simp[e,f,c]) (by rw[g,d]) ao
theorem IV(h:fO P el a1 t=ab)(a:a1 t ≠ .no)(c:(a1 t).fv = ai){b:Nat}{v:aD}(ao:w.cell? ⟨b,o,aj⟩=J v):(loadVar t ⟨b,o,aj⟩).run P w = .ok v w:=by obtain⟨d,e,_⟩:=pE h a;exact av.aEP (by simp[d,e,c]) ao
theorem M_(h:fO P el a1 t=ab)(e:a1 t ≠ .no){off:Nat}{d:D}{b:Nat}(f:part (a1 t) az off=J d)(ao:kz x az vs)(g:az.all e_=ab)(hm:∀(j:Nat) v,vs[j]? = J v->w.cell? ⟨b,o+j,aj⟩=J v):∃v,(loadVar t ⟨b,o+off,aj⟩).run P w = .ok v w/\aG x d v:=by
 obtain⟨i,k⟩:=afv f ao g;cases a:(a1 t).fv with
 |true=>
  obtain⟨q,l⟩:=i a;refine⟨_,acf h e a (vs:=(vs.drop off).take (a1 t).n) d' λj v c=>?_,l⟩;rw[h5]at c;split at c
  .grind
  .cases c
 |false=>obtain⟨u,m,p⟩:=k a;exact⟨u,IV h e a (hm off u m),p⟩
theorem JT(h:fO P el a1 t=ab)(f:a1 t ≠ .no){b:Nat}(e:(a1 t).n=a8 c)(a:(a1 t).fv = fv c)(g:pF x c y vs)(hm:∀(j:Nat) v,vs[j]? = J v->w.cell? ⟨b,o+j,aj⟩=J v):∃v,(loadVar t ⟨b,o,aj⟩).run P w = .ok v w/\aG x (oL c y) v:=by obtain⟨i,k⟩:=ahJ g;cases d:fv c with|true=>exact⟨_,acf h f (by rw[a,d]) (by rw[g.1,e]) hm,i d⟩|false=>obtain⟨v,rfl,l⟩:=k d;exact⟨v,IV h f (by rw[a,d]) (by simpa using hm 0 v (by simp)),l⟩
end
section
variable {R:Type}{px:aR R}{ah:di}{m:ed}{a:Act}{as_:U Act}{s:FS}{w:aT}
theorem pH{t:ej}(h:t.known=ab):t ≠ .no/\t ≠ .map:=by cases t<;>simp[ej.known]at h<;>simp
def uc(aDm:aR R)(au:Nat->ae dW)(t:ej):D->ae D
 |.lo c x off=>match cp off 0&&cp t.n (a8 c)&&(t.fv == fv c)with|true=>J (oL c x)|false=>part t (enc c x) off
 |.ptr b off=>match au b with
  |some (.cells az)=>part t az off
  |some (.box c x)=>match cp off 0&&cp t.n (a8 c)&&(t.fv == fv c)with|true=>J (oL c x)|false=>part t (enc c x) off
  |some (.fb _ d)=>match cp off 1 && !t.fv with|true=>J d|false=>aj
  |_=>aj
 |.qd b dD iz i=>match au b with
  |some (.row c n xs)=>match cp t.n (a8 c)&&(t.fv == fv c)&&aa (dD=c)&&cp iz n with|true=>J (oL c (at' c xs i))|false=>aj
  |_=>aj
 |_=>aj
theorem af4(st:bw)(t:ej)(d:D):load px st t d=uc px (bF st.au) t d:=by cases d<;>rfl
variable{i:Int}{xs:U (dy c)}
theorem Df(h : 0<=i/\i<(I xs:Int)):xs[i.toNat]? = J (at' c xs i):=by
 have:i.toNat<I xs:=af
 simp[at',this]
theorem ER{t:bD}{b:Nat}(h:w.heap[b]? = J (.cells vs.toArray t (0,0))):∀(j:Nat) v,vs[j]? = J v->w.cell? ⟨b,0+j,aj⟩=J v:=λj v a=>by simp[h7,h];simpa using a
variable{P:cP}{el:cl->bD}{a1:Nat->ej}
theorem aBj(h:fO P el a1 t=ab)(k:a1 t ≠ .no){ty:bD}(e:(a1 t).n=a8 c)(f:(a1 t).fv = fv c)(l:w.heap[β]? = J (.cells vs.toArray ty (0,0)))(g:I xs*a8 c<=I vs)(a:∀i y j d,xs[i]? = J y->(enc c y)[j]? = J d->∃u,vs[i*a8 c+j]? = J u/\gl x.S x.w d u)(m : 0<=i/\i<(I xs:Int)):∃u,(loadVar t ⟨β,i.toNat*a8 c,aj⟩).run P w = .ok u w/\aG x (oL c (at' c xs i)) u:=by
 refine JT h k (vs:=(vs.drop (i.toNat*a8 c)).take (a8 c)) e f ⟨?_,λj d ar=>?_⟩ λj v b=>?_
 .have:i.toNat*a8 c+a8 c<=I xs*a8 c:=aka
  simp;omega
 .obtain⟨u,o,p⟩:=a _ _ j d (Df m) ar;have b:j<a8 c:=by rw[<-k5 c (at' c xs i)];exact(lN.1 ar).1
  exact⟨u,by rw[h5,if_pos b,kr];exact o,p⟩
 .rw[h5]at b;split at b
  .rw[kr]at b;have:=ER l _ v b;rwa[h6]at this
  .cases b
theorem Wl(aW:gx ah px)(aF:Rel ah m a as_ s w)(bf:(px.a1 t).known=ab){p d:D}{v:aD}(h:uc px s.au (px.a1 t) p=J d)(g:aG (vx ah m s w) p v):∃u,(Instr.loadAt t v).run ah.P w = .ok u w/\aG (vx ah m s w) d u:=by
 have r:=aW.a1 t;obtain⟨z,cr⟩:=pH bf;have done:∀b o,v = .pointer (J ⟨b,o,aj⟩)->(∃u,(loadVar t ⟨b,o,aj⟩).run ah.P w = .ok u w/\aG (vx ah m s w) d u)->∃u,(Instr.loadAt t v).run ah.P w = .ok u w/\aG (vx ah m s w) d u:=by rintro b o rfl ⟨u,aY,aZ⟩;exact⟨u,by simp[Instr.loadAt,Instr.sureAddr,aY],aZ⟩
 unfold uc at h;split at h
 .rename_i c y off;simp[aG]at g;obtain⟨b,o,g,a3⟩:=g;obtain⟨vs,e,hm⟩:=ob.akX rfl a3;refine done b (o+off) g ?_;split at h
  .rename_i al;simp only[bN,beq_iff_eq]at al;simp at h;subst h;have dm:off=0:=dS al.1.1;subst dm;exact JT r z (dS al.1.2) al.2 e hm
  .exact M_ r z h (AZ e) (Sv c y) hm
 .rename_i b off;simp[aG]at g;split at h
  .rename_i az al;obtain⟨_,bz,vs,ty,k,f⟩:=aF.gp b _ al;have:=M_ (x:=vx ah m s w) (w:=w) (b:=m.au b) (o:=0) r z h (AP f) bz (ER k);rw[h6]at this;exact done _ _ g.2 this
  .rename_i c y al;obtain⟨_,_,vs,ty,k,q,e⟩:=aF.gp b _ al;have e:pF (vx ah m s w) c y vs:=⟨q,e⟩;refine done _ _ g.2 ?_;split at h
   .rename_i l;simp only[bN,beq_iff_eq]at l;simp at h;subst h;have dm:off=0:=dS l.1.1;subst dm;exact JT r z (dS l.1.2) l.2 e (ER k)
   .have:=M_ (x:=vx ah m s w) (w:=w) (b:=m.au b) (o:=0) r z h (AZ e) (Sv c y) (ER k);rw[h6]at this;exact this
  .rename_i T d0 al;obtain⟨_,a0,v0,k,_,a2⟩:=(aF.gp b _ al).2;have k:w.heap[m.au b]? = J (.cells #[a0,v0] T (0,0)):=k;split at h
   .rename_i ao;simp only[bN,Bool.not_eq_true']at ao;obtain rfl:=dS ao.1;simp at h;subst h;have a4:w.heap[(vx ah m s w).m.au b]? = J (.cells #[a0,v0] T (0,0)):=k;exact done _ _ g.2 ⟨v0,IV r z ao.2 (by simp[h7,a4]),a2⟩
   .cases h
  .cases h
 .rename_i b dD iz i;simp[aG]at g;split at h
  .rename_i c n xs al;split at h
   .rename_i bf;simp only[bN,beq_iff_eq,fQ]at bf;obtain⟨⟨⟨aY,aZ⟩,rfl⟩,cB⟩:=bf;have cB:=dS cB;subst cB;simp at h;subst h;obtain⟨_,a5,vs,ty,k,q,f⟩:=aF.gp b _ al;have bO : 0<=i/\i<(I xs:Int):=by rw[a5];exact g.2.2
    refine done _ _ g.2.1 (JT r z (vs:=(vs.drop (i.toNat*a8 dD)).take (a8 dD)) (dS aY) aZ ⟨?_,λj d ar=>?_⟩ λj v dh=>?_)
    .have:i.toNat*a8 dD+a8 dD<=I xs*a8 dD:=aka
     simp;omega
    .obtain⟨u,hu,cb⟩:=f _ _ j d (Df bO) ar;have dh:j<a8 dD:=by rw[<-k5 dD (at' dD xs i)];exact(lN.1 ar).1
     exact⟨u,by rw[h5,if_pos dh,kr];exact hu,cb⟩
    .rw[h5]at dh;split at dh
     .rw[kr]at dh;have:=ER k _ v dh;rwa[h6]at this
     .cases dh
   .cases h
  .cases h
 .cases h
end
variable{P:cP}
theorem ar0{t:bD}(h:J_ P t=ab):∃k,P.underlying t=J (.int k):=by
 unfold J_ at h;split at h
 .grind
 .cases h
variable{f:Field}{k:df}{r:Bool}{ys:Array aD}
theorem avh{xs:Array aD}{l:U Field}{a b:Int}(c:(f.name == "_")=ai)(d:J_ P f.type=ab)(ag:xs[f.offset]? = J (.int k a))(aE:ys[f.offset]? = J (.int k b))(e:av.jH P xs ys l=J r):av.jH P xs ys (f::l)=J (aa (a=b)&&r):=by
 obtain⟨h,g⟩:=ar0 d;simp only[av.jH,c,g,ag,aE,e,av.Gf]
 grind
theorem awt{xs:Array aD}{l:U Field}{a b:ak}(c:(f.name == "_")=ai)(d:av.oR P f.type=ab)(ag:xs[f.offset]? = J (.string ⟨a.toArray⟩))(aE:ys[f.offset]? = J (.string ⟨b.toArray⟩))(e:av.jH P xs ys l=J r):av.jH P xs ys (f::l)=J (aa (a=b)&&r):=by simp[av.jH,c,av.sC d,ag,aE,e]
theorem asv{xs:Array aD}{l:U Field}{a b:Bool}(c:(f.name == "_")=ai)(d:av.vZ P f.type=ab)(ag:xs[f.offset]? = J (.bool a))(aE:ys[f.offset]? = J (.bool b))(e:av.jH P xs ys l=J r):av.jH P xs ys (f::l)=J (aa (a=b)&&r):=by
 simp[av.jH,c,av.Gi d,ag,aE,e]
 grind
def qi:U D->U D->ae Bool
 |[],[]=>J ab
 |.int k a::l,.int fg b::m=>match aa (k=fg),qi l m with|true,J r=>J (aa (a=b)&&r)|_,_=>aj
 |.str a::l,.str b::m=>match qi l m with|some r=>J (aa (a=b)&&r)|none=>aj
 |.bool a::l,.bool b::m=>match qi l m with|some r=>J (aa (a=b)&&r)|none=>aj
 |_,_=>aj
def alf:D->Nat|.int _ _=>0|.str _=>1|_=>2
theorem adX{P:cP}{x:dn}{xs ys:Array aD}:∀(fds:U Field) (t:U Nat) (i:Nat) (l m:U D) (r:Bool),x9 P i fds t=ab->t=l.map alf->qi l m=J r ->
  (∀(j:Nat) d,l[j]? = J d->∃v,xs[i+j]? = J v/\aG x d v)->(∀(j:Nat) d,m[j]? = J d->∃v,ys[i+j]? = J v/\aG x d v)->av.jH P xs ys fds=J r
 |[],[],i,l,m,r,_,bf,he,_,_=>by
  have:l=[]:=by cases l<;>simp at bf;rfl
  subst this;cases m with|nil=>simp[qi]at he;subst he;rfl|cons d m=>cases d<;>simp[qi]at he
 |f::fds,k::t,i,[],m,r,_,bf,_,_,_=>by simp at bf
 |f::fds,k::t,i,d::l,[],r,_,_,he,_,_=>by cases d<;>simp[qi]at he
 |f::fds,k::t,i,d::l,e::m,r,cb,bf,he,ag,aE=>by
  simp only[x9,bN,beq_iff_eq,Bool.not_eq_true']at cb;obtain⟨⟨⟨aY,aZ⟩,w⟩,cB⟩:=cb;simp[hk]at bf;obtain⟨v,z,p⟩:=ag 0 d (by simp);obtain⟨u,hu,q⟩:=aE 0 e (by simp);rw[Nat.add_zero,<-aZ]at z hu;have o:∀s,qi l m=J s->av.jH P xs ys fds=J s:=λs n=>adX fds t (i+1) l m s cB bf.2 n (λj d ar=>by have:=ag (j+1) d Eg;rwa[show i+(j+1)=i+1+j by omega]at this) (λj d ar=>by have:=aE (j+1) d Eg;rwa[show i+(j+1)=i+1+j by omega]at this)
  unfold qi at he;split at he
  .rename_i a2 _;cases a2
  .rename_i fJ a aQ f_ b jc c g;obtain⟨rfl,rfl⟩:=c;obtain⟨rfl,rfl⟩:=g;split at he
   .rename_i s y n;simp at y;subst y;simp at he;subst he;obtain rfl:=aG.int p;obtain rfl:=aG.int q;rw[bf.1]at w;exact avh aY w z hu (o _ n)
   .cases he
  .rename_i a aQ b jc c g;obtain⟨rfl,rfl⟩:=c;obtain⟨rfl,rfl⟩:=g;split at he
   .rename_i s n;simp at he;subst he;obtain rfl:=aG.str p;obtain rfl:=aG.str q;rw[bf.1]at w;exact awt aY w z hu (o _ n)
   .cases he
  .rename_i a aQ b jc c g;obtain⟨rfl,rfl⟩:=c;obtain⟨rfl,rfl⟩:=g;split at he
   .rename_i s n;simp at he;subst he;obtain rfl:=aG.bool p;obtain rfl:=aG.bool q;rw[bf.1]at w;exact asv aY w z hu (o _ n)
   .cases he
  .cases he
 |[],_::_,_,_,_,_,h,_,_,_,_=>by simp[x9]at h
 |_::_,[],_,_,_,_,h,_,_,_,_=>by simp[x9]at h
theorem aBm{a b:dy c}(h:Uw c a b=J r):∃d,JV c=J d/\d=(enc c a).map alf/\qi (enc c a) (enc c b)=J r:=by
 unfold Uw at h;split at h
 .rename_i a b;simp at h;subst h;refine⟨_,rfl,rfl,?_⟩;exact NZ
 .rename_i a b;simp at h;subst h;refine⟨_,rfl,rfl,?_⟩;exact NZ
 .rename_i a b;simp at h;subst h;refine⟨_,rfl,rfl,?_⟩;exact NZ
 .cases h
variable{el:cl->bD}{a1:Nat->ej}{u:aD}
theorem ad7{vx:dn}{a b:D}{v:aD}(p:fO P el a1 t=ab)(h:Ki (a1 t) a b=J r)(q:aG vx a u)(al:aG vx b v):av.tX P t=ab/\∃xs ys,u = .agg xs/\v = .agg ys/\av.jH P xs ys (P.fieldsOf t).toList=J r:=by
 unfold Ki at h;split at h
 .rename_i c l z g;split at h
  .rename_i x ag;split at h
   .rename_i y aE;obtain⟨o,f,i,k⟩:=aBm h;obtain⟨fds,s,_,m⟩:=Ny p g;obtain⟨w,aZ⟩:=m c o rfl f;have e:fv c=true:=by cases c<;>simp[JV]at f<;>rfl
    obtain⟨de,FV,_⟩:=xW ag q;obtain⟨eH,vG,_⟩:=xW aE al;obtain⟨xs,rfl⟩:=FV e;obtain⟨ys,rfl⟩:=vG e;refine⟨w,xs,ys,rfl,rfl,?_⟩;have n:P.fieldsOf t=fds:=by simp[cP.fieldsOf,s]
    rw[n];have g1:=(AZ de).2;have g2:=(AZ eH).2;simp[lY]at g1 g2;refine adX (x:=vx) fds.toList o 0 (enc c x) (enc c y) r aZ i k (λj d ar=>?_) (λj d ar=>?_)
    .grind
    .grind
   .cases h
  .cases h
 .cases h
variable{e:bD}
theorem amQ(d:Nat){t:bD}{a:ae Addr}{n c:Nat}(b:P.underlying t=J (.slice e)):(Op.equalIn (d+1) t (.slice a n c) (.slice aj 0 0)).run P w = .ok a.isNone w:=by cases a<;>simp[Op.equalIn,e3,dO b,ga]
theorem ZV{t:bD}{a:ae Addr}{n c:Nat}(b:P.underlying t=J (.slice e)):(Op.equal t (.slice a n c) (.slice aj 0 0)).run P w = .ok a.isNone w:=amQ 9999 b
theorem avS{d:D}(h:Sa d=ab):∃c,d = .sl c [] .nil:=by
 unfold Sa at h;split at h
 .exact⟨_,rfl⟩
 .cases h
variable{op:BinOp}{t':Nat}{bh:l'}
theorem axS{e:av.Env}{x y:cO}{c:Bool}{b d:D}{dD:cl}{xs:U (dy dD)}{v:aD}{vx:dn}(l:fO P el a1 t=ab)(h:SM op (a1 t) xs.isEmpty b=J (c,d))(ao:c=ab)(ag:av.Env.aJ e x=J u)(aE:av.Env.aJ e y=J v)(j:aG vx (.sl dD xs bh) u)(al:aG vx b v):∃r,av.Pure P e (.binOp op t x y t') r/\aG vx d r:=by
 unfold SM at h;split at h
 .rename_i c1 i;obtain⟨_,m,_,_⟩:=m0 l i;have k:=m.yA;split at h
  .rename_i n;obtain⟨c2,rfl⟩:=avS n;simp[aG]at j al;obtain⟨_,rfl,_⟩:=al;obtain⟨a,cap,rfl,o⟩:=j.1.here.slice;have f:xs.isEmpty=ai->a.isNone=false:=λp=>by grind
   split at h<;>simp[ reduceCtorEq]at h
   .obtain⟨g,rfl⟩:=h;rw[ao]at g;have q:=f w6;exact⟨_,av.h4 ag aE (λw=>rfl) (λw=>by rw[show binOp .eql t (.slice a (I xs) cap) (.slice aj 0 0)=(do pure (.bool (<-Op.equal t (.slice a (I xs) cap) (.slice aj 0 0)))) from rfl,e3,ZV k,q];rfl),k1 _⟩
   .obtain⟨g,rfl⟩:=h;rw[ao]at g;exact⟨_,av.h4 ag aE (λw=>rfl) (λw=>by rw[show binOp .neq t (.slice a (I xs) cap) (.slice aj 0 0)=(do pure (.bool (!(<-Op.equal t (.slice a (I xs) cap) (.slice aj 0 0))))) from rfl,e3,ZV k,(f w6)];rfl),k1 _⟩
  .cases h
 .cases h
theorem az7{e:av.Env}{x y:cO}{c:Bool}{a b d:D}{v:aD}{vx:dn}(j:fO P el a1 t=ab)(h:bin op (a1 t) a b=J (c,d))(ao:c=ab)(ag:av.Env.aJ e x=J u)(aE:av.Env.aJ e y=J v)(f:aG vx a u)(al:aG vx b v):∃r,av.Pure P e (.binOp op t x y t') r/\aG vx d r:=by
 unfold bin at h;split at h
 .rename_i k p;obtain rfl:=aG.int f;split at h
  .rename_i z q;obtain rfl:=aG.int al;split at h
   .simp[ ni]at h;obtain⟨g,rfl⟩:=h;subst ao;refine⟨_,av.aEA ag aE w6,k4 (Di _ _)⟩
   .simp[ ni]at h;obtain⟨g,rfl⟩:=h;subst ao;exact⟨_,av.aEB ag aE w6,k4 (aBa f.u8)⟩
   .split at h
    .rename_i w;simp at w;subst w;exact ao9 h ao ag aE f.u8 al.u8
    .cases h
  .cases h
 .rename_i l;obtain rfl:=aG.str f;split at h
  .rename_i m;obtain rfl:=aG.str al;exact aps h ao ag aE
  .cases h
 .rename_i p;obtain rfl:=aG.bool f;split at h
  .rename_i q;obtain rfl:=aG.bool al;split at h
   .rename_i n;have i:=PE j n;split at h<;>simp[ reduceCtorEq]at h
    .obtain⟨_,rfl⟩:=h;exact⟨_,av.aEp i ag aE,k1 _⟩
    .obtain⟨_,rfl⟩:=h;exact⟨_,av.aEu i ag aE,k1 _⟩
   .cases h
  .cases h
 .rename_i dD xs bh;exact axS j h ao ag aE f al
 .split at h
  .split at h
   .rename_i r o;simp[ ni]at h;obtain⟨_,rfl⟩:=h;obtain⟨g,xs,ys,rfl,rfl,s⟩:=ad7 j o f al;exact⟨_,av.aEq g ag aE s,k1 _⟩
   .cases h
  .split at h
   .rename_i r o;simp[ ni]at h;obtain⟨_,rfl⟩:=h;obtain⟨g,xs,ys,rfl,rfl,s⟩:=ad7 j o f al;exact⟨_,av.aEv g ag aE s,k1 _⟩
   .cases h
  .cases h
section
variable {P:cP}{el:cl->bD}{a1:Nat->ej}{e:av.Env}{t:Nat}{x y:cO}{vx:dn}
variable{bQ:Array bD}
theorem aBW{a b:Int}(ag:av.Env.aJ e x=J (.int k a))(aE:av.Env.aJ e y=J (.int k b)):av.Pure P e (.call ⟨.builtin .min, #[x,y],bQ⟩) (.int k (min2 a b)):=λn ca w o c d=>by simp[cE,d,c.aJ ag,c.aJ aE,resolve,invoke,builtin,jq.min_,jq.min2,min2]
theorem aB3{a b:Int}(ag:av.Env.aJ e x=J (.int k a))(aE:av.Env.aJ e y=J (.int k b)):av.Pure P e (.call ⟨.builtin .max, #[x,y],bQ⟩) (.int k (max2 a b)):=λn ca w o c d=>by simp[cE,d,c.aJ ag,c.aJ aE,resolve,invoke,builtin,jq.max_,jq.max2,max2]
variable{xs:U (dy c)}
theorem tg{S:hn}{v:aD}(h:gl S w (.sl c xs .no) v):∃a cap,v = .slice a (I xs) cap/\(xs=[]\/∃b o,a=J ⟨b,o,aj⟩/\(I xs<=cap/\cap<=dr)/\∀i y,xs[i]? = J y->∀w',bM S w w'->ob w' c y b (o+i*a8 c)):=by
 obtain⟨a,cap,rfl,d⟩:=h.here.slice;refine⟨a,cap,rfl,?_⟩;rcases d with d|⟨b,o,rfl,hle,_⟩
 .exact .inl d
 .refine .inr ⟨b,o,rfl,hle,λi y aE w' f=>?_⟩;obtain⟨ca,hC,e,g⟩:=(h w' f).slice;simp at e;obtain⟨j,_,k⟩:=e;rcases g with rfl|⟨cu,dq,l,_,m⟩
  .simp at aE
  .grind
theorem Br{S:hn}{a:ae Addr}{cap n:Nat}(d:n=I xs)(h:xs=[]\/∃b o,a=J ⟨b,o,aj⟩/\(I xs<=cap/\cap<=dr)/\∀i y,xs[i]? = J y->∀w',bM S w w'->ob w' c y b (o+i*a8 c)):gl S w (.sl c xs .no) (.slice a n cap):=λw' e=>by subst d;refine .aD8 rfl (h.imp id ?_);rintro⟨b,o,f,g,j⟩;exact⟨b,o,f,g,λi y aE=>j i y aE w' e⟩
variable{i:Int}
theorem aBC{v:aD}(p:fO P el a1 t=ab)(g:a1 t = .sl c)(n:aG vx (.sl c xs bh) v)(ag:av.Env.aJ e x=J v)(aE:av.Env.aJ e y=J (.int k i))(f:a_ i (I xs)=ab):∃u,av.Pure P e (.indexAddr t x y) u/\aG vx (.lo c (at' c xs i) 0) u:=by
 simp[a_]at f;simp[aG]at n;obtain⟨a,cap,rfl,h⟩:=tg n.1;obtain⟨by_,q,_,_⟩:=m0 p g;rcases h with rfl|⟨b,o,rfl,hle,j⟩
 .simp at f;omega
 .obtain⟨r,i0,z,l,w,m,_⟩:=q;have d:(av.p9 P t == J (a8 c))=true:=by simp[av.p9,r,av.gA,l,m]
  refine⟨_,av.alz d ag aE f,?_⟩;simp only[aG];exact⟨b,o+i.toNat*a8 c,rfl,λw' s=>j _ _ (Df f) w' s⟩
variable{bX:Nat}
theorem _4{n:Nat}{u:bD}{b:Nat}(c:P.underlying t=J (.array n u))(a:av.gA P u=J bX)(d : 0<=i/\i<(n:Int)):(Instr.indexAt t (.pointer (J ⟨b,o,aj⟩)) (.int k i)).run P w = .ok (.pointer (J ⟨b,o+i.toNat*bX,aj⟩)) w:=by simp[Instr.indexAt,asIntOf,Instr.sureAddr,dO c,if_pos d,av.run_sizeOf a,av.jE]
variable{h:Nat}
theorem _a{u:bD}{a:ae Addr}{n cap:Nat}{dU d:ae aD}{l:Nat}(e:P.underlying t=J (.slice u))(b:av.gA P u=J bX)(al:(ko ab n cap dU d aj).run P w = .ok (l,h,cap) w)(aFg:c=c) :
  (Instr.sliceAt t (.slice a n cap) dU d aj).run P w = .ok (.slice (if cap=l then a else a.map (·.add (l*bX))) (h-l) (cap-l)) w:=by
 simp[Instr.sliceAt,Instr.slice,dO e,al,av.run_sizeOf b]
theorem arQ{S:hn}{a:ae Addr}{cap l:Nat}(d:xs=[]\/∃b o,a=J ⟨b,o,aj⟩/\(I xs<=cap/\cap<=dr)/\∀i y,xs[i]? = J y->∀w',bM S w w'->ob w' c y b (o+i*a8 c))(m:l<=h)(f:h<=I xs):gl S w (.sl c ((xs.drop l).take (h-l)) .no) (.slice (if cap=l then a else a.map (·.add (l*a8 c))) (h-l) (cap-l)):=by
 refine Br d' ?_;by_cases g:(xs.drop l).take (h-l)=[]
 .exact .inl g
 .right;have j:l<h:=by
   rcases Nat.lt_or_ge l h with e|e
   .exact e
   .simp_all
  rcases d with rfl|⟨b,o,rfl,hle,k⟩
  .simp at f;omega
  .refine⟨b,o+l*a8 c,?_,by simp;omega,λi y aE w' n=>?_⟩
   .rw[if_neg af];simp[av.jE]
   .grind
theorem afK{n cap:Nat}{a b:df}{j:Int}(h : 0<=i/\i<=j/\j<=(cap:Int)):(ko ab n cap (J (.int a i)) (J (.int b j)) aj).run P w = .ok (i.toNat,j.toNat,cap) w:=by
 have c : 0<=j/\j<=(cap:Int):=af
 have d : 0<=i/\i<=(j.toNat:Int):=af
 simp only[ko,Instr.sliceBound,asIntOf,e3,ga,gr,if_pos c,if_pos d]
theorem ac5{n cap:Nat}{a:df}(h : 0<=i/\i<=(n:Int)):(ko ab n cap (J (.int a i)) aj aj).run P w = .ok (i.toNat,n,cap) w:=adA
theorem acC{n cap:Nat}{a:df}{j:Int}(h : 0<=j/\j<=(cap:Int)):(ko ab n cap aj (J (.int a j)) aj).run P w = .ok (0,j.toNat,cap) w:=adA
theorem aeo{n cap:Nat}:(ko ab n cap aj aj aj).run P w = .ok (0,n,cap) w:=by simp[ko]
theorem axK{n:Nat}:(ko ai n n aj aj aj).run P w = .ok (0,n,n) w:=by simp[ko]
theorem aCi{b:UInt8}(h:jj w (.int .u8 (b.toNat:Int)) u):u = .int .u8 (b.toNat:Int):=by cases h;rfl
theorem ard{xs:U UInt8}{b:Nat}(h:∀(i:Nat) (y:dy .byte),xs[i]? = J y->ob w .byte y b (o+i*a8 .byte)):∀(j:Nat) (a:j<I xs),w.cell? ⟨b,o+j,aj⟩=J (.int .u8 (xs[j].toNat:Int)):=by intro j a;obtain⟨u,c,d⟩:=h j xs[j] (ic a) 0 _ rfl;rw[aCi d]at c;simpa[a8]using c
theorem aro{s:Nat}{xs:U UInt8}{v:aD}(q:fO P el a1 s=ab)(r:fO P el a1 t=ab)(f:a1 s = .sl .byte)(g:a1 t = .str)(p:aG vx (.sl .byte xs bh) v)(n:Nat)(a:Act)(o:bx)(u:av.jO n e a)(ag:av.Env.aJ e x=J v)(z:o.op = .convert s t x):(cE a.eval o).run P vx.w = .ok (.value (av.S xs)) vx.w:=by
 simp[aG]at p;obtain⟨ad,cap,rfl,h⟩:=tg p.1;obtain⟨by_,eZ,_,j0⟩:=m0 q f;have k:=eZ.yA;have c:=av.Gj (j0 rfl);have d:=av.sC (tr r g);have aF:(convert s t (.slice ad (I xs) cap)).run P vx.w = .ok (av.S xs) vx.w:=by
  rcases h with rfl|⟨b,off,rfl,_,l⟩
  .cases ad with|none=>simp[convert,dO k,dO d,dO c];rfl|some a0=>exact run_convert_bytes_back vx.w s t (el .byte) a0 cap [] k c d (λj m=>by simp at m)
  .refine run_convert_bytes_back vx.w s t (el .byte) ⟨b,off,aj⟩ cap xs k c d λj m=>?_;rw[av.jE];exact ard (λi y aE=>l i y aE _ (bM.refl _ _)) j m
 simp[cE,z,u.aJ ag,aF]
theorem avz{s:Nat}{l:ak}(b:av.rk P s=ab)(c:av.oR P t=ab)(ag:av.Env.aJ e x=J (av.S l)):av.Pure P e (.convert s t x) (av.S l):=λn a w o f g=>by obtain⟨d,ar⟩:=av.Vo b;simp[cE,g,f.aJ ag,convert,dO ar,dO (av.sC c)]
theorem am7{t:Nat}{off:Nat}{d:D}(h:fO P el a1 t=ab)(f:a1 t ≠ .no)(g:part (a1 t) az off=J d)(ao:kz vx az vs)(i:az.all e_=ab):∃u,(Go.part t vs.toArray off).run P w = .ok u w/\aG vx d u:=by
 obtain⟨c,e,j⟩:=pE h f;obtain⟨k,l⟩:=afv g ao i;cases a:(a1 t).fv with
 |true=>obtain⟨p,m⟩:=k a;refine⟨_,?_,m⟩;have:(isAgg t).run P w = .ok ab w:=av.CC (by simp[c,e,a]) w;simp only[Go.part,e3,this,gr,if_true,av.run_sizeOf j,ga];congr 2;apply Array.ext';simp
 |false=>
  obtain⟨u,n,o⟩:=l a;refine⟨u,?_,o⟩;have:(isAgg t).run P w = .ok ai w:=av.CC (by simp[c,e,a]) w;have b:vs.toArray[off]? = J u:=AF
  simp[Go.part,this,b]
theorem Tr:∀(es:U D) (us:U aD) (az:U D) (vs:U aD) (o:Nat),kz vx az vs->kz vx es us->o+I es<=I az->kz vx (write az o es) (av.je vs o us)
 |[],us,az,vs,o,h,k,_=>by have:us=[]:=k0 k.1;subst this;exact h
 |d::es,us,az,vs,o,h,k,bz=>by
  cases us with
  |nil=>have:=k.1;simp at this
  |cons u us=>
   have ar:aG vx d u:=by obtain⟨l,b,f⟩:=k.2 0 d (by simp);simp at b;subst b;exact f
   simp[write];simp at bz;refine Tr es us (az.set o d) (vs.set o u) (o+1) ⟨by simp[h.1],λj e a=>?_⟩ ⟨by have:=k.1;simpa using this,λj e a=>by have:=k.2 (j+1) e w5;simpa using this⟩ d';by_cases c:o=j
   .subst c;have g:o<I az:=af
    have i:o<I vs:=by rw[h.1];omega
    simp[g]at a;subst a;exact⟨u,by simp[i],ar⟩
   .rw[List.getElem?_set_ne c]at a;rw[List.getElem?_set_ne c];exact h.2 j e a
theorem Qa:∀(es az:U D) (o:Nat),az.all e_=ab->es.all e_=ab->(write az o es).all e_=ab
 |[],_,_,h,_=>h
 |d::es,az,o,h,k=>by
  simp only[fk,bN]at k;refine Qa es (az.set o d) (o+1) ?_ k.2;rw[dH]at h ⊢;intro x ag;rcases List.mem_or_eq_of_mem_set ag with a|a
  .exact h x a
  .rw[a];exact k.1
theorem _u:∀(us cs:U aD) (off i:Nat),(us.zipIdx i).foldl (λ(cs:Array aD) p=>cs.setIfInBounds (off+p.2) p.1) cs.toArray=(av.je cs (off+i) us).toArray
 |[],_,_,_=>rfl
 |u::us,cs,off,i=>by simp;rw[_u us (cs.set (off+i) u) off (i+1)];rfl
end
section
variable {R:Type}{px:aR R}{ah:di}
def DY:Op->Bool|.load _ _=>ab|_=>ai
def Gd(o:bx)(env:Nat->ae D)(b:Nat):Prop:=∃k d,R0 o=J k/\env k=J d/\y6 d=J b
theorem aAk{t:ej}{v:aD}{d:D}(h:Ck t v=J d):y6 d=none:=by
 unfold Ck at h;split at h
 .split at h
  .exact sV
  .cases h
 .exact sV
 .split at h
  .exact sV
  .cases h
 .split at h
  .exact sV
  .cases h
 .exact sV
 .exact sV
 .split at h
  .split at h
   .exact sV
   .cases h
  .cases h
 .exact sV
theorem acT{o:bx}{T:bD}{x:cO}{b:Nat}{d:D}(c:o.op = .load T x)(a:iy px env t x=J d)(al:y6 d=J b):Gd o env b:=by cases x with|tmp k=>exact⟨k,d,by simp[R0,c],a,al⟩|const v=>rw[aAk a]at al;cases al|global g=>simp[iy]at a;subst a;cases al|func f=>simp[iy]at a;subst a;cases al
def H6(o:bx)(env:Nat->ae D)(au:Nat->ae dW)(s:FS):Prop:=∀b k,Gd o env b->au b=J k->b<s.nb->s.au b=J k
variable{au:Nat->ae dW}
theorem avC{t:ej}{p d:D}{v:aD}(a:∀b k,y6 p=J b->au b=J k->b<s.nb->s.au b=J k)(h:uc px au t p=J d)(e:aG (vx ah m s w) p v):uc px s.au t p=J d:=by
 cases p with
 |ptr b off=>simp[uc]at h ⊢;cases al:au b with|none=>rw[al]at h;cases h|some k=>rw[a b k rfl al e.1,<-al];exact h
 |qd b c n i=>simp[uc]at h ⊢;cases al:au b with|none=>rw[al]at h;cases h|some k=>rw[a b k rfl al e.1,<-al];exact h
 |_=>exact h
def y0(ah:di)(px:aR R)(o:bx)(env:Nat->ae D)(au:Nat->ae dW)(d:D):Prop:=∀(s:FS) (m:ed) (a:Act) (as_:U Act) (w:aT),(∀t x,x∈o.op.operands->iy px s.env t x=iy px env t x)->(DY o.op=ab->H6 o env au s)->Rel ah m a as_ s w->∃v,(cE a.eval o).run ah.P w = .ok (.value v) w/\aG (vx ah m s w) d v
theorem xj{t:ej}(h:t.sm c=ab):t = .sl c:=by
 cases t<;>simp[ej.sm]at h
 rw[h]
theorem w_{t:ej}(h:t.isStr=ab):t = .str:=by cases t<;>simp[ej.isStr]at h;rfl
theorem l0{o:bx}{d:D}(h:∀(s:FS) (m:ed) (a:Act) (as_:U Act) (w:aT),(∀t x,x∈o.op.operands->iy px s.env t x=iy px env t x)->(DY o.op=ab->H6 o env au s)->Rel ah m a as_ s w->∃v,av.Pure ah.P (sS a) o.op v/\aG (vx ah m s w) d v):y0 ah px o env au d:=by intro s m a as_ w c e b;obtain⟨v,f,g⟩:=h s m a as_ w c e b;exact⟨v,f _ a w o (MI b.env.defers) rfl,g⟩
theorem h_{b:Bool}{x:ae R}{r:R}(h:ax b x=J r):b=ab/\x=J r:=by
 cases b
 .simp[ax]at h
 .exact⟨rfl,by simpa[ax]using h⟩
theorem afL{env:Nat->ae D}{x:dn}{n:Nat}{a:Act}(b:mx x n env a){st:bw}{t:Nat}:∀{dL:U (Nat×cO)}{l:U (Nat×D)},DH px st t dL=J l->(∀u o,o∈dL.map (·.2)->iy px env u o=aJ px st u o) ->
  ∃vs:U (Nat×aD),dL.map (λp=>(p.1,a.eval p.2))=vs/\I vs=I l/\∀(j:Nat) f d,l[j]? = J (f,d)->∃v,vs[j]? = J (f,v)/\aG x d v
 |[],l,h,_=>by simp[DH]at h;subst h;exact⟨[],rfl,rfl,by simp⟩
 |(i,o)::dL,l,h,ag=>by
  simp[DH]at h;split at h
  .cases h
  .rename_i d ar;split at h
   .cases h
   .rename_i aC c;simp at h;subst h;obtain⟨vs,g,k,m⟩:=afL b c (λu dq e=>ag u dq GE);rw[<-ag _ o (by simp)]at ar;obtain⟨v,_,q,r⟩:=b.aJ ar
    grind
theorem vd{env:Nat->ae D}{x:dn}{n:Nat}{a:Act}(c:mx x n env a){st:bw}:∀{xs:U cO}{bQ:U Nat}{az:U D},gH px st bQ xs=J az->(∀u o,o∈xs->iy px env u o=aJ px st u o)->∃vs,av.Env.gH (sS a) xs=J vs/\xs.map a.eval=vs/\bl x az vs
 |[],bQ,az,h,_=>by simp[gH]at h;subst h;exact⟨[],rfl,rfl,by simp[bl]⟩
 |o::xs,bQ,az,h,ag=>by
  simp[gH]at h;split at h
  .cases h
  .rename_i d ar;split at h
   .cases h
   .rename_i e b;simp at h;subst h;obtain⟨vs,f,g,i⟩:=vd c b (λu dq j=>ag u dq (by simp[j]));rw[<-ag _ o (by simp)]at ar;obtain⟨v,k,l,m⟩:=c.aJ ar;refine⟨v::vs,by simp[av.Env.gH,k,f],by simp[l,g],?_⟩;exact⟨v,vs,rfl,m,i⟩
theorem O7{env:Nat->ae D}{x:dn}{n:Nat}{a:Act}(e:mx x n env a){st:bw}:∀{dL:U (Nat×cO)}{i:Nat}{az:U D},yP px st i dL=J az->(∀u o,o∈dL.map (·.2)->iy px env u o=aJ px st u o)->∃vs,dL.map (·.1)=j4 i (I az)/\av.Env.gH (sS a) (dL.map (·.2))=J vs/\(dL.map (·.2)).map a.eval=vs/\bl x az vs
 |[],i,az,h,_=>by simp[yP]at h;subst h;exact⟨[],rfl,rfl,rfl,by simp[bl]⟩
 |(k,o)::dL,i,az,h,ag=>by
  simp[yP]at h;split at h
  .rename_i b;have b:=dS b;subst b;split at h
   .cases h
   .rename_i d ar;split at h
    .cases h
    .rename_i f c;simp at h;subst h;obtain⟨vs,g,j,l,m⟩:=O7 e c (λu dq p=>ag u dq (by simp[p]));rw[<-ag _ o (by simp)]at ar;obtain⟨v,q,r,s⟩:=e.aJ ar;refine⟨v::vs,by simp[g,List.range'_succ],by simp[av.Env.gH,q,j],by simp[r,l],?_⟩;simp only[bl];exact⟨v,vs,rfl,s,m⟩
  .cases h
theorem W5{x:dn}{s:Nat}{places:Array (Nat×Nat)}(c:∀f o u,sL px s f=J (o,u)->u.known=ab->places[f]? = J (o,u.n)):∀{l:U (Nat×D)}{z az:U D}{rm:U aD}{vs:U (Nat×aD)},y3 px s z l=J az->kz x z rm->z.all e_=ab->I vs=I l->(∀(j:Nat) f d,l[j]? = J (f,d)->∃v,vs[j]? = J (f,v)/\aG x d v) ->
  ∃cs,Instr.fill (places[·]?) rm.toArray vs=J cs/\kz x az cs.toList/\az.all e_=ab
 |[],z,az,rm,vs,h,dK,bz,hlen,_=>by simp[y3]at h;subst h;have:vs=[]:=k0 (by simpa using hlen);subst this;exact⟨rm.toArray,rfl,by simpa using dK,bz⟩
 |(f,d)::l,z,az,rm,vs,h,dK,bz,hlen,en=>by
  simp[y3]at h;split at h
  .rename_i o u w;split at h
   .rename_i ao;simp only[bN]at ao;obtain⟨⟨⟨r,a⟩,e⟩,t⟩:=ao;have a:o+I (cells d)<=I z:=w5
    cases vs with
    |nil=>simp at hlen
    |cons p vs=>
     obtain⟨v,g,i⟩:=en 0 f d (by simp);simp[ dN]at g;subst g;have b:=E8 i e;have k:=c f o u w t;obtain⟨cs,y,aZ,bg⟩:=W5 c (vs:=vs) (rm:=av.je rm o v.cells.toList) h (Tr _ _ _ _ _ dK b a) (Qa _ _ _ bz e) (by simpa using hlen) (λj gI iw dh=>by have:=en (j+1) gI iw (by simpa using dh);simpa using this);refine⟨cs,?_,aZ,bg⟩;have m:v.cells.size=u.n:=by rw[<-(dS r),<-b.1];simp
     have hle:¬(o+v.cells.size > rm.toArray.size):=by
      have dE:v.cells.size=I (cells d):=by rw[<-b.1];simp
      simp[ dK.1];omega
     simp only[Instr.fill,k,m,decide_false];rw[m]at hle;simp only[ hle];have q:=_u v.cells.toList rm o 0;rw[Nat.add_zero]at q;rw[<-y,<-q];congr 1;rw[<-Array.foldl_toList];simp
   .cases h
  .cases h
end
end Go.ft
namespace Go.ft
abbrev an:cA:=.int .i64
abbrev bC:cA:=.bm .expr
abbrev fU:cA:=.sl .expr ai
abbrev dX:cA:=.sl .str ai
abbrev cn:cA:=.sl .tok ai
abbrev cG:cA:=.bm .stmt
abbrev jX:cA:=.bm .tok
abbrev cC:cA:=.bm .eT
abbrev e6:cA:=.bm .val
abbrev kQ:cA:=.sl .val ai
abbrev dR:cA:=.sl .b2 ai
abbrev cy:cA:=.bm .gz
abbrev LP:cA:=.sl .int ai
abbrev fj:cA:=.sl .byte ai
abbrev sd:cA:=.sl .bool ai
abbrev BY:cA:=.sl .exprs ai
abbrev BZ:cA:=.sl .set ai
abbrev eD:cA:=.sl .str ab
abbrev fe:cA:=.sl .expr ab
end Go.ft
