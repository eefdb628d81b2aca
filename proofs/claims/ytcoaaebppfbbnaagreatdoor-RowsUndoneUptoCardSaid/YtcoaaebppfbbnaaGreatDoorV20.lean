/- Texts of the proof,one behind the other: Trn,Ti,Tj,Tk,Trl,Trm,Tro,Dba,Dbb,Dbc,Dbd,Roc,Rod,Roe,Rog,Zn,Zx,Roh,Roj,Kdo,Bya,Byb,Byc,Drm,Byd,LRu,Rua,Ub,AxFs,FrG. -/
import Derived.Test.YtcoaaebppfbbnaaGreatDoorV19
import Derived.Test.YtcoaaebppfbbnaaGreatDoorRows
import Derived.ProofKit
import Derived.ChangeMaps5
import Derived.ChangeAnyMap
import Derived.Test.YtcoaaebppfbbnaaGreatDoorCards
import Derived.Test.YtcoaaebppfbbnaaGreatDoorTie
import Derived.OpenShut
import Derived.Deep.DeepHandedRow
import Derived.Shelf.Vars
set_option linter.all false
open List renaming length->I,range->dy,mem_append->fM,getElem_mem->fo,mem_cons->ek
open Option renaming some->J,none->ah
open Bool renaming true->ae,false->ai
open Decidable renaming decide->aa
open UInt8 renaming ofNat->bj
open Nat renaming blt->ec,zero_le->cp
open BitVec renaming ofInt->fO
open Go renaming Value->aA,IntKind->b',World->aK,TypeId->bD,maxLen->c5,Program->cx
namespace Go
theorem aeA{p:Prop}(h:p:=by rw[o];simp only[e];exact aaA (by omega)):p:=h
theorem aeF{p:Prop}(h:p:=by simp only[BitVec.toNat_ofInt];omega):p:=h
theorem PM{p:Prop}(h:p:=by show da 0;simp[da]):p:=h
end Go
namespace Go
theorem Dm{p:Prop}(h:p:=by simp only at c;rw[<-l,a]at c;exact absurd c dU):p:=h
theorem Kw{p:Prop}(h:p:=by simp only at c;rw[e]at c;exact absurd c dU):p:=h
theorem adU{p:Prop}(h:p:=by have:=congrArg (λq:b7=>lA q.key) h;simp only[zJ]at this;rw[<-l,a]at this;exact absurd this dU):p:=h
theorem adZ{p:Prop}(h:p:=by have:=congrArg (λq:b7=>lA q.key) hm;simp only[zJ]at this;rw[h]at this;exact absurd this dU):p:=h
theorem ad1{p:Prop}(h:p:=by have:=(Bi hm).1;simp only at this;rw[h]at this;exact absurd this dU):p:=h
theorem aec{p:Prop}(h:p:=by simp only at this;rw[i]at this;exact absurd this dU):p:=h
end Go
namespace Go.Proofs.YtcoaaebppfbbnaaGreatDoor
open Go.dS
def rp(a:Nat)(b:ar):Nat:=b.foldl (λa c=>a*256+c.toNat) a
def kF(b:ar):Nat:=rp 0 b
theorem KH(a:Nat)(c:UInt8)(l:ar):rp a (c::l)=rp (a*256+c.toNat) l:=rfl
theorem ari(l:ar):∀a:Nat,rp a l=a*256 ^ I l+kF l:=by induction l with|nil=>intro a;simp[kF,rp]|cons c l b=>intro a;simp only[kF,KH,dm]at b ⊢;rw[b,b (0*256+c.toNat),Nat.pow_succ];simp only[Nat.add_mul,Nat.zero_mul,Nat.zero_add];rw[Nat.mul_assoc,Nat.mul_comm 256 (256 ^ I l),Nat.add_assoc]
theorem L5(c:UInt8)(l:ar):kF (c::l)=c.toNat*256 ^ I l+kF l:=by have:=ari l (0*256+c.toNat);simp only[Nat.zero_mul,Nat.zero_add]at this;rw[<-this,kF,KH,Nat.zero_mul,Nat.zero_add]
theorem JN:∀l:ar,kF l<256 ^ I l
 |[]=>by simp[kF,rp]
 |c::l=>by have h1:=JN l;have h2:=c.toNat_lt;have h3:c.toNat*256 ^ I l<=255*256 ^ I l:=Nat.mul_le_mul_right _ ag;rw[L5,dm,Nat.pow_succ];omega
theorem B7:∀a x y:ar,eM (a++x) (a++y)=eM x y
 |[],_,_=>rfl
 |c::a,x,y=>by have b:=B7 a x y;simp only[eM,gY,Lib.compareBytes]at b ⊢;rw[if_neg (UInt8.lt_irrefl _),if_neg (UInt8.lt_irrefl _)];exact b
variable{c:UInt8}
theorem r5{d:UInt8}(h:c<d)(x y:ar):eM (c::x) (d::y) = -1:=by simp only[eM,Lib.compareBytes];rw[if_pos h]
theorem r8{d:UInt8}(h:d<c)(x y:ar):eM (c::x) (d::y)=1:=by simp only[eM,Lib.compareBytes];rw[if_neg (UInt8.lt_asymm h),if_pos h]
theorem tP(c:UInt8)(x y:ar):eM (c::x) (c::y)=eM x y:=B7 [c] x y
theorem aui(d:UInt8)(y:ar):eM [] (d::y) = -1:=rfl
theorem aoo(d:UInt8)(y:ar):eM (d::y) []=1:=rfl
theorem Zw(c d:UInt8):c<d\/c=d\/d<c:=by
 rcases Nat.lt_trichotomy c.toNat d.toNat with h|h|h
 .exact .inl h
 .exact .inr (.inl (UInt8.toNat_inj.1 h))
 .exact .inr (.inr h)
theorem Sv:∀(p q x y:ar),I p=I q->eM (p++x) (q++y)=if kF p=kF q then eM x y else if kF p<kF q then -1 else 1
 |[],[],x,y,_=>by simp
 |[],_::_,_,_,h=>by cases h
 |_::_,[],_,_,h=>by cases h
 |c::p,d::q,x,y,h=>by
  simp only[dm,Nat.add_right_cancel_iff]at h;have a:=h;have e:=JN p;have b:=JN q;rw[<-h]at b;rw[L5,L5,gY,gY,<-h];rcases Zw c d with an|rfl|an
  .have h1:c.toNat+1<=d.toNat:=an;have h2:(c.toNat+1)*256 ^ I p<=d.toNat*256 ^ I p:=Nat.mul_le_mul_right _ h1;rw[Nat.add_mul,Nat.one_mul]at h2;rw[r5 an,if_neg ag,if_pos ag]
  .rw[tP,Sv p q x y a];simp only[Nat.add_left_cancel_iff,Nat.add_lt_add_iff_left]
  .have h1:d.toNat+1<=c.toNat:=an;have h2:(d.toNat+1)*256 ^ I p<=c.toNat*256 ^ I p:=Nat.mul_le_mul_right _ h1;rw[Nat.add_mul,Nat.one_mul]at h2;rw[r8 an,if_neg ag,if_neg ag]
theorem apW{x:Nat}(h:x<18446744073709551616):kF (td x)=x:=by
 have e:∀s,(fB x s).toNat=x / 2 ^ s % 256:=λs=>by simp[fB]
 simp only[td,kF,rp,List.foldl_cons,List.foldl_nil,e];simp only[show(2:Nat) ^ 56=72057594037927936 from rfl,show(2:Nat) ^ 48=281474976710656 from rfl,show(2:Nat) ^ 40=1099511627776 from rfl,show(2:Nat) ^ 32=4294967296 from rfl,show(2:Nat) ^ 24=16777216 from rfl,show(2:Nat) ^ 16=65536 from rfl,show(2:Nat) ^ 8=256 from rfl,Nat.pow_zero];omega
theorem ath(n:Int):I (jc n)=8:=rfl
theorem Nz{n:Int}(h:da n):(kF (jc n):Int)=n+9223372036854775808:=by simp only[da]at h;rw[jc,apW ag];omega
theorem GH{v:aH}(h:v.kind=4\/v.kind=5):n_ v=cT v.s++[0,1]:=by rcases h with h|h<;>simp[n_,h]
theorem _J:∀(s t x y:ar),eM (cT s++0::1::x) (cT t++0::1::y)=if s=t then eM x y else eM s t
 |[],[],x,y=>by rw[if_pos rfl];exact B7 [0,1] x y
 |[],c::t,x,y=>by
  rw[if_neg (by simp),aui];by_cases an:c=0
  .subst an;rw[qw,Ev,ib,gY,gY,tP,r5 dU]
  .rw[nu an,Ev,ib,gY,r5 (UInt8.pos_iff_ne_zero.2 an)]
 |c::s,[],x,y=>by
  rw[if_neg (by simp),aoo];by_cases an:c=0
  .subst an;rw[qw,Ev,ib,gY,gY,tP,r8 dU]
  .rw[nu an,Ev,ib,gY,r8 (UInt8.pos_iff_ne_zero.2 an)]
 |c::s,d::t,x,y=>by
  have g:=_J s t x y;by_cases a:c=d
  .subst a;have e:eM (cT (c::s)++0::1::x) (cT (c::t)++0::1::y)=eM (cT s++0::1::x) (cT t++0::1::y):=by
    by_cases an:c=0
    .subst an;rw[qw,qw];exact B7 [0,255] _ _
    .rw[nu an,nu an];exact B7 [c] _ _
   rw[e,g,tP];simp
  .rw[if_neg rH];have b:∀(c d:UInt8) (s t:ar),c<d->∀x y,eM (cT (c::s)++x) (cT (d::t)++y) = -1:=λc d s t h x y=>by
    have ao:d≠0:=UInt8.pos_iff_ne_zero.1 (UInt8.lt_of_le_of_lt (UInt8.zero_le) h);rw[nu ao];by_cases an:c=0
    .subst an;rw[qw];exact r5 h _ _
    .rw[nu an];exact r5 h _ _
   have f:∀(c d:UInt8) (s t:ar),d<c->∀x y,eM (cT (c::s)++x) (cT (d::t)++y)=1:=λc d s t h x y=>by
    have ao:c≠0:=UInt8.pos_iff_ne_zero.1 (UInt8.lt_of_le_of_lt (UInt8.zero_le) h);rw[nu ao];by_cases an:d=0
    .subst an;rw[qw];exact r8 h _ _
    .rw[nu an];exact r8 h _ _
   rcases Zw c d with h|h|h
   .rw[b c d s t h,r5 h]
   .exact absurd h a
   .rw[f c d s t h,r8 h]
theorem RK{a b:Int}(h:a<b):gV a b = -1:=by simp[gV,h]
theorem _S{a b:Int}(h:b<a):gV a b=1:=by
 have:¬a<b:=ag
 simp[gV,h,this]
theorem S0(a:Int):gV a a=0:=by simp[gV]
variable{w:aH}
theorem XD{v:aH}(h:gV v.kind w.kind≠0):g_ v w=gV v.kind w.kind:=by simp[g_,h]
theorem Sr{v:aH}(h:v.kind=w.kind)(h2:gV v.n w.n≠0):g_ v w=gV v.n w.n:=by simp[g_,h,h2,S0]
theorem ap8{v:aH}(h:v.kind=w.kind)(h2:v.n=w.n):g_ v w=eM v.s w.s:=by simp[g_,h,h2,S0,o2]
theorem ME{v:aH}(h:cS v=ae) : 1<=v.kind/\v.kind<=5:=by rcases nm.1 h with ⟨e,_⟩|⟨e,_⟩|⟨e,_⟩|⟨e,_⟩|⟨e,_⟩<;>omega
theorem Ig{v:aH}(h:cS v=ae):(bj v.kind.toNat).toNat=v.kind.toNat:=by have:=ME h;simp;omega
theorem auE{v:aH}(aE:cS v=ae)(g:cS w=ae)(o:da v.n)(p:da w.n)(x y:ar):eM (fq v++x) (fq w++y)=if v=w then eM x y else g_ v w:=by
 have kv:=ME aE;have u:=ME g;rcases Int.lt_trichotomy v.kind w.kind with h|h|h
 .have i:¬v=w:=λe=>by rw[e]at h;omega
  have a:=RK h;rw[if_neg i,XD (by rw[a];decide),a,fq,fq,gY,gY];refine r5 ?_ _ _;show(bj v.kind.toNat).toNat<(bj w.kind.toNat).toNat;rw[Ig aE,Ig g];omega
 .rw[fq,fq,h,gY,gY,tP];obtain⟨k,n,s⟩:=v;obtain⟨z,m,t⟩:=w;simp only at h;subst h;rcases nm.1 aE with ⟨e,b,aS⟩|⟨e,b,aS⟩|⟨e,b⟩|⟨e,h1,h2,h3⟩|⟨e,h1,h2⟩
  .simp only at e b aS;subst e b aS;rcases nm.1 g with ⟨_,l,f⟩|⟨q,_⟩|⟨q,_⟩|⟨q,_⟩|⟨q,_⟩
   .simp only at l f;subst l f;rw[if_pos rfl];rfl
   all_goals cases q
  .simp only at e b aS;subst e aS;rcases nm.1 g with ⟨q,_⟩|⟨_,l,f⟩|⟨q,_⟩|⟨q,_⟩|⟨q,_⟩
   .cases q
   .simp only at l f;subst f;rcases b with rfl|rfl<;>rcases l with rfl|rfl
    .rw[if_pos rfl];exact tP 0 x y
    .exact r5 (c:=0) (d:=1) dU x y
    .exact r8 (c:=1) (d:=0) dU x y
    .rw[if_pos rfl];exact tP 1 x y
   all_goals cases q
  .simp only at e b o p;subst e b;rcases nm.1 g with ⟨q,_⟩|⟨q,_⟩|⟨_,f⟩|⟨q,_⟩|⟨q,_⟩
   .cases q
   .cases q
   .simp only at f;subst f;have p1:n_ ⟨3,n,[]⟩=jc n:=rfl;have p2:n_ ⟨3,m,[]⟩=jc m:=rfl;rw[p1,p2,Sv (jc n) (jc m) x y rfl];have bd:=Nz o;have ei:=Nz p;rcases Int.lt_trichotomy n m with h|rfl|h
    .have a:=RK h;rw[if_neg ag,if_pos ag,if_neg dh,Sr (v:=⟨3,n,[]⟩) (w:=⟨3,m,[]⟩) rfl (by simp only[a];decide)];exact a.symm
    .rw[if_pos rfl,if_pos rfl]
    .have a:=_S h;rw[if_neg ag,if_neg ag,if_neg dh,Sr (v:=⟨3,n,[]⟩) (w:=⟨3,m,[]⟩) rfl (by simp only[a];decide)];exact a.symm
   all_goals cases q
  all_goals
   simp only at e h1;subst e h1;have r:m=0:=by
    rcases nm.1 g with ⟨q,_⟩|⟨q,_⟩|⟨q,_⟩|⟨_,q,_⟩|⟨_,q,_⟩;any_goals exact q
    all_goals cases q
   subst r;rw[GH (by simp),GH (by simp),fI,fI];refine(_J s t x y).trans ?_;rw[show ∀k:Int,g_ ⟨k,0,s⟩ ⟨k,0,t⟩=eM s t fromλk=>ap8 rfl rfl];by_cases j:s=t
   .subst j;rw[if_pos rfl,if_pos rfl]
   .rw[if_neg j,if_neg (by simp[j])]
 .have i:¬v=w:=λe=>by rw[e]at h;omega
  have a:=_S h;rw[if_neg i,XD (by rw[a];decide),a,fq,fq,gY,gY];refine r8 ?_ _ _;show(bj w.kind.toNat).toNat<(bj v.kind.toNat).toNat;rw[Ig aE,Ig g];omega
theorem acu{v:aH}(h:¬v=w):g_ v w≠0:=λe=>h ((CK.eq _ _).1 e)
theorem Bg(v:aH)(l:U aH):dK (v::l)=fq v++dK l:=by simp[dK]
theorem Th:∀(a b:U aH) (x y:ar),I a=I b->a.all cS=ae->b.all cS=ae->(∀v,v∈a->da v.n)->(∀v,v∈b->da v.n)->eM (dK a++x) (dK b++y)=if a=b then eM x y else hW g_ a b
 |[],[],x,y,_,_,_,_,_=>by rw[if_pos rfl];rfl
 |[],_::_,_,_,h,_,_,_,_=>by cases h
 |_::_,[],_,_,h,_,_,_,_=>by cases h
 |v::a,w::b,x,y,h,Q5,Q6,afC,nb=>by
  simp only[et,bx]at Q5 Q6;rw[Bg,Bg,fI,fI,auE Q5.1 Q6.1 (afC v (by simp)) (nb w (by simp))];simp only[dm,Nat.add_right_cancel_iff]at h;by_cases c:v=w
  .subst c;rw[if_pos rfl,Th a b x y h Q5.2 Q6.2 (λu d=>afC u (by simp[d])) (λu d=>nb u (by simp[d]))];have e:g_ v v=0:=(CK.eq _ _).2 rfl;simp only[gZ,true_and,hW,e,jr,if_true]
  .rw[if_neg c,if_neg (by simp[c])];simp only[hW,jr];rw[if_neg (acu c)]
variable{a:U aH}
theorem ajM{b:U aH}(h:¬a=b):hW g_ a b≠0:=λe=>h ((I7.eq a b).1 e)
theorem Wb{b:U aH}(h:I a=I b)(d:a.all cS=ae)(e:b.all cS=ae)(f:∀v,v∈a->da v.n)(nb:∀v,v∈b->da v.n){x y:ar}(g:dK a++x=dK b++y):a=b:=by
 by_cases c:a=b
 .exact c
 .have h1:=Th a b x y h d e f nb;rw[if_neg c,g]at h1;have h2:eM (dK b++y) (dK b++y)=0:=(L3 _ _).2 rfl;rw[h2]at h1;exact absurd h1.symm (ajM c)
theorem P5{p b:U aH}(lP:p.all cS=ae)(c:b.all cS=ae)(d:∀v,v∈p->da v.n)(nb:∀v,v∈b->da v.n):dK p <+: dK b↔p <+: b:=by
 constructor
 .rintro⟨x,a⟩;by_cases e:I p<=I b
  .have h1:b.take (I p)++b.drop (I p)=b:=List.take_append_drop _ _;have h2:dK b=dK (b.take (I p))++dK (b.drop (I p)):=by rw[<-A1,h1]
   rw[h2]at a;have h3:p=b.take (I p):=by refine Wb w9 lP ?_ d (λv aE=>nb v (List.mem_of_mem_take aE)) a;exact cX.2 λv aE=>cX.1 c v (List.mem_of_mem_take aE)
   exact⟨b.drop (I p),by rw[<-h3]at h1;exact h1⟩
  .have h1:p.take (I b)++p.drop (I b)=p:=List.take_append_drop _ _;have h2:dK p=dK (p.take (I b))++dK (p.drop (I b)):=by rw[<-A1,h1]
   have h3:dK (p.take (I b))++(dK (p.drop (I b))++x)=dK b++[]:=by rw[<-fI,<-h2,a,List.append_nil]
   have h4:p.take (I b)=b:=Wb w9 (cX.2 λv aE=>cX.1 lP v (List.mem_of_mem_take aE)) c (λv aE=>d v (List.mem_of_mem_take aE)) nb h3;rw[h4]at h3;have h5:=List.append_cancel_left h3;cases ao:p.drop (I b) with|nil=>have:=congrArg List.length ao;simp at this;omega|cons v l=>rw[ao,Bg,fq]at h5;simp at h5
 .rintro⟨x,a⟩;exact⟨dK x,by rw[<-a,A1]⟩
def kY(t:T)(l:U b7):T:=l.foldl (λt p=>t.put (c6 p.key) p.val) t
def tq(p:b7):Prop:=I p.key<=200/\I p.val<=4000
theorem LD:∀{l:U b7}{t:T},t.cz 0->(∀p,p∈l->tq p)->(kY t l).cz 0
 |[],t,h,_=>h
 |p::l,t,h,bB=>LD (l:=l) (Zt h (bB p (by simp)).1 (bB p (by simp)).2) λq a=>bB q rH
theorem TZ:∀(l:U b7) (t:T),(kY t l).size<=t.size+I l
 |[],t=>b2 _
 |p::l,t=>by have h1:=TZ l (t.put (c6 p.key) p.val);have h2:=NB t (c6 p.key) p.val;simp only[kY,List.foldl_cons,dm]at h1 ⊢;omega
theorem VS:∀(l:U b7) (t:T) (k:ar),(kY t l).get k=match l.reverse.find? (λp=>aa (p.key=k))with|some p=>J p.val|none=>t.get k
 |[],t,k=>rfl
 |p::l,t,k=>by
  have a:=VS l (t.put (c6 p.key) p.val) k;simp only[kY,List.foldl_cons]at a ⊢;rw[a,List.reverse_cons,List.find?_append];cases l.reverse.find? (λp=>aa (p.key=k))with
  |some q=>rfl
  |none=>
   simp only[Option.none_or,List.find?_cons,List.find?_nil,ala];by_cases e:k=p.key
   .simp[e]
   .simp[e,Ne.symm e]
def k2(t:T):U b7->af Nat|[]=>ah|p::l=>if(t.get p.key).isSome then J 0 else(k2 t l).map (·+1)
theorem YQ{R:Type}{kx:bf->DB->af R}{t:T}{l v1:U b7}{g:U bs}{h:ar}(m:t.cz 0)(n:I l<=100000)(b:∀p,p∈l->I p.key<=200):∀(k i:Nat),i<=I l->I l-i<k ->
  aT (λd=>wc d kx) k (0,v1,l,(I l:Int),(i:Int),t.node.kind,t.node.path,t.node.has,t.node.val,t.node.kids,t.node.hash,g,h)=match k2 t (l.drop i)with|none=>kx (.exit 0) (0,v1,l,(I l:Int),(I l:Int),t.node.kind,t.node.path,t.node.has,t.node.val,t.node.kids,t.node.hash,g,h)|some j=>kx .ret (if i+j=0 then 180 else 181,v1,l,(I l:Int),((i+j:Nat):Int),t.node.kind,t.node.path,t.node.has,t.node.val,t.node.kids,t.node.hash,g,h)
 |0,_,_,b=>by omega
 |k+1,i,hi,afu=>by
  rw[cQ];by_cases a:i<I l
  .have c1:(i:Int)<(I l:Int):=ag
   have f:=Ex (g:=g) (h:=h) m (b _ (fo a));have f:oa (l[i].key,t.node.kind,t.node.path,t.node.has,t.node.val,t.node.kids,t.node.hash,g,h)=_:=f;simp only[wc,c1,decide_true,a8,bY a,ax,cb (c:=.kv) a,f,bZ,dj,a_,cV a (show b5 (I l) by simp[b5];omega)];rw[List.drop_eq_getElem_cons a];simp only[k2];cases o:(t.get l[i].key).isSome with
   |true=>
    simp only[a8,if_true,Nat.add_zero];by_cases e:i=0
    .simp only[e,if_true];rfl
    .have aS:¬((i:Int)=0):=ag
     simp only[e,aS,decide_false,a_,if_false]
   |false=>simp only[a_,mW,if_false];rw[YQ (kx:=kx) m n b k (i+1) ag ag];cases k2 t (l.drop (i+1))with|none=>rfl|some j=>simp only[yZ,show i+1+j=i+(j+1) by omega]
  .have e:i=I l:=ag
   subst e;have c1:¬(I l:Int)<(I l:Int):=ag
   simp only[wc,c1,decide_false,a_,nD,k2]
theorem Y0{R:Type}{kx:bf->Ei->af R}{l:U b7}{z:Int}{g:U bs}{h:ar}(m:I l<=100000)(d:∀p,p∈l->tq p):∀(k i:Nat) (t:T),t.cz 0->i<=I l->I l-i<k ->
  aT (λf=>vW f kx) k (z,l,(I l:Int),(i:Int),t.node.kind,t.node.path,t.node.has,t.node.val,t.node.kids,t.node.hash,g,h)=kx (.exit 3) (z,l,(I l:Int),(I l:Int),(kY t (l.drop i)).node.kind,(kY t (l.drop i)).node.path,(kY t (l.drop i)).node.has,(kY t (l.drop i)).node.val,(kY t (l.drop i)).node.kids,(kY t (l.drop i)).node.hash,g,h)
 |0,_,_,_,_,d=>by omega
 |k+1,i,t,hw,hi,afu=>by
  rw[cQ];by_cases a:i<I l
  .have c1:(i:Int)<(I l:Int):=ag
   have b:=d _ (fo a);have j:=ajJ (g:=g) (h:=h) hw b.1 b.2;have j:C9 (l[i].key,l[i].val,t.node.kind,t.node.path,t.node.has,t.node.val,t.node.kids,t.node.hash,g,h)=_:=j;simp only[vW,c1,decide_true,a8,bY a,ax,cb (c:=.kv) a,j,bZ,dj,a_,cV a (show b5 (I l) by simp[b5];omega)];rw[Y0 (kx:=kx) m d k (i+1) _ (Zt hw b.1 b.2) ag ag,List.drop_eq_getElem_cons a];rfl
  .have e:i=I l:=ag
   subst e;have c1:¬(I l:Int)<(I l:Int):=ag
   simp only[vW,c1,decide_false,a_,nD];rfl
theorem ajs{a b:U b7}(m:I a<=500000)(aj:I b<=500000):Fq [a,b]=J (a++b):=by
 have f:aa ((0:Int)<((I [a,b]:Nat):Int))=true:=rfl;have d2:aa ((1:Int)<((I [a,b]:Nat):Int))=true:=rfl;have g:aa ((2:Int)<((I [a,b]:Nat):Int))=false:=rfl;have w1:wr .i64 (0+1)=1:=dU
 have w2:wr .i64 (1+1)=2:=dU
 have a0:at' .jM [a,b] 0=a:=rfl;have a1:at' .jM [a,b] 1=b:=rfl;have i0:aU 0 (I [a,b])=true:=rfl;have i1:aU 1 (I [a,b])=true:=rfl;have h:wr .i64 (0+(I a:Int))=(I a:Int):=gg
 have i:wr .i64 ((I a:Int)+(I b:Int))=((I a+I b:Nat):Int):=gg
 have p1:aa ((I a:Int)<0)=false:=bl ag;have p2:aa (((I a+I b:Nat):Int)<0)=false:=bl ag;have bd:aa ((0:Int)<=((I a+I b:Nat):Int))=true:=aY ag;have j:aa (((I a+I b:Nat):Int)<=2000000)=true:=aY ag;have k:aa (I ([]:U b7)+I a<=bJ)=true:=aY (by simp only[bJ,hn];omega);have l:aa (I ([]++a:U b7)+I b<=bJ)=true:=aY PK;have d:∀{R:Type}(kx:bf->Ek->af R),aT (λc=>sW c kx) 100 ([a,b],0,[a,b],((I [a,b]:Nat):Int),0)=kx (.exit 0) ([a,b],((I a+I b:Nat):Int),[a,b],((I [a,b]:Nat):Int),2):=λkx=>by rw[show(100:Nat)=97+1+1+1 from rfl,cQ];simp only[sW,f,a8,i0,ax,a0,h,p1,a_,w1];rw[cQ];simp only[sW,d2,a8,i1,ax,a1,i,p2,a_,w2];rw[cQ];simp only[sW,g,a_]
 have e:∀{R:Type}(kx:bf->Ep->af R),aT (λc=>sL c kx) 100 ([],[a,b],((I [a,b]:Nat):Int),0)=kx (.exit 2) ([]++a++b,[a,b],((I [a,b]:Nat):Int),2):=λkx=>by rw[show(100:Nat)=97+1+1+1 from rfl,cQ];simp only[sL,f,a8,i0,ax,a0,k,w1];rw[cQ];simp only[sL,d2,a8,i1,ax,a1,l,w2];rw[cQ];simp only[sL,g,a_]
 simp only[Fq,Mq];rw[d];simp only[bd,j,Bool.and_true,ax,a8];rw[e];simp
def hC(tb:bU)(r:U aH)(t:T):Int×T:=cond (aa ((lG tb r).2=0)) (match k2 t (dk tb r::fD tb r tb.al r)with|some j=>(if j=0 then 180 else 181,t)|none=>(0,kY t (dZ tb r))) ((lG tb r).2,t)
variable{r:U aH}{tb:bU}
theorem J0(h:(lG tb r).2=0)(a:hS tb r=0\/hS tb r≠0):hS tb r=0/\(dZ tb r).all nW=ae/\lG tb r=(dZ tb r,0):=by
 unfold lG at *;cases h1:aa (hS tb r=0)with
 |false=>rw[h1]at h;exact absurd h (of_decide_eq_false h1)
 |true=>rw[h1]at h;cases h2:(dZ tb r).all nW with|false=>rw[h2]at h;cases h|true=>exact⟨of_decide_eq_true h1,rfl,rfl⟩
theorem DL{p:b7}:nW p=ae↔tq p:=by simp[nW,tq]
variable{g:U bs}{h:ar}{t:T}
theorem awi(l:nC tb r=J (hS tb r))(aj:lX r)(i:t.cz 0)(k:Nat)(n : 600<k) :
  BF k (tb,r,t.node.kind,t.node.path,t.node.has,t.node.val,t.node.kids,t.node.hash,g,h)=J ((hC tb r t).1,(hC tb r t).2.node.kind,(hC tb r t).2.node.path,(hC tb r t).2.node.has,(hC tb r t).2.node.val,(hC tb r t).2.node.kids,(hC tb r t).2.node.hash,g,h):=by
 simp only[BF,Kg l aj,bZ,hC];cases m:aa ((lG tb r).2=0)with
 |false=>rfl
 |true=>
  obtain⟨h0,d,c⟩:=J0 (of_decide_eq_true m) (Classical.em _);have f:=jX h0;have a:zo tb r=J (⟨[dk tb r],sn (dk tb r)⟩,⟨tb.idx.map (gw tb r),hD 0 (tb.idx.map (gw tb r))⟩,⟨fD tb r tb.al r,hD 0 (fD tb r tb.al r)⟩,⟨g8 tb r tb.al r,hD 0 (g8 tb r tb.al r)⟩):=aaV f aj 5000 ag;have o:=yg (uP h0).1;have q:=EK (t:=tb) (r:=r) tb.al r;have e:I (lG tb r).1<=400:=by rw[c];have:=(mN (uP h0).1).2.2.1;have h3:=EL (t:=tb) (r:=r) tb.al r;simp only[dZ,dm,dc,List.length_map];omega
  have b:∀p,p∈dZ tb r->tq p:=λp a=>DL.1 (cX.1 d p a);simp only[dj,a_,a8,a,bZ,ajs (show I [dk tb r]<=500000 by simp) (show I (fD tb r tb.al r)<=500000 by omega)];have h1:∀p,p∈[dk tb r]++fD tb r tb.al r->I p.key<=200:=λp a=>by
   refine(b p ?_).1;simp only[dZ,ek,fM,List.not_mem_nil,or_false]at a ⊢;rcases a with a|a
   .exact .inl a
   .exact .inr (.inr (.inl a))
  refine(YQ i oU h1 k 0 ag oU).trans ?_;simp only[gH,List.singleton_append];cases k2 t (dk tb r::fD tb r tb.al r)with
  |some j=>simp only[Nat.zero_add]
  |none=>
   simp only[];rw[c];have e:I (dZ tb r)<=400:=by rw[c]at e;exact e
   refine(Y0 ag b k 0 t i ag ag).trans ?_;simp only[gH]
theorem Ol(a:nC tb r=J (hS tb r))(aj:lX r)(b:t.cz 0) :
  v9 (tb,r,t.node.kind,t.node.path,t.node.has,t.node.val,t.node.kids,t.node.hash,g,h)=J ((hC tb r t).1,(hC tb r t).2.node.kind,(hC tb r t).2.node.path,(hC tb r t).2.node.has,(hC tb r t).2.node.val,(hC tb r t).2.node.kids,(hC tb r t).2.node.hash,g,h):=awi a aj b 5000 ag
abbrev agi:=Int×Int×Int
def zh:bf->BZ->af agi:=λe f=>match f with|(_,a,b,c,_,d,_,_,_)=>match e with|.ret=>J (a,b,c)|.exit 0=>J (0,0,d)|_=>ah
theorem akJ{b:ar}{p:Nat}(c:p<=I b)(aj:I b<=1000000):oO b (p:Int)=aT (λa=>qI a zh) 100 ((p:Int),0,0,0,0,10,b.drop p,(I (b.drop p):Int),0):=by simp only[oO,Mg];rw[bl (show ¬(p:Int)<0 by omega),a_,bl (show ¬(I b:Int)<(p:Int) by omega),a_,show upto (p:Int) (I b) (I b)=ae by simp[upto,bx];omega];rfl
theorem aaA{n:Nat}(h:n<256):(bj n).toNat=n:=by simp_all
theorem au8:∀c:Nat,c<256->wr .u64 (fp .u8 (c:Int) 127)=((c % 128:Nat):Int):=hA
variable{i:Nat}
theorem av9{x:Nat}(hi:i<=9)(h:x*2 ^ (7*i)<18446744073709551616):js .u64 (x:Int) (wr .i64 (7*(i:Int)))=((x*2 ^ (7*i):Nat):Int):=by
 have e:(wr .i64 (7*(i:Int))).toNat=7*i:=PG
 show wr .u64 ((x:Int)*2 ^ min (wr .i64 (7*(i:Int))).toNat b'.u64.bits)=_;rw[e,Nat.min_eq_left (by simp[b'.bits];omega),<-v' h];simp
theorem awy{a x:Nat}(c:a<2 ^ (7*i))(h:a+x*2 ^ (7*i)<18446744073709551616):iW .u64 (a:Int) ((x*2 ^ (7*i):Nat):Int)=((a+x*2 ^ (7*i):Nat):Int):=by
 have d:(fO 64 ((x*2 ^ (7*i):Nat):Int)).toNat=x*2 ^ (7*i):=aeF
 have e:(fO 64 (a:Int)).toNat=a:=aeF
 have f:a ||| x*2 ^ (7*i)=a+x*2 ^ (7*i):=by have:=Nat.shiftLeft_add_eq_or_of_lt (i:=7*i) (b:=a) c x;rw[Nat.shiftLeft_eq]at this;rw[Nat.or_comm,<-this];omega
 show b'.wrap .u64 (((fO 64 (a:Int) ||| fO 64 ((x*2 ^ (7*i):Nat):Int)).toNat:Nat):Int)=_;rw[BitVec.toNat_or,d,e,f];exact v' h
theorem Su{p:Int}{a:Nat}{l:ar}(hi:i<I l)(d:i<=9)(f:b5 (I l))(g:a<2 ^ (7*i))(h:a+(l[i].toNat % 128)*2 ^ (7*i)<18446744073709551616)(b:BZ->af agi) :
  qI b zh (p,0,0,0,(a:Int),10,l,(I l:Int),(i:Int))=if(i=9/\1<l[i].toNat)\/(l[i].toNat=0/\0<i)then J (0,0,11)else if l[i].toNat<128 then J (((a+(l[i].toNat % 128)*2 ^ (7*i):Nat):Int),wr .i64 (wr .i64 (p+i)+1),0)else b (p,0,0,0,((a+(l[i].toNat % 128)*2 ^ (7*i):Nat):Int),10,l,(I l:Int),((i+1:Nat):Int)):=by
 have an:=l[i].toNat_lt;have e:iW .u64 (a:Int) (js .u64 (wr .u64 (fp .u8 (l[i].toNat:Int) 127)) (wr .i64 (7*(i:Int))))=((a+(l[i].toNat % 128)*2 ^ (7*i):Nat):Int):=by rw[au8 _ an,av9 d ag,awy g h]
 have c1:aa (0<=wr .i64 (7*(i:Int)))=true:=by rw[ht lW];exact aY ag
 simp only[qI,ez hi,a8,bY hi,ax,cb (c:=.byte) hi,cV hi f,zh,c1,e]
 grind
theorem abL{p:Nat}{l r:ar}(v:p+I l<=1000000):∀(k i a m f:Nat),i+k=9->l.drop i=ee k m++r->a<2 ^ (7*i)->a+m*2 ^ (7*i)<18446744073709551616->(0<i->0<m)->k<f ->
  aT (λc=>qI c zh) f ((p:Int),0,0,0,(a:Int),10,l,(I l:Int),(i:Int))=J (((a+m*2 ^ (7*i):Nat):Int),((p+i+I (ee k m):Nat):Int),0)
 |_,_,_,_,0,_,_,_,_,_,h=>by omega
 |k,i,a,m,f+1,aV,ao,cI,hm,h0,bO=>by
  have g:=congrArg List.length ao;have h1:=mc k m;rw[iu,dc]at g;have hi:i<I l:=ag
  have j:b5 (I l):=mK
  have o:l[i]=(ee k m++r)[0]' dh:=by
   have:(l.drop i)[0]'(by rw[iu];omega)=l[i]:=by simp
   rw[<-this];simp only[ao]
  have w1:wr .i64 (wr .i64 ((p:Int)+i)+1)=((p+i+1:Nat):Int):=by rw[ht (n:=(p:Int)+i) lW,ht lW];omega
  rw[cQ];have b:m<128->ee k m=[bj m]->qI (aT (λc=>qI c zh) f) zh ((p:Int),0,0,0,(a:Int),10,l,(I l:Int),(i:Int))=J (((a+m*2 ^ (7*i):Nat):Int),((p+i+I (ee k m):Nat):Int),0):=λd e=>by
   have q:l[i].toNat=m:=aeA
   rw[Su hi ag j cI (by rw[q,Nat.mod_eq_of_lt d];exact hm),q,Nat.mod_eq_of_lt d,if_neg,if_pos d,w1,e]
   .rfl
   .rintro(⟨s,h2⟩|⟨h2,h3⟩)
    .subst s;have : 2*2 ^ (7*9)<=m*2 ^ (7*9):=Nat.mul_le_mul_right _ h2;omega
    .have:=h0 h3;omega
  cases k with
  |zero=>
   have s:i=9:=ag
   subst s;exact b ag rfl
  |succ k=>
   by_cases d:m<128
   .exact b d (by simp[ee,d])
   .have e:ee (k+1) m=bj (m % 128+128)::ee k (m / 128):=by simp[ee,d]
    have q:l[i].toNat=m % 128+128:=aeA
    have t:(m % 128+128) % 128=m % 128:=ag
    have u : 2 ^ (7*(i+1))=128*2 ^ (7*i):=by rw[Nat.mul_add,Nat.pow_add];omega
    have x:m % 128*2 ^ (7*i)+(m / 128)*2 ^ (7*(i+1))=m*2 ^ (7*i):=by rw[u,<-Nat.mul_assoc,<-Nat.add_mul];congr 1;omega
    have hle:m % 128*2 ^ (7*i)<=127*2 ^ (7*i):=Nat.mul_le_mul_right _ ag;rw[Su hi ag j cI (by rw[q,t];omega),q,t,if_neg ag,if_neg ag];have w:=abL (r:=r) v k (i+1) (a+m % 128*2 ^ (7*i)) (m / 128) f ag (by rw[<-List.drop_drop,ao,e];simp) (by rw[u];omega) ag ag ag
    rw[w,e];simp only[dm,c4,iH];refine⟨by congr 1;omega,by congr 1;omega,trivial⟩
theorem CZ{b r:ar}{p n:Nat}(ao:b.drop p=ee 9 n++r)(a:n<18446744073709551616)(aj:I b<=1000000):oO b (p:Int)=J ((n:Int),((p+I (ee 9 n):Nat):Int),0)/\p+I (ee 9 n)+I r=I b:=by have c:=congrArg List.length ao;have h1:=mc 9 n;rw[iu,dc]at c;refine⟨?_,by omega⟩;rw[akJ ag aj];have:=abL (p:=p) (l:=b.drop p) (r:=r) (by rw[iu];omega) 9 0 0 n 100 rfl xd (by simp) n2 ag ag;exact oK
theorem agk(n:Int):wr .i64 n=(n+9223372036854775808) % 18446744073709551616-9223372036854775808:=by simp only[wr,b'.wrap_i64]
theorem avi{n:Int}(h:da n=ae):gx .i64 (wr .i64 (cK .u64 (g5 n:Int) 1)) (wr .i64 (0-(wr .i64 (fp .u64 (g5 n:Int) 1))))=n:=by
 have d:=Pm h;simp[da]at h;have c:cK .u64 (g5 n:Int) 1=((g5 n / 2:Nat):Int):=by show(g5 n:Int).fdiv 2=_;rw[Int.fdiv_eq_ediv_of_nonneg _ ag];omega
 have aS:fp .u64 (g5 n:Int) 1=((g5 n % 2:Nat):Int):=by show wr .u64 (((fO 64 (g5 n:Int) &&& fO 64 1).toNat:Nat):Int)=_;rw[BitVec.toNat_and,show(fO 64 1).toNat=1 by decide,Nat.and_one_is_mod,BitVec.toNat_ofInt,zi];omega
 rw[c,aS,ht (n:=((g5 n / 2:Nat):Int)) lW,ht (n:=((g5 n % 2:Nat):Int)) lW];by_cases a:n<0
 .have z:g5 n % 2=1:=by simp only[g5,if_pos a];omega
  have b:((g5 n / 2:Nat):Int) = -n-1:=by simp only[g5,if_pos a];omega
  rw[z,b,show wr .i64 (0-((1:Nat):Int)) = -1 by decide];show wr .i64 (((fO 64 (-n-1) ^^^ fO 64 (-1)).toNat:Nat):Int)=_;rw[show fO 64 (-1)=BitVec.allOnes 64 by decide,BitVec.xor_allOnes,BitVec.toNat_not,BitVec.toNat_ofInt,agk];omega
 .have z:g5 n % 2=0:=by simp only[g5,if_neg a];omega
  have b:((g5 n / 2:Nat):Int)=n:=by simp only[g5,if_neg a];omega
  rw[z,b,show wr .i64 (0-((0:Nat):Int))=0 by decide,aek];show wr .i64 (((fO 64 n).toNat:Nat):Int)=_;rw[BitVec.toNat_ofInt,agk];omega
theorem akY{b r:ar}{p:Nat}{n:Int}(h:da n=ae)(ao:b.drop p=ee 9 (g5 n)++r)(aj:I b<=1000000):FC b (p:Int)=J (n,((p+I (ee 9 (g5 n)):Nat):Int),0):=by simp only[FC,KA,(CZ ao (Pm h) aj).1,bZ,avi h]
def vn(q:ar)(bd e:Int)(v:aH):af D1:=
 let f:=λ(p2:Bool)=>cond p2 (J (v,q,bd,11)) ((By (v,q,bd,e)).bind λ(c,a,b,d)=>cond (!c) (J (v,a,b,11)) (J (v,a,b,d)))
 cond (aa (e=0)) (f (!decide (hP v=0))) (f ai)
def agl(x:Int)(b:ar)(p e:Int):af D1:=
 cond (aa (x=1)) (vn b p e (aH.mk x 0 [])) (
  cond (aa (x=2)) ((r_ (b,p,e)).bind λ(i,k,l,m)=>vn k l m (aH.mk x (wr .i64 i) [])) (
  cond (aa (x=3)) ((Bw (b,p,e)).bind λ(n,o,a,c)=>vn o a c (aH.mk x n [])) (
   let j:=λ(p1:Bool)=>cond p1 ((yM (b,p,e)).bind λ(d,f,g,h)=>vn f g h (aH.mk x 0 d)) (vn b p 11 (aH.mk x 0 []))
   cond (aa (x=4)) (j (aa (x=4))) (j (aa (x=5))))))
theorem aoI(b:ar)(p e:Int):B4 (b,p,e)=(r_ (b,p,e)).bind λ(x,c,d,a)=>cond (!decide (a=0)) (J (aH.mk (wr .i64 x) 0 [],c,d,a)) (agl (wr .i64 x) c d a):=rfl
def agj:bf->Dx->af (U aH×Int):=λe b=>match b with|(v4,a',_,_,_,cw,a)=>match e with|.exit 1=>cond (aa (a=0)) (cond (aa (cw<(I v4:Int))) (J ([],11)) (cond (!decide (a=0)) (J ([],a)) (J (a',0)))) (cond (!decide (a=0)) (J ([],a)) (J (a',0)))|_=>ah
theorem atr{l:U aH}(a:I l<=4000):I (hX l).1<=110000:=by
 simp only[hX];cases h:l.all (λv=>cS v)with
 |false=>simp
 |true=>rw[a8];cases ao:aa (100<(I l:Int))with|true=>simp|false=>have:=of_decide_eq_false ao;have h1:=Rn h;have h2:=mc 9 (I l);simp only[a_,dc];omega
def QZ(r:U aH):Bool:=aa ((hX r).2=0)
theorem ajy{b r s:ar}{p:Nat}(ao:b.drop p=(ee 5 (I s)++s)++r)(aj:I b<=1000000):FG b (p:Int)=J (s,((p+I (ee 5 (I s)++s):Nat):Int),0)/\b.drop (p+I (ee 5 (I s)++s))=r:=by
 have h0:=congrArg List.length ao;simp only[iu,dc]at h0;have a:=ao;rw[fI,<-Ou (show I s<128 ^ 6 by omega)]at a;obtain⟨h1,h2⟩:=CZ a ag aj;rw[Ou (show I s<128 ^ 6 by omega)]at a h1 h2;rw[dc]at h2;have h3:b.drop (p+I (ee 5 (I s)))=s++r:=by rw[<-List.drop_drop,a,List.drop_left]
 refine⟨?_,by rw[<-List.drop_drop,ao,List.drop_left]⟩;obtain⟨q,cA⟩:∃q,q=p+I (ee 5 (I s)):=⟨_,rfl⟩;rw[<-cA]at h1 h2 h3;simp only[FG,KP,h1,bZ,decide_true,dj,a_];rw[bl ag,a_,ht (n:=(I b:Int)-q) lW,show(I b:Int)-(q:Int)=((I b-q:Nat):Int) by omega,v' ag,bl ag,a_,ht (n:=(I s:Int)) lW,ht lW];have c:upto (q:Int) ((q:Int)+(I s:Int)) (I b)=true:=by simp[upto,bx];omega
 have an:cut b (q:Int) ((q:Int)+(I s:Int))=s:=by simp only[cut,Int.toNat_natCast];rw[h3,show((q:Int)+(I s:Int)).toNat-q=I s by omega,List.take_left]
 rw[c,an,ax,a8,aY (show 0+I s<=bJ by simp[bJ];omega),ax,a8,dc,show(q:Int)+(I s:Int)=((p+(I (ee 5 (I s))+I s):Nat):Int) by omega];rfl
theorem aap{n:Int}(h : 0<=n/\n<256):((kj n).toNat:Int)=n:=by obtain⟨m,rfl⟩:=Int.eq_ofNat_of_zero_le h.1;rw[kj,Pd,Int.toNat_natCast,aaA (Nat.mod_lt _ ag)];omega
theorem RL{b r:ar}{p:Nat}(ao:b.drop p=c::r)(aj:I b<=1000000):r_ (b,(p:Int),0)=J ((c.toNat:Int),b,((p+1:Nat):Int),0)/\b.drop (p+1)=r/\p<I b:=by
 have h0:=congrArg List.length ao;simp only[iu,dm]at h0;have a:p<I b:=ag
 rw[List.drop_eq_getElem_cons a]at ao;obtain⟨h1,h2⟩:=List.cons.inj ao;refine⟨?_,h2,a⟩;simp only[r_,LS];rw[bl (show ¬(p:Int)=(I b:Int) by omega),a_,ht (n:=(p:Int)+1) lW,show(p:Int)+1-1=(p:Int) by omega,ht (n:=(p:Int)) lW,bY a,ax,a8,cb (c:=.byte) a,h1];rfl
theorem YB{b r s:ar}{p:Nat}(ao:b.drop p=(ee 5 (I s)++s)++r)(c:I s<=1000)(aj:I b<=1000000):yM (b,(p:Int),0)=J (s,b,((p+I (ee 5 (I s)++s):Nat):Int),0):=by have a:=ao;rw[fI,<-Ou (show I s<128 ^ 6 by omega)]at a;obtain⟨h1,_⟩:=CZ a ag aj;simp only[yM,Lq,h1,(ajy ao aj).1,bZ];rw[bl (show ¬(1000:Int)<(I s:Int) by omega)];rfl
theorem z6{b:ar}{q:Int}{v:aH}(h:cS v=ae):vn b q 0 v=J (v,b,q,0):=by simp only[vn,agh,h,By,GN];cases aa (v.kind=4)<;>rfl
theorem agw{v:aH}(h:cS v=ae):(v.kind=1->v.n=0/\v.s=[])/\(v.kind=2->(v.n=0\/v.n=1)/\v.s=[])/\(v.kind=3->v.s=[])/\(v.kind=4\/v.kind=5->v.n=0):=by
 obtain⟨k,n,s⟩:=v;refine⟨λh1=>?_,λh1=>?_,λh1=>?_,λh1=>?_⟩
 .simp only at h1;subst h1;by_cases h0:n=0<;>simp[cS,h0]at h ⊢ <;> grind
 .simp only at h1;subst h1;by_cases h0:n=0<;>by_cases h2:n=1<;>simp[cS,h0,h2]at h ⊢ <;> grind
 .simp only at h1;subst h1;simp[cS]at h ⊢
  grind
 .rcases h1 with h1|h1<;>(simp only at h1;subst h1;by_cases h0:n=0<;>simp[cS,h0]at h ⊢)
theorem amM{b r:ar}{p:Nat}{v:aH}(h:cS v=ae)(i:da v.n=ae)(ao:b.drop p=kD v++r)(aj:I b<=1000000):B4 (b,(p:Int),0)=J (v,b,((p+I (kD v):Nat):Int),0)/\b.drop (p+I (kD v))=r:=by
 refine⟨?_,by rw[<-List.drop_drop,ao,List.drop_left]⟩;have c:=ao;rw[kD,gY]at c;obtain⟨w1,w2,w3⟩:=RL c aj;obtain⟨j,l,m,e⟩:=agw h;have d:=UL h;have f:wr .i64 ((kj v.kind).toNat:Int)=v.kind:=by rw[aap ag,ht lW]
 rw[aoI,w1,bZ];simp only[f,decide_true,dj,a_];simp only[agl];obtain⟨k,n,s⟩:=v;simp only at j l m e d w2 ⊢;rcases d with rfl|rfl|rfl|rfl|rfl
 .obtain⟨rfl,rfl⟩:=j rfl;exact z6 h
 .obtain⟨h2,rfl⟩:=l rfl;have w2:b.drop (p+1)=kj n::r:=by rw[w2];rfl
  obtain⟨a,_,_⟩:=RL w2 aj;rw[bl dU,a_,aY dU,a8,a,bZ];simp only[aap (show 0<=n/\n<256 by omega),ht (show da n by simpa using i)];exact z6 h
 .obtain rfl:=m rfl;have w2:b.drop (p+1)=ee 9 (g5 n)++r:=by rw[w2];rfl
  have a:=akY i w2 aj;rw[bl dU,a_,bl dU,a_,aY dU,a8];simp only[Bw,P0,a,bZ];rw[z6 h,kD];simp only[if_neg (show ¬(3:Int)=2 by decide),if_true,dm,c4,iH,true_and,and_true];omega
 .obtain rfl:=e (.inl rfl);have g:=A3 h (.inl rfl);have w2:b.drop (p+1)=(ee 5 (I s)++s)++r:=by rw[w2];rfl
  have a:=YB w2 g aj;rw[bl dU,a_,bl dU,a_,bl dU,a_,aY dU,a8,a8,a,bZ];simp only;rw[z6 h,kD];simp only[if_neg (show ¬(4:Int)=2 by decide),if_neg (show ¬(4:Int)=3 by decide),true_or,if_true,dm,c4,iH,true_and,and_true];omega
 .obtain rfl:=e (.inr rfl);have g:=A3 h (.inr rfl);have w2:b.drop (p+1)=(ee 5 (I s)++s)++r:=by rw[w2];rfl
  have a:=YB w2 g aj;rw[bl dU,a_,bl dU,a_,bl dU,a_,bl dU,a_,aY dU,a8,a,bZ];simp only;rw[z6 h,kD];simp only[if_neg (show ¬(5:Int)=2 by decide),if_neg (show ¬(5:Int)=3 by decide),or_true,if_true,dm,c4,iH,true_and,and_true];omega
theorem adf{b:ar}{n:Nat}(aj:I b<=1000000)(d:n<=100):∀(l:U aH) (k p:Nat) (acc:U aH),b.drop p=M2 l->p<=I b->I l<k->I acc+I l=n->(∀v,v∈l->cS v=ae/\da v.n=ae)->aT (λa=>v_ a agj) k (b,acc,(n:Int),(I acc:Int),b,(p:Int),0)=J (acc++l,0)
 |_,0,_,_,_,_,h,_,_=>by omega
 |[],k+1,p,acc,ao,bn,_,cI,_=>by have:=congrArg List.length ao;simp[M2]at this cI;rw[cQ];simp only[v_,bl (show ¬(I acc:Int)<(n:Int) by omega),a_,agj,bl (show ¬(p:Int)<(I b:Int) by omega),List.append_nil];rfl
 |v::l,k+1,p,acc,ao,bn,aV,cI,aE=>by simp only[dm]at aV cI;rw[Lk]at ao;obtain⟨v1,v2⟩:=aE v (by simp);obtain⟨h1,h2⟩:=amM v1 v2 ao aj;have h4:=congrArg List.length ao;simp only[iu,dc]at h4;have c:=adf aj d l k (p+I (kD v)) (acc++[v]) h2 ag ag dh λx e=>aE x tL;rw[cQ];simp only[v_,aY (show(I acc:Int)<(n:Int) by omega),a8,h1,bZ,ax,aY (show I acc+1<=bJ by simp[bJ];omega),decide_true,dj,a_,show(I acc:Int)+1=((I acc+1:Nat):Int) by omega,v' (show I acc+1<18446744073709551616 by omega)];rw[dc]at c;exact c.trans (by rw[fI];rfl)
theorem aiM{l:U aH}(h:QZ l=ae):(∀v,v∈l->cS v=ae)/\I l<=100/\(hX l).1=ee 9 (I l)++M2 l:=by
 have h:=of_decide_eq_true h;cases h1:l.all (λv=>cS v)with
 |false=>simp[hX,h1]at h
 |true=>cases h2:aa (100<(I l:Int))with|true=>simp[hX,h1,h2]at h|false=>have:=of_decide_eq_false h2;refine⟨λv aE=>cX.1 h1 v aE,by omega,by simp[hX,h1,h2]⟩
theorem SB{l:U aH}(h:QZ l=ae)(a:∀v,v∈l->da v.n=ae):tt (hX l).1=J (l,0):=by obtain⟨h1,h2,h3⟩:=aiM h;have c:I (hX l).1<=110000:=atr ag;rw[h3]at c ⊢;have h4:=(CZ (b:=ee 9 (I l)++M2 l) (p:=0) rfl (show I l<18446744073709551616 by omega) ag).1;simp only[tt,Mb];rw[show oO (ee 9 (I l)++M2 l) 0=_ from h4,bZ,aY rfl,dj,a_,bl (show ¬(100:Int)<(I l:Int) by omega),a_];exact adf (n:=I l) ag h2 l 5000 _ [] (by rw[Nat.zero_add,List.drop_left]) (by simp) ag (by simp) λv aE=>⟨h1 v aE,a v aE⟩
theorem SN(f:lY tb r):QZ r=true:=by have h1:r.all (λv=>cS v)=true:=cX.2 f.right;have h2:aa (100<(I r:Int))=false:=bl (by have:=f.len;have:=f.Cu;omega);exact aY (by simp[hX,h1,h2])
theorem Tb(a:nC tb r=J (hS tb r))(h0:hS tb r=0)(aj:lX r):rl tb (dk tb r).val=J (r,0):=by have h1:tt (dk tb r).val=J (r,0):=SB (SN (jX h0)) aj;simp only[rl,Lj,h1,bZ,a,h0,decide_true,dj,a_]
theorem ab0(h:c≠255):(c+1).toNat=c.toNat+1:=by have h1:c.toNat≠255:=λe=>h (UInt8.toNat_inj.1 e);have h2:=c.toNat_lt;rw[UInt8.toNat_add];have:(1:UInt8).toNat=1:=rfl;omega
theorem abZ:∀(b k:ar),(dw b k).isSome=ae↔¬k<b/\(fW b=[]\/k<fW b)
 |[],k=>by simp[dw,fW]
 |c::l,[]=>by have:=List.nil_lt_cons c l;simp[dw]
 |c::l,x::k=>by
  simp only[dw,fW,List.cons_lt_cons_iff];have i:=x.toNat_lt;by_cases e:c=x
  .subst e;have f:=abZ l k;simp only[if_true,f,pr,Nat.lt_irrefl,false_or,true_and];by_cases a:fW l=[]
   .simp only[a,if_true,true_or,and_true];by_cases an:c=255
    .simp[an]
    .have:=ab0 an;simp only[an,if_false,List.cons_lt_cons_iff,pr,this];simp
   .simp[a,List.cons_lt_cons_iff,pr]
  .have g:c.toNat≠x.toNat:=λh=>e (UInt8.toNat_inj.1 h);have aS:¬x=c:=λh=>e h.symm;simp only[e,if_false,aS,false_and,or_false,pr];by_cases d:x.toNat<c.toNat
   .simp[d]
   .by_cases a:fW l=[]
    .simp only[a,if_true];by_cases an:c=255
     .subst an;have:(255:UInt8).toNat=255:=rfl;omega
     .have:=ab0 an;simp only[an,if_false,List.cons_lt_cons_iff,pr,this];have h3:¬x.toNat<c.toNat+1:=ag
      simp[h3]
    .simp only[a,if_false,List.cons_lt_cons_iff,pr,aS,false_and,or_false];simp[d]
variable{k:ar}
theorem Zp(h:t.cz 0){b v:ar}:b7.mk k v∈range t b (fW b)↔t.get k=J v/\(dw b k).isSome=true:=by rw[mem_range h,abZ]
theorem Ry{R:Type}{kx:bf->Ir->af R}{tb:bU}{l:U b7}{dec:b7->U aH}{a:Int}{b:ar}{c:Bool}{d:ar}{e:U bs}{f:ar}{g:U bs}{h:ar}(n:I l<=100000)(ao:∀p,p∈l->rl tb p.val=J (dec p,0)):∀(k i:Nat) (acc:U (U aH)),i<=I l->I l-i<k->I acc<=i ->
  aT (λm=>yB m kx) k (acc,ai,l,(I l:Int),(i:Int),a,b,c,d,e,f,g,h,tb)=kx (.exit 0) (acc++(l.drop i).map dec,ai,l,(I l:Int),(I l:Int),a,b,c,d,e,f,g,h,tb)
 |0,_,_,_,aV,_=>by omega
 |k+1,i,acc,hi,aV,cI=>by
  rw[cQ];by_cases j:i<I l
  .have c1:(i:Int)<(I l:Int):=ag
   have c2:I acc+1<=bJ:=gW
   simp only[yB,c1,decide_true,a8,bY j,ax,cb (c:=.kv) j,ao _ (fo j),bZ,dj,a_,c2,cV j (show b5 (I l) by simp[b5];omega)];rw[Ry (kx:=kx) n ao k (i+1) (acc++[dec l[i]]) ag ag dh,List.drop_eq_getElem_cons j,e0,fI];rfl
  .have e:i=I l:=ag
   subst e;have c1:¬(I l:Int)<(I l:Int):=ag
   simp only[yB,c1,decide_false,a_,nD,List.map_nil,List.append_nil]
def gU(tb:bU):ar:=dK [cn [114],cn tb.name]
theorem auZ{dec:b7->U aH}(an:kX tb=J 0)(c:cS (cn tb.name)=ae)(d:I (gU tb)<=900)(a:I (fW (gU tb))<=900)(e:t.cz 0)(f:t.size<=100000)(ao:∀p,p∈range t (gU tb) (fW (gU tb))->rl tb p.val=J (dec p,0))(b:I (range t (gU tb) (fW (gU tb)))<=100000)(k:Nat)(i:I (range t (gU tb) (fW (gU tb)))<k) :
  tH k (tb,t.node.kind,t.node.path,t.node.has,t.node.val,t.node.kids,t.node.hash,g,h)=J ((range t (gU tb) (fW (gU tb))).map dec,0,t.node.kind,t.node.path,t.node.has,t.node.val,t.node.kids,t.node.hash,g,h):=by
 have h1:mP [[114],tb.name]=J [cn [114],cn tb.name]:=rK (by simp);have h2:lC [[cn [114],cn tb.name]]=J (gU tb,0):=xm (by simp) (λv aE=>by
  simp only[mX,List.flatten_nil,List.append_nil,ek,List.not_mem_nil,or_false]at aE;rcases aE with rfl|rfl
  .exact xA.1
  .exact c) (by simp)
 have h3:rr (gU tb)=J (fW (gU tb)):=by simp only[rr,aY (show I (gU tb)<=2000000 by omega),a8]
 have h4:=RB (t:=t) (g:=g) (h:=h) (lo:=gU tb) (hi:=fW (gU tb)) (m:=9223372036854775807) e d a ag gW;have h4:ud (gU tb,fW (gU tb),9223372036854775807,t.node.kind,t.node.path,t.node.has,t.node.val,t.node.kids,t.node.hash,g,h)=_:=h4;simp only[tH,an,h1,h2,h3,h4,bZ,decide_true,dj,a_];refine(Ry b ao k 0 [] ag ag (by simp)).trans ?_;simp only[gH,ib];rfl
def o_(l:U aH):Prop:=l.all cS=ae/\∀v,v∈l->da v.n
theorem Tn{b:U aH}(c:o_ a)(aj:o_ b)(h:dK a=dK b):a=b:=by have h1:=(P5 c.1 aj.1 c.2 aj.2).1 (by rw[h];exact List.prefix_refl _);have h2:=(P5 aj.1 c.1 aj.2 c.2).1 (by rw[h];exact List.prefix_refl _);exact h1.eq_of_length (Nat.le_antisymm h1.length_le h2.length_le)
theorem Z9(a:U aH):dK (cn [114]::a)=4::114::0::1::dK a:=rfl
theorem _n(a:U aH):dK (cn [105]::a)=4::105::0::1::dK a:=rfl
theorem avU(a:U aH):dK (cn [117]::a)=4::117::0::1::dK a:=rfl
theorem av1(a:U aH):dK (cn [102]::a)=4::102::0::1::dK a:=rfl
def lA(k:ar):UInt8:=k.getD 1 0
theorem zJ(t:bU)(r:U aH):lA (dk t r).key=114:=by simp only[dk,Z9];rfl
theorem OV(t:bU)(r:U aH)(x:c3):lA (gw t r x).key=105:=by simp only[gw,_n];rfl
theorem Bi{t:bU}{r:U aH}:∀{cs:U cW}{vs:U aH}{p:b7},p∈fD t r cs vs->lA p.key=117/\p.val=(hX (eo t r)).1
 |[],_,p,h=>by simp[fD]at h
 |_::_,[],p,h=>by simp[fD]at h
 |c::cs,v::vs,p,h=>by
  simp only[fD]at h;cases an:(c.unique && !decide (v.kind=1))with
  |false=>rw[an]at h;exact Bi h
  |true=>
   rw[an]at h;rcases ek.1 h with rfl|h
   .exact⟨by simp only[mE,avU];rfl,rfl⟩
   .exact Bi h
theorem x5{t:bU}{r:U aH}:∀{cs:U cW}{vs:U aH}{p:b7},p∈g8 t r cs vs->lA p.key=102/\p.val=[]
 |[],_,p,h=>by simp[g8]at h
 |_::_,[],p,h=>by simp[g8]at h
 |c::cs,v::vs,p,h=>by
  simp only[g8]at h;cases an:(!decide (c.ref=[]) && !decide (v.kind=1))with
  |false=>rw[an]at h;exact x5 h
  |true=>
   rw[an]at h;rcases ek.1 h with rfl|h
   .exact⟨by simp only[lU,av1];rfl,rfl⟩
   .exact x5 h
theorem x4{t:bU}{p:b7}(h:p∈dZ t r):p=dk t r\/(lA p.key=105/\p.val=[])\/(p∈fD t r t.al r/\lA p.key=117/\p.val=(hX (eo t r)).1)\/(lA p.key=102/\p.val=[]):=by
 simp only[dZ,ek,fM,List.mem_map]at h;rcases h with h|⟨x,_,rfl⟩|h|h
 .exact .inl h
 .exact .inr (.inl ⟨OV t r x,rfl⟩)
 .exact .inr (.inr (.inl ⟨h,Bi h⟩))
 .exact .inr (.inr (.inr (x5 h)))
theorem ajp{t:bU}{p q:b7}(f:p∈dZ t r)(g:q∈dZ t r)(h:p.key=q.key):p.val=q.val:=by
 have e:=congrArg lA h;rcases x4 f with rfl|⟨a,b⟩|⟨_,a,b⟩|⟨a,b⟩<;>rcases x4 g with rfl|⟨c,d⟩|⟨_,c,d⟩|⟨c,d⟩<;>first
  |rfl
  |exact b.trans d.symm
  |(simp only[zJ]at e;rw[c]at e;exact absurd e dU)
  |(simp only[zJ]at e;rw[a]at e;exact absurd e dU)
  |(rw[a,c]at e;exact absurd e dU)
theorem JV{v:ar}:(kY t (dZ tb r)).get k=J v↔b7.mk k v∈dZ tb r\/((∀p,p∈dZ tb r->p.key≠k)/\t.get k=J v):=by
 rw[VS];cases h:(dZ tb r).reverse.find? (λp=>aa (p.key=k))with
 |some p=>
  have h1:=List.mem_reverse.1 (List.mem_of_find?_eq_some h);have h2:p.key=k:=by simpa using List.find?_some h
  simp only[c4];constructor
  .rintro rfl;left;rw[<-h2];exact h1
  .rintro(h3|⟨h3,_⟩)
   .exact ajp h1 h3 h2
   .exact absurd h2 (h3 p h1)
 |none=>
  have h1:=List.find?_eq_none.1 h;have h2:∀p,p∈dZ tb r->p.key≠k:=λp a e=>h1 p (List.mem_reverse.2 a) (aY e);constructor
  .exactλh=>.inr ⟨h2,h⟩
  .rintro(h3|⟨_,h3⟩)
   .exact absurd rfl (h2 _ h3)
   .exact h3
theorem Hb{t:T}:∀{l:U b7},k2 t l=ah↔∀p,p∈l->t.get p.key=ah
 |[]=>by simp[k2]
 |p::l=>by simp only[k2];cases h:t.get p.key with|some v=>simp[h]|none=>simp[h,Hb (l:=l)]
theorem _V(h0:hS tb r=0):I (dZ tb r)<=400:=by have h1:=(yg (uP h0).1).1;have h2:=(mN (uP h0).1).2.2.1;have h3:=EK (t:=tb) (r:=r) tb.al r;have h4:=EL (t:=tb) (r:=r) tb.al r;simp only[dZ,dm,dc,List.length_map];omega
def Fit(tb:bU)(r:U aH):Prop:=hS tb r=0/\(dZ tb r).all nW=ae/\lX r
structure jj (tb:bU) (rs:List (List aH)) (t:T):Prop where
 wf:t.cz 0
 size:t.size<=400*I rs
 fit:∀r,r∈rs->Fit tb r
 has:∀k v,t.get k=J v↔∃r,r∈rs/\b7.mk k v∈dZ tb r
 apart:rs.Pairwise λr s=>(dk tb r).key≠(dk tb s).key/\∀p,p∈fD tb r tb.al r->∀q,q∈fD tb s tb.al s->p.key≠q.key
theorem avI(tb:bU):jj tb [] .no:=⟨cp _,cp _,λ_ h=>jU,λk v=>(by simp[ava]),List.Pairwise.nil⟩
theorem qE(tb:bU)(r:U aH):dk tb r∈dZ tb r:=by simp[dZ]
theorem avp{p:b7}(h:p∈fD tb r tb.al r):p∈dZ tb r:=by simp[dZ,h]
variable{rs:U (U aH)}
theorem adO(d:jj tb rs t)(aj:lX r):((hC tb r t).1=0/\jj tb (rs++[r]) (hC tb r t).2)\/((hC tb r t).1≠0/\(hC tb r t).2=t):=by
 unfold hC;cases x:aa ((lG tb r).2=0)with
 |false=>exact .inr ⟨of_decide_eq_false x,rfl⟩
 |true=>
  obtain⟨h0,m,_⟩:=J0 (of_decide_eq_true x) (Classical.em _);simp only[a8];cases y:k2 t (dk tb r::fD tb r tb.al r)with
  |some j=>refine .inr ⟨?_,rfl⟩;simp only;split<;>decide
  |none=>
   have o:=Hb.1 y;have n:∀p,p∈dZ tb r->tq p:=λp i=>DL.1 (cX.1 m p i);refine .inl ⟨rfl,LD d.wf n,?_,?_,?_,?_⟩
   .have h1:=TZ (dZ tb r) t;have h2:=_V h0;have h3:=d.size;simp only[dc,List.length_singleton];omega
   .intro s g;rcases fM.1 g with g|g
    .exact d.fit s g
    .rw[List.mem_singleton.1 g];exact⟨h0,m,aj⟩
   .intro k v;rw[JV,d.has];constructor
    .rintro(h|⟨_,s,g,h⟩)
     .exact⟨r,by simp,h⟩
     .exact⟨s,by simp[g],h⟩
    .rintro⟨s,g,h⟩;rcases fM.1 g with g|g
     .by_cases i:∀p,p∈dZ tb r->p.key≠k
      .exact .inr ⟨i,s,g,h⟩
      .left;obtain⟨p,i⟩:=Classical.not_forall.1 i;obtain⟨i,e⟩:=Classical.not_imp.1 i;have e:=Classical.not_not.1 e;have u:=(d.has k v).2 ⟨s,g,h⟩;have key:p.val=v:=by
        have l:lA p.key=lA k:=by rw[e]
        rcases x4 i with rfl|⟨a,b⟩|⟨z,_,_⟩|⟨a,b⟩
        .rw[<-e,o _ (by simp)]at u;cases u
        .rcases x4 h with h|⟨_,f⟩|⟨_,c,_⟩|⟨c,_⟩
         .exact adU
         .exact b.trans f.symm
         .exact Dm
         .exact Dm
        .rw[<-e,o _ (by simp[z])]at u;cases u
        .rcases x4 h with h|⟨c,_⟩|⟨_,c,_⟩|⟨_,f⟩
         .exact adU
         .exact Dm
         .exact Dm
         .exact b.trans f.symm
       have:p=b7.mk k v:=by cases p;simp_all
       rw[<-this];exact i
     .rw[List.mem_singleton.1 g]at h;exact .inl h
   .rw[List.pairwise_append];refine⟨d.apart,List.pairwise_singleton _ _,λs g Cy w=>?_⟩;rw[List.mem_singleton.1 w];refine⟨λe=>?_,λp i q cA e=>?_⟩
    .have:=(d.has (dk tb s).key (dk tb s).val).2 ⟨s,g,qE tb s⟩;rw[e,o _ (by simp)]at this;cases this
    .have:=(d.has p.key p.val).2 ⟨s,g,avp i⟩;rw[e,o _ (by simp[cA])]at this;cases this
theorem anZ(tb:bU)(r:U aH):(dk tb r).key=gU tb++dK (eo tb r):=by simp only[dk,gU,dK,List.flatMap_cons,List.flatMap_nil,fI,ib,List.append_nil]
theorem BO(d:jj tb rs t){p:b7}:p∈range t (gU tb) (fW (gU tb))↔∃s,s∈rs/\p=dk tb s:=by
 obtain⟨k,v⟩:=p;rw[Zp d.wf,d.has];constructor
 .rintro⟨⟨s,a,h⟩,f⟩;obtain⟨z,g⟩:=Option.isSome_iff_exists.1 f;have b:=iL.1 g;have e:lA k=114:=by rw[b,gU,Z9];rfl
  rcases x4 h with h|⟨c,_⟩|⟨_,c,_⟩|⟨c,_⟩
  .exact⟨s,a,h⟩
  .exact Kw
  .exact Kw
  .exact Kw
 .rintro⟨s,a,h⟩;have b:k=(dk tb s).key:=by rw[<-h]
  exact⟨⟨s,a,by rw[h];exact qE tb s⟩,by rw[b,anZ,jB];rfl⟩
def wO(p:b7):U aH:=((tt p.val).getD ([],0)).1
theorem yh(h:Fit tb r):wO (dk tb r)=r:=by have h1:tt (dk tb r).val=J (r,0):=SB (SN (jX h.1)) h.2.2;unfold wO;rw[h1];rfl
theorem are(d:jj tb rs t)(a:∀r,nC tb r=J (hS tb r)):∀p,p∈range t (gU tb) (fW (gU tb))->rl tb p.val=J (wO p,0):=λp b=>by obtain⟨s,c,rfl⟩:=(BO d).1 b;have h:=d.fit s c;rw[yh h];exact Tb (a s) h.1 h.2.2
theorem Du{α:Type}:∀{a b:U α},a.Nodup->(∀x,x∈a->x∈b)->I a<=I b
 |[],_,_,_=>cp _
 |x::a,b,c,h=>by
  obtain⟨u,w,rfl⟩:=List.append_of_mem (h x (by simp));have c:=List.nodup_cons.1 c;have:=Du (a:=a) (b:=u++w) c.2 λy d=>by
   have:=h y (by simp[d]);simp only[fM,ek]at this ⊢;rcases this with h1|rfl|h1
   .exact .inl h1
   .exact absurd d c.1
   .exact .inr h1
  simp only[dc,dm]at this ⊢;omega
theorem OH:∀a:ar,¬a<a
 |[]=>List.not_lt_nil _
 |x::a=>λh=>by
  rcases List.cons_lt_cons_iff.1 h with h|⟨_,h⟩
  .rw[pr]at h;omega
  .exact OH a h
def om(tb:bU)(t:T):U (U aH):=(range t (gU tb) (fW (gU tb))).map wO
variable{s:U aH}
theorem RF(d:jj tb rs t):s∈om tb t↔s∈rs:=by
 unfold om;rw[List.mem_map];constructor
 .rintro⟨p,b,rfl⟩;obtain⟨s,a,rfl⟩:=(BO d).1 b;rw[yh (d.fit s a)];exact a
 .exactλa=>⟨dk tb s,(BO d).2 ⟨s,a,rfl⟩,yh (d.fit s a)⟩
theorem aho(d:jj tb rs t):(om tb t).Pairwise λr s=>(dk tb r).key<(dk tb s).key:=by unfold om;rw[List.pairwise_map];refine(TK d.wf _ _).imp_of_mem ?_;intro p q b c h;obtain⟨s,e,rfl⟩:=(BO d).1 b;obtain⟨s',a,rfl⟩:=(BO d).1 c;rw[yh (d.fit s e),yh (d.fit s' a)];exact h
theorem Ny(d:jj tb rs t):I (om tb t)=I rs:=by
 refine Nat.le_antisymm (Du ?_ λx c=>(RF d).1 c) (Du ?_ λx c=>(RF d).2 c)
 .exact(aho d).imp λ{a b} h e=>by subst e;exact OH _ h
 .exact d.apart.imp λ{a b} h e=>by subst e;exact h.1 rfl
theorem aa1{a b:U aH}(g:I a=I b)(l:I a<=1000):∀(k i:Nat),i<=I a->I a-i<k ->
  aT (λd=>yt d (λe m=>match m with|(aD,v4,a')=>match e with
  |.exit 0=>
  let j:=λ(hs:Bool)=>
   cond (hs) (
   ax (aU a' (I aD)) (
    ax (aU a' (I v4)) (
    J (tm (at' .val aD a') (at' .val v4 a'))))) (
   cond (aa (a'<(I v4:Int))) (
    J (-1)) (
    cond (aa (a'<(I aD:Int))) (
    J 1) (
    J 0)))
  cond (aa (a'<(I aD:Int))) (
   j (aa (a'<(I v4:Int)))) (
   j ai)
  |_=>ah)) k (a,b,(i:Int))=J (hW g_ (a.drop i) (b.drop i))
 |0,_,_,aV=>by omega
 |k+1,i,hi,aV=>by
  rw[cQ];by_cases h:i<I a
  .have h2:i<I b:=ag
   have c1:(i:Int)<(I a:Int):=ag
   have c2:(i:Int)<(I b:Int):=ag
   rw[List.drop_eq_getElem_cons h,List.drop_eq_getElem_cons h2];simp only[yt,c1,c2,decide_true,a8,bY h,bY h2,ax,cb (c:=.val) h,cb (c:=.val) h2,cV h (show b5 (I a) by simp[b5];omega),hW];by_cases e:a[i]=b[i]
   .have n:=aa1 g l k (i+1) ag ag;simp only[e,decide_true,a8,(CK.eq _ _).2 rfl,jr];exact n
   .have f:g_ a[i] b[i]≠0:=acu e;simp only[e,decide_false,a_,jr,aoJ,f,if_false]
  .have e:i=I a:=ag
   subst e;have c1:¬(I a:Int)<(I a:Int):=ag
   have c2:¬(I a:Int)<(I b:Int):=ag
   simp only[yt,c1,c2,decide_false,a_];rw[nD,g,nD];rfl
theorem aav{b:U aH}(c:I a=I b)(d:I a<=1000):wH a b=J (hW g_ a b):=aa1 c d 5000 0 ag ag
theorem LP{al:U cW}{row:U aH}:∀{l:U ar}{acc:U aH},(∀s,s∈l->¬dR al s<0)->I (eF al row l acc).1=I acc+I l
 |[],acc,_=>by simp[eF]
 |s::l,acc,h=>by
  have h1:=h s (by simp);have a:=LP (row:=row) (l:=l) (acc:=acc++[at' .val row (dR al s)]) λx b=>h x (by simp[b]);have e:I (acc++[at' .val row (dR al s)])=I acc+1:=by simp
  simp only[eF,h1,decide_false,a_,a,e,dm];omega
theorem adK(h:Fit tb r):I (eo tb r)=I tb.key:=by have:=LP (row:=r) (acc:=[]) (jX h.1).key;simpa[eo]using this
theorem NH{al:U cW}{row:U aH}{P:aH->Prop}(b:∀v,v∈row->P v)(h0:P (e6 .val)):∀{l:U ar}{acc:U aH},(∀v,v∈acc->P v)->∀v,v∈(eF al row l acc).1->P v
 |[],acc,cI,v,aE=>cI v aE
 |s::l,acc,cI,v,aE=>by
  simp only[eF]at aE;cases an:aa (dR al s<0)with
  |true=>rw[an]at aE;cases aE
  |false=>
   rw[an]at aE;refine NH b h0 (λx a=>?_) v aE;rcases fM.1 a with a|a
   .exact cI x a
   .rw[List.mem_singleton.1 a];unfold at';rw[List.getD_eq_getElem?_getD];cases c:row[(dR al s).toNat]? with|none=>exact h0|some w=>exact b w (List.mem_of_getElem? c)
theorem _O(h:Fit tb r):o_ (eo tb r):=by have f:=jX h.1;exact⟨cX.2 (Iw f),NH (P:=λv=>da v.n) (λv aE=>by simpa using h.2.2 v aE) PM λv aE=>by cases aE⟩
section
variable {t:bU}{r:U aH}
end
mutual
theorem apR:∀e:bh,di e=CN e
 |.mk _ _ _ l=>by simp only[di,CN,QL l]
theorem QL:∀l:U bh,je l=q4 l
 |[]=>rfl
 |x::l=>by simp only[je,q4,apR x,QL l]
end
def uK:Nat×Nat:=(1048576,1048576)
section
variable {t:bU}{r:U aH}
theorem ait(a:Ht uK t)(b:je t.e9<=900000):jY t=true:=by
 have h1:=a.al.1;have h2:=a.key.1;have h3:=a.e9.1;have h4:=a.idx.1;simp only[uK]at h1 h2 h3 h4;have e:∀x,x∈t.e9->di x<=2000000:=λx b=>by have:=ka b;omega
 have aS:∀x,x∈t.idx->I x.al<=2000000:=λx b=>by have:=(a.idx.2 x b).2.1;simp only[uK]at this;omega
 show((aa (I t.al<=2000000)&&(aa (I ([]:U kE)<=2000000)&&(aa (I t.key<=2000000)&&(aa (I t.e9<=2000000)&&t.e9.all λe=>aa (di e<=2000000)))))&&(aa (I t.idx<=2000000)&&t.idx.all λx=>aa (I x.al<=2000000)))=ae;simp only[bx,dM,cX,hn];exact⟨⟨by omega,by omega,by omega,by omega,e⟩,by omega,aS⟩
theorem ajA(a:Ht uK t)(b:je t.e9<=900000):Gn t:=by
 have h1:=a.al.1;have h2:=a.key.1;have h5:=a.name;simp only[uK]at h1 h2 h5;refine⟨⟨?_,?_,?_,?_,?_,?_,?_,?_,?_⟩,λx b=>?_⟩
 .simp only[kW];omega
 .simp only[kW];omega
 .simp[kW]
 .simp[kW]
 .simp only[kW,hn];omega
 .simp[kW,di,je]
 .simp only[kW];omega
 .simp[kW]
 .simp[kW]
 .have g:=a.idx.2 x b;have c:=g.1;have d:=g.2.1;simp only[uK]at c d;refine⟨?_,?_,?_,?_,?_,?_,?_,?_,?_⟩
  .simp[gT]
  .simp only[gT];omega
  .simp[gT]
  .simp[gT]
  .simp only[gT];omega
  .simp[gT,di,je]
  .simp[gT,je]
  .simp[gT]
  .simp[gT]
theorem aq9(a:jY t=ae)(k:Nat)(b : 4000<k):xu k (t,r)=J (hS t r):=by cases h:hT t with|false=>simp only[xu,kX,a,a8,bZ,hS,h];rfl|true=>obtain⟨h1,h2,h3,_⟩:=yg h;exact akA ag ag ag a b
theorem Bt(a:jY t=ae):nC t r=J (hS t r):=aq9 a 5000 ag
end
theorem abY{R:Type}{kx:bf->H8->af R}{l:U (U aH)}{i:Nat}(hi:i<I l)(b:I l[i]<=1048576):∀(k c:Nat) (n:Int),c<=I l[i]->I l[i]-c<k->∃m,aT (λrc=>zM rc kx) k (l,n,(i:Int),(c:Int))=kx (.exit 2) (l,m,(i:Int),(I l[i]:Int))
 |0,_,_,_,h=>by omega
 |k+1,c,n,an,aV=>by
  have a:b5 (I l[i]):=lr
  rw[cQ];simp only[zM,bY hi,ax,a8,cb (c:=.ep) hi];by_cases h:c<I l[i]
  .simp only[ez h,bY h,a8,cV h a];exact abY hi b k (c+1) _ h ag
  .obtain rfl:c=I l[i]:=ag
   simp only[eG,a_];exact⟨n,rfl⟩
theorem acZ{R:Type}{kx:bf->HW->af R}{l:U (U aH)}{K:Nat}(f : 1100000<K)(g:I l<=1048576)(d:∀r,r∈l->I r<=1048576):∀(k i:Nat) (n:Int),i<=I l->I l-i<k->∃m,aT (λa=>uJ K a kx) k (l,n,(i:Int))=kx (.exit 0) (l,m,(I l:Int))
 |0,_,_,_,h=>by omega
 |k+1,i,n,hi,aV=>by
  have b:b5 (I l):=lr
  rw[cQ];by_cases h:i<I l
  .simp only[uJ,ez h,a8,bY h,ax,cb (c:=.ep) h];have hm:=d _ (fo h);have h1:=λn=>abY (R:=R) (kx:=λe j=>match j with|(bA,b6,cw,_)=>match e with
    |.exit 2=>aT (λa=>uJ K a kx) k (bA,b6,(wr .i64 (cw+1)))
    |_=>ah) h hm K 0 n (cp _) ag
   obtain⟨m,e⟩:=h1 (wr .i64 ((wr .i64 (n+1))+(I l[i]:Int)));obtain⟨o,aS⟩:=acZ (kx:=kx) f g d k (i+1) m ag ag;refine⟨o,e.trans ?_⟩;simp only[cV h b];exact aS
  .obtain rfl:i=I l:=ag
   simp only[uJ,eG,a_];exact⟨n,rfl⟩
theorem avr{t:bU}{l:U (U aH)}(d:I l<=1048576)(f:∀r,r∈l->I r<=1048576)(k:Nat)(g : 1100000<k):∃b,G1 k (t,l)=J b/\(b=ai->I l<=24):=by
 simp only[G1];obtain⟨m,e⟩:=acZ (kx:=λe i=>match i with|(a,c,_)=>match e with
  |.exit 0=>
  cond (aa (250<=c)) (
   J ae) (
   J (aa (24<(I a:Int))))
  |_=>ah) g d f k 0 (Kk t 200) (cp _) ag
 refine⟨cond (aa (250<=m)) ae (aa (24<(I l:Int))),e.trans ?_,λh=>?_⟩
 .simp only;cases aa (250<=m)<;>rfl
 .cases h2:aa (250<=m)with|true=>rw[h2]at h;cases h|false=>rw[h2]at h;have:=of_decide_eq_false h;omega
theorem akx{t:bU}{l:U (U aH)}(a:I l<=1048576)(c:∀r,r∈l->I r<=1048576):∃b,NR t l=J b/\(b=ai->I l<=24):=avr a c 2000000 ag
theorem aqa{s:ar}(h:fC s=ae):I s<=30:=by simp only[fk.y9,bx,dM,fk.m9]at h;have h2:=h.2;simp at h2;omega
theorem J3:∀s:ar,I (fW s)<=I s
 |[]=>b2 _
 |c::l=>by
  have:=J3 l;simp only[fW];split
  .split<;>simp
  .simp only[dm];omega
theorem alC(h:fC tb.name=ae):I (gU tb)<=900:=by have h1:=aqa h;have h2:=aao [cn [114],cn tb.name];have e:j9 [cn [114],cn tb.name]=1+1+(I tb.name+1+0):=rfl;simp only[gU];omega
theorem abb(d:jj tb rs t)(a:jY tb=ae)(b:hT tb=ae)(i:I rs<=200)(k:Nat)(j : 200<k) :
  tH k (tb,t.node.kind,t.node.path,t.node.has,t.node.val,t.node.kids,t.node.hash,g,h)=J (om tb t,0,t.node.kind,t.node.path,t.node.has,t.node.val,t.node.kids,t.node.hash,g,h):=by
 have c:=(yg b).2.2.2.1;have e:=alC c;have f:=J3 (gU tb);have l:I (range t (gU tb) (fW (gU tb)))=I rs:=by have:=Ny d;simpa only[om,List.length_map]using this
 have ao:=d.size;have an:kX tb=J 0:=by simp only[kX,a,a8,b]
 exact auZ an (qm c) e ag d.wf ag (are d λr=>Bt a) ag k ag
theorem auS(n:UInt8):aa ((c.toNat:Int)=(n.toNat:Int))=aa (c=n):=adW
theorem zw{b:ar}{x:UInt8}{l:ar}(h:b.drop i=x::l):∃a:i<I b,b[i]=x/\b.drop (i+1)=l:=by
 have a:i<I b:=by have:=congrArg List.length h;simp only[iu,dm]at this;omega
 rw[List.drop_eq_getElem_cons a]at h;exact⟨a,(List.cons.inj h).1,(List.cons.inj h).2⟩
def pK(kind:Int)(s:ar):Bool:=aa (hP (aH.mk kind 0 s)=0)
theorem ajw{kind:Int}(a:kind=4\/kind=5){s:ar}:pK kind s=ae↔I s<=1000/\(kind=4->n7 s=ae):=by simp only[pK,dM,A9,nm];rcases a with rfl|rfl<;>simp
theorem aa5{kind:Int}(a:kind=4\/kind=5){s t:ar}(h:pK kind (s++t)=ae):pK kind s=true:=by rw[ajw a]at h ⊢;obtain⟨h1,h2⟩:=h;refine⟨by simp at h1;omega,λh3=>?_⟩;have:=h2 h3;simp only[n7,List.all_append,bx]at this ⊢;exact this.1
theorem KW{R:Type}{kx:bf->HR->af R}{b:ar}{kind:Int}{rest:ar}{c:ar×Int->af R}(p:kind=4\/kind=5)(aj:I b<=1000000)(h1:∀s n o i,kx .ret (b,kind,s,n,o,i)=c (s,n)) :
  ∀(k i:Nat) (t s:ar) (n:Int) (o:ar),b.drop i=cT t++0::1::rest->I b-i<k->I o<=i->pK kind (o++t)=ae->aT (λq=>uR q kx) k (b,kind,s,n,o,(i:Int))=c (o++t,((i+I (cT t)+2:Nat):Int))
 |0,i,_,_,_,_,_,h,_,_=>by omega
 |k+1,i,[],s,n,o,ao,h,bK,hb=>by
  obtain⟨a,f,g⟩:=zw (ao:b.drop i=0::1::rest);obtain⟨d,r,_⟩:=zw g;rw[cQ];have j:aa ((i:Int)<(I b:Int))=true:=aY ag;have aS:wr .i64 ((i:Int)+1)=((i+1:Nat):Int):=cV a lr;have u:wr .i64 (((i+1:Nat):Int)+1)=((i+2:Nat):Int):=w8
  have v:aa (((i+1:Nat):Int)=(I b:Int))=false:=bl ag;have l:aa ((((0:UInt8).toNat:Nat):Int)=0)=true:=rfl;have w:aa ((((1:UInt8).toNat:Nat):Int)=1)=true:=rfl;simp only[uR,j,a8,bY a,ax,cb (c:=.byte) a,aS,f,l,v,a_,bY d,cb (c:=.byte) d,r,w,u,h1];simp[cT]
 |k+1,i,x::t,s,n,o,ao,h,bK,hb=>by
  rw[cQ];by_cases h0:x=0
  .subst h0;rw[qw]at ao;obtain⟨a,f,g⟩:=zw (ao:b.drop i=0::(255::(cT t++0::1::rest)));obtain⟨d,r,lK⟩:=zw g;have j:aa ((i:Int)<(I b:Int))=true:=aY ag;have aS:wr .i64 ((i:Int)+1)=((i+1:Nat):Int):=cV a lr;have y:aa (I o+1<=bJ)=true:=aY gW;have u:wr .i64 (((i+1:Nat):Int)+1)=((i+2:Nat):Int):=w8
   have v:aa (((i+1:Nat):Int)=(I b:Int))=false:=bl ag;have l:aa ((((0:UInt8).toNat:Nat):Int)=0)=true:=rfl;have w:aa ((((255:UInt8).toNat:Nat):Int)=1)=false:=rfl;have CO:aa ((((255:UInt8).toNat:Nat):Int)=255)=true:=rfl;have ayY:bj (((0:UInt8).toNat:Nat):Int).toNat=0:=rfl;have m:pK kind (o++[0]++t)=true:=by simpa using hb
   have e:aa (hP (aH.mk kind 0 (o++[0]))=0)=true:=aa5 p m;have z:=KW p aj h1 k (i+2) t s n (o++[0]) lK ag dh m;simp only[uR,j,a8,bY a,ax,cb (c:=.byte) a,aS,f,l,v,a_,bY d,cb (c:=.byte) d,r,w,CO,ayY,y,e,dj,u,z];rw[qw];simp only[fI,List.singleton_append,dm];congr 3;omega
  .rw[nu h0]at ao;obtain⟨a,f,g⟩:=zw (ao:b.drop i=x::(cT t++0::1::rest));have j:aa ((i:Int)<(I b:Int))=true:=aY ag;have aS:wr .i64 ((i:Int)+1)=((i+1:Nat):Int):=cV a lr;have y:aa (I o+1<=bJ)=true:=aY gW;have kM:bj (x.toNat:Int).toNat=x:=by simp
   have l:aa ((x.toNat:Int)=0)=false:=by have:=auS (c:=x) 0;rw[bl h0]at this;exact this
   have m:pK kind (o++[x]++t)=true:=by simpa using hb
   have e:aa (hP (aH.mk kind 0 (o++[x]))=0)=true:=aa5 p m;have z:=KW p aj h1 k (i+1) t s n (o++[x]) g ag dh m;simp only[uR,j,a8,bY a,ax,cb (c:=.byte) a,aS,f,l,a_,kM,y,e,dj,z];rw[nu h0];simp only[fI,List.singleton_append,dm];congr 3;omega
variable{rest:ar}
theorem ajB{kind:Int}(d:kind=4\/kind=5){s:ar}(a:pK kind s=ae)(m:Nat)(aj:I (cT s++0::1::rest)<m)(b:I (cT s++0::1::rest)<=1000000):Hp m (cT s++0::1::rest,kind)=J (s,((I (cT s)+2:Nat):Int)):=by simp only[Hp];refine(KW (c:=λq=>J q) d b (λ_ _ _ _=>rfl) m 0 s [] 0 [] rfl ag (b2 _) n2).trans ?_;simp only[ib,Nat.zero_add]
theorem aiF{kind:Int}(b:kind=4\/kind=5){s:ar}(a:pK kind s=ae)(aj:I (cT s++0::1::rest)<2000):O7 (cT s++0::1::rest) kind=J (s,((I (cT s)+2:Nat):Int)):=ajB b a 2000 aj ag
theorem alp{x:Nat}(a:x<256 ^ i)(hi:i<8):x*256+c.toNat<256 ^ (i+1)/\x*256+c.toNat<18446744073709551616:=by
 have h2:=c.toNat_lt;have h3 : 256 ^ (i+1)<=256 ^ 8:=Nat.pow_le_pow_right ag ag;rw[show(256:Nat) ^ 8=18446744073709551616 from rfl]at h3;have h4:x*256+c.toNat<256 ^ (i+1):=by rw[Nat.pow_succ];omega
 exact⟨h4,gy h4 h3⟩
theorem avY{v:Nat}(h:v<9223372036854775808):wr .i64 (v:Int)=v:=ht w7
theorem avh{v:Nat}(h : 9223372036854775808<=v)(h2:v<18446744073709551616):wr .i64 (v:Int)=v-18446744073709551616:=by have e:(v:Int) % 2 ^ 64=v:=Int.emod_eq_of_lt ag ag;simp only[wr,b'.wrap,b'.signed,b'.bits,Bool.true_and,e];rw[if_pos (aY ag)];omega
theorem atn{x:Nat}(h:x*256+c.toNat<18446744073709551616):iW .u64 (js .u64 (x:Int) 8) (wr .u64 (c.toNat:Int))=((x*256+c.toNat:Nat):Int):=by
 have an:=c.toNat_lt;have a:x*256<18446744073709551616:=Nat.lt_of_le_of_lt (Nat.le_add_right _ _) h;have d:js .u64 (x:Int) 8=((x*256:Nat):Int):=by
  have e:(2:Int) ^ min (8:Int).toNat (b'.bits .u64)=256:=rfl;have d:(x:Int)*256=((x*256:Nat):Int):=ag
  simp only[js];rw[e,d];exact uk a
 have aS:wr .u64 (c.toNat:Int)=(c.toNat:Int):=uk ag;have f:(fO 64 ((x*256:Nat):Int)).toNat=x*256:=dh
 have g:(fO 64 (c.toNat:Int)).toNat=c.toNat:=by simp
 have j:x*256 ||| c.toNat=x*256+c.toNat:=by have:=Nat.shiftLeft_add_eq_or_of_lt (i:=8) (b:=c.toNat) ag x;rw[Nat.shiftLeft_eq]at this;exact this.symm
 rw[d,aS];show b'.wrap .u64 (((fO 64 ((x*256:Nat):Int) ||| fO 64 (c.toNat:Int)).toNat:Nat):Int)=_;rw[BitVec.toNat_or,f,g,j];exact uk h
theorem avP{n:Int}(a:da n):wr .i64 (gx .u64 ((kF (jc n):Nat):Int) 9223372036854775808)=n:=by
 have h0:=Nz a;simp only[da]at a;generalize kF (jc n)=v at *;have c:(fO 64 ((v:Nat):Int)).toNat=v:=dh
 have aS:(fO 64 (9223372036854775808:Int)).toNat=2 ^ 63:=dU
 have d:gx .u64 ((v:Nat):Int) 9223372036854775808=b'.wrap .u64 ((v ^^^ 2 ^ 63:Nat):Int):=by show b'.wrap .u64 (((fO 64 ((v:Nat):Int) ^^^ fO 64 (9223372036854775808:Int)).toNat:Nat):Int)=_;rw[BitVec.toNat_xor,c,aS]
 rw[d];by_cases aE:v<2 ^ 63
 .rw[FW aE,uk ag,avh ag ag];omega
 .obtain⟨b,rfl⟩:∃b,v=b+2 ^ 63:=⟨v-2 ^ 63,by omega⟩;rw[<-FW (x:=b) ag,Nat.xor_assoc,Nat.xor_self,Nat.xor_zero,uk ag,avY ag];omega
theorem Yu{R:Type}{kx:bf->D6->af R}{l:ar}{w w1:aH}{c:Nat->af R}(aj:I l=8)(h2:∀n:Nat,kx (.exit 1) ((n:Int),l,8,8,w,w1)=c n) :
  ∀(k i x:Nat),i<=8->8-i<k->x<256 ^ i->aT (λb=>wb b kx) k ((x:Int),l,8,(i:Int),w,w1)=c (rp x (l.drop i))
 |0,i,_,_,h,_=>by omega
 |k+1,i,x,hi,h,aW=>by
  rw[cQ];by_cases a:i<I l
  .have f:=alp (c:=l[i]) aW ag;have g:=Yu aj h2 k (i+1) (x*256+l[i].toNat) ag ag f.1;have d:aa ((i:Int)<8)=true:=aY ag;have aS:wr .i64 ((i:Int)+1)=((i+1:Nat):Int):=cV a lr;simp only[wb,d,a8,bY a,ax,cb (c:=.byte) a,aS,atn f.2,g];rw[dn a,KH]
  .have e:i=8:=ag
   subst e;have d:aa (((8:Nat):Int)<8)=false:=rfl;simp only[wb,d,a_,g0 (show I l<=8 by omega)];exact h2 x
theorem NZ(c:UInt8)(l:ar):aU 0 (I (c::l))=true:=by simp[aU]
theorem auQ{v:aH}(aE:cS v=ae)(k:da v.n)(l:I (fq v++rest)<2000)(m:Nat)(hm : 8<m):rP m (fq v++rest)=J (v,(I (fq v):Int)):=by
 obtain⟨a,n,s⟩:=v;rcases nm.1 aE with ⟨e,d,aS⟩|⟨e,d,aS⟩|⟨e,d⟩|g
 .simp only at e d aS;subst e d aS;have q:fq (aH.mk 1 0 [])++rest=(1:UInt8)::rest:=rfl;rw[q];simp only[rP,NZ,show at' .byte ((1:UInt8)::rest) 0=1 from rfl,show wr .i64 (((1:UInt8).toNat:Nat):Int)=1 from rfl,ax,a8];rfl
 .simp only at e d aS;subst e aS;rcases d with rfl|rfl
  .have a1:aa (((I ((2:UInt8)::0::rest:ar):Nat):Int)=1)=false:=bl xb;have a2:aU 1 (I ((2:UInt8)::0::rest:ar))=true:=Gt
   have q:fq (aH.mk 2 0 [])++rest=(2:UInt8)::0::rest:=rfl;rw[q];simp only[rP,NZ,show at' .byte ((2:UInt8)::0::rest) 0=2 from rfl,show wr .i64 (((2:UInt8).toNat:Nat):Int)=2 from rfl,ax,a8,a1,a2,show at' .byte ((2:UInt8)::0::rest) 1=0 from rfl]
   first|rfl|(dsimp;rfl)
  .have a1:aa (((I ((2:UInt8)::1::rest:ar):Nat):Int)=1)=false:=bl xb;have a2:aU 1 (I ((2:UInt8)::1::rest:ar))=true:=Gt
   have q:fq (aH.mk 2 1 [])++rest=(2:UInt8)::1::rest:=rfl;rw[q];simp only[rP,NZ,show at' .byte ((2:UInt8)::1::rest) 0=2 from rfl,show wr .i64 (((2:UInt8).toNat:Nat):Int)=2 from rfl,ax,a8,a1,a2,show at' .byte ((2:UInt8)::1::rest) 1=1 from rfl]
   first|rfl|(dsimp;rfl)
 .simp only at e d k;subst e d;have q:fq (aH.mk 3 n [])++rest=(3:UInt8)::(jc n++rest):=rfl;rw[q];have b:I (jc n)=8:=ath n;have f:I ((3:UInt8)::(jc n++rest):ar)=9+I rest:=by simp only[dm,dc,b];omega
  have a1:aa (((I ((3:UInt8)::(jc n++rest):ar):Nat):Int)<9)=false:=bl (by rw[f];omega);have a2:upto 1 9 (I ((3:UInt8)::(jc n++rest):ar))=true:=by rw[f];simp[upto];omega
  have a3:cut ((3:UInt8)::(jc n++rest)) 1 9=jc n:=by show(jc n++rest).take 8=_;exact List.take_left' b
  have a5:((I (jc n):Nat):Int)=8:=tJ
  have i0:aU 0 (I ((3:UInt8)::(jc n++rest):ar))=true:=by rw[f];simp[aU];omega
  simp only[rP,i0,show at' .byte ((3:UInt8)::(jc n++rest)) 0=3 from rfl,show wr .i64 (((3:UInt8).toNat:Nat):Int)=3 from rfl,ax,a8,show aa ((3:Int)=1)=ai from rfl,show aa ((3:Int)=2)=ai from rfl,a_,a1,a2,a3,a5];refine(Yu (c:=λx=>J (aH.mk 3 (wr .i64 (gx .u64 (x:Int) 9223372036854775808)) [],9)) b (λ_=>rfl) m 0 0 ag ag (by simp)).trans ?_;have o:=avP k;simp only[kF]at o;rw[gH,o];rfl
 .have h:a=4\/a=5:=by rcases g with ⟨e,_⟩|⟨e,_⟩<;>simp only at e<;>omega
  have i:n=0:=by rcases g with ⟨_,e,_⟩|⟨_,e,_⟩<;>exact e
  subst i;have j:pK a s=true:=aY (A9.2 aE);obtain⟨u,hu,axW⟩:∃u:UInt8,(u.toNat:Int)=a/\bj a.toNat=u:=by rcases h with rfl|rfl<;>exact⟨_,rfl,rfl⟩
  have q:fq (aH.mk a 0 s)++rest=u::(cT s++0::1::rest):=by rw[fq,GH h];simp[axW]
  have p:I (fq (aH.mk a 0 s))=I (cT s)+3:=by rw[fq,GH h];simp
  rw[q]at l ⊢;rw[p];simp only[dm]at l;have h1:=aiF (rest:=rest) h j ag;have aS:wr .i64 a=a:=ht w7;have i0:aU 0 (I (u::(cT s++0::1::rest)))=true:=Gt
  have up:upto 1 ((I (u::(cT s++0::1::rest)):Nat):Int) (I (u::(cT s++0::1::rest)))=true:=Gs
  have r:(u::(cT s++0::1::rest)).drop (1:Int).toNat=cT s++0::1::rest:=rfl;have bE:aa ((0:Int)<((I (cT s)+2:Nat):Int))=true:=aY ag;have w3:wr .i64 (((I (cT s)+2:Nat):Int)+1)=((I (cT s)+3:Nat):Int):=by rw[ht (by simp only[da,dc]at *;omega)];omega
  have t:aa (a=1)=false:=bl ag;have w:aa (a=2)=false:=bl ag;have y:aa (a=3)=false:=bl ag;simp only[rP,i0,show at' .byte (u::(cT s++0::1::rest)) 0=u from rfl,hu,aS,ax,a8,t,w,y,a_,up,r,h1,bZ,bE,w3];rcases h with rfl|rfl<;>rfl
theorem akp{v:aH}(aE:cS v=ae)(a:da v.n)(b:I (fq v++rest)<2000):Fa (fq v++rest)=J (v,(I (fq v):Int)):=auQ aE a b 2000 ag
theorem SS(v:aH) : 0<I (fq v):=by simp[fq]
theorem Xz{R:Type}{kx:bf->DV->af R}{b:ar}{q:U aH}{e:Int}(aj:I b<2000) :
  ∀(l:U aH) (k i:Nat) (o:U aH),o_ l->b.drop i=dK l->i<=I b->I l<k->I o<=i->aT (λc=>vI c kx) k (b,q,e,o,(i:Int))=kx (.exit 0) (b,q,e,o++l,(I b:Int))
 |_,0,i,_,_,_,_,h,_=>by omega
 |[],k+1,i,o,ay,ao,hi,h,bK=>by
  have:i=I b:=by have:=congrArg List.length ao;simp[dK]at this;omega
  subst this;rw[cQ];simp only[vI,bl (show ¬(I b:Int)<(I b:Int) by omega),a_,List.append_nil]
 |v::l,k+1,i,o,ay,ao,hi,h,bK=>by
  have ao:b.drop i=fq v++dK l:=by rw[ao,Bg]
  have a:=congrArg List.length ao;have t:=SS v;simp only[iu,dc]at a;have d:cS v=true:=cX.1 ay.1 v (by simp);have f:o_ l:=⟨cX.2 λw g=>cX.1 ay.1 w (by simp[g]),λw g=>ay.2 w (by simp[g])⟩;have j:aa ((i:Int)<(I b:Int))=true:=aY ag;have aS:upto (i:Int) (I b:Int) (I b)=true:=Gq
  have m:Fa (b.drop i)=J (v,(I (fq v):Int)):=by rw[ao];exact akp d (ay.2 v (by simp)) tA
  have n:aa (I o+1<=bJ)=true:=aY gW;have p:wr .i64 ((i:Int)+(I (fq v):Int))=((i+I (fq v):Nat):Int):=gg
  have r:aa ((0:Int)<(I (fq v):Int))=true:=aY ag;have s:=Xz (kx:=kx) (q:=q) (e:=e) aj l k (i+I (fq v)) (o++[v]) f (by rw[<-List.drop_drop,ao,List.drop_left]) ag (by simp at h;omega) dh;rw[cQ];simp only[vI,j,a8,aS,ax,Int.toNat_natCast,m,bZ,n,p,r,s];simp
theorem avE{l:U aH}(a:o_ l)(b:I (dK l)<2000)(m:Nat)(hm:I l<m):HK m (dK l)=J (l,0):=by simp only[HK];refine(Xz b l m 0 [] a rfl ag hm (by simp)).trans ?_;simp only[ib]
theorem abC:∀l:U aH,I l<=I (dK l)
 |[]=>b2 _
 |v::l=>by have:=abC l;have:=SS v;rw[Bg];simp only[dm,dc];omega
theorem alb{l:U aH}(a:o_ l)(b:I (dK l)<2000):Ay (dK l)=J (l,0):=avE a b 2000 (by have:=abC l;omega)
section
variable {tb:bU}{rs:U (U aH)}{t:T}{g:U bs}{h:ar}
theorem xP(f:Fit tb s){p:b7}(a:p∈dZ tb s):I p.key<=200:=(DL.1 (cX.1 f.2.1 p a)).1
theorem ZC(d:jj tb rs t)(c:jY tb=ae)(hm:s∈rs):uu (tb,eo tb s,t.node.kind,t.node.path,t.node.has,t.node.val,t.node.kids,t.node.hash,g,h)=J (s,ae,0,t.node.kind,t.node.path,t.node.has,t.node.val,t.node.kids,t.node.hash,g,h):=by
 have f:=d.fit s hm;have e:=(uP f.1).1;have an:kX tb=J 0:=by simp only[kX,c,a8,e]
 have h1:mP [[114],tb.name]=J [cn [114],cn tb.name]:=rK (by simp);have h2:=_M (jX f.1);have h3:(I (eo tb s):Int)=(I tb.key:Int):=by rw[adK f]
 have i:=xP f (qE tb s);have c2:¬ 200<(I (dk tb s).key:Int):=ag
 have b:=Ex (t:=t) (g:=g) (h:=h) (k:=(dk tb s).key) d.wf i;have a:t.get (dk tb s).key=J (dk tb s).val:=(d.has _ _).2 ⟨s,hm,qE tb s⟩;have b:oa ((dk tb s).key,t.node.kind,t.node.path,t.node.has,t.node.val,t.node.kids,t.node.hash,g,h)=_:=b;rw[a]at b;have j:=Tb (tb:=tb) (r:=s) (Bt c) f.1 f.2.2;show Hc _=_;simp only[Hc,an,h1,h2,h3,c2,b,bZ,decide_true,decide_false,dj,a_,Option.getD_some,Option.isSome_some,j]
def Fu(tb:bU)(t:T)(n:Nat)(p:b7):U aH:=wO ⟨[],(t.get (dK (cn [114]::cn tb.name::((Ay p.key).getD ([],0)).1.drop n))).getD []⟩
theorem ael(aj:lX s){l:U ar}:∀v,v∈(eF tb.al s l []).1->da v.n:=NH (P:=λv=>da v.n) (λv aE=>by simpa using aj v aE) PM λv aE=>by cases aE
theorem q5(s:ar):da (cn s).n:=PM
variable{x:c3}
theorem A5(f:Fit tb s)(a:x∈tb.idx):o_ (cn [105]::cn x.name::((eF tb.al s x.al []).1++eo tb s)):=by
 refine⟨cX.2 (YO (jX f.1) a).1,λv aE=>?_⟩;rcases ek.1 aE with rfl|aE
 .exact q5 _
 rcases ek.1 aE with rfl|aE
 .exact q5 _
 rcases fM.1 aE with aE|aE
 .exact ael f.2.2 v aE
 .exact(_O f).2 v aE
theorem acA(f:Fit tb s)(a:x∈tb.idx):Ay (gw tb s x).key=J (cn [105]::cn x.name::((eF tb.al s x.al []).1++eo tb s),0):=by have:=xP f (p:=gw tb s x) (by simp only[dZ,ek,fM,List.mem_map];exact .inr (.inl ⟨x,a,rfl⟩));exact alb (A5 f a) (by show I (gw tb s x).key<2000;omega)
theorem EV(f:Fit tb s)(a:x∈tb.idx):I (eF tb.al s x.al []).1=I x.al:=by have:=LP (row:=s) (acc:=[]) ((jX f.1).idx x a).2.2;exact oK
theorem RU(f:Fit tb s)(a:x∈tb.idx):(cn [105]::cn x.name::((eF tb.al s x.al []).1++eo tb s)).drop (2+I x.al)=eo tb s:=by rw[show 2+I x.al=I x.al+1+1 by omega,List.drop_succ_cons,List.drop_succ_cons,<-EV f a,List.drop_left]
theorem Aa(d:jj tb rs t)(hm:s∈rs)(b:x∈tb.idx):Fu tb t (2+I x.al) (gw tb s x)=s:=by have f:=d.fit s hm;have a:t.get (dk tb s).key=J (dk tb s).val:=(d.has _ _).2 ⟨s,hm,qE tb s⟩;simp only[dk]at a;simp only[Fu,acA f b,Option.getD_some,RU f b,a];have:=yh f;simpa only[dk,wO]using this
theorem acU{R:Type}{kx:bf->EY->af R}{z:U (U aH)}{e:Int}{x:c3}(d:jj tb rs t)(o:jY tb=ae)(b:x∈tb.idx){L:U b7}(q:∀p,p∈L->∃s,s∈rs/\p=gw tb s x)(u:I L<=100000):∀(k i:Nat) (acc:U (U aH)),i<=I L->I L-i<k->I acc<=i ->
  aT (λj=>wm j kx) k (z,e,acc,((2+I x.al:Nat):Int),L,(I L:Int),(i:Int),t.node.kind,t.node.path,t.node.has,t.node.val,t.node.kids,t.node.hash,g,h,tb)=kx (.exit 0) (z,e,acc++(L.drop i).map (Fu tb t (2+I x.al)),((2+I x.al:Nat):Int),L,(I L:Int),(I L:Int),t.node.kind,t.node.path,t.node.has,t.node.val,t.node.kids,t.node.hash,g,h,tb)
 |0,_,_,_,aV,_=>by omega
 |k+1,i,acc,hi,aV,cI=>by
  rw[cQ];by_cases a:i<I L
  .have c1:(i:Int)<(I L:Int):=ag
   have c2:I acc+1<=bJ:=gW
   obtain⟨s,hm,r⟩:=q _ (fo a);have f:=d.fit s hm;have v:=((jX f.1).idx x b).2.1;have l:=EV f b;have m:=adK f;have w:=(jX f.1).IT;have ao:=acA f b;have n:=ZC (g:=g) (h:=h) d o hm;have w1:wr .i64 (((2+I x.al:Nat):Int)+(I tb.key:Int))=((2+I x.al+I tb.key:Nat):Int):=gg
   have y:I (cn [105]::cn x.name::((eF tb.al s x.al []).1++eo tb s))=2+I x.al+I tb.key:=by simp only[dm,dc,l,m];omega
   have sF:upto ((2+I x.al:Nat):Int) ((2+I x.al+I tb.key:Nat):Int) (2+I x.al+I tb.key)=true:=by rw[aeX];simp
   simp only[wm,c1,decide_true,a8,bY a,ax,cb (c:=.kv) a,r,ao,bZ,dj,a_,y,w1,sF,Int.toNat_natCast,RU f b,n,c2,cV a (show b5 (I L) by simp[b5];omega)];rw[acU (kx:=kx) d o b q u k (i+1) (acc++[s]) ag ag dh,List.drop_eq_getElem_cons a,e0,fI,r,Aa d hm b];rfl
  .have e:i=I L:=ag
   subst e;have c1:¬(I L:Int)<(I L:Int):=ag
   simp only[wm,c1,decide_false,a_,nD,List.map_nil,List.append_nil]
theorem abw{R:Type}{kx:bf->Et->af R}{l:U c3}{w:Int}{a:Int}{b:ar}{c:Bool}{d:ar}{e:U bs}{f:ar}{v:aH}{j:Nat}(r:j<I l)(s:I l<=100)(q:∀m (hm:m<j),(l[m]' ag).name≠l[j].name):∀(k i:Nat),i<=j->I l-i<k ->
  aT (λo=>wi o kx) k (l,w,(I l:Int),(i:Int),a,b,c,d,e,f,g,h,tb,l[j].name,v)=kx .ret (l,(j:Int),(I l:Int),(j:Int),a,b,c,d,e,f,g,h,tb,l[j].name,v)
 |0,_,_,aV=>by omega
 |k+1,i,hi,aV=>by
  rw[cQ];have n:i<I l:=ag
  have c1:(i:Int)<(I l:Int):=ag
  by_cases e:i=j
  .subst e;simp only[wi,c1,decide_true,a8,bY n,ax,cb (c:=.idx) n]
  .have p:=q i ag;simp only[wi,c1,decide_true,a8,bY n,ax,cb (c:=.idx) n,p,decide_false,a_,cV n (show b5 (I l) by simp[b5];omega)];exact abw r s q k (i+1) ag ag
theorem HG:∀{l:U c3},fN l=ae->∀j (a:j<I l) m (hm:m<j),(l[m]' ag).name≠l[j].name
 |[],_,j,a,_,_=>by cases a
 |x::l,cG,0,_,m,hm=>by omega
 |x::l,cG,j+1,a,m,hm=>by simp only[fN,bx,cX]at cG;cases m with|zero=>exact Da (cG.1 _ (fo n2))|succ m=>exact HG cG.2 j n2 m ag
theorem aad{l:U c3}(a:fN l=ae){y:c3}(b:x∈l)(c:y∈l)(h:x.name=y.name):x=y:=by
 obtain⟨i,hi,rfl⟩:=List.getElem_of_mem b;obtain⟨j,d,rfl⟩:=List.getElem_of_mem c;rcases Nat.lt_trichotomy i j with e|e|e
 .exact absurd h (HG a j d i e)
 .subst e;rfl
 .exact absurd h.symm (HG a i hi j e)
def k4(x:c3)(v:aH):ar:=dK [cn [105],cn x.name,v]
def first(tb:bU)(x:c3)(s:U aH):aH:=at' .val (eF tb.al s (x.al.take 1) []).1 0
theorem Nn{al:U cW}{row:U aH}:∀(l:U ar) (acc:U aH),(∀s,s∈l->¬dR al s<0)->(eF al row l acc).1=acc++l.map λs=>at' .val row (dR al s)
 |[],acc,_=>by simp[eF]
 |s::l,acc,h=>by have h1:=h s (by simp);have a:=Nn (row:=row) l (acc++[at' .val row (dR al s)]) λx b=>h x (by simp[b]);simp only[eF,h1,decide_false,a_,a,e0,fI,List.singleton_append]
theorem Ed(an:∀n,n∈x.al->¬dR tb.al n<0)(b:x.al≠[]):(eF tb.al s x.al []).1=first tb x s::((eF tb.al s x.al []).1).drop 1/\(eF tb.al s (x.al.take 1) []).1=[first tb x s]:=by
 have h1:=Nn (row:=s) x.al [] an;have h2:=Nn (row:=s) (x.al.take 1) [] λn d=>an n (List.mem_of_mem_take d);cases c:x.al with
 |nil=>exact absurd c b
 |cons a l=>rw[c]at h1 h2;simp only[first,c];rw[h1,h2];simp[at']
end
section
variable {tb:bU}{rs:U (U aH)}{t:T}{g:U bs}{h:ar}
variable{x:c3}
theorem xR(d:hT tb=ae)(f:x∈tb.idx):fC x.name=ae/\I x.al<=100/\x.al≠[]/\∀s,s∈x.al->¬dR tb.al s<0:=by
 have h6:=(mN d).2.2.2 x f;simp only[k5,bx]at h6;obtain⟨h7,g⟩:=h6;simp only[fX,gT,bx]at h7;have a:(fC tb.name&&gu (I x.al:Int)&&gF x.al)=true:=h7.2;simp only[bx]at a;obtain⟨b,_⟩:=DO a.2;refine⟨h7.1.1,b,λe=>?_,λs h=>?_⟩
 .have:=a.1.2;rw[e]at this;exact absurd this dU
 .have c:(!decide (dR tb.al s<0))=true:=cX.1 g s h;simpa using c
theorem ade{a b:ar}(h:cn a=cn b):a=b:=congrArg aH.s h
theorem XV(a:hT tb=ae)(b:x∈tb.idx)(f:Fit tb s):cS (first tb x s)=ae/\da (first tb x s).n:=by
 obtain⟨_,_,h3,h4⟩:=xR a b;have h1:=(Ed (s:=s) h4 h3).1;have hm:first tb x s∈(eF tb.al s x.al []).1:=by rw[h1];exact ot
 exact⟨G8 (jX f.1) h4 _ (jX f.1).right _ hm,ael f.2.2 _ hm⟩
theorem YR(a:hT tb=ae)(b:x∈tb.idx)(s:U aH):∃z,(gw tb s x).key=k4 x (first tb x s)++z/\cn [105]::cn x.name::((eF tb.al s x.al []).1++eo tb s)=[cn [105],cn x.name,first tb x s]++(((eF tb.al s x.al []).1).drop 1++eo tb s):=by
 obtain⟨_,_,h3,h4⟩:=xR a b;have h1:=(Ed (s:=s) h4 h3).1;have e:cn [105]::cn x.name::((eF tb.al s x.al []).1++eo tb s)=[cn [105],cn x.name,first tb x s]++(((eF tb.al s x.al []).1).drop 1++eo tb s):=by
  conv=>lhs;rw[h1]
  simp
 refine⟨dK (((eF tb.al s x.al []).1).drop 1++eo tb s),?_,e⟩;simp only[gw,k4];rw[e,A1]
theorem Mi(b:hT tb=ae)(c:x∈tb.idx){v:aH}(aE:cS v=ae)(d:da v.n):o_ [cn [105],cn x.name,v]:=by
 refine⟨?_,λw a=>?_⟩
 .simp only[et,List.all_nil,xA.2.1,qm (xR b c).1,aE,Bool.and_self]
 .simp only[ek,List.not_mem_nil,or_false]at a;rcases a with rfl|rfl|rfl
  .exact q5 _
  .exact q5 _
  .exact d
theorem B2(d:jj tb rs t)(b:hT tb=ae)(a:x∈tb.idx){v:aH}(aE:cS v=ae)(m:da v.n){p:b7}:p∈range t (k4 x v) (fW (k4 x v))↔∃s,s∈rs/\first tb x s=v/\p=gw tb s x:=by
 obtain⟨k,u⟩:=p;rw[Zp d.wf,d.has];constructor
 .rintro⟨⟨s,e,hm⟩,o⟩;have f:=d.fit s e;obtain⟨z,h⟩:=Option.isSome_iff_exists.1 o;have g:=iL.1 h;have i:lA k=105:=by rw[g,k4,_n];rfl
  simp only[dZ,ek,fM,List.mem_map]at hm;rcases hm with hm|⟨y,j,hm⟩|hm|hm
  .have:=congrArg (λq:b7=>lA q.key) hm;simp only[zJ]at this;rw[i]at this;exact absurd this dU
  .have r:dK (cn [105]::cn y.name::((eF tb.al s y.al []).1++eo tb s))=k:=congrArg b7.key hm;have aS:=(P5 (Mi b a aE m).1 (A5 f j).1 (Mi b a aE m).2 (A5 f j).2).1 (by rw[r,g];exact List.prefix_append _ _);obtain⟨w,c⟩:=aS;simp only[gY,ib,gZ]at c;obtain⟨_,e_,l⟩:=c;have ju:=aad (mN b).2.1 a j (ade e_);subst ju;obtain⟨_,_,h3,h4⟩:=xR b a;have h1:=(Ed (s:=s) h4 h3).1;rw[h1]at l;simp only[gY,gZ]at l;exact⟨s,e,l.1.symm,hm.symm⟩
  .have:=(Bi hm).1;exact aec
  .have:=(x5 hm).1;exact aec
 .rintro⟨s,e,bO,hm⟩;obtain⟨z,h,_⟩:=YR b a s;have g:k=(gw tb s x).key:=by rw[<-hm]
  refine⟨⟨s,e,?_⟩,?_⟩
  .rw[hm];simp only[dZ,ek,fM,List.mem_map];exact .inr (.inl ⟨x,a,rfl⟩)
  .rw[g,h,bO,jB];rfl
def pA(tb:bU)(t:T)(x:c3)(v:aH):U (U aH):=(range t (k4 x v) (fW (k4 x v))).map (Fu tb t (2+I x.al))
theorem ZF(d:jj tb rs t)(e:hT tb=ae)(b:x∈tb.idx){v:aH}(aE:cS v=ae)(f:da v.n):s∈pA tb t x v↔s∈rs/\first tb x s=v:=by
 unfold pA;rw[List.mem_map];constructor
 .rintro⟨p,g,rfl⟩;obtain⟨s,a,c,rfl⟩:=(B2 d e b aE f).1 g;rw[Aa d a b];exact⟨a,c⟩
 .rintro⟨a,c⟩;exact⟨gw tb s x,(B2 d e b aE f).2 ⟨s,a,c,rfl⟩,Aa d a b⟩
theorem RS(d:jj tb rs t)(c:hT tb=ae)(a:x∈tb.idx){v:aH}(aE:cS v=ae)(f:da v.n):(pA tb t x v).Nodup:=by unfold pA List.Nodup;rw[List.pairwise_map];refine(TK d.wf _ _).imp_of_mem ?_;intro p q g i h e;obtain⟨s,j,_,rfl⟩:=(B2 d c a aE f).1 g;obtain⟨s',b,_,rfl⟩:=(B2 d c a aE f).1 i;rw[Aa d j a,Aa d b a]at e;subst e;exact OH _ h
theorem adv(d:jj tb rs t)(a:hT tb=ae)(b:x∈tb.idx){v:aH}(aE:cS v=ae)(c:da v.n):I (pA tb t x v)<=I rs:=Du (RS d a b aE c) λ_ e=>((ZF d a b aE c).1 e).1
theorem awc(d:jj tb rs t)(cG:jY tb=ae)(a:hT tb=ae)(ay:I rs<=200)(b:x∈tb.idx)(hm:s∈rs)(k:Nat)(aV : 300<k) :
  BM k (tb,x.name,first tb x s,t.node.kind,t.node.path,t.node.has,t.node.val,t.node.kids,t.node.hash,g,h)=J (pA tb t x (first tb x s),0,t.node.kind,t.node.path,t.node.has,t.node.val,t.node.kids,t.node.hash,g,h):=by
 have f:=d.fit s hm;obtain⟨aE,n⟩:=XV a b f;obtain⟨z,dB,_⟩:=YR a b s;have o:=xP f (p:=gw tb s x) (by simp only[dZ,ek,fM,List.mem_map];exact .inr (.inl ⟨x,b,rfl⟩));have i:=adv d a b aE n;have q:=λp=>(B2 d a b aE n (p:=p)).1;rw[dB,dc]at o;unfold pA at i ⊢;rw[List.length_map]at i;generalize aJ:first tb x s=v at *;have bn:I (k4 x v)<=200:=ag
 have aZ:=J3 (k4 x v);have an:kX tb=J 0:=by simp only[kX,cG,a8,a]
 have bk:I v.s<=1000:=by
  rcases nm.1 aE with ⟨_,_,e⟩|⟨_,_,e⟩|⟨_,e⟩|⟨_,_,e,_⟩|⟨_,_,e⟩<;>first
   |(rw[e];simp)
   |omega
 have r:q_ [v]=J (dK [v],0):=by have:aa (j9 [v]<=1000000)=true:=aY (by simp only[j9];omega);simp only[q_,this,a8,et,List.all_nil,aE,Bool.and_self]
 have h1:mP [[105],x.name]=J [cn [105],cn x.name]:=rK (by simp);have h2:lC [[cn [105],cn x.name],[v]]=J (k4 x v,0):=xm (by simp) (λw hw=>by have:=(Mi a b aE n).1;exact cX.1 this w (by simpa using hw)) (by simp)
 have h3:rr (k4 x v)=J (fW (k4 x v)):=by simp only[rr,aY (show I (k4 x v)<=2000000 by omega),a8]
 have ao:=d.size;have h4:=RB (t:=t) (g:=g) (h:=h) (lo:=k4 x v) (hi:=fW (k4 x v)) (m:=9223372036854775807) d.wf ag ag ag gW;have h4:ud (k4 x v,fW (k4 x v),9223372036854775807,t.node.kind,t.node.path,t.node.has,t.node.val,t.node.kids,t.node.hash,g,h)=_:=h4;obtain⟨j,l,u⟩:=List.getElem_of_mem b;have y:=(mN a).2.2.1;have bz:=(xR a b).2.1;simp only[BM,an,r,bZ,decide_true,dj,a_];subst u;refine(abw l y (HG (mN a).2.1 j l) k 0 (cp _) ag).trans ?_;have c1:¬(j:Int)<0:=ag
 have w1:wr .i64 (2+((I tb.idx[j].al:Nat):Int))=((2+I tb.idx[j].al:Nat):Int):=gg
 simp only[c1,decide_false,a_,h1,h2,h3,h4,bZ,decide_true,dj,bY l,ax,a8,cb (c:=.idx) l,w1];refine(acU d cG b (λp bn=>by obtain⟨s,h1,_,h3⟩:=q p bn;exact⟨s,h1,h3⟩) ag k 0 [] (cp _) ag (by simp)).trans ?_
 simp only[gH,ib]
end
section
variable {tb:bU}{rs L jA:U (U aH)}{t:T}{x:c3}{g:U bs}{h:ar}{b:Bool}
theorem YY:∀{l:U (U aH)}{a:U aH},l.Nodup->a∈l->l.countP (λs=>aa (s=a))=1
 |s::l,a,b,hm=>by
  have b:=List.nodup_cons.1 b;rw[List.countP_cons];rcases ek.1 hm with rfl|hm
  .have:l.countP (λs=>aa (s=a))=0:=List.countP_eq_zero.2 λs d=>by have:¬s=a:=λe=>b.1 (e▸d);simpa using this
   simp[this]
  .have c:¬s=a:=λe=>b.1 (e▸hm);rw[YY b.2 hm];simp[c]
end
section
variable {tb:bU}{rs:U (U aH)}{t:T}{r:U aH}{g:U bs}{h:ar}
theorem arZ(a:t.cz 0):uA (t.node.kind,t.node.path,t.node.has,t.node.val,t.node.kids,t.node.hash,g,h)=J (Pq t.node,t.node.kind,t.node.path,t.node.has,t.node.val,t.node.kids,t.node.hash,g,h):=by simp only[uA,Qy,B6,aja a,bZ]
theorem asr(a:t.cz 0)(b:I k<=200):Ac (k,t.node.kind,t.node.path,t.node.has,t.node.val,t.node.kids,t.node.hash,g,h)=J ((t.look (c6 k)).isSome,0,(t.less k).node.kind,(t.less k).node.path,(t.less k).node.has,(t.less k).node.val,(t.less k).node.kids,(t.less k).node.hash,g,h):=by simp only[Ac,Ld,B6,auI a b,bZ,show ¬((0:Int)=80) by omega,decide_false,decide_true,a_,a8]
end
theorem Jh(a:t.cz 0):(t.less k).cz 0:=by
 unfold T.less;split
 .rename_i b;obtain⟨v,aE⟩:=Option.isSome_iff_exists.1 b;exact(z2 a aE (pe k)).1
 .exact a
theorem atY(c:t.cz 0)(a:ar):(t.less k).get a = if a = k then ah else t.get a:=by
 unfold T.less T.get;split
 .rename_i b;obtain⟨v,aE⟩:=Option.isSome_iff_exists.1 b;rw[LK c aE (pe k) _ (pe a)];by_cases e:a = k
  .simp[e]
  .have:¬c6 a = c6 k:=λq=>e (ac4 q);simp[e,this]
 .rename_i b;split
  .rename_i e;subst e;cases d:t.look (c6 a)with|none=>rfl|some v=>rw[d]at b;exact absurd rfl b
  .rfl
def kt(t:T)(l:U b7):T:=l.foldl (λt p=>t.less p.key) t
theorem WH:∀{l:U b7}{t:T},t.cz 0->(kt t l).cz 0
 |[],_,h=>h
 |_::l,_,h=>WH (l:=l) (Jh h)
theorem UN:∀(l:U b7) (t:T),t.cz 0->∀k,(kt t l).get k=if(l.any λp=>aa (p.key=k))then ah else t.get k
 |[],t,_,k=>by simp[kt]
 |p::l,t,h,k=>by
  have a:=UN l (t.less p.key) (Jh h) k;simp only[kt,List.foldl_cons]at a ⊢;rw[a,atY h,List.any_cons];by_cases e:k=p.key
  .simp[e]
  .simp[e,Ne.symm e]
theorem Sd{R:Type}{kx:bf->DI->af R}{l:U b7}{z:Int}{g:U bs}{h:ar}(f:I l<=100000)(b:∀p,p∈l->I p.key<=200):∀(k i:Nat) (t:T),t.cz 0->i<=I l->I l-i<k ->
  aT (λd=>vS d kx) k (z,l,(I l:Int),(i:Int),t.node.kind,t.node.path,t.node.has,t.node.val,t.node.kids,t.node.hash,g,h)=kx (.exit 0) (z,l,(I l:Int),(I l:Int),(kt t (l.drop i)).node.kind,(kt t (l.drop i)).node.path,(kt t (l.drop i)).node.has,(kt t (l.drop i)).node.val,(kt t (l.drop i)).node.kids,(kt t (l.drop i)).node.hash,g,h)
 |0,_,_,_,_,b=>by omega
 |k+1,i,t,hw,hi,afu=>by
  rw[cQ];by_cases a:i<I l
  .have c1:(i:Int)<(I l:Int):=ag
   have j:=asr (g:=g) (h:=h) hw (b _ (fo a));simp only[vS,c1,decide_true,a8,bY a,ax,cb (c:=.kv) a,j,bZ,dj,a_,cV a (show b5 (I l) by simp[b5];omega)];rw[Sd (kx:=kx) f b k (i+1) _ (Jh hw) ag ag,List.drop_eq_getElem_cons a];rfl
  .have e:i=I l:=ag
   subst e;have c1:¬(I l:Int)<(I l:Int):=ag
   simp only[vS,c1,decide_false,a_,nD];rfl
theorem Jc(f:Fit tb r):lG tb r=(dZ tb r,0):=by simp only[lG,f.1,decide_true,a8,f.2.1]
section
variable {tb:bU}{rs:U (U aH)}{t:T}{r:U aH}{g:U bs}{h:ar}
theorem av6(i:jY tb=ae)(f:Fit tb r)(d:t.cz 0)(a:t.get (dk tb r).key=J (dk tb r).val)(k:Nat)(l : 500<k):xJ k (tb,r,t.node.kind,t.node.path,t.node.has,t.node.val,t.node.kids,t.node.hash,g,h)=J (0,(kt t (dZ tb r)).node.kind,(kt t (dZ tb r)).node.path,(kt t (dZ tb r)).node.has,(kt t (dZ tb r)).node.val,(kt t (dZ tb r)).node.kids,(kt t (dZ tb r)).node.hash,g,h):=by
 have e:=Kg (t:=tb) (r:=r) (Bt i) f.2.2;rw[Jc f]at e;have m:=_V f.1;have i0:aU 0 (I (dZ tb r))=true:=by simp[dZ,aU];omega
 have a0:at' .kv (dZ tb r) 0=dk tb r:=rfl;have c:=xP f (qE tb r);have b:=Ex (t:=t) (g:=g) (h:=h) (k:=(dk tb r).key) d c;have b:oa ((dk tb r).key,t.node.kind,t.node.path,t.node.has,t.node.val,t.node.kids,t.node.hash,g,h)=_:=b;rw[a]at b;simp only[xJ,e,bZ,decide_true,dj,a_,i0,ax,a8,a0,b,Option.isSome_some,Option.getD_some];refine(Sd ag (λp j=>xP f j) k 0 t d (cp _) ag).trans ?_;simp only[gH]
theorem aub(e:jY tb=ae)(f:Fit tb r)(i:t.cz 0)(a:t.get (dk tb r).key=ah):∃x,sY (tb,r,t.node.kind,t.node.path,t.node.has,t.node.val,t.node.kids,t.node.hash,g,h)=J (4,x):=by
 have d:=Kg (t:=tb) (r:=r) (Bt e) f.2.2;rw[Jc f]at d;have i0:aU 0 (I (dZ tb r))=true:=by simp[dZ,aU];omega
 have a0:at' .kv (dZ tb r) 0=dk tb r:=rfl;have c:=xP f (qE tb r);have b:=Ex (t:=t) (g:=g) (h:=h) (k:=(dk tb r).key) i c;have b:oa ((dk tb r).key,t.node.kind,t.node.path,t.node.has,t.node.val,t.node.kids,t.node.hash,g,h)=_:=b;rw[a]at b;refine⟨(t.node.kind,t.node.path,t.node.has,t.node.val,t.node.kids,t.node.hash,g,h),?_⟩;simp only[sY,xJ,d,bZ,decide_true,dj,a_,i0,ax,a8,a0,b,Option.isSome_none,jd]
theorem DG:∀{cs:U cW}{vs:U aH}{p:b7},p∈g8 tb r cs vs->∃c v,c∈cs/\v∈vs/\¬c.ref=[]/\p=lU tb r c v
 |[],_,p,h=>by simp[g8]at h
 |_::_,[],p,h=>by simp[g8]at h
 |c::cs,v::vs,p,h=>by
  simp only[g8]at h;cases an:(!decide (c.ref=[]) && !decide (v.kind=1))with
  |false=>rw[an]at h;obtain⟨a,b,h1,h2,h3,h4⟩:=DG h;exact⟨a,b,by simp[h1],by simp[h2],h3,h4⟩
  |true=>
   rw[an]at h;rcases ek.1 h with rfl|h
   .simp only[bx,Bool.not_eq_true',decide_eq_false_iff_not]at an;exact⟨c,v,by simp,by simp,an.1,rfl⟩
   .obtain⟨a,b,h1,h2,h3,h4⟩:=DG h;exact⟨a,b,by simp[h1],by simp[h2],h3,h4⟩
theorem VI(f:Fit tb s){c:cW}(an:c∈tb.al)(b:¬c.ref=[]){v:aH}(aE:v∈s):o_ (cn [102]::cn c.ref::v::cn tb.name::cn c.name::eo tb s):=by
 refine⟨cX.2 (YV (jX f.1) an b aE).1,λw a=>?_⟩;simp only[ek]at a;rcases a with rfl|rfl|rfl|rfl|rfl|a
 .exact q5 _
 .exact q5 _
 .simpa using f.2.2 _ aE
 .exact q5 _
 .exact q5 _
 .exact(_O f).2 _ a
theorem avB(a:eo tb s=eo tb r):(dk tb s).key=(dk tb r).key:=by simp only[dk,a]
theorem asq(d:jj tb rs t)(f:Fit tb r)(cg:k2 t (dk tb r::fD tb r tb.al r)=ah):∀p,p∈dZ tb r->t.get p.key=none:=λp b=>by
 have z:=Hb.1 cg;have a:=z _ (ot);have key:∀s,s∈rs->eo tb s=eo tb r->False:=λs g he=>by have:=(d.has (dk tb s).key (dk tb s).val).2 ⟨s,g,qE tb s⟩;rw[avB he,a]at this;cases this
 have k:=(uP f.1).1;simp only[dZ,ek,fM,List.mem_map]at b;rcases b with rfl|⟨x,l,rfl⟩|b|b
 .exact a
 .cases m:t.get (gw tb r x).key with
  |none=>rfl
  |some v=>
   exfalso;obtain⟨s,g,hm⟩:=(d.has _ _).1 m;have az:=d.fit s g;have h:=OV tb r x;simp only[dZ,ek,fM,List.mem_map]at hm;rcases hm with hm|⟨y,j,hm⟩|hm|hm
   .exact adZ
   .have e:=Tn (A5 az j) (A5 f l) (congrArg b7.key hm);simp only[gZ,true_and]at e;have aS:=aad (mN k).2.1 j l (ade e.1);subst aS;exact key s g (List.append_inj e.2 (by rw[EV az j,EV f l])).2
   .exact ad1
   .have:=(x5 hm).1;simp only at this;rw[h]at this;exact absurd this dU
 .exact z p (by simp[b])
 .obtain⟨c,v,an,aE,n,rfl⟩:=DG b;cases m:t.get (lU tb r c v).key with
  |none=>rfl
  |some u=>
   exfalso;obtain⟨s,g,hm⟩:=(d.has _ _).1 m;have az:=d.fit s g;have h:=(x5 b).1;simp only[dZ,ek,fM,List.mem_map]at hm;rcases hm with hm|⟨y,j,hm⟩|hm|hm
   .exact adZ
   .have:=congrArg (λq:b7=>lA q.key) hm;simp only[OV]at this;rw[h]at this;exact absurd this dU
   .exact ad1
   .obtain⟨cj,sG,o,w,i,e⟩:=DG hm;have e:=Tn (VI f an n aE) (VI az o i w) (congrArg b7.key e);simp only[gZ,true_and]at e;exact key s g e.2.2.2.symm
theorem avx(d:jj tb rs t)(f:Fit tb r)(q:k2 t (dk tb r::fD tb r tb.al r)=ah):(kt (kY t (dZ tb r)) (dZ tb r)).node=t.node:=by
 have b:∀p,p∈dZ tb r->tq p:=λp a=>DL.1 (cX.1 f.2.1 p a);have n:=LD d.wf b;have c:=WH (l:=dZ tb r) n;have g:∀k,(kt (kY t (dZ tb r)) (dZ tb r)).get k=t.get k:=λk=>by
  rw[UN _ _ n];split
  .rename_i h;obtain⟨p,a,e⟩:=List.any_eq_true.1 h;have e:=of_decide_eq_true e;subst e;exact(asq d f q p a).symm
  .rename_i h;have i:∀p,p∈dZ tb r->p.key≠k:=λp a e=>h (List.any_eq_true.2 ⟨p,a,aY e⟩);cases o:t.get k with
   |none=>
    cases j:(kY t (dZ tb r)).get k with
    |none=>rfl
    |some v=>
     rcases JV.1 j with h3|⟨_,h3⟩
     .exact absurd rfl (i _ h3)
     .rw[o]at h3;cases h3
   |some v=>exact JV.2 (.inr ⟨i,o⟩)
 refine Ph _ _ 0 c d.wf λp a=>?_;by_cases s:I p % 2=0
 .have e:=Iz a s;have:=g (kB p);unfold T.get at this;rwa[e]at this
 .have no:∀{t':T},t'.cz 0->t'.look p=none:=λ{t'} m=>by cases u:t'.look p with|none=>rfl|some v=>have:=(zW m a u).2.1;omega
  rw[no c,no d.wf]
end
noncomputable section
def MJ:bt:=⟨218,[(2,.sl .val ai),(6,.bool),(10,.sl .byte ae),(21,.int .i64),(24,.sl .ep ae),(25,.int .i64),(26,.int .i64),(27,.int .i64)],[(3,.ptr 0 0),(7,.ptr 41 0)],[(0,.one (.aI .tbl)),(41,.cells [aq,aC,.bool,aC,.sl .node ai,aC,.sl .stt ai,aC])],42,0,0,[],[]⟩
abbrev uQ:=U aH×Bool×U UInt8×Int×U (U aH)×Int×Int×Int×bU×Int×U UInt8×Bool×U UInt8×U bs×U UInt8×U bs×U UInt8
def s5{R:Type}(s:uQ->af R)(kx:bf->uQ->af R)(v:uQ):af R:=match v with|(c,d,e,f,a,g,h,b,i,j,k,l,m,n,o,p,q)=>cond (aa (b<(I a:Int))) (ax (aU b (I a)) ((wH (at' .ep a b) c).bind λr=>cond (aa (r=0)) (s (c,d,e,f,a,g,(wr .i64 (h+1)),(wr .i64 (b+1)),i,j,k,l,m,n,o,p,q)) (s (c,d,e,f,a,g,h,(wr .i64 (b+1)),i,j,k,l,m,n,o,p,q)))) (kx (.exit 4) (c,d,e,f,a,g,h,b,i,j,k,l,m,n,o,p,q))
def Np:bt:=⟨218,[(2,.sl .val ai),(6,.bool),(10,.sl .byte ae),(21,.int .i64)],[(3,.ptr 0 0),(7,.ptr 41 0)],[(0,.one (.aI .tbl)),(41,.cells [aq,aC,.bool,aC,.sl .node ai,aC,.sl .stt ai,aC])],42,0,0,[],[]⟩
abbrev uF:=U aH×Bool×U UInt8×Int×bU×Int×U UInt8×Bool×U UInt8×U bs×U UInt8×U bs×U UInt8
def s3{R:Type}(k:Nat)(bW:uF->af R)(kx:bf->uF->af R)(v:uF):af R:=match v with
 |(c,r,s,b,a,ie,t,u,w,x,y,z,a0)=>
 cond (aa (b<(I a.idx:Int))) (
  ax (aU b (I a.idx)) (
  (zt a c ((at' .idx a.idx b).al)).bind λ(a1,_)=>
   ax (aU b (I a.idx)) (
   ax (aU 0 (I a1)) (
    (F' (a,(at' .idx a.idx b).name,(at' .val a1 0),ie,t,u,w,x,y,z,a0)).bind λ(a2,a3,a4,a5,a6,a7,aJ,aZ,bk,bz)=>
    aT (λrc=>s5 rc (λe fu=>match fu with|(d,ac,f,g,_,ad,bL,_,h,i,j,l,m,n,o,p,q)=>match e with
     |.exit 4=>
     cond (!decide (ad=0)) (
      kx .ret (d,ai,f,g,h,i,j,l,m,n,o,p,q)) (
      cond (!decide (bL=1)) (
      kx .ret (d,ai,f,g,h,i,j,l,m,n,o,p,q)) (
      bW (d,ac,f,(wr .i64 (g+1)),h,i,j,l,m,n,o,p,q)))
     |_=>ah)) k (c,r,s,b,a2,a3,0,0,a,a4,a5,a6,a7,aJ,aZ,bk,bz))))) (
  kx (.exit 2) (c,r,s,b,a,ie,t,u,w,x,y,z,a0))
def MM:bt:=⟨218,[(1,.sl .ep ai),(2,.sl .val ai),(6,.bool),(9,.int .i64)],[(3,.ptr 0 0),(7,.ptr 41 0)],[(0,.one (.aI .tbl)),(41,.cells [aq,aC,.bool,aC,.sl .node ai,aC,.sl .stt ai,aC])],42,0,0,[],[]⟩
abbrev ux:=U (U aH)×U aH×Bool×Int×bU×Int×U UInt8×Bool×U UInt8×U bs×U UInt8×U bs×U UInt8
def s4{R:Type}(g:ux->af R)(kx:bf->ux->af R)(v:ux):af R:=match v with|(cw,b,c,a,w1,w2,w3,c9,c7,dC,dO,dX,fy)=>cond (aa (a<(I cw:Int))) (ax (aU a (I cw)) ((v9 (w1,(at' .ep cw a),w2,w3,c9,c7,dC,dO,dX,fy)).bind λ(_,h,i,j,k,l,d,e,f)=>g (cw,b,c,(wr .i64 (a+1)),w1,h,i,j,k,l,d,e,f))) (kx (.exit 0) (cw,b,c,a,w1,w2,w3,c9,c7,dC,dO,dX,fy))
def MG:bt:=⟨218,[(1,.sl .ep ai),(2,.sl .val ai),(6,.bool),(9,.int .i64)],[(3,.ptr 0 0),(7,.kS)],[(0,.one (.aI .tbl))],1,0,0,[],[]⟩
abbrev yp:=U (U aH)×U aH×Bool×Int×bU
def FV{R:Type}(_:yp->af R)(kx:bf->yp->af R)(v:yp):af R:=match v with|(v,v1,v2,aD,w)=>cond (aa (aD<(I v:Int))) (ax (aU aD (I v)) (ah)) (kx (.exit 0) (v,v1,v2,aD,w))
def SD(R:Type)(kK:Nat):aM R:=bp [(29,bg HB),(30,bg Eg)] [] [] []
noncomputable def uV(R:Type)(k:Nat):aM R:=bp [(7,bg aa7),(8,bg Yx),(13,fS E1 EX v9),(19,fS Nf Nk uA),(14,fS D9 D4 r7),(17,bg NC),(20,bg abe),(15,bg Kj),(21,fS DN DX uu),(16,bg aci),(22,fS EA Ew sY),(12,eY 40 200 (SD R k) Tryz.f12)] [(15,fa Kj)] [(5,J_ k MG (FV) (cq k MM (s4))),(27,cq k MJ (s5)),(21,cq k Np (s3 k))] [(18,o7 C8 C' F')]
theorem atw(R:Type)(k:Nat):∀(bI:U Fr) (a:yp->af R) (kx:bf->yp->af R) (v:yp),round (uV R k) MG (b_ Tryz.f6 0) bI a kx v=FV a kx v
 |bI,a,kx,(v,v1,v2,aD,w)=>by kernel_rfl
theorem aiB(R:Type)(k:Nat):∀(bI:U Fr) (d:ux->af R) (kx:bf->ux->af R) (v:ux),round (uV R k) MM (b_ Tryz.f6 0) bI d kx v=s4 d kx v
 |bI,d,kx,(cw,a,b,c,w1,w2,w3,c9,c7,dC,dO,dX,fy)=>by kernel_rfl
theorem auM(R:Type)(k:Nat):∀(bI:U Fr) (s:uQ->af R) (kx:bf->uQ->af R) (v:uQ),round (uV R k) MJ (ss (b_ Tryz.f6 1) 0) bI s kx v=s5 s kx v
 |bI,s,kx,(a,b,c,d,e,f,g,h,i,j,l,m,n,o,p,q,r)=>by kernel_rfl
theorem asn(R:Type)(k:Nat):∀(bI:U Fr) (n:uF->af R) (kx:bf->uF->af R) (v:uF),round (uV R k) Np (b_ Tryz.f6 1) bI n kx v=s3 k n kx v
 |bI,n,kx,(a,b,c,d,e,ie,f,g,h,i,j,l,m)=>by kernel_rfl
def DW(k:Nat)(x:au [cu,.sl .ep ai,dA]):af (au [.bool]):=match x with
 |(t,l,r)=>
 let j:=λ(p1:Bool)=>
  cond (p1) (
  (yF).bind λln=>J ln) (
  (uB (bs.mk 0 [] ai [] [] [])).bind λj_=>
   cond (!decide (j_=0)) (
   aT (λCc=>FV Cc (λe fu=>match fu with|(_,_,_,_,_)=>match e with
    |.exit 0=>
    ah
    |_=>ah)) k (l,r,ai,0,t)) (
   (sR (bs.mk 0 [] ai [] [] [])).bind λlp=>
    aT (λCc=>s4 Cc (λe fu=>match fu with|(_,b,a4,_,a,a5,a6,a7,aJ,aZ,bk,bz,ac)=>match e with
    |.exit 0=>
     (uA (a5,a6,a7,aJ,aZ,bk,bz,ac)).bind λ(c,ad,bL,nF,bW,b9,ch,cy,cE)=>
     (r7 (a,ad,bL,nF,bW,b9,ch,cy,cE)).bind λ(cc,d,am,cZ,dp,ap,aw7,dH,dE,dL)=>
      (v9 (a,b,am,cZ,dp,ap,aw7,dH,dE,dL)).bind λ(f,g,h,i,m,n,o,p,q)=>
      cond (!decide (d=0)) (
       (Ad a).bind λd_=>
       let kP:=λ(p3:Bool)=>
        cond (p3) (
        (yF).bind λd'=>J d') (
        J ai)
       cond (!decide (d_=0)) (
        kP (aa (f=d))) (
        kP ai)) (
       cond (!decide (f=0)) (
       (uA (g,h,i,m,n,o,p,q)).bind λ(ef,_,_,_,_,_,_,_,_)=>
        (zz ef c).bind λea=>
        cond (ea) (
         (yF).bind λc0=>
         J c0) (
         J ai)) (
       (zt a b a.key).bind λ(du,_)=>
        (uu (a,du,g,h,i,m,n,o,p,q)).bind λ(dF,ff,uW,fF,fG,fr,kj,gk,gz,gN,hJ)=>
        (r7 (a,fF,fG,fr,kj,gk,gz,gN,hJ)).bind λ(iQ,be,iR,jt,kk,bi,lJ,mY,ak,kL)=>
         let lM:=λ(Q3:Bool)=>
         let m5:=λ(Cw:Bool)=>
          let kQ:=λ(mZ:Bool)=>
          let lg:=λ(nH:Bool)=>
           cond (nH) (
           J ai) (
           (v9 (a,b,iR,jt,kk,bi,lJ,mY,ak,kL)).bind λ(py,qM,cY,pz,axf,uX,bv,uY,axg)=>
            cond (!decide (py=180)) (
            J ai) (
            aT (λCc=>s3 k Cc (λe fu=>match fu with|(s,uZ,dd,_,u,c1,c2,iI,j5,m0,pC,m1,qN)=>match e with
             |.ret=>
             J uZ
             |.exit 2=>
             (sY (u,s,c1,c2,iI,j5,m0,pC,m1,qN)).bind λ(sj,v,w,y,z,a0,a1,a2,a3)=>
              let Cs:=λ(B':Bool) (Ca:Int) (y0:U UInt8) (QD:Bool) (ce:U UInt8) (QE:U bs) (afc:U UInt8) (QF:U bs) (ci:U UInt8)=>
              let Cr:=λ(axj:Bool)=>
               cond (axj) (
               (yF).bind λaxk=>J axk) (
               J ai)
              cond (B') (
               (sY (u,s,Ca,y0,QD,ce,QE,afc,QF,ci)).bind λ(axl,_,_,_,_,_,_,_,_)=>
               Cr (aa (axl=4))) (
               Cr ai)
              cond (aa (sj=0)) (
              (uA (v,w,y,z,a0,a1,a2,a3)).bind λ(axm,axn,co,axo,axp,axq,cs,axr,axs)=>
               (zz axm dd).bind λaxt=>
               Cs axt axn co axo axp axq cs axr axs) (
              Cs ai v w y z a0 a1 a2 a3)
             |_=>ah)) k (b,a4,c,0,a,qM,cY,pz,axf,uX,bv,uY,axg)))
          cond (mZ) (
           lg ae) (
           lg (!decide ((I iQ:Int)=(wr .i64 ((I cc:Int)+1)))))
          cond (Cw) (
          kQ ae) (
          kQ (!decide (be=0)))
         cond (Q3) (
          m5 ae) (
          (wH dF b).bind λaxu=>
          m5 (!decide (axu=0)))
         cond (!decide (uW=0)) (
         lM ae) (
         lM (!ff))))
    |_=>ah)) k (l,r,ai,0,t,lp.kind,lp.path,lp.has,lp.val,lp.kids,lp.hash,[],[])))
 (NR t l).bind λx=>
  cond (x) (
  j ae) (
  j (aa (100<(I r:Int))))
theorem akt(k:Nat):aN 6 [cu,.sl .ep ai,dA] [.bool] (DW k):=bX (px:=uV _ k) (n:=3) Tryz.func6 rfl (λab H=>by have h1:bT ab (SD (au [.bool]) k):=br H (c1 H QB (c1 H LO bm)) bo bq;have h0:bT ab (uV (au [.bool]) k):=br H (c1 H att (c1 H anr (eO H aje (eO H arO (eO H ajr (c1 H aoO (c1 H atT (c1 H _3 (eO H aai (c1 H ajk (eO H alF (dY (e8 H h1 Tryz.func12 rfl (n:=0) (aP)) bm)))))))))))) (bd H _3 bo) (w1 H al6 bq);have d:fR ab (uV (au [.bool]) k) (b_ Tryz.f6 0):=J1 (λ_ _=>by kernel_rfl) (aqO (_T h0.p h0.c h0.q tz (k:=k) (s:=MG) (step:=FV) b0 (atw _ k) (BH (n:=0) b0 aP)) (_T h0.p h0.c h0.q tz (k:=k) (s:=MM) (step:=s4) b0 (aiB _ k) (BH (n:=0) b0 aP)));have a:=cC H h0 (b:=ss (b_ Tryz.f6 1) 0) (k:=k) (n:=0) (s:=MJ) (step:=s5) (auM _ k) aP;have e:=cC H h0 (b:=b_ Tryz.f6 1) (k:=k) (n:=1) (s:=Np) (step:=s3 k) (asn _ k) (cm aP a);exact⟨h0,(cm (cm (cm aP d) e) a)⟩) λ(_,_,_)=>by kernel_rfl
end
theorem O2{R:Type}{kx:bf->ux->af R}{tb:bU}{l:U (U aH)}{r:U aH}{b:Bool}{g:U bs}{h:ar}(o:I l<=1000)(j:∀r,nC tb r=J (hS tb r))(aj:∀r,r∈l->lX r):∀(k i:Nat) (rs:U (U aH)) (t:T),jj tb rs t->I rs<=i->i<=I l->I l-i<k ->
  ∃f t',jj tb f t'/\I f<=I l/\aT (λm=>s4 m kx) k (l,r,b,(i:Int),tb,t.node.kind,t.node.path,t.node.has,t.node.val,t.node.kids,t.node.hash,g,h)=kx (.exit 0) (l,r,b,(I l:Int),tb,t'.node.kind,t'.node.path,t'.node.has,t'.node.val,t'.node.kids,t'.node.hash,g,h)
 |0,_,_,_,_,_,_,aV=>by omega
 |k+1,i,rs,t,d,cJ,hi,aV=>by
  rw[cQ];by_cases a:i<I l
  .have c1:(i:Int)<(I l:Int):=ag
   have n:=Ol (t:=t) (g:=g) (h:=h) (j l[i]) (aj _ (fo a)) d.wf;simp only[s4,c1,decide_true,a8,bY a,ax,cb (c:=.ep) a,n,bZ,cV a (show b5 (I l) by simp[b5];omega)];rcases adO d (aj _ (fo a))with ⟨h1,h2⟩|⟨h1,h2⟩
   .exact O2 (kx:=kx) (b:=b) (g:=g) (h:=h) o j aj k (i+1) _ _ h2 dh ag ag
   .rw[h2];exact O2 (kx:=kx) (b:=b) (g:=g) (h:=h) o j aj k (i+1) rs t d ag ag ag
  .have e:i=I l:=ag
   subst e;have c1:¬(I l:Int)<(I l:Int):=ag
   refine⟨rs,t,d,cJ,?_⟩;simp only[s4,c1,decide_false,a_]
section
variable {tb:bU}{rs jA:U (U aH)}{t:T}{r:U aH}{g:U bs}{h ey:ar}{b:Bool}
theorem M_{R:Type}{kx:bf->uQ->af R}{i f:Int}(a:∀s,s∈jA->I s=I r)(n:I r<=1000)(o:I jA<=1000):∀(k j m:Nat),j<=I jA->I jA-j<k->m<=j ->
  aT (λl=>s5 l kx) k (r,b,ey,i,jA,f,(m:Int),(j:Int),tb,t.node.kind,t.node.path,t.node.has,t.node.val,t.node.kids,t.node.hash,g,h)=kx (.exit 4) (r,b,ey,i,jA,f,((m+(jA.drop j).countP (λs=>aa (s=r)):Nat):Int),(I jA:Int),tb,t.node.kind,t.node.path,t.node.has,t.node.val,t.node.kids,t.node.hash,g,h)
 |0,_,_,_,aV,_=>by omega
 |k+1,j,m,cN,aV,hm=>by
  rw[cQ];by_cases d:j<I jA
  .have c1:(j:Int)<(I jA:Int):=ag
   have h1:=a _ (fo d);have p:wH jA[j] r=J (hW g_ jA[j] r):=aav h1 ag;have w1:wr .i64 ((m:Int)+1)=((m+1:Nat):Int):=gg
   simp only[s5,c1,decide_true,a8,bY d,ax,cb (c:=.ep) d,p,bZ,cV d (show b5 (I jA) by simp[b5];omega),w1];rw[List.drop_eq_getElem_cons d,List.countP_cons];by_cases e:jA[j]=r
   .have z:hW g_ r r=0:=(I7.eq _ _).2 rfl;simp only[e,z,decide_true,a8,if_true];rw[M_ (kx:=kx) a n o k (j+1) (m+1) ag ag ag,show m+1+(jA.drop (j+1)).countP (λs=>aa (s=r))=m+((jA.drop (j+1)).countP (λs=>aa (s=r))+1) by omega]
   .have z:¬hW g_ jA[j] r=0:=λz=>e ((I7.eq _ _).1 z);simp only[z,decide_false,a_,e,mW,if_false,Nat.add_zero];exact M_ (kx:=kx) a n o k (j+1) m ag ag ag
  .have e:j=I jA:=ag
   subst e;have c1:¬(I jA:Int)<(I jA:Int):=ag
   simp only[s5,c1,decide_false,a_,nD,List.countP_nil,Nat.add_zero]
theorem RY{R:Type}{kx:bf->uF->af R}{m:Nat}(hm : 1000<m)(d:jj tb rs t)(u:jY tb=ae)(j:hT tb=ae)(z:I rs<=200)(a:r∈rs):∀(k i:Nat),i<=I tb.idx->I tb.idx-i<k ->
  aT (λv=>s3 m v kx) k (r,b,ey,(i:Int),tb,t.node.kind,t.node.path,t.node.has,t.node.val,t.node.kids,t.node.hash,g,h)=kx (.exit 2) (r,b,ey,(I tb.idx:Int),tb,t.node.kind,t.node.path,t.node.has,t.node.val,t.node.kids,t.node.hash,g,h)
 |0,_,_,aV=>by omega
 |k+1,i,hi,aV=>by
  rw[cQ];have aJ:=(mN j).2.2.1;have f:=d.fit r a;by_cases l:i<I tb.idx
  .have c1:(i:Int)<(I tb.idx:Int):=ag
   have n:=fo l;obtain⟨ln,j_,lp,kV⟩:=xR j n;have aZ:=(yg j).1;have h1:=(jX f.1).len;obtain⟨aE,w⟩:=XV j n f;have p1:zt tb r tb.idx[i].al=J (eF tb.al r tb.idx[i].al []):=aba ag h1 _ ag;have p2:=(Ed (s:=r) kV lp).1;have Ri:at' .val (eF tb.al r tb.idx[i].al []).1 0=first tb tb.idx[i] r:=by rw[p2];rfl
   have i0:aU 0 (I (eF tb.al r tb.idx[i].al []).1)=true:=by rw[p2];simp[aU]
   have x:F' (tb,tb.idx[i].name,first tb tb.idx[i] r,t.node.kind,t.node.path,t.node.has,t.node.val,t.node.kids,t.node.hash,g,h)=J (pA tb t tb.idx[i] (first tb tb.idx[i] r),0,t.node.kind,t.node.path,t.node.has,t.node.val,t.node.kids,t.node.hash,g,h):=awc d u j z n a 5000 ag;have bk:=adv d j n aE w;have o:=λs=>ZF d j n aE w (s:=s);have y:=RS d j n aE w;have p:=YY y ((o r).2 ⟨a,rfl⟩);have q:∀s,s∈pA tb t tb.idx[i] (first tb tb.idx[i] r)->I s=I r:=λs u=>by rw[(jX (d.fit s ((o s).1 u).1).1).len,h1]
   simp only[s3,c1,decide_true,a8,bY l,ax,cb (c:=.idx) l,p1,bZ,Ri,i0,x];refine(M_ q ag ag m 0 0 (cp _) ag (b2 _)).trans ?_;have one:((0+((pA tb t tb.idx[i] (first tb tb.idx[i] r)).drop 0).countP (λs=>aa (s=r)):Nat):Int)=1:=by rw[gH,p];rfl
   simp only[one,decide_true,dj,a_,cV l (show b5 (I tb.idx) by simp[b5];omega)];exact RY hm d u j z a k (i+1) ag ag
  .have e:i=I tb.idx:=ag
   subst e;have c1:¬(I tb.idx:Int)<(I tb.idx:Int):=ag
   simp only[s3,c1,decide_false,a_]
theorem au0(h0:(hC tb r t).1=0)(c:lX r):Fit tb r/\k2 t (dk tb r::fD tb r tb.al r)=ah/\(hC tb r t).2=kY t (dZ tb r):=by
 unfold hC at *;cases a:aa ((lG tb r).2=0)with
 |false=>rw[a]at h0;exact absurd h0 (of_decide_eq_false a)
 |true=>rw[a]at h0;obtain⟨d,b,_⟩:=J0 (of_decide_eq_true a) (Classical.em _);simp only[a8]at h0 ⊢;cases e:k2 t (dk tb r::fD tb r tb.al r)with|some j=>rw[e]at h0;simp only at h0;split at h0<;>exact absurd h0 dU|none=>exact⟨⟨d,b,c⟩,rfl,rfl⟩
theorem apC(f:Fit tb r)(a:t.get (dk tb r).key=J (dk tb r).val):hC tb r t=(180,t):=by
 have:k2 t (dk tb r::fD tb r tb.al r)=J 0:=by simp only[k2,a,Option.isSome_some,if_true]
 simp only[hC,Jc f,decide_true,a8,this,if_true]
end
theorem avS{l:U (U aH)}(j:jY tb=ae)(q:Ad tb=J (cond (hT tb) 0 2))(bB:I l<=1048576)(ay:∀r,r∈l->I r<=1048576)(cJ:∀r,r∈l->lX r)(c:lX r)(k:Nat)(aV : 2000<k)(_:k<1000000):DW k (tb,l,r)=J true:=by
 obtain⟨b,hm,y⟩:=akx (t:=tb) bB ay;simp only[DW,hm,bZ,yF];cases b with
 |true=>rfl
 |false=>
  have ch:=y rfl;rw[a_];cases aa (100<(I r:Int))with
  |true=>rfl
  |false=>
   have c1:uB (bs.mk 0 [] ai [] [] [])=J 0:=K' (t:=.no) (cp _);have c2:sR (bs.mk 0 [] ai [] [] [])=J (bs.mk 0 [] ai [] [] []):=LA (t:=.no) (cp _);have z:∀r,nC tb r=J (hS tb r):=λr=>Bt j;simp only[a_,c1,c2,bZ,decide_true,dj];obtain⟨rs,t,d,cy,e⟩:=O2 (kx:=_) (r:=r) (b:=ai) (g:=[]) (h:=[]) (show I l<=1000 by omega) z cJ k 0 [] .no (avI tb) (cp _) (cp _) ag;refine e.trans ?_;clear e;have ey:=arZ (t:=t) (g:=[]) (h:=[]) d.wf;have i:=Ol (t:=t) (g:=[]) (h:=[]) (z r) c d.wf;simp only[ey,bZ];cases o:hT tb with
   |false=>
    have an:kX tb=J 2:=by simp only[kX,j,a8,o,a_]
    have p:r7 (tb,t.node.kind,t.node.path,t.node.has,t.node.val,t.node.kids,t.node.hash,[],[])=J ([],2,t.node.kind,t.node.path,t.node.has,t.node.val,t.node.kids,t.node.hash,[],[]):=by simp only[r7,tH,an,bZ];rfl
    have hi:hC tb r t=(2,t):=by
     have h2:hS tb r=2:=by simp only[hS,o,a_]
     have h3:lG tb r=([],2):=by simp only[lG,h2,show ¬((2:Int)=0) by omega,decide_false,a_]
     simp only[hC,h3,show ¬((2:Int)=0) by omega,decide_false,a_]
    rw[hi]at i;rw[o]at q;simp only[p,i,q,bZ];rfl
   |true=>
    have p:r7 (tb,t.node.kind,t.node.path,t.node.has,t.node.val,t.node.kids,t.node.hash,[],[])=J (om tb t,0,t.node.kind,t.node.path,t.node.has,t.node.val,t.node.kids,t.node.hash,[],[]):=abb d j o ag 5000 ag;have cE:=Ny d;simp only[p,i,bZ,decide_true,dj,a_];rcases adO d c with ⟨h1,d2⟩|⟨h1,h2⟩
    .obtain⟨f,s,h3⟩:=au0 h1 c;have a:r∈rs++[r]:=by simp
     have u:=avx d f s;have aJ:t.get (dk tb r).key=none:=Hb.1 s _ ot;rw[<-h3]at u;have m:(hC tb r t).2.get (dk tb r).key=J (dk tb r).val:=(d2.has _ _).2 ⟨r,a,qE tb r⟩;have am:I (rs++[r])=I rs+1:=by simp
     have v:=d2.wf;generalize eg:(hC tb r t).2=t2 at *;simp only[h1,decide_true,dj,a_];have aZ:zt tb r tb.key=J (eF tb.al r tb.key []):=aba (by have:=(jX f.1).IT;omega) (jX f.1).len _ ag;have bk:uu (tb,(eF tb.al r tb.key []).1,t2.node.kind,t2.node.path,t2.node.has,t2.node.val,t2.node.kids,t2.node.hash,[],[])=J (r,ae,0,t2.node.kind,t2.node.path,t2.node.has,t2.node.val,t2.node.kids,t2.node.hash,[],[]):=ZC d2 j a;have w:r7 (tb,t2.node.kind,t2.node.path,t2.node.has,t2.node.val,t2.node.kids,t2.node.hash,[],[])=J (om tb t2,0,t2.node.kind,t2.node.path,t2.node.has,t2.node.val,t2.node.kids,t2.node.hash,[],[]):=abb d2 j o ag 5000 ag;have b9:=Ny d2;have bz:I r<=1000:=by have:=(jX f.1).len;have:=(jX f.1).Cu;omega
     have ac:wH r r=J 0:=by rw[aav rfl bz,(I7.eq _ _).2 rfl]
     have n:=Ol (t:=t2) (g:=[]) (h:=[]) (z r) c v;rw[apC f m]at n;have w1:wr .i64 ((I (om tb t):Int)+1)=(I (om tb t2):Int):=gg
     simp only[aZ,bk,w,ac,n,bZ,decide_true,dj,a_,w1];have cZ:=(mN o).2.2.1;refine(RY ag d2 j o ag a k 0 (cp _) ag).trans ?_;have bL:sY (tb,r,t2.node.kind,t2.node.path,t2.node.has,t2.node.val,t2.node.kids,t2.node.hash,[],[])=J (0,t.node.kind,t.node.path,t.node.has,t.node.val,t.node.kids,t.node.hash,[],[]):=by have:=av6 (g:=[]) (h:=[]) j f v m 5000 ag;rw[u]at this;exact this
     obtain⟨x,bW⟩:=aub (g:=[]) (h:=[]) j f d.wf aJ;simp only[bL,ey,zz,Ho,bZ,decide_true,a8,bW]
    .rw[h2]at i;simp only[h1,decide_false,jd,a8,h2,ey,zz,Ho,bZ,decide_true]
variable{H:Type}
theorem Tm(d:DataW H) : 1<=Rows.uptoBulk d:=by cases d with|lit l=>cases l<;>simp[Rows.uptoBulk]|_=>simp[Rows.uptoBulk]
theorem EZ{H:Type}:∀{l:U (DataW H)}{d:DataW H},d∈l->Rows.uptoBulk d<=Rows.uptoBulkAll l
 |[],_,h=>by cases h
 |x::l,d,h=>by
  simp only[Rows.uptoBulkAll];rcases ek.1 h with rfl|h
  .omega
  .have:=EZ h;omega
theorem YJ{H:Type}:∀(l:U (DataW H)),I l<=Rows.uptoBulkAll l
 |[]=>by simp[Rows.uptoBulkAll]
 |x::l=>by have:=Tm x;have:=YJ l;simp only[Rows.uptoBulkAll,dm];omega
theorem atA(P:cx)(R:Nat):Be (H:=H) P (R,R) λ_ d=>Rows.uptoBulk d<=R where
 str:=λt s h=>by simp only[Rows.uptoBulk]at h;omega
 sl:=λt e l r a _ h b=>by simp only[Rows.uptoBulk]at h;have:=YJ l;exact⟨by omega,λd ao=>by have:=EZ ao;omega⟩
 agg:=λt fds l i fd d a h c ao=>by simp only[Rows.uptoBulk]at h;have:=EZ (List.mem_of_getElem? ao);omega
theorem Ip{H:Type}:∀(l:U (DataW H)),Rows.uptoBulkAll l=(l.map Rows.uptoBulk).sum
 |[]=>by simp[Rows.uptoBulkAll]
 |x::l=>by simp[Rows.uptoBulkAll,Ip l]
theorem ars:r' (H:=H) Rows.uptoBulk where
 one:=Tm
 sl:=λl r=>by rw[<-Ip,Rows.uptoBulk];omega
 agg:=λl=>by rw[<-Ip,Rows.uptoBulk];omega
variable{av:U (DataW H)}
theorem al2{a:U (DataW H)}(h:Rows.uptoSmall H (av++a)=ae):(av.map Rows.uptoBulk).sum<=1048576:=by have h:Rows.uptoBulkAll (av++a)<=1048576:=of_decide_eq_true h;rw[Ip,List.map_append,List.sum_append]at h;omega
theorem aks(h:Rows.uptoSmall H av=ae){d:DataW H}(ao:av[i]? = J d):Rows.uptoBulk d<=1048576:=by have h:Rows.uptoBulkAll av<=1048576:=of_decide_eq_true h;have:=EZ (List.mem_of_getElem? ao);omega
end Go.Proofs.YtcoaaebppfbbnaaGreatDoor
namespace Go.dS
open Go.RowKit Go.ChangeShapes Go.WideShapes
section
variable {H:Type}{pD:bD×aA->H}{P:cx}{w:aK}{base:Nat}{sp:Nat->Bool}{held:Bool}
theorem ahh{t k e:bD}{fuel:Nat}{cs:U aA}{bE:U MemPlace}(cg:P.underlying t=J (.map k e))(aV:P.underlying k=J (.int .i64))(he:P.underlying e=J .string){l:U (Int×ar)}(bB:∀p,p∈l->lH l p.1=p.2)(bW:∀n,(∀p,p∈l->p.1≠n)->lH l n=[])(h:DataW.trod pD P w base sp held fuel t cs=J (.map (l.map λp=>(.int .i64 p.1,.lit (.string p.2))),bE)):∃b es aJ,cs=[.map (J b)]/\w.heap[b]? = J (.map es aJ)/\F9 l es.toList:=by
 rcases open_anymap cg h with ⟨_,aW⟩|⟨b,es,g,_,rfl,aj,_,_,_⟩
 .cases aW
 cases fuel with
 |zero=>simp[DataW.trod]at h
 |succ n=>
  simp only[DataW.trod,cg,aj]at h
  .split at h
   .obtain⟨a,hm,r⟩:=Option.bind_eq_some_iff.1 h;split at r
    .simp[ iH]at r;obtain⟨r,_⟩:=r;have c:=sorted_perm (a.map (·.1));rw[r]at c;have aW:∀(x:MapEntry) (y:(Lit×DataW H)×U MemPlace),((keyOf P k x.key).bind λkey=>if x.val.formed P e=ae then(DataW.trod pD P w base sp held n e x.val.cells.toList).map λy=>((key,y.1),y.2)else ah)=J y->∃(m:Int) (s:ByteArray),x.key = .int .i64 m/\x.val = .string s/\s.size<=c5/\y.1=(.int .i64 m,.lit (.string s.data.toList)):=by
      intro x y d;obtain⟨key,o,d⟩:=Option.bind_eq_some_iff.1 d;split at d
      .rename_i u;obtain⟨z,dB,rfl⟩:=Option.map_eq_some_iff.1 d;obtain⟨s,q,rfl,b9⟩:=DataW.trod_string he dB;have aE:x.val = .string s:=by
        cases aZ:x.val<;>rw[aZ]at q u<;>simp[aA.cells]at q
        .rw[q]
        .simp[aA.formed,he]at u
       have ch:∃m,x.key = .int .i64 m/\key = .int .i64 m:=by
        simp[keyOf]at o;cases bk:x.key<;>rw[bk]at o<;>simp[mapKey,aV]at o
        grind
       grind
      .cases d
     have v:∀x,x∈es.toList->∃(m:Int) (s:ByteArray),x.key = .int .i64 m/\x.val = .string s/\s.size<=c5/\(m,s.data.toList)∈l:=λx f=>by
      obtain⟨i,hi,rfl⟩:=List.getElem_of_mem f;obtain⟨y,d,bO⟩:=Lib.mapM_at hm i _ (ho hi);obtain⟨m,s,h1,h2,h3,h4⟩:=aW _ y bO;refine⟨m,s,h1,h2,h3,?_⟩;have:y.1∈a.map (·.1):=List.mem_map.2 ⟨y,List.mem_of_getElem? d,rfl⟩
      grind
     have bL:∀p,p∈l->∃x,x∈es.toList/\x.key = .int .i64 p.1:=λp bn=>by
      have h1:(Lit.int .i64 p.1,DataW.lit (H:=H) (.string p.2))∈a.map (·.1):=c.subset (List.mem_map.2 ⟨p,bn,rfl⟩);obtain⟨y,d,e⟩:=List.mem_map.1 h1;obtain⟨x,f,bO⟩:=mapM_mem hm y d
      grind
     refine⟨b,es,g,rfl,aj,λn=>?_⟩;have bz:MapKept.IsKey (.int .i64) (.int .i64 n):=by simp[MapKept.IsKey]
     rcases MapKept.findNow_spec bz es.toList 0 (λx f=>by obtain⟨m,s,h1,_⟩:=v x f;rw[h1];simp[MapKept.IsKey])with ⟨h1,h2⟩|⟨j,x,h1,h2,h3⟩
     .grind
     .obtain⟨m,s,gJ,fm,ko,lK⟩:=v x (List.mem_of_getElem? h2);have ac:m=n:=jk
      subst ac;have cP:=bB _ lK
      simp_all
    .cases r
   .cases h
end
theorem ahq{H:Type}{pD:bD×aA->H}{P:cx}{w:aK}{base:Nat}{sp:Nat->Bool}{held:Bool}:∀{b:U bD}{vs:U aA}{av:U (DataW H)}{bE:U MemPlace},DataW.TrodAll pD P w base sp held b vs av bE->I av=I b:=by intro b;induction b with|nil=>intro vs av bE h;cases vs<;>cases av<;>simp[DataW.TrodAll]at h ⊢|cons t b c=>intro vs av bE h;obtain⟨v,e,d,f,p,q,rfl,rfl,rfl,ao,a⟩:=trodAll_cons h;simp[c a]
end Go.dS
namespace Go.Proofs.YtcoaaebppfbbnaaGreatDoor
open Go.dS Go.ChangeShapes Go.WideShapes Go.ChangeAt Go.RowKit Go.ChangeMaps
theorem own:ownKnob Tryz.prog.godebug=none:=b0
def Q7:U Nat:=[3,4,9,5,56,109,54,161,112,28,24,22,23,110,43,107,106,59,25,27,30]
theorem alY:I0 gP (nV q2) Q7=true:=b0
theorem avt:I2 Tryz.prog gP (nV q2) Q7=true:=b0
theorem akX:laidOutB Tryz.prog=true:=b0
def xi(x:cM)(g:Nat):h_->Prop|.arr c xs=>∀i y,xs[i]? = J y->∀w',bF x.S x.w w'->lq w' c y g (i*aL c)|.map l=>∃r es a,(∀w',bF x.S x.w w'->w'.cell? ⟨g,0,ah⟩=J (.map (J r))/\w'.heap[r]? = J (.map es a))/\F9 l es.toList|.num k=>∃n,∀w',bF x.S x.w w'->w'.cell? ⟨g,0,ah⟩=J (.int k n)
theorem ke{α:Type}:∀{L:U (Nat×α)}{g:Nat}{v : α},tbl L g=J v->(g,v)∈L
 |[],_,_,h=>by simp[tbl]at h
 |(k,u)::L,g,v,h=>by
  simp[tbl]at h;split at h
  .simp_all
  .exact nE _ (ke h)
theorem akm{x:cM}{L:U (Nat×h_)}(h:∀p,p∈L->xi x p.1 p.2):n5 x (tbl L):=⟨λ_ _ _ a=>h _ (ke a),λ_ _ a=>h _ (ke a),λ_ _ a=>h _ (ke a)⟩
theorem Nr{P:cx}{w:aK}:∀{l:U (String×DataW Unit)}{bE:U MemPlace},DataW.LaidVars P w l bE->∀x,x∈l->∃g t cs fuel p,P.globalNamed x.1=J g/\(P.globals[g]?).map (·.type)=J t/\w.var? P x.1=J cs/\DataW.trod (λ_=>()) P w 0 (λ_=>ae) ai fuel t cs.toList=J (x.2,p)
 |[],_,_,x,a=>by cases a
 |(n,d)::r,bE,h,x,a=>by
  obtain⟨g,t,cs,fuel,p,q,h1,h2,h3,h4,h5,_⟩:=h;rcases ek.1 a with rfl|a
  .grind
  .exact Nr h5 x a
variable{H:Type}{base:Nat}{zs:U Int}
theorem ahZ{enc:bD×aA->H}{P:cx}{w:aK}{sp:Nat->Bool}{held:Bool}{fuel:Nat}{t e:bD}{n:Nat}{cs:U aA}{a:b'}{p:U MemPlace}
  (f:P.underlying t=J (.array n e)) (g:P.underlying e=J (.int a)) (c:P.cellsOf e=1)
  (h:DataW.trod enc P w base sp held fuel t cs=J (.agg (zs.map λz=>.lit (.int a z)),p)):∀(i:Nat) (z:Int),zs[i]? = J z->cs[i]? = J (.int a z):=by
 cases fuel with
 |zero=>simp[DataW.trod]at h
 |succ fuel=>
  simp only[DataW.trod,f,c]at h;split at h
  .rename_i o;obtain⟨xs,hm,q⟩:=Option.map_eq_some_iff.1 h;have d:xs.map (·.1)=zs.map λz=>(DataW.lit (.int a z):DataW H):=jk
   have j:I xs=n:=by simpa using Lib.mapM_length hm
   have k:I zs=n:=by have:=congrArg List.length d;simp at this;omega
   intro i z r;have hi:i<n:=jk
   obtain⟨b,aj,l⟩:=Lib.mapM_at hm i i (by simp[hi]);obtain⟨m,an,h3,_⟩:=DataW.trod_int g l;have h1:cs[i]? = J (.int a m):=by
    have:=congrArg (·[0]?) an
    grind
   have h2:(xs.map (·.1))[i]? = J b.1:=by simp[aj]
   simp_all
  .cases h
variable{W:aK}
theorem abF{l:U (String×DataW Unit)}(h:laidMet Tryz.prog l W){c':String}{g t e:Nat}{n:Nat}(a:(c',DataW.agg (zs.map λz=>.lit (.int .u32 z)))∈l)(k:Tryz.prog.globalNamed c'=J g)(b:(Tryz.prog.globals[g]?).map (·.type)=J t)
  (m:Tryz.prog.underlying t=J (.array n e)) (o:Tryz.prog.underlying e=J (.int .u32)) (c:Tryz.prog.cellsOf e=1) (q:(zs.all λz=>gv .u32 z)=ae):xi (v0 gP er W) g (.arr .u32 zs):=by
 obtain⟨bE,r,_⟩:=h;obtain⟨w,t',cs,fuel,p,h1,h2,h3,h4⟩:=Nr r _ a;obtain rfl:=Option.some.inj (k.symm.trans h1);obtain rfl:=Option.some.inj (b.symm.trans h2);intro i y f w' s j d ao;have u:j=0/\d = .int .u32 y:=by cases j with|zero=>simpa[enc]using ao.symm|succ j=>simp[enc]at ao
 obtain⟨rfl,rfl⟩:=u;have h5:=aK.var?_cell h1 h3 i;rw[<-Array.getElem?_toList,(ahZ m o c h4) i y f]at h5;have v:i*aL .u32+0=i:=by simp[aL]
 exact⟨_,by rw[v];exact s.cell _ _ _ h5 (λh=>h),.int .u32 y (cX.1 q y (List.mem_of_getElem? f))⟩
theorem akF:∀p,p∈oG->lH oG p.1=p.2:=dU
theorem akf(l:U (Int×ar)):∀n,(∀p,p∈l->p.1≠n)->lH l n=[]:=by
 induction l with
 |nil=>intro n _;rfl
 |cons p l a=>
  intro n h;obtain⟨k,s⟩:=p;have h1:k≠n:=h (k,s) (by simp);simp[lH,bl h1]
  grind
theorem ao0{l:U (String×DataW Unit)}(h:laidMet Tryz.prog l W)(d:("exchequer/ast.signs",Rows.laid_exchequer_ast_signs)∈l):xi (v0 gP er W) 2 (.map oG):=by
 obtain⟨bE,n,_⟩:=h;obtain⟨o,t',cs,fuel,p,a,f,c,ao⟩:=Nr n _ d;obtain rfl:=Option.some.inj ((show Tryz.prog.globalNamed "exchequer/ast.signs" = J 2 by kernel_rfl).symm.trans a);obtain rfl:=Option.some.inj ((show(Tryz.prog.globals[2]?).map (·.type)=J 292 by kernel_rfl).symm.trans f);obtain⟨b,es,g,h1,h2,h3⟩:=ahh (l:=oG) (t:=292) (k:=3) (e:=9) b0 b0 b0 akF (akf oG) ao;have an:=aK.var?_cell a c 0;have i:cs = #[.map (J b)]:=jk
 rw[i]at an;have j:b<W.heap.size:=(gG.1 h2).1;exact⟨b,es,g,λw' m=>⟨m.cell _ 0 _ an (λh=>h),by rw[m.block b j (λ_ h=>h)];exact h2⟩,h3⟩
theorem akM(h:W.ShapedOpen Tryz.prog):xi (v0 gP er W) 0 (.num .i64):=by obtain⟨m,hm⟩:=Go.Proofs.cell_of_shapedOpen_int (zero:= #[.int .i64 0]) (t:=3) (g:=0) h (of_decide_eq_true b0) b0 rfl b0 b0 Tryz.underlying3;exact⟨m,λw' a=>a.cell _ 0 _ hm (λh=>h)⟩
def Z5(l:U (String×DataW Unit)):Prop:=(l.all λx=>x.2.handleName?.isNone)=ae
 /\ ("exchequer/ast.signs",Rows.laid_exchequer_ast_signs)∈l
 /\ ("exchequer/digest.begin",Rows.laid_exchequer_digest_begin)∈l
 /\ ("exchequer/digest.roots",Rows.laid_exchequer_digest_roots)∈l
 /\ True
theorem akd{l:U (String×DataW Unit)}(a:Z5 l)(c:laidMetH Tryz.prog l W)(i:W.ShapedOpen Tryz.prog):n5 (v0 gP er W) mw:=by
 have b:laidMet Tryz.prog l W:=by
  have k:(l.filter λx=>x.2.handleName?.isSome)=[]:=List.filter_eq_nil_iff.2 λx m=>by have:=cX.1 a.1 x m;rw[Option.isNone_iff_eq_none]at this;simp[this]
  unfold laidMetH at c;rw[k]at c;exact c
 replace a:=a.2;clear c;have _:=i;refine akm λp d=>?_;have f:=ao0 b a.1;replace a:=a.2;have g:xi (v0 gP er W) 1 (.arr .u32 ZN):=abF (n:=8) (t:=276) (e:=275) b a.1 b0 b0 b0 b0 b0 b0;replace a:=a.2;have h:xi (v0 gP er W) 3 (.arr .u32 CS):=abF (n:=64) (t:=307) (e:=275) b a.1 b0 b0 b0 b0 b0 b0;replace a:=a.2;have j:=akM i;simp only[ek,List.not_mem_nil,or_false]at d
 repeat' (first|(rcases d with rfl|d)|subst d)
 all_goals assumption
def av4:DataW Unit->aA|.lit (.int k n)=>.int k n|.lit (.string s)=>.string ⟨s.toArray⟩|_=>.int .u8 0
def p7:DataW Unit->U aA|.agg l=>l.map av4|_=>[]
def ame:DataW Unit->U aA|.agg l=>l.flatMap p7|_=>[]
def Ai(vs:U aA):Obj->Obj|.cells _ t a=>.cells vs.toArray t a|o=>o
noncomputable def auh(h:Array Obj):Array Obj:=
 let h:=h.modify 1 (Ai (p7 Rows.laid_exchequer_digest_begin));let h:=h.modify 3 (Ai (p7 Rows.laid_exchequer_digest_roots));let h:=(h.modify 4 (Ai (p7 Rows.laid_unicode_utf8_first))).modify 5 (Ai (ame Rows.laid_unicode_utf8_acceptRanges));let h:=(h.modify 2 (Ai [.map (J h.size)])).push (.map ((oG.zip (dy 11)).map λp=>(⟨.int .i64 p.1.1,.string ⟨p.1.2.toArray⟩,p.2⟩:MapEntry)).toArray 11)
 h
noncomputable def Lz(os:Os):World:={ aK.holding Tryz.prog os ⟨#[], #[],[]⟩with heap:=auh (aK.holding Tryz.prog os ⟨#[], #[],[]⟩).heap }
set_option maxRecDepth 100000 in
theorem anQ{R:Nat×Nat}{M:bD->DataW H->Prop}(e4:Be Tryz.prog R M){enc:bD×aA->H}{f:FuncId}{fn:Func}{sa:U ck}{F:bb sa [.bool]}{s:ChangeSpec}(n:eH Tryz.prog gP mw f sa [.bool] F){Z:au sa->Prop}(eu:∀x,oS sa x->P' R sa x->Z x->F x=J ae)
  (ay:fn.resultTypes = #[4]) (aE:s.vars=[]) (bO:∀av,I av=I fn.params.toList->(s.fn H av).results=[.lit (.bool ae)]/\(s.fn H av).args=av/\(s.fn H av).vars=[])
  (o:wv (nV q2) Q7 fn.params.toList sa=ae) (g:(fn.params.toList.all λt=>Tryz.prog.readableRec t&&ec t Tryz.prog.types.size)=ae)
  {args:Array aA}{av gs:U (DataW H)}{b:U MemPlace}(k:∀(j:Nat) t v,fn.params[j]? = J t->args[j]? = J v->aA.okWide Tryz.prog W .any base t v)
  (r:DataW.Whole enc Tryz.prog fn.params.toList s.vars ai W args.toList av gs b) (u:n5 (v0 gP er W) mw) (w:I av=I fn.params.toList->∀(i:Nat) (t:bD) (d:DataW H),fn.params.toList[i]? = J t->av[i]? = J d->M t d) (axK:∀x,(∀m,r' m->I3 sa x<=(av.map m).sum)->Z x) :
  Calls Tryz.prog f args W λe uT=>∃v,e = .returned v/\s.post enc Tryz.prog fn ai ae ai ai W args v uT:=by
 have y:=r;have z:=r.lt;obtain⟨p,q,jK,afr,rfl,bk,bz⟩:=r;rw[aE]at afr;obtain⟨rfl,rfl⟩:=trodVars_none afr;have c:=ahq jK;obtain⟨x,l,aJ,aZ⟩:=Tc e4 (λt=>ta sU t) alY avt 0 o (λj t v h1 h2=>k j t v nk Gw) jK;have a:=n.calls (eu x (zV l) (aJ (w c)) (axK x aZ)) u l;have cF:args.toList.toArray=args:=by simp
 rw[cF]at a;refine a.mono λdv uT=>?_;rintro⟨rfl,aj⟩;refine⟨_,rfl,?_⟩;obtain⟨h1,h2,h3⟩:=bO av c;have aS:av++([]:U (DataW H))=av:=by simp
 refine⟨av,[],_,[],p,[],y,?_,?_,?_,aj.frame _,λh=>by cases h⟩
 .rw[aS,h1,ay];exact trodAll_cons_mk (shut_bool Tryz.underlying4 _) trodAll_mk0
 .rw[aS,h2];refine W2 akX aj (λt cg=>?_) (λx l=>z x (by simp[l])) jK;have:=cX.1 g t cg;simp at this;exact⟨this.1,by simpa using this.2⟩
 .rw[aS,h3,aE];exact rfl
end Go.Proofs.YtcoaaebppfbbnaaGreatDoor
