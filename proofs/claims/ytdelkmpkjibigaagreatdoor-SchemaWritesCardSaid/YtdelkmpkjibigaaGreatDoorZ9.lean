/- Texts of the proof,one behind the other: AxFr,Mu,Tl,Tq,Rq,Rr,Rs,Vp,Gi,Sg,Opa,Ve,Ye,Vi,Vb,Vk,Vq,Vl,Vo,Sh,Vr,Vx. -/
import Derived.Test.YtdelkmpkjibigaaGreatDoorZ8
import Derived.ChangeArms
import Derived.WideShapes
import Derived.Carry
import Derived.ChangeShapes
import Derived.Lib.LaidTab
import Derived.SizedLaws
set_option linter.all false
open List renaming length->I,mem_append->lx,mem_of_getElem?->lW,append_nil->kq,getElem_mem->hf,getElem?_drop->kr,mem_cons->hv,length_take->jL
open Option renaming some->J,none->aj
open Bool renaming true->ab,false->ai,true_and->jo,cond_decide->mq
open Decidable renaming decide->aa
open Nat renaming beq->cp,ble->eF,le_trans->fV,zero_le->cL
open Go.World renaming cell?->h7
open Go.Value renaming cells->lY
open Go renaming Value->aD,IntKind->df,World->aT,TypeId->bD,maxLen->dr,Program->cP,DataW->dj
open Option.some renaming inj->ks
open Int renaming tdiv->f'
namespace Go
theorem aj8{p:Prop}(h:p:=by have:dr=9223372036854775807:=rfl;simp only[List.length_map];omega):p:=h
theorem EQ{p:Prop}(h:p:=by simp only[dc];omega):p:=h
theorem AJ{p:Prop}(h:p:=by simp[jv]):p:=h
end Go
namespace Go
theorem AC{p:Prop}(h:p:=by exact⟨_,rfl,.inl rfl⟩):p:=h
theorem NW{p:Prop}(h:p:=by obtain⟨k,a7,on,ay,names,l,rows,bT,has,cX,order,desc,bH⟩:=s;simp only at a;subst a;exact hL.2 ⟨λh=>by simp_all [hW,h1],λh=>by simp_all [hW,h1]⟩):p:=h
theorem NY{p:Prop}(h:p:=by obtain⟨k,a7,on,ay,names,l,rows,bT,has,cX,order,desc,bH⟩:=s;simp only at a b;subst a b;rw[<-Bool.decide_and];exact hL.2 ⟨λh=>by simp_all [hW,h1],λh=>by simp_all [hW,h1]⟩):p:=h
theorem RM{p:Prop}(h:p:=by obtain⟨k,a7,on,ay,names,l,rows,bT,has,cX,order,desc,bH⟩:=s;simp only at a b;subst a b;exact hL.2 ⟨λh=>by simp_all [hW,h1],λh=>by simp_all [hW,h1]⟩):p:=h
theorem ai5{p:Prop}(h:p:=by rw[aH jf,bd,aH jf,bd,c9 a iC,d _ hF,da a,hk,hp];rfl):p:=h
end Go
namespace Go.ft
open Go.RowKit Go.ChangeShapes
def nv:D->D->Bool|.int k _,.int fg _=>aa (k=fg)|.bool _,.bool _=>ab|.str _,.str _=>ab|.sl c _ _,.sl dT _ _=>aa (c=dT)|_,_=>ai
def jx:U D->U D->Bool|[],[]=>ab|a::l,b::m=>nv a b&&jx l m|_,_=>ai
variable{a:D}
theorem aAA{b c:D}(h:nv a b=ab)(k:nv a c=ab):nv b c=true:=by cases a<;>cases b<;>simp[nv]at h<;>cases c<;>simp[nv]at k<;>subst_vars<;>simp[nv]
theorem af6:∀{a b c:U D},jx a b=ab->jx a c=ab->jx b c=ab
 |[],[],[],_,_=>rfl
 |x::a,y::b,z::c,h,k=>by simp only[jx,bN]at h k ⊢;exact⟨aAA h.1 k.1,af6 h.2 k.2⟩
 |[],_::_,_,h,_=>by simp[jx]at h
 |_::_,[],_,h,_=>by simp[jx]at h
 |[],[],_::_,_,k=>by simp[jx]at k
 |_::_,_::_,[],_,k=>by simp[jx]at k
theorem ZG:∀{a b c d:U D},jx a b=ab->jx c d=ab->jx (a++c) (b++d)=ab
 |[],[],_,_,_,k=>k
 |_::a,_::b,_,_,h,k=>by simp only[jx,bN,se]at h ⊢;exact⟨h.1,ZG h.2 k⟩
 |[],_::_,_,_,h,_=>by simp[jx]at h
 |_::_,[],_,_,h,_=>by simp[jx]at h
theorem agr{k:df}{n:Int}{d:D}(h:nv (.int k n) d=ab):∃m,d = .int k m:=by
 cases d<;>simp[nv]at h
 subst h;exact⟨_,rfl⟩
theorem apq{b:Bool}{d:D}(h:nv (.bool b) d=ab):∃m,d = .bool m:=by
 cases d<;>simp[nv]at h
 exact⟨_,rfl⟩
theorem aiu{s:ak}{d:D}(h:nv (.str s) d=ab):∃m,d = .str m:=by
 cases d<;>simp[nv]at h
 exact⟨_,rfl⟩
variable{c:cl}
theorem ac4{xs:U (dy c)}{t:l'}{d:D}(h:nv (.sl c xs t) d=ab):∃ys u,d = .sl c ys u:=by
 cases d<;>simp[nv]at h
 subst h;exact⟨_,_,rfl⟩
variable{az:U D}
theorem Hz{l:U D}(h:jx (a::l) az=ab):∃b m,az=b::m/\nv a b=ab/\jx l m=true:=by cases az with|nil=>simp[jx]at h|cons b m=>simp only[jx,bN]at h;exact⟨b,m,rfl,h.1,h.2⟩
theorem H_(h:jx [] az=ab):az=[]:=by cases az with|nil=>rfl|cons b m=>simp[jx]at h
theorem W'{z:U D}(h:(dec c z).isSome=ab)(d:jx z az=ab):∃y,dec c az=J y:=by
 obtain⟨g,h⟩:=Option.isSome_iff_exists.1 h;unfold dec at h;split at h;all_goals first
  |(cases h;done)
  |skip
 all_goals
  clear h
  repeat (
   obtain⟨b,m,e,f,a⟩:=Hz d;clear d;have d:=a;clear a;subst e
   first
    |(obtain⟨_,e⟩:=agr f;subst e)
    |(obtain⟨_,e⟩:=apq f;subst e)
    |(obtain⟨_,e⟩:=aiu f;subst e)
    |(obtain⟨_,_,e⟩:=ac4 f;subst e))
  have e:=H_ d;subst e;exact⟨_,rfl⟩
def gX:Nat:=140737488351232
def uy(R:Nat×Nat)(v:dA):Prop:=I v.s<=R.1
inductive ng (R:Nat×Nat):aq->Prop
 |mk (k:Int) (v:dA) (a7:ak) (l:List aq):uy R v->I a7<=R.1->I l<=R.2->(∀e,e∈l->ng R e)->ng R (.mk k v a7 l)
structure Lj (R:Nat×Nat) (s:aP):Prop where
 name:I s.name<=R.1
 on:I s.on<=R.1
 ay:I s.ay<=R.2/\∀c,c∈s.ay->I c.name<=R.1/\I c.ref<=R.1
 names:I s.names<=R.2/\∀x,x∈s.names->I x<=R.1
 l:I s.l<=R.2/\∀x,x∈s.l->ng R x
 rows:I s.rows<=R.2/\∀r,r∈s.rows->I r<=R.2/\∀x,x∈r->ng R x
 bT:I s.bT<=R.2/\∀x,x∈s.bT->I x.name<=R.1/\ng R x.e
 cX:ng R s.cX
 order:I s.order<=R.2/\∀x,x∈s.order->I x<=R.1
 desc:I s.desc<=R.2
def Rz(R:Nat×Nat)(x:c'):Prop:=I x.name<=R.1/\I x.ay<=R.2/\∀s,s∈x.ay->I s<=R.1
structure Tq (R:Nat×Nat) (t:b5):Prop where
 name:I t.name<=R.1
 ay:I t.ay<=R.2/\∀c,c∈t.ay->I c.name<=R.1/\I c.ref<=R.1
 key:I t.key<=R.2/\∀x,x∈t.key->I x<=R.1
 ie:I t.ie<=R.2/\∀x,x∈t.ie->ng R x
 idx:I t.idx<=R.2/\∀x,x∈t.idx->Rz R x
def Bz(R:Nat×Nat):(c:cl)->dy c->Prop|.str,s=>I s<=R.1|.val,v=>uy R v|.tok,t=>I t.s<=R.1|.b2,c=>I c.name<=R.1/\I c.ref<=R.1|.expr,e=>ng R e|.v8,l=>I l<=R.2/\∀x,x∈l->uy R x|.exprs,l=>I l<=R.2/\∀x,x∈l->ng R x|.strs,l=>I l<=R.2/\∀x,x∈l->I x<=R.1|.set,s=>I s.name<=R.1/\ng R s.e|.stmt,s=>Lj R s|.idx,x=>Rz R x|.eT,t=>Tq R t|_,_=>True
def E2(R:Nat×Nat):D->Prop|.str l=>I l<=R.1|.sl c xs _=>I xs<=R.2/\∀x,x∈xs->Bz R c x|_=>True
def Tp(R:Nat×Nat):(s:cA)->den s->Prop|.str,s=>I s<=R.1|.sl c _,xs=>I xs<=R.2/\∀x,x∈xs->Bz R c x|.bm c,x=>Bz R c x|_,_=>True
def To(R:Nat×Nat):(l:U cA)->aw l->Prop|[],_=>True|[a],x=>Tp R a x|a::b::l,(x,y)=>Tp R a x/\To R (b::l) y
variable{R:Nat×Nat}
theorem acd{y:dy c}(h:dec c az=J y)(ar:∀d,d∈az->E2 R d):Bz R c y:=by
 unfold dec at h;split at h<;>simp only[dN,reduceCtorEq]at h<;>subst h<;>simp only[hv,List.not_mem_nil,or_false,forall_eq_or_imp,forall_eq,E2]at ar<;>simp only[Bz,uy]<;>first
  |trivial
  |exact ar
  |exact ar.2.2
  |exact ar.2.2.1
  |exact⟨ar.1,ar.2.2.2.2⟩
  |exact .mk _ _ _ _ ar.2.2.2.1 ar.2.2.2.2.1 ar.2.2.2.2.2.1 ar.2.2.2.2.2.2
  |exact⟨ar.1,.mk _ _ _ _ ar.2.2.2.2.1 ar.2.2.2.2.2.1 ar.2.2.2.2.2.2.1 ar.2.2.2.2.2.2.2⟩
  |exact⟨ar.1,ar.2.1,ar.2.2.1,ar.2.2.2.1,ar.2.2.2.2⟩
  |(obtain⟨_,a,b,e,f,g,i,j,_,_,_,_,w1,k,cv,l,m,_⟩:=ar
    exact⟨a,b,e,f,g,i,j,.mk _ _ _ _ w1 k cv.1 cv.2,l,m.1⟩)
theorem Yn{H:Type}{P:cP}{e:bD}:∀{l:U (dj H)}{d:dj H},d∈l->∀n∈d.weights P e,n∈dj.weightsAll P e l
 |[],_,h,_,_=>by cases h
 |x::l,d,h,n,ck=>by
  simp only[dj.weightsAll,lx];rcases hv.1 h with rfl|h
  .exact .inl ck
  .exact .inr (Yn h n ck)
structure Ex {H:Type}(P:cP) (R:Nat×Nat) (M:bD->dj H->Prop):Prop where
 str:∀(t:bD) (s:List UInt8),M t (.lit (.string s))->I s<=R.1
 sl:∀(t e:bD) (l r:List (dj H)),P.underlying t=J (.slice e)->1<=P.bytesOf e->M t (.slice l r)->I l<=9223372036854775807->I l<=R.2/\∀d,d∈l->M e d
 agg:∀(t:bD) (fds:Array Field) (l:List (dj H)) (i:Nat) (fd:Field) (d:dj H),P.underlying t=J (.struct fds)->M t (.agg l)->fds[i]? = J fd->l[i]? = J d->M fd.type d
theorem arq{H:Type}(P:cP):Ex (H:=H) P (gX,gX) λt d=>∀n,n∈d.weights P t->n<=gX where
 str:=λt s h=>h _ (by simp[dj.weights])
 sl:=λt e l r a c h _=>⟨by
  have g:=h ((I l+I r)*P.bytesOf e) (by simp only[dj.weights,a,hv,true_or]);have k:(I l+I r)*1<=(I l+I r)*P.bytesOf e:=Nat.mul_le_mul_left _ c;omega,λd ar n b=>h n (by
  simp only[dj.weights,a,hv,lx];exact .inr (.inl (Yn ar n b)))⟩
 agg:=λt fds l i fd d a h f ar n b=>h n (by simp only[dj.weights,a];exact dj.weights_mem_each (j:=i) (t:=fd.type) (d:=d) (by simp[f]) ar n b)
def nC(t:ej):U D:=match t.zero with|some z=>cells z|none=>[]
def Dn(a1:Nat->ej)(rd:U Nat):Nat->U (Nat×Nat)->U D->Bool|_,[],z=>z.isEmpty|o,(dq,u)::aB,z=>cp dq o&&rd.contains u&&eF (I (nC (a1 u))) (I z)&&jx (nC (a1 u)) (z.take (I (nC (a1 u))))&&Dn a1 rd (o+I (nC (a1 u))) aB (z.drop (I (nC (a1 u))))
def Rw(el:cl->bD)(a1:Nat->ej)(rd:U Nat)(t:Nat):Bool:=match a1 t with|.int _|.bool|.str=>ab|.sl c=>rd.contains (el c)&&(dec c (nC (a1 (el c)))).isSome|.st _ aB z=>Dn a1 rd 0 aB z|_=>ai
def Mg(el:cl->bD)(a1:Nat->ej)(rd:U Nat):Bool:=rd.all λt=>Rw el a1 rd t&&cp (I (nC (a1 t))) (a1 t).n
def Mo(P:cP)(el:cl->bD)(a1:Nat->ej)(rd:U Nat):Bool:=rd.all λt=>match a1 t with|.sl c=>eF 1 (P.bytesOf (el c))|_=>ab
theorem _s{α:Type}{p:Nat->α->Prop}:∀(n:Nat),(∀i,i<n->∃y,p i y)->∃ys:U α,I ys=n/\∀i y,ys[i]? = J y->p i y
 |0,_=>⟨[],rfl,by simp⟩
 |n+1,h=>by
  obtain⟨ys,b,d⟩:=_s n (λi c=>h i af);obtain⟨y,aE⟩:=h n af;refine⟨ys++[y],by simp[b],λi z a=>?_⟩;rcases Nat.lt_trichotomy i n with c|rfl|c
  .rw[List.getElem?_append_left af]at a;exact d i z a
  .rw[List.getElem?_append_right af,b]at a;simp at a;subst a;exact aE
  .rw[List.getElem?_eq_none d']at a;cases a
section
variable {H:Type}{sj:bD×aD->H}{P:cP}{el:cl->bD}{a1:Nat->ej}{rd:U Nat}{w:aT}{sp:Nat->Bool}{held:Bool}
variable{t:bD}
theorem Oz{n:Nat}(h:av.gA P t=J n):P.cellsOf t=n:=by unfold av.gA at h;simp[cP.cellsOf,h]
theorem aaG{a:Addr}{n:Nat}{vs:U aD}(h:w.cells? 0 a n=J vs):I vs=n/\∀j u,vs[j]? = J u->w.cell? (a.add j)=J u:=by
 unfold aT.cells? at h;simp only[cL,if_true]at h;refine⟨by simpa using Lib.mapM_length h,λj u d=>?_⟩;have b:j<n:=by have:=Lib.mapM_length h;have f:=(lN.1 d).1;simp at this;omega
 obtain⟨g,c,e⟩:=Lib.mapM_at h j j (by simp[b]);rw[d]at c;simp only[dN]at c;subst c;exact e
theorem arW{a:Addr}{u:aD}(h:w.cell? a=J u):a.spot=none:=by
 unfold h7 at h;split at h
 .split at h
  .cases h
  .rename_i b;cases c:a.spot with|none=>rfl|some q=>rw[c]at b;simp at b
 .cases h
theorem NU{R:Nat×Nat}{M:bD->dj H->Prop}(gL:Ex P R M)(eZ:∀t,fO P el a1 t=ab)(a4:Mg el a1 rd=ab)(bG:Mo P el a1 rd=ab):∀(fuel:Nat) (t:bD) (cs:U aD) (x:dj H×U MemPlace),rd.contains t=ab->dj.trod sj P w 0 sp held fuel t cs=J x->∃az,jx (nC (a1 t)) az=ab/\bl (v0 el fE w) az cs/\(M t x.1->∀d,d∈az->E2 R d)
 |0,t,cs,x,_,h=>by simp[dj.trod]at h
 |fuel+1,t,cs,x,ao,h=>by
  have g:=dH.1 a4 t Eh;simp only[bN]at g;obtain⟨g,cM⟩:=g;have cM:=dS cM;have bB:=dH.1 bG t Eh;unfold Rw at g;split at g
  .rename_i k f;have v:=av.Gj (Rj (eZ t) f);obtain⟨n,rfl,_,hw⟩:=dj.trod_int v h;refine⟨[.int k n],by(rw[f];show(aa (k=k)&&ab)=ab;simp),?_,λ_ d ar=>by simp only[List.mem_singleton]at ar;subst ar;trivial⟩;simp only[bl,aG];exact⟨_,_,rfl,⟨rfl,hw⟩,rfl⟩
  .rename_i f;have v:=av.Gi (PE (eZ t) f);obtain⟨b,rfl,_⟩:=dj.trod_bool v h;refine⟨[.bool b],by rw[f];rfl,?_,λ_ d ar=>by simp only[List.mem_singleton]at ar;subst ar;trivial⟩;simp only[bl,aG];exact⟨_,_,rfl,rfl,rfl⟩
  .rename_i f;have v:=av.sC (tr (eZ t) f);obtain⟨s,rfl,rfl,cw⟩:=dj.trod_string v h;refine⟨[.str s.data.toList],by rw[f];rfl,?_,λm d ar=>by simp only[List.mem_singleton]at ar;subst ar;exact gL.str _ _ m⟩
   simp only[bl,aG];exact⟨_,_,rfl,⟨(by rw[Array.toArray_toList]),(by rw[Array.length_toList];exact cw)⟩,rfl⟩
  .rename_i c f;simp only[bN]at g;obtain⟨ev,cV⟩:=g;have cS : 1<=P.bytesOf (el c):=by rw[f]at bB;exact Nat.le_of_ble_eq_true bB
   obtain⟨by_,kU,_,_⟩:=m0 (eZ t) f;have v:=kU.yA;obtain⟨_,i0,z,e8,dK,a9,_⟩:=kU;have eX:P.cellsOf (el c)=a8 c:=Oz (by simp[av.gA,e8,a9]);rcases dj.trod_slice v h with ⟨rfl,_⟩|⟨a,len,cap,a2,rest,n,cb,rfl,rfl,_,hle,cZ,mO,am,_⟩
   .refine⟨[.sl c [] .no],by(rw[f];show(aa (c=c)&&ab)=ab;simp),?_,λ_ d ar=>by simp only[List.mem_singleton]at ar;subst ar;exact⟨cL _,λx ag=>by cases ag⟩⟩
    simp only[bl,aG];exact⟨_,_,rfl,⟨λ_ _=>.nil _ _ _ _,trivial⟩,rfl⟩
   .have cb:fuel=n:=af
    subst cb;have each:∀i,i<len->∃y:dy c,(∃vs:U aD,w.cells? 0 (a.add (i*a8 c)) (a8 c)=J vs/\pF (v0 el fE w) c y vs)/\(M t (dj.slice (a2.map (·.1)) (rest.map (·.1)))->Bz R c y):=λi bO=>by have aY:=am i bO;have bZ:∃e,a2[i]? = J e:=⟨_,ic af⟩;obtain⟨e,he⟩:=bZ;rw[he]at aY;obtain⟨vs,en,b'⟩:=Option.bind_eq_some_iff.1 aY;rw[eX]at en;obtain⟨az,cw,aF,eY⟩:=NU gL eZ a4 bG fuel (el c) vs e ev b';obtain⟨y,aE⟩:=W' cV cw;exact⟨y,⟨vs,en,Fg aE aF⟩,λm=>acd aE (eY ((gL.sl _ _ _ _ v cS m aj8).2 e.1 (List.mem_map.2 ⟨e,lW he,rfl⟩)))⟩
    obtain⟨ys,dp,bE⟩:=_s len each;have db:=λi y aE=>(bE i y aE).1;refine⟨[.sl c ys .no],by(rw[f];show(aa (c=c)&&ab)=ab;simp),?_,λm d ar=>by
     simp only[List.mem_singleton]at ar;subst ar;refine⟨?_,λy aE=>?_⟩
     .have:=(gL.sl _ _ _ _ v cS m aj8).1;simp only[List.length_map]at this;omega
     .obtain⟨i,bO,rfl⟩:=List.getElem_of_mem aE;exact(bE i _ (ic bO)).2 m⟩
    simp only[bl,aG];refine⟨_,_,rfl,⟨Br dp.symm ?_,trivial⟩,rfl⟩;by_cases dm:ys=[]
    .exact .inl dm
    .right;have dk:a.spot=none:=by have dC : 0<I ys:=List.length_pos_iff.2 dm;obtain⟨vs,en,kU⟩:=db 0 _ (ic dC);obtain⟨aY,aZ⟩:=aaG en;have aW:=I9 c;have:=aZ 0 _ (ic af);simp only[Nat.zero_mul,Addr.add,if_true]at this;exact arW this
     obtain⟨b,o,s⟩:=a;simp only at dk;subst dk;refine⟨b,o,rfl,⟨by omega,cZ⟩,λi y aE w' hw j d ar=>?_⟩;obtain⟨vs,en,kU⟩:=db i y aE;obtain⟨_,aZ⟩:=aaG en;obtain⟨u,eM,cb⟩:=kU.2 j d ar;have a3:=aZ j u eM;rw[av.jE,av.jE]at a3;exact⟨u,hw.cell b _ u a3 (λh=>h),cb w' hw⟩
  .rename_i x1 aB z f;have b7:=pE (eZ t) (by rw[f];simp);have a9:P.cellsOf t=I z:=by have:=Oz b7.2.2;rw[this,f];rfl
   have a5:=eZ t;unfold fO at a5;rw[f]at a5;simp only[bN]at a5;have r:=a5.2;split at r
   .rename_i fds v;simp only[bN]at r;have r:=r.1;obtain⟨xs,n,cb,rfl,gF,nj,hq⟩:=dj.trod_struct v h;have cb:fuel=n:=af
    subst cb;have key:∀(l:U (Nat×Nat)) (i o:Nat) (CK:U D),aB.drop i=l->Dn a1 rd o l CK = ab->o+I CK=I cs->∃az,jx CK az=ab/\bl (v0 el fE w) az (cs.drop o)/\(M t (dj.agg (xs.map (·.1)))->∀d,d∈az->E2 R d):=by
     intro l;induction l with
     |nil=>intro i o CK _ p bS;simp only[Dn,List.isEmpty_iff]at p;subst p;refine⟨[],rfl,?_,λ_ d ar=>by cases ar⟩;rw[gn (by simp at bS;omega)];simp[bl]
     |cons q l jz=>
      intro i o CK ar p bS;obtain⟨dq,u⟩:=q;simp only[Dn,bN]at p;obtain⟨⟨⟨⟨ac,ap⟩,hle⟩,iZ⟩,p⟩:=p;have ac:=dS ac;subst ac;have hle:=Nat.le_of_ble_eq_true hle;have dv:aB[i]? = J (dq,u):=by have:=congrArg (·[0]?) ar;simpa[kr]using this
      obtain⟨fd,g1,g2,g3,_⟩:=O_ r dv;have cq:fds[i]? = J fd:=by simpa using g1
      have aY:=hq i fd cq;rw[g2,g3]at aY;have iK:∃e,xs[i]? = J e:=⟨_,ic (by have:=(hZ.1 cq).1;omega)⟩
      obtain⟨e,he⟩:=iK;rw[he]at aY;have ct:=dH.1 a4 u (by simpa using ap);simp only[bN]at ct;have jF:=dS ct.2;have dI:a1 u ≠ .no:=by intro e;have:=ct.1;unfold Rw at this;rw[e]at this;cases this
      have ek:P.cellsOf u=I (nC (a1 u)):=by rw[Oz (pE (eZ u) dI).2.2,jF]
      rw[ek]at aY;obtain⟨ke,s1,mn,jc⟩:=NU gL eZ a4 bG fuel u _ e ap aY;obtain⟨jY,s2,gY,kW⟩:=jz (i+1) (dq+I (nC (a1 u))) _ (by rw[<-List.drop_drop,ar];rfl) p d';refine⟨ke++jY,?_,?_,λm d ar=>by
       rcases lx.1 ar with ar|ar
       .refine jc ?_ d ar;rw[<-g2];exact gL.agg _ _ _ i fd e.1 v m cq (by rw[List.getElem?_map,he];rfl)
       .exact kW m d ar⟩
      .rw[<-List.take_append_drop (I (nC (a1 u))) CK];exact ZG (af6 iZ s1) s2
      .have:=mn.append gY;rwa[<-List.drop_drop,List.take_append_drop]at this
    obtain⟨az,aY,aZ,bg⟩:=key aB 0 0 z rfl g (by rw[gF,a9];omega);exact⟨az,by simpa[f,nC,ej.zero,cells]using aY,by simpa using aZ,bg⟩
   .cases r
  .cases g
def SY(a1:Nat->ej)(rd:U Nat)(t:Nat)(s:cA):Bool:=rd.contains t&&match a1 t,s with|.int k,.int fg=>aa (k=fg)|.bool,.bool=>ab|.str,.str=>ab|.sl c,.sl dT ai=>aa (c=dT)|.st (J c) _ _,.bm dT=>aa (c=dT)&&fv c&&(dec c (nC (a1 t))).isSome|_,_=>ai
theorem aze{M:bD->dj H->Prop}(gL:Ex P R M)(eZ:∀t,fO P el a1 t=ab)(a4:Mg el a1 rd=ab)(a5:Mo P el a1 rd=ab){s:cA}(l:SY a1 rd t s=ab){r:Reach}{dp:Nat}{v:aD}{d:dj H}{dL:U MemPlace}(f:aD.okWide P w r dp t v)(h:dj.Trod sj P w 0 sp held t v d dL)(i:Nat):∃y:den s,aG (v0 el fE w) (fy i s y) v/\(M t d->Tp R s y):=by
 obtain⟨fuel,h⟩:=h;simp only[SY,bN]at l;obtain⟨ao,l⟩:=l;obtain⟨az,g,j,o⟩:=NU gL eZ a4 a5 fuel t _ _ ao h;have o:M t d->∀d,d∈az->E2 R d:=o;split at l
 .rename_i k fg a;simp only[fQ]at l;subst l;obtain⟨n,rfl⟩:=WideShapes.okWide_int (av.Gj (Rj (eZ t) a)) f;simp only[a,nC,ej.zero,cells]at g;obtain⟨b,m,rfl,x,aZ⟩:=Hz g;obtain rfl:=H_ aZ;obtain⟨mS,rfl⟩:=agr x;simp only[lY,bl]at j;obtain⟨u,us,e,j,_⟩:=j;simp only[mL]at e;obtain⟨rfl,_⟩:=e;exact⟨mS,j,λ_=>trivial⟩
 .rename_i a;obtain⟨n,rfl⟩:=WideShapes.okWide_bool (av.Gi (PE (eZ t) a)) f;exact⟨n,by simp only[fy,aG],λ_=>trivial⟩
 .rename_i a;obtain⟨n,rfl⟩:=WideShapes.okWide_string (av.sC (tr (eZ t) a)) f;simp only[a,nC,ej.zero,cells]at g;obtain⟨b,m,rfl,x,aZ⟩:=Hz g;obtain rfl:=H_ aZ;obtain⟨mS,rfl⟩:=aiu x;simp only[lY,bl]at j;obtain⟨u,us,e,j,_⟩:=j;simp only[mL]at e;obtain⟨rfl,_⟩:=e;exact⟨mS,j,λp=>o p (.str mS) (by simp)⟩
 .rename_i c dT a;simp only[fQ]at l;subst l;obtain⟨by_,kU,_,_⟩:=m0 (eZ t) a;have en:v.cells.toList=[v]:=by have hu:=kU.yA;simp only[aD.okWide,hu,Cell.okWide]at f;cases v<;>first|rfl|(simp[Cell.ok,hu]at f;done)|(exfalso;simp_all [Cell.ok])
  rw[en]at j;simp only[a,nC,ej.zero,cells]at g;obtain⟨b,m,rfl,x,aZ⟩:=Hz g;obtain rfl:=H_ aZ;obtain⟨ys,u,rfl⟩:=ac4 x;simp only[bl]at j;obtain⟨kk,us,e,j,_⟩:=j;simp only[mL]at e;obtain⟨rfl,_⟩:=e;refine⟨ys,?_,λp=>o p (.sl c ys u) (by simp)⟩;simp only[fy,aG]at j ⊢;exact⟨j.1,trivial⟩
 .rename_i c aB z dT a;simp only[bN,fQ]at l;obtain⟨⟨rfl,c5⟩,a2⟩:=l;obtain⟨y,aE⟩:=W' a2 g;have kU:=Fg aE j;have en:∃cs,v = .agg cs:=by
   have q:=eZ t;unfold fO at q;rw[a]at q;simp only[bN]at q;have a3:=q.2;split at a3
   .rename_i fds hu;simp only[aD.okWide,hu]at f;obtain⟨cs,x,_⟩:=f;exact⟨cs,x⟩
   .cases a3
  obtain⟨cs,rfl⟩:=en;refine⟨y,?_,λp=>acd aE (o p)⟩;simp only[fy,aG];exact⟨c5,cs.toList,by simp,by simpa[lY]using kU.1,by simpa[lY]using kU.2⟩
 .cases l
def yI(a1:Nat->ej)(rd:U Nat):U bD->U cA->Bool|[],[]=>ab|t::bQ,s::ss=>SY a1 rd t s&&yI a1 rd bQ ss|_,_=>ai
theorem afO{R:Nat×Nat}{M:bD->dj H->Prop}(o:Ex P R M)(u:∀t,fO P el a1 t=ab)(c:Mg el a1 rd=ab)(e:Mo P el a1 rd=ab){r:Reach}{dp:Nat}:∀{bQ:U bD}{cj:U cA}{vs:U aD}{az:U (dj H)}{dL:U MemPlace}(i:Nat),yI a1 rd bQ cj=ab->(∀(j:Nat) t v,bQ[j]? = J t->vs[j]? = J v->aD.okWide P w r dp t v)->dj.TrodAll sj P w 0 sp held bQ vs az dL->∃x:aw cj,bl (v0 el fE w) (eK i cj x) vs/\((∀(i:Nat) (t:bD) (d:dj H),bQ[i]? = J t->az[i]? = J d->M t d)->To R cj x)
 |[],[],vs,az,dL,i,_,_,h=>by cases vs with|nil=>exact⟨(),by simp[eK,bl],λ_=>trivial⟩|cons v vs=>cases az<;>simp[dj.TrodAll]at h
 |t::bQ,[],_,_,_,_,cw,_,_=>by simp[yI]at cw
 |[],s::ss,_,_,_,_,cw,_,_=>by simp[yI]at cw
 |t::bQ,s::ss,vs,az,dL,i,cw,alb,h=>by simp only[yI,bN]at cw;obtain⟨v,f,d,a2,p,q,rfl,rfl,rfl,ar,b⟩:=trodAll_cons h;obtain⟨y,aE,g⟩:=aze o u c e cw.1 (alb 0 t v rfl rfl) ar i;obtain⟨z,k,l⟩:=afO o u c e (i+1) cw.2 (λj t' Mt m n=>alb (j+1) t' Mt Ej AF) b;cases ss with|nil=>refine⟨y,?_,λa=>g (a 0 t d rfl rfl)⟩;simp only[eK,bl]at k ⊢;exact⟨v,f,rfl,aE,k⟩|cons s' ss=>refine⟨(y,z),?_,λa=>⟨g (a 0 t d rfl rfl),l λj t' iw m n=>a (j+1) t' iw Ej AF⟩⟩;simp only[eK,bl];exact⟨v,f,rfl,aE,k⟩
theorem W2(c:laidOutB P=ab){W xU:aT}(al:Below W.heap.size W xU):∀{bQ:U bD}{vs:U aD}{az:U (dj H)}{dL:U MemPlace},(∀t,t∈bQ->P.readableRec t=ab/\t<P.types.size)->(∀x∈dL,x.block<W.heap.size)->dj.TrodAll sj P W 0 (λ_=>ab) ab bQ vs az dL->dj.TrodAll sj P xU 0 (λb=>aa (b<W.heap.size)) ab bQ vs az dL
 |[],vs,az,dL,_,_,h=>by
  cases vs<;>cases az<;>simp[dj.TrodAll]at h ⊢
  exact h
 |t::bQ,vs,az,dL,b',ala,h=>by obtain⟨v,e,d,f,p,q,rfl,rfl,rfl,ar,a⟩:=trodAll_cons h;obtain⟨g,i⟩:=b' t (by simp);exact⟨p,q,Below.trod c g i ar al (λx ag=>ala x te),W2 c al (λt' j=>b' t' (by simp[j])) (λx ag=>ala x te) a,rfl⟩
end
end Go.ft
namespace Go.Proofs.YtdelkmpkjibigaaGreatDoor
open Go.ft
def uz:Int:=20000000000000
mutual
theorem EX{R:Nat×Nat}(a:R.1<=gX):∀(n:Nat) (e:aq) (bH:Int),cm e<=n->ng R e->1<=bH->bH<=600->1<=gO e bH/\gO e bH<=bH+uz/\(gO e bH<bH->(cm e:Int)<=2*gO e bH-1)
 |0,e,_,h,_,_,_=>by have:=l2 e;omega
 |n+1,.mk k v a7 l,bH,h,cw,aY,cB=>by
  cases cw with
  |mk _ _ _ _ b c _ d=>
   simp only[uy,gX]at b c a;have f:wr .i64 ((I v.s:Int)+(I a7:Int))=((I v.s+I a7:Nat):Int):=by rw[d_ EQ];omega
   have g:f' ((I v.s+I a7:Nat):Int) 30=(((I v.s+I a7) / 30:Nat):Int):=rfl;have i:wr .i64 (((I v.s+I a7) / 30:Nat):Int)=(((I v.s+I a7) / 30:Nat):Int):=d_ EQ;have j:wr .i64 (1+(((I v.s+I a7) / 30:Nat):Int))=1+(((I v.s+I a7) / 30:Nat):Int):=d_ EQ;have p:cm (.mk k v a7 l)=1+fc l:=l1 _;simp only[gO,f,g,i,j];obtain⟨bc,m,o⟩:=aln a n l bH (1+(((I v.s+I a7) / 30:Nat):Int)) af d cB af (by simp only[uz];omega);exact⟨by omega,m,λh=>by have:=o h;omega⟩
theorem aln{R:Nat×Nat}(b:R.1<=gX):∀(n:Nat) (l:U aq) (bH m:Int),fc l<=n->(∀x,x∈l->ng R x)->bH<=600->1<=m->m<=bH+uz->m<=so l bH m/\so l bH m<=bH+uz/\(so l bH m<bH->2*m+(fc l:Int)<=2*so l bH m)
 |n,[],bH,m,_,_,_,aY,aZ=>by simp only[so,fc];omega
 |n,x::l,bH,m,h,cw,cB,aY,aZ=>by
  simp only[so];by_cases hm:m<bH
  .rw[aH hm,bd];have ag:=l2 x;simp only[fc]at h;have w1:wr .i64 (bH-m)=bH-m:=d_ EQ;obtain⟨bI,g,c⟩:=EX b n x (bH-m) af (cw x (.head _)) af af;have d:wr .i64 (m+gO x (bH-m))=m+gO x (bH-m):=d_ (by simp only[dc,uz]at *;omega);obtain⟨i,e,f⟩:=aln b n l bH (m+gO x (bH-m)) af (λy aE=>cw y (.tail _ aE)) cB af af;rw[w1,d];refine⟨by omega,e,λa=>?_⟩;have c1:=f a;have c2:=c af;simp only[fc];omega
  .rw[aL hm,bj];exact⟨Int.le_refl _,aZ,λh=>absurd h hm⟩
end
def bare(l:U aq):aq:=.mk 0 ⟨0,0,[]⟩ [] l
theorem ag5{R:Nat×Nat}{l:U aq}(h:I l<=R.2/\∀x,x∈l->ng R x):ng R (bare l):=.mk _ _ _ _ (by simp[uy]) (by simp) h.1 h.2
def pr:U (U aq)->Int->Int->Int|[],_,n=>n|r::l,bH,n=>cond (aa (n<bH)) (pr l bH (wr .i64 (n+gO (bare r) bH))) n
def ps:U ds->Int->Int->Int|[],_,n=>n|x::l,bH,n=>cond (aa (n<bH)) (ps l bH (wr .i64 (n+gO x.e bH))) n
def sw:U ak->Int->Int->Int|[],_,n=>n|x::l,bH,n=>cond (aa (n<bH)) (sw l bH (wr .i64 (n+wr .i64 (f' (I x:Int) 30)))) n
def iz(s:aP)(bH:Int):Int:=wr .i64 (wr .i64 (wr .i64 (wr .i64 (wr .i64 (wr .i64 ((I s.ay:Int)+(I s.names:Int))+(I s.order:Int))+(I s.desc:Int))+wr .i64 (f' (wr .i64 ((I s.name:Int)+(I s.on:Int))) 30))+gO s.cX bH)+gO (bare s.l) bH)
def aaX:bn:=⟨110,[(1,.int .i64),(5,.int .i64),(8,.int .i64)],[(2,.ptr 0 0)],[(0,.one (.bm .stmt))],1,0,0,[],[]⟩
abbrev Hy:=Int×Int×Int×aP
def zn{R:Type}(rec:Hy->ae R)(kx:aX->Hy->ae R)(v:Hy):ae R:=match v with|(b,c,a,b4)=>cond (aa (a<(I b4.names:Int))) (cond (aa (c<b)) (ax (a_ a (I b4.names)) (rec (b,(wr .i64 (c+(wr .i64 (f' (I (at' .str b4.names a):Int) 30)))),(wr .i64 (a+1)),b4))) (kx (.exit 4) (b,c,a,b4))) (kx (.exit 4) (b,c,a,b4))
def abw:bn:=⟨110,[(1,.int .i64),(5,.int .i64),(7,.int .i64)],[(2,.ptr 0 0)],[(0,.one (.bm .stmt))],1,0,0,[],[]⟩
abbrev HB:=Int×Int×Int×aP
def B1{R:Type}(rec:HB->ae R)(kx:aX->HB->ae R)(v:HB):ae R:=match v with|(bb,bK,v9,w1)=>cond (aa (v9<(I w1.bT:Int))) (cond (aa (bK<bb)) (ax (a_ v9 (I w1.bT)) (rec (bb,(wr .i64 (bK+(gO (gv ((at' .set w1.bT v9).e)) bb))),(wr .i64 (v9+1)),w1))) (kx (.exit 2) (bb,bK,v9,w1))) (kx (.exit 2) (bb,bK,v9,w1))
def aau:bn:=⟨110,[(1,.int .i64),(5,.int .i64),(6,.int .i64)],[(2,.ptr 0 0)],[(0,.one (.bm .stmt))],1,0,0,[],[]⟩
abbrev Hx:=Int×Int×Int×aP
def zc{R:Type}(rec:Hx->ae R)(kx:aX->Hx->ae R)(v:Hx):ae R:=match v with|(v,v1,v2,w)=>cond (aa (v2<(I w.rows:Int))) (cond (aa (v1<v)) (ax (a_ v2 (I w.rows)) (rec (v,(wr .i64 (v1+(gO (aq.mk 0 ⟨0,0,[]⟩ [] (at' .exprs w.rows v2)) v))),(wr .i64 (v2+1)),w))) (kx (.exit 0) (v,v1,v2,w))) (kx (.exit 0) (v,v1,v2,w))
def afe(R:Type)(k:Nat):aR R:=bs [(33,ba MK)] [(33,jK MK)] [(3,b8 k aau (zc)),(7,b8 k abw (B1)),(11,b8 k aaX (zn))] []
def abn(k:Nat)(x:aw [cG,an]):ae (aw [an]):=match x with
 |(s,bH)=>aI (λrec=>zc rec (λe f=>match f with|(v3,v4,_,v6)=>match e with
  |.exit 0=>aI (λrec=>B1 rec (λe f=>match f with|(a,b,_,c)=>match e with
   |.exit 2=>aI (λrec=>zn rec (λe f=>match f with|(_,d,_,_)=>match e with
    |.exit 4=>J d
    |_=>aj)) k (a,b,0,c)
   |_=>aj)) k (v3,v4,0,v6)
  |_=>aj)) k (bH,(wr .i64 ((wr .i64 ((wr .i64 ((wr .i64 ((wr .i64 ((wr .i64 ((I s.ay:Int)+(I s.names:Int)))+(I s.order:Int)))+(I s.desc:Int)))+(wr .i64 (f' (wr .i64 ((I s.name:Int)+(I s.on:Int))) 30))))+(gO (gv s.cX) bH)))+(gO (aq.mk 0 ⟨0,0,[]⟩ [] s.l) bH))),0,s)
theorem avu(k:Nat):aU 13 [cG,an] [an] (abn k):=b6 (px:=afe _ k) (n:=3) Tryz.func13 rfl (λah H=>by have e:bP ah (afe (aw [an]) k):=br H (c1 H Yk bq) (bc H Yk bo) bp;have a:=cd H e (b:=b0 Tryz.f13 0) (k:=k) (n:=0) (s:=aau) (step:=zc) (λ_ _ _ (_,_,_,_)=>by kernel_rfl) aK;have c:=cd H e (b:=b0 Tryz.f13 1) (k:=k) (n:=0) (s:=abw) (step:=B1) (λ_ _ _ (_,_,_,_)=>by kernel_rfl) aK;have d:=cd H e (b:=b0 Tryz.f13 2) (k:=k) (n:=0) (s:=aaX) (step:=zn) (λ_ _ _ (_,_,_,_)=>by kernel_rfl) aK;exact⟨e,(b9 (b9 (b9 aK a) c) d)⟩) λ(_,_)=>by kernel_rfl
def j'(s:aP)(bH:Int):Int:=sw s.names bH (ps s.bT bH (pr s.rows bH (iz s bH)))
def JD:bt [cG,an] [an]:=λx=>J (j' x.1 x.2)
variable{R:Type}{c:Int->ae R}{bH:Int}{s:aP}
theorem amm{kx:aX->Hx->ae R}(d:b1 (I s.rows))(b:∀n i,kx (.exit 0) (bH,n,i,s)=c n)(k:Nat)(f:I s.rows<k)(n:Int) :
  aI (λrec=>zc rec kx) k (bH,n,0,s)=c (pr s.rows bH n):=by
 refine(lB (I s.rows) (λi n=>(bH,n,(i:Int),s)) (λ_ _=>True) (λi n=>c (pr (s.rows.drop i) bH n)) (λi a n _ rec e=>?_) (λn _ rec=>?_) k 0 n (cL _) af trivial).trans iP
 .simp only[zc,ea a,cg a,cR (c:=.exprs) a,c9 a d,da a,pr,b];cases aa (n<bH)with|false=>rfl|true=>exact(e (wr .i64 (n+gO (bare s.rows[i]) bH)) trivial)
 .simp only[zc,eu,b];exact nD
theorem al4{kx:aX->HB->ae R}(d:b1 (I s.bT))(b:∀n i,kx (.exit 2) (bH,n,i,s)=c n)(k:Nat)(g:I s.bT<k)(n:Int) :
  aI (λrec=>B1 rec kx) k (bH,n,0,s)=c (ps s.bT bH n):=by
 refine(lB (I s.bT) (λi n=>(bH,n,(i:Int),s)) (λ_ _=>True) (λi n=>c (ps (s.bT.drop i) bH n)) (λi a n _ rec f=>?_) (λn _ rec=>?_) k 0 n (cL _) af trivial).trans iP
 .simp only[B1,ea a,cg a,cR (c:=.set) a,c9 a d,da a,ps,b,m1];cases aa (n<bH)with|false=>rfl|true=>exact(f (wr .i64 (n+gO s.bT[i].e bH)) trivial)
 .simp only[B1,eu,b];exact nD
theorem amg{kx:aX->Hy->ae R}(d:b1 (I s.names))(b:∀n i,kx (.exit 4) (bH,n,i,s)=c n)(k:Nat)(f:I s.names<k)(n:Int) :
  aI (λrec=>zn rec kx) k (bH,n,0,s)=c (sw s.names bH n):=by
 refine(lB (I s.names) (λi n=>(bH,n,(i:Int),s)) (λ_ _=>True) (λi n=>c (sw (s.names.drop i) bH n)) (λi a n _ rec e=>?_) (λn _ rec=>?_) k 0 n (cL _) af trivial).trans iP
 .simp only[zn,ea a,cg a,cR (c:=.str) a,c9 a d,da a,sw,b];cases aa (n<bH)with|false=>rfl|true=>exact(e (wr .i64 (n+wr .i64 (f' (I s.names[i]:Int) 30))) trivial)
 .simp only[zn,eu,b];exact nD
theorem adP:aU 13 [cG,an] [an] JD:=.fin 0 avu λ(s,bH) r al ag=>⟨I s.rows+I s.bT+I s.names+1,by have al:=al.1;simp only[JD,dN]at ag;rw[<-ag];simp only[abn,m1];refine(amm (c:=λn=>J (sw s.names bH (ps s.bT bH n))) al.rows.1 (λn i=>?_) _ af _).trans rfl;refine(al4 (c:=λn=>J (sw s.names bH n)) al.bT.1 (λn i=>?_) _ af _).trans rfl;exact amg (c:=J) al.names.1 (λn i=>rfl) _ af _⟩
theorem afq{N:Int}(d : 1<=N/\N<=600){R:Nat×Nat}(b:R.1<=gX):∀(l:U (U aq)) (n:Int),0<=n->n<=1000000000000000->(∀r,r∈l->I r<=R.2/\∀x,x∈r->ng R x)->n<=pr l N n/\pr l N n<=1000000000000000/\(pr l N n<N->n+(I l:Int)<=pr l N n/\∀r,r∈l->fc r<=1200)
 |[],n,_,h,_=>⟨Int.le_refl _,h,λ_=>⟨by simp[pr],λr e=>by cases e⟩⟩
 |r::l,n,dm,aY,cw=>by
  simp only[pr];by_cases f:n<N
  .have hm:=EX b (cm (bare r)) (bare r) N (bU _) (ag5 (cw r jy)) af af;simp[uz]at hm;have w:wr .i64 (n+gO (bare r) N)=n+gO (bare r) N:=d_ ec;rw[aH f,bd,w];have c:=afq d b l (n+gO (bare r) N) af af (λq a=>cw q (mg _ a));refine⟨by omega,c.2.1,λh=>?_⟩;obtain⟨i,g⟩:=c.2.2 h;refine⟨by simp;omega,λq a=>?_⟩;rcases hv.1 a with rfl|a
   .have j:cm (bare q)=1+fc q:=l1 _;have:=hm.2.2 af;omega
   .exact g q a
  .grind
theorem aeO{N:Int}(d : 1<=N/\N<=600){R:Nat×Nat}(b:R.1<=gX):∀(l:U ds) (n:Int),0<=n->n<=1000000000000000->(∀x,x∈l->ng R x.e)->n<=ps l N n/\ps l N n<=1000000000000000/\(ps l N n<N->n+(I l:Int)<=ps l N n/\∀x,x∈l->cm x.e<=1200)
 |[],n,_,h,_=>⟨Int.le_refl _,h,λ_=>⟨by simp[ps],λr f=>by cases f⟩⟩
 |x::l,n,dm,aY,cw=>by
  simp only[ps];by_cases g:n<N
  .have hm:=EX b (cm x.e) x.e N (bU _) (cw x jy) af af;simp[uz]at hm;have w:wr .i64 (n+gO x.e N)=n+gO x.e N:=d_ ec;rw[aH g,bd,w];have c:=aeO d b l (n+gO x.e N) af af (λq a=>cw q (mg _ a));refine⟨by omega,c.2.1,λh=>?_⟩;obtain⟨j,i⟩:=c.2.2 h;refine⟨by simp;omega,λq a=>?_⟩;rcases hv.1 a with rfl|a
   .grind
   .exact i q a
  .grind
theorem afV{N:Int}(a : 1<=N/\N<=600):∀(l:U ak) (n:Int),0<=n->n<=1000000000000000->(∀x,x∈l->I x<=gX)->n<=sw l N n/\sw l N n<=1000000000000000
 |[],n,_,h,_=>⟨Int.le_refl _,h⟩
 |x::l,n,dm,aY,cw=>by
  simp only[sw];by_cases b:n<N
  .have ag:=cw x jy;simp[gX]at ag;have c:f' (I x:Int) 30=((I x / 30:Nat):Int):=rfl;have d:wr .i64 ((I x / 30:Nat):Int)=((I x / 30:Nat):Int):=d_ ec;have w:wr .i64 (n+((I x / 30:Nat):Int))=n+((I x / 30:Nat):Int):=d_ ec;rw[aH b,bd,c,d,w];have f:=afV a l (n+((I x / 30:Nat):Int)) af af (λq e=>cw q (mg _ e));omega
  .grind
structure gP (s:aP):Prop where
 ay:I s.ay<=5100
 names:I s.names<=5100
 order:I s.order<=5100
 desc:I s.desc<=5100
 name:I s.name+I s.on<=600000000000000
 cX:cm s.cX<=10000
 l:fc s.l<=10000
 rows:I s.rows<=5100/\∀r,r∈s.rows->fc r<=10000
 bT:I s.bT<=5100/\∀x,x∈s.bT->cm x.e<=10000
theorem Xu{N:Int}(b : 1<=N/\N<=600)(a:Lj (gX,gX) s):(0<=j' s N/\j' s N<=1000000000000000)/\(j' s N<N->gP s/\(I s.ay:Int)+(I s.names:Int)<=j' s N/\fc s.l<=1200):=by
 have f:=EX (R:=(gX,gX)) (bU _) (cm s.cX) s.cX N (bU _) a.cX af af;have g:=EX (R:=(gX,gX)) (bU _) (cm (bare s.l)) (bare s.l) N (bU _) (ag5 a.l) af af;have z:cm (bare s.l)=1+fc s.l:=l1 _;have c1:=a.ay.1;have c2:=a.names.1;have fZ:=a.order.1;have gQ:=a.desc;have i:=a.name;have j:=a.on;simp[gX]at c1 c2 fZ gQ i j;simp[uz]at f g;have k:wr .i64 ((I s.ay:Int)+(I s.names:Int))=(I s.ay:Int)+(I s.names:Int):=d_ ec;have m:wr .i64 ((I s.ay:Int)+(I s.names:Int)+(I s.order:Int))=(I s.ay:Int)+(I s.names:Int)+(I s.order:Int):=d_ ec;have n:wr .i64 ((I s.ay:Int)+(I s.names:Int)+(I s.order:Int)+(I s.desc:Int))=(I s.ay:Int)+(I s.names:Int)+(I s.order:Int)+(I s.desc:Int):=d_ ec;have o:wr .i64 ((I s.name:Int)+(I s.on:Int))=((I s.name+I s.on:Nat):Int):=od
 have p:f' ((I s.name+I s.on:Nat):Int) 30=(((I s.name+I s.on) / 30:Nat):Int):=rfl;have q:wr .i64 (((I s.name+I s.on) / 30:Nat):Int)=(((I s.name+I s.on) / 30:Nat):Int):=d_ ec;have t:wr .i64 ((I s.ay:Int)+(I s.names:Int)+(I s.order:Int)+(I s.desc:Int)+(((I s.name+I s.on) / 30:Nat):Int))=(I s.ay:Int)+(I s.names:Int)+(I s.order:Int)+(I s.desc:Int)+(((I s.name+I s.on) / 30:Nat):Int):=d_ ec;have u:wr .i64 ((I s.ay:Int)+(I s.names:Int)+(I s.order:Int)+(I s.desc:Int)+(((I s.name+I s.on) / 30:Nat):Int)+gO s.cX N)=(I s.ay:Int)+(I s.names:Int)+(I s.order:Int)+(I s.desc:Int)+(((I s.name+I s.on) / 30:Nat):Int)+gO s.cX N:=d_ ec;have v:wr .i64 ((I s.ay:Int)+(I s.names:Int)+(I s.order:Int)+(I s.desc:Int)+(((I s.name+I s.on) / 30:Nat):Int)+gO s.cX N+gO (bare s.l) N)=(I s.ay:Int)+(I s.names:Int)+(I s.order:Int)+(I s.desc:Int)+(((I s.name+I s.on) / 30:Nat):Int)+gO s.cX N+gO (bare s.l) N:=d_ ec;have jZ:iz s N=(I s.ay:Int)+(I s.names:Int)+(I s.order:Int)+(I s.desc:Int)+(((I s.name+I s.on) / 30:Nat):Int)+gO s.cX N+gO (bare s.l) N:=by simp only[iz,k,m,n,o,p,q,t,u,v]
 have c:=afq b (R:=(gX,gX)) (bU _) s.rows (iz s N) af af a.rows.2;have d:=aeO b (R:=(gX,gX)) (bU _) s.bT (pr s.rows N (iz s N)) af af (λx ag=>(a.bT.2 x ag).2);have ck:=afV b s.names (ps s.bT N (pr s.rows N (iz s N))) af af a.names.2;refine⟨by simp[j'];omega,λh=>?_⟩;simp[j']at h ⊢;have e:=c.2.2 af;have w:=f.2.2 af;have y:=g.2.2 af;exact⟨⟨by omega,by omega,by omega,by omega,by omega,by omega,by omega,⟨by omega,λr c=>fV (e.2 r c) dM⟩,⟨by omega,λx ag=>fV ((d.2.2 af).2 x ag) dM⟩⟩,by omega,by omega⟩
theorem apm{n:Int}(h:dc n):I (wW n)<=21:=by
 have ar:I (hK n.natAbs)<=20:=HT 20 _ (by
  simp[dc]at h;have:yo 20=100000000000000000000:=bW
  omega)
 have a:I (if n=0 then([48]:ak)else iA (hK n.natAbs))<=20:=by
  split
  .simp
  .rw[Dh];exact ar
 unfold wW
 grind
theorem avl{v:dA}(h:iQ v=ab)(a:dc v.n):I (sb v)<=2003:=by
 simp[sb,h];split
 .split<;>simp
 .split
  .have:=apm a;omega
  .split
   .rename_i b;have c:=A1 h (.inl b);have d:=IZ v.s;simp[ dB];omega
   .split
    .rename_i e;have c:=A1 h (.inr e);have d:=Q2 v.s;simp[ dB];omega
    .simp
theorem lC{s:ak}(h:eQ s=ab):I s<=30:=by simp[aO.qa,bN]at h;omega
theorem az0{s:ak}(h:eQ s=ab):s≠[]:=by rintro rfl;cases h
theorem ahr{k:Int}(h:w3 k):I (vW k)<=3:=by
 simp[w3]at h;have:k=4\/k=5\/k=6\/k=7\/k=8\/k=9\/k=10\/k=11\/k=12\/k=13\/k=14:=af
 rcases this with rfl|rfl|rfl|rfl|rfl|rfl|rfl|rfl|rfl|rfl|rfl<;>decide
theorem Pu(k:Int)(v:dA)(s:ak)(x:aq):cm (.mk k v s [x])=2+cm x:=by simp[cm,fc];omega
theorem awL(k:Int)(v:dA)(s:ak)(x y:aq):cm (.mk k v s [x,y])=3+(cm x+cm y):=by simp[cm,fc];omega
theorem ah5:∀(n:Nat) (e:aq) (m:Int),cm e<=n->e4 e m=ab->fK e->I (gG e)<=4000*cm e
 |0,e,_,h,_,_=>by have:=l2 e;omega
 |n+1,e,m,h,aF,al=>by
  have a:∀x,x∈e.l->I (gG x)<=4000*cm x:=λx ag=>by obtain⟨a6,hm⟩:=WO aF ag;refine ah5 n x a6 ?_ hm ((rn al).2 x ag);have:=nH ag;rw[l1]at h;omega
  have g:=Ast aF;cases g with
  |atom _ b=>
   obtain⟨_,c,_⟩:=AL aF;have i:=l2 e;rw[R5];rcases b with d|f
   .rw[if_pos d];have:=avl (azc c d).1 (aCZ al).1.2.1;omega
   .rw[if_neg af,if_pos f];have:=lC (amV c f).1;omega
  |not x=>have:=a x jy;rw[af2,Pu];simp[ dB];omega
  |neg x=>have:=a x jy;rw[aij,Pu];simp[ dB];omega
  |L7 x=>have:=a x jy;rw[aiT,Pu];simp[ dB];omega
  |op k x y b=>have j:=a x jy;have o:=a y (by simp[aq.l]);have p:=ahr b;rw[ac9 b,awL];simp[ dB];omega
variable{e:aq}
theorem R4{m:Int}(a:e4 e m=ab)(al:fK e):I (gG e)<=4000*cm e:=ah5 (cm e) e m (bU _) a al
theorem afG{α:Type}(f : α->ak)(B:Nat):∀l:U α,(∀x,x∈l->I (f x)<=B)->I (iG f l)<=I l*(B+2)
 |[],_=>by simp[iG]
 |x::l,h=>by have a:=h x jy;have b:=afG f B l λy aE=>h y (mg _ aE);simp[iG,dB];rw[Nat.add_mul];omega
variable{α:Type}
theorem H0(f : α->ak)(B:Nat)(l:U α)(h:∀x,x∈l->I (f x)<=B):I (gW f l)<=I l*(B+2):=by have:=afG f B l h;cases l with|nil=>simp[gW]|cons x l=>simp[iG,gW,dB]at this ⊢;omega
theorem agL:∀l:U aq,(∀x,x∈l->EP x)->I ((l.map sJ).flatten)<=4010*fc l
 |[],_=>by simp
 |x::l,h=>by
  have ag:=h x jy;have a:=R4 ag.1 ag.2;have b:=agL l λy aE=>h y (mg _ aE);have c:I (sJ x)<=4000*cm x+10:=by
   simp[sJ]
   grind
  simp only[hk,oC,e7,fc];omega
theorem aiV{l:U ak}(h:I l<=5100)(a:∀x,x∈l->eQ x=ab):I (lP l)<=200000:=by have:=H0 (λx:ak=>x) 30 l λx ag=>lC (a x ag);simp[lP,E6,dB];omega
theorem ahu{l:U ak}(h:I l<=5100)(a:∀x,x∈l->eQ x=ab):qm l=true:=by have:=H0 (λx:ak=>x) 30 l λx ag=>lC (a x ag);simp[qm,E6,bN];omega
theorem WI(k:Int):I (at' .str vM k)<=5:=by
 have h:∀i,I (vM.getD i ([]:ak))<=5:=λi=>by match i with|0|1|2|3|4|5=>decide|i+6=>simp[vM]
 exact h _
theorem axT{c:bk}(h:ajc c):I (nF c)<=100:=by
 obtain⟨a,b⟩:=h;simp[jC,mK]at a;have d:=lC b;have e:=WI c.kind;have f:I (cond c.h2 [32,78,79,84,32,78,85,76,76] ([]:ak))<=9:=by cases c.h2<;>simp
 have g:I (cond c.unique [32,85,78,73,81,85,69] ([]:ak))<=7:=by cases c.unique<;>simp
 have i:I (cond (aa (c.ref=[])) [] ([32,82,69,70,69,82,69,78,67,69,83,32]++c.ref))<=42:=by
  rcases a.2 with h|h
  .grind
  .have:=lC h;cases aa (c.ref=[])<;>simp[ dB]<;>omega
 simp only[nF,e7,eo,dB];omega
theorem aBH{l:U aq}(h:∀x,x∈l->EP x):l.all ns=true:=dH.2 λx ag=>aoL (h x ag).1
theorem CV(h:ei s=ab)(al:qq s)(a:gP s)(d:s.kind=1\/s.kind=3):I (gU s)<=60000000:=by
 obtain⟨⟨e,n⟩,f⟩:=rU h;have b1:=lC e;rcases f with ⟨k,bI,g,b,i,j⟩|k|⟨k,bI,g,b⟩|⟨k,_⟩|⟨k,_⟩|⟨k,_⟩|⟨k,_⟩
 case inl=>have aQ:=H0 nF 100 s.ay λc ao=>axT (bI c ao);have m:=aiV a.names i;have o:=agL s.l (Sp j al.l);have f1:=a.ay;have p:=a.l;simp only[gU,if_pos k,nR,e7,eo,dB];omega
 case inr.inr.inl=>have aQ:=lC bI;have m:=aiV a.names b;simp[gU,if_neg (show ¬s.kind=1 by omega),if_neg (show ¬s.kind=2 by omega),if_pos k,dB];omega
 all_goals omega
theorem aox(h:ei s=ab)(al:qq s)(a:gP s)(d:s.kind=1\/s.kind=3):vQ s=true:=by
 obtain⟨_,e⟩:=rU h;rcases e with ⟨k,bI,f,b,g,i⟩|k|⟨k,bI,f,b⟩|⟨k,_⟩|⟨k,_⟩|⟨k,_⟩|⟨k,_⟩
 case inl=>simp only[vQ,k,decide_true,bd,tT,bN];refine⟨⟨dH.2 λc ao=>?_,ahu a.names g⟩,aBH (Sp i al.l)⟩;have j:=(bI c ao).1;simp[jC]at j;simp[a_];omega
 case inr.inr.inl=>simp[vQ,k,ahu a.names b]
 all_goals omega
theorem VN(a:gP s):ou s=J (cond (ei s) 0 2):=if_pos ⟨by have:=a.ay;omega,by have:=a.bT.1;omega⟩
theorem aaz(h:ei s=ab)(al:qq s)(b:gP s)(a:s.kind=1\/s.kind=3):tD s=J (gU s,0):=by have c:=CV h al b a;simp[tD,VN b,h,aox h al b a];rw[apU d'];rfl
variable{V:Type}
theorem A8[DecidableEq α]{step:(V->ae R)->V->ae R}(l m:U α)(hm:I l=I m)(st:Nat->V)(no a:ae R)
  (d:∀i (h:i<I l) (f:i<I m) rec,step rec (st i)=cond (!decide (l[i]=m[i])) no (rec (st (i+1)))) (g:∀rec,step rec (st (I l))=a) (k:Nat) (j:I l<k):aI step k (st 0)=cond (aa (l=m)) a no:=by
 refine(hV (I l) st (λi=>cond (aa (l.drop i=m.drop i)) a no) (λi c rec e=>?_) (λrec=>?_) k 0 (cL _) af).trans qs
 .have b:i<I m:=af
  rw[d i c b,e,da c,da b];by_cases h:l[i]=m[i]
  .grind
  .grind
 .grind
def _q:bn:=⟨26,[(0,.sl .str ai),(1,.sl .str ai),(4,.bool),(5,.int .i64)],[],[],0,0,0,[],[]⟩
abbrev OP:=U ak×U ak×Bool×Int
def FK{R:Type}(rec:OP->ae R)(kx:aX->OP->ae R)(v:OP):ae R:=match v with|(v,v1,v2,v3)=>cond (aa (v3<(I v:Int))) (ax (a_ v3 (I v)) (ax (a_ v3 (I v1)) (cond (!decide ((at' .str v v3)=(at' .str v1 v3))) (kx .ret (v,v1,ai,v3)) (rec (v,v1,v2,(wr .i64 (v3+1))))))) (kx (.exit 0) (v,v1,v2,v3))
def Xp(R:Type)(k:Nat):aR R:=bs [] [] [(4,b8 k _q (FK))] []
def Zs(k:Nat)(x:aw [dX,dX]):ae (aw [.bool]):=match x with
 |(a,b)=>cond (!decide ((I a:Int)=(I b:Int))) (J ai) (aI (λrec=>FK rec (λe c=>match c with|(_,_,v6,_)=>match e with
  |.ret=>J v6
  |.exit 0=>J ab
  |_=>aj)) k (a,b,ai,0))
theorem asE(k:Nat):aU 87 [dX,dX] [.bool] (Zs k):=b6 (px:=Xp _ k) (n:=1) Tryz.func87 rfl (λah H=>by have c:bP ah (Xp (aw [.bool]) k):=br H bq bo bp;have a:=cd H c (b:=b0 Tryz.f87 0) (k:=k) (n:=0) (s:=_q) (step:=FK) (λ_ _ _ (_,_,_,_)=>by kernel_rfl) aK;exact⟨c,(b9 aK a)⟩) λ(_,_)=>by kernel_rfl
def Dv(a b:U ak):Bool:=aa (a=b)
def QS:bt [dX,dX] [.bool]:=λx=>J (Dv x.1 x.2)
variable{a:U α}
theorem aiX{b:U α}(h:¬(I a:Int)=(I b:Int)):¬a=b:=λe=>h (by rw[e])
theorem auY:aU 87 [dX,dX] [.bool] QS:=.fin 0 asE λ(a,b) r al ag=>⟨I a+1,by
 simp only[QS,Dv,dN]at ag;rw[<-ag];simp only[Zs];by_cases d:(I a:Int)=(I b:Int)
 .rw[aH d,ef,bj];refine(A8 a b af (λi=>(a,b,ai,(i:Int))) (J ai) (J ab) (λi h e rec=>?_) (λrec=>?_) (I a+1) af).trans ?_
  .simp only[FK,ea h,bd,cg h,cg e,ax,cR (c:=.str) h,cR (c:=.str) e,c9 h al.1.1]
  .simp only[FK,eu,bj]
  .cases aa (a=b)<;>rfl
 .rw[aL d,aL (aiX d)];rfl⟩
def awM(R:Type):aR R:=bs [(86,ba No)] [] [] []
def TJ(x:aw [fU,fU]):ae (aw [.bool]):=match x with|(a,b)=>J (yU (aq.mk 0 ⟨0,0,[]⟩ [] a) (aq.mk 0 ⟨0,0,[]⟩ [] b))
theorem asg:aU 88 [fU,fU] [.bool] (TJ):=b6 (px:=awM _) (n:=0) Tryz.func88 rfl (λ_ H=>⟨br H (c1 H aeJ bq) bo bp,aK⟩) λ(_,_)=>by kernel_rfl
def wA(a:U aq)(b:U aq):Bool:=(yU (aq.mk 0 ⟨0,0,[]⟩ [] a) (aq.mk 0 ⟨0,0,[]⟩ [] b))
theorem as8(x:aw [fU,fU]):TJ x=J (wA x.1 x.2):=by
 first
  |exact rfl
  |simp only[TJ,wA,gb]
def adQ:bt [fU,fU] [.bool]:=λx=>J (wA x.1 x.2)
theorem aw0:aU 88 [fU,fU] [.bool] adQ:=.er asg λx _ _ ag=>(as8 x).trans ag
theorem XG(a b:U aq):wA a b=aa (a=b):=by have e:wA a b=ld (.mk 0 ⟨0,0,[]⟩ [] a) (.mk 0 ⟨0,0,[]⟩ [] b):=rfl;rw[e,xl];exact hL.2 (by simp)
theorem Xl(a b:aq):yU a b=aa (a=b):=xl a b
instance:DecidableEq ds:=λa b=>decidable_of_iff (a.name=b.name/\a.e=b.e) (by cases a;cases b;simp only[ds.mk.injEq])
def ZL:bn:=⟨199,[(4,.bool),(8,.int .i64)],[(2,.ptr 0 0),(3,.ptr 1 0)],[(0,.one (.bm .stmt)),(1,.one (.bm .stmt))],2,0,0,[],[]⟩
abbrev Od:=Bool×Int×aP×aP
def Fl{R:Type}(rec:Od->ae R)(kx:aX->Od->ae R)(v:Od):ae R:=match v with|(b,a,eb,eO)=>cond (aa (a<(I eb.desc:Int))) (ax (a_ a (I eb.desc)) (ax (a_ a (I eO.desc)) (cond (!decide ((at' .bool eb.desc a)=(at' .bool eO.desc a))) (kx .ret (ai,a,eb,eO)) (rec (b,(wr .i64 (a+1)),eb,eO))))) (kx (.exit 6) (b,a,eb,eO))
def ZQ:bn:=⟨199,[(4,.bool),(7,.int .i64)],[(2,.ptr 0 0),(3,.ptr 1 0)],[(0,.one (.bm .stmt)),(1,.one (.bm .stmt))],2,0,0,[],[]⟩
abbrev Oq:=Bool×Int×aP×aP
def Fm{R:Type}(rec:Oq->ae R)(kx:aX->Oq->ae R)(v:Oq):ae R:=match v with|(b,a,cH,cK)=>cond (aa (a<(I cH.bT:Int))) (ax (a_ a (I cH.bT)) (ax (a_ a (I cK.bT)) (cond (!decide (((at' .set cH.bT a).name)=((at' .set cK.bT a).name))) (kx .ret (ai,a,cH,cK)) (ax (a_ a (I cH.bT)) (ax (a_ a (I cK.bT)) (cond (!(yU (gv ((at' .set cH.bT a).e)) (gv ((at' .set cK.bT a).e)))) (kx .ret (ai,a,cH,cK)) (rec (b,(wr .i64 (a+1)),cH,cK)))))))) (kx (.exit 4) (b,a,cH,cK))
def _D:bn:=⟨199,[(4,.bool),(6,.int .i64)],[(2,.ptr 0 0),(3,.ptr 1 0)],[(0,.one (.bm .stmt)),(1,.one (.bm .stmt))],2,0,0,[],[]⟩
abbrev Ox:=Bool×Int×aP×aP
def Fj{R:Type}(rec:Ox->ae R)(kx:aX->Ox->ae R)(v:Ox):ae R:=match v with|(v6,bb,b4,cv)=>cond (aa (bb<(I b4.rows:Int))) (ax (a_ bb (I b4.rows)) (ax (a_ bb (I cv.rows)) (cond (!(wA (at' .exprs b4.rows bb) (at' .exprs cv.rows bb))) (kx .ret (ai,bb,b4,cv)) (rec (v6,(wr .i64 (bb+1)),b4,cv))))) (kx (.exit 2) (v6,bb,b4,cv))
def Zr:bn:=⟨199,[(4,.bool),(5,.int .i64)],[(2,.ptr 0 0),(3,.ptr 1 0)],[(0,.one (.bm .stmt)),(1,.one (.bm .stmt))],2,0,0,[],[]⟩
abbrev OJ:=Bool×Int×aP×aP
def Fh{R:Type}(rec:OJ->ae R)(kx:aX->OJ->ae R)(v:OJ):ae R:=match v with|(v,v1,w,w1)=>cond (aa (v1<(I w.ay:Int))) (ax (a_ v1 (I w.ay)) (ax (a_ v1 (I w1.ay)) (cond (!decide ((at' .b2 w.ay v1)=(at' .b2 w1.ay v1))) (kx .ret (ai,v1,w,w1)) (rec (v,(wr .i64 (v1+1)),w,w1))))) (kx (.exit 0) (v,v1,w,w1))
def Wr(R:Type)(k:Nat):aR R:=bs [(86,ba No),(87,ba QS),(88,ba adQ)] [] [(6,b8 k Zr (Fh)),(11,b8 k _D (Fj)),(16,b8 k ZQ (Fm)),(21,b8 k ZL (Fl))] []
def _o(k:Nat)(x:aw [cG,cG]):ae (aw [.bool]):=match x with
 |(a,b)=>
 let o:=λ(p:Bool)=>
  let q:=λ(p1:Bool)=>
  let r:=λ(p2:Bool)=>
   let s:=λ(p3:Bool)=>
   let t:=λ(ki:Bool)=>
    let j:=λ(v:Bool)=>
    cond (v) (
     J ai) (
     cond (!(Dv a.order b.order)) (
     J ai) (
     cond (!(wA a.l b.l)) (
      J ai) (
      let u:=λ(d:Bool)=>
      cond (d) (
       J ai) (
       cond (!decide ((I a.bT:Int)=(I b.bT:Int))) (
       J ai) (
       cond (!decide ((I a.desc:Int)=(I b.desc:Int))) (
        J ai) (
        aI (λrec=>Fh rec (λe n=>match n with|(v2,_,v4,v5)=>match e with
        |.ret=>J v2
        |.exit 0=>
         aI (λrec=>Fj rec (λe n=>match n with|(bK,_,f,g)=>match e with
         |.ret=>J bK
         |.exit 2=>
          aI (λrec=>Fm rec (λe n=>match n with|(c,_,h,i)=>match e with
          |.ret=>J c
          |.exit 4=>
           aI (λrec=>Fl rec (λe n=>match n with|(m,_,_,_)=>match e with
           |.ret=>J m
           |.exit 6=>J ab
           |_=>aj)) k (c,0,h,i)
          |_=>aj)) k (bK,0,f,g)
         |_=>aj)) k (v2,0,v4,v5)
        |_=>aj)) k (ai,0,a,b))))
      cond (!decide ((I a.ay:Int)=(I b.ay:Int))) (
      u ab) (
      u (!decide ((I a.rows:Int)=(I b.rows:Int)))))))
    cond (ki) (
    j ab) (
    j (!(Dv a.names b.names)))
   cond (p3) (
    t ab) (
    t (!(yU (gv a.cX) (gv b.cX))))
   cond (p2) (
   s ab) (
   s (!decide (a.bH=b.bH)))
  cond (p1) (
   r ab) (
   r (!decide (a.has=b.has)))
  cond (p) (
  q ab) (
  q (!decide (a.on=b.on)))
 cond (!decide (a.kind=b.kind)) (
  o ab) (
  o (!decide (a.name=b.name)))
theorem as3(k:Nat):aU 32 [cG,cG] [.bool] (_o k):=b6 (px:=Wr _ k) (n:=4) Tryz.func32 rfl (λah H=>by have f:bP ah (Wr (aw [.bool]) k):=br H (c1 H aeJ (c1 H auY (c1 H aw0 bq))) bo bp;have a:=cd H f (b:=b0 Tryz.f32 0) (k:=k) (n:=0) (s:=Zr) (step:=Fh) (λ_ _ _ (_,_,_,_)=>by kernel_rfl) aK;have c:=cd H f (b:=b0 Tryz.f32 1) (k:=k) (n:=0) (s:=_D) (step:=Fj) (λ_ _ _ (_,_,_,_)=>by kernel_rfl) aK;have d:=cd H f (b:=b0 Tryz.f32 2) (k:=k) (n:=0) (s:=ZQ) (step:=Fm) (λ_ _ _ (_,_,_,_)=>by kernel_rfl) aK;have e:=cd H f (b:=b0 Tryz.f32 3) (k:=k) (n:=0) (s:=ZL) (step:=Fl) (λ_ _ _ (_,_,_,_)=>by kernel_rfl) aK;exact⟨f,(b9 (b9 (b9 (b9 aK a) c) d) e)⟩) λ(_,_)=>by kernel_rfl
def o8(a b:aP):Bool:=aa (a=b)
def Iw:bt [cG,cG] [.bool]:=λx=>J (o8 x.1 x.2)
theorem aph(x y:ds)(no a:R):cond (!decide (x.name=y.name)) no (cond (!decide (x.e=y.e)) no a)=cond (!decide (x=y)) no a:=by
 have e:aa (x=y)=(aa (x.name=y.name)&&aa (x.e=y.e)):=by rw[<-Bool.decide_and];refine hL.2 ?_;cases x;cases y;simp
 rw[e];cases aa (x.name=y.name)<;>rfl
theorem azH{a b:aP}(g:a.kind=b.kind)(h:a.name=b.name)(i:a.on=b.on)(j:a.ay=b.ay)(k:a.names=b.names)(m:a.l=b.l)(n:a.rows=b.rows)(o:a.bT=b.bT)(p:a.has=b.has)(c:a.cX=b.cX)(d:a.order=b.order)(e:a.desc=b.desc)(f:a.bH=b.bH):a=b:=by cases a;cases b;simp only at g h i j k m n o p c d e f;simp[g,h,i,j,k,m,n,o,p,c,d,e,f]
theorem V3:aU 32 [cG,cG] [.bool] Iw:=.fin 0 as3 λ(a,b) r al ag=>⟨I a.ay+I a.rows+I a.bT+I a.desc+1,by
 simp only[Iw,o8,dN]at ag;rw[<-ag];have al:=al.1;have no:∀{p:Prop} [Decidable p],(a=b->p)->¬p->aa (a=b)=false:=λh ck=>aL λe=>ck (h e);simp only[_o,m1,XG,Xl,Dv];by_cases t:a.kind=b.kind
 case neg=>rw[aL t,no (λe=>by rw[e]) t];rfl
 rw[aH t];by_cases d:a.name=b.name
 case neg=>rw[aL d,no (λe=>by rw[e]) d];rfl
 rw[aH d];by_cases u:a.on=b.on
 case neg=>rw[aL u,no (λe=>by rw[e]) u];rfl
 rw[aH u];by_cases v:a.has=b.has
 case neg=>rw[aL v,no (λe=>by rw[e]) v];rfl
 rw[aH v];by_cases f:a.bH=b.bH
 case neg=>rw[aL f,no (λe=>by rw[e]) f];rfl
 rw[aH f];by_cases g:a.cX=b.cX
 case neg=>rw[aL g,no (λe=>by rw[e]) g];rfl
 rw[aH g];by_cases w:a.names=b.names
 case neg=>rw[aL w,no (λe=>by rw[e]) w];rfl
 rw[aH w];by_cases j:a.order=b.order
 case neg=>rw[aL j,no (λe=>by rw[e]) j];rfl
 rw[aH j];by_cases x:a.l=b.l
 case neg=>rw[aL x,no (λe=>by rw[e]) x];rfl
 rw[aH x];by_cases y:(I a.ay:Int)=(I b.ay:Int)
 case neg=>rw[aL y,no (λe=>by rw[e]) y];rfl
 rw[aH y];by_cases z:(I a.rows:Int)=(I b.rows:Int)
 case neg=>rw[aL z,no (λe=>by rw[e]) z];rfl
 rw[aH z];by_cases F6:(I a.bT:Int)=(I b.bT:Int)
 case neg=>rw[aL F6,no (λe=>by rw[e]) F6];rfl
 rw[aH F6];by_cases n:(I a.desc:Int)=(I b.desc:Int)
 case neg=>rw[aL n,no (λe=>by rw[e]) n];rfl
 rw[aH n];simp only[ef,bj];generalize bf:I a.ay+I a.rows+I a.bT+I a.desc+1=k;refine(A8 a.ay b.ay af (λi=>(ai,(i:Int),a,b)) (J ai) (cond (aa (a.rows=b.rows)) (cond (aa (a.bT=b.bT)) (cond (aa (a.desc=b.desc)) (J ab) (J ai)) (J ai)) (J ai)) (λi h d rec=>?_) (λrec=>?_) k af).trans ?_
 .simp only[Fh,ea h,bd,cg h,cg d,ax,cR (c:=.b2) h,cR (c:=.b2) d,c9 h al.ay.1]
 .simp only[Fh,eu,bj];refine(A8 a.rows b.rows af (λi=>(ai,(i:Int),a,b)) (J ai) (cond (aa (a.bT=b.bT)) (cond (aa (a.desc=b.desc)) (J ab) (J ai)) (J ai)) (λi h d rec=>?_) (λrec=>?_) k af).trans rfl
  .simp only[Fj,ea h,bd,cg h,cg d,ax,cR (c:=.exprs) h,cR (c:=.exprs) d,c9 h al.rows.1,XG]
  .simp only[Fj,eu,bj];refine(A8 a.bT b.bT af (λi=>(ai,(i:Int),a,b)) (J ai) (cond (aa (a.desc=b.desc)) (J ab) (J ai)) (λi h d rec=>?_) (λrec=>?_) k af).trans rfl
   .simp only[Fm,ea h,bd,cg h,cg d,ax,cR (c:=.set) h,cR (c:=.set) d,c9 h al.bT.1,m1,Xl];exact aph _ _ _ _
   .simp only[Fm,eu,bj];refine(A8 a.desc b.desc af (λi=>(ai,(i:Int),a,b)) (J ai) (J ab) (λi h d rec=>?_) (λrec=>?_) k af).trans rfl
    .simp only[Fl,ea h,bd,cg h,cg d,ax,cR (c:=.bool) h,cR (c:=.bool) d,c9 h al.desc]
    .simp only[Fl,eu,bj]
 .by_cases o:a.ay=b.ay
  case neg=>rw[aL o,no (λe=>by rw[e]) o];rfl
  by_cases q:a.rows=b.rows
  case neg=>rw[aH o,aL q,no (λe=>by rw[e]) q];rfl
  by_cases s:a.bT=b.bT
  case neg=>rw[aH o,aH q,aL s,no (λe=>by rw[e]) s];rfl
  by_cases m:a.desc=b.desc
  case neg=>rw[aH o,aH q,aH s,aL m,no (λe=>by rw[e]) m];rfl
  rw[aH o,aH q,aH s,aH m,aH (azH t d u o w x q s v g j m f)];rfl⟩
def We:bn:=⟨27,[(0,.sl .expr ai),(1,.int .i64),(4,.bool),(5,.int .i64)],[],[],0,0,0,[],[]⟩
abbrev QB:=U aq×Int×Bool×Int
def Dr{R:Type}(rec:QB->ae R)(kx:aX->QB->ae R)(v:QB):ae R:=match v with|(v,v1,v2,v3)=>cond (aa (v3<(I v:Int))) (ax (a_ v3 (I v)) (cond (aa (30<(eW (at' .expr v v3)))) (kx .ret (v,v1,ai,v3)) (rec (v,v1,v2,(wr .i64 (v3+1)))))) (kx (.exit 0) (v,v1,v2,v3))
def ain(R:Type)(k:Nat):aR R:=bs [(117,ba Js)] [] [(2,b8 k We (Dr))] []
def VO(k:Nat)(x:aw [fU,an]):ae (aw [.bool]):=match x with
 |(l,least)=>aI (λrec=>Dr rec (λe a=>match a with|(v4,v5,v6,_)=>match e with
  |.ret=>J v6
  |.exit 0=>cond (aa (v5<=(I v4:Int))) (J (aa ((I v4:Int)<=100))) (J ai)
  |_=>aj)) k (l,least,ai,0)
theorem an1(k:Nat):aU 116 [fU,an] [.bool] (VO k):=b6 (px:=ain _ k) (n:=1) Tryz.func116 rfl (λah H=>by have c:bP ah (ain (aw [.bool]) k):=br H (c1 H Q4 bq) bo bp;have a:=cd H c (b:=b0 Tryz.f116 0) (k:=k) (n:=0) (s:=We) (step:=Dr) (λ_ _ _ (_,_,_,_)=>by kernel_rfl) aK;exact⟨c,(b9 aK a)⟩) λ(_,_)=>by kernel_rfl
def mX(l:U aq)(n:Int):Bool:=l.all (λx=>aa (eW x<=30))&&aa (n<=(I l:Int))&&aa (I l<=100)
def RW:bt [fU,an] [.bool]:=λx=>J (mX x.1 x.2)
theorem Se(n:Nat):aa ((n:Int)<=100)=aa (n<=100):=hL.2 af
theorem ayB:aU 116 [fU,an] [.bool] RW:=.fin 0 an1 λ(l,n) r al ag=>⟨I l+1,by
 simp only[RW,mX,dN]at ag;rw[<-ag];simp only[VO];refine(hV (I l) (λi=>(l,n,ai,(i:Int))) (λi=>J ((l.drop i).all (λx=>aa (eW x<=30))&&aa (n<=(I l:Int))&&aa (I l<=100))) (λi a rec b=>?_) (λrec=>?_) (I l+1) 0 (cL _) af).trans iP
 .have e:aa (eW l[i]<=30) = !decide (30<eW l[i]):=by
   by_cases h : 30<eW l[i]
   .rw[aH h,aL af];rfl
   .rw[aL h,aH af];rfl
  simp only[Dr,ea a,bd,cg a,ax,cR (c:=.expr) a,c9 a al.1.1,b,da a,fk,e];cases aa (30<eW l[i])<;>rfl
 .simp only[Dr,eu,bj,Se];rw[gn (bU _)];cases aa (n<=(I l:Int))<;>rfl⟩
theorem ah7{l:U aq}(h:fc l<=10000)(n:Int):mX l n=(k9 l&&aa (n<=(I l:Int))):=by
 have e:l.all (λx=>aa (eW x<=30))=l.all (λx=>e4 x 30):=by
  rw[Bool.eq_iff_iff,dH,dH];refine⟨λag x hm=>?_,λag x hm=>?_⟩
  .have:=nH hm;exact(w9 (cm x) x 30 (bU _) af af).2 (of_decide_eq_true (ag x hm))
  .have:=nH hm;exact aH ((w9 (cm x) x 30 (bU _) af af).1 (ag x hm))
 simp[mX,k9,e];cases l.all (λx=>e4 x 30)<;>cases aa (n<=(I l:Int))<;>cases aa (I l<=100)<;>rfl
theorem ahK(h:cm e<=10000):aa (eW e<=30)=e4 e 30:=by rw[Bool.eq_iff_iff,fQ];exact(w9 (cm e) e 30 (bU _) af af).symm
def aay:bn:=⟨42,[(0,.sl .str ai),(1,.int .i64),(4,.bool),(5,.int .i64),(6,.int .i64)],[],[],0,0,0,[],[]⟩
abbrev LQ:=U ak×Int×Bool×Int×Int
def zq{R:Type}(rec:LQ->ae R)(kx:aX->LQ->ae R)(v:LQ):ae R:=match v with|(v4,v5,v6,bb,bK)=>cond (aa (bK<bb)) (ax (a_ bb (I v4)) (ax (a_ bK (I v4)) (cond (aa ((at' .str v4 bb)=(at' .str v4 bK))) (kx .ret (v4,v5,ai,bb,bK)) (rec (v4,v5,v6,bb,(wr .i64 (bK+1))))))) (kx (.exit 2) (v4,v5,v6,bb,bK))
def aar:bn:=⟨42,[(0,.sl .str ai),(1,.int .i64),(4,.bool),(5,.int .i64)],[],[],0,0,0,[],[]⟩
abbrev Pe:=U ak×Int×Bool×Int
def C2{R:Type}(k:Nat)(rec:Pe->ae R)(kx:aX->Pe->ae R)(v:Pe):ae R:=match v with
 |(v,v1,v2,v3)=>cond (aa (v3<(I v:Int))) (ax (a_ v3 (I v)) (cond (!(q4 (at' .str v v3))) (kx .ret (v,v1,ai,v3)) (aI (λd=>zq d (λe f=>match f with|(v9,a,b,c,_)=>match e with
   |.ret=>kx .ret (v9,a,b,c)
   |.exit 2=>rec (v9,a,b,(wr .i64 (c+1)))
   |_=>aj)) k (v,v1,v2,v3,0)))) (kx (.exit 0) (v,v1,v2,v3))
def afQ(R:Type)(k:Nat):aR R:=bs [(114,ba zF)] [] [(7,b8 k aay (zq)),(2,b8 k aar (C2 k))] []
def aba(k:Nat)(x:aw [dX,an]):ae (aw [.bool]):=match x with
 |(l,least)=>aI (λrec=>C2 k rec (λe d=>match d with|(a,b,c,_)=>match e with
  |.ret=>J c
  |.exit 0=>cond (aa (b<=(I a:Int))) (J (aa ((I a:Int)<=100))) (J ai)
  |_=>aj)) k (l,least,ai,0)
theorem avq(k:Nat):aU 115 [dX,an] [.bool] (aba k):=b6 (px:=afQ _ k) (n:=2) Tryz.func115 rfl (λah H=>by have d:bP ah (afQ (aw [.bool]) k):=br H (c1 H IG bq) bo bp;have a:=cd H d (b:=vN (b0 Tryz.f115 0) 0) (k:=k) (n:=0) (s:=aay) (step:=zq) (λ_ _ _ (_,_,_,_,_)=>by kernel_rfl) aK;have c:=cd H d (b:=b0 Tryz.f115 0) (k:=k) (n:=1) (s:=aar) (step:=C2 k) (λ_ _ _ (_,_,_,_)=>by kernel_rfl) (b9 aK a);exact⟨d,(b9 (b9 aK c) a)⟩) λ(_,_)=>by kernel_rfl
def oy(l:U ak)(n:Int):Bool:=hH l&&aa (n<=(I l:Int))
def ML:bt [dX,an] [.bool]:=λx=>J (oy x.1 x.2)
variable{i:Nat}
theorem amt{kx:aX->LQ->ae R}{l:U ak}{n:Int}{c:Bool->ae R}(f:b1 (I l))(d:i<I l)(g:∀j,kx .ret (l,n,ai,(i:Int),j)=c ab)(m:∀j,kx (.exit 2) (l,n,ai,(i:Int),j)=c ai)(k:Nat)(r:i<k) :
  aI (λrec=>zq rec kx) k (l,n,ai,(i:Int),0)=c ((l.take i).contains l[i]):=by
 refine(hV i (λj=>(l,n,ai,(i:Int),(j:Int))) (λj=>c (((l.take i).drop j).contains l[i])) (λj o rec p=>?_) (λrec=>?_) k 0 (cL _) af).trans iP
 .have a:j<I l:=af
  have b:j<I (l.take i):=S9
  have e:(l.take i)[j]=l[j]:=List.getElem_take;simp only[zq,ea o,bd,cg d,cg a,ax,cR (c:=.str) d,cR (c:=.str) a,c9 a f,p,g,da b,List.contains_cons,e];by_cases h:l[i]=l[j]
  .rw[aH h,h];simp
  .have q:(l[i] == l[j])=false:=beq_eq_false_iff_ne.2 h;rw[aL h,q];rfl
 .simp only[zq,eu,bj,m];rw[gn S9];rfl
theorem aoJ:aU 115 [dX,an] [.bool] ML:=.fin 0 avq λ(l,n) r al ag=>⟨I l+1,by
 simp only[ML,oy,dN]at ag;rw[<-ag];simp only[aba];refine(hV (I l) (λi=>(l,n,ai,(i:Int))) (λi=>J (oA (l.take i) (l.drop i)&&aa (I l<=100)&&aa (n<=(I l:Int)))) (λi a rec d=>?_) (λrec=>?_) (I l+1) 0 (cL _) af).trans (by rw[iW,List.take_zero];rfl)
 .simp only[C2,ea a,bd,cg a,ax,cR (c:=.str) a,K7,da a,oA];cases e:eQ l[i]with
  |false=>rfl
  |true=>
   rw[ef,bj];refine(amt (c:=λb=>cond b (J ai) (J (oA (l.take (i+1)) (l.drop (i+1))&&aa (I l<=100)&&aa (n<=(I l:Int))))) al.1.1 a (λ_=>?_) (λ_=>?_) (I l+1) af).trans ?_
   .rfl
   .show rec (l,n,ai,wr .i64 ((i:Int)+1))=_;rw[c9 a al.1.1,d];rfl
   .rw[abt a];cases (l.take i).contains l[i]<;>rfl
 .simp only[C2,eu,bj,Se];rw[gn (bU _)];simp only[oA];cases aa (n<=(I l:Int))<;>cases aa (I l<=100)<;>rfl⟩
noncomputable section
def Yf:bn:=⟨259,[(4,.bool),(5,.sl .str ab),(9,.int .i64)],[(1,.ptr 0 0),(3,.ptr 1 0)],[(0,.one (.bm .stmt)),(1,.one (.bm .stmt))],2,0,0,[],[]⟩
abbrev H':=Bool×U ak×Int×aP×aP
def zN{R:Type}(rec:H'->ae R)(kx:aX->H'->ae R)(v:H'):ae R:=match v with|(c,b,a,cH,cK)=>cond (aa (a<(I cH.bT:Int))) (ax (a_ a (I cH.bT)) (ax (aa (I b+1<=bY)) (cond (c) (ax (a_ a (I cH.bT)) (rec (aa ((eW (gv ((at' .set cH.bT a).e)))<=30),(b++[((at' .set cH.bT a).name)]),(wr .i64 (a+1)),cH,cK))) (rec (ai,(b++[((at' .set cH.bT a).name)]),(wr .i64 (a+1)),cH,cK))))) (kx (.exit 5) (c,b,a,cH,cK))
def WW:bn:=⟨259,[(4,.bool),(8,.int .i64)],[(1,.ptr 0 0),(3,.ptr 1 0)],[(0,.one (.bm .stmt)),(1,.one (.bm .stmt))],2,0,0,[],[]⟩
abbrev Iv:=Bool×Int×aP×aP
def wE{R:Type}(rec:Iv->ae R)(kx:aX->Iv->ae R)(v:Iv):ae R:=match v with|(bK,v9,b4,cv)=>cond (aa (v9<(I b4.rows:Int))) (cond (bK) (ax (a_ v9 (I b4.rows)) (rec ((mX (at' .exprs b4.rows v9) 1),(wr .i64 (v9+1)),b4,cv))) (rec (ai,(wr .i64 (v9+1)),b4,cv))) (kx (.exit 3) (bK,v9,b4,cv))
def Wu:bn:=⟨259,[(4,.bool),(5,.sl .str ab),(6,.int .i64)],[(1,.ptr 0 0),(3,.ptr 1 0)],[(0,.one (.bm .stmt)),(1,.one (.bm .stmt))],2,0,0,[],[]⟩
abbrev Ip:=Bool×U ak×Int×aP×aP
def Af{R:Type}(rec:Ip->ae R)(kx:aX->Ip->ae R)(v:Ip):ae R:=match v with
 |(v,v1,v2,w,w1)=>
 cond (aa (v2<(I w.ay:Int))) (
  ax (a_ v2 (I w.ay)) (
  ax (aa (I v1+1<=bY)) (
   let a:=λ(ki:Bool)=>
   let j:=λ(b:Bool)=>
    cond (b) (
    cond (aa (((at' .b2 w.ay v2).ref)=[])) (
     rec (ab,(v1++[((at' .b2 w.ay v2).name)]),(wr .i64 (v2+1)),w,w1)) (
     rec ((q4 ((at' .b2 w.ay v2).ref)),(v1++[((at' .b2 w.ay v2).name)]),(wr .i64 (v2+1)),w,w1))) (
    rec (ai,(v1++[((at' .b2 w.ay v2).name)]),(wr .i64 (v2+1)),w,w1))
   cond (ki) (
    j (aa ((at' .b2 w.ay v2).kind<=5))) (
    j ai)
   cond (v) (
   a (aa (2<=(at' .b2 w.ay v2).kind))) (
   a ai)))) (
  kx (.exit 1) (v,v1,v2,w,w1))
def af7(R:Type)(k:Nat):aR R:=bs [(114,ba zF),(115,ba ML),(116,ba RW),(117,ba Js),(32,ba Iw)] [] [(7,b8 k Wu (Af)),(24,b8 k WW (wE)),(30,b8 k Yf (zN))] []
def PN(k:Nat)(x:aw [cG]):ae (aw [an]):=match x with
 |s=>
 let a:Bool->ae (aw [an]):=λ(p3:Bool)=>
  let u:Bool->aP->aP->ae (aw [an]):=λ(b:Bool) (q:aP) (bc:aP)=>
  let w:Bool->aP->ae (aw [an]):=λ(f:Bool) (ep:aP)=>
   cond (!f) (
   J 2) (
   cond (!(o8 ep q)) (
    J 2) (
    J 0))
  let y:Bool->ae (aw [an]):=λ(g:Bool)=>
   cond (g) (
   cond (b) (
    w (aa ((eW (gv q.cX))<=30)) (aP.mk bc.kind bc.name bc.on bc.ay bc.names bc.l bc.rows bc.bT ab (gv q.cX) bc.order bc.desc bc.bH)) (
    w ai (aP.mk bc.kind bc.name bc.on bc.ay bc.names bc.l bc.rows bc.bT ab (gv q.cX) bc.order bc.desc bc.bH))) (
   w b bc)
  let vL:Bool->ae (aw [an]):=λ(h:Bool)=>
   cond (h) (
   y q.has) (
   cond (aa (q.kind=8)) (
    y q.has) (
    y ai))
  cond (aa (q.kind=6)) (
   vL ab) (
   vL (aa (q.kind=7)))
  cond (aa (s.kind=1)) (
  aI (λrec=>Af rec (λe v=>match v with|(v3,v4,_,v6,bb)=>match e with
   |.exit 1=>
   let ih:Bool->ae (aw [an]):=λ(F':Bool)=>
    cond (F') (
    cond (oy v6.names 1) (
     u (mX v6.l 0) v6 (aP.mk bb.kind bb.name bb.on v6.ay v6.names v6.l bb.rows bb.bT bb.has (gv bb.cX) bb.order bb.desc bb.bH)) (
     u ai v6 (aP.mk bb.kind bb.name bb.on v6.ay v6.names v6.l bb.rows bb.bT bb.has (gv bb.cX) bb.order bb.desc bb.bH))) (
    u ai v6 (aP.mk bb.kind bb.name bb.on v6.ay v6.names v6.l bb.rows bb.bT bb.has (gv bb.cX) bb.order bb.desc bb.bH))
   cond (v3) (
    ih (oy v4 1)) (
    ih ai)
   |_=>aj)) k (p3,[],0,s,(aP.mk s.kind s.name [] [] [] [] [] [] ai (aq.mk 0 ⟨0,0,[]⟩ [] []) [] [] 0))) (
  cond (aa (s.kind=3)) (
   cond (p3) (
   cond (q4 s.on) (
    u (oy s.names 1) s (aP.mk s.kind s.name s.on [] s.names [] [] [] ai (aq.mk 0 ⟨0,0,[]⟩ [] []) [] [] 0)) (
    u ai s (aP.mk s.kind s.name s.on [] s.names [] [] [] ai (aq.mk 0 ⟨0,0,[]⟩ [] []) [] [] 0))) (
   u ai s (aP.mk s.kind s.name s.on [] s.names [] [] [] ai (aq.mk 0 ⟨0,0,[]⟩ [] []) [] [] 0))) (
   cond (aa (s.kind=5)) (
   let z:Bool->ae (aw [an]):=λ(i:Bool)=>
    aI (λrec=>wE rec (λe v=>match v with|(j,_,m,n)=>match e with
    |.exit 3=>u j m n
    |_=>aj)) k (i,0,s,(aP.mk s.kind s.name [] [] [] [] s.rows [] ai (aq.mk 0 ⟨0,0,[]⟩ [] []) [] [] 0))
   cond (p3) (
    cond (aa (1<=(I s.rows:Int))) (
    z (aa ((I s.rows:Int)<=100))) (
    z ai)) (
    z ai)) (
   cond (aa (s.kind=6)) (
    aI (λrec=>zN rec (λe v=>match v with|(o,p,_,c,d)=>match e with
    |.exit 5=>
     cond (o) (
     u (oy p 1) c d) (
     u ai c d)
    |_=>aj)) k (p3,[],0,s,(aP.mk s.kind s.name [] [] [] [] [] s.bT ai (aq.mk 0 ⟨0,0,[]⟩ [] []) [] [] 0))) (
    cond (aa (s.kind=8)) (
    let q':Bool->ae (aw [an]):=λ(r:Bool)=>
     let nq:Bool->ae (aw [an]):=λ(t:Bool)=>
     cond (t) (
      cond (aa ((I s.desc:Int)=(I s.order:Int))) (
      u (aa ((-1)<=s.bH)) s (aP.mk s.kind s.name [] [] [] s.l [] [] ai (aq.mk 0 ⟨0,0,[]⟩ [] []) s.order s.desc s.bH)) (
      u ai s (aP.mk s.kind s.name [] [] [] s.l [] [] ai (aq.mk 0 ⟨0,0,[]⟩ [] []) s.order s.desc s.bH))) (
      u ai s (aP.mk s.kind s.name [] [] [] s.l [] [] ai (aq.mk 0 ⟨0,0,[]⟩ [] []) s.order s.desc s.bH))
     cond (r) (
     nq (oy s.order 0)) (
     nq ai)
    cond (p3) (
     q' (mX s.l 0)) (
     q' ai)) (
    u p3 s (aP.mk s.kind s.name [] [] [] [] [] [] ai (aq.mk 0 ⟨0,0,[]⟩ [] []) [] [] 0))))))
 cond (q4 s.name) (
  cond (aa (1<=s.kind)) (
  a (aa (s.kind<=8))) (
  a ai)) (
  a ai)
theorem ap3(k:Nat):aU 54 [cG] [an] (PN k):=b6 (px:=af7 _ k) (n:=3) Tryz.func54 rfl (λah H=>by have e:bP ah (af7 (aw [an]) k):=br H (c1 H IG (c1 H aoJ (c1 H ayB (c1 H Q4 (c1 H V3 bq))))) bo bp;have a:=cd H e (b:=b0 Tryz.f54 0) (k:=k) (n:=0) (s:=Wu) (step:=Af) (λ_ _ _ (_,_,_,_,_)=>by kernel_rfl) aK;have c:=cd H e (b:=b0 Tryz.f54 1) (k:=k) (n:=0) (s:=WW) (step:=wE) (λ_ _ _ (_,_,_,_)=>by kernel_rfl) aK;have d:=cd H e (b:=b0 Tryz.f54 2) (k:=k) (n:=0) (s:=Yf) (step:=zN) (λ_ _ _ (_,_,_,_,_)=>by kernel_rfl) aK;exact⟨e,(b9 (b9 (b9 aK a) c) d)⟩) λ_=>by kernel_rfl
noncomputable def oX(s:aP):ae Int:=@ite _ (gP s) (Classical.propDecidable _) (J (cond (ei s) 0 2)) aj
def wj:bt [cG] [an]:=λx=>oX x
variable{o:aP}{w:aP}
theorem arl{kx:aX->Ip->ae R}{c:Bool->U ak->ae R}(j:I w.ay<=5100)(e:∀v cW i,kx (.exit 1) (v,cW,i,w,o)=c v cW)(k:Nat)(l:I w.ay<k)(v:Bool) :
  aI (λrec=>Af rec kx) k (v,[],0,w,o)=c (v&&w.ay.all jC) (w.ay.map (·.name)):=by
 have f:b1 (I w.ay):=iC
 refine(lB (I w.ay) (λi v=>(v,(w.ay.take i).map (·.name),(i:Int),w,o)) (λ_ _=>True) (λi v=>c (v&&(w.ay.drop i).all jC) (w.ay.map (·.name))) (λi a v _ rec d=>?_) (λv _ rec=>?_) k 0 v (cL _) af trivial).trans iP
 .have g:(w.ay.take (i+1)).map (·.name)=(w.ay.take i).map (·.name)++[w.ay[i].name]:=KA
  have b:I ((w.ay.take i).map (·.name))+1<=bY:=KB
  have d:=λh=>d h trivial;simp only[g]at d;simp only[Af,ea a,bd,cg a,ax,cR (c:=.b2) a,c9 a f,da a,fk,aH b,K7,jC];simp only[d];generalize aa (2<=w.ay[i].kind)=bc;generalize aa (w.ay[i].kind<=5)=ep;generalize aa (w.ay[i].ref=[])=fr;generalize eQ w.ay[i].ref=kj;cases v<;>cases bc<;>cases ep<;>cases fr<;>cases kj<;>rfl
 .simp only[Af,eu,bj,e];rw[gn (bU _),List.take_length];simp
theorem arG{kx:aX->Iv->ae R}{c:Bool->ae R}(b:b1 (I w.rows))(d:∀v i,kx (.exit 3) (v,i,w,o)=c v)(k:Nat)(g:I w.rows<k)(v:Bool) :
  aI (λrec=>wE rec kx) k (v,0,w,o)=c (v&&w.rows.all λr=>mX r 1):=by
 refine(lB (I w.rows) (λi v=>(v,(i:Int),w,o)) (λ_ _=>True) (λi v=>c (v&&(w.rows.drop i).all λr=>mX r 1)) (λi a v _ rec e=>?_) (λv _ rec=>?_) k 0 v (cL _) af trivial).trans iP
 .simp only[wE,ea a,bd,cg a,ax,cR (c:=.exprs) a,c9 a b,da a,fk,(λf=>e f trivial)];generalize mX w.rows[i] 1=bc;cases v<;>cases bc<;>rfl
 .simp only[wE,eu,bj,d];rw[gn (bU _)];simp
theorem arN{kx:aX->H'->ae R}{c:Bool->U ak->ae R}(l:I w.bT<=5100)(f:∀v cW i,kx (.exit 5) (v,cW,i,w,o)=c v cW)(k:Nat)(m:I w.bT<k)(v:Bool) :
  aI (λrec=>zN rec kx) k (v,[],0,w,o)=c (v&&w.bT.all λx=>aa (eW x.e<=30)) (w.bT.map (·.name)):=by
 have g:b1 (I w.bT):=iC
 refine(lB (I w.bT) (λi v=>(v,(w.bT.take i).map (·.name),(i:Int),w,o)) (λ_ _=>True) (λi v=>c (v&&(w.bT.drop i).all λx=>aa (eW x.e<=30)) (w.bT.map (·.name))) (λi a v _ rec d=>?_) (λv _ rec=>?_) k 0 v (cL _) af trivial).trans iP
 .have h:(w.bT.take (i+1)).map (·.name)=(w.bT.take i).map (·.name)++[w.bT[i].name]:=KA
  have b:I ((w.bT.take i).map (·.name))+1<=bY:=KB
  have d:=λj=>d j trivial;simp only[h]at d;simp only[zN,ea a,bd,cg a,ax,cR (c:=.set) a,c9 a g,da a,fk,aH b,m1];simp only[d];generalize aa (eW w.bT[i].e<=30)=bc;cases v<;>cases bc<;>rfl
 .simp only[zN,eu,bj,f];rw[gn (bU _),List.take_length];simp
theorem aiq(s own:aP)(ok:Bool):cond (!ok) (J (2:Int)) (cond (!o8 own s) (J 2) (J 0))=J (cond (ok&&aa (own=s)) 0 2):=by simp[o8];cases ok<;>cases aa (own=s)<;>rfl
theorem Qz(l:U ak):oy l 1=(g_ (I l:Int)&&hH l):=by rw[Qk];simp[oy,hH];rw[show aa ((1:Int)<=(I l:Int))=aa (1<=I l) from hL.2 af];cases oA [] l<;>cases aa (1<=I l)<;>cases aa (I l<=100)<;>rfl
theorem apc(l:U ak):oy l 0=hH l:=by simp only[oy];rw[aH (show(0:Int)<=(I l:Int) by omega),Bool.and_true]
theorem ay8{l:U aq}(h:fc l<=10000):mX l 0=k9 l:=by rw[ah7 h,aH (show(0:Int)<=(I l:Int) by omega),Bool.and_true]
theorem ayw{l:U aq}(h:fc l<=10000):mX l 1=uk l:=by
 rw[ah7 h,uk];by_cases e:I l=0
 .grind
 .grind
theorem Wg{l:U α}{p q : α->Bool}(h:∀x,x∈l->p x=q x):l.all p=l.all q:=im
theorem aCR(a:s.kind=1):aa (aP.mk s.kind s.name [] s.ay s.names s.l [] [] ai hP [] [] 0=s)=aa (hW s=h1):=NW
theorem aCk(a:s.kind=2\/s.kind=4):aa (aP.mk s.kind s.name [] [] [] [] [] [] ai hP [] [] 0=s)=aa (hW s=h1):=by obtain⟨k,a7,on,ay,names,l,rows,bT,has,cX,order,desc,bH⟩:=s;simp only at a;rcases a with rfl|rfl<;>exact hL.2 ⟨λh=>by simp_all [hW,h1],λh=>by simp_all [hW,h1]⟩
theorem aCM(a:s.kind=3):aa (aP.mk s.kind s.name s.on [] s.names [] [] [] ai hP [] [] 0=s)=aa (hW s=h1):=NW
theorem aCd(a:s.kind=5):aa (aP.mk s.kind s.name [] [] [] [] s.rows [] ai hP [] [] 0=s)=aa (hW s=h1):=NW
theorem aCV(a:s.kind=6)(b:s.has=ab):aa (aP.mk s.kind s.name [] [] [] [] [] s.bT ab s.cX [] [] 0=s)=aa (hW s=h1):=RM
theorem aBP(a:s.kind=6)(b:s.has=ai):aa (aP.mk s.kind s.name [] [] [] [] [] s.bT ai hP [] [] 0=s)=(aa (hW s=h1)&&aa (s.cX=hP)):=NY
theorem aCg(a:s.kind=7)(b:s.has=ab):aa (aP.mk s.kind s.name [] [] [] [] [] [] ab s.cX [] [] 0=s)=aa (hW s=h1):=RM
theorem aB4(a:s.kind=7)(b:s.has=ai):aa (aP.mk s.kind s.name [] [] [] [] [] [] ai hP [] [] 0=s)=(aa (hW s=h1)&&aa (s.cX=hP)):=NY
theorem aCE(a:s.kind=8)(b:s.has=ab):aa (aP.mk s.kind s.name [] [] [] s.l [] [] ab s.cX s.order s.desc s.bH=s)=aa (hW s=h1):=RM
theorem aBV(a:s.kind=8)(b:s.has=ai):aa (aP.mk s.kind s.name [] [] [] s.l [] [] ai hP s.order s.desc s.bH=s)=(aa (hW s=h1)&&aa (s.cX=hP)):=NY
def jW(p:Bool)(s own:aP):ae Int:=cond ((aa (s.kind=6)||decide (s.kind=7)||decide (s.kind=8))&&s.has) (cond (!(p&&aa (eW s.cX<=30))) (J 2) (cond (!o8 ⟨own.kind,own.name,own.on,own.ay,own.names,own.l,own.rows,own.bT,ab,s.cX,own.order,own.desc,own.bH⟩ s) (J 2) (J 0))) (cond (!p) (J 2) (cond (!o8 own s) (J 2) (J 0)))
theorem xT(h:¬(s.kind=6\/s.kind=7\/s.kind=8)\/s.has=ai)(p:Bool)(own:aP):jW p s own=J (cond (p&&aa (own=s)) 0 2):=by
 have e:((aa (s.kind=6)||decide (s.kind=7)||decide (s.kind=8))&&s.has)=false:=im
 simp only[jW,e];exact aiq s own p
theorem QU(h:s.kind=6\/s.kind=7\/s.kind=8)(b:s.has=ab)(a:gP s)(p:Bool)(own:aP):jW p s own=J (cond (p&&e4 s.cX 30&&aa (aP.mk own.kind own.name own.on own.ay own.names own.l own.rows own.bT ab s.cX own.order own.desc own.bH=s)) 0 2):=by
 have e:((aa (s.kind=6)||decide (s.kind=7)||decide (s.kind=8))&&s.has)=true:=im
 have ar:=ahK (show cm s.cX<=10000 by have:=a.cX;omega);simp only[jW,e,ar];exact aiq s _ _
theorem A6(b p:Bool)(s o:aP):cond b (jW p s o) (jW ai s o)=jW (b&&p) s o:=by cases b<;>rfl
theorem QY(h:s.has=ab):mz s=e4 s.cX 30:=by rw[V8,h];rfl
theorem Qv(h:s.has=ai):mz s=aa (s.cX=hP):=by rw[V8,h];rfl
theorem aAE(k:Nat)(s:aP)(al:qq s)(cb:gP s)(bf:pQ s<=k):PN k s=J (cond (ei s) 0 2):=by
 simp only[pQ]at bf;simp -zeta only [PN,K7];extract_lets e0 L8 n7 nq q' f;subst e0;have a3:f (eQ s.name&&aa (1<=s.kind)&&aa (s.kind<=8))=J (cond (ei s) 0 2):=by
  generalize aW:(eQ s.name&&aa (1<=s.kind)&&aa (s.kind<=8))=p;simp -zeta only [f];have vI:∀p q bc,L8 p q bc=jW p q bc:=λp q bc=>by simp only[L8,jW,m1];generalize aa (q.kind=6)=iZ;generalize aa (q.kind=7)=iK;generalize aa (q.kind=8)=jF;generalize q.has=n0;cases p<;>cases iZ<;>cases iK<;>cases jF<;>cases n0<;>rfl
  have a4:L8=jW:=funext λp=>funext λq=>funext λbc=>vI p q bc;simp -zeta only [n7,q',nq];clear f q' nq n7;clear vI;clear_value L8;subst a4;have bz:mX s.l 0=k9 s.l:=ay8 (by have:=cb.l;omega);have eb:(s.bT.all λx=>aa (eW x.e<=30))=s.bT.all λx=>e4 x.e 30:=Wg λx ag=>ahK (by have:=cb.bT.2 x ag;omega);have cK:(s.rows.all λr=>mX r 1)=s.rows.all uk:=Wg λr aF=>ayw (by have:=cb.rows.2 r aF;omega);have ag:aq.mk 0 ⟨0,0,[]⟩ [] []=hP:=rfl;have Cz:∀{n:Int},s.kind=n->1<=n->n<=8->p=eQ s.name:=λ{n} h a b=>by rw[<-aW,aH (show 1<=s.kind by omega),aH (show s.kind<=8 by omega),Bool.and_true,Bool.and_true]
  by_cases t:s.kind=1
  .rw[aH t,bd];refine(arl (c:=λv cW=>cond v (cond (oy cW 1) (cond (oy s.names 1) (jW (mX s.l 0) s (aP.mk s.kind s.name [] s.ay s.names s.l [] [] ai hP [] [] 0)) (jW ai s (aP.mk s.kind s.name [] s.ay s.names s.l [] [] ai hP [] [] 0))) (jW ai s (aP.mk s.kind s.name [] s.ay s.names s.l [] [] ai hP [] [] 0))) (jW ai s (aP.mk s.kind s.name [] s.ay s.names s.l [] [] ai hP [] [] 0))) cb.ay (λ_ _ _=>rfl) k af p).trans ?_;simp only[A6,Qz,bz];rw[xT (.inl af),aCR t,Cz t af af,ei,if_pos t];simp only[List.length_map];congr 2
   ac_rfl
  rw[aL t,bj];by_cases u:s.kind=3
  .rw[aH u,bd];simp only[A6,Qz,ag];rw[xT (.inl af),aCM u,Cz u af af,ei,if_neg t,if_pos u];congr 2
   ac_rfl
  rw[aL u,bj];by_cases z:s.kind=5
  .rw[aH z,bd];have hit:=λd=>arG (w:=s) (o:=aP.mk s.kind s.name [] [] [] [] s.rows [] ai hP [] [] 0) (c:=λv=>jW v s (aP.mk s.kind s.name [] [] [] [] s.rows [] ai hP [] [] 0)) (kx:=λe eA=>match eA with|(g,_,i,j)=>match e with
    |.exit 3=>jW g i j
    |_=>aj) al.rows.1 (λ_ _=>rfl) k af d
   have e:∀d,aI (λrec=>wE rec (λe eA=>match eA with|(g,_,i,j)=>match e with
    |.exit 3=>jW g i j
    |_=>aj)) k (d,0,s,(aP.mk s.kind s.name [] [] [] [] s.rows [] ai hP [] [] 0))=jW (d&&s.rows.all λr=>mX r 1) s (aP.mk s.kind s.name [] [] [] [] s.rows [] ai hP [] [] 0):=hit
   show cond p (cond (aa (1<=(I s.rows:Int))) (aI _ k (_,0,s,(aP.mk s.kind s.name [] [] [] [] s.rows [] ai hP [] [] 0))) (aI _ k (_,0,s,(aP.mk s.kind s.name [] [] [] [] s.rows [] ai hP [] [] 0)))) (aI _ k (_,0,s,(aP.mk s.kind s.name [] [] [] [] s.rows [] ai hP [] [] 0)))=_;rw[e,e,Bool.false_and,A6,A6,cK];rw[xT (.inl af),aCd z,Cz z af af,ei,if_neg t,if_neg u,if_neg af,if_pos z,wI,Qk,Se,show aa ((1:Int)<=(I s.rows:Int))=aa (1<=I s.rows) from hL.2 af];congr 2
   ac_rfl
  rw[aL z,bj];by_cases y:s.kind=6
  .rw[aH y,bd];refine(arN (c:=λv cW=>cond v (jW (oy cW 1) s (aP.mk s.kind s.name [] [] [] [] [] s.bT ai hP [] [] 0)) (jW ai s (aP.mk s.kind s.name [] [] [] [] [] s.bT ai hP [] [] 0))) cb.bT.1 (λ_ _ _=>rfl) k af p).trans ?_;simp only[A6,Qz,eb];rw[ei,if_neg t,if_neg u,if_neg af,if_neg z,if_pos y,Cz y af af];simp only[List.length_map];cases m:s.has with
   |true=>
    rw[QU (.inl y) m cb,aCV y m,QY m];congr 2
    ac_rfl
   |false=>
    rw[xT (.inr m),aBP y m,Qv m];congr 2
    ac_rfl
  rw[aL y,bj];by_cases j0:s.kind=8
  .rw[aH j0,bd];simp only[A6,apc,ag,bz];have gQ:∀(b:Bool) (P Q:Bool),cond b (jW P s (aP.mk s.kind s.name [] [] [] s.l [] [] ai hP s.order s.desc s.bH)) (jW (ai&&Q) s (aP.mk s.kind s.name [] [] [] s.l [] [] ai hP s.order s.desc s.bH))=jW (b&&P) s (aP.mk s.kind s.name [] [] [] s.l [] [] ai hP s.order s.desc s.bH):=λb P Q=>by cases b<;>rfl
   simp only[gQ];have de:aa ((I s.desc:Int)=(I s.order:Int))=aa (I s.desc=I s.order):=hL.2 af;rw[ei,if_neg t,if_neg u,if_neg af,if_neg z,if_neg y,if_neg af,if_pos j0,Cz j0 af af,de];cases m:s.has with
   |true=>
    rw[QU (.inr (.inr j0)) m cb,aCE j0 m,QY m];congr 2
    ac_rfl
   |false=>
    rw[xT (.inr m),aBV j0 m,Qv m];congr 2
    ac_rfl
  rw[aL j0,bj,ag];by_cases jJ:s.kind=7
  .rw[ei,if_neg t,if_neg u,if_neg af,if_neg z,if_neg y,if_pos jJ,Cz jJ af af];cases m:s.has with
   |true=>
    rw[QU (.inr (.inl jJ)) m cb,aCg jJ m,QY m];congr 2
    ac_rfl
   |false=>
    rw[xT (.inr m),aB4 jJ m,Qv m];congr 2
    ac_rfl
  rw[xT (.inl af),ei,if_neg t,if_neg u];by_cases a2:s.kind=2\/s.kind=4
  .rw[if_pos a2,aCk a2,<-aW,aH (show 1<=s.kind by omega),aH (show s.kind<=8 by omega)];congr 2
   ac_rfl
  .have a5:p=false:=by
    rw[<-aW];by_cases q : 1<=s.kind
    .rw[aL (show ¬s.kind<=8 by omega),Bool.and_false]
    .rw[aL q,Bool.and_false,Bool.false_and]
   rw[if_neg a2,if_neg z,if_neg y,if_neg jJ,if_neg j0,a5,Bool.and_false];rfl
 rw[<-a3];cases eQ s.name<;>cases aa (1<=s.kind)<;>cases aa (s.kind<=8)<;>rfl
theorem CS:aU 54 [cG] [an] wj:=.fin 0 ap3 λs r al ag=>⟨pQ s,by
 simp only[wj,oX]at ag;split at ag
 .rename_i h;exact(aAE (pQ s) s al h (bU _)).trans ag
 .cases ag⟩
theorem zA(h:gP s):oX s=J (cond (ei s) 0 2):=if_pos h
end
noncomputable section
theorem ms{n:Nat}(h:n<=1000000000000):aa (n<=c0)=true:=aH (by simp[c0];omega)
def axa(R:Type):aR R:=bs [] [] [] []
def Tx(x:aw [.str,.str]):ae (aw [.str]):=match x with|(s,more)=>cond (aa (s=[])) (J more) (ax (aa (I s+I [44,32]<=c0)) (ax (aa (I (s++[44,32])+I more<=c0)) (J ((s++[44,32])++more))))
theorem asJ:aU 58 [.str,.str] [.str] (Tx):=b6 (px:=axa _) (n:=0) Tryz.func58 rfl (λ_ H=>⟨br H bq bo bp,aK⟩) λ(_,_)=>by kernel_rfl
def wC(s more:ak):ae ak:=Tx (s,more)
def Qu:bt [.str,.str] [.str]:=λx=>wC x.1 x.2
theorem X7:aU 58 [.str,.str] [.str] Qu:=.er asJ λ_ _ _ ag=>ag
variable{m:ak}
theorem av3{s:ak}(h:I s+I m<=100000000000):wC s m=J (if s=[]then m else s++([44,32]++m)):=by
 simp only[wC,Tx];by_cases e:s=[]
 .grind
 .rw[aL e,if_neg e,ms hF,ms hF];simp[ ax,bd]
theorem WJ{α:Type}(f : α->ak):∀a b:U α,iG f (a++b)=iG f a++iG f b
 |[],b=>rfl
 |x::a,b=>by simp[ iG,WJ f a b]
theorem abX(f : α->ak)(h:a≠[])(b:U α):gW f (a++b)=gW f a++iG f b:=by cases a with|nil=>exact absurd rfl h|cons x a=>simp[ gW,WJ]
theorem apE{f : α->ak}{l:U α}(a:∀x,x∈l->f x≠[]):gW f l=[]↔l=[]:=by cases l with|nil=>simp[gW]|cons x l=>have:=a x jy;simp[gW,this]
theorem auZ(f : α->ak)(x : α):gW f [x]=f x:=by simp[gW,iG]
theorem aAn{l:U α}(a:i<I l):l.take (i+1)=l.take i++[l[i]]:=by simp_all
theorem aa1{step:(V->ae R)->V->ae R}(l:U α)(f : α->ak)(st:Nat->ak->V)(c:ae R)(b:∀x,x∈l->f x≠[])(h:I (gW f l)<=95000000000)
  (j:∀i (d:i<I l) (acc:ak) rec,step rec (st i acc)=(wC acc (f l[i])).bind λx=>rec (st (i+1) x)) (q:∀rec,step rec (st (I l) (gW f l))=c) (k:Nat) (r:I l<k):aI step k (st 0 [])=c:=by
 refine(hV (I l) (λi=>st i (gW f (l.take i))) (λ_=>c) (λi d rec m=>?_) (λrec=>?_) k 0 (cL _) af)
 .have n:gW f l=gW f (l.take (i+1))++iG f (l.drop (i+1)):=by rw[<-abX f (λe=>by have:=congrArg List.length e;rw[jL,dB]at this;omega),List.take_append_drop]
  have o:=congrArg List.length n;have p:gW f (l.take (i+1))=if gW f (l.take i)=[]then f l[i]else gW f (l.take i)++([44,32]++f l[i]):=by
   rw[aAn d];by_cases g:l.take i=[]
   .rw[g,nX,auZ,if_pos (show gW f ([]:U α)=[] from rfl)]
   .rw[abX f g,if_neg (λe=>g ((apE λx ag=>b x (List.mem_of_mem_take ag)).1 e))];simp[iG]
  have a:I (gW f (l.take i))+I (f l[i])<=100000000000:=im
  rw[j i d,av3 a,<-p];exact m
 .grind
def aAz(R:Type)(rf:bt [bC] [.str]):aR R:=bs [(118,ba Qt),(55,ba rf)] [(55,jK rf),(119,jK CX)] [] []
def tl(rf:bt [bC] [.str])(x:aw [bC]):ae (aw [.str]):=match x with|e=>cond (aa (e.kind=1)) (J (ac0 e.v)) (cond (aa (e.kind=2)) (J e.name) (cond (aa (e.kind=3)) (ax (a_ 0 (I e.l)) ((rf (at' .expr e.l 0)).bind λx=>ax (aa (I [40,78,79,84,32]+I x<=c0)) (ax (aa (I ([40,78,79,84,32]++x)+I [41]<=c0)) (J (([40,78,79,84,32]++x)++[41]))))) (cond (aa (e.kind=15)) (ax (a_ 0 (I e.l)) ((rf (at' .expr e.l 0)).bind λb=>ax (aa (I [40,45]+I b<=c0)) (ax (aa (I ([40,45]++b)+I [41]<=c0)) (J (([40,45]++b)++[41]))))) (cond (aa (e.kind=16)) (ax (a_ 0 (I e.l)) ((rf (at' .expr e.l 0)).bind λc=>ax (aa (I [40]+I c<=c0)) (ax (aa (I ([40]++c)+I [32,73,83,32,78,85,76,76,41]<=c0)) (J (([40]++c)++[32,73,83,32,78,85,76,76,41]))))) (ax (a_ 0 (I e.l)) ((rf (at' .expr e.l 0)).bind λa=>ax (aa (I [40]+I a<=c0)) (ax (aa (I ([40]++a)+I [32]<=c0)) (ax (aa (I (([40]++a)++[32])+I (mH e.kind)<=c0)) (ax (aa (I ((([40]++a)++[32])++(mH e.kind))+I [32]<=c0)) (ax (a_ 1 (I e.l)) ((rf (at' .expr e.l 1)).bind λd=>ax (aa (I (((([40]++a)++[32])++(mH e.kind))++[32])+I d<=c0)) (ax (aa (I ((((([40]++a)++[32])++(mH e.kind))++[32])++d)+I [41]<=c0)) (J (((((([40]++a)++[32])++(mH e.kind))++[32])++d)++[41]))))))))))))))
theorem azY(rf:bt [bC] [.str])(a:aU 55 [bC] [.str] rf):aU 55 [bC] [.str] (tl rf):=b6 (px:=aAz _ rf) (n:=0) Tryz.func55 rfl (λ_ H=>⟨br H (c1 H axn (c1 H a bq)) (bc H a (bc H Qq bo)) bp,aK⟩) λ_=>by kernel_rfl
def Mk(e:aq):ae ak:=@ite _ (EP e/\cm e<=10000) (Classical.propDecidable _) (J (gG e)) aj
def RC:bt [bC] [.str]:=λx=>Mk x
theorem ah9:∀(n:Nat) (e:aq) (m:Int),cm e<=n->e4 e m=ab->fK e->cm e<=10000->aI tl n e=J (gG e)
 |0,e,_,h,_,_,_=>by have:=l2 e;omega
 |n+1,e,m,h,aF,al,dK=>by
  rw[c6];have b:∀x,x∈e.l->aI tl n x=J (gG x)/\I (gG x)<=40000000:=λx ag=>by obtain⟨a6,hm⟩:=WO aF ag;have j:=nH ag;rw[l1]at h dK;have d:=(rn al).2 x ag;have:=R4 hm d;exact⟨ah9 n x a6 af hm d af,by omega⟩
  have o:=Ast aF;cases o with
  |atom _ f=>
   rw[R5];simp[tl];rcases f with k|k
   .grind
   .grind
  |not x=>obtain⟨a,g⟩:=b x jy;have a0:at' .expr [x] 0=x:=rfl;have i0:a_ 0 (I [x])=true:=rfl;simp only[tl,aq.l,a0,a,bA,ax];rw[ms hF,ms hF,af2];show J _=J _;simp
  |neg x=>obtain⟨a,g⟩:=b x jy;have a0:at' .expr [x] 0=x:=rfl;have i0:a_ 0 (I [x])=true:=rfl;simp only[tl,aq.kind,aq.l,a0,a,bA,Int.reduceEq,decide_false,bj,ax];rw[ms hF,ms hF,aij];show J _=J _;simp
  |L7 x=>obtain⟨a,g⟩:=b x jy;have a0:at' .expr [x] 0=x:=rfl;have i0:a_ 0 (I [x])=true:=rfl;simp only[tl,aq.kind,aq.l,a0,a,bA,Int.reduceEq,decide_false,bj,ax];rw[ms hF,ms hF,aiT];show J _=J _;simp
  |op k x y f=>obtain⟨a,g⟩:=b x jy;obtain⟨p,q⟩:=b y (by simp[aq.l]);have a0:at' .expr [x,y] 0=x:=rfl;have bI:at' .expr [x,y] 1=y:=rfl;have i0:a_ 0 (I [x,y])=true:=rfl;have i1:a_ 1 (I [x,y])=true:=rfl;have r:=ahr f;have j:mH k=vW k:=axF k;have i:=f;simp[w3]at i;have kn:∀c:Int,¬k=c->aa ((aq.mk k ⟨0,0,[]⟩ [] [x,y]).kind=c)=false:=λc h=>aL h;simp only[tl];rw[kn 1 af,kn 2 af,kn 3 af,kn 15 af,kn 16 af];simp only[aq.l,aq.kind,a0,bI,a,p,j,bA];simp only[bj,ax];rw[ms hF,ms hF,ms hF,ms hF,ms hF,ms hF,ac9 f];show J _=J _;simp
theorem aBu:aU 55 [bC] [.str] RC:=by
 refine .fin (ι:=Nat) 0 (F:=λn=>aI tl n) (λn=>fH.lq (av.enters_of Tryz.func55 rfl rfl) (λrf a=>azY rf a) n) λe r al ag=>⟨cm e,?_⟩;simp only[RC,Mk]at ag;split at ag
 .rename_i h;exact(ah9 (cm e) e 30 (bU _) h.1.1 h.1.2 h.2).trans ag
 .cases ag
theorem aBz(h:EP e)(a:cm e<=10000):Mk e=J (gG e):=if_pos ⟨h,a⟩
def Yd:bn:=⟨18,[(0,.sl .str ai),(3,.str),(4,.int .i64)],[],[],0,0,0,[],[]⟩
abbrev Qo:=U ak×ak×Int
def Ds{R:Type}(rec:Qo->ae R)(kx:aX->Qo->ae R)(v:Qo):ae R:=match v with|(v,v1,v2)=>cond (aa (v2<(I v:Int))) (ax (a_ v2 (I v)) ((wC v1 (at' .str v v2)).bind λx=>rec (v,x,(wr .i64 (v2+1))))) (kx (.exit 0) (v,v1,v2))
def ahQ(R:Type)(k:Nat):aR R:=bs [(58,ba Qu)] [] [(3,b8 k Yd (Ds))] []
def Vx(k:Nat)(x:aw [dX]):ae (aw [.str]):=match x with
 |l=>aI (λrec=>Ds rec (λe a=>match a with|(_,v4,_)=>match e with
  |.exit 0=>J v4
  |_=>aj)) k (l,[],0)
theorem anx(k:Nat):aU 57 [dX] [.str] (Vx k):=b6 (px:=ahQ _ k) (n:=1) Tryz.func57 rfl (λah H=>by have c:bP ah (ahQ (aw [.str]) k):=br H (c1 H X7 bq) bo bp;have a:=cd H c (b:=b0 Tryz.f57 0) (k:=k) (n:=0) (s:=Yd) (step:=Ds) (λ_ _ _ (_,_,_)=>by kernel_rfl) aK;exact⟨c,(b9 aK a)⟩) λ_=>by kernel_rfl
def DR(l:U ak):ae ak:=@ite _ ((∀x,x∈l->eQ x=ab)/\I l<=5100) (Classical.propDecidable _) (J (Lib.join l [44,32])) aj
def GF:bt [dX] [.str]:=λx=>DR x
theorem agC:aU 57 [dX] [.str] GF:=.fin 0 anx λl r al ag=>⟨I l+1,by
 simp only[GF,DR]at ag;split at ag
 .rename_i h;rw[<-ag,E6];have b:=H0 (λx:ak=>x) 30 l λx ag=>lC (h.1 x ag);simp only[Vx];refine aa1 l (λx=>x) (λi acc=>(l,acc,(i:Int))) (J (gW _ l)) (λx ag=>az0 (h.1 x ag)) (fV b af) (λi a acc rec=>?_) (λrec=>?_) (I l+1) af
  .simp only[Ds,ea a,bd,cg a,ax,cR (c:=.str) a,c9 a al.1]
  .simp only[Ds,eu,bj]
 .cases ag⟩
theorem agQ{l:U ak}(h:∀x,x∈l->eQ x=ab)(a:I l<=5100):DR l=J (Lib.join l [44,32]):=if_pos ⟨h,a⟩
end
noncomputable section
theorem avB{step:(V->ae R)->V->ae R}(l:U α)(f : α->ak)(st:Nat->ak->V)(c:ae R)(out:ak)(j:I out+I ((l.map f).flatten)<=100000000000)
  (d:∀i (b:i<I l) (acc:ak) rec,I acc+I (f l[i])<=100000000000->step rec (st i acc)=rec (st (i+1) (acc++f l[i]))) (e:∀rec,step rec (st (I l) (out++(l.map f).flatten))=c) (k:Nat) (m:I l<k):aI step k (st 0 out)=c:=by
 refine(lB (I l) st (λi acc=>acc++((l.drop i).map f).flatten=out++(l.map f).flatten) (λ_ _=>c) (λi b acc a rec g=>?_) (λacc a rec=>?_) k 0 out (cL _) af iP)
 .rw[da b,hk,oC,<-hp]at a;have h:=congrArg List.length a;rw[e7,e7,e7]at h;rw[d i b acc rec af,g _ a]
 .rw[tI,List.map_nil,List.flatten_nil,kq]at a;rw[a];exact e _
def _x:bn:=⟨92,[(3,.str),(8,.int .i64)],[(1,.ptr 0 0)],[(0,.one (.bm .stmt))],1,0,0,[],[]⟩
abbrev N2:=ak×Int×aP
def Fz{R:Type}(rec:N2->ae R)(kx:aX->N2->ae R)(v:N2):ae R:=match v with|(bb,bK,w1)=>cond (aa (bK<(I w1.l:Int))) (ax (a_ bK (I w1.l)) ((Mk (at' .expr w1.l bK)).bind λa=>ax (a_ bK (I w1.l)) (cond (aa ((at' .expr w1.l bK).kind<=2)) (ax (aa (I [40]+I a<=c0)) (ax (aa (I ([40]++a)+I [41]<=c0)) (ax (aa (I bb+I [44,32,67,72,69,67,75,32]<=c0)) (ax (aa (I (bb++[44,32,67,72,69,67,75,32])+I (([40]++a)++[41])<=c0)) (rec (((bb++[44,32,67,72,69,67,75,32])++(([40]++a)++[41])),(wr .i64 (bK+1)),w1)))))) (ax (aa (I bb+I [44,32,67,72,69,67,75,32]<=c0)) (ax (aa (I (bb++[44,32,67,72,69,67,75,32])+I a<=c0)) (rec (((bb++[44,32,67,72,69,67,75,32])++a),(wr .i64 (bK+1)),w1))))))) (kx (.exit 2) (bb,bK,w1))
def Zt:bn:=⟨92,[(3,.str),(4,.sl .str ab),(5,.int .i64)],[(1,.ptr 0 0)],[(0,.one (.bm .stmt))],1,0,0,[],[]⟩
abbrev OQ:=ak×U ak×Int×aP
def FC{R:Type}(rec:OQ->ae R)(kx:aX->OQ->ae R)(v:OQ):ae R:=match v with
 |(v,v1,v2,w)=>
 cond (aa (v2<(I w.ay:Int))) (
  ax (a_ v2 (I w.ay)) (
  ax (aa (I ((at' .b2 w.ay v2).name)+I [32]<=c0)) (
   ax (a_ ((at' .b2 w.ay v2).kind) (I v1)) (
   ax (aa (I (((at' .b2 w.ay v2).name)++[32])+I (at' .str v1 ((at' .b2 w.ay v2).kind))<=c0)) (
    let a:=λ(p:ak)=>
    let j:=λ(p1:ak)=>
     cond (!decide (((at' .b2 w.ay v2).ref)=[])) (
     ax (aa (I p1+I [32,82,69,70,69,82,69,78,67,69,83,32]<=c0)) (
      ax (aa (I (p1++[32,82,69,70,69,82,69,78,67,69,83,32])+I ((at' .b2 w.ay v2).ref)<=c0)) (
      (wC v ((p1++[32,82,69,70,69,82,69,78,67,69,83,32])++((at' .b2 w.ay v2).ref))).bind λb=>rec (b,v1,(wr .i64 (v2+1)),w)))) (
     (wC v p1).bind λc=>rec (c,v1,(wr .i64 (v2+1)),w))
    cond ((at' .b2 w.ay v2).unique) (
     ax (aa (I p+I [32,85,78,73,81,85,69]<=c0)) (
     j (p++[32,85,78,73,81,85,69]))) (
     j p)
    cond ((at' .b2 w.ay v2).h2) (
    ax (aa (I ((((at' .b2 w.ay v2).name)++[32])++(at' .str v1 ((at' .b2 w.ay v2).kind)))+I [32,78,79,84,32,78,85,76,76]<=c0)) (
     a (((((at' .b2 w.ay v2).name)++[32])++(at' .str v1 ((at' .b2 w.ay v2).kind)))++[32,78,79,84,32,78,85,76,76]))) (
    a ((((at' .b2 w.ay v2).name)++[32])++(at' .str v1 ((at' .b2 w.ay v2).kind))))))))) (
  kx (.exit 0) (v,v1,v2,w))
def WM(R:Type)(k:Nat):aR R:=bs [(58,ba Qu),(57,ba GF),(55,ba RC)] [] [(4,b8 k Zt (FC)),(17,b8 k _x (Fz))] []
def T0(k:Nat)(x:aw [cG]):ae (aw [.str]):=match x with
 |s=>aI (λrec=>FC rec (λe b=>match b with|(v3,_,_,v6)=>match e with
  |.exit 0=>ax (aa (I v3+I [44,32,80,82,73,77,65,82,89,32,75,69,89,32,40]<=c0)) ((DR v6.names).bind λc=>ax (aa (I (v3++[44,32,80,82,73,77,65,82,89,32,75,69,89,32,40])+I c<=c0)) (ax (aa (I ((v3++[44,32,80,82,73,77,65,82,89,32,75,69,89,32,40])++c)+I [41]<=c0)) (aI (λrec=>Fz rec (λe b=>match b with|(v9,_,a)=>match e with
     |.exit 2=>ax (aa (I [67,82,69,65,84,69,32,84,65,66,76,69,32]+I a.name<=c0)) (ax (aa (I ([67,82,69,65,84,69,32,84,65,66,76,69,32]++a.name)+I [32,40]<=c0)) (ax (aa (I (([67,82,69,65,84,69,32,84,65,66,76,69,32]++a.name)++[32,40])+I v9<=c0)) (ax (aa (I ((([67,82,69,65,84,69,32,84,65,66,76,69,32]++a.name)++[32,40])++v9)+I [41]<=c0)) (J (((([67,82,69,65,84,69,32,84,65,66,76,69,32]++a.name)++[32,40])++v9)++[41])))))
     |_=>aj)) k ((((v3++[44,32,80,82,73,77,65,82,89,32,75,69,89,32,40])++c)++[41]),0,v6))))
  |_=>aj)) k ([],[[],[],[66,79,79,76],[73,78,84],[84,69,88,84],[66,89,84,69,83]],0,s)
theorem asO(k:Nat):aU 56 [cG] [.str] (T0 k):=b6 (px:=WM _ k) (n:=2) Tryz.func56 rfl (λah H=>by have d:bP ah (WM (aw [.str]) k):=br H (c1 H X7 (c1 H agC (c1 H aBu bq))) bo bp;have a:=cd H d (b:=b0 Tryz.f56 0) (k:=k) (n:=0) (s:=Zt) (step:=FC) (λ_ _ _ (_,_,_,_)=>by kernel_rfl) aK;have c:=cd H d (b:=b0 Tryz.f56 1) (k:=k) (n:=0) (s:=_x) (step:=Fz) (λ_ _ _ (_,_,_)=>by kernel_rfl) aK;exact⟨d,(b9 (b9 aK a) c)⟩) λ_=>by kernel_rfl
def GZ(s:aP):ae ak:=@ite _ (ei s=ab/\s.kind=1/\gP s) (Classical.propDecidable _) (J (nR s)) aj
def Qp:bt [cG] [.str]:=λx=>GZ x
theorem aBo{c:bk}:nF c≠[]:=by simp[nF]
theorem aqk(k:Nat)(s:aP)(al:qq s)(ao:ei s=ab)(n:s.kind=1)(j:gP s)(b:pQ s<=k):T0 k s=J (nR s):=by
 obtain⟨⟨s1,s2⟩,r⟩:=rU ao;have d:=CV ao al j (.inl n);rcases r with ⟨_,bI,a2,a3,t,u⟩|k|⟨k,_⟩|⟨k,_⟩|⟨k,_⟩|⟨k,_⟩|⟨k,_⟩
 case inl=>
  have ag:=Sp u al.l;have f2:=j.l;simp only[pQ]at b;simp only[gU,if_pos n,nR,lP,e7,eo,dB]at d;simp only[T0];refine(aa1 s.ay nF (λi acc=>(acc,[[],[],[66,79,79,76],[73,78,84],[84,69,88,84],[66,89,84,69,83]],(i:Int),s)) (J (nR s)) (λc _=>aBo) af (λi a acc rec=>?_) (λrec=>?_) k af)
  .have m:=bI _ (hf a);simp only[FC,ea a,bd,cg a,ax,cR (c:=.b2) a,c9 a al.ay.1];generalize s.ay[i]=c at *;obtain⟨o,v⟩:=m;simp only[jC,bN,mK,fQ]at o;have aQ:=lC v;have Cw:=WI c.kind;have aFr:I c.ref<=30:=by
    rcases o.2 with h|h
    .rw[h];simp
    .exact lC h
   have w:at' .str [[],[],[66,79,79,76],[73,78,84],[84,69,88,84],[66,89,84,69,83]] c.kind=at' .str vM c.kind:=rfl;have z:a_ c.kind (I ([[],[],[66,79,79,76],[73,78,84],[84,69,88,84],[66,89,84,69,83]]:U ak))=true:=by simp only[a_,bN,fQ,eo,dB];omega
   rw[z];simp only[w,bd];simp (disch:=(first|omega|(simp only[e7,eo,dB];omega))) only [ms,bd];simp only[nF];cases c.h2<;>cases c.unique<;>cases aa (c.ref=[])<;>simp only[bd,bj,ef,kd,kq,hp]
  .simp only[FC,eu,bj,agQ t j.names,bA];simp (disch:=(first|omega|(simp only[e7,eo,dB];omega))) only [ms,ax,bd];refine avB s.l sJ (λi acc=>(acc,(i:Int),s)) (J (nR s)) _ S8 (λi a acc rec f=>?_) (λrec=>?_) k af
   .have hm:=hf a;have g:=ag _ hm;have dK:=nH hm;have aQ:=R4 g.1 g.2;simp only[Fz,ea a,bd,cg a,ax,cR (c:=.expr) a,c9 a al.l.1,aBz g (show cm s.l[i]<=10000 by omega),bA];have e:aa (s.l[i].kind<=2)=aa (parts s.l[i].kind=0):=by
     refine hL.2 ⟨λh=>acJ.2 ?_,λh=>?_⟩
     .have qe:=Ast g.1;generalize s.l[i]=q at *;cases qe with|atom _ b=>exact b|not x=>simp only[aq.kind]at h;omega|neg x=>simp only[aq.kind]at h;omega|L7 x=>simp only[aq.kind]at h;omega|op k x y b=>simp only[aq.kind,w3]at h b;omega
     .have:=acJ.1 h;omega
    rw[e];generalize s.l[i]=q at *;simp only[sJ]at f ⊢;cases p:aa (parts q.kind=0)with
    |true=>rw[p]at f;simp only[bd,e7,eo,dB]at f;simp (disch:=(first|omega|(simp only[e7,eo,dB];omega))) only [ms,bd];simp only[hp]
    |false=>rw[p]at f;simp only[bj,e7,eo,dB]at f;simp (disch:=(first|omega|(simp only[e7,eo,dB];omega))) only [ms,bd,bj];simp only[hp]
   .simp only[Fz,eu,bj];simp (disch:=(first|omega|(simp only[e7,eo,dB];omega))) only [ms,bd];simp only[nR,lP,hp,se,nX]
 all_goals omega
theorem awe:aU 56 [cG] [.str] Qp:=.fin 0 asO λs r al ag=>⟨pQ s,by
 simp only[Qp,GZ]at ag;split at ag
 .rename_i h;exact(aqk (pQ s) s al h.1 h.2.1 h.2.2 (bU _)).trans ag
 .cases ag⟩
def Zx:bn:=⟨173,[(5,.str),(6,.str),(8,.int .i64)],[(1,.ptr 0 0)],[(0,.one (.bm .stmt))],1,0,0,[],[]⟩
abbrev N8:=ak×ak×Int×aP
def Qw{R:Type}(_:N8->ae R)(kx:aX->N8->ae R)(v:N8):ae R:=match v with|(v5,v6,bb,w1)=>cond (aa (bb<(I w1.bT:Int))) (ax (a_ bb (I w1.bT)) (ax (aa (I ((at' .set w1.bT bb).name)+I [32,61,32]<=c0)) (ax (a_ bb (I w1.bT)) (aj)))) (kx (.exit 3) (v5,v6,bb,w1))
def Z8:bn:=⟨173,[(6,.str),(7,.int .i64)],[(1,.ptr 0 0)],[(0,.one (.bm .stmt))],1,0,0,[],[]⟩
abbrev N_:=ak×Int×aP
def Rk{R:Type}(_:N_->ae R)(kx:aX->N_->ae R)(v:N_):ae R:=match v with|(v,v1,w)=>cond (aa (v1<(I w.rows:Int))) (ax (a_ v1 (I w.rows)) (aj)) (kx (.exit 1) (v,v1,w))
def Yb(R:Type)(k:Nat):aR R:=bs [(54,ba wj),(56,ba Qp)] [(57,jK GF)] [(19,b8 k Z8 (Rk)),(25,b8 k Zx (Qw))] []
def K3(k:Nat)(x:aw [cG]):ae (aw [.str,an]):=match x with
 |s=>(oX s).bind λx=>cond (!decide (x=0)) (J ([],x)) (cond (s.has) (aj) (cond (aa (s.kind=1)) ((GZ s).bind λd=>J (d,0)) (cond (aa (s.kind=2)) (ax (aa (I [68,82,79,80,32,84,65,66,76,69,32]+I s.name<=c0)) (J (([68,82,79,80,32,84,65,66,76,69,32]++s.name),0))) (cond (aa (s.kind=3)) (ax (aa (I [67,82,69,65,84,69,32,73,78,68,69,88,32]+I s.name<=c0)) (ax (aa (I ([67,82,69,65,84,69,32,73,78,68,69,88,32]++s.name)+I [32,79,78,32]<=c0)) (ax (aa (I (([67,82,69,65,84,69,32,73,78,68,69,88,32]++s.name)++[32,79,78,32])+I s.on<=c0)) (ax (aa (I ((([67,82,69,65,84,69,32,73,78,68,69,88,32]++s.name)++[32,79,78,32])++s.on)+I [32,40]<=c0)) ((DR s.names).bind λb=>ax (aa (I (((([67,82,69,65,84,69,32,73,78,68,69,88,32]++s.name)++[32,79,78,32])++s.on)++[32,40])+I b<=c0)) (ax (aa (I ((((([67,82,69,65,84,69,32,73,78,68,69,88,32]++s.name)++[32,79,78,32])++s.on)++[32,40])++b)+I [41]<=c0)) (J ((((((([67,82,69,65,84,69,32,73,78,68,69,88,32]++s.name)++[32,79,78,32])++s.on)++[32,40])++b)++[41]),0)))))))) (cond (aa (s.kind=4)) (ax (aa (I [68,82,79,80,32,73,78,68,69,88,32]+I s.name<=c0)) (J (([68,82,79,80,32,73,78,68,69,88,32]++s.name),0))) (cond (aa (s.kind=5)) (aI (λrec=>Rk rec (λe c=>match c with|(v2,_,v4)=>match e with
      |.exit 1=>ax (aa (I [73,78,83,69,82,84,32,73,78,84,79,32]+I v4.name<=c0)) (ax (aa (I ([73,78,83,69,82,84,32,73,78,84,79,32]++v4.name)+I [32,86,65,76,85,69,83,32]<=c0)) (ax (aa (I (([73,78,83,69,82,84,32,73,78,84,79,32]++v4.name)++[32,86,65,76,85,69,83,32])+I v2<=c0)) (J (((([73,78,83,69,82,84,32,73,78,84,79,32]++v4.name)++[32,86,65,76,85,69,83,32])++v2),0))))
      |_=>aj)) k ([],0,s)) (cond (aa (s.kind=6)) (aI (λrec=>Qw rec (λe c=>match c with|(bK,v9,_,a)=>match e with
      |.exit 3=>ax (aa (I [85,80,68,65,84,69,32]+I a.name<=c0)) (ax (aa (I ([85,80,68,65,84,69,32]++a.name)+I [32,83,69,84,32]<=c0)) (ax (aa (I (([85,80,68,65,84,69,32]++a.name)++[32,83,69,84,32])+I v9<=c0)) (ax (aa (I ((([85,80,68,65,84,69,32]++a.name)++[32,83,69,84,32])++v9)+I bK<=c0)) (J ((((([85,80,68,65,84,69,32]++a.name)++[32,83,69,84,32])++v9)++bK),0)))))
      |_=>aj)) k ([],[],0,s)) (cond (aa (s.kind=7)) (ax (aa (I [68,69,76,69,84,69,32,70,82,79,77,32]+I s.name<=c0)) (ax (aa (I ([68,69,76,69,84,69,32,70,82,79,77,32]++s.name)+0<=c0)) (J ((([68,69,76,69,84,69,32,70,82,79,77,32]++s.name)++[]),0)))) (aj)))))))))
theorem asV(k:Nat):aU 22 [cG] [.str,an] (K3 k):=b6 (px:=Yb _ k) (n:=3) Tryz.func22 rfl (λah H=>by have d:bP ah (Yb (aw [.str,an]) k):=br H (c1 H CS (c1 H awe bq)) (bc H agC bo) bp;have a:=cd H d (b:=b0 Tryz.f22 0) (k:=k) (n:=0) (s:=Z8) (step:=Rk) (λ_ _ _ (_,_,_)=>by kernel_rfl) aK;have c:=cd H d (b:=b0 Tryz.f22 1) (k:=k) (n:=0) (s:=Zx) (step:=Qw) (λ_ _ _ (_,_,_,_)=>by kernel_rfl) aK;exact⟨d,(b9 (b9 (b9 aK a) c) (auN (λ_ _=>by kernel_rfl)))⟩) λ_=>by kernel_rfl
def wB(s:aP):ae (ak×Int):=@ite _ (gP s/\(s.kind=1\/s.kind=3)) (Classical.propDecidable _) (J (cond (ei s) (gU s,0) ([],2))) aj
def IE:bt [cG] [.str,an]:=λx=>wB x
theorem aoH(k:Nat)(s:aP)(al:qq s)(c:gP s)(ao:ei s=ab)(d:s.kind=1\/s.kind=3):K3 k s=J (gU s,0):=by
 obtain⟨⟨m,i⟩,j⟩:=rU ao;have a:=CV ao al c d;have l:s.has=false:=by
  have:=congrArg aP.has i;rw[show(hW s).has=s.has from by
   unfold hW
   repeat' split
   all_goals first|rfl|omega]at this
  exact this
 simp only[K3];rw[zA c,ao,bA,bd,show aa ((0:Int)=0)=ab from rfl,ef,bj,l,bj];by_cases b:s.kind=1
 .have e:gU s=nR s:=if_pos b;rw[aH b,bd,show GZ s=J (nR s) from if_pos ⟨ao,b,c⟩,e];rfl
 have f:s.kind=3:=af
 rw[aL b,bj];have g:¬s.kind=2:=af
 simp only[gU,if_neg b,if_neg g,if_pos f]at a ⊢;rw[aL g,bj];obtain⟨_,_,tR⟩:eQ s.on=ab/\s.names≠[]/\∀x,x∈s.names->eQ x=true:=by
  rcases j with ⟨k,_⟩|k|⟨_,h⟩|⟨k,_⟩|⟨k,_⟩|⟨k,_⟩|⟨k,_⟩
  case inr.inr.inl=>exact h
  all_goals omega
 simp only[lP,e7,eo,dB]at a;rw[aH f,bd,agQ tR c.names,bA];simp (disch:=(first|omega|(simp only[e7,eo,dB];omega))) only [ms,ax,bd];simp only[lP,hp,se,nX]
theorem VS:aU 22 [cG] [.str,an] IE:=.fin 0 asV λs r al ag=>⟨0,by
 simp only[IE,wB]at ag;split at ag
 .rename_i h;rw[<-ag];cases ao:ei s with|true=>exact aoH 0 s al h.1 ao h.2|false=>simp only[K3];rw[zA h.1,ao];rfl
 .cases ag⟩
theorem X0(h:gP s)(a:s.kind=1\/s.kind=3):wB s=J (cond (ei s) (gU s,0) ([],2)):=if_pos ⟨h,a⟩
end
def vq:aA->ak|[]=>[]|t::_=>cond (aa (t.kind=1)) t.s []
variable{L:aA}
theorem am9{g:a'}{f:ak}(a:¬f=nN)(b:¬f=rq)(c:¬f=r0)(d:¬f=tw)(e:¬f=tu)(h:¬f=r5):k_ L g f=J (eJ,⟨0,ab⟩):=by simp[k_,uT,aL (show ¬f=[67,82,69,65,84,69] from a),aL (show ¬f=[68,82,79,80] from b),aL (show ¬f=[73,78,83,69,82,84] from c),aL (show ¬f=[85,80,68,65,84,69] from d),aL (show ¬f=[68,69,76,69,84,69] from e),aL (show ¬f=[83,69,76,69,67,84] from h)];rfl
theorem aAa{l:aA}(h:∀w,w=nN\/w=rq\/w=r0\/w=tw\/w=tu\/w=r5->aV w l=ai):jk l = .error l:=by simp[jk,h nN (.inl rfl),h rq (.inr (.inl rfl)),h r0 (.inr (.inr (.inl rfl))),h tw (.inr (.inr (.inr (.inl rfl)))),h tu (.inr (.inr (.inr (.inr (.inl rfl))))),h r5 (.inr (.inr (.inr (.inr (.inr rfl)))))]
theorem agv(b:I L<=1000000000)(p:∀t,t∈L->t.kind=6->I t.s<=2):cQ L (k_ L ⟨1,ai⟩ (vq L)) (jk L):=by
 have no:(∀w,w=nN\/w=rq\/w=r0\/w=tw\/w=tu\/w=r5->¬vq L=w/\aV w L=ai)->cQ L (k_ L ⟨1,ai⟩ (vq L)) (jk L):=λh=>by rw[am9 (h _ (.inl rfl)).1 (h _ (.inr (.inl rfl))).1 (h _ (.inr (.inr (.inl rfl)))).1 (h _ (.inr (.inr (.inr (.inl rfl))))).1 (h _ (.inr (.inr (.inr (.inr (.inl rfl)))))).1 (h _ (.inr (.inr (.inr (.inr (.inr rfl)))))).1,aAa λw c=>(h w c).2];exact⟨0,eJ,cL _,rfl,rfl⟩
 cases L with
 |nil=>exact no λw c=>⟨λe=>(by rcases c with h|h|h|h|h|h<;>subst h<;>cases e),rfl⟩
 |cons t r=>
  have d:(1:Nat)<=I (t::r):=by simp
  cases k:aa (t.kind=1)with
  |false=>
   have l:=p t jy;refine no λw c=>⟨λe=>?_,?_⟩
   .simp[vq,k]at e;rcases c with h|h|h|h|h|h<;>subst h<;>cases e
   .simp only[aV,k,Bool.false_or,Bool.and_eq_false_iff,decide_eq_false_iff_not];by_cases i:t.kind=6
    .refine .inr λe=>?_;have o:=l i;rw[e]at o;rcases c with h|h|h|h|h|h<;>subst h<;>exact absurd o dM
    .exact .inl i
  |true=>
   have q:vq (t::r)=t.s:=by simp[vq,k]
   have f:∀w,aV w (t::r)=aa (t.s=w):=λw=>by simp[aV,k,Bool.true_or]
   rw[q];by_cases a:t.s=nN
   .have e:jk (t::r)=nO ((t::r).drop 1):=by simp[jk,f,a]
    rw[e,a];exact avg b d
   by_cases g:t.s=rq
   .have e:jk (t::r)=ry ((t::r).drop 1):=by simp[jk,f,aL a,aH g]
    rw[e,g];exact ayE b d
   by_cases j:t.s=r0
   .have e:jk (t::r)=zx ((t::r).drop 1):=by simp[jk,f,aL a,aL g,aH j]
    rw[e,j];exact aw3 b d
   by_cases m:t.s=tw
   .have e:jk (t::r)=xI ((t::r).drop 1):=by simp[jk,f,aL a,aL g,aL j,aH m]
    rw[e,m];exact axj b d
   by_cases n:t.s=tu
   .have e:jk (t::r)=zb ((t::r).drop 1):=by simp[jk,f,aL a,aL g,aL j,aL m,aH n]
    rw[e,n];exact avn b d
   by_cases l:t.s=r5
   .have e:jk (t::r)=pL ((t::r).drop 1):=by simp[jk,f,aL a,aL g,aL j,aL m,aL n,aH l]
    rw[e,l];exact auj b d
   grind
noncomputable section
def WH(R:Type):aR R:=bs [] [] [] []
noncomputable def ahS(R:Type):aR R:=bs [(80,ba Q1),(81,ba aim),(82,ba nc),(54,ba wj),(83,ey 40 200 (WH R) Tryz.f83)] [] [] []
def Hn(x:aw [.str]):ae (aw [cG,an,an]):=match x with
 |s=>
 cond (!decide ((l7 s).2.2=0)) (
  J ((aP.mk 0 [] [] [] [] [] [] [] ai (aq.mk 0 ⟨0,0,[]⟩ [] []) [] [] 0),(l7 s).2.1,(l7 s).2.2)) (
  let b:=λ(p2:ak)=>
  (k_ ((l7 s).1) (a'.mk 1 ai) p2).bind λ(x,a)=>
   let c:=λ(q:a')=>
   let d:=λ(ki:Bool)=>
    cond (ki) (
    cond (aa (q.pos<(I ((l7 s).1):Int))) (
     ax (a_ q.pos (I ((l7 s).1))) (
     J ((aP.mk 0 [] [] [] [] [] [] [] ai (aq.mk 0 ⟨0,0,[]⟩ [] []) [] [] 0),(at' .tok ((l7 s).1) q.pos).pos,11))) (
     J ((aP.mk 0 [] [] [] [] [] [] [] ai (aq.mk 0 ⟨0,0,[]⟩ [] []) [] [] 0),(I s:Int),11))) (
    (oX x).bind λe=>
     cond (!decide (e=0)) (
     J ((aP.mk 0 [] [] [] [] [] [] [] ai (aq.mk 0 ⟨0,0,[]⟩ [] []) [] [] 0),0,e)) (
     J (x,0,0)))
   cond (q.bad) (
    d ab) (
    d (aa (q.pos<(I ((l7 s).1):Int))))
   (dg ((l7 s).1) a [59]).bind λf=>
   cond (f) (
    c (a'.mk (wr .i64 (a.pos+1)) a.bad)) (
    c a)
  let j:=λ(p1:Bool)=>
  cond (p1) (
   ax (a_ 0 (I ((l7 s).1))) (
   b ((at' .tok ((l7 s).1) 0).s))) (
   b [])
  cond (aa (0<(I ((l7 s).1):Int))) (
  ax (a_ 0 (I ((l7 s).1))) (
   j (aa ((at' .tok ((l7 s).1) 0).kind=1)))) (
  j ai))
theorem aqS:aU 30 [.str] [cG,an,an] (Hn):=b6 (px:=ahS _) (n:=0) Tryz.func30 rfl (λah H=>by have a:bP ah (WH (aw [cG,an,an])):=br H bq bo bp;have b:bP ah (ahS (aw [cG,an,an])):=br H (c1 H auQ (c1 H apT (c1 H nP (c1 H CS (et (eS H a Tryz.func83 rfl (n:=0) (aK)) bq))))) bo bp;exact⟨b,aK⟩) λ_=>by kernel_rfl
def qn(s:ak):ae (aP×Int×Int):=Hn s
def adb:bt [.str] [cG,an,an]:=λx=>qn x
theorem ay6:aU 30 [.str] [cG,an,an] adb:=.er aqS λ_ _ _ ag=>ag
theorem aep(s:ak)(L:aA){j:Nat}(a:j<=I L){eB:Type}(z : eB):cond (aa ((j:Int)<(I L:Int))) (ax (a_ (j:Int) (I L)) (J (z,(at' .tok L (j:Int)).pos,(11:Int)))) (J (z,(I s:Int),11))=J (z,hA (I s) (L.drop j),11):=by
 by_cases h:j<I L
 .rw[aH af,cg h,da h,cR (c:=.tok) h];rfl
 .exact CM
def vz(s:ak)(L:aA)(x:aP)(g:a'):ae (aP×Int×Int):=cond (g.bad||decide (g.pos<(I L:Int))) (cond (aa (g.pos<(I L:Int))) (ax (a_ g.pos (I L)) (J (eJ,(at' .tok L g.pos).pos,(11:Int)))) (J (eJ,(I s:Int),11))) ((oX x).bind λe=>cond (!decide (e=0)) (J (eJ,0,e)) (J (x,0,0)))
theorem ahm{s:ak}(h:iS s=(L,0,0)):qn s=(k_ L ⟨1,ai⟩ (vq L)).bind λy=>(dg L y.2 [59]).bind λb=>cond b (vz s L y.1 ⟨wr .i64 (y.2.pos+1),y.2.bad⟩) (vz s L y.1 y.2):=by
 have a:∀x g,vz s L x g=cond g.bad (cond (aa (g.pos<(I L:Int))) (ax (a_ g.pos (I L)) (J (eJ,(at' .tok L g.pos).pos,(11:Int)))) (J (eJ,(I s:Int),11))) (cond (aa (g.pos<(I L:Int))) (cond (aa (g.pos<(I L:Int))) (ax (a_ g.pos (I L)) (J (eJ,(at' .tok L g.pos).pos,(11:Int)))) (J (eJ,(I s:Int),11))) ((oX x).bind λe=>cond (!decide (e=0)) (J (eJ,0,e)) (J (x,0,0)))):=λx g=>by simp[vz];cases g.bad<;>rfl
 have c:l7 s=(L,0,0):=h;simp only[qn,Hn,c,a];cases L with|nil=>rfl|cons t r=>rw[aH (show(0:Int)<(I (t::r):Int) by simp only[eo];omega),show a_ 0 (I (t::r))=ab from cg (i:=0) (by simp)];have d:at' .tok (t::r) 0=t:=rfl;simp[ d,vq];cases aa (t.kind=1)<;>rfl
variable{q:aA}
theorem azz{s:ak}(h:iS s=(L,0,0))(i:∀t,t∈L->t.kind=6->I t.s<=2)(k:I L<=1000000000)(a:o9 L = .error q):qn s=J (eJ,hA (I s) q,11):=by
 have b:=agv k i;rw[ahm h];unfold o9 at a;cases g:jk L with
 |error n=>rw[g]at b a;cases a;obtain⟨j,e,bI,c,d⟩:=b;rw[d,bA,la,bA,bj,c];exact aep s L bI eJ
 |ok y=>
  obtain⟨x,m⟩:=y;rw[g]at b a;obtain⟨j,bI,c,d⟩:=b;subst c;rw[d,bA,jS,bA];have key:∀{j:Nat},j<=I L->L.drop j=q->¬q=[]->vz s L x ⟨(j:Int),ai⟩=J (eJ,hA (I s) q,11):=λ{j} l ar o=>by
   have p:j<I L:=im
   have e:=aep s L l eJ;rw[aH (show(j:Int)<(I L:Int) by omega),bd]at e;simp only[vz];rw[aH (show(j:Int)<(I L:Int) by omega),Bool.or_true,bd,bd,e,ar]
  cases f:aV [59] (L.drop j)with
  |true=>obtain⟨u,v⟩:=js f;simp[q3,f]at a;rw[bd,kM af];cases ar:L.drop (j+1)with|nil=>rw[ar]at a;cases a|cons t r=>grind
  |false=>simp[q3,f]at a;rw[bj];cases ar:L.drop j with|nil=>rw[ar]at a;cases a|cons t r=>grind
variable{x:aP}
theorem am0{s:ak}(h:iS s=(L,0,0))(e:∀t,t∈L->t.kind=6->I t.s<=2)(f:I L<=1000000000)(a:o9 L = .ok x)(k:gP x):qn s=J (cond (ei x) (x,0,0) (eJ,0,2)):=by
 have c:=agv f e;rw[ahm h];unfold o9 at a;cases d:jk L with
 |error l=>rw[d]at a;cases a
 |ok y=>
  obtain⟨x',m⟩:=y;rw[d]at c a;obtain⟨j,bI,g,i⟩:=c;subst g;rw[i,bA,jS,bA];have ao:oX x=J (cond (ei x) 0 2):=by simp only[oX];simp[*]
  have key:∀{j:Nat},L.drop j=[]->x' = x->vz s L x' ⟨(j:Int),ai⟩=J (cond (ei x) (x,0,0) (eJ,0,2)):=λ{j} ar ag=>by
   subst ag;have n:¬j<I L:=λh=>by rw[da h]at ar;cases ar
   simp only[vz];rw[aL (show ¬(j:Int)<(I L:Int) by omega),Bool.or_false,bj,ao];cases ei x'<;>rfl
  cases b:aV [59] (L.drop j)with
  |true=>
   obtain⟨o,p⟩:=js b;simp[q3,b]at a;rw[bd,kM af];cases ar:L.drop (j+1)with
   |nil=>rw[ar]at a;injection a with a;exact key ar a
   |cons t r=>rw[ar]at a;cases a
  |false=>
   simp[q3,b]at a;rw[bj];cases ar:L.drop j with
   |nil=>rw[ar]at a;injection a with a;exact key ar a
   |cons t r=>rw[ar]at a;cases a
theorem awX{s:ak}{n e:Int}(h:iS s=([],n,e))(a:¬e=0):qn s=J (eJ,n,e):=by have b:l7 s=([],n,e):=h;simp[qn,Hn,b,aL a,bd];rfl
end
def atf(R:Type):aR R:=bs [] [] [] []
def Tw(x:aw [cC]):ae (aw [cG]):=match x with|t=>J (aP.mk 1 t.name [] t.ay t.key t.ie [] [] ai (aq.mk 0 ⟨0,0,[]⟩ [] []) [] [] 0)
theorem arD:aU 23 [cC] [cG] (Tw):=b6 (px:=atf _) (n:=0) Tryz.func23 rfl (λ_ H=>⟨br H bq bo bp,aK⟩) λ_=>by kernel_rfl
def iN(t:b5):aP:=(aP.mk 1 t.name [] t.ay t.key t.ie [] [] ai (aq.mk 0 ⟨0,0,[]⟩ [] []) [] [] 0)
theorem arI(x:aw [cC]):Tw x=J (iN x):=by
 first
  |exact rfl
  |simp only[Tw,iN,gb]
def A9:bt [cC] [cG]:=λx=>J (iN x)
theorem EE:aU 23 [cC] [cG] A9:=.er arD λx _ _ ag=>(arI x).trans ag
instance:DecidableEq c':=λa b=>decidable_of_iff (a.name=b.name/\a.ay=b.ay) (by cases a;cases b;simp only[c'.mk.injEq])
def lO(x:c'):aP:=aP.mk 0 x.name [] [] x.ay [] [] [] ai (aq.mk 0 ⟨0,0,[]⟩ [] []) [] [] 0
theorem aqG(x y:c'):o8 (lO x) (lO y)=aa (x=y):=hL.2 (by cases x;cases y;simp[lO])
def YT:bn:=⟨57,[(4,.bool),(5,.int .i64)],[(2,.ptr 0 0),(3,.ptr 1 0)],[(0,.one (.bm .eT)),(1,.one (.bm .eT))],2,0,0,[],[]⟩
abbrev TG:=Bool×Int×b5×b5
def E5{R:Type}(rec:TG->ae R)(kx:aX->TG->ae R)(v:TG):ae R:=match v with|(v,v1,w,w1)=>cond (aa (v1<(I w.idx:Int))) (ax (a_ v1 (I w.idx)) (ax (a_ v1 (I w.idx)) (ax (a_ v1 (I w1.idx)) (ax (a_ v1 (I w1.idx)) (cond (!(o8 (aP.mk 0 ((at' .idx w.idx v1).name) [] [] ((at' .idx w.idx v1).ay) [] [] [] ai (aq.mk 0 ⟨0,0,[]⟩ [] []) [] [] 0) (aP.mk 0 ((at' .idx w1.idx v1).name) [] [] ((at' .idx w1.idx v1).ay) [] [] [] ai (aq.mk 0 ⟨0,0,[]⟩ [] []) [] [] 0))) (kx .ret (ai,v1,w,w1)) (rec (v,(wr .i64 (v1+1)),w,w1))))))) (kx (.exit 0) (v,v1,w,w1))
def aby(R:Type)(k:Nat):aR R:=bs [(32,ba Iw),(23,ba A9)] [(23,jK A9)] [(4,b8 k YT (E5))] []
def YZ(k:Nat)(x:aw [cC,cC]):ae (aw [.bool]):=match x with
 |(a,b)=>cond (!decide ((I a.idx:Int)=(I b.idx:Int))) (J ai) (aI (λrec=>E5 rec (λe c=>match c with|(v2,_,v4,v5)=>match e with
  |.ret=>J v2
  |.exit 0=>J (o8 (iN v4) (iN v5))
  |_=>aj)) k (ai,0,a,b))
theorem arc(k:Nat):aU 11 [cC,cC] [.bool] (YZ k):=b6 (px:=aby _ k) (n:=1) Tryz.func11 rfl (λah H=>by have c:bP ah (aby (aw [.bool]) k):=br H (c1 H V3 (c1 H EE bq)) (bc H EE bo) bp;have a:=cd H c (b:=b0 Tryz.f11 0) (k:=k) (n:=0) (s:=YT) (step:=E5) (λ_ _ _ (_,_,_,_)=>by kernel_rfl) aK;exact⟨c,(b9 aK a)⟩) λ(_,_)=>by kernel_rfl
def Acc(a b:b5):Bool:=cond (aa (a.idx=b.idx)) (o8 (iN a) (iN b)) ai
def HC:bt [cC,cC] [.bool]:=λx=>J (Acc x.1 x.2)
theorem aaK:aU 11 [cC,cC] [.bool] HC:=.fin 0 arc λ(a,b) r al ag=>⟨I a.idx+1,by
 simp only[HC,Acc,dN]at ag;rw[<-ag];simp only[YZ];by_cases d:(I a.idx:Int)=(I b.idx:Int)
 .rw[aH d,ef,bj];refine(A8 a.idx b.idx af (λi=>(ai,(i:Int),a,b)) (J ai) (J (o8 (iN a) (iN b))) (λi h f rec=>?_) (λrec=>?_) (I a.idx+1) af).trans ?_
  .have e:=aqG a.idx[i] b.idx[i];simp only[lO]at e;simp only[E5,ea h,bd,cg h,cg f,ax,cR (c:=.idx) h,cR (c:=.idx) f,c9 h al.1.idx.1,e]
  .simp only[E5,eu,bj]
  .cases aa (a.idx=b.idx)<;>rfl
 .rw[aL d,aL (aiX d)];rfl⟩
theorem ams(a:b5):Acc a a=true:=by simp[Acc,o8]
def tW:U c'->Int->Int->Int|[],_,n=>n|x::l,bH,n=>cond (aa (n<bH)) (tW l bH (wr .i64 (n+j' (lO x) bH))) n
def vV:U bk->Int->Int->Int|[],_,n=>n|c::l,bH,n=>cond (aa (n<bH)) (vV l bH (wr .i64 (n+wr .i64 (f' (wr .i64 ((I c.name:Int)+(I c.ref:Int))) 30)))) n
def Y8:bn:=⟨76,[(1,.int .i64),(5,.int .i64),(7,.int .i64)],[(2,.ptr 0 0)],[(0,.one (.bm .eT))],1,0,0,[],[]⟩
abbrev Ld:=Int×Int×Int×b5
def Bd{R:Type}(rec:Ld->ae R)(kx:aX->Ld->ae R)(v:Ld):ae R:=match v with|(bb,bK,v9,w1)=>cond (aa (v9<(I w1.ay:Int))) (cond (aa (bK<bb)) (ax (a_ v9 (I w1.ay)) (ax (a_ v9 (I w1.ay)) (rec (bb,(wr .i64 (bK+(wr .i64 (f' (wr .i64 ((I ((at' .b2 w1.ay v9).name):Int)+(I ((at' .b2 w1.ay v9).ref):Int))) 30)))),(wr .i64 (v9+1)),w1)))) (kx (.exit 2) (bb,bK,v9,w1))) (kx (.exit 2) (bb,bK,v9,w1))
def YO:bn:=⟨76,[(1,.int .i64),(5,.int .i64),(6,.int .i64)],[(2,.ptr 0 0)],[(0,.one (.bm .eT))],1,0,0,[],[]⟩
abbrev K_:=Int×Int×Int×b5
def A_{R:Type}(rec:K_->ae R)(kx:aX->K_->ae R)(v:K_):ae R:=match v with|(v,v1,v2,w)=>cond (aa (v2<(I w.idx:Int))) (cond (aa (v1<v)) (ax (a_ v2 (I w.idx)) (ax (a_ v2 (I w.idx)) (rec (v,(wr .i64 (v1+(j' (aP.mk 0 ((at' .idx w.idx v2).name) [] [] ((at' .idx w.idx v2).ay) [] [] [] ai (aq.mk 0 ⟨0,0,[]⟩ [] []) [] [] 0) v))),(wr .i64 (v2+1)),w)))) (kx (.exit 0) (v,v1,v2,w))) (kx (.exit 0) (v,v1,v2,w))
def aah(R:Type)(k:Nat):aR R:=bs [] [(23,jK A9),(13,jK JD)] [(3,b8 k YO (A_)),(7,b8 k Y8 (Bd))] []
def YV(k:Nat)(x:aw [cC,an]):ae (aw [an]):=match x with
 |(t,bH)=>aI (λrec=>A_ rec (λe b=>match b with|(v3,v4,_,v6)=>match e with
  |.exit 0=>aI (λrec=>Bd rec (λe b=>match b with|(_,a,_,_)=>match e with
   |.exit 2=>J a
   |_=>aj)) k (v3,v4,0,v6)
  |_=>aj)) k (bH,(wr .i64 ((j' (iN t) bH)+(I t.idx:Int))),0,t)
theorem arp(k:Nat):aU 12 [cC,an] [an] (YV k):=b6 (px:=aah _ k) (n:=2) Tryz.func12 rfl (λah H=>by have d:bP ah (aah (aw [an]) k):=br H bq (bc H EE (bc H adP bo)) bp;have a:=cd H d (b:=b0 Tryz.f12 0) (k:=k) (n:=0) (s:=YO) (step:=A_) (λ_ _ _ (_,_,_,_)=>by kernel_rfl) aK;have c:=cd H d (b:=b0 Tryz.f12 1) (k:=k) (n:=0) (s:=Y8) (step:=Bd) (λ_ _ _ (_,_,_,_)=>by kernel_rfl) aK;exact⟨d,(b9 (b9 aK a) c)⟩) λ(_,_)=>by kernel_rfl
def xY(t:b5)(bH:Int):Int:=vV t.ay bH (tW t.idx bH (wr .i64 (j' (iN t) bH+(I t.idx:Int))))
def P0:bt [cC,an] [an]:=λx=>J (xY x.1 x.2)
variable{t:b5}
theorem amF{kx:aX->K_->ae R}(e:b1 (I t.idx))(d:∀n i,kx (.exit 0) (bH,n,i,t)=c n)(k:Nat)(f:I t.idx<k)(n:Int) :
  aI (λrec=>A_ rec kx) k (bH,n,0,t)=c (tW t.idx bH n):=by
 refine(lB (I t.idx) (λi n=>(bH,n,(i:Int),t)) (λ_ _=>True) (λi n=>c (tW (t.idx.drop i) bH n)) (λi a n _ rec b=>?_) (λn _ rec=>?_) k 0 n (cL _) af trivial).trans iP
 .have b:=b (wr .i64 (n+j' (lO t.idx[i]) bH)) trivial;simp at b;simp only[A_,ea a,cg a,cR (c:=.idx) a,c9 a e,da a,tW,d];cases aa (n<bH)with|false=>rfl|true=>exact b
 .simp only[A_,eu,d];exact nD
theorem amH{kx:aX->Ld->ae R}(d:b1 (I t.ay))(b:∀n i,kx (.exit 2) (bH,n,i,t)=c n)(k:Nat)(f:I t.ay<k)(n:Int) :
  aI (λrec=>Bd rec kx) k (bH,n,0,t)=c (vV t.ay bH n):=by
 refine(lB (I t.ay) (λi n=>(bH,n,(i:Int),t)) (λ_ _=>True) (λi n=>c (vV (t.ay.drop i) bH n)) (λi a n _ rec e=>?_) (λn _ rec=>?_) k 0 n (cL _) af trivial).trans iP
 .simp only[Bd,ea a,cg a,cR (c:=.b2) a,c9 a d,da a,vV,b];cases aa (n<bH)with|false=>rfl|true=>exact(e (wr .i64 (n+wr .i64 (f' (wr .i64 ((I t.ay[i].name:Int)+(I t.ay[i].ref:Int))) 30))) trivial)
 .simp only[Bd,eu,b];exact nD
theorem ats:aU 12 [cC,an] [an] P0:=.fin 0 arp λ(t,bH) r al ag=>⟨I t.idx+I t.ay+1,by have al:=al.1;simp only[P0,dN]at ag;rw[<-ag];simp only[YV];refine(amF (c:=λn=>J (vV t.ay bH n)) al.idx.1 (λn i=>?_) _ af _).trans rfl;exact amH (c:=J) al.ay.1 (λn i=>rfl) _ af _⟩
theorem ae8{N:Int}(b : 1<=N/\N<=600):∀(l:U c') (n:Int),0<=n->n<=2000000000000000->(∀x,x∈l->Rz (gX,gX) x)->n<=tW l N n/\tW l N n<=2000000000000000/\(tW l N n<N->∀x,x∈l->I x.ay<=600)
 |[],n,_,h,_=>⟨Int.le_refl _,h,λ_ x ag=>by cases ag⟩
 |x::l,n,dm,aY,cw=>by
  simp only[tW];by_cases c:n<N
  .have ag:=cw x jy;have a:Lj (gX,gX) (lO x):=⟨ag.1,by simp[lO],by simp[lO],ag.2,by simp[lO],by simp[lO],by simp[lO],.mk _ _ _ _ (by simp[uy]) (by simp) (by simp) (by simp),by simp[lO],by simp[lO]⟩;obtain⟨bI,d⟩:=Xu b a;have w:wr .i64 (n+j' (lO x) N)=n+j' (lO x) N:=d_ ec;rw[aH c,bd,w];obtain⟨k,f,g⟩:=ae8 b l (n+j' (lO x) N) af af (λq i=>cw q (mg _ i));refine⟨by omega,f,λh y aE=>?_⟩;rcases hv.1 aE with rfl|aE
   .have j:=(d af).2.1;simp[lO]at j;have e:j' (lO y) N=j' (aP.mk 0 y.name [] [] y.ay [] [] [] ai (aq.mk 0 ⟨0,0,[]⟩ [] []) [] [] 0) N:=rfl;omega
   .exact g h y aE
  .grind
theorem afS{N:Int}(a : 1<=N/\N<=600):∀(l:U bk) (n:Int),0<=n->n<=2000000000000000->(∀c,c∈l->I c.name<=gX/\I c.ref<=gX)->n<=vV l N n
 |[],n,_,h,_=>Int.le_refl _
 |x::l,n,dm,aY,cw=>by
  simp[vV];by_cases b:n<N
  .obtain⟨c1,c2⟩:=cw x jy;simp[gX]at c1 c2;have d:wr .i64 ((I x.name:Int)+(I x.ref:Int))=((I x.name+I x.ref:Nat):Int):=od
   have e:f' ((I x.name+I x.ref:Nat):Int) 30=(((I x.name+I x.ref) / 30:Nat):Int):=rfl;have f:wr .i64 (((I x.name+I x.ref) / 30:Nat):Int)=(((I x.name+I x.ref) / 30:Nat):Int):=d_ ec;have w:wr .i64 (n+(((I x.name+I x.ref) / 30:Nat):Int))=n+(((I x.name+I x.ref) / 30:Nat):Int):=d_ ec;rw[aH b,bd,d,e,f,w];have i:=afS a l (n+(((I x.name+I x.ref) / 30:Nat):Int)) af af (λq g=>cw q (mg _ g));omega
  .grind
structure akp (t:b5):Prop where
 CE:gP (iN t)
 idx:I t.idx<=600/\∀x,x∈t.idx->I x.ay<=600
 l:fc t.ie<=1200
theorem ara{N:Int}(b : 1<=N/\N<=600)(a:Tq (gX,gX) t)(h:xY t N<N):akp t:=by have c:Lj (gX,gX) (iN t):=⟨a.name,by simp[iN],a.ay,a.key,a.ie,by simp[iN],by simp[iN],.mk _ _ _ _ (by simp[uy]) (by simp) (by simp) (by simp),by simp[iN],by simp[iN]⟩;obtain⟨bI,d⟩:=Xu b c;have c1:=a.idx.1;simp[gX]at c1;have w:wr .i64 (j' (iN t) N+(I t.idx:Int))=j' (iN t) N+(I t.idx:Int):=d_ ec;simp[xY,w]at h;obtain⟨g,e,f⟩:=ae8 b t.idx (j' (iN t) N+(I t.idx:Int)) af af a.idx.2;have iY:=afS b t.ay _ af e a.ay.2;exact⟨(d af).1,⟨by omega,f af⟩,(d af).2.2⟩
def au7(R:Type):aR R:=bs [(12,ba P0),(13,ba JD)] [] [] []
def TW(x:aw [cC,cG]):ae (aw [.bool]):=match x with|(t,s)=>cond (aa (600<=(xY t 600))) (J ab) (J (aa (600<=(j' s 600))))
theorem at5:aU 4 [cC,cG] [.bool] (TW):=b6 (px:=au7 _) (n:=0) Tryz.func4 rfl (λ_ H=>⟨br H (c1 H ats (c1 H adP bq)) bo bp,aK⟩) λ(_,_)=>by kernel_rfl
def tE(t:b5)(s:aP):Bool:=cond (aa (600<=(xY t 600))) (ab) (aa (600<=(j' s 600)))
theorem asR(x:aw [cC,cG]):TW x=J (tE x.1 x.2):=by
 first
  |exact rfl
  |simp only[TW,tE,gb]
def aeH:bt [cC,cG] [.bool]:=λx=>J (tE x.1 x.2)
theorem aw6:aU 4 [cC,cG] [.bool] aeH:=.er at5 λx _ _ ag=>(asR x).trans ag
def atp(R:Type):aR R:=bs [] [] [] []
def Ty(x:aw []):ae (aw [cC]):=match x with|()=>J (b5.mk [116] [(bk.mk [97] 3 ai ai []),(bk.mk [98] 4 ai ai [])] [[97]] [(aq.mk 10 ⟨0,0,[]⟩ [] [(aq.mk 2 ⟨0,0,[]⟩ [97] []),(aq.mk 1 ⟨3,0,[]⟩ [] [])])] [])
theorem arw:aU 14 [] [cC] (Ty):=b6 (px:=atp _) (n:=0) Tryz.func14 rfl (λ_ H=>⟨br H bq bo bp,aK⟩) λ()=>by kernel_rfl
def tx:b5:=(b5.mk [116] [(bk.mk [97] 3 ai ai []),(bk.mk [98] 4 ai ai [])] [[97]] [(aq.mk 10 ⟨0,0,[]⟩ [] [(aq.mk 2 ⟨0,0,[]⟩ [97] []),(aq.mk 1 ⟨3,0,[]⟩ [] [])])] [])
theorem arh(x:aw []):Ty x=J (tx):=by
 first
  |exact rfl
  |simp only[Ty,tx,gb]
def XN:bt [] [cC]:=λ_=>J (tx)
theorem atd:aU 14 [] [cC] XN:=.er arw λx _ _ ag=>(arh x).trans ag
def asD(R:Type):aR R:=bs [(14,ba XN),(6,ba GV),(8,ba SJ),(15,ba agq),(16,ba Fk),(11,ba HC)] [] [] []
def YK(x:aw []):ae (aw [.bool]):=match x with
 |()=>
 (py tx).bind λ(x,f)=>
  (uJ x).bind λ(g,h)=>
  (J' tx [(dA.mk 3 1 []),(dA.mk 1 0 [])]).bind λi=>
   let a:=λ(p:Bool)=>
   let b:=λ(p1:Bool)=>
    let c:=λ(p2:Bool)=>
    let d:=λ(p3:Bool)=>
     let e:=λ(ki:Bool)=>
     let j:=λ(k:Bool)=>
      cond (k) (
      (vr (b5.mk [] [] [] [] [])).bind λl=>J (aa (l=2))) (
      J ai)
     cond (ki) (
      j (Acc g tx)) (
      j ai)
     cond (p3) (
     e (aa (h=0))) (
     e ai)
    cond (p2) (
     d (aa (f=0))) (
     d ai)
    cond (p1) (
    (vr tx).bind λm=>c (aa (m=0))) (
    c ai)
   cond (p) (
    (J' tx [(dA.mk 1 0 []),(dA.mk 1 0 [])]).bind λn=>
    b (aa (n=161))) (
    b ai)
   cond (aa (i=0)) (
   (J' tx [(dA.mk 3 0 []),(dA.mk 1 0 [])]).bind λo=>a (aa (o=162))) (
   a ai)
theorem amp:aU 5 [] [.bool] (YK):=b6 (px:=asD _) (n:=0) Tryz.func5 rfl (λ_ H=>⟨br H (c1 H atd (c1 H Nq (c1 H ag7 (c1 H axV (c1 H Pl (c1 H aaK bq)))))) bo bp,aK⟩) λ()=>by kernel_rfl
def I6:ae Bool:=YK ()
def XW:bt [] [.bool]:=λ_=>I6
theorem aty:aU 5 [] [.bool] XW:=.er amp λ_ _ _ ag=>ag
def W8:bn:=⟨20,[(0,.sl .b2 ai),(1,.str),(4,.int .i64),(5,.int .i64)],[],[],0,0,0,[],[]⟩
abbrev P6:=U bk×ak×Int×Int
def Dt{R:Type}(rec:P6->ae R)(kx:aX->P6->ae R)(v:P6):ae R:=match v with|(v,v1,v2,v3)=>cond (aa (v3<(I v:Int))) (ax (a_ v3 (I v)) (cond (aa (((at' .b2 v v3).name)=v1)) (kx .ret (v,v1,v3,v3)) (rec (v,v1,v2,(wr .i64 (v3+1)))))) (kx (.exit 0) (v,v1,v2,v3))
def ahv(R:Type)(k:Nat):aR R:=bs [] [] [(2,b8 k W8 (Dt))] []
def XE(k:Nat)(x:aw [dR,.str]):ae (aw [an]):=match x with
 |(ay,name)=>aI (λrec=>Dt rec (λe a=>match a with|(_,_,v6,_)=>match e with
  |.ret=>J v6
  |.exit 0=>J (-1)
  |_=>aj)) k (ay,name,0,0)
theorem ana(k:Nat):aU 84 [dR,.str] [an] (XE k):=b6 (px:=ahv _ k) (n:=1) Tryz.func84 rfl (λah H=>by have c:bP ah (ahv (aw [an]) k):=br H bq bo bp;have a:=cd H c (b:=b0 Tryz.f84 0) (k:=k) (n:=0) (s:=W8) (step:=Dt) (λ_ _ _ (_,_,_,_)=>by kernel_rfl) aK;exact⟨c,(b9 aK a)⟩) λ(_,_)=>by kernel_rfl
def uG(ay:U bk)(name:ak):Int:=gD ay name
def Dm:bt [dR,.str] [an]:=λx=>J (uG x.1 x.2)
theorem Nr:aU 84 [dR,.str] [an] Dm:=.fin 0 ana λ(ay,s) r al ag=>⟨I ay+1,by
 simp only[Dm,dN,uG]at ag;simp only[XE];refine(hV (I ay) (λi=>(ay,s,0,(i:Int))) (λi=>J (k2 (ay.drop i) s i)) (λi a rec b=>?_) (λrec=>?_) _ 0 (cL _) af).trans (by rw[iW,<-ag];rfl)
 .simp only[Dt,ea a,bd,cg a,ax,cR (c:=.b2) a,c9 a al.1.1,b,da a,k2,mq];split<;>rfl
 .simp only[Dt,eu,bj];rw[gn (bU _)];rfl⟩
noncomputable section
def _7:bn:=⟨70,[(3,.int .i64),(6,.int .i64)],[(1,.ptr 0 0),(2,.ptr 1 0)],[(0,.one (.bm .stmt)),(1,.one (.bm .eT))],2,0,0,[],[]⟩
abbrev Hg:=Int×Int×aP×b5
def zp{R:Type}(rec:Hg->ae R)(kx:aX->Hg->ae R)(v:Hg):ae R:=match v with|(v6,bb,b4,cv)=>cond (aa (bb<(I b4.l:Int))) (ax (a_ bb (I b4.l)) ((ui (at' .expr b4.l bb) b4.ay).bind λ(b,a)=>cond (!decide (a=0)) (kx .ret (a,bb,b4,(b5.mk [] [] [] [] []))) (cond (aa (2<b)) (kx .ret (151,bb,b4,(b5.mk [] [] [] [] []))) (rec (v6,(wr .i64 (bb+1)),b4,cv))))) (kx (.exit 2) (v6,bb,b4,cv))
def abi:bn:=⟨70,[(3,.int .i64),(5,.int .i64)],[(1,.ptr 0 0),(2,.ptr 1 0)],[(0,.one (.bm .stmt)),(1,.one (.bm .eT))],2,0,0,[],[]⟩
abbrev Hu:=Int×Int×aP×b5
def ze{R:Type}(rec:Hu->ae R)(kx:aX->Hu->ae R)(v:Hu):ae R:=match v with|(v,v1,w,w1)=>cond (aa (v1<(I w.names:Int))) (ax (a_ v1 (I w.names)) (cond (aa ((uG w.ay (at' .str w.names v1))<0)) (kx .ret (150,v1,w,(b5.mk [] [] [] [] []))) (rec (v,(wr .i64 (v1+1)),w,w1)))) (kx (.exit 0) (v,v1,w,w1))
def aeN(R:Type)(k:Nat):aR R:=bs [(54,ba wj),(84,ba Dm)] [(85,jK IY)] [(5,b8 k abi (ze)),(10,b8 k _7 (zp))] []
def Oa(k:Nat)(x:aw [cG]):ae (aw [cC,an]):=match x with
 |s=>(oX s).bind λx=>cond (!decide (x=0)) (J ((b5.mk [] [] [] [] []),2)) (cond (!decide (s.kind=1)) (J ((b5.mk [] [] [] [] []),2)) (aI (λrec=>ze rec (λe c=>match c with|(v2,_,v4,v5)=>match e with
   |.ret=>J (v5,v2)
   |.exit 0=>aI (λrec=>zp rec (λe c=>match c with|(bK,_,a,b)=>match e with
    |.ret=>J (b,bK)
    |.exit 2=>J ((b5.mk a.name a.ay a.names a.l []),0)
    |_=>aj)) k (v2,0,v4,v5)
   |_=>aj)) k (0,0,s,(b5.mk [] [] [] [] []))))
theorem axg(k:Nat):aU 31 [cG] [cC,an] (Oa k):=b6 (px:=aeN _ k) (n:=2) Tryz.func31 rfl (λah H=>by have d:bP ah (aeN (aw [cC,an]) k):=br H (c1 H CS (c1 H Nr bq)) (bc H aeT bo) bp;have a:=cd H d (b:=b0 Tryz.f31 0) (k:=k) (n:=0) (s:=abi) (step:=ze) (λ_ _ _ (_,_,_,_)=>by kernel_rfl) aK;have c:=cd H d (b:=b0 Tryz.f31 1) (k:=k) (n:=0) (s:=_7) (step:=zp) (λ_ _ _ (_,_,_,_)=>by kernel_rfl) aK;exact⟨d,(b9 (b9 aK a) c)⟩) λ_=>by kernel_rfl
def D4(s:aP):ae (b5×Int):=@ite _ (gP s) (Classical.propDecidable _) (J (hz s)) aj
def MU:bt [cG] [cC,an]:=λx=>D4 x
theorem amk{kx:aX->Hu->ae R}{q:b5}{a b:ae R}(e:b1 (I s.names))(f:∀i:Nat,kx .ret (150,(i:Int),s,fi)=a)(g:kx (.exit 0) (0,(I s.names:Int),s,q)=b)(k:Nat)(j:I s.names<k) :
  aI (λrec=>ze rec kx) k (0,0,s,q)=cond (s.names.all λx=> !decide (gD s.ay x<0)) b a:=by
 refine(hV (I s.names) (λi=>(0,(i:Int),s,q)) (λi=>cond ((s.names.drop i).all λx=> !decide (gD s.ay x<0)) b a) (λi d rec h=>?_) (λrec=>?_) k 0 (cL _) af).trans iP
 .simp only[ze,ea d,cg d,cR (c:=.str) d,c9 d e,h,da d,fk,uG];cases aa (gD s.ay s.names[i]<0)with|true=>exact f i|false=>rfl
 .simp only[ze,eu,g]
  grind
theorem al5{kx:aX->Hg->ae R}{q:b5}{g:Int->ae R}{b:ae R}(j:b1 (I s.l))(ao:s.ay.all jC=ab)(m:∀e,e∈s.l->cm e<=10000)(d:∀p (i:Nat),kx .ret (p,(i:Int),s,fi)=g p)(n:kx (.exit 2) (0,(I s.l:Int),s,q)=b)(k:Nat)(f:I s.l<k) :
  aI (λrec=>zp rec kx) k (0,0,s,q)=cond (aa (jw s.ay s.l=0)) b (g (jw s.ay s.l)):=by
 refine(hV (I s.l) (λi=>(0,(i:Int),s,q)) (λi=>cond (aa (jw s.ay (s.l.drop i)=0)) b (g (jw s.ay (s.l.drop i)))) (λi a rec o=>?_) (λrec=>?_) k 0 (cL _) af).trans iP
 .have f:ui s.l[i] s.ay=J (ia s.l[i] s.ay):=by rw[ui,aH (ad9 (m _ (hf a)))];rfl
  simp only[zp,ea a,cg a,cR (c:=.expr) a,f,c9 a j,o,da a,jw,afX ao];by_cases h:(ia s.l[i] s.ay).2=0
  .simp[h,bd];cases aa (2<(ia s.l[i] s.ay).1)with|true=>exact d _ _|false=>rfl
  .simp[aL h,bj];exact d _ _
 .simp only[zp,eu,n];exact nD
theorem ays(al:qq s)(f:gP s){k:Nat}(h:I s.names<k)(i:I s.l<k):Oa k s=J (hz s):=by
 simp[Oa,zA f,hz];cases c:ei s with
 |false=>simp[fi]
 |true=>
  by_cases d:s.kind=1
  .have ao:s.ay.all jC=true:=by simp only[ei,if_pos d,bN]at c;exact c.2.1.1.1.1.1
   simp[d,bd];refine(amk (a:=J (fi,150)) (b:=cond (aa (jw s.ay s.l=0)) (J (⟨s.name,s.ay,s.names,s.l,[]⟩,0)) (J (fi,jw s.ay s.l))) al.names.1 (λ_=>rfl) ?_ _ h).trans ?_
   .exact al5 (g:=λp=>J (fi,p)) al.l.1 ao (λe j=>by have:=nH j;have:=f.l;omega) (λ_ _=>rfl) rfl _ i
   .rw[gb,gb];rfl
  .simp[d,fi]
theorem ao7:aU 31 [cG] [cC,an] MU:=.fin 0 axg λs r al ag=>⟨I s.names+I s.l+1,by
 simp only[MU,D4]at ag;split at ag
 case isFalse=>cases ag
 rename_i a;rw[<-ag];exact ays al a af af⟩
def _e:bn:=⟨33,[(4,.int .i64),(6,.int .i64)],[(2,.ptr 0 0),(3,.ptr 1 0)],[(0,.one (.bm .eT)),(1,.one (.bm .idx))],2,0,0,[],[]⟩
abbrev OF:=Int×Int×b5×c'
def FL{R:Type}(rec:OF->ae R)(kx:aX->OF->ae R)(v:OF):ae R:=match v with|(v,v1,w,w1)=>cond (aa (v1<(I w1.ay:Int))) (ax (a_ v1 (I w1.ay)) (cond (aa ((uG w.ay (at' .str w1.ay v1))<0)) (kx .ret (150,v1,w,w1)) (rec (v,(wr .i64 (v1+1)),w,w1)))) (kx (.exit 0) (v,v1,w,w1))
def Wv(R:Type)(k:Nat):aR R:=bs [(54,ba wj),(84,ba Dm)] [] [(5,b8 k _e (FL))] []
def Zq(k:Nat)(x:aw [cC,.bm .idx]):ae (aw [an]):=match x with
 |(t,x)=>(oX (aP.mk 3 x.name t.name [] x.ay [] [] [] ai (aq.mk 0 ⟨0,0,[]⟩ [] []) [] [] 0)).bind λa=>cond (!decide (a=0)) (J 2) (aI (λrec=>FL rec (λe b=>match b with|(v2,_,_,_)=>match e with
   |.ret=>J v2
   |.exit 0=>J 0
   |_=>aj)) k (0,0,t,x))
theorem asb(k:Nat):aU 53 [cC,.bm .idx] [an] (Zq k):=b6 (px:=Wv _ k) (n:=1) Tryz.func53 rfl (λah H=>by have c:bP ah (Wv (aw [an]) k):=br H (c1 H CS (c1 H Nr bq)) bo bp;have a:=cd H c (b:=b0 Tryz.f53 0) (k:=k) (n:=0) (s:=_e) (step:=FL) (λ_ _ _ (_,_,_,_)=>by kernel_rfl) aK;exact⟨c,(b9 aK a)⟩) λ(_,_)=>by kernel_rfl
def GR(t:b5)(x:c'):ae Int:=@ite _ (gP (dG t x)) (Classical.propDecidable _) (J (cond (ei (dG t x)) (cond (iT t x.ay) 0 150) 2)) aj
def QP:bt [cC,.bm .idx] [an]:=λx=>GR x.1 x.2
theorem av4:aU 53 [cC,.bm .idx] [an] QP:=.fin 0 asb λ(t,x) r al ag=>⟨I x.ay+1,by
 simp only[QP,GR]at ag;split at ag
 case isFalse=>cases ag
 rename_i b;rw[<-ag];have e:oX (aP.mk 3 x.name t.name [] x.ay [] [] [] ai (aq.mk 0 ⟨0,0,[]⟩ [] []) [] [] 0)=J (cond (ei (dG t x)) 0 2):=zA b;simp only[Zq,e,bA];cases ei (dG t x)with
 |false=>rfl
 |true=>
  simp only[bd,decide_true,ef,bj];refine(hV (I x.ay) (λi=>(0,(i:Int),t,x)) (λi=>J (cond (iT t (x.ay.drop i)) 0 150)) (λi a rec d=>?_) (λrec=>?_) _ 0 (cL _) af).trans iP
  .simp only[FL,ea a,bd,cg a,ax,cR (c:=.str) a,c9 a al.2.2.1,d,da a,iT,fk,uG];cases aa (gD t.ay x.ay[i]<0)<;>rfl
  .simp only[FL,eu,bj];rw[gn (bU _)];rfl⟩
structure KP (t:b5):Prop where
 CE:gP (iN t)
 idx:∀x,x∈t.idx->gP (dG t x)
def yN(l:U c'):Nat->ae ak|0=>aj|i+1=>J (at' .idx l (i:Int)).name
def ZB:bn:=⟨57,[(2,.int .i64),(5,.int .i64)],[(1,.ptr 0 0)],[(0,.one (.bm .eT))],1,0,0,[],[]⟩
abbrev LG:=Int×Int×b5
def Bq{R:Type}(rec:LG->ae R)(kx:aX->LG->ae R)(v:LG):ae R:=match v with|(v,v1,w)=>cond (aa (v1<(I w.idx:Int))) (ax (a_ v1 (I w.idx)) ((GR w (at' .idx w.idx v1)).bind λa=>cond (!decide (a=0)) (kx .ret (2,v1,w)) (cond (aa (0<v1)) (ax (a_ (wr .i64 (v1-1)) (I w.idx)) (ax (a_ v1 (I w.idx)) (cond (!Op.bytesLess ((at' .idx w.idx (wr .i64 (v1-1))).name) ((at' .idx w.idx v1).name)) (kx .ret (2,v1,w)) (rec (v,(wr .i64 (v1+1)),w))))) (rec (v,(wr .i64 (v1+1)),w))))) (kx (.exit 0) (v,v1,w))
def Xq(R:Type)(k:Nat):aR R:=bs [(23,ba A9),(31,ba MU),(53,ba QP)] [] [(5,b8 k ZB (Bq))] []
def _y(k:Nat)(x:aw [cC]):ae (aw [an]):=match x with
 |t=>(D4 (iN t)).bind λ(_,a)=>cond (!decide (a=0)) (J 2) (cond (aa (100<(I t.idx:Int))) (J 2) (aI (λrec=>Bq rec (λe b=>match b with|(v2,_,_)=>match e with
   |.ret=>J v2
   |.exit 0=>J 0
   |_=>aj)) k (0,0,t)))
theorem atO(k:Nat):aU 21 [cC] [an] (_y k):=b6 (px:=Xq _ k) (n:=1) Tryz.func21 rfl (λah H=>by have c:bP ah (Xq (aw [an]) k):=br H (c1 H EE (c1 H ao7 (c1 H av4 bq))) bo bp;have a:=cd H c (b:=b0 Tryz.f21 0) (k:=k) (n:=0) (s:=ZB) (step:=Bq) (λ_ _ _ (_,_,_)=>by kernel_rfl) aK;exact⟨c,(b9 aK a)⟩) λ_=>by kernel_rfl
def Gv(t:b5):ae Int:=@ite _ (KP t) (Classical.propDecidable _) (J (cond (iq t) 0 2)) aj
def QE:bt [cC] [an]:=λx=>Gv x
theorem amO{kx:aX->LG->ae R}{a b:ae R}(h:b1 (I t.idx))(m:KP t)(f:∀i:Nat,kx .ret (2,(i:Int),t)=a)(n:kx (.exit 0) (0,(I t.idx:Int),t)=b)(k:Nat)(q:I t.idx<k) :
  aI (λrec=>Bq rec kx) k (0,0,t)=cond (rI t aj t.idx) b a:=by
 refine(hV (I t.idx) (λi=>(0,(i:Int),t)) (λi=>cond (rI t (yN t.idx i) (t.idx.drop i)) b a) (λi d rec o=>?_) (λrec=>?_) k 0 (cL _) af).trans KT
 .have g:GR t t.idx[i]=J (cond (ei (dG t t.idx[i])) (cond (iT t t.idx[i].ay) 0 150) 2):=if_pos (m.idx _ (hf d));have e:yN t.idx (i+1)=J t.idx[i].name:=by simp[yN,cR (c:=.idx) d]
  simp only[Bq,ea d,bd,cg d,ax,cR (c:=.idx) d,g,bA,c9 d h,o,da d,e];have ok:mE t t.idx[i]=(ei (dG t t.idx[i])&&iT t t.idx[i].ay):=rfl;cases i with
  |zero=>
   simp[yN,rI,ok];cases ei (dG t t.idx[0])with
   |false=>exact f 0
   |true=>cases iT t t.idx[0].ay<;>first|exact f 0|rfl
  |succ j=>
   have l:j<I t.idx:=af
   have p:wr .i64 (((j+1:Nat):Int)-1)=(j:Int):=by simp[b1]at h;rw[d_ ec];omega
   simp only[yN,rI,ok,aH (show(0:Int)<((j+1:Nat):Int) by omega),bd,p,cg l,cR (c:=.idx) l,az8];cases ei (dG t t.idx[j+1])with|false=>exact f _|true=>grind
 .simp only[Bq,eu,bj,n];rw[gn (bU _)];cases yN t.idx (I t.idx)<;>rfl
theorem am3(h:gP s):D4 s=J (hz s):=if_pos h
theorem av1:aU 21 [cC] [an] QE:=.fin 0 atO λt r al ag=>⟨I t.idx+1,by
 simp only[QE,Gv]at ag;split at ag
 case isFalse=>cases ag
 rename_i c;rw[<-ag];have e:D4 (iN t)=J (hz (fm t)):=am3 c.CE;simp only[_y,e,bA,iq];cases aa ((hz (fm t)).2=0)with
 |false=>rfl
 |true=>
  simp only[ef,bj,jo];have d:aa (100<(I t.idx:Int)) = !decide (I t.idx<=100):=by
   by_cases h:I t.idx<=100
   .rw[aH h,aL af];rfl
   .rw[aL h,aH af];rfl
  rw[d];cases aa (I t.idx<=100)with
  |false=>simp only[kd,bd,Bool.false_and,Bool.and_false];rfl
  |true=>simp only[ef,bj,jo];refine(amO (a:=J 2) (b:=J 0) al.idx.1 c (λ_=>rfl) rfl _ af).trans ?_;rw[auF,gb]⟩
theorem awl(h:KP t):Gv t=J (cond (iq t) 0 2):=if_pos h
end
noncomputable section
def aqz(R:Type):aR R:=bs [(62,ba GI)] [] [] []
def OW(x:aw [fj]):ae (aw [.sl .byte ab]):=match x with|s=>(DS (wr .u64 (I s:Int))).bind λx=>ax (aa (I x+I s<=bY)) (J (x++s))
theorem ax8:aU 63 [fj] [.sl .byte ab] (OW):=b6 (px:=aqz _) (n:=0) Tryz.func63 rfl (λ_ H=>⟨br H (c1 H ahq bq) bo bp,aK⟩) λ_=>by kernel_rfl
def J3(s:ak):ae ak:=OW s
def agz:bt [fj] [.sl .byte ab]:=λx=>J3 x
theorem anO:aU 63 [fj] [.sl .byte ab] agz:=.er ax8 λ_ _ _ ag=>ag
def abb:bn:=⟨23,[(0,.sl .bytes ai),(3,.sl .byte ab),(4,.int .i64)],[],[],0,0,0,[],[]⟩
abbrev Hf:=U (U UInt8)×U UInt8×Int
def zi{R:Type}(rec:Hf->ae R)(kx:aX->Hf->ae R)(v:Hf):ae R:=match v with|(v,v1,v2)=>cond (aa (v2<(I v:Int))) (ax (a_ v2 (I v)) ((J3 (at' .bytes v v2)).bind λa=>ax (aa (I v1+I a<=bY)) (rec (v,(v1++a),(wr .i64 (v2+1)))))) (kx (.exit 0) (v,v1,v2))
def afl(R:Type)(k:Nat):aR R:=bs [(62,ba GI),(63,ba agz)] [] [(3,b8 k abb (zi))] []
def OD(k:Nat)(x:aw [.sl .bytes ai]):ae (aw [.sl .byte ab]):=match x with
 |l=>(DS (wr .u64 (I l:Int))).bind λx=>aI (λrec=>zi rec (λe a=>match a with|(_,v4,_)=>match e with
  |.exit 0=>J v4
  |_=>aj)) k (l,x,0)
theorem awE(k:Nat):aU 24 [.sl .bytes ai] [.sl .byte ab] (OD k):=b6 (px:=afl _ k) (n:=1) Tryz.func24 rfl (λah H=>by have c:bP ah (afl (aw [.sl .byte ab]) k):=br H (c1 H ahq (c1 H anO bq)) bo bp;have a:=cd H c (b:=b0 Tryz.f24 0) (k:=k) (n:=0) (s:=abb) (step:=zi) (λ_ _ _ (_,_,_)=>by kernel_rfl) aK;exact⟨c,(b9 aK a)⟩) λ_=>by kernel_rfl
def DX(l:U ak):ae ak:=OD 5000 l
def ahZ:bt [.sl .bytes ai] [.sl .byte ab]:=λx=>DX x
theorem anH:aU 24 [.sl .bytes ai] [.sl .byte ab] ahZ:=.fin 0 awE λ_ _ _ ag=>⟨5000,ag⟩
def XB:bn:=⟨58,[(7,.sl .bytes ab),(8,.int .i64)],[(1,.ptr 0 0)],[(0,.one (.bm .eT))],1,0,0,[],[]⟩
abbrev Ii:=U (U UInt8)×Int×b5
def z6{R:Type}(rec:Ii->ae R)(kx:aX->Ii->ae R)(v:Ii):ae R:=match v with|(v,v1,w)=>cond (aa (v1<(I w.idx:Int))) (ax (a_ v1 (I w.idx)) (ax (a_ v1 (I w.idx)) ((wB (aP.mk 3 ((at' .idx w.idx v1).name) w.name [] ((at' .idx w.idx v1).ay) [] [] [] ai (aq.mk 0 ⟨0,0,[]⟩ [] []) [] [] 0)).bind λ(a,_)=>ax (aa (I a<=bY)) (ax (aa (I v+1<=bY)) (rec ((v++[a]),(wr .i64 (v1+1)),w)))))) (kx (.exit 0) (v,v1,w))
def aiy(R:Type)(k:Nat):aR R:=bs [(21,ba QE),(23,ba A9),(22,ba IE),(24,ba ahZ)] [(22,jK IE)] [(7,b8 k XB (z6))] []
def Pf(k:Nat)(x:aw [cC]):ae (aw [.sl .byte ab,an]):=match x with
 |t=>(Gv t).bind λx=>cond (!decide (x=0)) (J ([],x)) ((wB (iN t)).bind λ(a,_)=>ax (aa (I a<=bY)) (aI (λrec=>z6 rec (λe b=>match b with|(v2,_,_)=>match e with
    |.exit 0=>(DX v2).bind λc=>J (c,0)
    |_=>aj)) k ([a],0,t)))
theorem ann(k:Nat):aU 7 [cC] [.sl .byte ab,an] (Pf k):=b6 (px:=aiy _ k) (n:=1) Tryz.func7 rfl (λah H=>by have c:bP ah (aiy (aw [.sl .byte ab,an]) k):=br H (c1 H av1 (c1 H EE (c1 H VS (c1 H anH bq)))) (bc H VS bo) bp;have a:=cd H c (b:=b0 Tryz.f7 0) (k:=k) (n:=0) (s:=XB) (step:=z6) (λ_ _ _ (_,_,_)=>by kernel_rfl) aK;exact⟨c,(b9 aK a)⟩) λ_=>by kernel_rfl
def sO(t:b5):ae (ak×Int):=Pf 5000 t
def RX:bt [cC] [.sl .byte ab,an]:=λx=>sO x
theorem agl:aU 7 [cC] [.sl .byte ab,an] RX:=.fin 0 ann λ_ _ _ ag=>⟨5000,ag⟩
def Xw:bn:=⟨101,[(0,.sl .byte ai),(3,.int .i64),(4,.sl .bytes ab),(11,.int .i64)],[(2,.ptr 0 0),(9,.ptr 42 0)],[(0,.cells [.str,.sl .b2 ab,eD,fe,.sl .idx ab]),(42,.cells [.str,dR,dX,fU,.sl .idx ab])],43,0,0,[],[]⟩
abbrev IA:=U UInt8×Int×U (U UInt8)×Int×ak×U bk×U ak×U aq×U c'×ak×U bk×U ak×U aq×U c'
def o_{R:Type}(rec:IA->ae R)(kx:aX->IA->ae R)(v:IA):ae R:=match v with|(d,i,a,b,j,k,l,m,n,e,f,g,h,c)=>cond (aa (b<(I a:Int))) (ax (a_ b (I a)) ((qn (at' .bytes a b)).bind λ(p,_,o)=>cond (!decide (o=0)) (kx .ret (d,11,a,b,[],[],[],[],[],e,f,g,h,c)) (cond (!decide (p.kind=3)) (kx .ret (d,11,a,b,[],[],[],[],[],e,f,g,h,c)) (ax (aa (I c+1<=bY)) (rec (d,i,a,(wr .i64 (b+1)),j,k,l,m,n,e,f,g,h,(c++[(c'.mk p.name p.names)]))))))) (kx (.exit 0) (d,i,a,b,j,k,l,m,n,e,f,g,h,c))
def Wn:bn:=⟨70,[(3,.int .i64),(6,.int .i64)],[(1,.ptr 40 0),(2,.ptr 41 0)],[(0,.cells [.str,.sl .b2 ab,eD,fe,.sl .idx ab]),(40,.one (.bm .stmt)),(41,.cells [.str,.sl .b2 ab,eD,fe,.sl .idx ab])],42,40,200,[1],[]⟩
abbrev HV:=Int×Int×ak×U bk×U ak×U aq×U c'×aP×ak×U bk×U ak×U aq×U c'
def Ah{R:Type}(rec:HV->ae R)(kx:aX->HV->ae R)(v:HV):ae R:=match v with|(h,b,c,d,e,f,g,a,i,j,k,m,n)=>cond (aa (b<(I a.l:Int))) (ax (a_ b (I a.l)) ((ui (at' .expr a.l b) a.ay).bind λ(p,o)=>cond (!decide (o=0)) (kx .ret (o,b,c,d,e,f,g,a,[],[],[],[],[])) (cond (aa (2<p)) (kx .ret (151,b,c,d,e,f,g,a,[],[],[],[],[])) (rec (h,(wr .i64 (b+1)),c,d,e,f,g,a,i,j,k,m,n))))) (kx (.exit 2) (h,b,c,d,e,f,g,a,i,j,k,m,n))
def V_:bn:=⟨70,[(3,.int .i64),(5,.int .i64)],[(1,.ptr 40 0),(2,.ptr 41 0)],[(0,.cells [.str,.sl .b2 ab,eD,fe,.sl .idx ab]),(40,.one (.bm .stmt)),(41,.cells [.str,.sl .b2 ab,eD,fe,.sl .idx ab])],42,40,200,[1],[]⟩
abbrev H2:=Int×Int×ak×U bk×U ak×U aq×U c'×aP×ak×U bk×U ak×U aq×U c'
def zQ{R:Type}(rec:H2->ae R)(kx:aX->H2->ae R)(v:H2):ae R:=match v with|(v,v1,w,w1,b4,cv,cH,cK,eb,eO,e2,fD,a)=>cond (aa (v1<(I cK.names:Int))) (ax (a_ v1 (I cK.names)) (cond (aa ((uG cK.ay (at' .str cK.names v1))<0)) (kx .ret (150,v1,w,w1,b4,cv,cH,cK,[],[],[],[],[])) (rec (v,(wr .i64 (v1+1)),w,w1,b4,cv,cH,cK,eb,eO,e2,fD,a)))) (kx (.exit 0) (v,v1,w,w1,b4,cv,cH,cK,eb,eO,e2,fD,a))
def WG(R:Type)(k:Nat):aR R:=bs [(54,ba wj),(84,ba Dm)] [(85,jK IY)] [(5,b8 k V_ (zQ)),(10,b8 k Wn (Ah))] []
noncomputable def ahD(R:Type)(k:Nat):aR R:=bs [(29,ba aeK),(30,ba adb),(7,ba RX),(31,ey 40 200 (WG R k) Tryz.f31)] [] [(9,b8 k Xw (o_))] []
def uV(k:Nat)(x:aw [fj]):ae (aw [cC,an]):=match x with
 |b=>
 (vo b).bind λ(x,hD)=>
  cond (!decide (hD=0)) (
  J ((b5.mk [] [] [] [] []),11)) (
  cond (aa ((I x:Int)=0)) (
   J ((b5.mk [] [] [] [] []),11)) (
   ax (a_ 0 (I x)) (
   (qn (at' .bytes x 0)).bind λ(gB,_,gT)=>
    let j:=λ(v:Int) (w:ak) (y:U bk) (z:U ak) (a0:U aq) (bI:U c') (a2:ak) (a3:U bk) (a4:U ak) (a5:U aq) (bB:U c')=>
    cond (!decide (gT=0)) (
     J ((b5.mk [] [] [] [] []),11)) (
     cond (!decide (v=0)) (
     J ((b5.mk [] [] [] [] []),11)) (
     aI (λrec=>o_ rec (λe eA=>match eA with|(bE,bG,_,_,a9,bZ,b7,ac,ad,c,d,f,g,h)=>match e with
      |.ret=>
      J ((b5.mk a9 bZ b7 ac ad),bG)
      |.exit 0=>
      (sO (b5.mk c d f g h)).bind λ(cq,ez)=>
       cond (!decide (ez=0)) (
       J ((b5.mk [] [] [] [] []),11)) (
       cond (!decide (cq=bE)) (
        J ((b5.mk [] [] [] [] []),11)) (
        J ((b5.mk c d f g h),0)))
      |_=>aj)) k (b,0,x,1,w,y,z,a0,bI,a2,a3,a4,a5,bB)))
    (oX gB).bind λlV=>
    cond (!decide (lV=0)) (
     j 2 [] [] [] [] [] [] [] [] [] []) (
     cond (!decide (gB.kind=1)) (
     j 2 [] [] [] [] [] [] [] [] [] []) (
     aI (λrec=>zQ rec (λe eA=>match eA with|(v2,_,v4,v5,v6,bb,bK,v9,i,m,n,o,p)=>match e with
      |.ret=>
      j v2 v4 v5 v6 bb bK i m n o p
      |.exit 0=>
      aI (λrec=>Ah rec (λe eA=>match eA with|(ct,_,q,r,s,t,u,a,cM,cV,cS,cZ,bJ)=>match e with
       |.ret=>
       j ct q r s t u cM cV cS cZ bJ
       |.exit 2=>
       j 0 q r s t u a.name a.ay a.names a.l []
       |_=>aj)) k (v2,0,v4,v5,v6,bb,bK,v9,i,m,n,o,p)
      |_=>aj)) k (0,0,[],[],[],[],[],gB,[],[],[],[],[]))))))
theorem apf(k:Nat):aU 9 [fj] [cC,an] (uV k):=b6 (px:=ahD _ k) (n:=1) Tryz.func9 rfl (λah H=>by have e:bP ah (WG (aw [cC,an]) k):=br H (c1 H CS (c1 H Nr bq)) (bc H aeT bo) bp;have a:=cd H e (b:=b0 Tryz.f31 0) (k:=k) (n:=0) (s:=V_) (step:=zQ) (λ_ _ _ (_,_,_,_,_,_,_,_,_,_,_,_,_)=>by kernel_rfl) aK;have c:=cd H e (b:=b0 Tryz.f31 1) (k:=k) (n:=0) (s:=Wn) (step:=Ah) (λ_ _ _ (_,_,_,_,_,_,_,_,_,_,_,_,_)=>by kernel_rfl) aK;have f:bP ah (ahD (aw [cC,an]) k):=br H (c1 H axu (c1 H ay6 (c1 H agl (et (eS H e Tryz.func31 rfl (n:=2) (b9 (b9 aK a) c)) bq)))) bo bp;have d:=cd H f (b:=b0 Tryz.f9 0) (k:=k) (n:=0) (s:=Xw) (step:=o_) (λ_ _ _ (_,_,_,_,_,_,_,_,_,_,_,_,_,_)=>by kernel_rfl) aK;exact⟨f,(b9 aK d)⟩) λ_=>by kernel_rfl
def DP(b:ak):ae (b5×Int):=uV 5000 b
def acE:bt [fj] [cC,an]:=λx=>DP x
theorem aza:aU 9 [fj] [cC,an] acE:=.fin 0 apf λ_ _ _ ag=>⟨5000,ag⟩
end
open aO (jd iV cU)
variable{bQ:aA}
theorem agt{s:ak}(a:I s<=20000)(h:iV s 0 bQ):iS s=(bQ,0,0):=by simp only[iS,wU];rw[if_neg af,aO.aDo h]
variable{m:ak}
theorem RZ{p:Int}(h:iV m p bQ):I bQ<=I m:=by induction h with|nil=>exact bU _|blank _ _ a=>simp only[eo];omega|tok _ b _ a=>have:=aO.alS b;simp only[eo,ff]at a ⊢;omega
theorem _U(s:ak):(∃bQ,I s<=20000/\iV s 0 bQ/\iS s=(bQ,0,0))\/(I s<=20000/\∃j,aO.rR s 0 j/\iS s=([],j,11))\/(20000<I s/\iS s=([],0,3)):=by
 by_cases h : 20000<I s
 .refine .inr (.inr ⟨h,?_⟩);simp only[iS,wU];rw[if_pos af]
 .have a:=aO.akO s;simp only[iS,wU];rw[if_neg af];cases b:aO.B6 s with|ok bQ=>rw[b]at a;exact .inl ⟨bQ,by omega,a,rfl⟩|error j=>rw[b]at a;exact .inr (.inl ⟨by omega,j,a,rfl⟩)
theorem MD(s:ak):I (iS s).1<1000000000:=by
 rcases _U s with ⟨bQ,c,b,a⟩|⟨_,j,_,a⟩|⟨_,a⟩<;>rw[a]
 .have:=RZ b;simp only;omega
 .simp
 .simp
variable{x:aP}
theorem agm{s:ak}(a:I s<=20000)(h:iV s 0 bQ)(b:o9 bQ = .ok x)(c:gP x):rr s=J (cond (ei x) (x,0,0) (eJ,0,2)):=by rw[QN s (MD s)];simp only[yF,agt a h,if_true,b,VN c];cases ei x<;>rfl
variable{q:aA}
theorem ayU{s:ak}(a:I s<=20000)(h:iV s 0 bQ)(b:o9 bQ = .error q):rr s=J (eJ,hA (I s) q,11):=by rw[QN s (MD s)];simp only[yF,agt a h,if_true,b]
theorem aEO(h:ei s=ab)(k:s.kind=3):iJ jk oF Fin oU (gU s) s:=by
 obtain⟨⟨b,d⟩,e⟩:=rU h;rw[aAr];have a:eQ s.on=ab/\s.names≠[]/\∀x,x∈s.names->eQ x=true:=by
  rcases e with ⟨q,_⟩|q|⟨_,c⟩|⟨q,_⟩|⟨q,_⟩|⟨q,_⟩|⟨q,_⟩
  case inr.inr.inl=>exact c
  all_goals omega
 have f:gU s=(nN++[32])++((o6++[32])++(s.name++((32::(sG++[32]))++(s.on++(32::lP s.names))))):=by rw[gU,if_neg af,if_neg af,if_pos k];simp[nN,o6,sG]
 rw[f];have r:=ay3 (p:=nO) (q:=aj4) (SW (w:=nN) gN) (atk b a.1 a.2.1 a.2.2) D9;exact aBE (r.mono (nJ:=oF) D9 (EW:=Fin) s5 (T2:=oU) s5) (ajC d k).symm
theorem age(h:ei s=ab)(k:s.kind=3)(c:gP s)(d:I (gU s)<=20000):rr (gU s)=J (s,0,0):=by
 obtain⟨bQ,b,a⟩:=aEO h k [] 0 [] aq2 .nil;have a:=(a [] (.inl rfl)).2;rw[kq]at b a;rw[kq]at b;have e:o9 bQ = .ok s:=by unfold o9;rw[a];rfl
 rw[agm d b e c,h];rfl
end Go.Proofs.YtdelkmpkjibigaaGreatDoor
namespace Go.Proofs.YtdelkmpkjibigaaGreatDoor
open Go.ft
def r2(l:aA):Prop:=∀t,t∈l->(t.kind=2->I t.s<=30)/\I t.s<=20000/\0<=t.n/\t.n<=9223372036854775807
theorem lL{l:aA}(h:r2 l):r2 l.tail:=λt a=>h t (List.mem_of_mem_tail a)
def eV{α:Type}(p:aA->bR α)(Q : α->Nat->Prop):Prop:=∀l x aC,p l = .ok (x,aC)->r2 l->r2 aC/\∃n,2*I l=n+2*I aC/\Q x n
variable {α β:Type}{p q:aA->bR α}{Q : α->Nat->Prop}
theorem Jt{R : α->Nat->Prop}(h:eV p Q)(d:∀x n,Q x n->R x n):eV p R:=λl x aC e f=>by obtain⟨a,n,b,c⟩:=h l x aC e f;exact⟨a,n,b,d _ _ c⟩
theorem iO{x : α}(h:Q x 0):eV (cJ x) Q:=λl y aC a b=>by cases a;exact⟨b,0,by simp,h⟩
theorem e'{f : α->aA->bR β}{R : β->Nat->Prop}(h:eV p Q)(i:∀x n,Q x n->eV (f x) λy m=>R y (n+m)):eV (aN p f) R:=λl y aC d j=>by
 simp[aN]at d;cases g:p l with
 |error e=>rw[g]at d;cases d
 |ok z=>
  obtain⟨x,aQ⟩:=z;rw[g]at d;obtain⟨a,n,b,c⟩:=h l x aQ g j;obtain⟨k,m,o,c2⟩:=i x n c aQ y aC d a
  grind
theorem j7:∀ss,eV (cY ss) λ_ _=>True
 |[]=>iO trivial
 |s::ss=>λl x aC c e=>by simp[cY]at c;cases d:aV s l with|false=>rw[d]at c;cases c|true=>rw[d]at c;obtain⟨a,n,b,_⟩:=j7 ss l.tail x aC c (lL e);have:=ju d;exact⟨a,n+2,by omega,trivial⟩
theorem ot:eV fl λs n=>n=2/\I s<=30:=λl x aC a c=>by
 cases l with
 |nil=>cases a
 |cons t r=>simp[fl]at a;cases b:aa (t.kind=2)with|false=>rw[b]at a;cases a|true=>rw[b]at a;cases a;exact⟨lL c,2,by simp;omega,rfl,(c t (by simp)).1 (of_decide_eq_true b)⟩
theorem l9{w:ak}(g:eV p λx n=>Q x (n+2))(h:eV q Q):eV (λl=>match aV w l with|true=>p l.tail|false=>q l) Q:=λl x aC d f=>by simp only at d;cases e:aV w l with|false=>rw[e]at d;exact h l x aC d f|true=>rw[e]at d;obtain⟨a,n,b,c⟩:=g l.tail x aC d (lL f);have:=ju e;exact⟨a,n+2,by omega,c⟩
theorem RF{P:U α->Nat->Prop}(h:eV p Q)(d:∀acc k x n,P acc k->Q x n->P (acc++[x]) (k+(n+2))):∀(f:Nat) (acc:U α) (l:aA) (e:U α) (aC:aA),e5 p f acc l = .ok (e,aC)->r2 l->∀k,P acc k->r2 aC/\∃n,2*I l=n+2*I aC/\P e (k+n)
 |0,_,_,_,_,aW,_,_,_=>by cases aW
 |f+1,acc,l,e,aC,aW,bf,k,dm=>by
  simp[e5]at aW;cases g:aV [44] l with
  |false=>simp_all
  |true=>rw[g]at aW;cases i:p l.tail with|error e=>grind|ok z=>obtain⟨x,aQ⟩:=z;simp[i]at aW;obtain⟨a,n,b,c⟩:=h _ _ _ i (lL bf);obtain⟨j,m,o,c2⟩:=RF h d f _ aQ e aC aW a _ (d acc k x n dm c);have:=ju g;exact⟨j,n+2+m,by omega,by rw[<-Nat.add_assoc];exact c2⟩
theorem NA{P:U α->Nat->Prop}(h:eV p Q)(g:∀x n,Q x n->P [x] n)(i:∀acc k x n,P acc k->Q x n->P (acc++[x]) (k+(n+2))):eV (jQ p) P:=λl e aC d j=>by
 simp[jQ]at d;cases f:p l with
 |error e=>rw[f]at d;cases d
 |ok z=>
  obtain⟨x,aQ⟩:=z;rw[f]at d;obtain⟨a,n,b,c⟩:=h _ _ _ f j;obtain⟨o,m,q,c2⟩:=RF h i _ _ aQ e aC d a n (g x n c)
  grind
def X(e:aq)(n:Nat):Prop:=cm e+1<=n/\fK e
theorem akR{k:Int}{l:U aq}(a:dc k)(b:I l<=2)(h:∀e,e∈l->fK e):fK (fq k l):=.mk k ⟨0,0,[]⟩ [] l a ⟨by simp only[dc];omega,by simp only[dc];omega,by simp[b1]⟩ qu iC h
theorem LV{k:Int}{a:aq}(b : 0<=k/\k<=100)(h:fK a):fK (fq k [a]):=akR ec (by simp) uO
theorem akP{k:Int}{a b:aq}(d : 0<=k/\k<=100)(h:fK a)(c:fK b):fK (fq k [a,b]):=akR ec (by simp) (by simpa using ⟨h,c⟩)
theorem akQ{k j n:Int}{s m:ak}(a : 0<=j/\j<=5)(b : 0<=n/\n<=9223372036854775807)(c:I s<=20000)(hm:I m<=20000)(d : 0<=k/\k<=5):fK (.mk k ⟨j,n,s⟩ m []):=.mk k ⟨j,n,s⟩ m [] ec ⟨by simp[dc];omega,by simp[dc];omega,by simp[b1];omega⟩ iC qu λ_ h=>by cases h
theorem Mn(k:Int)(e:aq):cm (fq k [e])=cm e+2:=by simp[fq,cm,fc];omega
theorem alQ(k:Int)(a b:aq):cm (fq k [a,b])=cm a+cm b+3:=by simp[fq,cm,fc];omega
theorem aoT{rec:aA->bR aq}(h:eV rec X):eV (iD rec) X:=λl e aC d g=>by
 cases l with
 |nil=>cases d
 |cons t r=>
  have m : 2*I (t::r)=2+2*I r:=d'
  rw[EY]at d;cases f:pD t with
  |some v=>
   rw[f]at d;cases d;obtain⟨_,o,p⟩:=g t (by simp);refine⟨lL g,2,m,?_⟩;unfold pD at f
   repeat' split at f
   all_goals first|(cases f;done)|(cases f;exact⟨bU _,akQ af af (by first|omega|simp) (by first|omega|simp) af⟩)
  |none=>
   rw[f]at d;cases k:aV [40] (t::r)with
   |false=>rw[k]at d;cases d
   |true=>
    rw[k]at d;simp[xZ,aN]at d;cases i:rec r with
    |error q=>rw[i]at d;cases d
    |ok x=>obtain⟨s,aQ⟩:=x;rw[i]at d;simp only at d;cases j:aV [41] aQ with|false=>rw[j]at d;cases d|true=>rw[j]at d;cases d;obtain⟨a,n,b,c⟩:=h _ _ _ i (lL g);have:=ju j;exact⟨lL a,n+4,by omega,fV c.1 af,c.2⟩
theorem ajJ{part:aA->bR aq}{aM:U (ak×Int)}(h:eV part X)(g:∀q,q∈aM->0<=q.2/\q.2<=100):∀(f:Nat) (e:aq) (l:aA) (d:aq) (aC:aA),kB part aM f e l = .ok (d,aC)->r2 l->∀k,X e k->r2 aC/\∃n,2*I l=n+2*I aC/\X d (k+n)
 |0,_,_,_,_,aW,_,_,_=>by cases aW
 |f+1,e,l,d,aC,aW,bf,k,dm=>by
  simp[kB]at aW;split at aW
  .simp_all
  .rename_i p i;split at aW
   .cases aW
   .rename_i x aQ ag;obtain⟨a,n,b,c⟩:=h _ _ _ ag (lL bf);obtain⟨j,m,o,c2⟩:=ajJ h g f _ aQ d aC aW a (k+(n+2)) ⟨by have:=dm.1;have:=c.1;rw[alQ];omega,akP (g _ (List.mem_of_find?_eq_some i)) dm.2 c.2⟩;have:=ju (ahE i);exact⟨j,n+2+m,by omega,by rw[<-Nat.add_assoc];exact c2⟩
theorem Jc{part:aA->bR aq}{aM:U (ak×Int)}(h:eV part X)(f:∀q,q∈aM->0<=q.2/\q.2<=100):eV (hh part aM) X:=λl e aC d g=>by
 simp[hh]at d;split at d
 .cases d
 .rename_i x aQ ag;obtain⟨a,n,b,c⟩:=h _ _ _ ag g;obtain⟨i,m,j,c2⟩:=ajJ h f _ _ aQ e aC d a n c;exact⟨i,n+m,by omega,c2⟩
theorem afp{s:ak}{k:Int}{part:aA->bR aq}(h:eV part X)(f : 0<=k/\k<=100):eV (gd s k part) X:=λl=>by
 induction l with
 |nil=>exact h []
 |cons t r j=>
  intro e aC d g;simp[gd]at d;cases i:aV s (t::r)with
  |false=>rw[i]at d;exact h _ _ _ d g
  |true=>rw[i]at d;cases ag:gd s k part r with|error q=>simp only[ag]at d;cases d|ok z=>obtain⟨x,aQ⟩:=z;simp only[ag]at d;cases d;obtain⟨a,n,b,c⟩:=j x aC ag (lL g);exact⟨a,n+2,by simp;omega,by have:=c.1;rw[Mn];omega,LV f c.2⟩
theorem aAY:∀q,q∈vC->0<=q.2/\q.2<=100:=dM
theorem aBG{sum:aA->bR aq}(h:eV sum X):eV (mW sum) X:=λl e aC d j=>by
 simp[mW]at d;split at d
 .cases d
 rename_i x aQ ag;obtain⟨a,n,b,c⟩:=h _ _ _ ag j;split at d
 .rename_i p i;split at d
  .cases d
  rename_i y r aE;cases d;obtain⟨k,m,s,c2⟩:=h _ _ _ aE (lL a);have:=ju (ahE i);exact⟨k,n+(m+2),by omega,by have:=c.1;have:=c2.1;rw[alQ];omega,akP (aAY _ (List.mem_of_find?_eq_some i)) c.2 c2.2⟩
 .split at d
  .rename_i o;have t:=ju o;simp[n5]at d;cases g:aV hi aQ.tail with
   |true=>rw[g]at d;cases f:aV hJ aQ.tail.tail with|false=>simp only[f]at d;cases d|true=>simp only[f]at d;cases d;have q:=ju g;have u:=ju f;exact⟨lL (lL (lL a)),n+6,by omega,by have:=c.1;rw[Mn,Mn];omega,LV dM (LV dM c.2)⟩
   |false=>rw[g]at d;cases f:aV hJ aQ.tail with|false=>simp only[f]at d;cases d|true=>simp only[f]at d;cases d;have q:=ju f;exact⟨lL (lL a),n+4,by omega,by have:=c.1;rw[Mn];omega,LV dM c.2⟩
  .cases d;exact⟨a,n,b,c⟩
theorem J2:eV gq X:=λl=>(show ∀n,eV (vS n) X fromλn=>by
 induction n with
 |zero=>intro _ _ _ a;cases a
 |succ n b=>exact Jc (Jc (afp (aBG (Jc (Jc (afp (aoT b) dM) dM) dM)) dM) dM) dM) _ l
theorem agB(l:U aq)(x:aq):fc (l++[x])=fc l+(1+cm x):=by induction l with|nil=>simp[ fc]|cons y l a=>simp[ fc];omega
theorem QJ{α:Type}{P : α->Prop}{l:U α}{x : α}(h:∀y,y∈l->P y)(ag:P x):∀y,y∈l++[x]->P y:=λy aE=>by grind
theorem aeP:eV qT λl n=>(fc l<=n/\2<=n)/\∀x,x∈l->fK x:=NA J2 (λx n h=>⟨by have:=h.1;rw[l1]at this;simp[fc,l1]at *;omega,λy aE=>by rw[List.mem_singleton.1 aE];exact h.2⟩) λl k x n h ag=>⟨by have:=ag.1;have:=h.1;simp[agB];omega,QJ h.2 ag.2⟩
def BR{α:Type}(_ : α)(_:Nat):Prop:=True
theorem ach(s:ak)(ss:U ak):eV (hc s ss) BR:=λl x aC c f=>by
 simp[hc]at c;cases d:aV s l with
 |false=>rw[d]at c;cases c;exact⟨f,0,by simp,trivial⟩
 |true=>rw[d]at c;cases e:cY ss l.tail with|error q=>simp only[e]at c;cases c|ok z=>simp only[e]at c;cases c;obtain⟨a,n,b,_⟩:=j7 ss _ _ _ e (lL f);have:=ju d;exact⟨a,n+2,by omega,trivial⟩
theorem aqW:eV mD BR:=l9 (p:=cJ 2) (iO trivial) (l9 (p:=cJ 3) (iO trivial) (l9 (p:=cJ 4) (iO trivial) (l9 (p:=cJ 5) (q:=λl=>.error l) (iO trivial) λ_ _ _ h=>by cases h)))
theorem aBJ:eV iR BR:=l9 (p:=fl) (q:=cJ []) (Jt ot λ_ _ _=>trivial) (iO trivial)
theorem adh:eV mb λ_ n=>2<=n:=e' (Q:=λ_ n=>2<=n) (e' ot λ_ n h=>e' aqW λ_ _ _=>e' (ach _ _) λ_ _ _=>e' (ach _ _) λ_ _ _=>e' aBJ λ_ _ _=>iO af) λ_ n h=>e' (j7 _) λ_ _ _=>iO af
theorem V0:∀(f:Nat) (acc:U bk) (l:aA) (e:U bk) (aC:aA),k8 f acc l = .ok (e,aC)->r2 l->∀k,2*I acc<=k->r2 aC/\∃n,2*I l=n+2*I aC/\2*I e<=k+n
 |0,_,_,_,_,aW,_,_,_=>by cases aW
 |f+1,acc,l,e,aC,aW,bf,k,dm=>by
  simp[k8]at aW;cases d:aV og l with
  |true=>rw[d]at aW;cases aW;have:=ju d;exact⟨lL bf,2,by omega,by omega⟩
  |false=>rw[d]at aW;cases g:mb l with|error q=>simp only[g]at aW;cases aW|ok z=>obtain⟨x,aQ⟩:=z;simp[g]at aW;obtain⟨a,n,b,c⟩:=adh _ _ _ g bf;obtain⟨h,m,i,c2⟩:=V0 f _ aQ e aC aW a (k+n) hF;exact⟨h,n+m,by omega,by omega⟩
theorem ayH:eV wN λl n=>2*I l<=n:=λl e aC d g=>by simp[wN]at d;cases f:mb l with|error q=>rw[f]at d;cases d|ok z=>obtain⟨x,aQ⟩:=z;rw[f]at d;obtain⟨a,n,b,c⟩:=adh _ _ _ f g;obtain⟨h,m,i,c2⟩:=V0 _ _ aQ e aC d a n c;exact⟨h,n+m,by omega,c2⟩
theorem adN:eV o5 λl n=>2*I l<=n:=e' (j7 _) λ_ _ _=>e' (NA (P:=λl n=>2*I l<=n) ot (λx n h=>by simp[ dB];omega) λl k x n h ag=>by simp[ dB];omega) λ_ _ _=>e' (j7 _) λ_ _ _=>iO af
theorem aAo:eV kO X:=e' (j7 _) λ_ _ _=>e' J2 λ_ _ h=>e' (j7 _) λ_ _ _=>iO ⟨by have:=h.1;omega,h.2⟩
theorem azM:eV (λl=>e5 kO (I l+1) [] l) λl n=>fc l<=n/\∀x,x∈l->fK x:=λl e aC f g=>by obtain⟨a,n,b,c,d⟩:=RF (P:=λl n=>fc l<=n/\∀x,x∈l->fK x) aAo (λl k x n h ag=>⟨by have:=ag.1;have:=h.1;simp[agB];omega,QJ h.2 ag.2⟩) _ _ l e aC f g 0 ⟨by simp only[fc];omega,λ_ h=>by cases h⟩;exact⟨a,n,b,by omega,d⟩
theorem QZ:eV ky λw n=>cm w.2<=n+1:=λl x aC d h=>by
 simp[ky]at d;cases f:aV Dq l with
 |false=>rw[f]at d;cases d;exact⟨h,0,by simp,by decide⟩
 |true=>rw[f]at d;cases g:gq l.tail with|error q=>simp only[g]at d;cases d|ok z=>obtain⟨e,aQ⟩:=z;simp only[g]at d;cases d;obtain⟨a,n,b,c⟩:=J2 _ _ _ g (lL h);have:=ju f;exact⟨a,n+2,by omega,by show cm e<=n+2+1;have:=c.1;omega⟩
def o'(s:aP)(n:Nat):Prop:=(2*I s.ay<=n/\2*I s.names<=n/\2*I s.order<=n/\2*I s.desc<=n/\I s.name+I s.on<=60/\cm s.cX<=n/\fc s.l<=n/\2*I s.rows<=n/\2*I s.bT<=n)/\(∀r,r∈s.rows->fc r<=n)/\(∀x,x∈s.bT->cm x.e<=n)/\∀x,x∈s.l->fK x
theorem kN{α:Type}{P : α->Prop}:∀x,x∈([]:U α)->P x:=λ_ h=>by cases h
theorem Gp:cm lZ=1:=rfl
theorem apt:eV wD o':=e' ot λ_ _ b=>e' (j7 _) λ_ _ _=>e' ayH λ_ _ c=>e' (j7 _) λ_ _ _=>e' adN λ_ _ d=>e' azM λ_ _ a=>e' (j7 _) λ_ _ _=>iO ⟨by simp[eJ,Gp];omega,kN,kN,a.2⟩
theorem am1:eV vy o':=e' (j7 _) λ_ _ _=>e' ot λ_ _ a=>e' (j7 _) λ_ _ _=>e' ot λ_ _ b=>e' adN λ_ _ c=>iO ⟨by simp[eJ,Gp,fc];omega,kN,kN,kN⟩
theorem aEU{s:aP}{n:Nat}(h:o' s n):o' s (n+2):=by obtain⟨e,b,c,d⟩:=h;exact⟨by omega,λr a=>fV (b r a) af,λr a=>fV (c r a) af,d⟩
theorem wF{p:aA->bR aP}(h:eV p o'):eV p λx n=>o' x (n+2):=Jt h λ_ _ h=>aEU h
theorem awV:eV nO o':=l9 (wF apt) am1
theorem ayI:eV ry o':=l9 (w:=vw) (p:=aN fl λn=>cJ ({ eJ with kind:=2,name:=n }:aP)) (q:=aN (cY [o6]) λ_=>aN fl λn=>cJ ({ eJ with kind:=4,name:=n }:aP)) (e' ot λ_ _ a=>iO ⟨by simp[eJ,Gp,fc];omega,kN,kN,kN⟩) (e' (j7 _) λ_ _ _=>e' ot λ_ _ a=>iO ⟨by simp[eJ,Gp,fc];omega,kN,kN,kN⟩)
theorem aA3:eV DJ λl n=>fc l<=n/\2<=n:=e' (j7 _) λ_ _ _=>e' aeP λ_ _ h=>e' (j7 _) λ_ _ _=>iO af
theorem Sr{g : α->Nat}(h:eV p λx n=>g x<=n/\2<=n):eV (jQ p) λl n=>2*I l<=n/\∀x,x∈l->g x<=n:=NA h (λx n h=>⟨by simp[ dB];omega,λy aE=>by rw[List.mem_singleton.1 aE];exact h.1⟩) λl k x n h ag=>⟨by simp[ dB];omega,QJ (λy aE=>fV (h.2 y aE) af) af⟩
theorem ax1:eV zx o':=e' (j7 _) λ_ _ _=>e' ot λ_ _ c=>e' (j7 _) λ_ _ _=>e' (Sr aA3) λ_ _ a=>iO ⟨by simp[eJ,Gp,fc];omega,λr b=>fV (a.2 r b) af,kN,kN⟩
theorem aAv:eV DF λx n=>cm x.e<=n/\2<=n:=e' ot λ_ _ b=>e' (j7 _) λ_ _ _=>e' J2 λ_ _ a=>iO (by have:=a.1;simp only;omega)
theorem au8:eV xI o':=e' ot λ_ _ c=>e' (j7 _) λ_ _ _=>e' (Sr aAv) λ_ _ a=>e' QZ λ_ _ d=>iO ⟨by simp[eJ,fc];omega,kN,λr b=>fV (a.2 r b) af,kN⟩
theorem av7:eV zb o':=e' (j7 _) λ_ _ _=>e' ot λ_ _ a=>e' QZ λ_ _ b=>iO ⟨by simp[eJ,fc];omega,kN,kN,kN⟩
theorem azh:eV s8 λl n=>fc l<=n/\∀x,x∈l->fK x:=l9 (p:=cJ []) (iO ⟨by simp only[fc];omega,kN⟩) (Jt aeP λ_ _ h=>⟨h.1.1,h.2⟩)
theorem ayM:eV rp BR:=l9 (p:=cJ ab) (iO trivial) (l9 (p:=cJ ai) (q:=cJ ai) (iO trivial) (iO trivial))
theorem aA1:eV uD λ_ n=>0<=n/\2<=n:=e' ot λ_ _ h=>e' ayM λ_ _ _=>iO af
theorem anJ:eV kA λl n=>2*I l<=n:=l9 (p:=aN (cY [CJ]) λ_=>jQ uD) (q:=cJ []) (e' (j7 _) λ_ _ _=>Jt (Sr (g:=λ_=>0) aA1) λ_ _ h=>by omega) (iO (by simp only[dB];omega))
theorem aBb:eV ue BR:=λl x aC a c=>by
 cases l with
 |nil=>cases a
 |cons t r=>simp[ue]at a;cases b:aa (t.kind=3)with|false=>rw[b]at a;cases a|true=>rw[b]at a;cases a;exact⟨lL c,2,by simp;omega,trivial⟩
theorem anc:eV h' BR:=l9 (p:=ue) (q:=cJ (-1)) aBb (iO trivial)
theorem awS:eV pL o':=e' azh λ_ _ a=>e' (j7 _) λ_ _ _=>e' ot λ_ _ b=>e' QZ λ_ _ c=>e' anJ λ_ _ d=>e' anc λ_ _ _=>iO ⟨by simp[eJ,List.length_map];omega,kN,kN,a.2⟩
theorem azI:eV jk o':=l9 (wF awV) (l9 (wF ayI) (l9 (wF ax1) (l9 (wF au8) (l9 (wF av7) (l9 (q:=λl=>.error l) (wF awS) λ_ _ _ h=>by cases h)))))
end Go.Proofs.YtdelkmpkjibigaaGreatDoor
namespace Go.Proofs.YtdelkmpkjibigaaGreatDoor
open Go.ft
open aO (jd iV)
theorem agH:∀(l:ak) (m n:Int),0<=m/\m<=9223372036854775807->aO.oO l m=J n->n<=9223372036854775807
 |[],m,n,h,ck=>by simp[aO.oO]at ck;omega
 |c::r,m,n,h,ck=>by
  simp only[aO.oO]at ck;split at ck
  .cases ck
  .rename_i ao;have ar:=aO.T6 (Classical.not_not.1 λq=>ao (.inl q));exact agH r _ n af ck
theorem apD(l:ak):aO.n_ l<=9223372036854775807:=by unfold aO.n_;cases h:aO.oO l 0 with|none=>simp|some n=>have:=agH l 0 n af h;simp only;split<;>omega
def akz(k n:Int)(s:ak):Prop:=(k=2->I s<=30)/\(k=6->I s<=2)/\I s<=20000/\0<=n/\n<=9223372036854775807
variable{m:ak}{s:ak}
theorem aCz{k n:Int}{e:Nat}(h:jd m=J (k,s,n,e))(hm:I m<=20000):akz k n s:=by
 have b:=aO.Mr aO.eg m;have c:=apD (aO.dt aO.eg m);unfold aO.jd at h
 repeat' split at h
 all_goals cases h
 all_goals refine⟨λq=>?_,λq=>?_,?_,?_⟩
 all_goals first
  |omega
  |(rename_i a;simp[aO.qb,bN]at a;omega)
  |(rw[jL];omega)
  |(rename_i a;simp[aO.tK,aO.tV]at a;omega)
def aDh(l:aA):Prop:=∀t,t∈l->akz t.kind t.n t.s
variable{bQ:aA}
theorem ajV{p:Int}(h:iV m p bQ):I m<=20000->aDh bQ:=by
 induction h with
 |nil=>intro _ _ h;cases h
 |blank _ _ b=>grind
 |tok _ c _ b=>
  intro hm t a;rcases hv.1 a with rfl|a
  .exact aCz c hm
  .exact b rM t a
theorem aAB{x:aP}(j:I s<=5000)(h:iV s 0 bQ)(a:o9 bQ = .ok x):gP x/\∀e,e∈x.l->fK e:=by
 have k:=RZ h;unfold o9 at a;cases d:jk bQ with
 |error q=>rw[d]at a;cases a
 |ok z=>
  obtain⟨y,aC⟩:=z;rw[d]at a;obtain⟨_,n,b,c,c2,fZ,gQ⟩:=azI bQ y aC d λt g=>by obtain⟨t1,_,t3,i⟩:=ajV h af t g;exact⟨t1,t3,i⟩
  have:y=x:=im
  subst this;exact⟨⟨by omega,by omega,by omega,by omega,by omega,by omega,by omega,⟨by omega,λr f=>fV (c2 r f) af⟩,by omega,λr f=>fV (fZ r f) af⟩,gQ⟩
end Go.Proofs.YtdelkmpkjibigaaGreatDoor
namespace Go.Proofs.YtdelkmpkjibigaaGreatDoor
open Go.ft
def Lh(x:ak)(s:aP)(n e:Int):Prop:=rr x=J (s,n,e)/\qn x=J (s,n,e)/\(e=0->ei s=ab/\gP s/\∀q,q∈s.l->fK q)/\(¬e=0->s=eJ)
theorem Mf(x:ak)(m:I x<=5000):∃s n e,Lh x s n e:=by
 have bad:∀{n e:Int},iS x=([],n,e)->¬e=0->Lh x eJ n e:=λh g=>by refine⟨?_,awX h g,λh=>absurd h g,λ_=>rfl⟩;rw[QN x (MD x)];simp only[yF,h];rw[if_neg g]
 rcases _U x with ⟨bQ,i,a,b⟩|⟨_,j,a,b⟩|⟨a,b⟩
 .have l:∀t,t∈bQ->t.kind=6->I t.s<=2:=λt h=>(ajV a i t h).2.1;have p:=RZ a;cases c:o9 bQ with
  |error q=>exact⟨_,_,_,ayU i a c,azz b l af c,λh=>by omega,λ_=>rfl⟩
  |ok s=>obtain⟨k,o⟩:=aAB m a c;have d:=agm i a c k;have f:=am0 b l af c k;cases ao:ei s with|true=>rw[ao,bd]at d f;exact⟨_,_,_,d,f,λ_=>⟨ao,k,o⟩,λh=>absurd rfl h⟩|false=>rw[ao,bj]at d f;exact⟨_,_,_,d,f,λh=>by omega,λ_=>rfl⟩
 .exact⟨_,_,_,bad b dM⟩
 .exact⟨_,_,_,bad b dM⟩
theorem vA{α:Type}{P : α->Prop}:jR P ([]:U α):=⟨by simp[b1],λ_ h=>by cases h⟩
theorem akT{l:U ak}(h:I l<=5100)(a:∀x,x∈l->eQ x=ab):jR (λx=>b1 (I x)) l:=⟨by simp[b1];omega,λx ag=>by have:=lC (a x ag);simp[b1];omega⟩
theorem tJ:fK h1.cX:=akQ af af (by simp) (by simp) af
variable{s:aP}
theorem acw(h:ei s=ab)(k:s.kind=1\/s.kind=3)(d:gP s)(i:∀e,e∈s.l->fK e):qq s:=by
 obtain⟨⟨m,f⟩,n⟩:=rU h;have i0:∀j:Int, -1<=j/\j<=9->dc j:=λj v=>by simp[dc];omega
 have o:b1 (I ([]:ak)):=qu
 have f1:=d.ay;have w:=d.l;have x:=qz s.l;have g:b1 (I s.name):=by have:=lC m;simp[b1];omega
 rcases n with ⟨p,c1,_,_,gQ,_⟩|q|⟨r,c1,_,fZ⟩|⟨q,_⟩|⟨q,_⟩|⟨q,_⟩|⟨q,_⟩
 case inl=>
  have cW:=akT d.names gQ;have cs:jR Kf s.ay:=⟨by simp[b1];omega,λc ao=>by
   obtain⟨a,b⟩:=c1 c ao;simp[jC,mK]at a;have:=lC b;have f:I c.ref<=30:=by
    rcases a.2 with h|h
    .rw[h];simp
    .exact lC h
   exact⟨by simp[b1];omega,by simp[dc];omega,by simp[b1];omega⟩⟩
  have t:jR fK s.l:=⟨by simp[b1];omega,i⟩;rw[aBZ f p];exact⟨i0 1 af,g,o,cs,cW,t,vA,vA,tJ,vA,by simp[b1,h1],i0 0 dM⟩
 case inr.inr.inl=>
  have u:b1 (I s.on):=by have:=lC c1;simp[b1];omega
  rw[ajC f r];exact⟨i0 3 af,g,u,vA,(akT d.names fZ),vA,vA,vA,tJ,vA,by simp[b1,h1],i0 0 dM⟩
 all_goals omega
def jv(t:b5):U ak:=gU (fm t)::t.idx.map λx=>gU (dG t x)
structure nM (t:b5):Prop where
 j3:o7 t=ab
 sk:gP (fm t)
 idx:∀x,x∈t.idx->gP (dG t x)
 fp:∀e,e∈t.ie->fK e
variable{t:b5}
theorem Dd(h:iq t=ab):ei (fm t)=true:=by simp[iq,bN]at h;cases ao:ei (fm t)with|true=>rfl|false=>have:=h.1;simp only[hz,ao,Bool.and_false,bj]at this;omega
variable{x:c'}
theorem z'(h:iq t=ab)(ag:x∈t.idx):ei (dG t x)=true:=by simp[iq,dH]at h;have:=h.2.2.2 x ag;simp[mE]at this;exact this.1
theorem MH(a:nM t)(h:iq t=ab):tD (fm t)=J (gU (fm t),0)/\I (gU (fm t))<=60000000:=by have al:=acw (Dd h) (.inl rfl) a.sk a.fp;exact⟨aaz (Dd h) al a.sk (.inl rfl),CV (Dd h) al a.sk (.inl rfl)⟩
theorem Sq(a:nM t)(h:iq t=ab)(ag:x∈t.idx):tD (dG t x)=J (gU (dG t x),0)/\I (gU (dG t x))<=60000000:=by
 have al:=acw (z' h ag) (.inr rfl) (a.idx x ag) λe h=>by cases h
 exact⟨aaz (z' h ag) al (a.idx x ag) (.inr rfl),CV (z' h ag) al (a.idx x ag) (.inr rfl)⟩
theorem awD(b:nM t)(h:iq t=ab):∀s,s∈jv t->I s<=60000000:=λs a=>by
 rcases hv.1 a with rfl|a
 .exact(MH b h).2
 .obtain⟨x,ag,rfl⟩:=List.mem_map.1 a;exact(Sq b h ag).2
theorem Xe:∀l:U ak,(∀s,s∈l->I s<=60000000)->I (hy l)<=I l*60000006
 |[],_=>by simp[hy]
 |s::l,h=>by have a:=h s (by simp);have b:=Xe l λx ag=>h x te;have c:=tm 5 (I s);simp[hy,eo];omega
theorem zu(h:iq t=ab):I t.idx<=100:=by simp[iq,bN]at h;exact h.2.2.1
def pA(t:b5):ak×Int:=cond (iq t) (lJ (jv t),0) ([],2)
theorem aaB(a:nM t)(h:iq t=ab):I (jv t)<=101/\I (hy (jv t))<=274877906000:=by
 have b:=zu h;have c:=Xe _ (awD a h);have d:I (jv t)=I t.idx+1:=AJ
 omega
variable{c:U ak->ae (ak×Int)}
theorem au5(b:nM t)(h:iq t=ab){kx:aX->Ir->ae (ak×Int)}(ag:∀acc,kx (.exit 0) (acc,t.idx,(I t.idx:Int),(I t.idx:Int),t)=c acc)(k:Nat)(e:I t.idx<k) :
  aI (λrec=>zO rec kx) k ([gU (fm t)],t.idx,(I t.idx:Int),0,t)=c (jv t):=by
 have f:=zu h;refine(lB (I t.idx) (λi (acc:U ak)=>(acc,t.idx,(I t.idx:Int),(i:Int),t)) (λi acc=>I acc=i+1) (λi acc=>c (acc++(t.idx.drop i).map λx=>gU (dG t x))) (λi a acc g rec d=>?_) (λacc _ rec=>?_) k 0 [gU (fm t)] (cL _) af rfl).trans KT
 .obtain⟨p1,p2⟩:=Sq b h (hf a);simp only[zO,ea a,cg a,ax,cR (c:=.idx) a,p1,bA];exact ai5
 .simp only[zO,eu,bj,ag]
  grind
theorem JA(a:nM t):py t=J (pA t):=by simp only[py,HE,vr,a.j3,bd,bA,pA];cases h:iq t with|false=>rfl|true=>obtain⟨p1,p2⟩:=MH a h;obtain⟨d,b⟩:=aaB a h;rw[bd,aH (show(0:Int)=0 from rfl),ef,bj,p1,bA,aH jf,ax,bd,bd];exact au5 a h (c:=λl=>(D3 l).bind λx=>J (x,0)) (λ_=>rfl) 5000 (by have:=zu h;omega)|>.trans (by rw[aqw af b];rfl)
structure Tj (t:b5) (s:aP):Prop where
 kind:s.kind=3
 ok:ei s=ab
 on:s.on=t.name
 no:kL t.idx s.name=ai
 len:I t.idx<100
 all:iT t s.names=ab
theorem apd(h:Tj t s):q1 t s=({ t with idx:=jD t.idx ⟨s.name,s.names⟩ },0):=by have a:aa (100<=I t.idx)=false:=aL (by have:=h.len;omega);simp[q1,h.kind,h.ok,h.on,h.no,a,h.all]
theorem aBA(h:(q1 t s).2=0):Tj t s:=by
 simp[q1]at h;cases a:(aa (s.kind=3)&&(ei s&&aa (s.on=t.name)))with
 |false=>rw[a]at h;simp at h
 |true=>
  cases b:kL t.idx s.name with
  |true=>grind
  |false=>
   cases c:aa (100<=I t.idx)with
   |true=>grind
   |false=>cases iY:iT t s.names with|false=>grind|true=>simp at a;exact⟨a.1,a.2.1,a.2.2,b,by have:=of_decide_eq_false c;omega,iY⟩
theorem avx(h:akp t):o7 t=true:=by
 have a:=h.CE.ay;have b:=h.CE.names;have c:=h.CE.l;have d:=h.idx;have f:=qz t.ie;simp[iN]at a b c;have e:∀x,x∈t.ie->cm x<=1000000:=λx ag=>by have:=nH ag;omega
 simp[o7];refine⟨?_,by omega,λx ag=>by have:=d.2 x ag;omega⟩;show(aa (I t.ay<=1000000)&&(aa (I ([]:U ds)<=1000000)&&(aa (I t.key<=1000000)&&(aa (I t.ie<=1000000)&&t.ie.all λe=>aa (cm e<=1000000)))))=ab;simp only[bN,fQ,dH,dB];exact⟨by omega,by omega,by omega,by omega,e⟩
theorem aaP(h:gP s)(b:I t.idx<=1000000)(a:gM t.idx=ab):wm t s=true:=by have c:=h.ay;have d:=h.bT.1;have e:=h.names;simp only[wm,bN,fQ,a];exact⟨by omega,by omega,by omega,by omega,trivial⟩
def wK(t:b5):b5:=⟨t.name,t.ay,t.key,t.ie,[]⟩
def uS(x:ak)(t:b5):Prop:=∃s n,Lh x s n 0/\hz s=(wK t,0)
structure AN (t:b5):Prop where
 bL:gM t.idx=ab
 len:I t.idx<=100
 sk:∀x,x∈t.idx->gP (dG t x)
theorem M6(h:hz s=(wK t,0)):s.name=t.name/\s.ay=t.ay/\s.names=t.key/\s.l=t.ie:=by
 have a:(hz s).2=0:=by rw[h]
 simp[hz]at h a;cases b:aa (s.kind=1)&&ei s with
 |false=>rw[b]at a;simp at a
 |true=>
  rw[b]at h a;cases c:iT ⟨s.name,s.ay,s.names,[],[]⟩ s.names with
  |false=>rw[c]at a;simp at a
  |true=>rw[c]at h a;cases d:aa (jw s.ay s.l=0)with|false=>grind|true=>rw[d]at h;simp[ wK,and_true]at h;exact h
theorem aip{x:ak}(h:uS x t)(f:I t.idx<=1000000)(a:∀x,x∈t.idx->gP (dG t x)):nM t:=by obtain⟨s,n,⟨_,_,g,_⟩,hm⟩:=h;obtain⟨_,b,al⟩:=g rfl;obtain⟨i,j,k,m⟩:=M6 hm;have f1:=b.ay;have c:=b.names;have d:=b.l;have o:=b.name;rw[j]at f1;rw[k]at c;rw[m]at d al;rw[i]at o;have f5:=qz t.ie;have p:gP (fm t):=⟨f1,c,by simp[fm],by simp[fm],by simp[fm];omega,(show cm lZ<=10000 by decide),d,⟨by simp[fm],λr h=>by cases h⟩,by simp[fm],λr h=>by cases h⟩;refine⟨?_,p,a,al⟩;have bI:aa (I (fm t).ay<=1000000)=true:=aH (by show I t.ay<=_;omega);have q:aa (I (fm t).bT<=1000000)=true:=aH (by simp[fm]);have u:aa (I (fm t).names<=1000000)=true:=aH (by show I t.key<=_;omega);have v:aa (I (fm t).l<=1000000)=true:=aH (by show I t.ie<=_;omega);have w:((fm t).l.all λe=>aa (cm e<=1000000))=true:=dH.2 λe y=>aH (by have:e∈t.ie:=y;have:=nH this;omega);have z:(t.idx.all λx=>aa (I x.ay<=1000000))=true:=dH.2 λx ag=>aH (by have:=(a x ag).names;simp[dG]at this;omega);rw[o7,tH,bI,q,u,v,w,z,aH (show I t.idx<=1000000 from f)];rfl
theorem SG{x:ak}(h:uS x t)(a:AN t):nM t:=aip h (by have:=a.len;omega) a.sk
structure rN (b:ak) (t:b5):Prop where
 ok:iq t=ab
 iA:lJ (jv t)=b
 ar:uS (gU (fm t)) t
theorem aqJ(h:iq t=ab)(ag:x∈t.idx)(b:I t.name<=30):gP (dG t x):=by
 have ao:=z' h ag;have a:=lC (rU ao).1.1;have c:I x.ay<=100:=by simp only[ei,dG,bN]at ao;have:=ao.2;simp[if_true]at this;simp[g_]at this;omega
 simp[dG]at a;exact⟨by simp[dG],by simp[dG];omega,by simp[dG],by simp[dG],by simp[dG];omega,(show cm lZ<=10000 by decide),by simp[dG,fc],⟨by simp[dG],λr h=>by cases h⟩,by simp[dG],λr h=>by cases h⟩
theorem rN.jb{b:ak}(h:rN b t):AN t:=by have c:I t.name<=30:=lC (rU (Dd h.ok)).1.1;have a:=h.ok;simp[iq,bN]at a;exact⟨a.2.1,a.2.2.1,λx ag=>aqJ h.ok ag c⟩
theorem rN.enc{b:ak}(h:rN b t):nM t:=SG h.ar h.jb
theorem Xb:∀{l:U ak}{s:ak},s∈l->I s<=I (hy l)
 |x::l,s,h=>by
  simp[hy];rcases hv.1 h with rfl|h
  .omega
  .have:=Xb h;omega
theorem ax3{l:U ak}{s:ak}(h:s∈l):I s<=I (lJ l):=by have:=Xb h;simp[lJ];omega
def Gg:aX->H8->ae (b5×Int):=λe d=>match d with|(v5,v6,_,_,_,b,a)=>match e with|.ret=>J (b,v6)|.exit 0=>(py a).bind λ(f,c)=>cond (!decide (c=0)) (J ((b5.mk [] [] [] [] []),11)) (cond (!decide (f=v5)) (J ((b5.mk [] [] [] [] []),11)) (J (a,0)))|_=>aj
def aCr(l:U ak)(i:Nat)(cur:b5):Prop:=i=0/\cur=fi\/0<i/\(∃x,l[0]? = J x/\uS x cur)/\AN cur
theorem aqI:py fi=J ([],2):=by
 have a:o7 fi=true:=dM
 have b:iq fi=false:=gN
 simp[py,HE,vr,a,b,bj]
theorem abK(a:gP s):ur s=J (hz s):=by
 have f1:=a.ay;have c:=a.names;have d:=a.l;have f:=a.bT.1;have g:=qz s.l;simp[ur];rw[show tH s=ab by rw[tH,aH (show I s.ay<=1000000 by omega),aH (show I s.bT<=1000000 by omega),aH (show I s.names<=1000000 by omega),aH (show I s.l<=1000000 by omega)];exact dH.2 λe b=>aH (by have:=nH b;omega)]
 rfl
theorem PA(h:(hz s).2=0):hz s=(wK (hz s).1,0):=by
 have:∀p:b5×Int,p=hz s->p=(wK p.1,0):=by
  intro p a;have b:p.2=0:=by rw[a];exact h
  rw[hz]at a;cases c:aa (s.kind=1)&&ei s with
  |false=>grind
  |true=>
   rw[c]at a;cases d:iT ⟨s.name,s.ay,s.names,[],[]⟩ s.names with
   |false=>grind
   |true=>rw[d]at a;cases e:aa (jw s.ay s.l=0)with|false=>grind|true=>rw[e]at a;rw[a];rfl
 exact this _ rfl
theorem ayA(a:AN t)(b:gP s)(m:Tj t s):AN { t with idx:=jD t.idx ⟨s.name,s.names⟩ }:=by
 refine⟨EA a.bL m.no,by simp[I7];have:=m.len;omega,λx ag=>?_⟩;rcases NQ.1 ag with rfl|ag
 .have c:=b.name;rw[m.on]at c;exact⟨by simp[dG],b.names,by simp[dG],by simp[dG],c,(show cm lZ<=10000 by decide),by simp[dG,fc],⟨by simp[dG],λr h=>by cases h⟩,by simp[dG],λr h=>by cases h⟩
 .exact a.sk x ag
theorem R'{b:ak}{l:U ak}(j:∀x,x∈l->I x<=5000)(q:I l<5000):∀(k i:Nat) (cur:b5),i<=I l->I l-i<k->aCr l i cur->∃r,aI (λrec=>qP rec Gg) k (b,0,l,(I l:Int),(i:Int),fi,cur)=J r/\(r=(fi,11)\/∃x t,r=(t,0)/\l[0]? = J x/\uS x t/\AN t/\py t=J (b,0))
 |0,_,_,_,h,_=>by omega
 |k+1,i,cur,bO,bf,cw=>by
  rw[aI];by_cases h:i<I l
  .obtain⟨s,n,e,d⟩:=Mf l[i] (j _ (hf h));have ag:=d.1;have o:b1 (I l):=iC
   simp only[qP,ea h,cg h,cR (c:=.bytes) h,ag,bA,c9 h o];rcases cw with ⟨rfl,rfl⟩|⟨u,ar,jb⟩
   .rw[aH (show((0:Nat):Int)=0 from rfl),bd];by_cases a:e=0
    .subst a;obtain⟨_,f,_⟩:=d.2.2.1 rfl;simp only[ abK f,bA];by_cases hm:(hz s).2=0
     .rw[aH hm,ef,bj];refine R' j q k 1 (hz s).1 af af (.inr ⟨by omega,⟨l[0],ic h,s,n,d,?_⟩,?_⟩)
      .have:=PA hm;rw[this];rfl
      .rw[PA hm];exact⟨rfl,by simp[wK],λx ag=>by cases ag⟩
     .rw[aL hm];exact AC
    .simp only[aL a,bd];exact AC
   .rw[aL (show ¬(i:Int)=0 by omega),bj,bj];by_cases a:e=0
    .subst a;obtain⟨_,f,_⟩:=d.2.2.1 rfl;have v:rA cur s=J (q1 cur s):=by simp[rA];rw[aaP f (by have:=jb.len;omega) jb.bL];rfl
     simp only[ v,bA];by_cases hm:(q1 cur s).2=0
     .have m:=aBA hm;rw[aH hm,ef,bj,apd m];obtain⟨x,p,w,y,g,z⟩:=ar;exact R' j q k (i+1) _ af af (.inr ⟨by omega,⟨x,p,w,y,g,z⟩,ayA jb f m⟩)
     .rw[aL hm];exact AC
    .simp only[aL a,bd];exact AC
  .have:i=I l:=af
   subst this;simp only[qP,eu,Gg];rcases cw with ⟨u,rfl⟩|⟨u,⟨x,p,g⟩,jb⟩
   .rw[aqI];exact AC
   .have es:=JA (SG g jb);rw[es,bA];by_cases ao:(pA cur).2=0
    .rw[aH ao,ef,bj];by_cases al:(pA cur).1=b
     .rw[aH al];refine⟨_,rfl,.inr ⟨x,cur,rfl,p,g,jb,?_⟩⟩;rw[es,<-al,<-ao]
     .rw[aL al];exact AC
    .rw[aL ao];exact AC
theorem acv{b:ak}(h:pA t=(b,0)):iq t=ab/\lJ (jv t)=b:=by simp[pA]at h;cases ao:iq t with|false=>rw[ao]at h;simp at h|true=>rw[ao]at h;simp[ and_true]at h;exact⟨rfl,h⟩
theorem HD{b:ak}(al:I b<=5000)(h:lJ (jv t)=b)(c:I t.idx<=100):I (jv t)<5000/\(∀x,x∈jv t->I x<=5000)/\wv b=J (jv t,0):=by
 have d:I (jv t)=I t.idx+1:=AJ
 have a:∀x,x∈jv t->I x<=5000:=λx ag=>by have:=ax3 ag;rw[h]at this;omega
 refine⟨by omega,a,?_⟩;rw[<-h];exact as1 af (by rw[h];omega) λx ag=>by have:=a x ag;omega
theorem aom{b:ak}(al:I b<=5000):∃r,uJ b=J r/\(r=(fi,11)\/∃t,r=(t,0)/\rN b t):=by
 obtain⟨l,e,h,g,a⟩:=atF al;simp only[uJ,Hm,h,bA];by_cases c:e=0
 .subst c;rw[aH (show(0:Int)=0 from rfl),ef,bj];obtain⟨r,i,j⟩:=R' (b:=b) (λx ag=>fV (a x ag) al) g 5000 0 fi af af (.inl ⟨rfl,rfl⟩);refine⟨r,i,j.imp id ?_⟩;rintro⟨x,t,rfl,ag,ar,jb,d⟩;rw[JA (SG ar jb)]at d;obtain⟨k,f⟩:=acv (ks d);obtain⟨_,_,t3⟩:=HD al f jb.len;rw[h]at t3;have a:l=jv t:=congrArg Prod.fst (ks t3);rw[a]at ag;have:x=gU (fm t):=(ks ag).symm;subst this;exact⟨t,rfl,k,f,ar⟩
 .rw[aL c];exact AC
theorem acI{b:ak}{t:b5}(h:rN b t){l:U ak}(e:∀x,x∈l->I x<=5000)(j:I l<5000):∀(q:U c') (acc:U c') (k i:Nat),n6 t acc q=J t.idx->gM acc=ab->I acc<=100->(∀x,x∈q->x∈t.idx)->l.drop i=q.map (λx=>gU (dG t x))->0<i->i<=I l->I l-i<k->aI (λrec=>qP rec Gg) k (b,0,l,(I l:Int),(i:Int),fi,{ t with idx:=acc })=J (t,0)
 |_,_,0,_,_,_,_,_,_,_,_,bf=>by omega
 |[],acc,k+1,i,ag,_,_,_,ar,_,bO,_=>by
  have d:=congrArg List.length ar;simp[ff,List.map_nil,dB]at d;have:i=I l:=af
  subst this;have f:acc=t.idx:=ks ag;subst f;simp[aI,qP,eu,bj,Gg];have es:py t=J (b,0):=by rw[JA h.enc,pA,h.ok,bd,h.iA]
  rw[show py ⟨t.name,t.ay,t.key,t.ie,t.idx⟩=J (b,0) from es,bA];simp
 |x::q,acc,k+1,i,ag,cw,f,hm,ar,dm,bO,bf=>by
  have d:=congrArg List.length ar;simp[ff,hk,eo]at d;have a:i<I l:=af
  rw[da a,hk,mL]at ar;simp[n6]at ag;cases ao:mE t x&&(!kL acc x.name&&aa (I acc<100))with
  |false=>rw[ao]at ag;cases ag
  |true=>
   rw[ao,bd]at ag;simp[bN,Bool.not_eq_true',fQ,mE]at ao;obtain⟨⟨c1,c2⟩,fZ,gQ⟩:=ao;have g:=h.jb.sk x (hm x (by simp));have m:rr l[i]=J (dG t x,0,0):=by have n:=e _ (hf a);rw[ar.1]at n ⊢;exact age c1 rfl g af
   have o:rA { t with idx:=acc } (dG t x)=J ({ t with idx:=jD acc x },0):=by simp[rA];rw[aaP g (t:={ t with idx:=acc }) (by simp only;omega) cw,bd,ahk,c1,bd,fZ,bj,aL af,bj,c2,bd]
   have p:=acI h e j q (jD acc x) k (i+1) ag (EA cw fZ) (by rw[I7];omega) (λy aE=>hm y (by simp[aE])) ar.2 af af af;simp only[aI,qP,ea a,bd,cg a,ax,cR (c:=.bytes) a,m,bA,c9 a (show b1 (I l) by simp[b1];omega)];rw[aL (show ¬(i:Int)=0 by omega),bj,bj];simp[decide_true,bd,o,bA,ef,bj];exact p
theorem aqv{b:ak}(al:I b<=5000)(h:rN b t):uJ b=J (t,0):=by
 obtain⟨t1,t2,t3⟩:=HD al h.iA h.jb.len;simp only[uJ,Hm,t3,bA,decide_true,ef,bj];obtain⟨s,n,e,hm⟩:=h.ar;obtain⟨_,f,_⟩:=e.2.2.1 rfl;have a : 0<I (jv t):=AJ
 have d:=h.ok;simp only[iq,bN,fQ]at d;have ag:n6 t [] t.idx=J t.idx:=I8 (p:=[]) (by simpa using d.2.1) (by simpa using d.2.2.1) d.2.2.2;have g:=acI h t2 t1 t.idx [] 4999 1 ag rfl (by simp) (λx ag=>ag) rfl af AJ af;show aI (λrec=>qP rec Gg) 5000 (b,0,jv t,(I (jv t):Int),((0:Nat):Int),fi,fi)=_;rw[aI];have i:(jv t)[0]=gU (fm t):=rfl;have ag:=e.1;simp only[qP,ea a,bd,cg a,ax,cR (c:=.bytes) a,i,ag,bA];rw[aH (show((0:Nat):Int)=0 from rfl),bd];simp[decide_true,bd,abK f,hm,bA,ef,bj];exact g
theorem aiD{n:Nat}(h:n<4398046511104):DS (n:Int)=J (fu 5 n):=if_pos ⟨by omega,by omega⟩
theorem apj{s:ak}(h:I s<=274877906900):J3 s=J (fu 5 (I s)++s):=by have:=tm 5 (I s);simp[J3,OW];rw[l6 af,aiD af,bA,aH jf];rfl
theorem atS{l:U ak}{kx:aX->Hf->ae ak}(d:b1 (I l))(ag:∀acc,kx (.exit 0) (l,acc,(I l:Int))=J acc)(k:Nat)(g:I l<k)(acc:ak)(e:I acc+I (hy l)<=274877906900) :
  aI (λrec=>zi rec kx) k (l,acc,0)=J (acc++hy l):=by
 refine(lB (I l) (λi acc=>(l,acc,(i:Int))) (λi a=>I a+I (hy (l.drop i))<=274877906900) (λi a=>J (a++hy (l.drop i))) (λi b a al rec f=>?_) (λa _ rec=>?_) k 0 acc (cL _) af (by rw[iW];exact e)).trans iP
 .rw[da b]at al ⊢;simp[hy]at al ⊢;simp only[zi,ea b,cg b,ax,cR (c:=.bytes) b];rw[apj af,bA,aH jf,bd,c9 b d,f _ d'];simp
 .simp only[zi,ag];simp[hy]
theorem aqn{l:U ak}(a:I l<5000)(b:I (hy l)<=274877906000):DX l=J (lJ l):=by have:=tm 5 (I l);simp[DX,OD];rw[l6 af,aiD af,bA];exact atS iC (λ_=>rfl) 5000 af _ af
theorem aC2(a:nM t):KP t:=⟨a.sk,a.idx⟩
theorem au4(b:nM t)(h:iq t=ab){kx:aX->Ii->ae (ak×Int)}(ag:∀acc,kx (.exit 0) (acc,(I t.idx:Int),t)=c acc)(k:Nat)(e:I t.idx<k) :
  aI (λrec=>z6 rec kx) k ([gU (fm t)],0,t)=c (jv t):=by
 have f:=zu h;refine(lB (I t.idx) (λi (acc:U ak)=>(acc,(i:Int),t)) (λi acc=>I acc=i+1) (λi acc=>c (acc++(t.idx.drop i).map λx=>gU (dG t x))) (λi a acc g rec d=>?_) (λacc _ rec=>?_) k 0 [gU (fm t)] (cL _) af rfl).trans KT
 .have hm:=hf a;have p2:=(Sq b h hm).2;have p1:wB (aP.mk 3 t.idx[i].name t.name [] t.idx[i].ay [] [] [] ai (aq.mk 0 ⟨0,0,[]⟩ [] []) [] [] 0)=J (gU (dG t t.idx[i]),0):=by have:=X0 (s:=dG t t.idx[i]) (b.idx _ hm) (.inr rfl);rw[z' h hm]at this;exact this
  simp only[z6,ea a,cg a,ax,cR (c:=.idx) a,p1,bA];exact ai5
 .simp only[z6,eu,bj,ag]
  grind
theorem Jv(a:nM t):sO t=J (pA t):=by
 simp only[sO,Pf,awl (aC2 a),bA,pA];cases h:iq t with
 |false=>rfl
 |true=>
  obtain⟨_,p2⟩:=MH a h;obtain⟨d,b⟩:=aaB a h;have p1:wB (iN t)=J (gU (fm t),0):=by have:=X0 (s:=fm t) a.sk (.inl rfl);rw[Dd h]at this;exact this
  rw[bd,aH (show(0:Int)=0 from rfl),ef,bj,p1,bA,aH jf,ax,bd,bd];exact au4 a h (c:=λl=>(DX l).bind λx=>J (x,0)) (λ_=>rfl) 5000 (by have:=zu h;omega)|>.trans (by rw[aqn af b];rfl)
end Go.Proofs.YtdelkmpkjibigaaGreatDoor
