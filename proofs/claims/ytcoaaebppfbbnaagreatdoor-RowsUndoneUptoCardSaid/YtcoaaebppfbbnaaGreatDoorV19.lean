/- Texts of the proof,one behind the other: AxFr,Mu,Zg,Rq,Rr,Opa,Op,Zp,Rwd,Ros,Nhs,Dhh,Zd,RoB,LRo,Zs,Zt,Zu,Zo. -/
import Derived.Test.YtcoaaebppfbbnaaGreatDoorV18
import Derived.ChangeArms
import Derived.WideShapes
import Derived.Carry
import Derived.ChangeShapes
import Derived.Lib.LaidTab
import Derived.SizedLaws
set_option linter.all false
open List renaming length->I,range->dy,mem_append->fM,getElem_mem->fo,mem_cons->ek
open Option renaming some->J,none->ah
open Bool renaming true->ae,false->ai
open Decidable renaming decide->aa
open UInt8 renaming ofNat->bj
open Nat renaming beq->bV,ble->dz,le_trans->e2,zero_le->cp
open Go renaming Value->aA,IntKind->b',World->aK,TypeId->bD,maxLen->c5,Program->cx
namespace Go
theorem aet{p:Prop}(h:p:=by have:c5=9223372036854775807:=rfl;simp only[List.length_map];omega):p:=h
theorem PL{p:Prop}(h:p:=by simp only[bJ,dc];omega):p:=h
theorem Gt{p:Prop}(h:p:=by simp[aU];omega):p:=h
end Go
namespace Go
theorem Kp{p:Prop}(h:p:=by obtain⟨k,c',on,al,names,l,rows,b8,has,ej,order,desc,ca⟩:=s;simp only at a b;subst a b;rw[<-Bool.decide_and];exact hH.2 ⟨λh=>by simp_all [iz,jO],λh=>by simp_all [iz,jO]⟩):p:=h
theorem Ks{p:Prop}(h:p:=by obtain⟨k,c',on,al,names,l,rows,b8,has,ej,order,desc,ca⟩:=s;simp only at a b;subst a b;exact hH.2 ⟨λh=>by simp_all [iz,jO],λh=>by simp_all [iz,jO]⟩):p:=h
theorem Ku{p:Prop}(h:p:=by obtain⟨k,c',on,al,names,l,rows,b8,has,ej,order,desc,ca⟩:=s;simp only at a;subst a;exact hH.2 ⟨λh=>by simp_all [iz,jO],λh=>by simp_all [iz,jO]⟩):p:=h
end Go
namespace Go.dS
open Go.RowKit Go.ChangeShapes
def lQ:D->D->Bool|.int k _,.int eh _=>aa (k=eh)|.bool _,.bool _=>ae|.str _,.str _=>ae|.sl c _ _,.sl cj _ _=>aa (c=cj)|_,_=>ai
def iF:U D->U D->Bool|[],[]=>ae|a::l,b::m=>lQ a b&&iF l m|_,_=>ai
variable{a:D}
theorem avb{b c:D}(h:lQ a b=ae)(k:lQ a c=ae):lQ b c=true:=by cases a<;>cases b<;>simp[lQ]at h<;>cases c<;>simp[lQ]at k<;>subst_vars<;>simp[lQ]
theorem abv:∀{a b c:U D},iF a b=ae->iF a c=ae->iF b c=ae
 |[],[],[],_,_=>rfl
 |x::a,y::b,z::c,h,k=>by simp only[iF,bx]at h k ⊢;exact⟨avb h.1 k.1,abv h.2 k.2⟩
 |[],_::_,_,h,_=>by simp[iF]at h
 |_::_,[],_,h,_=>by simp[iF]at h
 |[],[],_::_,_,k=>by simp[iF]at k
 |_::_,_::_,[],_,k=>by simp[iF]at k
theorem Uv:∀{a b c d:U D},iF a b=ae->iF c d=ae->iF (a++c) (b++d)=ae
 |[],[],_,_,_,k=>k
 |_::a,_::b,_,_,h,k=>by simp only[iF,bx,gY]at h ⊢;exact⟨h.1,Uv h.2 k⟩
 |[],_::_,_,_,h,_=>by simp[iF]at h
 |_::_,[],_,_,h,_=>by simp[iF]at h
theorem acF{k:b'}{n:Int}{d:D}(h:lQ (.int k n) d=ae):∃m,d = .int k m:=by
 cases d<;>simp[lQ]at h
 subst h;exact⟨_,rfl⟩
theorem as6{b:Bool}{d:D}(h:lQ (.bool b) d=ae):∃m,d = .bool m:=by
 cases d<;>simp[lQ]at h
 exact⟨_,rfl⟩
theorem abl{s:ar}{d:D}(h:lQ (.str s) d=ae):∃m,d = .str m:=by
 cases d<;>simp[lQ]at h
 exact⟨_,rfl⟩
variable{c:b1}
theorem ZH{xs:U (cL c)}{t:hY}{d:D}(h:lQ (.sl c xs t) d=ae):∃ys u,d = .sl c ys u:=by
 cases d<;>simp[lQ]at h
 subst h;exact⟨_,_,rfl⟩
variable{av:U D}
theorem Iq{l:U D}(h:iF (a::l) av=ae):∃b m,av=b::m/\lQ a b=ae/\iF l m=true:=by cases av with|nil=>simp[iF]at h|cons b m=>simp only[iF,bx]at h;exact⟨b,m,rfl,h.1,h.2⟩
theorem Em(h:iF [] av=ae):av=[]:=by cases av with|nil=>rfl|cons b m=>simp[iF]at h
theorem Zm{z:U D}(h:(dec c z).isSome=ae)(d:iF z av=ae):∃y,dec c av=J y:=by
 obtain⟨f,h⟩:=Option.isSome_iff_exists.1 h;unfold dec at h;split at h;all_goals first
  |(cases h;done)
  |skip
 all_goals
  clear h
  repeat (
   obtain⟨b,m,e,h1,a⟩:=Iq d;clear d;have d:=a;clear a;subst e
   first
    |(obtain⟨_,e⟩:=acF h1;subst e)
    |(obtain⟨_,e⟩:=as6 h1;subst e)
    |(obtain⟨_,e⟩:=abl h1;subst e)
    |(obtain⟨_,_,e⟩:=ZH h1;subst e))
  have e:=Em d;subst e;exact⟨_,rfl⟩
def AH(R:Nat×Nat)(v:aH):Prop:=I v.s<=R.1
inductive pk (R:Nat×Nat):bh->Prop
 |mk (k:Int) (v:aH) (c':ar) (l:List bh):AH R v->I c'<=R.1->I l<=R.2->(∀e,e∈l->pk R e)->pk R (.mk k v c' l)
structure awT (R:Nat×Nat) (s:b4):Prop where
 name:I s.name<=R.1
 on:I s.on<=R.1
 al:I s.al<=R.2/\∀c,c∈s.al->I c.name<=R.1/\I c.ref<=R.1
 names:I s.names<=R.2/\∀x,x∈s.names->I x<=R.1
 l:I s.l<=R.2/\∀x,x∈s.l->pk R x
 rows:I s.rows<=R.2/\∀r,r∈s.rows->I r<=R.2/\∀x,x∈r->pk R x
 b8:I s.b8<=R.2/\∀x,x∈s.b8->I x.name<=R.1/\pk R x.e
 ej:pk R s.ej
 order:I s.order<=R.2/\∀x,x∈s.order->I x<=R.1
 desc:I s.desc<=R.2
def Z7(R:Nat×Nat)(x:c3):Prop:=I x.name<=R.1/\I x.al<=R.2/\∀s,s∈x.al->I s<=R.1
structure Ht (R:Nat×Nat) (t:bU):Prop where
 name:I t.name<=R.1
 al:I t.al<=R.2/\∀c,c∈t.al->I c.name<=R.1/\I c.ref<=R.1
 key:I t.key<=R.2/\∀x,x∈t.key->I x<=R.1
 e9:I t.e9<=R.2/\∀x,x∈t.e9->pk R x
 idx:I t.idx<=R.2/\∀x,x∈t.idx->Z7 R x
def _a(R:Nat×Nat)(r:Hk):Prop:=I r.rows<=R.2/\∀l,l∈r.rows->I l<=R.2/\∀x,x∈l->AH R x
def ya(R:Nat×Nat):(c:b1)->cL c->Prop|.str,s=>I s<=R.1|.val,v=>AH R v|.tok,t=>I t.s<=R.1|.cO,c=>I c.name<=R.1/\I c.ref<=R.1|.expr,e=>pk R e|.ep,l=>I l<=R.2/\∀x,x∈l->AH R x|.exprs,l=>I l<=R.2/\∀x,x∈l->pk R x|.strs,l=>I l<=R.2/\∀x,x∈l->I x<=R.1|.set,s=>I s.name<=R.1/\pk R s.e|.stmt,s=>awT R s|.idx,x=>Z7 R x|.tbl,t=>Ht R t|.res,r=>_a R r|.qX,o=>I o.l<=R.2/\∀r,r∈o.l->_a R r|_,_=>True
def BL(R:Nat×Nat):D->Prop|.str l=>I l<=R.1|.sl c xs _=>I xs<=R.2/\∀x,x∈xs->ya R c x|_=>True
def Qa(R:Nat×Nat):(s:ck)->den s->Prop|.str,s=>I s<=R.1|.sl c _,xs=>I xs<=R.2/\∀x,x∈xs->ya R c x|.aI c,x=>ya R c x|_,_=>True
def P'(R:Nat×Nat):(l:U ck)->au l->Prop|[],_=>True|[a],x=>Qa R a x|a::b::l,(x,y)=>Qa R a x/\P' R (b::l) y
variable{R:Nat×Nat}{y:cL c}
theorem adD(h:dec c av=J y)(ao:∀d,d∈av->BL R d):ya R c y:=by
 unfold dec at h;split at h<;>simp only[c4,reduceCtorEq]at h<;>subst h<;>simp only[ek,List.not_mem_nil,or_false,forall_eq_or_imp,forall_eq,BL]at ao<;>simp only[ya,AH]<;>first
  |trivial
  |exact ao
  |exact ao.1
  |exact ao.2.2
  |exact ao.2.2.1
  |exact⟨ao.1,ao.2.2.2.2⟩
  |exact .mk _ _ _ _ ao.2.2.2.1 ao.2.2.2.2.1 ao.2.2.2.2.2.1 ao.2.2.2.2.2.2
  |exact⟨ao.1,.mk _ _ _ _ ao.2.2.2.2.1 ao.2.2.2.2.2.1 ao.2.2.2.2.2.2.1 ao.2.2.2.2.2.2.2⟩
  |exact⟨ao.1,ao.2.1,ao.2.2.1,ao.2.2.2.1,ao.2.2.2.2⟩
  |(obtain⟨_,h1,h2,h3,h4,h5,h6,h7,_,_,_,_,w1,w2,w3,a,b,_⟩:=ao
    exact⟨h1,h2,h3,h4,h5,h6,h7,.mk _ _ _ _ w1 w2 w3.1 w3.2,a,b.1⟩)
structure Be {H:Type}(P:cx) (R:Nat×Nat) (M:bD->DataW H->Prop):Prop where
 str:∀(t:bD) (s:List UInt8),M t (.lit (.string s))->I s<=R.1
 sl:∀(t e:bD) (l r:List (DataW H)),P.underlying t=J (.slice e)->1<=P.bytesOf e->M t (.slice l r)->I l<=9223372036854775807->I l<=R.2/\∀d,d∈l->M e d
 agg:∀(t:bD) (fds:Array Field) (l:List (DataW H)) (i:Nat) (fd:Field) (d:DataW H),P.underlying t=J (.struct fds)->M t (.agg l)->fds[i]? = J fd->l[i]? = J d->M fd.type d
mutual
def CN:bh->Nat|.mk _ _ _ l=>1+q4 l
def q4:U bh->Nat|[]=>0|x::l=>1+CN x+q4 l
end
def q1:D->Nat|.sl .expr xs _=>2*q4 xs|_=>0
def nY(av:U D):Nat:=(av.map q1).sum+I av
def zg:(c:b1)->cL c->Nat|.expr,e=>2*(1+CN e)|.tbl,t=>2*q4 t.e9|_,_=>0
theorem adJ(h:dec c av=J y):zg c y<=nY av:=by unfold dec at h;split at h<;>simp only[c4,reduceCtorEq]at h<;>subst h<;>simp only[zg,cp]<;>simp[nY,q1,CN]<;>omega
structure r' {H:Type}(m:DataW H->Nat):Prop where
 one:∀d,1<=m d
 sl:∀l r,(l.map m).sum+1<=m (.slice l r)
 agg:∀l,(l.map m).sum<=m (.agg l)
theorem Sb{H:Type}{m:DataW H->Nat}{c:b1}:∀(ys:U (cL c)) (es:U (DataW H)),I ys=I es->(∀(i:Nat) y e,ys[i]? = J y->es[i]? = J e->zg c y<=m e)->q1 (.sl c ys .no)<=(es.map m).sum
 |[],_,_,_=>by cases c<;>simp[q1,q4]
 |y::ys,[],h,_=>by simp at h
 |y::ys,e::es,h,k=>by have h1:=k 0 y e rfl rfl;have h2:=Sb ys es n1 λi y e a b=>k (i+1) y e n2 qi;cases c<;>simp only[q1,zg,q4,e0,List.sum_cons]at h1 h2 ⊢ <;> omega
def lS(t:ds):U D:=match t.zero with|some z=>cells z|none=>[]
def Al(aO:Nat->ds)(rd:U Nat):Nat->U (Nat×Nat)->U D->Bool|_,[],z=>z.isEmpty|o,(o',u)::az,z=>bV o' o&&rd.contains u&&dz (I (lS (aO u))) (I z)&&iF (lS (aO u)) (z.take (I (lS (aO u))))&&Al aO rd (o+I (lS (aO u))) az (z.drop (I (lS (aO u))))
def Pg(el:b1->bD)(aO:Nat->ds)(rd:U Nat)(t:Nat):Bool:=match aO t with|.int _|.bool|.str=>ae|.sl c=>rd.contains (el c)&&(dec c (lS (aO (el c)))).isSome|.st _ az z=>Al aO rd 0 az z|_=>ai
def I0(el:b1->bD)(aO:Nat->ds)(rd:U Nat):Bool:=rd.all λt=>Pg el aO rd t&&bV (I (lS (aO t))) (aO t).n
def I2(P:cx)(el:b1->bD)(aO:Nat->ds)(rd:U Nat):Bool:=rd.all λt=>match aO t with|.sl c=>dz 1 (P.bytesOf (el c))|_=>ae
theorem Uj{α:Type}{p:Nat->α->Prop}:∀(n:Nat),(∀i,i<n->∃y,p i y)->∃ys:U α,I ys=n/\∀i y,ys[i]? = J y->p i y
 |0,_=>⟨[],rfl,by simp⟩
 |n+1,h=>by
  obtain⟨ys,h1,h2⟩:=Uj n (λi hi=>h i ag);obtain⟨y,b⟩:=h n ag;refine⟨ys++[y],by simp[h1],λi z a=>?_⟩;rcases Nat.lt_trichotomy i n with hi|rfl|hi
  .rw[List.getElem?_append_left ag]at a;exact h2 i z a
  .rw[List.getElem?_append_right ag,h1]at a;simp at a;subst a;exact b
  .rw[List.getElem?_eq_none dh]at a;cases a
section
variable {H:Type}{pD:bD×aA->H}{P:cx}{el:b1->bD}{aO:Nat->ds}{rd:U Nat}{w:aK}{sp:Nat->Bool}{held:Bool}
variable{t:bD}
theorem KY{n:Nat}(h:aw.ft P t=J n):P.cellsOf t=n:=by unfold aw.ft at h;simp[cx.cellsOf,h]
theorem VL{a:Addr}{n:Nat}{vs:U aA}(h:w.cells? 0 a n=J vs):I vs=n/\∀j u,vs[j]? = J u->w.cell? (a.add j)=J u:=by
 unfold aK.cells? at h;simp only[cp,if_true]at h;refine⟨by simpa using Lib.mapM_length h,λj u d=>?_⟩;have b:j<n:=by have:=Lib.mapM_length h;have h2:=(hG.1 d).1;simp at this;omega
 obtain⟨f,c,e⟩:=Lib.mapM_at h j j (by simp[b]);rw[d]at c;simp only[c4]at c;subst c;exact e
theorem anh{a:Addr}{u:aA}(h:w.cell? a=J u):a.spot=none:=by
 unfold aK.cell? at h;split at h
 .split at h
  .cases h
  .rename_i b;cases c:a.spot with|none=>rfl|some q=>rw[c]at b;simp at b
 .cases h
theorem Jy{R:Nat×Nat}{M:bD->DataW H->Prop}(e4:Be P R M)(eg:∀t,eL P el aO t=ae)(ac:I0 el aO rd=ae)(ch:I2 P el aO rd=ae):∀(fuel:Nat) (t:bD) (cs:U aA) (x:DataW H×U MemPlace),rd.contains t=ae->DataW.trod pD P w 0 sp held fuel t cs=J x->∃av,iF (lS (aO t)) av=ae/\aX (v0 el er w) av cs/\(M t x.1->∀d,d∈av->BL R d)/\∀m,r' m->nY av<=m x.1
 |0,t,cs,x,_,h=>by simp[DataW.trod]at h
 |fuel+1,t,cs,x,an,h=>by
  have g:=cX.1 ac t xe;simp only[bx]at g;obtain⟨g,ap⟩:=g;have ap:=cU ap;have b9:=cX.1 ch t xe;unfold Pg at g;split at g
  .rename_i k f;have hu:=aw.CI (Nj (eg t) f);obtain⟨n,rfl,_,hw⟩:=DataW.trod_int hu h;refine⟨[.int k n],by(rw[f];show(aa (k=k)&&ae)=ae;simp),?_,λ_ d ao=>by simp only[List.mem_singleton]at ao;subst ao;trivial,λm hm=>by simpa[nY,q1]using hm.one _⟩;simp only[aX,aB];exact⟨_,_,rfl,⟨rfl,hw⟩,rfl⟩
  .rename_i f;have hu:=aw.CH (LR (eg t) f);obtain⟨b,rfl,_⟩:=DataW.trod_bool hu h;refine⟨[.bool b],by rw[f];rfl,?_,λ_ d ao=>by simp only[List.mem_singleton]at ao;subst ao;trivial,λm hm=>by simpa[nY,q1]using hm.one _⟩;simp only[aX,aB];exact⟨_,_,rfl,rfl,rfl⟩
  .rename_i f;have hu:=aw.pO (qu (eg t) f);obtain⟨s,rfl,rfl,cG⟩:=DataW.trod_string hu h;refine⟨[.str s.data.toList],by rw[f];rfl,?_,λr d ao=>by simp only[List.mem_singleton]at ao;subst ao;exact e4.str _ _ r,λm hm=>by simpa[nY,q1]using hm.one _⟩
   simp only[aX,aB];exact⟨_,_,rfl,⟨(by rw[Array.toArray_toList]),(by rw[Array.length_toList];exact cG)⟩,rfl⟩
  .rename_i c f;simp only[bx]at g;obtain⟨ff,dH⟩:=g;have dE : 1<=P.bytesOf (el c):=by rw[f]at b9;exact Nat.le_of_ble_eq_true b9
   obtain⟨by_,jL,_,_⟩:=jC (eg t) f;have hu:=jL.vl;obtain⟨_,i0,z,fF,dB,aZ,_⟩:=jL;have fG:P.cellsOf (el c)=aL c:=KY (by simp[aw.ft,fF,aZ]);rcases DataW.trod_slice hu h with ⟨rfl,_⟩|⟨a,len,cap,p,rest,n,bO,rfl,rfl,_,hle,dL,lJ,d_,_⟩
   .refine⟨[.sl c [] .no],by(rw[f];show(aa (c=c)&&ae)=ae;simp),?_,λ_ d ao=>by
     simp only[List.mem_singleton]at ao;subst ao;exact⟨cp _,λx aW=>by cases aW⟩,λm hm=>by
     have h0:q1 (.sl c [] .no)=0:=Gy
     simpa[nY,h0]using hm.one _⟩
    simp only[aX,aB];exact⟨_,_,rfl,⟨λ_ _=>.nil _ _ _ _ trivial,trivial⟩,rfl⟩
   .have bO:fuel=n:=ag
    subst bO;have each:∀i,i<len->∃y:cL c,(∃vs:U aA,w.cells? 0 (a.add (i*aL c)) (aL c)=J vs/\mf (v0 el er w) c y vs)/\(M t (DataW.slice (p.map (·.1)) (rest.map (·.1)))->ya R c y)/\∀m e,r' m->p[i]? = J e->zg c y<=m e.1:=λi hi=>by have h1:=d_ i hi;have cy:∃e,p[i]? = J e:=⟨_,ho ag⟩;obtain⟨e,he⟩:=cy;rw[he]at h1;obtain⟨vs,aE,cg⟩:=Option.bind_eq_some_iff.1 h1;rw[fG]at aE;obtain⟨av,cG,ay,fr,aZ⟩:=Jy e4 eg ac ch fuel (el c) vs e ff cg;obtain⟨y,bN⟩:=Zm dH cG;exact⟨y,⟨vs,aE,xU bN ay⟩,λr=>adD bN (fr ((e4.sl _ _ _ _ hu dE r aet).2 e.1 (List.mem_map.2 ⟨e,List.mem_of_getElem? he,rfl⟩))),λm afi hm bL=>by rw[he]at bL;cases bL;exact e2 (adJ bN) (aZ m hm)⟩
    obtain⟨ys,gk,bk⟩:=Uj len each;have d':=λi y bN=>(bk i y bN).1;refine⟨[.sl c ys .no],by(rw[f];show(aa (c=c)&&ae)=ae;simp),?_,λr d ao=>by
     simp only[List.mem_singleton]at ao;subst ao;refine⟨?_,λy bN=>?_⟩
     .have:=(e4.sl _ _ _ _ hu dE r aet).1;simp only[List.length_map]at this;omega
     .obtain⟨i,hi,rfl⟩:=List.getElem_of_mem bN;exact(bk i _ (ho hi)).2.1 r,λm hm=>by
     have h1:=Sb (m:=m) ys (p.map (·.1)) dh λi y e bN he=>by rw[List.getElem?_map]at he;obtain⟨afi,bL,rfl⟩:=Option.map_eq_some_iff.1 he;exact(bk i y bN).2.2 m afi hm bL
     have h2:=hm.sl (p.map (·.1)) (rest.map (·.1));simp only[nY,e0,List.map_nil,List.sum_cons,List.sum_nil,dm,hn];omega⟩
    simp only[aX,aB];refine⟨_,_,rfl,⟨ue gk.symm ?_,trivial⟩,rfl⟩;by_cases h0:ys=[]
    .exact .inl h0
    .right;have ef:a.spot=none:=by have gz : 0<I ys:=List.length_pos_iff.2 h0;obtain⟨vs,aE,jL⟩:=d' 0 _ (ho gz);obtain⟨h1,h2⟩:=VL aE;have bn:=EH c;have:=h2 0 _ (ho ag);simp only[Nat.zero_mul,Addr.add,if_true]at this;exact anh this
     obtain⟨b,o,s⟩:=a;simp only at ef;subst ef;refine⟨b,o,rfl,⟨by omega,dL⟩,λi y bN w' hw j d ao=>?_⟩;obtain⟨vs,aE,jL⟩:=d' i y bN;obtain⟨_,h2⟩:=VL aE;obtain⟨u,gN,bO⟩:=jL.2 j d ao;have bz:=h2 j u gN;rw[aw.hI,aw.hI]at bz;exact⟨u,hw.cell b _ u bz (λh=>h),bO w' hw⟩
  .rename_i y0 az z f;have cE:=nr (eg t) (by rw[f];simp);have aZ:P.cellsOf t=I z:=by have:=KY cE.2.2;rw[this,f];rfl
   have bW:=eg t;unfold eL at bW;rw[f]at bW;simp only[bx]at bW;have aJ:=bW.2;split at aJ
   .rename_i fds hu;simp only[bx]at aJ;have aJ:=aJ.1;obtain⟨xs,n,bO,rfl,hJ,mY,iQ⟩:=DataW.trod_struct hu h;have bO:fuel=n:=ag
    subst bO;have key:∀(l:U (Nat×Nat)) (i o:Nat) (zk:U D),az.drop i=l->Al aO rd o l zk = ae->o+I zk=I cs->∃av,iF zk av=ae/\aX (v0 el er w) av (cs.drop o)/\(M t (DataW.agg (xs.map (·.1)))->∀d,d∈av->BL R d)/\∀m,r' m->nY av<=(((xs.map (·.1)).drop i).map m).sum:=by
     intro l;induction l with
     |nil=>intro i o zk _ v bK;simp only[Al,List.isEmpty_iff]at v;subst v;refine⟨[],rfl,?_,λ_=>(λd ao=>by cases ao),λ_ _=>cp _⟩;rw[g0 (by simp at bK;omega)];simp[aX]
     |cons q l iw=>
      intro i o zk ao v bK;obtain⟨o',u⟩:=q;simp only[Al,bx]at v;obtain⟨⟨⟨⟨am,ea⟩,hle⟩,ey⟩,v⟩:=v;have am:=cU am;subst am;have hle:=Nat.le_of_ble_eq_true hle;have c0:az[i]? = J (o',u):=by have:=congrArg (·[0]?) ao;simpa[List.getElem?_drop]using this
      obtain⟨fd,gJ,fm,ko,_⟩:=Me aJ c0;have cZ:fds[i]? = J fd:=by simpa using gJ
      have h1:=iQ i fd cZ;rw[fm,ko]at h1;have be:∃e,xs[i]? = J e:=⟨_,ho (by have:=(gG.1 cZ).1;omega)⟩
      obtain⟨e,he⟩:=be;rw[he]at h1;have dp:=cX.1 ac u (by simpa using ea);simp only[bx]at dp;have iR:=cU dp.2;have du:aO u ≠ .no:=by intro e;have:=dp.1;unfold Pg at this;rw[e]at this;cases this
      have dF:P.cellsOf u=I (lS (aO u)):=by rw[KY (nr (eg u) du).2.2,iR]
      rw[dF]at h1;obtain⟨jt,s1,j6,gn,Ja⟩:=Jy e4 eg ac ch fuel u _ e ea h1;obtain⟨kk,s2,gC,fV,CO⟩:=iw (i+1) (o'+I (lS (aO u))) _ (by rw[<-List.drop_drop,ao];rfl) v dh;refine⟨jt++kk,?_,?_,λr d ao=>by
       rcases fM.1 ao with ao|ao
       .refine gn ?_ d ao;rw[<-fm];exact e4.agg _ _ _ i fd e.1 hu r cZ (by rw[List.getElem?_map,he];rfl)
       .exact fV r d ao,λm hm=>by
       have h1:=Ja m hm;have h2:=CO m hm;have h3:(xs.map (·.1))[i]? = J e.1:=by rw[List.getElem?_map,he];rfl
       obtain⟨bi,h4⟩:=hG.1 h3;rw[List.drop_eq_getElem_cons bi,h4,e0,List.sum_cons];simp only[nY,List.map_append,List.sum_append,dc]at h1 h2 ⊢;omega⟩
      .rw[<-List.take_append_drop (I (lS (aO u))) zk];exact Uv (abv ey s1) s2
      .have:=j6.append gC;rwa[<-List.drop_drop,List.take_append_drop]at this
    obtain⟨av,h1,h2,h3,h4⟩:=key az 0 0 z rfl g (by rw[hJ,aZ];omega);exact⟨av,by simpa[f,lS,ds.zero,cells]using h1,by simpa using h2,h3,λm hm=>e2 (h4 m hm) (by simpa using hm.agg (xs.map (·.1)))⟩
   .cases aJ
  .cases g
def Pp(aO:Nat->ds)(rd:U Nat)(t:Nat)(s:ck):Bool:=rd.contains t&&match aO t,s with|.int k,.int eh=>aa (k=eh)|.bool,.bool=>ae|.str,.str=>ae|.sl c,.sl cj ai=>aa (c=cj)|.st (J c) _ _,.aI cj=>aa (c=cj)&&eV c&&(dec c (lS (aO t))).isSome|_,_=>ai
def Rb:(s:ck)->den s->Nat|.aI c,x=>zg c x|_,_=>0
def I3:(l:U ck)->au l->Nat|[],_=>0|[a],x=>Rb a x|a::b::l,(x,y)=>Rb a x+I3 (b::l) y
theorem alA{M:bD->DataW H->Prop}(e4:Be P R M)(x:∀t,eL P el aO t=ae)(bk:I0 el aO rd=ae)(bz:I2 P el aO rd=ae){s:ck}(j:Pp aO rd t s=ae){r:Reach}{c0:Nat}{v:aA}{d:DataW H}{bE:U MemPlace}(f:aA.okWide P w r c0 t v)(h:DataW.Trod pD P w 0 sp held t v d bE)(i:Nat):∃y:den s,aB (v0 el er w) (eT i s y) v/\(M t d->Qa R s y)/\∀m,r' m->Rb s y<=m d:=by
 obtain⟨fuel,h⟩:=h;simp only[Pp,bx]at j;obtain⟨an,j⟩:=j;obtain⟨av,ey,g,l,q⟩:=Jy e4 x bk bz fuel t _ _ an h;have q:∀m,r' m->nY av<=m d:=q;have l:M t d->∀d,d∈av->BL R d:=l;split at j
 .rename_i k eh a;simp only[dM]at j;subst j;obtain⟨n,rfl⟩:=WideShapes.okWide_int (aw.CI (Nj (x t) a)) f;simp only[a,lS,ds.zero,cells]at ey;obtain⟨b,m,rfl,h1,h2⟩:=Iq ey;obtain rfl:=Em h2;obtain⟨hr,rfl⟩:=acF h1;simp only[aA.cells,aX]at g;obtain⟨u,us,e,g,_⟩:=g;simp only[gZ]at e;obtain⟨rfl,_⟩:=e;exact⟨hr,g,λ_=>trivial,λ_ _=>cp _⟩
 .rename_i a;obtain⟨n,rfl⟩:=WideShapes.okWide_bool (aw.CH (LR (x t) a)) f;exact⟨n,by simp only[eT,aB],λ_=>trivial,λ_ _=>cp _⟩
 .rename_i a;obtain⟨n,rfl⟩:=WideShapes.okWide_string (aw.pO (qu (x t) a)) f;simp only[a,lS,ds.zero,cells]at ey;obtain⟨b,m,rfl,h1,h2⟩:=Iq ey;obtain rfl:=Em h2;obtain⟨hr,rfl⟩:=abl h1;simp only[aA.cells,aX]at g;obtain⟨u,us,e,g,_⟩:=g;simp only[gZ]at e;obtain⟨rfl,_⟩:=e;exact⟨hr,g,λo=>l o (.str hr) (by simp),λ_ _=>cp _⟩
 .rename_i c cj a;simp only[dM]at j;subst j;obtain⟨by_,jL,_,_⟩:=jC (x t) a;have aE:v.cells.toList=[v]:=by have hu:=jL.vl;simp only[aA.okWide,hu,Cell.okWide]at f;cases v<;>first|rfl|(simp[Cell.ok,hu]at f;done)|(exfalso;simp_all [Cell.ok])
  rw[aE]at g;simp only[a,lS,ds.zero,cells]at ey;obtain⟨b,m,rfl,h1,h2⟩:=Iq ey;obtain rfl:=Em h2;obtain⟨ys,u,rfl⟩:=ZH h1;simp only[aX]at g;obtain⟨iK,us,e,g,_⟩:=g;simp only[gZ]at e;obtain⟨rfl,_⟩:=e;refine⟨ys,?_,λo=>l o (.sl c ys u) (by simp),λ_ _=>cp _⟩;simp only[eT,aB]at g ⊢;exact⟨g.1,trivial⟩
 .rename_i c az z cj a;simp only[bx,dM]at j;obtain⟨⟨rfl,cI⟩,aJ⟩:=j;obtain⟨y,bN⟩:=Zm aJ ey;have jL:=xU bN g;have aE:∃cs,v = .agg cs:=by
   have p:=x t;unfold eL at p;rw[a]at p;simp only[bx]at p;have aZ:=p.2;split at aZ
   .rename_i fds hu;simp only[aA.okWide,hu]at f;obtain⟨cs,h1,_⟩:=f;exact⟨cs,h1⟩
   .cases aZ
  obtain⟨cs,rfl⟩:=aE;refine⟨y,?_,λo=>adD bN (l o),λm hm=>e2 (adJ bN) (q m hm)⟩;simp only[eT,aB];exact⟨cI,cs.toList,by simp,by simpa[aA.cells]using jL.1,by simpa[aA.cells]using jL.2⟩
 .cases j
def wv(aO:Nat->ds)(rd:U Nat):U bD->U ck->Bool|[],[]=>ae|t::hd,s::Q'=>Pp aO rd t s&&wv aO rd hd Q'|_,_=>ai
theorem Tc{R:Nat×Nat}{M:bD->DataW H->Prop}(e4:Be P R M)(eg:∀t,eL P el aO t=ae)(e:I0 el aO rd=ae)(f:I2 P el aO rd=ae){r:Reach}{c0:Nat}:∀{c:U bD}{sa:U ck}{vs:U aA}{av:U (DataW H)}{bE:U MemPlace}(i:Nat),wv aO rd c sa=ae->(∀(j:Nat) t v,c[j]? = J t->vs[j]? = J v->aA.okWide P w r c0 t v)->DataW.TrodAll pD P w 0 sp held c vs av bE->∃x:au sa,aX (v0 el er w) (en i sa x) vs/\((∀(i:Nat) (t:bD) (d:DataW H),c[i]? = J t->av[i]? = J d->M t d)->P' R sa x)/\∀m,r' m->I3 sa x<=(av.map m).sum
 |[],[],vs,av,bE,i,_,_,h=>by cases vs with|nil=>exact⟨(),by simp[en,aX],λ_=>trivial,λ_ _=>cp _⟩|cons v vs=>cases av<;>simp[DataW.TrodAll]at h
 |t::c,[],_,_,_,_,cG,_,_=>by simp[wv]at cG
 |[],s::n,_,_,_,_,cG,_,_=>by simp[wv]at cG
 |t::c,s::n,vs,av,bE,i,cG,afx,h=>by
  simp only[wv,bx]at cG;obtain⟨v,g,d,aZ,p,q,rfl,rfl,rfl,ao,b⟩:=trodAll_cons h;obtain⟨y,bN,k,l⟩:=alA e4 eg e f cG.1 (afx 0 t v rfl rfl) ao i;obtain⟨z,o,u,aJ⟩:=Tc e4 eg e f (i+1) cG.2 (λj t' sG h1 h2=>afx (j+1) t' sG nk Gw) b;cases n with
  |nil=>refine⟨y,?_,λa=>k (a 0 t d rfl rfl),λm hm=>e2 (l m hm) (by simp)⟩;simp only[en,aX]at o ⊢;exact⟨v,g,rfl,bN,o⟩
  |cons s' n=>
   refine⟨(y,z),?_,λa=>⟨k (a 0 t d rfl rfl),u λj t' hq h1 h2=>a (j+1) t' hq nk Gw⟩,λm hm=>by have h1:=l m hm;have h2:=aJ m hm;simp only[I3,e0,List.sum_cons];omega⟩
   simp only[en,aX];exact⟨v,g,rfl,bN,o⟩
theorem W2(f:laidOutB P=ae){W uT:aK}(aj:Below W.heap.size W uT):∀{c:U bD}{vs:U aA}{av:U (DataW H)}{bE:U MemPlace},(∀t,t∈c->P.readableRec t=ae/\t<P.types.size)->(∀x∈bE,x.block<W.heap.size)->DataW.TrodAll pD P W 0 (λ_=>ae) ae c vs av bE->DataW.TrodAll pD P uT 0 (λb=>aa (b<W.heap.size)) ae c vs av bE
 |[],vs,av,bE,_,_,h=>by
  cases vs<;>cases av<;>simp[DataW.TrodAll]at h ⊢
  exact h
 |t::c,vs,av,bE,cg,afw,h=>by obtain⟨v,g,d,i,p,q,rfl,rfl,rfl,ao,a⟩:=trodAll_cons h;obtain⟨h1,h2⟩:=cg t (by simp);exact⟨p,q,Below.trod f h1 h2 ao aj (λx e=>afw x tL),W2 f aj (λt' j=>cg t' (by simp[j])) (λx e=>afw x tL) a,rfl⟩
end
end Go.dS
namespace Go.Proofs.YtcoaaebppfbbnaaGreatDoor
open Go.dS
def bare(l:U bh):bh:=.mk 0 ⟨0,0,[]⟩ [] l
def CE:U (U bh)->Int->Int->Int|[],_,n=>n|r::l,ca,n=>cond (aa (n<ca)) (CE l ca (wr .i64 (n+lz (bare r) ca))) n
def zd:U kE->Int->Int->Int|[],_,n=>n|x::l,ca,n=>cond (aa (n<ca)) (zd l ca (wr .i64 (n+lz x.e ca))) n
def vi:U ar->Int->Int->Int|[],_,n=>n|x::l,ca,n=>cond (aa (n<ca)) (vi l ca (wr .i64 (n+wr .i64 (Int.tdiv (I x:Int) 30)))) n
def jN(s:b4)(ca:Int):Int:=wr .i64 (wr .i64 (wr .i64 (wr .i64 (wr .i64 (wr .i64 ((I s.al:Int)+(I s.names:Int))+(I s.order:Int))+(I s.desc:Int))+wr .i64 (Int.tdiv (wr .i64 ((I s.name:Int)+(I s.on:Int))) 30))+lz s.ej ca)+lz (bare s.l) ca)
def V2:bt:=⟨110,[(1,.int .i64),(5,.int .i64),(8,.int .i64)],[(2,.ptr 0 0)],[(0,.one (.aI .stmt))],1,0,0,[],[]⟩
abbrev Ia:=Int×Int×Int×b4
def yU{R:Type}(d:Ia->af R)(kx:bf->Ia->af R)(v:Ia):af R:=match v with|(b,c,a,w2)=>cond (aa (a<(I w2.names:Int))) (cond (aa (c<b)) (ax (aU a (I w2.names)) (d (b,(wr .i64 (c+(wr .i64 (Int.tdiv (I (at' .str w2.names a):Int) 30)))),(wr .i64 (a+1)),w2))) (kx (.exit 4) (b,c,a,w2))) (kx (.exit 4) (b,c,a,w2))
def Wn:bt:=⟨110,[(1,.int .i64),(5,.int .i64),(7,.int .i64)],[(2,.ptr 0 0)],[(0,.one (.aI .stmt))],1,0,0,[],[]⟩
abbrev Ih:=Int×Int×Int×b4
def yy{R:Type}(a:Ih->af R)(kx:bf->Ih->af R)(v:Ih):af R:=match v with|(bA,b6,cw,w1)=>cond (aa (cw<(I w1.b8:Int))) (cond (aa (b6<bA)) (ax (aU cw (I w1.b8)) (a (bA,(wr .i64 (b6+(lz (ia ((at' .set w1.b8 cw).e)) bA))),(wr .i64 (cw+1)),w1))) (kx (.exit 2) (bA,b6,cw,w1))) (kx (.exit 2) (bA,b6,cw,w1))
def WJ:bt:=⟨110,[(1,.int .i64),(5,.int .i64),(6,.int .i64)],[(2,.ptr 0 0)],[(0,.one (.aI .stmt))],1,0,0,[],[]⟩
abbrev H4:=Int×Int×Int×b4
def yC{R:Type}(a:H4->af R)(kx:bf->H4->af R)(v:H4):af R:=match v with|(v,v1,v2,w)=>cond (aa (v2<(I w.rows:Int))) (cond (aa (v1<v)) (ax (aU v2 (I w.rows)) (a (v,(wr .i64 (v1+(lz (bh.mk 0 ⟨0,0,[]⟩ [] (at' .exprs w.rows v2)) v))),(wr .i64 (v2+1)),w))) (kx (.exit 0) (v,v1,v2,w))) (kx (.exit 0) (v,v1,v2,w))
def Sx(R:Type)(k:Nat):aM R:=bp [(85,bg J2)] [(85,fa J2)] [(3,cq k WJ (yC)),(7,cq k Wn (yy)),(11,cq k V2 (yU))] []
def U1(k:Nat)(x:au [dQ,aq]):af (au [aq]):=match x with
 |(s,ca)=>
 aT (λf=>yC f (λe g=>match g with|(aD,v4,_,v6)=>match e with
  |.exit 0=>
  aT (λf=>yy f (λe g=>match g with|(a,b,_,c)=>match e with
   |.exit 2=>
   aT (λf=>yU f (λe g=>match g with|(_,d,_,_)=>match e with
    |.exit 4=>
    J d
    |_=>ah)) k (a,b,0,c)
   |_=>ah)) k (aD,v4,0,v6)
  |_=>ah)) k (ca,(wr .i64 ((wr .i64 ((wr .i64 ((wr .i64 ((wr .i64 ((wr .i64 ((I s.al:Int)+(I s.names:Int)))+(I s.order:Int)))+(I s.desc:Int)))+(wr .i64 (Int.tdiv (wr .i64 ((I s.name:Int)+(I s.on:Int))) 30))))+(lz (ia s.ej) ca)))+(lz (bh.mk 0 ⟨0,0,[]⟩ [] s.l) ca))),0,s)
theorem arF(k:Nat):aN 51 [dQ,aq] [aq] (U1 k):=bX (px:=Sx _ k) (n:=3) Tryz.func51 rfl (λab H=>by have h0:bT ab (Sx (au [aq]) k):=br H (c1 H RO bm) (bd H RO bo) bq;have a:=cC H h0 (b:=b_ Tryz.f51 0) (k:=k) (n:=0) (s:=WJ) (step:=yC) (λ_ _ _ (_,_,_,_)=>by kernel_rfl) aP;have c:=cC H h0 (b:=b_ Tryz.f51 1) (k:=k) (n:=0) (s:=Wn) (step:=yy) (λ_ _ _ (_,_,_,_)=>by kernel_rfl) aP;have d:=cC H h0 (b:=b_ Tryz.f51 2) (k:=k) (n:=0) (s:=V2) (step:=yU) (λ_ _ _ (_,_,_,_)=>by kernel_rfl) aP;exact⟨h0,(cm (cm (cm aP a) c) d)⟩) λ(_,_)=>by kernel_rfl
def wB(s:b4)(ca:Int):Int:=vi s.names ca (zd s.b8 ca (CE s.rows ca (jN s ca)))
def Jw:bb [dQ,aq] [aq]:=λx=>J (wB x.1 x.2)
variable{R:Type}{c:Int->af R}{ca:Int}{s:b4}
theorem agy{kx:bf->H4->af R}(b:b5 (I s.rows))(h2:∀n i,kx (.exit 0) (ca,n,i,s)=c n)(k:Nat)(e:I s.rows<k)(n:Int) :
  aT (λa=>yC a kx) k (ca,n,0,s)=c (CE s.rows ca n):=by
 refine(kd (I s.rows) (λi n=>(ca,n,(i:Int),s)) (λ_ _=>True) (λi n=>c (CE (s.rows.drop i) ca n)) (λi hi n _ a d=>?_) (λn _ a=>?_) k 0 n (cp _) ag trivial).trans iy
 .simp only[yC,ez hi,bY hi,cb (c:=.exprs) hi,cV hi b,dn hi,CE,h2];cases aa (n<ca)with|false=>rfl|true=>exact(d (wr .i64 (n+lz (bare s.rows[i]) ca)) trivial)
 .simp only[yC,eG,h2];exact jz
theorem agR{kx:bf->Ih->af R}(b:b5 (I s.b8))(h2:∀n i,kx (.exit 2) (ca,n,i,s)=c n)(k:Nat)(f:I s.b8<k)(n:Int) :
  aT (λa=>yy a kx) k (ca,n,0,s)=c (zd s.b8 ca n):=by
 refine(kd (I s.b8) (λi n=>(ca,n,(i:Int),s)) (λ_ _=>True) (λi n=>c (zd (s.b8.drop i) ca n)) (λi hi n _ a d=>?_) (λn _ a=>?_) k 0 n (cp _) ag trivial).trans iy
 .simp only[yy,ez hi,bY hi,cb (c:=.set) hi,cV hi b,dn hi,zd,h2,n8];cases aa (n<ca)with|false=>rfl|true=>exact(d (wr .i64 (n+lz s.b8[i].e ca)) trivial)
 .simp only[yy,eG,h2];exact jz
theorem agq{kx:bf->Ia->af R}(b:b5 (I s.names))(h2:∀n i,kx (.exit 4) (ca,n,i,s)=c n)(k:Nat)(e:I s.names<k)(n:Int) :
  aT (λa=>yU a kx) k (ca,n,0,s)=c (vi s.names ca n):=by
 refine(kd (I s.names) (λi n=>(ca,n,(i:Int),s)) (λ_ _=>True) (λi n=>c (vi (s.names.drop i) ca n)) (λi hi n _ a d=>?_) (λn _ a=>?_) k 0 n (cp _) ag trivial).trans iy
 .simp only[yU,ez hi,bY hi,cb (c:=.str) hi,cV hi b,dn hi,vi,h2];cases aa (n<ca)with|false=>rfl|true=>exact(d (wr .i64 (n+wr .i64 (Int.tdiv (I s.names[i]:Int) 30))) trivial)
 .simp only[yU,eG,h2];exact jz
theorem as3:aN 51 [dQ,aq] [aq] Jw:=.fin 0 arF λ(s,ca) r aj a=>⟨I s.rows+I s.b8+I s.names+1,by have aj:=aj.1;simp only[Jw,c4]at a;rw[<-a];simp only[U1,n8];refine(agy (c:=λn=>J (vi s.names ca (zd s.b8 ca n))) aj.rows.1 (λn i=>?_) _ ag _).trans rfl;refine(agR (c:=λn=>J (vi s.names ca n)) aj.b8.1 (λn i=>?_) _ ag _).trans rfl;exact agq (c:=J) aj.names.1 (λn i=>rfl) _ ag _⟩
structure oV (s:b4):Prop where
 al:I s.al<=2000000
 names:I s.names<=2000000
 order:I s.order<=2000000
 desc:I s.desc<=2000000
 name:I s.name+I s.on<=600000000000000
 ej:di s.ej<=900000
 l:je s.l<=900000
 rows:I s.rows<=2000000/\∀r,r∈s.rows->je r<=900000
 b8:I s.b8<=2000000/\∀x,x∈s.b8->di x.e<=900000
def am5(R:Type):aM R:=bp [] [] [] []
def PV(x:au [cu]):af (au [dQ]):=match x with|t=>J (b4.mk 1 t.name [] t.al t.key t.e9 [] [] ai (bh.mk 0 ⟨0,0,[]⟩ [] []) [] [] 0)
theorem ami:aN 43 [cu] [dQ] (PV):=bX (px:=am5 _) (n:=0) Tryz.func43 rfl (λ_ H=>⟨br H bm bo bq,aP⟩) λ_=>by kernel_rfl
def kW(t:bU):b4:=(b4.mk 1 t.name [] t.al t.key t.e9 [] [] ai (bh.mk 0 ⟨0,0,[]⟩ [] []) [] [] 0)
theorem amk(x:au [cu]):PV x=J (kW x):=by
 first
  |exact rfl
  |simp only[PV,kW,fA]
def Mo:bb [cu] [dQ]:=λx=>J (kW x)
theorem Vu:aN 43 [cu] [dQ] Mo:=.de ami λx _ _ a=>(amk x).trans a
def afA(x:c3):b4:=b4.mk 0 x.name [] [] x.al [] [] [] ai (bh.mk 0 ⟨0,0,[]⟩ [] []) [] [] 0
def CD:U c3->Int->Int->Int|[],_,n=>n|x::l,ca,n=>cond (aa (n<ca)) (CD l ca (wr .i64 (n+wB (afA x) ca))) n
def zc:U cW->Int->Int->Int|[],_,n=>n|c::l,ca,n=>cond (aa (n<ca)) (zc l ca (wr .i64 (n+wr .i64 (Int.tdiv (wr .i64 ((I c.name:Int)+(I c.ref:Int))) 30)))) n
def Tz:bt:=⟨76,[(1,.int .i64),(5,.int .i64),(7,.int .i64)],[(2,.ptr 0 0)],[(0,.one (.aI .tbl))],1,0,0,[],[]⟩
abbrev GU:=Int×Int×Int×bU
def xH{R:Type}(a:GU->af R)(kx:bf->GU->af R)(v:GU):af R:=match v with|(bA,b6,cw,w1)=>cond (aa (cw<(I w1.al:Int))) (cond (aa (b6<bA)) (ax (aU cw (I w1.al)) (ax (aU cw (I w1.al)) (a (bA,(wr .i64 (b6+(wr .i64 (Int.tdiv (wr .i64 ((I ((at' .cO w1.al cw).name):Int)+(I ((at' .cO w1.al cw).ref):Int))) 30)))),(wr .i64 (cw+1)),w1)))) (kx (.exit 2) (bA,b6,cw,w1))) (kx (.exit 2) (bA,b6,cw,w1))
def TA:bt:=⟨76,[(1,.int .i64),(5,.int .i64),(6,.int .i64)],[(2,.ptr 0 0)],[(0,.one (.aI .tbl))],1,0,0,[],[]⟩
abbrev GQ:=Int×Int×Int×bU
def xB{R:Type}(a:GQ->af R)(kx:bf->GQ->af R)(v:GQ):af R:=match v with|(v,v1,v2,w)=>cond (aa (v2<(I w.idx:Int))) (cond (aa (v1<v)) (ax (aU v2 (I w.idx)) (ax (aU v2 (I w.idx)) (a (v,(wr .i64 (v1+(wB (b4.mk 0 ((at' .idx w.idx v2).name) [] [] ((at' .idx w.idx v2).al) [] [] [] ai (bh.mk 0 ⟨0,0,[]⟩ [] []) [] [] 0) v))),(wr .i64 (v2+1)),w)))) (kx (.exit 0) (v,v1,v2,w))) (kx (.exit 0) (v,v1,v2,w))
def VH(R:Type)(k:Nat):aM R:=bp [] [(43,fa Mo),(51,fa Jw)] [(3,cq k TA (xB)),(7,cq k Tz (xH))] []
def TB(k:Nat)(x:au [cu,aq]):af (au [aq]):=match x with
 |(t,ca)=>
 aT (λb=>xB b (λe c=>match c with|(aD,v4,_,v6)=>match e with
  |.exit 0=>
  aT (λb=>xH b (λe c=>match c with|(_,a,_,_)=>match e with
   |.exit 2=>
   J a
   |_=>ah)) k (aD,v4,0,v6)
  |_=>ah)) k (ca,(wr .i64 ((wB (kW t) ca)+(I t.idx:Int))),0,t)
theorem ahj(k:Nat):aN 23 [cu,aq] [aq] (TB k):=bX (px:=VH _ k) (n:=2) Tryz.func23 rfl (λab H=>by have h0:bT ab (VH (au [aq]) k):=br H bm (bd H Vu (bd H as3 bo)) bq;have a:=cC H h0 (b:=b_ Tryz.f23 0) (k:=k) (n:=0) (s:=TA) (step:=xB) (λ_ _ _ (_,_,_,_)=>by kernel_rfl) aP;have c:=cC H h0 (b:=b_ Tryz.f23 1) (k:=k) (n:=0) (s:=Tz) (step:=xH) (λ_ _ _ (_,_,_,_)=>by kernel_rfl) aP;exact⟨h0,(cm (cm aP a) c)⟩) λ(_,_)=>by kernel_rfl
def Kk(t:bU)(ca:Int):Int:=zc t.al ca (CD t.idx ca (wr .i64 (wB (kW t) ca+(I t.idx:Int))))
def L9:bb [cu,aq] [aq]:=λx=>J (Kk x.1 x.2)
variable{t:bU}
theorem ahO{kx:bf->GQ->af R}(d:b5 (I t.idx))(h2:∀n i,kx (.exit 0) (ca,n,i,t)=c n)(k:Nat)(e:I t.idx<k)(n:Int) :
  aT (λa=>xB a kx) k (ca,n,0,t)=c (CD t.idx ca n):=by
 refine(kd (I t.idx) (λi n=>(ca,n,(i:Int),t)) (λ_ _=>True) (λi n=>c (CD (t.idx.drop i) ca n)) (λi hi n _ a b=>?_) (λn _ a=>?_) k 0 n (cp _) ag trivial).trans iy
 .have b:=b (wr .i64 (n+wB (afA t.idx[i]) ca)) trivial;simp at b;simp only[xB,ez hi,bY hi,cb (c:=.idx) hi,cV hi d,dn hi,CD,h2];cases aa (n<ca)with|false=>rfl|true=>exact b
 .simp only[xB,eG,h2];exact jz
theorem ahP{kx:bf->GU->af R}(b:b5 (I t.al))(h2:∀n i,kx (.exit 2) (ca,n,i,t)=c n)(k:Nat)(e:I t.al<k)(n:Int) :
  aT (λa=>xH a kx) k (ca,n,0,t)=c (zc t.al ca n):=by
 refine(kd (I t.al) (λi n=>(ca,n,(i:Int),t)) (λ_ _=>True) (λi n=>c (zc (t.al.drop i) ca n)) (λi hi n _ a d=>?_) (λn _ a=>?_) k 0 n (cp _) ag trivial).trans iy
 .simp only[xH,ez hi,bY hi,cb (c:=.cO) hi,cV hi b,dn hi,zc,h2];cases aa (n<ca)with|false=>rfl|true=>exact(d (wr .i64 (n+wr .i64 (Int.tdiv (wr .i64 ((I t.al[i].name:Int)+(I t.al[i].ref:Int))) 30))) trivial)
 .simp only[xH,eG,h2];exact jz
theorem anW:aN 23 [cu,aq] [aq] L9:=.fin 0 ahj λ(t,ca) r aj a=>⟨I t.idx+I t.al+1,by have aj:=aj.1;simp only[L9,c4]at a;rw[<-a];simp only[TB];refine(ahO (c:=λn=>J (zc t.al ca n)) aj.idx.1 (λn i=>?_) _ ag _).trans rfl;exact ahP (c:=J) aj.al.1 (λn i=>rfl) _ ag _⟩
variable{α:Type}
theorem Bx{V:Type}[DecidableEq α]{step:(V->af R)->V->af R}(l m:U α)(hm:I l=I m)(st:Nat->V)(no b:af R)
  (d:∀i (h:i<I l) (h2:i<I m) a,step a (st i)=cond (!decide (l[i]=m[i])) no (a (st (i+1)))) (f:∀a,step a (st (I l))=b) (k:Nat) (g:I l<k):aT step k (st 0)=cond (aa (l=m)) b no:=by
 refine(gS (I l) st (λi=>cond (aa (l.drop i=m.drop i)) b no) (λi hi a e=>?_) (λa=>?_) k 0 (cp _) ag).trans np
 .have c:i<I m:=ag
  rw[d i hi c,e,dn hi,dn c];by_cases h:l[i]=m[i]
  .grind
  .grind
 .grind
def UG:bt:=⟨26,[(0,.sl .str ai),(1,.sl .str ai),(4,.bool),(5,.int .i64)],[],[],0,0,0,[],[]⟩
abbrev Lb:=U ar×U ar×Bool×Int
def BT{R:Type}(a:Lb->af R)(kx:bf->Lb->af R)(v:Lb):af R:=match v with|(v,v1,v2,aD)=>cond (aa (aD<(I v:Int))) (ax (aU aD (I v)) (ax (aU aD (I v1)) (cond (!decide ((at' .str v aD)=(at' .str v1 aD))) (kx .ret (v,v1,ai,aD)) (a (v,v1,v2,(wr .i64 (aD+1))))))) (kx (.exit 0) (v,v1,v2,aD))
def Xy(R:Type)(k:Nat):aM R:=bp [] [] [(4,cq k UG (BT))] []
def TV(k:Nat)(x:au [eU,eU]):af (au [.bool]):=match x with
 |(a,b)=>
 cond (!decide ((I a:Int)=(I b:Int))) (
  J ai) (
  aT (λc=>BT c (λe d=>match d with|(_,_,v6,_)=>match e with
  |.ret=>J v6
  |.exit 0=>J ae
  |_=>ah)) k (a,b,ai,0))
theorem an4(k:Nat):aN 166 [eU,eU] [.bool] (TV k):=bX (px:=Xy _ k) (n:=1) Tryz.func166 rfl (λab H=>by have h0:bT ab (Xy (au [.bool]) k):=br H bm bo bq;have a:=cC H h0 (b:=b_ Tryz.f166 0) (k:=k) (n:=0) (s:=UG) (step:=BT) (λ_ _ _ (_,_,_,_)=>by kernel_rfl) aP;exact⟨h0,(cm aP a)⟩) λ(_,_)=>by kernel_rfl
def Ao(a b:U ar):Bool:=aa (a=b)
def NI:bb [eU,eU] [.bool]:=λx=>J (Ao x.1 x.2)
theorem auP{a b:U α}(h:¬(I a:Int)=(I b:Int)):¬a=b:=λe=>h (by rw[e])
theorem ao2:aN 166 [eU,eU] [.bool] NI:=.fin 0 an4 λ(a,b) r aj f=>⟨I a+1,by
 simp only[NI,Ao,c4]at f;rw[<-f];simp only[TV];by_cases d:(I a:Int)=(I b:Int)
 .rw[aY d,dj,a_];refine(Bx a b ag (λi=>(a,b,ai,(i:Int))) (J ai) (J ae) (λi h h2 e=>?_) (λe=>?_) (I a+1) ag).trans ?_
  .simp only[BT,ez h,a8,bY h,bY h2,ax,cb (c:=.str) h,cb (c:=.str) h2,cV h aj.1.1]
  .simp only[BT,eG,a_]
  .cases aa (a=b)<;>rfl
 .rw[bl d,bl (auP d)];rfl⟩
def apV(R:Type):aM R:=bp [(165,bg Jn)] [] [] []
def Qp(x:au [kJ,kJ]):af (au [.bool]):=match x with|(a,b)=>J (wo (bh.mk 0 ⟨0,0,[]⟩ [] a) (bh.mk 0 ⟨0,0,[]⟩ [] b))
theorem amE:aN 167 [kJ,kJ] [.bool] (Qp):=bX (px:=apV _) (n:=0) Tryz.func167 rfl (λ_ H=>⟨br H (c1 H aaj bm) bo bq,aP⟩) λ(_,_)=>by kernel_rfl
def sT(a:U bh)(b:U bh):Bool:=(wo (bh.mk 0 ⟨0,0,[]⟩ [] a) (bh.mk 0 ⟨0,0,[]⟩ [] b))
theorem anH(x:au [kJ,kJ]):Qp x=J (sT x.1 x.2):=by
 first
  |exact rfl
  |simp only[Qp,sT,fA]
def RR:bb [kJ,kJ] [.bool]:=λx=>J (sT x.1 x.2)
theorem apn:aN 167 [kJ,kJ] [.bool] RR:=.de amE λx _ _ a=>(anH x).trans a
theorem W'(a b:U bh):sT a b=aa (a=b):=by have e:sT a b=j0 (.mk 0 ⟨0,0,[]⟩ [] a) (.mk 0 ⟨0,0,[]⟩ [] b):=rfl;rw[e,tV];exact hH.2 (by simp)
theorem Xo(a b:bh):wo a b=aa (a=b):=tV a b
instance:DecidableEq kE:=λa b=>decidable_of_iff (a.name=b.name/\a.e=b.e) (by cases a;cases b;simp only[kE.mk.injEq])
def TS:bt:=⟨199,[(4,.bool),(8,.int .i64)],[(2,.ptr 0 0),(3,.ptr 1 0)],[(0,.one (.aI .stmt)),(1,.one (.aI .stmt))],2,0,0,[],[]⟩
abbrev KF:=Bool×Int×b4×b4
def BK{R:Type}(c:KF->af R)(kx:bf->KF->af R)(v:KF):af R:=match v with|(b,a,dC,dO)=>cond (aa (a<(I dC.desc:Int))) (ax (aU a (I dC.desc)) (ax (aU a (I dO.desc)) (cond (!decide ((at' .bool dC.desc a)=(at' .bool dO.desc a))) (kx .ret (ai,a,dC,dO)) (c (b,(wr .i64 (a+1)),dC,dO))))) (kx (.exit 6) (b,a,dC,dO))
def UH:bt:=⟨199,[(4,.bool),(7,.int .i64)],[(2,.ptr 0 0),(3,.ptr 1 0)],[(0,.one (.aI .stmt)),(1,.one (.aI .stmt))],2,0,0,[],[]⟩
abbrev KE:=Bool×Int×b4×b4
def B5{R:Type}(c:KE->af R)(kx:bf->KE->af R)(v:KE):af R:=match v with|(b,a,c9,c7)=>cond (aa (a<(I c9.b8:Int))) (ax (aU a (I c9.b8)) (ax (aU a (I c7.b8)) (cond (!decide (((at' .set c9.b8 a).name)=((at' .set c7.b8 a).name))) (kx .ret (ai,a,c9,c7)) (ax (aU a (I c9.b8)) (ax (aU a (I c7.b8)) (cond (!(wo (ia ((at' .set c9.b8 a).e)) (ia ((at' .set c7.b8 a).e)))) (kx .ret (ai,a,c9,c7)) (c (b,(wr .i64 (a+1)),c9,c7)))))))) (kx (.exit 4) (b,a,c9,c7))
def UD:bt:=⟨199,[(4,.bool),(6,.int .i64)],[(2,.ptr 0 0),(3,.ptr 1 0)],[(0,.one (.aI .stmt)),(1,.one (.aI .stmt))],2,0,0,[],[]⟩
abbrev Ls:=Bool×Int×b4×b4
def BS{R:Type}(a:Ls->af R)(kx:bf->Ls->af R)(v:Ls):af R:=match v with|(v6,bA,w2,w3)=>cond (aa (bA<(I w2.rows:Int))) (ax (aU bA (I w2.rows)) (ax (aU bA (I w3.rows)) (cond (!(sT (at' .exprs w2.rows bA) (at' .exprs w3.rows bA))) (kx .ret (ai,bA,w2,w3)) (a (v6,(wr .i64 (bA+1)),w2,w3))))) (kx (.exit 2) (v6,bA,w2,w3))
def T1:bt:=⟨199,[(4,.bool),(5,.int .i64)],[(2,.ptr 0 0),(3,.ptr 1 0)],[(0,.one (.aI .stmt)),(1,.one (.aI .stmt))],2,0,0,[],[]⟩
abbrev KZ:=Bool×Int×b4×b4
def B3{R:Type}(a:KZ->af R)(kx:bf->KZ->af R)(v:KZ):af R:=match v with|(v,v1,w,w1)=>cond (aa (v1<(I w.al:Int))) (ax (aU v1 (I w.al)) (ax (aU v1 (I w1.al)) (cond (!decide ((at' .cO w.al v1)=(at' .cO w1.al v1))) (kx .ret (ai,v1,w,w1)) (a (v,(wr .i64 (v1+1)),w,w1))))) (kx (.exit 0) (v,v1,w,w1))
def Xw(R:Type)(k:Nat):aM R:=bp [(165,bg Jn),(166,bg NI),(167,bg RR)] [] [(6,cq k T1 (B3)),(11,cq k UD (BS)),(16,cq k UH (B5)),(21,cq k TS (BK))] []
def Un(k:Nat)(x:au [dQ,dQ]):af (au [.bool]):=match x with
 |(a,b)=>
 let q:=λ(p:Bool)=>
  let r:=λ(p1:Bool)=>
  let s:=λ(p2:Bool)=>
   let t:=λ(p3:Bool)=>
   let u:=λ(hs:Bool)=>
    let j:=λ(w:Bool)=>
    cond (w) (
     J ai) (
     cond (!(Ao a.order b.order)) (
     J ai) (
     cond (!(sT a.l b.l)) (
      J ai) (
      let v:=λ(d:Bool)=>
      cond (d) (
       J ai) (
       cond (!decide ((I a.b8:Int)=(I b.b8:Int))) (
       J ai) (
       cond (!decide ((I a.desc:Int)=(I b.desc:Int))) (
        J ai) (
        aT (λn=>B3 n (λe o=>match o with|(v2,_,v4,a')=>match e with
        |.ret=>J v2
        |.exit 0=>
         aT (λn=>BS n (λe o=>match o with|(b6,_,f,g)=>match e with
         |.ret=>J b6
         |.exit 2=>
          aT (λn=>B5 n (λe o=>match o with|(c,_,h,i)=>match e with
          |.ret=>J c
          |.exit 4=>
           aT (λn=>BK n (λe o=>match o with|(m,_,_,_)=>match e with
           |.ret=>J m
           |.exit 6=>J ae
           |_=>ah)) k (c,0,h,i)
          |_=>ah)) k (b6,0,f,g)
         |_=>ah)) k (v2,0,v4,a')
        |_=>ah)) k (ai,0,a,b))))
      cond (!decide ((I a.al:Int)=(I b.al:Int))) (
      v ae) (
      v (!decide ((I a.rows:Int)=(I b.rows:Int)))))))
    cond (hs) (
    j ae) (
    j (!(Ao a.names b.names)))
   cond (p3) (
    u ae) (
    u (!(wo (ia a.ej) (ia b.ej))))
   cond (p2) (
   t ae) (
   t (!decide (a.ca=b.ca)))
  cond (p1) (
   s ae) (
   s (!decide (a.has=b.has)))
  cond (p) (
  r ae) (
  r (!decide (a.on=b.on)))
 cond (!decide (a.kind=b.kind)) (
  q ae) (
  q (!decide (a.name=b.name)))
theorem anF(k:Nat):aN 122 [dQ,dQ] [.bool] (Un k):=bX (px:=Xw _ k) (n:=4) Tryz.func122 rfl (λab H=>by have h0:bT ab (Xw (au [.bool]) k):=br H (c1 H aaj (c1 H ao2 (c1 H apn bm))) bo bq;have a:=cC H h0 (b:=b_ Tryz.f122 0) (k:=k) (n:=0) (s:=T1) (step:=B3) (λ_ _ _ (_,_,_,_)=>by kernel_rfl) aP;have c:=cC H h0 (b:=b_ Tryz.f122 1) (k:=k) (n:=0) (s:=UD) (step:=BS) (λ_ _ _ (_,_,_,_)=>by kernel_rfl) aP;have d:=cC H h0 (b:=b_ Tryz.f122 2) (k:=k) (n:=0) (s:=UH) (step:=B5) (λ_ _ _ (_,_,_,_)=>by kernel_rfl) aP;have e:=cC H h0 (b:=b_ Tryz.f122 3) (k:=k) (n:=0) (s:=TS) (step:=BK) (λ_ _ _ (_,_,_,_)=>by kernel_rfl) aP;exact⟨h0,(cm (cm (cm (cm aP a) c) d) e)⟩) λ(_,_)=>by kernel_rfl
def sS(a b:b4):Bool:=aa (a=b)
def Nv:bb [dQ,dQ] [.bool]:=λx=>J (sS x.1 x.2)
theorem at3(x y:kE)(no a:R):cond (!decide (x.name=y.name)) no (cond (!decide (x.e=y.e)) no a)=cond (!decide (x=y)) no a:=by
 have e:aa (x=y)=(aa (x.name=y.name)&&aa (x.e=y.e)):=by rw[<-Bool.decide_and];refine hH.2 ?_;cases x;cases y;simp
 rw[e];cases aa (x.name=y.name)<;>rfl
theorem akR{a b:b4}(h1:a.kind=b.kind)(h2:a.name=b.name)(h3:a.on=b.on)(h4:a.al=b.al)(h5:a.names=b.names)(h6:a.l=b.l)(h7:a.rows=b.rows)(g:a.b8=b.b8)(h:a.has=b.has)(c:a.ej=b.ej)(d:a.order=b.order)(e:a.desc=b.desc)(f:a.ca=b.ca):a=b:=by cases a;cases b;simp only at h1 h2 h3 h4 h5 h6 h7 g h c d e f;simp[h1,h2,h3,h4,h5,h6,h7,g,h,c,d,e,f]
theorem aow:aN 122 [dQ,dQ] [.bool] Nv:=.fin 0 anF λ(a,b) r aj v=>⟨I a.al+I a.rows+I a.b8+I a.desc+1,by
 simp only[Nv,sS,c4]at v;rw[<-v];have aj:=aj.1;have no:∀{p:Prop} [Decidable p],(a=b->p)->¬p->aa (a=b)=false:=λh w=>bl λe=>w (h e);simp only[Un,n8,W',Xo,Ao];by_cases h1:a.kind=b.kind
 case neg=>rw[bl h1,no (λe=>by rw[e]) h1];rfl
 rw[aY h1];by_cases h2:a.name=b.name
 case neg=>rw[bl h2,no (λe=>by rw[e]) h2];rfl
 rw[aY h2];by_cases h3:a.on=b.on
 case neg=>rw[bl h3,no (λe=>by rw[e]) h3];rfl
 rw[aY h3];by_cases q:a.has=b.has
 case neg=>rw[bl q,no (λe=>by rw[e]) q];rfl
 rw[aY q];by_cases f:a.ca=b.ca
 case neg=>rw[bl f,no (λe=>by rw[e]) f];rfl
 rw[aY f];by_cases g:a.ej=b.ej
 case neg=>rw[bl g,no (λe=>by rw[e]) g];rfl
 rw[aY g];by_cases h5:a.names=b.names
 case neg=>rw[bl h5,no (λe=>by rw[e]) h5];rfl
 rw[aY h5];by_cases j:a.order=b.order
 case neg=>rw[bl j,no (λe=>by rw[e]) j];rfl
 rw[aY j];by_cases h6:a.l=b.l
 case neg=>rw[bl h6,no (λe=>by rw[e]) h6];rfl
 rw[aY h6];by_cases s:(I a.al:Int)=(I b.al:Int)
 case neg=>rw[bl s,no (λe=>by rw[e]) s];rfl
 rw[aY s];by_cases t:(I a.rows:Int)=(I b.rows:Int)
 case neg=>rw[bl t,no (λe=>by rw[e]) t];rfl
 rw[aY t];by_cases u:(I a.b8:Int)=(I b.b8:Int)
 case neg=>rw[bl u,no (λe=>by rw[e]) u];rfl
 rw[aY u];by_cases n:(I a.desc:Int)=(I b.desc:Int)
 case neg=>rw[bl n,no (λe=>by rw[e]) n];rfl
 rw[aY n];simp only[dj,a_];generalize x:I a.al+I a.rows+I a.b8+I a.desc+1=k;refine(Bx a.al b.al ag (λi=>(ai,(i:Int),a,b)) (J ai) (cond (aa (a.rows=b.rows)) (cond (aa (a.b8=b.b8)) (cond (aa (a.desc=b.desc)) (J ae) (J ai)) (J ai)) (J ai)) (λi h h2 d=>?_) (λd=>?_) k ag).trans ?_
 .simp only[B3,ez h,a8,bY h,bY h2,ax,cb (c:=.cO) h,cb (c:=.cO) h2,cV h aj.al.1]
 .simp only[B3,eG,a_];refine(Bx a.rows b.rows ag (λi=>(ai,(i:Int),a,b)) (J ai) (cond (aa (a.b8=b.b8)) (cond (aa (a.desc=b.desc)) (J ae) (J ai)) (J ai)) (λi h h2 d=>?_) (λd=>?_) k ag).trans rfl
  .simp only[BS,ez h,a8,bY h,bY h2,ax,cb (c:=.exprs) h,cb (c:=.exprs) h2,cV h aj.rows.1,W']
  .simp only[BS,eG,a_];refine(Bx a.b8 b.b8 ag (λi=>(ai,(i:Int),a,b)) (J ai) (cond (aa (a.desc=b.desc)) (J ae) (J ai)) (λi h h2 d=>?_) (λd=>?_) k ag).trans rfl
   .simp only[B5,ez h,a8,bY h,bY h2,ax,cb (c:=.set) h,cb (c:=.set) h2,cV h aj.b8.1,n8,Xo];exact at3 _ _ _ _
   .simp only[B5,eG,a_];refine(Bx a.desc b.desc ag (λi=>(ai,(i:Int),a,b)) (J ai) (J ae) (λi h h2 d=>?_) (λd=>?_) k ag).trans rfl
    .simp only[BK,ez h,a8,bY h,bY h2,ax,cb (c:=.bool) h,cb (c:=.bool) h2,cV h aj.desc]
    .simp only[BK,eG,a_]
 .by_cases h4:a.al=b.al
  case neg=>rw[bl h4,no (λe=>by rw[e]) h4];rfl
  by_cases h7:a.rows=b.rows
  case neg=>rw[aY h4,bl h7,no (λe=>by rw[e]) h7];rfl
  by_cases o:a.b8=b.b8
  case neg=>rw[aY h4,aY h7,bl o,no (λe=>by rw[e]) o];rfl
  by_cases m:a.desc=b.desc
  case neg=>rw[aY h4,aY h7,aY o,bl m,no (λe=>by rw[e]) m];rfl
  rw[aY h4,aY h7,aY o,aY m,aY (akR h1 h2 h3 h4 h5 h6 h7 o q g j m f)];rfl⟩
def Xq:bt:=⟨27,[(0,.sl .expr ai),(1,.int .i64),(4,.bool),(5,.int .i64)],[],[],0,0,0,[],[]⟩
abbrev M9:=U bh×Int×Bool×Int
def Ast{R:Type}(a:M9->af R)(kx:bf->M9->af R)(v:M9):af R:=match v with|(v,v1,v2,aD)=>cond (aa (aD<(I v:Int))) (ax (aU aD (I v)) (cond (aa (30<(eB (at' .expr v aD)))) (kx .ret (v,v1,ai,aD)) (a (v,v1,v2,(wr .i64 (aD+1)))))) (kx (.exit 0) (v,v1,v2,aD))
def aaZ(R:Type)(k:Nat):aM R:=bp [(121,bg E4)] [] [(2,cq k Xq (Ast))] []
def YU(k:Nat)(x:au [kJ,aq]):af (au [.bool]):=match x with
 |(l,least)=>
 aT (λa=>Ast a (λe b=>match b with|(v4,a',v6,_)=>match e with
  |.ret=>
  J v6
  |.exit 0=>
  cond (aa (a'<=(I v4:Int))) (
   J (aa ((I v4:Int)<=100))) (
   J ai)
  |_=>ah)) k (l,least,ai,0)
theorem asW(k:Nat):aN 120 [kJ,aq] [.bool] (YU k):=bX (px:=aaZ _ k) (n:=1) Tryz.func120 rfl (λab H=>by have h0:bT ab (aaZ (au [.bool]) k):=br H (c1 H No bm) bo bq;have a:=cC H h0 (b:=b_ Tryz.f120 0) (k:=k) (n:=0) (s:=Xq) (step:=Ast) (λ_ _ _ (_,_,_,_)=>by kernel_rfl) aP;exact⟨h0,(cm aP a)⟩) λ(_,_)=>by kernel_rfl
def lD(l:U bh)(n:Int):Bool:=l.all (λx=>aa (eB x<=30))&&aa (n<=(I l:Int))&&aa (I l<=100)
def OE:bb [kJ,aq] [.bool]:=λx=>J (lD x.1 x.2)
theorem O5(n:Nat):aa ((n:Int)<=100)=aa (n<=100):=hH.2 ag
theorem alH:aN 120 [kJ,aq] [.bool] OE:=.fin 0 asW λ(l,n) r aj b=>⟨I l+1,by
 simp only[OE,lD,c4]at b;rw[<-b];simp only[YU];refine(gS (I l) (λi=>(l,n,ai,(i:Int))) (λi=>J ((l.drop i).all (λx=>aa (eB x<=30))&&aa (n<=(I l:Int))&&aa (I l<=100))) (λi hi a d=>?_) (λa=>?_) (I l+1) 0 (cp _) ag).trans iy
 .have e:aa (eB l[i]<=30) = !decide (30<eB l[i]):=by
   by_cases h : 30<eB l[i]
   .rw[aY h,bl ag];rfl
   .rw[bl h,aY ag];rfl
  simp only[Ast,ez hi,a8,bY hi,ax,cb (c:=.expr) hi,cV hi aj.1.1,d,dn hi,et,e];cases aa (30<eB l[i])<;>rfl
 .simp only[Ast,eG,a_,O5];rw[g0 (b2 _)];cases aa (n<=(I l:Int))<;>rfl⟩
theorem aa6{l:U bh}(h:je l<=900000)(n:Int):lD l n=(l0 l&&aa (n<=(I l:Int))):=by
 have e:l.all (λx=>aa (eB x<=30))=l.all (λx=>fh x 30):=by
  rw[Bool.eq_iff_iff,cX,cX];refine⟨λa x hm=>?_,λa x hm=>?_⟩
  .have:=ka hm;exact(tM (di x) x 30 (b2 _) ag ag).2 (of_decide_eq_true (a x hm))
  .have:=ka hm;exact aY ((tM (di x) x 30 (b2 _) ag ag).1 (a x hm))
 simp[lD,l0,e];cases l.all (λx=>fh x 30)<;>cases aa (n<=(I l:Int))<;>cases aa (I l<=100)<;>rfl
theorem acr{e:bh}(h:di e<=900000):aa (eB e<=30)=fh e 30:=by rw[Bool.eq_iff_iff,dM];exact(tM (di e) e 30 (b2 _) ag ag).symm
def VT:bt:=⟨42,[(0,.sl .str ai),(1,.int .i64),(4,.bool),(5,.int .i64),(6,.int .i64)],[],[],0,0,0,[],[]⟩
abbrev Hy:=U ar×Int×Bool×Int×Int
def yi{R:Type}(a:Hy->af R)(kx:bf->Hy->af R)(v:Hy):af R:=match v with|(v4,a',v6,bA,b6)=>cond (aa (b6<bA)) (ax (aU bA (I v4)) (ax (aU b6 (I v4)) (cond (aa ((at' .str v4 bA)=(at' .str v4 b6))) (kx .ret (v4,a',ai,bA,b6)) (a (v4,a',v6,bA,(wr .i64 (b6+1))))))) (kx (.exit 2) (v4,a',v6,bA,b6))
def UT:bt:=⟨42,[(0,.sl .str ai),(1,.int .i64),(4,.bool),(5,.int .i64)],[],[],0,0,0,[],[]⟩
abbrev LV:=U ar×Int×Bool×Int
def zQ{R:Type}(k:Nat)(d:LV->af R)(kx:bf->LV->af R)(v:LV):af R:=match v with
 |(v,v1,v2,aD)=>
 cond (aa (aD<(I v:Int))) (
  ax (aU aD (I v)) (
  cond (!(p' (at' .str v aD))) (
   kx .ret (v,v1,ai,aD)) (
   aT (λrc=>yi rc (λe f=>match f with|(cw,a,b,c,_)=>match e with
   |.ret=>kx .ret (cw,a,b,c)
   |.exit 2=>d (cw,a,b,(wr .i64 (c+1)))
   |_=>ah)) k (v,v1,v2,aD,0)))) (
  kx (.exit 0) (v,v1,v2,aD))
def S7(R:Type)(k:Nat):aM R:=bp [(118,bg z9)] [] [(7,cq k VT (yi)),(2,cq k UT (zQ k))] []
def VN(k:Nat)(x:au [eU,aq]):af (au [.bool]):=match x with
 |(l,least)=>
 aT (λd=>zQ k d (λe f=>match f with|(a,b,c,_)=>match e with
  |.ret=>
  J c
  |.exit 0=>
  cond (aa (b<=(I a:Int))) (
   J (aa ((I a:Int)<=100))) (
   J ai)
  |_=>ah)) k (l,least,ai,0)
theorem arJ(k:Nat):aN 119 [eU,aq] [.bool] (VN k):=bX (px:=S7 _ k) (n:=2) Tryz.func119 rfl (λab H=>by have h0:bT ab (S7 (au [.bool]) k):=br H (c1 H M3 bm) bo bq;have a:=cC H h0 (b:=ss (b_ Tryz.f119 0) 0) (k:=k) (n:=0) (s:=VT) (step:=yi) (λ_ _ _ (_,_,_,_,_)=>by kernel_rfl) aP;have c:=cC H h0 (b:=b_ Tryz.f119 0) (k:=k) (n:=1) (s:=UT) (step:=zQ k) (λ_ _ _ (_,_,_,_)=>by kernel_rfl) (cm aP a);exact⟨h0,(cm (cm aP c) a)⟩) λ(_,_)=>by kernel_rfl
def mn(l:U ar)(n:Int):Bool:=gF l&&aa (n<=(I l:Int))
def JQ:bb [eU,aq] [.bool]:=λx=>J (mn x.1 x.2)
variable{i:Nat}
theorem agW{kx:bf->Hy->af R}{l:U ar}{n:Int}{c:Bool->af R}(f:b5 (I l))(hi:i<I l)(h1:∀j,kx .ret (l,n,ai,(i:Int),j)=c ae)(h2:∀j,kx (.exit 2) (l,n,ai,(i:Int),j)=c ai)(k:Nat)(p:i<k) :
  aT (λa=>yi a kx) k (l,n,ai,(i:Int),0)=c ((l.take i).contains l[i]):=by
 refine(gS i (λj=>(l,n,ai,(i:Int),(j:Int))) (λj=>c (((l.take i).drop j).contains l[i])) (λj g a m=>?_) (λa=>?_) k 0 (cp _) ag).trans iy
 .have b:j<I l:=ag
  have d:j<I (l.take i):=w9
  have e:(l.take i)[j]=l[j]:=List.getElem_take;simp only[yi,ez g,a8,bY hi,bY b,ax,cb (c:=.str) hi,cb (c:=.str) b,cV b f,m,h1,dn d,List.contains_cons,e];by_cases h:l[i]=l[j]
  .rw[aY h,h];simp
  .have o:(l[i] == l[j])=false:=beq_eq_false_iff_ne.2 h;rw[bl h,o];rfl
 .simp only[yi,eG,a_,h2];rw[g0 w9];rfl
theorem atv:aN 119 [eU,aq] [.bool] JQ:=.fin 0 arJ λ(l,n) r aj d=>⟨I l+1,by
 simp only[JQ,mn,c4]at d;rw[<-d];simp only[VN];refine(gS (I l) (λi=>(l,n,ai,(i:Int))) (λi=>J (mT (l.take i) (l.drop i)&&aa (I l<=100)&&aa (n<=(I l:Int)))) (λi hi a e=>?_) (λa=>?_) (I l+1) 0 (cp _) ag).trans (by rw[gH,List.take_zero];rfl)
 .simp only[zQ,ez hi,a8,bY hi,ax,cb (c:=.str) hi,GY,dn hi,mT];cases f:fC l[i]with
  |false=>rfl
  |true=>
   rw[dj,a_];refine(agW (c:=λb=>cond b (J ai) (J (mT (l.take (i+1)) (l.drop (i+1))&&aa (I l<=100)&&aa (n<=(I l:Int))))) aj.1.1 hi (λ_=>?_) (λ_=>?_) (I l+1) ag).trans ?_
   .rfl
   .show a (l,n,ai,wr .i64 ((i:Int)+1))=_;rw[cV hi aj.1.1,e];rfl
   .rw[WA hi];cases (l.take i).contains l[i]<;>rfl
 .simp only[zQ,eG,a_,O5];rw[g0 (b2 _)];simp only[mT];cases aa (n<=(I l:Int))<;>cases aa (I l<=100)<;>rfl⟩
noncomputable section
def YM:bt:=⟨259,[(4,.bool),(5,.sl .str ae),(9,.int .i64)],[(1,.ptr 0 0),(3,.ptr 1 0)],[(0,.one (.aI .stmt)),(1,.one (.aI .stmt))],2,0,0,[],[]⟩
abbrev Ea:=Bool×U ar×Int×b4×b4
def vQ{R:Type}(d:Ea->af R)(kx:bf->Ea->af R)(v:Ea):af R:=match v with|(c,b,a,c9,c7)=>cond (aa (a<(I c9.b8:Int))) (ax (aU a (I c9.b8)) (ax (aa (I b+1<=bJ)) (cond (c) (ax (aU a (I c9.b8)) (d (aa ((eB (ia ((at' .set c9.b8 a).e)))<=30),(b++[((at' .set c9.b8 a).name)]),(wr .i64 (a+1)),c9,c7))) (d (ai,(b++[((at' .set c9.b8 a).name)]),(wr .i64 (a+1)),c9,c7))))) (kx (.exit 5) (c,b,a,c9,c7))
def Xb:bt:=⟨259,[(4,.bool),(8,.int .i64)],[(1,.ptr 0 0),(3,.ptr 1 0)],[(0,.one (.aI .stmt)),(1,.one (.aI .stmt))],2,0,0,[],[]⟩
abbrev Dv:=Bool×Int×b4×b4
def sN{R:Type}(a:Dv->af R)(kx:bf->Dv->af R)(v:Dv):af R:=match v with|(b6,cw,w2,w3)=>cond (aa (cw<(I w2.rows:Int))) (cond (b6) (ax (aU cw (I w2.rows)) (a ((lD (at' .exprs w2.rows cw) 1),(wr .i64 (cw+1)),w2,w3))) (a (ai,(wr .i64 (cw+1)),w2,w3))) (kx (.exit 3) (b6,cw,w2,w3))
def YZ:bt:=⟨259,[(4,.bool),(5,.sl .str ae),(6,.int .i64)],[(1,.ptr 0 0),(3,.ptr 1 0)],[(0,.one (.aI .stmt)),(1,.one (.aI .stmt))],2,0,0,[],[]⟩
abbrev D0:=Bool×U ar×Int×b4×b4
def vM{R:Type}(a:D0->af R)(kx:bf->D0->af R)(v:D0):af R:=match v with
 |(v,v1,v2,w,w1)=>
 cond (aa (v2<(I w.al:Int))) (
  ax (aU v2 (I w.al)) (
  ax (aa (I v1+1<=bJ)) (
   let b:=λ(hs:Bool)=>
   let j:=λ(c:Bool)=>
    cond (c) (
    cond (aa (((at' .cO w.al v2).ref)=[])) (
     a (ae,(v1++[((at' .cO w.al v2).name)]),(wr .i64 (v2+1)),w,w1)) (
     a ((p' ((at' .cO w.al v2).ref)),(v1++[((at' .cO w.al v2).name)]),(wr .i64 (v2+1)),w,w1))) (
    a (ai,(v1++[((at' .cO w.al v2).name)]),(wr .i64 (v2+1)),w,w1))
   cond (hs) (
    j (aa ((at' .cO w.al v2).kind<=5))) (
    j ai)
   cond (v) (
   b (aa (2<=(at' .cO w.al v2).kind))) (
   b ai)))) (
  kx (.exit 1) (v,v1,v2,w,w1))
def ab4(R:Type)(k:Nat):aM R:=bp [(118,bg z9),(119,bg JQ),(120,bg OE),(121,bg E4),(122,bg Nv)] [] [(7,cq k YZ (vM)),(24,cq k Xb (sN)),(30,cq k YM (vQ))] []
def Mc(k:Nat)(x:au [dQ]):af (au [aq]):=match x with
 |s=>
 let a:Bool->af (au [aq]):=λ(p3:Bool)=>
  let u:Bool->b4->b4->af (au [aq]):=λ(b:Bool) (q:b4) (bd:b4)=>
  let y:Bool->b4->af (au [aq]):=λ(f:Bool) (ei:b4)=>
   cond (!f) (
   J 2) (
   cond (!(sS ei q)) (
    J 2) (
    J 0))
  let z:Bool->af (au [aq]):=λ(g:Bool)=>
   cond (g) (
   cond (b) (
    y (aa ((eB (ia q.ej))<=30)) (b4.mk bd.kind bd.name bd.on bd.al bd.names bd.l bd.rows bd.b8 ae (ia q.ej) bd.order bd.desc bd.ca)) (
    y ai (b4.mk bd.kind bd.name bd.on bd.al bd.names bd.l bd.rows bd.b8 ae (ia q.ej) bd.order bd.desc bd.ca))) (
   y b bd)
  let Cr:Bool->af (au [aq]):=λ(h:Bool)=>
   cond (h) (
   z q.has) (
   cond (aa (q.kind=8)) (
    z q.has) (
    z ai))
  cond (aa (q.kind=6)) (
   Cr ae) (
   Cr (aa (q.kind=7)))
  cond (aa (s.kind=1)) (
  aT (λv=>vM v (λe w=>match w with|(aD,v4,_,v6,bA)=>match e with
   |.exit 1=>
   let lg:Bool->af (au [aq]):=λ(Cw:Bool)=>
    cond (Cw) (
    cond (mn v6.names 1) (
     u (lD v6.l 0) v6 (b4.mk bA.kind bA.name bA.on v6.al v6.names v6.l bA.rows bA.b8 bA.has (ia bA.ej) bA.order bA.desc bA.ca)) (
     u ai v6 (b4.mk bA.kind bA.name bA.on v6.al v6.names v6.l bA.rows bA.b8 bA.has (ia bA.ej) bA.order bA.desc bA.ca))) (
    u ai v6 (b4.mk bA.kind bA.name bA.on v6.al v6.names v6.l bA.rows bA.b8 bA.has (ia bA.ej) bA.order bA.desc bA.ca))
   cond (aD) (
    lg (mn v4 1)) (
    lg ai)
   |_=>ah)) k (p3,[],0,s,(b4.mk s.kind s.name [] [] [] [] [] [] ai (bh.mk 0 ⟨0,0,[]⟩ [] []) [] [] 0))) (
  cond (aa (s.kind=3)) (
   cond (p3) (
   cond (p' s.on) (
    u (mn s.names 1) s (b4.mk s.kind s.name s.on [] s.names [] [] [] ai (bh.mk 0 ⟨0,0,[]⟩ [] []) [] [] 0)) (
    u ai s (b4.mk s.kind s.name s.on [] s.names [] [] [] ai (bh.mk 0 ⟨0,0,[]⟩ [] []) [] [] 0))) (
   u ai s (b4.mk s.kind s.name s.on [] s.names [] [] [] ai (bh.mk 0 ⟨0,0,[]⟩ [] []) [] [] 0))) (
   cond (aa (s.kind=5)) (
   let kQ:Bool->af (au [aq]):=λ(i:Bool)=>
    aT (λv=>sN v (λe w=>match w with|(j,_,m,n)=>match e with
    |.exit 3=>u j m n
    |_=>ah)) k (i,0,s,(b4.mk s.kind s.name [] [] [] [] s.rows [] ai (bh.mk 0 ⟨0,0,[]⟩ [] []) [] [] 0))
   cond (p3) (
    cond (aa (1<=(I s.rows:Int))) (
    kQ (aa ((I s.rows:Int)<=100))) (
    kQ ai)) (
    kQ ai)) (
   cond (aa (s.kind=6)) (
    aT (λv=>vQ v (λe w=>match w with|(o,p,_,c,d)=>match e with
    |.exit 5=>
     cond (o) (
     u (mn p 1) c d) (
     u ai c d)
    |_=>ah)) k (p3,[],0,s,(b4.mk s.kind s.name [] [] [] [] [] s.b8 ai (bh.mk 0 ⟨0,0,[]⟩ [] []) [] [] 0))) (
    cond (aa (s.kind=8)) (
    let lM:Bool->af (au [aq]):=λ(r:Bool)=>
     let m5:Bool->af (au [aq]):=λ(t:Bool)=>
     cond (t) (
      cond (aa ((I s.desc:Int)=(I s.order:Int))) (
      u (aa ((-1)<=s.ca)) s (b4.mk s.kind s.name [] [] [] s.l [] [] ai (bh.mk 0 ⟨0,0,[]⟩ [] []) s.order s.desc s.ca)) (
      u ai s (b4.mk s.kind s.name [] [] [] s.l [] [] ai (bh.mk 0 ⟨0,0,[]⟩ [] []) s.order s.desc s.ca))) (
      u ai s (b4.mk s.kind s.name [] [] [] s.l [] [] ai (bh.mk 0 ⟨0,0,[]⟩ [] []) s.order s.desc s.ca))
     cond (r) (
     m5 (mn s.order 0)) (
     m5 ai)
    cond (p3) (
     lM (lD s.l 0)) (
     lM ai)) (
    u p3 s (b4.mk s.kind s.name [] [] [] [] [] [] ai (bh.mk 0 ⟨0,0,[]⟩ [] []) [] [] 0))))))
 cond (p' s.name) (
  cond (aa (1<=s.kind)) (
  a (aa (s.kind<=8))) (
  a ai)) (
  a ai)
theorem asm(k:Nat):aN 78 [dQ] [aq] (Mc k):=bX (px:=ab4 _ k) (n:=3) Tryz.func78 rfl (λab H=>by have h0:bT ab (ab4 (au [aq]) k):=br H (c1 H M3 (c1 H atv (c1 H alH (c1 H No (c1 H aow bm))))) bo bq;have a:=cC H h0 (b:=b_ Tryz.f78 0) (k:=k) (n:=0) (s:=YZ) (step:=vM) (λ_ _ _ (_,_,_,_,_)=>by kernel_rfl) aP;have c:=cC H h0 (b:=b_ Tryz.f78 1) (k:=k) (n:=0) (s:=Xb) (step:=sN) (λ_ _ _ (_,_,_,_)=>by kernel_rfl) aP;have d:=cC H h0 (b:=b_ Tryz.f78 2) (k:=k) (n:=0) (s:=YM) (step:=vQ) (λ_ _ _ (_,_,_,_,_)=>by kernel_rfl) aP;exact⟨h0,(cm (cm (cm aP a) c) d)⟩) λ_=>by kernel_rfl
noncomputable def w4(s:b4):af Int:=@ite _ (oV s) (Classical.propDecidable _) (J (cond (fX s) 0 2)) ah
def C6:bb [dQ] [aq]:=λx=>w4 x
variable{o:b4}{w:b4}
theorem ahe{kx:bf->D0->af R}{c:Bool->U ar->af R}(h:I w.al<=2000000)(h2:∀v iX i,kx (.exit 1) (v,iX,i,w,o)=c v iX)(k:Nat)(j:I w.al<k)(v:Bool) :
  aT (λa=>vM a kx) k (v,[],0,w,o)=c (v&&w.al.all kz) (w.al.map (·.name)):=by
 have e:b5 (I w.al):=mK
 refine(kd (I w.al) (λi v=>(v,(w.al.take i).map (·.name),(i:Int),w,o)) (λ_ _=>True) (λi v=>c (v&&(w.al.drop i).all kz) (w.al.map (·.name))) (λi hi v _ a d=>?_) (λv _ a=>?_) k 0 v (cp _) ag trivial).trans iy
 .have f:(w.al.take (i+1)).map (·.name)=(w.al.take i).map (·.name)++[w.al[i].name]:=Gc
  have b:I ((w.al.take i).map (·.name))+1<=bJ:=Gd
  have d:=λg=>d g trivial;simp only[f]at d;simp only[vM,ez hi,a8,bY hi,ax,cb (c:=.cO) hi,cV hi e,dn hi,et,aY b,GY,kz];simp only[d];generalize aa (2<=w.al[i].kind)=bd;generalize aa (w.al[i].kind<=5)=ei;generalize aa (w.al[i].ref=[])=fK;generalize fC w.al[i].ref=jw;cases v<;>cases bd<;>cases ei<;>cases fK<;>cases jw<;>rfl
 .simp only[vM,eG,a_,h2];rw[g0 (b2 _),List.take_length];simp
theorem aml{kx:bf->Dv->af R}{c:Bool->af R}(b:b5 (I w.rows))(h2:∀v i,kx (.exit 3) (v,i,w,o)=c v)(k:Nat)(f:I w.rows<k)(v:Bool) :
  aT (λa=>sN a kx) k (v,0,w,o)=c (v&&w.rows.all λr=>lD r 1):=by
 refine(kd (I w.rows) (λi v=>(v,(i:Int),w,o)) (λ_ _=>True) (λi v=>c (v&&(w.rows.drop i).all λr=>lD r 1)) (λi hi v _ a d=>?_) (λv _ a=>?_) k 0 v (cp _) ag trivial).trans iy
 .simp only[sN,ez hi,a8,bY hi,ax,cb (c:=.exprs) hi,cV hi b,dn hi,et,(λe=>d e trivial)];generalize lD w.rows[i] 1=bd;cases v<;>cases bd<;>rfl
 .simp only[sN,eG,a_,h2];rw[g0 (b2 _)];simp
theorem ahp{kx:bf->Ea->af R}{c:Bool->U ar->af R}(j:I w.b8<=2000000)(h2:∀v iX i,kx (.exit 5) (v,iX,i,w,o)=c v iX)(k:Nat)(l:I w.b8<k)(v:Bool) :
  aT (λa=>vQ a kx) k (v,[],0,w,o)=c (v&&w.b8.all λx=>aa (eB x.e<=30)) (w.b8.map (·.name)):=by
 have f:b5 (I w.b8):=mK
 refine(kd (I w.b8) (λi v=>(v,(w.b8.take i).map (·.name),(i:Int),w,o)) (λ_ _=>True) (λi v=>c (v&&(w.b8.drop i).all λx=>aa (eB x.e<=30)) (w.b8.map (·.name))) (λi hi v _ a d=>?_) (λv _ a=>?_) k 0 v (cp _) ag trivial).trans iy
 .have g:(w.b8.take (i+1)).map (·.name)=(w.b8.take i).map (·.name)++[w.b8[i].name]:=Gc
  have b:I ((w.b8.take i).map (·.name))+1<=bJ:=Gd
  have d:=λh=>d h trivial;simp only[g]at d;simp only[vQ,ez hi,a8,bY hi,ax,cb (c:=.set) hi,cV hi f,dn hi,et,aY b,n8];simp only[d];generalize aa (eB w.b8[i].e<=30)=bd;cases v<;>cases bd<;>rfl
 .simp only[vQ,eG,a_,h2];rw[g0 (b2 _),List.take_length];simp
theorem aaX(s own:b4)(ok:Bool):cond (!ok) (J (2:Int)) (cond (!sS own s) (J 2) (J 0))=J (cond (ok&&aa (own=s)) 0 2):=by simp[sS];cases ok<;>cases aa (own=s)<;>rfl
theorem Nx(l:U ar):mn l 1=(gu (I l:Int)&&gF l):=by rw[Sq];simp[mn,gF];rw[show aa ((1:Int)<=(I l:Int))=aa (1<=I l) from hH.2 ag];cases mT [] l<;>cases aa (1<=I l)<;>cases aa (I l<=100)<;>rfl
theorem aio(l:U ar):mn l 0=gF l:=by simp only[mn];rw[aY (show(0:Int)<=(I l:Int) by omega),Bool.and_true]
theorem alr{l:U bh}(h:je l<=900000):lD l 0=l0 l:=by rw[aa6 h,aY (show(0:Int)<=(I l:Int) by omega),Bool.and_true]
theorem aj4{l:U bh}(h:je l<=900000):lD l 1=tk l:=by
 rw[aa6 h,tk];by_cases e:I l=0
 .grind
 .grind
theorem YL{l:U α}{p q : α->Bool}(h:∀x,x∈l->p x=q x):l.all p=l.all q:=jk
theorem awr(a:s.kind=1):aa (b4.mk s.kind s.name [] s.al s.names s.l [] [] ai g2 [] [] 0=s)=aa (iz s=jO):=Ku
theorem awj(a:s.kind=2\/s.kind=4):aa (b4.mk s.kind s.name [] [] [] [] [] [] ai g2 [] [] 0=s)=aa (iz s=jO):=by obtain⟨k,c',on,al,names,l,rows,b8,has,ej,order,desc,ca⟩:=s;simp only at a;rcases a with rfl|rfl<;>exact hH.2 ⟨λh=>by simp_all [iz,jO],λh=>by simp_all [iz,jO]⟩
theorem awm(a:s.kind=3):aa (b4.mk s.kind s.name s.on [] s.names [] [] [] ai g2 [] [] 0=s)=aa (iz s=jO):=Ku
theorem awz(a:s.kind=5):aa (b4.mk s.kind s.name [] [] [] [] s.rows [] ai g2 [] [] 0=s)=aa (iz s=jO):=Ku
theorem awx(a:s.kind=6)(b:s.has=ae):aa (b4.mk s.kind s.name [] [] [] [] [] s.b8 ae s.ej [] [] 0=s)=aa (iz s=jO):=Ks
theorem av7(a:s.kind=6)(b:s.has=ai):aa (b4.mk s.kind s.name [] [] [] [] [] s.b8 ai g2 [] [] 0=s)=(aa (iz s=jO)&&aa (s.ej=g2)):=Kp
theorem awo(a:s.kind=7)(b:s.has=ae):aa (b4.mk s.kind s.name [] [] [] [] [] [] ae s.ej [] [] 0=s)=aa (iz s=jO):=Ks
theorem avQ(a:s.kind=7)(b:s.has=ai):aa (b4.mk s.kind s.name [] [] [] [] [] [] ai g2 [] [] 0=s)=(aa (iz s=jO)&&aa (s.ej=g2)):=Kp
theorem awq(a:s.kind=8)(b:s.has=ae):aa (b4.mk s.kind s.name [] [] [] s.l [] [] ae s.ej s.order s.desc s.ca=s)=aa (iz s=jO):=Ks
theorem awf(a:s.kind=8)(b:s.has=ai):aa (b4.mk s.kind s.name [] [] [] s.l [] [] ai g2 s.order s.desc s.ca=s)=(aa (iz s=jO)&&aa (s.ej=g2)):=Kp
def jb(p:Bool)(s own:b4):af Int:=cond ((aa (s.kind=6)||decide (s.kind=7)||decide (s.kind=8))&&s.has) (cond (!(p&&aa (eB s.ej<=30))) (J 2) (cond (!sS ⟨own.kind,own.name,own.on,own.al,own.names,own.l,own.rows,own.b8,ae,s.ej,own.order,own.desc,own.ca⟩ s) (J 2) (J 0))) (cond (!p) (J 2) (cond (!sS own s) (J 2) (J 0)))
theorem uS(h:¬(s.kind=6\/s.kind=7\/s.kind=8)\/s.has=ai)(p:Bool)(own:b4):jb p s own=J (cond (p&&aa (own=s)) 0 2):=by
 have e:((aa (s.kind=6)||decide (s.kind=7)||decide (s.kind=8))&&s.has)=false:=jk
 simp only[jb,e];exact aaX s own p
theorem MI(h:s.kind=6\/s.kind=7\/s.kind=8)(b:s.has=ae)(a:oV s)(p:Bool)(own:b4):jb p s own=J (cond (p&&fh s.ej 30&&aa (b4.mk own.kind own.name own.on own.al own.names own.l own.rows own.b8 ae s.ej own.order own.desc own.ca=s)) 0 2):=by
 have e:((aa (s.kind=6)||decide (s.kind=7)||decide (s.kind=8))&&s.has)=true:=jk
 have ao:=acr (show di s.ej<=900000 by have:=a.ej;omega);simp only[jb,e,ao];exact aaX s _ _
theorem xD(b p:Bool)(s o:b4):cond b (jb p s o) (jb ai s o)=jb (b&&p) s o:=by cases b<;>rfl
theorem MV(h:s.has=ae):mi s=fh s.ej 30:=by rw[Zq,h];rfl
theorem NJ(h:s.has=ai):mi s=aa (s.ej=g2):=by rw[Zq,h];rfl
theorem alQ(k:Nat)(s:b4)(aj:Fy s)(t:oV s)(aV:F8 s<=k):Mc k s=J (cond (fX s) 0 2):=by
 simp only[F8]at aV;simp -zeta only [Mc,GY];extract_lets eE IN kQ m5 lM f;subst eE;have aJ:f (fC s.name&&aa (1<=s.kind)&&aa (s.kind<=8))=J (cond (fX s) 0 2):=by
  generalize bn:(fC s.name&&aa (1<=s.kind)&&aa (s.kind<=8))=p;simp -zeta only [f];have l3:∀p q bd,IN p q bd=jb p q bd:=λp q bd=>by simp only[IN,jb,n8];generalize aa (q.kind=6)=fG;generalize aa (q.kind=7)=fr;generalize aa (q.kind=8)=kj;generalize q.has=kk;cases p<;>cases fG<;>cases fr<;>cases kj<;>cases kk<;>rfl
  have aZ:IN=jb:=funext λp=>funext λq=>funext λbd=>l3 p q bd;simp -zeta only [kQ,lM,m5];clear f lM m5 kQ;clear l3;clear_value IN;subst aZ;have bB:lD s.l 0=l0 s.l:=alr (by have:=t.l;omega);have dC:(s.b8.all λx=>aa (eB x.e<=30))=s.b8.all λx=>fh x.e 30:=YL λx aW=>acr (by have:=t.b8.2 x aW;omega);have c7:(s.rows.all λr=>lD r 1)=s.rows.all tk:=YL λr ay=>aj4 (by have:=t.rows.2 r ay;omega);have aW:bh.mk 0 ⟨0,0,[]⟩ [] []=g2:=rfl;have z:∀{n:Int},s.kind=n->1<=n->n<=8->p=fC s.name:=λ{n} h a b=>by rw[<-bn,aY (show 1<=s.kind by omega),aY (show s.kind<=8 by omega),Bool.and_true,Bool.and_true]
  by_cases h1:s.kind=1
  .rw[aY h1,a8];refine(ahe (c:=λv iX=>cond v (cond (mn iX 1) (cond (mn s.names 1) (jb (lD s.l 0) s (b4.mk s.kind s.name [] s.al s.names s.l [] [] ai g2 [] [] 0)) (jb ai s (b4.mk s.kind s.name [] s.al s.names s.l [] [] ai g2 [] [] 0))) (jb ai s (b4.mk s.kind s.name [] s.al s.names s.l [] [] ai g2 [] [] 0))) (jb ai s (b4.mk s.kind s.name [] s.al s.names s.l [] [] ai g2 [] [] 0))) t.al (λ_ _ _=>rfl) k ag p).trans ?_;simp only[xD,Nx,bB];rw[uS (.inl ag),awr h1,z h1 ag ag,fX,if_pos h1];simp only[List.length_map];congr 2
   ac_rfl
  rw[bl h1,a_];by_cases h3:s.kind=3
  .rw[aY h3,a8];simp only[xD,Nx,aW];rw[uS (.inl ag),awm h3,z h3 ag ag,fX,if_neg h1,if_pos h3];congr 2
   ac_rfl
  rw[bl h3,a_];by_cases h5:s.kind=5
  .rw[aY h5,a8];have axR:=λd=>aml (w:=s) (o:=b4.mk s.kind s.name [] [] [] [] s.rows [] ai g2 [] [] 0) (c:=λv=>jb v s (b4.mk s.kind s.name [] [] [] [] s.rows [] ai g2 [] [] 0)) (kx:=λe fu=>match fu with|(g,_,i,j)=>match e with
    |.exit 3=>jb g i j
    |_=>ah) aj.rows.1 (λ_ _=>rfl) k ag d
   have e:∀d,aT (λbk=>sN bk (λe fu=>match fu with|(g,_,i,j)=>match e with
    |.exit 3=>jb g i j
    |_=>ah)) k (d,0,s,(b4.mk s.kind s.name [] [] [] [] s.rows [] ai g2 [] [] 0))=jb (d&&s.rows.all λr=>lD r 1) s (b4.mk s.kind s.name [] [] [] [] s.rows [] ai g2 [] [] 0):=axR
   show cond p (cond (aa (1<=(I s.rows:Int))) (aT _ k (_,0,s,(b4.mk s.kind s.name [] [] [] [] s.rows [] ai g2 [] [] 0))) (aT _ k (_,0,s,(b4.mk s.kind s.name [] [] [] [] s.rows [] ai g2 [] [] 0)))) (aT _ k (_,0,s,(b4.mk s.kind s.name [] [] [] [] s.rows [] ai g2 [] [] 0)))=_;rw[e,e,Bool.false_and,xD,xD,c7];rw[uS (.inl ag),awz h5,z h5 ag ag,fX,if_neg h1,if_neg h3,if_neg ag,if_pos h5,wy,Sq,O5,show aa ((1:Int)<=(I s.rows:Int))=aa (1<=I s.rows) from hH.2 ag];congr 2
   ac_rfl
  rw[bl h5,a_];by_cases h6:s.kind=6
  .rw[aY h6,a8];refine(ahp (c:=λv iX=>cond v (jb (mn iX 1) s (b4.mk s.kind s.name [] [] [] [] [] s.b8 ai g2 [] [] 0)) (jb ai s (b4.mk s.kind s.name [] [] [] [] [] s.b8 ai g2 [] [] 0))) t.b8.1 (λ_ _ _=>rfl) k ag p).trans ?_;simp only[xD,Nx,dC];rw[fX,if_neg h1,if_neg h3,if_neg ag,if_neg h5,if_pos h6,z h6 ag ag];simp only[List.length_map];cases m:s.has with
   |true=>
    rw[MI (.inl h6) m t,awx h6 m,MV m];congr 2
    ac_rfl
   |false=>
    rw[uS (.inr m),av7 h6 m,NJ m];congr 2
    ac_rfl
  rw[bl h6,a_];by_cases u:s.kind=8
  .rw[aY u,a8];simp only[xD,aio,aW,bB];have j5:∀(b:Bool) (P Q:Bool),cond b (jb P s (b4.mk s.kind s.name [] [] [] s.l [] [] ai g2 s.order s.desc s.ca)) (jb (ai&&Q) s (b4.mk s.kind s.name [] [] [] s.l [] [] ai g2 s.order s.desc s.ca))=jb (b&&P) s (b4.mk s.kind s.name [] [] [] s.l [] [] ai g2 s.order s.desc s.ca):=λb P Q=>by cases b<;>rfl
   simp only[j5];have cF:aa ((I s.desc:Int)=(I s.order:Int))=aa (I s.desc=I s.order):=hH.2 ag;rw[fX,if_neg h1,if_neg h3,if_neg ag,if_neg h5,if_neg h6,if_neg ag,if_pos u,z u ag ag,cF];cases m:s.has with
   |true=>
    rw[MI (.inr (.inr u)) m t,awq u m,MV m];congr 2
    ac_rfl
   |false=>
    rw[uS (.inr m),awf u m,NJ m];congr 2
    ac_rfl
  rw[bl u,a_,aW];by_cases h7:s.kind=7
  .rw[fX,if_neg h1,if_neg h3,if_neg ag,if_neg h5,if_neg h6,if_pos h7,z h7 ag ag];cases m:s.has with
   |true=>
    rw[MI (.inr (.inl h7)) m t,awo h7 m,MV m];congr 2
    ac_rfl
   |false=>
    rw[uS (.inr m),avQ h7 m,NJ m];congr 2
    ac_rfl
  rw[uS (.inl ag),fX,if_neg h1,if_neg h3];by_cases y:s.kind=2\/s.kind=4
  .rw[if_pos y,awj y,<-bn,aY (show 1<=s.kind by omega),aY (show s.kind<=8 by omega)];congr 2
   ac_rfl
  .have bz:p=false:=by
    rw[<-bn];by_cases q : 1<=s.kind
    .rw[bl (show ¬s.kind<=8 by omega),Bool.and_false]
    .rw[bl q,Bool.and_false,Bool.false_and]
   rw[if_neg y,if_neg h5,if_neg h6,if_neg h7,if_neg u,bz,Bool.and_false];rfl
 rw[<-aJ];cases fC s.name<;>cases aa (1<=s.kind)<;>cases aa (s.kind<=8)<;>rfl
theorem abR:aN 78 [dQ] [aq] C6:=.fin 0 asm λs r aj a=>⟨F8 s,by
 simp only[C6,w4]at a;split at a
 .rename_i h;exact(alQ (F8 s) s aj h (b2 _)).trans a
 .cases a⟩
theorem acE(h:oV s):w4 s=J (cond (fX s) 0 2):=if_pos h
end
def XS:bt:=⟨20,[(0,.sl .cO ai),(1,.str),(4,.int .i64),(5,.int .i64)],[],[],0,0,0,[],[]⟩
abbrev M0:=U cW×ar×Int×Int
def Ar{R:Type}(a:M0->af R)(kx:bf->M0->af R)(v:M0):af R:=match v with|(v,v1,v2,aD)=>cond (aa (aD<(I v:Int))) (ax (aU aD (I v)) (cond (aa (((at' .cO v aD).name)=v1)) (kx .ret (v,v1,aD,aD)) (a (v,v1,v2,(wr .i64 (aD+1)))))) (kx (.exit 0) (v,v1,v2,aD))
def abx(R:Type)(k:Nat):aM R:=bp [] [] [(2,cq k XS (Ar))] []
def Yc(k:Nat)(x:au [dJ,.str]):af (au [aq]):=match x with
 |(al,name)=>
 aT (λa=>Ar a (λe b=>match b with|(_,_,v6,_)=>match e with
  |.ret=>
  J v6
  |.exit 0=>
  J (-1)
  |_=>ah)) k (al,name,0,0)
theorem at0(k:Nat):aN 40 [dJ,.str] [aq] (Yc k):=bX (px:=abx _ k) (n:=1) Tryz.func40 rfl (λab H=>by have h0:bT ab (abx (au [aq]) k):=br H bm bo bq;have a:=cC H h0 (b:=b_ Tryz.f40 0) (k:=k) (n:=0) (s:=XS) (step:=Ar) (λ_ _ _ (_,_,_,_)=>by kernel_rfl) aP;exact⟨h0,(cm aP a)⟩) λ(_,_)=>by kernel_rfl
def oL(al:U cW)(name:ar):Int:=dR al name
def Aq:bb [dJ,.str] [aq]:=λx=>J (oL x.1 x.2)
theorem Jj:aN 40 [dJ,.str] [aq] Aq:=.fin 0 at0 λ(al,s) r aj b=>⟨I al+1,by
 simp only[Aq,c4,oL]at b;simp only[Yc];refine(gS (I al) (λi=>(al,s,0,(i:Int))) (λi=>J (jh (al.drop i) s i)) (λi hi a d=>?_) (λa=>?_) _ 0 (cp _) ag).trans (by rw[gH,<-b];rfl)
 .simp only[Ar,ez hi,a8,bY hi,ax,cb (c:=.cO) hi,cV hi aj.1.1,d,dn hi,jh,Bool.cond_decide];split<;>rfl
 .simp only[Ar,eG,a_];rw[g0 (b2 _)];rfl⟩
noncomputable section
def Ve:bt:=⟨70,[(3,.int .i64),(6,.int .i64)],[(1,.ptr 0 0),(2,.ptr 1 0)],[(0,.one (.aI .stmt)),(1,.one (.aI .tbl))],2,0,0,[],[]⟩
abbrev HT:=Int×Int×b4×bU
def yk{R:Type}(a:HT->af R)(kx:bf->HT->af R)(v:HT):af R:=match v with|(v6,bA,w2,w3)=>cond (aa (bA<(I w2.l:Int))) (ax (aU bA (I w2.l)) ((zD (at' .expr w2.l bA) w2.al).bind λ(c,b)=>cond (!decide (b=0)) (kx .ret (b,bA,w2,(bU.mk [] [] [] [] []))) (cond (aa (2<c)) (kx .ret (151,bA,w2,(bU.mk [] [] [] [] []))) (a (v6,(wr .i64 (bA+1)),w2,w3))))) (kx (.exit 2) (v6,bA,w2,w3))
def U3:bt:=⟨70,[(3,.int .i64),(5,.int .i64)],[(1,.ptr 0 0),(2,.ptr 1 0)],[(0,.one (.aI .stmt)),(1,.one (.aI .tbl))],2,0,0,[],[]⟩
abbrev HE:=Int×Int×b4×bU
def ym{R:Type}(a:HE->af R)(kx:bf->HE->af R)(v:HE):af R:=match v with|(v,v1,w,w1)=>cond (aa (v1<(I w.names:Int))) (ax (aU v1 (I w.names)) (cond (aa ((oL w.al (at' .str w.names v1))<0)) (kx .ret (150,v1,w,(bU.mk [] [] [] [] []))) (a (v,(wr .i64 (v1+1)),w,w1)))) (kx (.exit 0) (v,v1,w,w1))
def RM(R:Type)(k:Nat):aM R:=bp [(78,bg C6),(40,bg Aq)] [(79,fa JY)] [(5,cq k U3 (ym)),(10,cq k Ve (yk))] []
def K3(k:Nat)(x:au [dQ]):af (au [cu,aq]):=match x with
 |s=>
 (w4 s).bind λx=>
  cond (!decide (x=0)) (
  J ((bU.mk [] [] [] [] []),2)) (
  cond (!decide (s.kind=1)) (
   J ((bU.mk [] [] [] [] []),2)) (
   aT (λc=>ym c (λe d=>match d with|(v2,_,v4,a')=>match e with
   |.ret=>J (a',v2)
   |.exit 0=>
    aT (λc=>yk c (λe d=>match d with|(b6,_,a,b)=>match e with
    |.ret=>J (b,b6)
    |.exit 2=>J ((bU.mk a.name a.al a.names a.l []),0)
    |_=>ah)) k (v2,0,v4,a')
   |_=>ah)) k (0,0,s,(bU.mk [] [] [] [] []))))
theorem aq3(k:Nat):aN 42 [dQ] [cu,aq] (K3 k):=bX (px:=RM _ k) (n:=2) Tryz.func42 rfl (λab H=>by have h0:bT ab (RM (au [cu,aq]) k):=br H (c1 H abR (c1 H Jj bm)) (bd H atL bo) bq;have a:=cC H h0 (b:=b_ Tryz.f42 0) (k:=k) (n:=0) (s:=U3) (step:=ym) (λ_ _ _ (_,_,_,_)=>by kernel_rfl) aP;have c:=cC H h0 (b:=b_ Tryz.f42 1) (k:=k) (n:=0) (s:=Ve) (step:=yk) (λ_ _ _ (_,_,_,_)=>by kernel_rfl) aP;exact⟨h0,(cm (cm aP a) c)⟩) λ_=>by kernel_rfl
def zq(s:b4):af (bU×Int):=@ite _ (oV s) (Classical.propDecidable _) (J (k6 s)) ah
def JO:bb [dQ] [cu,aq]:=λx=>zq x
variable{a:af R}{q:bU}
theorem agt{kx:bf->HE->af R}{b:af R}(e:b5 (I s.names))(h1:∀i:Nat,kx .ret (150,(i:Int),s,gM)=a)(h2:kx (.exit 0) (0,(I s.names:Int),s,q)=b)(k:Nat)(g:I s.names<k) :
  aT (λd=>ym d kx) k (0,0,s,q)=cond (s.names.all λx=> !decide (dR s.al x<0)) b a:=by
 refine(gS (I s.names) (λi=>(0,(i:Int),s,q)) (λi=>cond ((s.names.drop i).all λx=> !decide (dR s.al x<0)) b a) (λi hi d f=>?_) (λd=>?_) k 0 (cp _) ag).trans iy
 .simp only[ym,ez hi,bY hi,cb (c:=.str) hi,cV hi e,f,dn hi,et,oL];cases aa (dR s.al s.names[i]<0)with|true=>exact h1 i|false=>rfl
 .simp only[ym,eG,h2]
  grind
variable{g:Int->af R}
theorem agO{kx:bf->HT->af R}{b:af R}(h:b5 (I s.l))(an:s.al.all kz=ae)(j:∀e,e∈s.l->di e<=900000)(h1:∀p (i:Nat),kx .ret (p,(i:Int),s,gM)=g p)(h2:kx (.exit 2) (0,(I s.l:Int),s,q)=b)(k:Nat)(d:I s.l<k) :
  aT (λa=>yk a kx) k (0,0,s,q)=cond (aa (kh s.al s.l=0)) b (g (kh s.al s.l)):=by
 refine(gS (I s.l) (λi=>(0,(i:Int),s,q)) (λi=>cond (aa (kh s.al (s.l.drop i)=0)) b (g (kh s.al (s.l.drop i)))) (λi hi a m=>?_) (λa=>?_) k 0 (cp _) ag).trans iy
 .have d:zD s.l[i] s.al=J (h9 s.l[i] s.al):=by rw[zD,aY (ajl (j _ (fo hi)))];rfl
  simp only[yk,ez hi,bY hi,cb (c:=.expr) hi,d,cV hi h,m,dn hi,kh,ai1 an];by_cases f:(h9 s.l[i] s.al).2=0
  .simp[f,a8];cases aa (2<(h9 s.l[i] s.al).1)with|true=>exact h1 _ _|false=>rfl
  .simp[bl f,a_];exact h1 _ _
 .simp only[yk,eG,h2];exact jz
theorem ajZ(aj:Fy s)(f:oV s){k:Nat}(h1:I s.names<k)(h2:I s.l<k):K3 k s=J (k6 s):=by
 simp[K3,acE f,k6];cases c:fX s with
 |false=>simp[gM]
 |true=>
  by_cases d:s.kind=1
  .have an:s.al.all kz=true:=by simp only[fX,if_pos d,bx]at c;exact c.2.1.1.1.1.1
   simp[d,a8];refine(agt (a:=J (gM,150)) (b:=cond (aa (kh s.al s.l=0)) (J (⟨s.name,s.al,s.names,s.l,[]⟩,0)) (J (gM,kh s.al s.l))) aj.names.1 (λ_=>rfl) ?_ _ h1).trans ?_
   .exact agO (g:=λp=>J (gM,p)) aj.l.1 an (λe h=>by have:=ka h;have:=f.l;omega) (λ_ _=>rfl) rfl _ h2
   .rw[fA,fA];rfl
  .simp[d,gM]
theorem arq:aN 42 [dQ] [cu,aq] JO:=.fin 0 aq3 λs r aj a=>⟨I s.names+I s.l+1,by
 simp only[JO,zq]at a;split at a
 case isFalse=>cases a
 rename_i b;rw[<-a];exact ajZ aj b ag ag⟩
def T4:bt:=⟨33,[(4,.int .i64),(6,.int .i64)],[(2,.ptr 0 0),(3,.ptr 1 0)],[(0,.one (.aI .tbl)),(1,.one (.aI .idx))],2,0,0,[],[]⟩
abbrev KM:=Int×Int×bU×c3
def BN{R:Type}(a:KM->af R)(kx:bf->KM->af R)(v:KM):af R:=match v with|(v,v1,w,w1)=>cond (aa (v1<(I w1.al:Int))) (ax (aU v1 (I w1.al)) (cond (aa ((oL w.al (at' .str w1.al v1))<0)) (kx .ret (150,v1,w,w1)) (a (v,(wr .i64 (v1+1)),w,w1)))) (kx (.exit 0) (v,v1,w,w1))
def Xe(R:Type)(k:Nat):aM R:=bp [(78,bg C6),(40,bg Aq)] [] [(5,cq k T4 (BN))] []
def TY(k:Nat)(x:au [cu,.aI .idx]):af (au [aq]):=match x with
 |(t,x)=>
 (w4 (b4.mk 3 x.name t.name [] x.al [] [] [] ai (bh.mk 0 ⟨0,0,[]⟩ [] []) [] [] 0)).bind λb=>
  cond (!decide (b=0)) (
  J 2) (
  aT (λa=>BN a (λe c=>match c with|(v2,_,_,_)=>match e with
   |.ret=>
   J v2
   |.exit 0=>
   J 0
   |_=>ah)) k (0,0,t,x))
theorem anY(k:Nat):aN 44 [cu,.aI .idx] [aq] (TY k):=bX (px:=Xe _ k) (n:=1) Tryz.func44 rfl (λab H=>by have h0:bT ab (Xe (au [aq]) k):=br H (c1 H abR (c1 H Jj bm)) bo bq;have a:=cC H h0 (b:=b_ Tryz.f44 0) (k:=k) (n:=0) (s:=T4) (step:=BN) (λ_ _ _ (_,_,_,_)=>by kernel_rfl) aP;exact⟨h0,(cm aP a)⟩) λ(_,_)=>by kernel_rfl
def CT(t:bU)(x:c3):af Int:=@ite _ (oV (gT t x)) (Classical.propDecidable _) (J (cond (fX (gT t x)) (cond (iN t x.al) 0 150) 2)) ah
def MY:bb [cu,.aI .idx] [aq]:=λx=>CT x.1 x.2
theorem aqq:aN 44 [cu,.aI .idx] [aq] MY:=.fin 0 anY λ(t,x) r aj a=>⟨I x.al+1,by
 simp only[MY,CT]at a;split at a
 case isFalse=>cases a
 rename_i d;rw[<-a];have e:w4 (b4.mk 3 x.name t.name [] x.al [] [] [] ai (bh.mk 0 ⟨0,0,[]⟩ [] []) [] [] 0)=J (cond (fX (gT t x)) 0 2):=acE d;simp only[TY,e,bZ];cases fX (gT t x)with
 |false=>rfl
 |true=>
  simp only[a8,decide_true,dj,a_];refine(gS (I x.al) (λi=>(0,(i:Int),t,x)) (λi=>J (cond (iN t (x.al.drop i)) 0 150)) (λi hi b f=>?_) (λb=>?_) _ 0 (cp _) ag).trans iy
  .simp only[BN,ez hi,a8,bY hi,ax,cb (c:=.str) hi,cV hi aj.2.2.1,f,dn hi,iN,et,oL];cases aa (dR t.al x.al[i]<0)<;>rfl
  .simp only[BN,eG,a_];rw[g0 (b2 _)];rfl⟩
structure Gn (t:bU):Prop where
 ayM:oV (kW t)
 idx:∀x,x∈t.idx->oV (gT t x)
def wG(l:U c3):Nat->af ar|0=>ah|i+1=>J (at' .idx l (i:Int)).name
def Um:bt:=⟨57,[(2,.int .i64),(5,.int .i64)],[(1,.ptr 0 0)],[(0,.one (.aI .tbl))],1,0,0,[],[]⟩
abbrev G4:=Int×Int×bU
def xQ{R:Type}(a:G4->af R)(kx:bf->G4->af R)(v:G4):af R:=match v with|(v,v1,w)=>cond (aa (v1<(I w.idx:Int))) (ax (aU v1 (I w.idx)) ((CT w (at' .idx w.idx v1)).bind λb=>cond (!decide (b=0)) (kx .ret (2,v1,w)) (cond (aa (0<v1)) (ax (aU (wr .i64 (v1-1)) (I w.idx)) (ax (aU v1 (I w.idx)) (cond (!Op.bytesLess ((at' .idx w.idx (wr .i64 (v1-1))).name) ((at' .idx w.idx v1).name)) (kx .ret (2,v1,w)) (a (v,(wr .i64 (v1+1)),w))))) (a (v,(wr .i64 (v1+1)),w))))) (kx (.exit 0) (v,v1,w))
def Zr(R:Type)(k:Nat):aM R:=bp [(43,bg Mo),(42,bg JO),(44,bg MY)] [] [(5,cq k Um (xQ))] []
def UJ(k:Nat)(x:au [cu]):af (au [aq]):=match x with
 |t=>
 (zq (kW t)).bind λ(_,b)=>
  cond (!decide (b=0)) (
  J 2) (
  cond (aa (100<(I t.idx:Int))) (
   J 2) (
   aT (λa=>xQ a (λe c=>match c with|(v2,_,_)=>match e with
   |.ret=>J v2
   |.exit 0=>J 0
   |_=>ah)) k (0,0,t)))
theorem amw(k:Nat):aN 17 [cu] [aq] (UJ k):=bX (px:=Zr _ k) (n:=1) Tryz.func17 rfl (λab H=>by have h0:bT ab (Zr (au [aq]) k):=br H (c1 H Vu (c1 H arq (c1 H aqq bm))) bo bq;have a:=cC H h0 (b:=b_ Tryz.f17 0) (k:=k) (n:=0) (s:=Um) (step:=xQ) (λ_ _ _ (_,_,_)=>by kernel_rfl) aP;exact⟨h0,(cm aP a)⟩) λ_=>by kernel_rfl
def Ad(t:bU):af Int:=@ite _ (Gn t) (Classical.propDecidable _) (J (cond (hT t) 0 2)) ah
def NC:bb [cu] [aq]:=λx=>Ad x
theorem ahS{kx:bf->G4->af R}{b:af R}(g:b5 (I t.idx))(l:Gn t)(h1:∀i:Nat,kx .ret (2,(i:Int),t)=a)(h2:kx (.exit 0) (0,(I t.idx:Int),t)=b)(k:Nat)(o:I t.idx<k) :
  aT (λd=>xQ d kx) k (0,0,t)=cond (oR t ah t.idx) b a:=by
 refine(gS (I t.idx) (λi=>(0,(i:Int),t)) (λi=>cond (oR t (wG t.idx i) (t.idx.drop i)) b a) (λi hi d m=>?_) (λd=>?_) k 0 (cp _) ag).trans xh
 .have f:CT t t.idx[i]=J (cond (fX (gT t t.idx[i])) (cond (iN t t.idx[i].al) 0 150) 2):=if_pos (l.idx _ (fo hi));have e:wG t.idx (i+1)=J t.idx[i].name:=by simp[wG,cb (c:=.idx) hi]
  simp only[xQ,ez hi,a8,bY hi,ax,cb (c:=.idx) hi,f,bZ,cV hi g,m,dn hi,e];have ok:k5 t t.idx[i]=(fX (gT t t.idx[i])&&iN t t.idx[i].al):=rfl;cases i with
  |zero=>
   simp[wG,oR,ok];cases fX (gT t t.idx[0])with
   |false=>exact h1 0
   |true=>cases iN t t.idx[0].al<;>first|exact h1 0|rfl
  |succ j=>
   have h:j<I t.idx:=ag
   have n:wr .i64 (((j+1:Nat):Int)-1)=(j:Int):=by simp[b5]at g;rw[ht lW];omega
   simp only[wG,oR,ok,aY (show(0:Int)<((j+1:Nat):Int) by omega),a8,n,bY h,cb (c:=.idx) h,alg];cases fX (gT t t.idx[j+1])with|false=>exact h1 _|true=>grind
 .simp only[xQ,eG,a_,h2];rw[g0 (b2 _)];cases wG t.idx (I t.idx)<;>rfl
theorem aro(h:oV s):zq s=J (k6 s):=if_pos h
theorem aoO:aN 17 [cu] [aq] NC:=.fin 0 amw λt r aj c=>⟨I t.idx+1,by
 simp only[NC,Ad]at c;split at c
 case isFalse=>cases c
 rename_i d;rw[<-c];have e:zq (kW t)=J (k6 (iM t)):=aro d.ayM;simp only[UJ,e,bZ,hT];cases aa ((k6 (iM t)).2=0)with
 |false=>rfl
 |true=>
  simp only[dj,a_,Bool.true_and];have f:aa (100<(I t.idx:Int)) = !decide (I t.idx<=100):=by
   by_cases h:I t.idx<=100
   .rw[aY h,bl ag];rfl
   .rw[bl h,aY ag];rfl
  rw[f];cases aa (I t.idx<=100)with
  |false=>simp only[jd,a8,Bool.false_and,Bool.and_false];rfl
  |true=>simp only[dj,a_,Bool.true_and];refine(ahS (a:=J 2) (b:=J 0) aj.idx.1 d (λ_=>rfl) rfl _ ag).trans ?_;rw[arM,fA]⟩
theorem apZ(h:Gn t):Ad t=J (cond (hT t) 0 2):=if_pos h
end
def Vs:bt:=⟨47,[(1,.sl .val ai),(6,.sl .val ae),(7,.int .i64),(8,.sl .val ae),(10,.str),(19,.sl .str ai),(20,.int .i64),(21,.int .i64),(26,.sl .cO ai),(27,.int .i64),(28,.int .i64)],[(3,.ptr 0 0)],[(0,.one (.aI .tbl))],1,0,0,[],[]⟩
abbrev Im:=U aH×U aH×Int×U aH×ar×U ar×Int×Int×U cW×Int×Int×bU
def yR{R:Type}(i:Im->af R)(kx:bf->Im->af R)(v:Im):af R:=match v with|(bA,b6,cw,c,d,f,g,h,b,e,a,w1)=>cond (aa (a<e)) (ax (aU a (I b)) (cond (aa (((at' .cO b a).name)=d)) (ax (aU a (I bA)) (ax (aa (I c+1<=bJ)) (kx (.exit 1) (bA,b6,cw,(c++[(at' .val bA a)]),d,f,g,h,b,e,a,w1)))) (i (bA,b6,cw,c,d,f,g,h,b,e,(wr .i64 (a+1)),w1)))) (kx (.exit 2) (bA,b6,cw,c,d,f,g,h,b,e,a,w1))
def Vq:bt:=⟨47,[(1,.sl .val ai),(6,.sl .val ae),(7,.int .i64),(8,.sl .val ae),(19,.sl .str ai),(20,.int .i64),(21,.int .i64)],[(3,.ptr 0 0)],[(0,.one (.aI .tbl))],1,0,0,[],[]⟩
abbrev HY:=U aH×U aH×Int×U aH×U ar×Int×Int×bU
def yj{R:Type}(k:Nat)(j:HY->af R)(kx:bf->HY->af R)(v:HY):af R:=match v with
 |(v,v1,v2,aD,v4,a',v6,w)=>
 cond (aa (v6<a')) (
  ax (aU v6 (I v4)) (
  aT (λrc=>yR rc (λe l=>match l with|(a,h,i,b,_,c,d,f,_,_,_,g)=>match e with
   |.exit 1=>
   j (a,h,i,b,c,d,(wr .i64 (f+1)),g)
   |.exit 2=>
   kx .ret (a,[],150,b,c,d,f,g)
   |_=>ah)) k (v,v1,v2,aD,(at' .str v4 v6),v4,a',v6,w.al,(I w.al:Int),0,w))) (
  kx (.exit 0) (v,v1,v2,aD,v4,a',v6,w))
def aaf(R:Type)(k:Nat):aM R:=bp [] [] [(8,cq k Vs (yR)),(5,cq k Vq (yj k))] []
def Vo(k:Nat)(x:au [cu,dA,eU]):af (au [.sl .val ae,aq]):=match x with
 |(t,row,names)=>
 cond (!decide ((I row:Int)=(I t.al:Int))) (
  J ([],2)) (
  aT (λd=>yj k d (λe f=>match f with|(_,a,b,c,_,_,_,_)=>match e with
  |.ret=>J (a,b)
  |.exit 0=>J (c,0)
  |_=>ah)) k (row,[],0,[],names,(I names:Int),0,t))
theorem apS(k:Nat):aN 57 [cu,dA,eU] [.sl .val ae,aq] (Vo k):=bX (px:=aaf _ k) (n:=2) Tryz.func57 rfl (λab H=>by have h0:bT ab (aaf (au [.sl .val ae,aq]) k):=br H bm bo bq;have a:=cC H h0 (b:=ss (b_ Tryz.f57 0) 0) (k:=k) (n:=0) (s:=Vs) (step:=yR) (λ_ _ _ (_,_,_,_,_,_,_,_,_,_,_,_)=>by kernel_rfl) aP;have c:=cC H h0 (b:=b_ Tryz.f57 0) (k:=k) (n:=1) (s:=Vq) (step:=yj k) (λ_ _ _ (_,_,_,_,_,_,_,_)=>by kernel_rfl) (cm aP a);exact⟨h0,(cm (cm aP c) a)⟩) λ(_,_,_)=>by kernel_rfl
def tj(t:bU)(row:U aH)(names:U ar):af (U aH×Int):=cond (aa (I names<=2000000)) (J (cond (aa (I row=I t.al)) (eF t.al row names []) ([],2))) ah
def JE:bb [cu,dA,eU] [.sl .val ae,aq]:=λx=>tj x.1 x.2.1 x.2.2
variable{g:Int->af R}{names:U ar}{row:U aH}
theorem agz{kx:bf->Im->af R}{d acc:U aH}{e n i:Int}{s:ar}(h:b5 (I t.al))(m:I row=I t.al)(o:I acc+1<=bJ)(h1:∀j:Nat,kx (.exit 1) (row,d,e,acc++[at' .val row (j:Int)],s,names,n,i,t.al,(I t.al:Int),(j:Int),t)=g j)(h2:kx (.exit 2) (row,d,e,acc,s,names,n,i,t.al,(I t.al:Int),(I t.al:Int),t)=g (-1))(k:Nat)(p:I t.al<k) :
  aT (λa=>yR a kx) k (row,d,e,acc,s,names,n,i,t.al,(I t.al:Int),0,t)=g (dR t.al s):=by
 refine(gS (I t.al) (λj=>(row,d,e,acc,s,names,n,i,t.al,(I t.al:Int),(j:Int),t)) (λj=>g (jh (t.al.drop j) s j)) (λj b a l=>?_) (λa=>?_) k 0 (cp _) ag).trans xh
 .have f:j<I row:=ag
  simp only[yR,ez b,bY b,bY f,ax,cb (c:=.cO) b,cV b h,l,h1,dn b,jh,Bool.cond_decide];split<;>rfl
 .simp only[yR,eG,h2];exact jz
theorem agJ{kx:bf->HY->af R}{c:U aH×Int->af R}(d:b5 (I t.al))(e:I row=I t.al)(f:I names<=2000000)(k:Nat)(an:I t.al<k)(h1:∀acc i,kx .ret (row,[],150,acc,names,(I names:Int),i,t)=c ([],150))(h2:∀acc,kx (.exit 0) (row,[],0,acc,names,(I names:Int),(I names:Int),t)=c (acc,0))(h:I names<k) :
  aT (λa=>yj k a kx) k (row,[],0,[],names,(I names:Int),0,t)=c (eF t.al row names []):=by
 have b:b5 (I names):=mK
 refine(kd (I names) (λi acc=>(row,[],0,acc,names,(I names:Int),(i:Int),t)) (λi acc=>I acc=i) (λi acc=>c (eF t.al row (names.drop i) acc)) (λi hi acc l a m=>?_) (λacc _ a=>?_) k 0 [] (cp _) ag rfl).trans iy
 .simp only[yj,ez hi,bY hi,cb (c:=.str) hi,dn hi,eF];refine(agz (g:=λq=>cond (aa (q<0)) (c ([],150)) (a (row,[],0,acc++[at' .val row q],names,(I names:Int),((i+1:Nat):Int),t))) d e AX (λj=>?_) ?_ k an).trans ?_
  .simp[cV hi b,bl (show ¬(j:Int)<0 by omega)]
  .exact h1 _ _
  .grind
 .simp only[yj,eG,h2];exact jz
theorem aiO:aN 57 [cu,dA,eU] [.sl .val ae,aq] JE:=.fin 0 apS λ(t,row,names) r aj a=>⟨I t.al+I names+1,by
 simp only[JE,tj]at a;cases b:aa (I names<=2000000)with
 |false=>rw[b]at a;cases a
 |true=>
  rw[b]at a;simp only[a8,c4]at a;rw[<-a];simp only[Vo];by_cases d:I row=I t.al
  .rw[aY d,aY (show(I row:Int)=(I t.al:Int) by omega)];exact agJ (c:=J) aj.1.al.1 d (of_decide_eq_true b) _ ag (λ_ _=>rfl) (λ_=>rfl) ag
  .rw[bl d,bl (show ¬(I row:Int)=(I t.al:Int) by omega)];rfl⟩
noncomputable section
end
def atB(R:Type):aM R:=bp [] [] [] []
def KD(x:au [.str]):af (au [dt]):=match x with|s=>J (aH.mk 4 0 s)
theorem arK:aN 75 [.str] [dt] (KD):=bX (px:=atB _) (n:=0) Tryz.func75 rfl (λ_ H=>⟨br H bm bo bq,aP⟩) λ_=>by kernel_rfl
def zp(s:ar):aH:=(aH.mk 4 0 s)
theorem ap0(x:au [.str]):KD x=J (zp x):=by
 first
  |exact rfl
  |simp only[KD,zp,fA]
def ac5:bb [.str] [dt]:=λx=>J (zp x)
theorem asf:aN 75 [.str] [dt] ac5:=.de arK λx _ _ a=>(ap0 x).trans a
def T9:bt:=⟨19,[(3,.sl .val ae),(6,.sl .str ai),(7,.int .i64),(8,.int .i64)],[],[],0,0,0,[],[]⟩
abbrev Lm:=U aH×U ar×Int×Int
def BW{R:Type}(a:Lm->af R)(kx:bf->Lm->af R)(v:Lm):af R:=match v with|(v,v1,v2,aD)=>cond (aa (aD<v2)) (ax (aU aD (I v1)) (ax (aa (I v+1<=bJ)) (a ((v++[(zp (at' .str v1 aD))]),v1,v2,(wr .i64 (aD+1)))))) (kx (.exit 0) (v,v1,v2,aD))
def YE(R:Type)(k:Nat):aM R:=bp [(75,bg ac5)] [] [(3,cq k T9 (BW))] []
def GZ(k:Nat)(x:au [eU]):af (au [.sl .val ae]):=match x with
 |l=>
 aT (λa=>BW a (λe b=>match b with|(v4,_,_,_)=>match e with
  |.exit 0=>
  J v4
  |_=>ah)) k ([],l,(I l:Int),0)
theorem aoa(k:Nat):aN 36 [eU] [.sl .val ae] (GZ k):=bX (px:=YE _ k) (n:=1) Tryz.func36 rfl (λab H=>by have h0:bT ab (YE (au [.sl .val ae]) k):=br H (c1 H asf bm) bo bq;have a:=cC H h0 (b:=b_ Tryz.f36 0) (k:=k) (n:=0) (s:=T9) (step:=BW) (λ_ _ _ (_,_,_,_)=>by kernel_rfl) aP;exact⟨h0,(cm aP a)⟩) λ_=>by kernel_rfl
def mP(l:U ar):af (U aH):=GZ 5000 l
def xM:bb [eU] [.sl .val ae]:=λx=>mP x
theorem Bf:aN 36 [eU] [.sl .val ae] xM:=.fin 0 aoa λ_ _ _ a=>⟨5000,a⟩
def Yo:bt:=⟨36,[(6,.sl .val ae),(25,.sl .ep ai),(26,.int .i64),(27,.int .i64)],[],[],0,0,0,[],[]⟩
abbrev Nb:=U aH×U (U aH)×Int×Int
def Ah{R:Type}(e:Nb->af R)(kx:bf->Nb->af R)(v:Nb):af R:=match v with|(c,b,d,a)=>cond (aa (a<d)) (ax (aU a (I b)) (ax (aa (I c+I (at' .ep b a)<=bJ)) (e ((c++(at' .ep b a)),b,d,(wr .i64 (a+1)))))) (kx (.exit 2) (c,b,d,a))
def Yg:bt:=⟨36,[(0,.sl .ep ai),(3,.int .i64),(9,.sl .ep ai),(10,.int .i64),(11,.int .i64)],[],[],0,0,0,[],[]⟩
abbrev NG:=U (U aH)×Int×U (U aH)×Int×Int
def Ae{R:Type}(a:NG->af R)(kx:bf->NG->af R)(v:NG):af R:=match v with|(v,v1,v2,aD,v4)=>cond (aa (v4<aD)) (ax (aU v4 (I v2)) (cond (aa ((wr .i64 (v1+(I (at' .ep v2 v4):Int)))<0)) (ah) (a (v,(wr .i64 (v1+(I (at' .ep v2 v4):Int))),v2,aD,(wr .i64 (v4+1)))))) (kx (.exit 0) (v,v1,v2,aD,v4))
def abP(R:Type)(k:Nat):aM R:=bp [(113,p0 .val)] [] [(3,cq k Yg (Ae)),(11,cq k Yo (Ah))] []
def HN(k:Nat)(x:au [.sl .ep ai]):af (au [.sl .val ae]):=match x with
 |l=>
 aT (λb=>Ae b (λe c=>match c with|(a',v6,_,_,_)=>match e with
  |.exit 0=>
  ax (aa ((0:Int)<=v6)&&aa (v6<=(2000000:Int))) (
   aT (λb=>Ah b (λe c=>match c with|(a,_,_,_)=>match e with
   |.exit 2=>J a
   |_=>ah)) k ([],a',(I a':Int),0))
  |_=>ah)) k (l,0,l,(I l:Int),0)
theorem aiR(k:Nat):aN 74 [.sl .ep ai] [.sl .val ae] (HN k):=bX (px:=abP _ k) (n:=2) Tryz.func74 rfl (λab H=>by have h0:bT ab (abP (au [.sl .val ae]) k):=br H (dY (vA H Vn) bm) bo bq;have a:=cC H h0 (b:=b_ Tryz.f74 0) (k:=k) (n:=0) (s:=Yg) (step:=Ae) (λ_ _ _ (_,_,_,_,_)=>by kernel_rfl) aP;have c:=cC H h0 (b:=b_ Tryz.f74 1) (k:=k) (n:=0) (s:=Yo) (step:=Ah) (λ_ _ _ (_,_,_,_)=>by kernel_rfl) aP;exact⟨h0,(cm (cm aP a) c)⟩) λ_=>by kernel_rfl
def NW(l:U (U aH)):af (U aH):=HN 5000 l
def adw:bb [.sl .ep ai] [.sl .val ae]:=λx=>NW x
theorem ajW:aN 74 [.sl .ep ai] [.sl .val ae] adw:=.fin 0 aiR λ_ _ _ a=>⟨5000,a⟩
def alJ(R:Type):aM R:=bp [(74,bg adw),(45,bg C4)] [] [] []
def L0(x:au [.sl .ep ai]):af (au [.sl .byte ae,aq]):=match x with|l=>(NW l).bind λx=>(q_ x).bind λ(a,b)=>J (a,b)
theorem asO:aN 35 [.sl .ep ai] [.sl .byte ae,aq] (L0):=bX (px:=alJ _) (n:=0) Tryz.func35 rfl (λ_ H=>⟨br H (c1 H ajW (c1 H aaY bm)) bo bq,aP⟩) λ_=>by kernel_rfl
def lC(l:U (U aH)):af (ar×Int):=L0 l
def vL:bb [.sl .ep ai] [.sl .byte ae,aq]:=λx=>lC x
theorem zZ:aN 35 [.sl .ep ai] [.sl .byte ae,aq] vL:=.de asO λ_ _ _ a=>a
def VE:bt:=⟨126,[(1,.sl .val ai),(8,.sl .val ae),(16,.sl .byte ae),(71,.sl .cO ai),(72,.int .i64),(73,.int .i64)],[(2,.ptr 0 0),(4,.ptr 1 0),(5,.ptr 2 0),(6,.ptr 3 0),(7,.ptr 4 0)],[(0,.one (.aI .tbl)),(1,.cells [.sl .kv ae,aq]),(2,.cells [.sl .kv ae,aq]),(3,.cells [.sl .kv ae,aq]),(4,.cells [.sl .kv ae,aq])],5,0,0,[],[]⟩
abbrev HO:=U aH×U aH×U UInt8×U cW×Int×Int×bU×U b7×Int×U b7×Int×U b7×Int×U b7×Int
def uy{R:Type}(z:HO->af R)(kx:bf->HO->af R)(v:HO):af R:=match v with
 |(b,g,d,c,h,a,fy,i,ie,j,k,e,l,f,m)=>
 cond (aa (a<h)) (
  ax (aU a (I c)) (
  ax (aU a (I b)) (
   cond (aa ((at' .val b a).kind=1)) (
   z (b,g,d,c,h,(wr .i64 (a+1)),fy,i,ie,j,k,e,l,f,m)) (
   let kQ:=λ(n:U b7) (o:Int)=>
    cond (!decide (((at' .cO c a).ref)=[])) (
    (mP [[102],((at' .cO c a).ref)]).bind λt=>
     ax (upto a (wr .i64 (a+1)) (I b)) (
     (mP [fy.name,((at' .cO c a).name)]).bind λu=>
      (lC [t,(cut b a (wr .i64 (a+1))),u,g]).bind λ(p,q)=>
      let lg:=λ(w:Int)=>
       cond (aa (m=0)) (
       ax (aa (I f+1<=bJ)) (
        z (b,g,d,c,h,(wr .i64 (a+1)),fy,i,ie,j,k,n,o,(f++[(b7.mk p [])]),w))) (
       ax (aa (I f+1<=bJ)) (
        z (b,g,d,c,h,(wr .i64 (a+1)),fy,i,ie,j,k,n,o,(f++[(b7.mk p [])]),m)))
      cond (aa (q=0)) (
       cond (aa (200<(I p:Int))) (
       lg 3) (
       lg q)) (
       lg q))) (
    z (b,g,d,c,h,(wr .i64 (a+1)),fy,i,ie,j,k,n,o,f,m))
   cond ((at' .cO c a).unique) (
    (mP [[117],fy.name,((at' .cO c a).name)]).bind λx=>
    ax (upto a (wr .i64 (a+1)) (I b)) (
     (lC [x,(cut b a (wr .i64 (a+1)))]).bind λ(r,s)=>
     let kP:=λ(y:Int)=>
      cond (aa (l=0)) (
      ax (aa (I e+1<=bJ)) (
       kQ (e++[(b7.mk r d)]) y)) (
      ax (aa (I e+1<=bJ)) (
       kQ (e++[(b7.mk r d)]) l))
     cond (aa (s=0)) (
      cond (aa (200<(I r:Int))) (
      kP 3) (
      cond (aa (4000<(I d:Int))) (
       kP 3) (
       kP s))) (
      kP s))) (
    kQ e l))))) (
  kx (.exit 2) (b,g,d,c,h,a,fy,i,ie,j,k,e,l,f,m))
def Wl:bt:=⟨126,[(1,.sl .val ai),(8,.sl .val ae),(42,.sl .idx ai),(43,.int .i64),(44,.int .i64)],[(2,.ptr 0 0),(4,.ptr 1 0),(5,.ptr 2 0),(6,.ptr 3 0),(7,.ptr 4 0)],[(0,.one (.aI .tbl)),(1,.cells [.sl .kv ae,aq]),(2,.cells [.sl .kv ae,aq]),(3,.cells [.sl .kv ae,aq]),(4,.cells [.sl .kv ae,aq])],5,0,0,[],[]⟩
abbrev Iv:=U aH×U aH×U c3×Int×Int×bU×U b7×Int×U b7×Int×U b7×Int×U b7×Int
def uH{R:Type}(c:Iv->af R)(kx:bf->Iv->af R)(v:Iv):af R:=match v with
 |(v,v1,v2,aD,v4,w,w1,w2,w3,c9,c7,dC,dO,dX)=>
 cond (aa (v4<aD)) (
  ax (aU v4 (I v2)) (
  (tj w v ((at' .idx v2 v4).al)).bind λ(d,_)=>
   (mP [[105],((at' .idx v2 v4).name)]).bind λe=>
   (lC [e,d,v1]).bind λ(a,b)=>
    let j:=λ(f:Int)=>
    cond (aa (c9=0)) (
     ax (aa (I w3+1<=bJ)) (
     c (v,v1,v2,aD,(wr .i64 (v4+1)),w,w1,w2,(w3++[(b7.mk a [])]),f,c7,dC,dO,dX))) (
     ax (aa (I w3+1<=bJ)) (
     c (v,v1,v2,aD,(wr .i64 (v4+1)),w,w1,w2,(w3++[(b7.mk a [])]),c9,c7,dC,dO,dX)))
    cond (aa (b=0)) (
    cond (aa (200<(I a:Int))) (
     j 3) (
     j b)) (
    j b))) (
  kx (.exit 0) (v,v1,v2,aD,v4,w,w1,w2,w3,c9,c7,dC,dO,dX))
def Wk(R:Type)(kK:Nat):aM R:=bp [(35,bg vL)] [] [] []
def WM(R:Type)(kK:Nat):aM R:=bp [(35,bg vL)] [] [] []
noncomputable def SQ(R:Type)(k:Nat):aM R:=bp [(57,bg JE),(58,bg adb),(36,bg xM),(59,H3 40 200 (Wk R k) Tryz.f59 (eY 40 400 (WM R k) Tryz.f59))] [(36,fa xM)] [(5,cq k Wl (uH)),(12,cq k VE (uy))] []
def Hi(k:Nat)(x:au [cu,dA]):af (au [.aI .lay,.aI .lay,.aI .lay,.aI .lay]):=match x with
 |(t,r)=>
 (tj t r t.key).bind λ(x,_)=>
  (ra r).bind λ(j_,_)=>
  (mP [[114],t.name]).bind λkV=>
   (lC [kV,x]).bind λ(pP,z)=>
   let y:=λ(ayB:Int)=>
    aT (λw=>uH w (λe fu=>match fu with|(a',v6,_,_,_,a,b,c,d,f,g,h,i,j)=>match e with
    |.exit 0=>
     (ra v6).bind λ(l,_)=>
     aT (λw=>uy w (λe fu=>match fu with|(_,_,_,_,_,_,_,m,n,o,p,q,s,u,v)=>match e with
      |.exit 2=>
      J ((iO.mk m n),(iO.mk o p),(iO.mk q s),(iO.mk u v))
      |_=>ah)) k (a',v6,l,a.al,(I a.al:Int),0,a,b,c,d,f,g,h,i,j)
    |_=>ah)) k (r,x,t.idx,(I t.idx:Int),0,t,[(b7.mk pP j_)],ayB,[],0,[],0,[],0)
   cond (aa (z=0)) (
    cond (aa (200<(I pP:Int))) (
    y 3) (
    cond (aa (4000<(I j_:Int))) (
     y 3) (
     y z))) (
    y z)
theorem aqc(k:Nat):aN 26 [cu,dA] [.aI .lay,.aI .lay,.aI .lay,.aI .lay] (Hi k):=bX (px:=SQ _ k) (n:=2) Tryz.func26 rfl (λab H=>by have h1:bT ab (Wk (au [.aI .lay,.aI .lay,.aI .lay,.aI .lay]) k):=br H (c1 H zZ bm) bo bq;have h2:bT ab (WM (au [.aI .lay,.aI .lay,.aI .lay,.aI .lay]) k):=br H (c1 H zZ bm) bo bq;have h0:bT ab (SQ (au [.aI .lay,.aI .lay,.aI .lay,.aI .lay]) k):=br H (c1 H aiO (c1 H alc (c1 H Bf (dY (_R (e8 H h1 Tryz.func59 rfl (n:=0) (aP)) (e8 H h2 Tryz.func59 rfl (n:=0) (aP))) bm)))) (bd H Bf bo) bq;have a:=cC H h0 (b:=b_ Tryz.f26 0) (k:=k) (n:=0) (s:=Wl) (step:=uH) (λ_ _ _ (_,_,_,_,_,_,_,_,_,_,_,_,_,_)=>by kernel_rfl) aP;have c:=cC H h0 (b:=b_ Tryz.f26 1) (k:=k) (n:=0) (s:=VE) (step:=uy) (λ_ _ _ (_,_,_,_,_,_,_,_,_,_,_,_,_,_,_)=>by kernel_rfl) aP;exact⟨h0,(cm (cm aP a) c)⟩) λ(_,_)=>by kernel_rfl
def zo(t:bU)(r:U aH):af (iO×iO×iO×iO):=Hi 5000 (t,r)
def JK:bb [cu,dA] [.aI .lay,.aI .lay,.aI .lay,.aI .lay]:=λx=>zo x.1 x.2
theorem R8:aN 26 [cu,dA] [.aI .lay,.aI .lay,.aI .lay,.aI .lay] JK:=.fin 0 aqc λ_ _ _ a=>⟨5000,a⟩
def XK:bt:=⟨49,[(4,.sl .kv ae),(5,.int .i64),(7,.sl .kv ae),(32,.sl .lay ae),(33,.int .i64),(34,.int .i64)],[],[],0,0,0,[],[]⟩
abbrev El:=U b7×Int×U b7×U iO×Int×Int
def vZ{R:Type}(a:El->af R)(kx:bf->El->af R)(v:El):af R:=match v with|(v,v1,v2,aD,v4,a')=>cond (aa (a'<v4)) (ax (aU a' (I aD)) (cond (!decide ((at' .lay aD a').e=0)) (kx .ret ([],(at' .lay aD a').e,v2,aD,v4,a')) (ax (aa (I v2+I ((at' .lay aD a').l)<=bJ)) (a (v,v1,(v2++((at' .lay aD a').l)),aD,v4,(wr .i64 (a'+1))))))) (kx (.exit 0) (v,v1,v2,aD,v4,a'))
def abz(R:Type)(k:Nat):aM R:=bp [(25,bg Jt),(26,bg JK)] [] [(7,cq k XK (vZ))] []
def Hv(k:Nat)(x:au [cu,dA]):af (au [.sl .kv ae,aq]):=match x with
 |(t,r)=>
 (nC t r).bind λx=>
  cond (!decide (x=0)) (
  J ([],x)) (
  (zo t r).bind λ(b,c,d,f)=>
   aT (λa=>vZ a (λe g=>match g with|(v6,bA,b6,_,_,_)=>match e with
   |.ret=>J (v6,bA)
   |.exit 0=>J (b6,0)
   |_=>ah)) k ([],0,[],[b,c,d,f],4,0))
theorem ail(k:Nat):aN 9 [cu,dA] [.sl .kv ae,aq] (Hv k):=bX (px:=abz _ k) (n:=1) Tryz.func9 rfl (λab H=>by have h0:bT ab (abz (au [.sl .kv ae,aq]) k):=br H (c1 H aam (c1 H R8 bm)) bo bq;have a:=cC H h0 (b:=b_ Tryz.f9 0) (k:=k) (n:=0) (s:=XK) (step:=vZ) (λ_ _ _ (_,_,_,_,_,_)=>by kernel_rfl) aP;exact⟨h0,(cm aP a)⟩) λ(_,_)=>by kernel_rfl
def E_(t:bU)(r:U aH):af (U b7×Int):=Hv 5000 (t,r)
def OG:bb [cu,dA] [.sl .kv ae,aq]:=λx=>E_ x.1 x.2
theorem aaD:aN 9 [cu,dA] [.sl .kv ae,aq] OG:=.fin 0 ail λ_ _ _ a=>⟨5000,a⟩
def Zc:bt:=⟨59,[(1,.int .i64),(4,.int .u64),(5,.int .i64),(6,.int .i64),(7,.int .u64),(8,.int .i64),(21,.sl .byte ai),(22,.int .i64),(23,.int .i64)],[],[],0,0,0,[],[]⟩
abbrev BZ:=Int×Int×Int×Int×Int×Int×U UInt8×Int×Int
def qI{R:Type}(a:BZ->af R)(kx:bf->BZ->af R)(v:BZ):af R:=match v with
 |(v,v1,v2,aD,v4,a',v6,bA,b6)=>
 cond (aa (b6<bA)) (
  ax (aU b6 (I v6)) (
  let b:=λ(_:Unit)=>
   ax (aa (0<=(wr .i64 (7*b6)))) (
   cond (aa (((at' .byte v6 b6).toNat:Int)<128)) (
    kx .ret (v,(iW .u64 v4 (js .u64 (wr .u64 (fp .u8 ((at' .byte v6 b6).toNat:Int) 127)) (wr .i64 (7*b6)))),(wr .i64 ((wr .i64 (v+b6))+1)),0,(iW .u64 v4 (js .u64 (wr .u64 (fp .u8 ((at' .byte v6 b6).toNat:Int) 127)) (wr .i64 (7*b6)))),a',v6,bA,b6)) (
    a (v,v1,v2,aD,(iW .u64 v4 (js .u64 (wr .u64 (fp .u8 ((at' .byte v6 b6).toNat:Int) 127)) (wr .i64 (7*b6)))),a',v6,bA,(wr .i64 (b6+1)))))
  let j:=λ(hs:Bool)=>
   cond (hs) (
   kx (.exit 0) (v,v1,v2,aD,v4,11,v6,bA,b6)) (
   cond (aa (((at' .byte v6 b6).toNat:Int)=0)) (
    cond (aa (0<b6)) (
    kx (.exit 0) (v,v1,v2,aD,v4,11,v6,bA,b6)) (
    b ())) (
    b ()))
  cond (aa (b6=9)) (
   j (aa (1<((at' .byte v6 b6).toNat:Int)))) (
   j ai))) (
  kx (.exit 0) (v,v1,v2,aD,v4,a',v6,bA,b6))
def acD(R:Type)(k:Nat):aM R:=bp [] [] [(6,cq k Zc (qI))] []
def Mg(k:Nat)(x:au [aC,aq]):af (au [.int .u64,aq,aq]):=match x with
 |(b,p)=>
 cond (aa (p<0)) (
  J (0,0,2)) (
  cond (aa ((I b:Int)<p)) (
  J (0,0,2)) (
  ax (upto p (I b) (I b)) (
   aT (λg=>qI g (λe h=>match h with|(_,a,c,d,_,f,_,_,_)=>match e with
   |.ret=>J (a,c,d)
   |.exit 0=>J (0,0,f)
   |_=>ah)) k (p,0,0,0,0,10,(b.drop (p:Int).toNat),(I (b.drop (p:Int).toNat):Int),0))))
theorem ah7(k:Nat):aN 116 [aC,aq] [.int .u64,aq,aq] (Mg k):=bX (px:=acD _ k) (n:=1) Tryz.func116 rfl (λab H=>by have h0:bT ab (acD (au [.int .u64,aq,aq]) k):=br H bm bo bq;have a:=cC H h0 (b:=b_ Tryz.f116 0) (k:=k) (n:=0) (s:=Zc) (step:=qI) (λ_ _ _ (_,_,_,_,_,_,_,_,_)=>by kernel_rfl) aP;exact⟨h0,(cm aP a)⟩) λ(_,_)=>by kernel_rfl
def oO(b:ar)(p:Int):af (Int×Int×Int):=Mg 100 (b,p)
def vG:bb [aC,aq] [.int .u64,aq,aq]:=λx=>oO x.1 x.2
theorem z0:aN 116 [aC,aq] [.int .u64,aq,aq] vG:=.fin 0 ah7 λ_ _ _ a=>⟨100,a⟩
def ar8(R:Type):aM R:=bp [(116,bg vG)] [] [] []
def KP(x:au [aC,aq]):af (au [.sl .byte ae,aq,aq]):=match x with|(b,p)=>(oO b p).bind λ(x,a,c)=>cond (!decide (c=0)) (J ([],0,c)) (cond (aa (1048576<x)) (J ([],0,3)) (cond (aa ((wr .u64 (wr .i64 ((I b:Int)-a)))<x)) (J ([],0,10)) (ax (upto a (wr .i64 (a+(wr .i64 x))) (I b)) (ax (aa (0+I (cut b a (wr .i64 (a+(wr .i64 x))))<=bJ)) (J (([]++(cut b a (wr .i64 (a+(wr .i64 x))))),(wr .i64 (a+(wr .i64 x))),0))))))
theorem aq8:aN 206 [aC,aq] [.sl .byte ae,aq,aq] (KP):=bX (px:=ar8 _) (n:=0) Tryz.func206 rfl (λ_ H=>⟨br H (c1 H z0 bm) bo bq,aP⟩) λ(_,_)=>by kernel_rfl
def FG(b:ar)(p:Int):af (ar×Int×Int):=KP (b,p)
def acX:bb [aC,aq] [.sl .byte ae,aq,aq]:=λx=>FG x.1 x.2
theorem arQ:aN 206 [aC,aq] [.sl .byte ae,aq,aq] acX:=.de aq8 λ_ _ _ a=>a
def arT(R:Type):aM R:=bp [(116,bg vG)] [] [] []
def KA(x:au [aC,aq]):af (au [aq,aq,aq]):=match x with|(b,p)=>(oO b p).bind λ(x,a,c)=>J ((gx .i64 (wr .i64 (cK .u64 x 1)) (wr .i64 (0-(wr .i64 (fp .u64 x 1))))),a,c)
theorem ap5:aN 205 [aC,aq] [aq,aq,aq] (KA):=bX (px:=arT _) (n:=0) Tryz.func205 rfl (λ_ H=>⟨br H (c1 H z0 bm) bo bq,aP⟩) λ(_,_)=>by kernel_rfl
def FC(b:ar)(p:Int):af (Int×Int×Int):=KA (b,p)
def aa4:bb [aC,aq] [aq,aq,aq]:=λx=>FC x.1 x.2
theorem asR:aN 205 [aC,aq] [aq,aq,aq] aa4:=.de ap5 λ_ _ _ a=>a
def JW:bt:=⟨1,[],[(0,.ptr 0 0)],[(0,.cells [aC,aq,aq])],1,1,0,[],[]⟩
def Jk:bt:=⟨1,[(0,.int .u8)],[],[(0,.cells [aC,aq,aq])],1,1,0,[],[]⟩
abbrev adL:=U UInt8×Int×Int
abbrev adz:=Int×U UInt8×Int×Int
def akC(R:Type):aM R:=bp [] [] [] []
def LS(x:adL):af (adz):=match x with|(b,p,e)=>cond (aa (p=(I b:Int))) (J (0,b,p,10)) (ax (aU (wr .i64 ((wr .i64 (p+1))-1)) (I b)) (J (((at' .byte b (wr .i64 ((wr .i64 (p+1))-1))).toNat:Int),b,(wr .i64 (p+1)),e)))
theorem asg:fb 159 JW Jk (LS):=km (px:=akC _) (n:=0) Tryz.func159 rfl (λ_ H=>⟨br H bm bo bq,aP⟩) λ(_,_,_)=>by kernel_rfl
def r_:adL->af adz:=λx=>LS x
theorem ajF:fb 159 JW Jk (r_):=asg
def KL:bt:=⟨1,[],[(0,.ptr 0 0)],[(0,.cells [aC,aq,aq])],1,1,0,[],[]⟩
def K5:bt:=⟨1,[(0,.int .i64)],[],[(0,.cells [aC,aq,aq])],1,1,0,[],[]⟩
abbrev Y6:=U UInt8×Int×Int
abbrev YT:=Int×U UInt8×Int×Int
def anN(R:Type):aM R:=bp [] [(205,fa aa4)] [] []
def P0(x:Y6):af (YT):=match x with|(b,p,_)=>(FC b p).bind λ(x,a,c)=>J (x,b,a,c)
theorem amp:fb 160 KL K5 (P0):=km (px:=anN _) (n:=0) Tryz.func160 rfl (λ_ H=>⟨br H bm (bd H asR bo) bq,aP⟩) λ(_,_,_)=>by kernel_rfl
def Bw:Y6->af YT:=λx=>P0 x
theorem amL:fb 160 KL K5 (Bw):=amp
def MP:bt:=⟨1,[],[(0,.ptr 0 0)],[(0,.cells [aC,aq,aq])],1,1,0,[],[]⟩
def Nd:bt:=⟨1,[(0,.str)],[],[(0,.cells [aC,aq,aq])],1,1,0,[],[]⟩
abbrev acO:=U UInt8×Int×Int
abbrev abh:=ar×U UInt8×Int×Int
def aiH(R:Type):aM R:=bp [] [(116,fa vG),(206,fa acX)] [] []
def Lq(x:acO):af (abh):=match x with
 |(b,p,_)=>
 (oO b p).bind λ(x,_,a)=>
  let j:=λ(p3:Int)=>
  cond (!decide (p3=0)) (
   J ([],b,p,p3)) (
   (FG b p).bind λ(d,e,c)=>
   cond (aa (c=0)) (
    J (d,b,e,c)) (
    J (d,b,p,c)))
  cond (aa (a=0)) (
  cond (aa (1000<x)) (
   j 11) (
   j a)) (
  j a)
theorem aqD:fb 161 MP Nd (Lq):=km (px:=aiH _) (n:=0) Tryz.func161 rfl (λ_ H=>⟨br H bm (bd H z0 (bd H arQ bo)) bq,aP⟩) λ(_,_,_)=>by kernel_rfl
def yM:acO->af abh:=λx=>Lq x
theorem aun:fb 161 MP Nd (yM):=aqD
def G_:bt:=⟨2,[(1,.aI .val)],[(0,.ptr 0 0)],[(0,.cells [aC,aq,aq])],1,1,0,[],[]⟩
def G7:bt:=⟨1,[(0,.bool)],[],[(0,.cells [aC,aq,aq])],1,1,0,[],[]⟩
abbrev Zb:=aH×U UInt8×Int×Int
abbrev Mj:=Bool×U UInt8×Int×Int
def TL:bt:=⟨53,[(4,.bool),(40,.sl .byte ai),(41,.int .i64),(42,.int .i64)],[],[(0,.cells [aC,aq,aq])],1,1,0,[],[]⟩
abbrev Qc:=Bool×U UInt8×Int×Int×U UInt8×Int×Int
def Ml{R:Type}(a:Qc->af R)(kx:bf->Qc->af R)(v:Qc):af R:=match v with|(v1,v2,aD,v4,w,w1,w2)=>cond (aa (v4<aD)) (ax (aU v4 (I v2)) (cond (aa (((at' .byte v2 v4).toNat:Int)<32)) (kx .ret (ai,v2,aD,v4,w,w1,w2)) (cond (aa (126<((at' .byte v2 v4).toNat:Int))) (kx .ret (ai,v2,aD,v4,w,w1,w2)) (a (v1,v2,aD,(wr .i64 (v4+1)),w,w1,w2))))) (kx (.exit 0) (v1,v2,aD,v4,w,w1,w2))
def VP(R:Type)(k:Nat):aM R:=bp [] [(116,fa vG)] [(7,cq k TL (Ml))] []
def GN(k:Nat)(x:Zb):af (Mj):=match x with
 |(v,b,p,e)=>
 cond (!decide (v.kind=4)) (
  J (ae,b,p,e)) (
  cond (!decide (e=10)) (
  J (ae,b,p,e)) (
  (oO b p).bind λ(_,d,g)=>
   cond (!decide (g=0)) (
   J (ae,b,p,e)) (
   ax (upto d (I b) (I b)) (
    aT (λf=>Ml f (λe h=>match h with|(a',_,_,_,cw,a,c)=>match e with
    |.ret=>J (a',cw,a,c)
    |.exit 0=>J (ae,cw,a,c)
    |_=>ah)) k (ai,(b.drop (d:Int).toNat),(I (b.drop (d:Int).toNat):Int),0,b,p,e)))))
theorem amj(k:Nat):fb 162 G_ G7 (GN k):=km (px:=VP _ k) (n:=1) Tryz.func162 rfl (λab H=>by have h0:bT ab (VP (Mj) k):=br H bm (bd H z0 bo) bq;have a:=cC H h0 (b:=b_ Tryz.f162 0) (k:=k) (n:=0) (s:=TL) (step:=Ml) (λ_ _ _ (_,_,_,_,_,_,_)=>by kernel_rfl) aP;exact⟨h0,(cm aP a)⟩) λ(_,_,_,_)=>by kernel_rfl
def By:Zb->af Mj:=λx=>GN (50000) x
theorem anU:fb 162 G_ G7 (By):=gj.fin (ι:=Nat) (aQ:=G_) (bG:=G7) 0 (F:=λk=>GN k) (λk=>amj k) λ_ _ _ a=>⟨50000,a⟩
def LF:bt:=⟨1,[],[(0,.ptr 0 0)],[(0,.cells [aC,aq,aq])],1,1,0,[],[]⟩
def LC:bt:=⟨1,[(0,.aI .val)],[],[(0,.cells [aC,aq,aq])],1,1,0,[],[]⟩
abbrev RX:=U UInt8×Int×Int
abbrev D1:=aH×U UInt8×Int×Int
def aql(R:Type):aM R:=bp [(159,fS JW Jk r_),(160,fS KL K5 Bw),(161,fS MP Nd yM),(80,bg Pi),(162,fS G_ G7 By)] [] [] []
def UE(x:RX):af (D1):=match x with
 |(b,p,e)=>
 (r_ (b,p,e)).bind λ(x,n,o,r)=>
  cond (!decide (r=0)) (
  J ((aH.mk (wr .i64 x) 0 []),n,o,r)) (
  let s:=λ(q:U UInt8) (bd:Int) (u:Int) (t:aH)=>
   let v:=λ(p2:Bool)=>
   cond (p2) (
    J (t,q,bd,11)) (
    (By (t,q,bd,u)).bind λ(d,a,c,f)=>
    cond (!d) (
     J (t,a,c,11)) (
     J (t,a,c,f)))
   cond (aa (u=0)) (
   v (!decide ((hP t)=0))) (
   v ai)
  cond (aa ((wr .i64 x)=1)) (
   s n o r (aH.mk (wr .i64 x) 0 [])) (
   cond (aa ((wr .i64 x)=2)) (
   (r_ (n,o,r)).bind λ(w,y,z,nS)=>s y z nS (aH.mk (wr .i64 x) (wr .i64 w) [])) (
   cond (aa ((wr .i64 x)=3)) (
    (Bw (n,o,r)).bind λ(vo,vp,g,h)=>
    s vp g h (aH.mk (wr .i64 x) vo [])) (
    let j:=λ(p1:Bool)=>
    cond (p1) (
     (yM (n,o,r)).bind λ(i,k,l,m)=>
     s k l m (aH.mk (wr .i64 x) 0 i)) (
     s n o 11 (aH.mk (wr .i64 x) 0 []))
    cond (aa ((wr .i64 x)=4)) (
    j (aa ((wr .i64 x)=4))) (
    j (aa ((wr .i64 x)=5)))))))
theorem an9:fb 117 LF LC (UE):=km (px:=aql _) (n:=0) Tryz.func117 rfl (λ_ H=>⟨br H (eO H ajF (eO H amL (eO H aun (c1 H BC (eO H anU bm))))) bo bq,aP⟩) λ(_,_,_)=>by kernel_rfl
def B4:RX->af D1:=λx=>UE x
theorem aq7:fb 117 LF LC (B4):=an9
def XL:bt:=⟨67,[(0,.sl .byte ai),(8,.sl .val ae),(26,.int .u64),(27,.int .u64)],[(7,.ptr 0 0)],[(0,.cells [aC,aq,aq])],1,0,0,[],[]⟩
abbrev Dx:=U UInt8×U aH×Int×Int×U UInt8×Int×Int
def v_{R:Type}(a:Dx->af R)(kx:bf->Dx->af R)(v:Dx):af R:=match v with|(v,v1,v2,aD,w,w1,w2)=>cond (aa (aD<v2)) ((B4 (w,w1,w2)).bind λ(c,d,e,b)=>ax (aa (I v1+1<=bJ)) (cond (!decide (b=0)) (kx (.exit 1) (v,(v1++[c]),v2,aD,d,e,b)) (a (v,(v1++[c]),v2,(wr .u64 (aD+1)),d,e,b)))) (kx (.exit 1) (v,v1,v2,aD,w,w1,w2))
def abK(R:Type)(k:Nat):aM R:=bp [(116,bg vG),(117,fS LF LC B4)] [] [(9,cq k XL (v_))] []
def Mb(k:Nat)(x:au [aC]):af (au [.sl .val ae,aq]):=match x with
 |b=>
 (oO b 0).bind λ(x,f,d)=>
  cond (!decide (d=0)) (
  J ([],d)) (
  cond (aa (100<x)) (
   J ([],11)) (
   aT (λc=>v_ c (λe g=>match g with|(v4,a',_,_,_,cw,a)=>match e with
   |.exit 1=>
    cond (aa (a=0)) (
    cond (aa (cw<(I v4:Int))) (
     J ([],11)) (
     cond (!decide (a=0)) (
     J ([],a)) (
     J (a',0)))) (
    cond (!decide (a=0)) (
     J ([],a)) (
     J (a',0)))
   |_=>ah)) k (b,[],x,0,b,f,0)))
theorem aiz(k:Nat):aN 77 [aC] [.sl .val ae,aq] (Mb k):=bX (px:=abK _ k) (n:=1) Tryz.func77 rfl (λab H=>by have h0:bT ab (abK (au [.sl .val ae,aq]) k):=br H (c1 H z0 (eO H aq7 bm)) bo bq;have a:=cC H h0 (b:=b_ Tryz.f77 0) (k:=k) (n:=0) (s:=XL) (step:=v_) (λ_ _ _ (_,_,_,_,_,_,_)=>by kernel_rfl) aP;exact⟨h0,(cm aP a)⟩) λ_=>by kernel_rfl
def tt(b:ar):af (U aH×Int):=Mb 5000 b
def adk:bb [aC] [.sl .val ae,aq]:=λx=>tt x
theorem akV:aN 77 [aC] [.sl .val ae,aq] adk:=.fin 0 aiz λ_ _ _ a=>⟨5000,a⟩
noncomputable section
def asV(R:Type):aM R:=bp [(77,bg adk),(25,bg Jt)] [] [] []
def Lj(x:au [cu,aC]):af (au [.sl .val ae,aq]):=match x with|(t,b)=>(tt b).bind λ(x,a)=>cond (!decide (a=0)) (J ([],11)) ((nC t x).bind λc=>cond (!decide (c=0)) (J ([],11)) (J (x,0)))
theorem aqi:aN 39 [cu,aC] [.sl .val ae,aq] (Lj):=bX (px:=asV _) (n:=0) Tryz.func39 rfl (λ_ H=>⟨br H (c1 H akV (c1 H aam bm)) bo bq,aP⟩) λ(_,_)=>by kernel_rfl
def rl(t:bU)(b:ar):af (U aH×Int):=Lj (t,b)
def JX:bb [cu,aC] [.sl .val ae,aq]:=λx=>rl x.1 x.2
theorem R1:aN 39 [cu,aC] [.sl .val ae,aq] JX:=.de aqi λ_ _ _ a=>a
def XJ:bt:=⟨36,[(6,.sl .kv ae),(25,.sl .jM ai),(26,.int .i64),(27,.int .i64)],[],[],0,0,0,[],[]⟩
abbrev Ep:=U b7×U (U b7)×Int×Int
def sL{R:Type}(e:Ep->af R)(kx:bf->Ep->af R)(v:Ep):af R:=match v with|(c,b,d,a)=>cond (aa (a<d)) (ax (aU a (I b)) (ax (aa (I c+I (at' .jM b a)<=bJ)) (e ((c++(at' .jM b a)),b,d,(wr .i64 (a+1)))))) (kx (.exit 2) (c,b,d,a))
def XY:bt:=⟨36,[(0,.sl .jM ai),(3,.int .i64),(9,.sl .jM ai),(10,.int .i64),(11,.int .i64)],[],[],0,0,0,[],[]⟩
abbrev Ek:=U (U b7)×Int×U (U b7)×Int×Int
def sW{R:Type}(a:Ek->af R)(kx:bf->Ek->af R)(v:Ek):af R:=match v with|(v,v1,v2,aD,v4)=>cond (aa (v4<aD)) (ax (aU v4 (I v2)) (cond (aa ((wr .i64 (v1+(I (at' .jM v2 v4):Int)))<0)) (ah) (a (v,(wr .i64 (v1+(I (at' .jM v2 v4):Int))),v2,aD,(wr .i64 (v4+1)))))) (kx (.exit 0) (v,v1,v2,aD,v4))
def ab3(R:Type)(k:Nat):aM R:=bp [(70,p0 .kv)] [] [(3,cq k XY (sW)),(11,cq k XJ (sL))] []
def Mq(k:Nat)(x:au [.sl .jM ai]):af (au [.sl .kv ae]):=match x with
 |l=>
 aT (λb=>sW b (λe c=>match c with|(a',v6,_,_,_)=>match e with
  |.exit 0=>
  ax (aa ((0:Int)<=v6)&&aa (v6<=(2000000:Int))) (
   aT (λb=>sL b (λe c=>match c with|(a,_,_,_)=>match e with
   |.exit 2=>J a
   |_=>ah)) k ([],a',(I a':Int),0))
  |_=>ah)) k (l,0,l,(I l:Int),0)
theorem ark(k:Nat):aN 31 [.sl .jM ai] [.sl .kv ae] (Mq k):=bX (px:=ab3 _ k) (n:=2) Tryz.func31 rfl (λab H=>by have h0:bT ab (ab3 (au [.sl .kv ae]) k):=br H (dY (vA H Zj) bm) bo bq;have a:=cC H h0 (b:=b_ Tryz.f31 0) (k:=k) (n:=0) (s:=XY) (step:=sW) (λ_ _ _ (_,_,_,_,_)=>by kernel_rfl) aP;have c:=cC H h0 (b:=b_ Tryz.f31 1) (k:=k) (n:=0) (s:=XJ) (step:=sL) (λ_ _ _ (_,_,_,_)=>by kernel_rfl) aP;exact⟨h0,(cm (cm aP a) c)⟩) λ_=>by kernel_rfl
def Fq(l:U (U b7)):af (U b7):=Mq 100 l
def ady:bb [.sl .jM ai] [.sl .kv ae]:=λx=>Fq x
theorem akU:aN 31 [.sl .jM ai] [.sl .kv ae] ady:=.fin 0 ark λ_ _ _ a=>⟨100,a⟩
def E1:bt:=⟨3,[(1,.aI .tbl),(2,.sl .val ai)],[(0,.ptr 0 0)],[(0,.cells [aq,aC,.bool,aC,.sl .node ai,aC,.sl .stt ai,aC])],1,1,0,[],[]⟩
def EX:bt:=⟨1,[(0,.int .i64)],[],[(0,.cells [aq,aC,.bool,aC,.sl .node ai,aC,.sl .stt ai,aC])],1,1,0,[],[]⟩
abbrev ZL:=bU×U aH×Int×U UInt8×Bool×U UInt8×U bs×U UInt8×U bs×U UInt8
abbrev OI:=Int×Int×U UInt8×Bool×U UInt8×U bs×U UInt8×U bs×U UInt8
def Xn:bt:=⟨89,[(6,.int .i64),(73,.sl .kv ae),(74,.int .i64),(75,.int .i64)],[(0,.ptr 0 0)],[(0,.cells [aq,aC,.bool,aC,.sl .node ai,aC,.sl .stt ai,aC])],1,1,0,[],[]⟩
abbrev Ei:=Int×U b7×Int×Int×Int×U UInt8×Bool×U UInt8×U bs×U UInt8×U bs×U UInt8
def vW{R:Type}(s:Ei->af R)(kx:bf->Ei->af R)(v:Ei):af R:=match v with|(d,b,c,a,dX,fy,e,ie,f,g,h,i)=>cond (aa (a<c)) (ax (aU a (I b)) ((C9 ((at' .kv b a).key,(at' .kv b a).val,dX,fy,e,ie,f,g,h,i)).bind λ(j,k,l,m,n,o,p,q,r)=>cond (!decide (j=0)) (kx .ret (j,b,c,a,k,l,m,n,o,p,q,r)) (s (d,b,c,(wr .i64 (a+1)),k,l,m,n,o,p,q,r)))) (kx (.exit 3) (d,b,c,a,dX,fy,e,ie,f,g,h,i))
def Yy:bt:=⟨89,[(6,.int .i64),(7,.sl .kv ae),(45,.sl .kv ae),(46,.int .i64),(47,.int .i64)],[(0,.ptr 0 0)],[(0,.cells [aq,aC,.bool,aC,.sl .node ai,aC,.sl .stt ai,aC])],1,1,0,[],[]⟩
abbrev DB:=Int×U b7×U b7×Int×Int×Int×U UInt8×Bool×U UInt8×U bs×U UInt8×U bs×U UInt8
def wc{R:Type}(i:DB->af R)(kx:bf->DB->af R)(v:DB):af R:=match v with
 |(v,v1,v2,aD,v4,w,w1,w2,w3,c9,c7,dC,dO)=>
 cond (aa (v4<aD)) (
  ax (aU v4 (I v2)) (
  (oa ((at' .kv v2 v4).key,w,w1,w2,w3,c9,c7,dC,dO)).bind λ(_,k,l,a,b,c,d,e,f,g,h)=>
   cond (!decide (l=0)) (
   kx .ret (l,v1,v2,aD,v4,a,b,c,d,e,f,g,h)) (
   let j:=λ(p1:Bool)=>
    cond (p1) (
    kx .ret (180,v1,v2,aD,v4,a,b,c,d,e,f,g,h)) (
    cond (k) (
     kx .ret (181,v1,v2,aD,v4,a,b,c,d,e,f,g,h)) (
     i (v,v1,v2,aD,(wr .i64 (v4+1)),a,b,c,d,e,f,g,h)))
   cond (k) (
    j (aa (v4=0))) (
    j ai)))) (
  kx (.exit 0) (v,v1,v2,aD,v4,w,w1,w2,w3,c9,c7,dC,dO))
def ack(R:Type)(k:Nat):aM R:=bp [(9,bg OG),(26,bg JK),(31,bg ady),(32,fS zN zS oa),(33,fS J9 JR C9)] [] [(8,cq k Yy (wc)),(19,cq k Xn (vW))] []
def BF(k:Nat)(x:ZL):af (OI):=match x with
 |(t,r,a,b,c,d,e,f,g,h)=>
 (E_ t r).bind λ(x,ln)=>
  cond (!decide (ln=0)) (
  J (ln,a,b,c,d,e,f,g,h)) (
  (zo t r).bind λ(j_,_,kV,_)=>
   (Fq [j_.l,kV.l]).bind λnR=>
   aT (λaJ=>wc aJ (λe fu=>match fu with|(a',v6,_,_,_,i,j,m,n,o,p,q,s)=>match e with
    |.ret=>
    J (a',i,j,m,n,o,p,q,s)
    |.exit 0=>
    aT (λaJ=>vW aJ (λe fu=>match fu with|(a3,_,_,_,u,v,w,y,z,a0,a1,a2)=>match e with
     |.ret=>
     J (a3,u,v,w,y,z,a0,a1,a2)
     |.exit 3=>
     J (0,u,v,w,y,z,a0,a1,a2)
     |_=>ah)) k (a',v6,(I v6:Int),0,i,j,m,n,o,p,q,s)
    |_=>ah)) k (0,x,nR,(I nR:Int),0,a,b,c,d,e,f,g,h))
theorem asM(k:Nat):fb 13 E1 EX (BF k):=km (px:=ack _ k) (n:=2) Tryz.func13 rfl (λab H=>by have h0:bT ab (ack (OI) k):=br H (c1 H aaD (c1 H R8 (c1 H akU (eO H Ke (eO H akB bm))))) bo bq;have a:=cC H h0 (b:=b_ Tryz.f13 0) (k:=k) (n:=0) (s:=Yy) (step:=wc) (λ_ _ _ (_,_,_,_,_,_,_,_,_,_,_,_,_)=>by kernel_rfl) aP;have c:=cC H h0 (b:=b_ Tryz.f13 1) (k:=k) (n:=0) (s:=Xn) (step:=vW) (λ_ _ _ (_,_,_,_,_,_,_,_,_,_,_,_)=>by kernel_rfl) aP;exact⟨h0,(cm (cm aP a) c)⟩) λ(_,_,_,_,_,_,_,_,_,_)=>by kernel_rfl
def v9:ZL->af OI:=λx=>BF (5000) x
theorem aje:fb 13 E1 EX (v9):=gj.fin (ι:=Nat) (aQ:=E1) (bG:=EX) 0 (F:=λk=>BF k) (λk=>asM k) λ_ _ _ a=>⟨5000,a⟩
def DN:bt:=⟨3,[(1,.aI .tbl),(2,.sl .val ai)],[(0,.ptr 0 0)],[(0,.cells [aq,aC,.bool,aC,.sl .node ai,aC,.sl .stt ai,aC])],1,1,0,[],[]⟩
def DX:bt:=⟨3,[(0,.sl .val ae),(1,.bool),(2,.int .i64)],[],[(0,.cells [aq,aC,.bool,aC,.sl .node ai,aC,.sl .stt ai,aC])],1,1,0,[],[]⟩
abbrev acx:=bU×U aH×Int×U UInt8×Bool×U UInt8×U bs×U UInt8×U bs×U UInt8
abbrev E3:=U aH×Bool×Int×Int×U UInt8×Bool×U UInt8×U bs×U UInt8×U bs×U UInt8
def VG(R:Type):aM R:=bp [(52,bg xO)] [] [] []
noncomputable def S8(R:Type):aM R:=bp [(36,bg xM),(35,bg vL),(32,fS zN zS oa),(39,bg JX),(34,eY 80 400 (VG R) Tryz.f34)] [] [] []
def Hc(x:acx):af (E3):=match x with|(t,afX,a,b,c,d,e,f,g,h)=>(kX t).bind λx=>cond (!decide (x=0)) (J ([],ai,x,a,b,c,d,e,f,g,h)) ((mP [[114],t.name]).bind λv=>(lC [v,afX]).bind λ(u,w)=>cond (!decide (w=0)) (J ([],ai,2,a,b,c,d,e,f,g,h)) (cond (!decide ((I afX:Int)=(I t.key:Int))) (J ([],ai,2,a,b,c,d,e,f,g,h)) (cond (aa (200<(I u:Int))) (J ([],ai,0,a,b,c,d,e,f,g,h)) ((oa (u,a,b,c,d,e,f,g,h)).bind λ(y,z,p,q,r,s,i,j,k,l,m)=>cond (!decide (p=0)) (J ([],ai,p,q,r,s,i,j,k,l,m)) (cond (!z) (J ([],ai,p,q,r,s,i,j,k,l,m)) ((rl t y).bind λ(o,n)=>J (o,aa (n=0),n,q,r,s,i,j,k,l,m)))))))
theorem arf:fb 21 DN DX (Hc):=km (px:=S8 _) (n:=0) Tryz.func21 rfl (λab H=>by have h1:bT ab (VG (E3)):=br H (c1 H Hu bm) bo bq;have h0:bT ab (S8 (E3)):=br H (c1 H Bf (c1 H zZ (eO H Ke (c1 H R1 (dY (e8 H h1 Tryz.func34 rfl (n:=0) (aP)) bm))))) bo bq;exact⟨h0,aP⟩) λ(_,_,_,_,_,_,_,_,_,_)=>by kernel_rfl
def uu:acx->af E3:=λx=>Hc x
theorem aai:fb 21 DN DX (uu):=arf
def D9:bt:=⟨2,[(1,.aI .tbl)],[(0,.ptr 0 0)],[(0,.cells [aq,aC,.bool,aC,.sl .node ai,aC,.sl .stt ai,aC])],1,1,0,[],[]⟩
def D4:bt:=⟨2,[(0,.sl .ep ae),(1,.int .i64)],[],[(0,.cells [aq,aC,.bool,aC,.sl .node ai,aC,.sl .stt ai,aC])],1,1,0,[],[]⟩
abbrev abB:=bU×Int×U UInt8×Bool×U UInt8×U bs×U UInt8×U bs×U UInt8
abbrev E7:=U (U aH)×Int×Int×U UInt8×Bool×U UInt8×U bs×U UInt8×U bs×U UInt8
def Vw:bt:=⟨66,[(11,.sl .ep ae),(12,.bool),(43,.sl .kv ai),(44,.int .i64),(45,.int .i64)],[(3,.ptr 1 0)],[(0,.cells [aq,aC,.bool,aC,.sl .node ai,aC,.sl .stt ai,aC]),(1,.one (.aI .tbl))],2,1,0,[],[]⟩
abbrev Ir:=U (U aH)×Bool×U b7×Int×Int×Int×U UInt8×Bool×U UInt8×U bs×U UInt8×U bs×U UInt8×bU
def yB{R:Type}(c:Ir->af R)(kx:bf->Ir->af R)(v:Ir):af R:=match v with|(v,v1,v2,aD,v4,w,w1,w2,w3,c9,c7,dC,dO,dX)=>cond (aa (v4<aD)) (ax (aU v4 (I v2)) ((rl dX ((at' .kv v2 v4).val)).bind λ(b,a)=>cond (!decide (a=0)) (kx (.exit 0) (v, !decide (a=0),v2,aD,v4,w,w1,w2,w3,c9,c7,dC,dO,dX)) (ax (aa (I v+1<=bJ)) (c ((v++[b]), !decide (a=0),v2,aD,(wr .i64 (v4+1)),w,w1,w2,w3,c9,c7,dC,dO,dX))))) (kx (.exit 0) (v,v1,v2,aD,v4,w,w1,w2,w3,c9,c7,dC,dO,dX))
def V6(R:Type)(kK:Nat):aM R:=bp [(52,bg xO)] [] [] []
noncomputable def SK(R:Type)(k:Nat):aM R:=bp [(36,bg xM),(35,bg vL),(38,bg zR),(37,fS H7 Ii ud),(39,bg JX),(34,eY 80 400 (V6 R k) Tryz.f34)] [] [(11,cq k Vw (yB))] []
def tH(k:Nat)(x:abB):af (E7):=match x with
 |(t,a,b,c,d,e,f,g,h)=>
 (kX t).bind λx=>
  cond (!decide (x=0)) (
  J ([],x,a,b,c,d,e,f,g,h)) (
  (mP [[114],t.name]).bind λln=>
   (lC [ln]).bind λ(z,_)=>
   (rr z).bind λkV=>
    (ud (z,kV,9223372036854775807,a,b,c,d,e,f,g,h)).bind λ(pP,nR,nS,vo,vp,i,j,l,m,n)=>
    cond (!decide (nR=0)) (
     J ([],nR,nS,vo,vp,i,j,l,m,n)) (
     aT (λy=>yB y (λe fu=>match fu with|(a',v6,_,_,_,o,p,q,r,s,u,v,w,_)=>match e with
     |.exit 0=>
      cond (v6) (
      J ([],11,o,p,q,r,s,u,v,w)) (
      J (a',0,o,p,q,r,s,u,v,w))
     |_=>ah)) k ([],ai,pP,(I pP:Int),0,nS,vo,vp,i,j,l,m,n,t)))
theorem apd(k:Nat):fb 14 D9 D4 (tH k):=km (px:=SK _ k) (n:=1) Tryz.func14 rfl (λab H=>by have h1:bT ab (V6 (E7) k):=br H (c1 H Hu bm) bo bq;have h0:bT ab (SK (E7) k):=br H (c1 H Bf (c1 H zZ (c1 H M5 (eO H Ye (c1 H R1 (dY (e8 H h1 Tryz.func34 rfl (n:=0) (aP)) bm)))))) bo bq;have a:=cC H h0 (b:=b_ Tryz.f14 0) (k:=k) (n:=0) (s:=Vw) (step:=yB) (λ_ _ _ (_,_,_,_,_,_,_,_,_,_,_,_,_,_)=>by kernel_rfl) aP;exact⟨h0,(cm aP a)⟩) λ(_,_,_,_,_,_,_,_,_)=>by kernel_rfl
def r7:abB->af E7:=λx=>tH (5000) x
theorem ajr:fb 14 D9 D4 (r7):=gj.fin (ι:=Nat) (aQ:=D9) (bG:=D4) 0 (F:=λk=>tH k) (λk=>apd k) λ_ _ _ a=>⟨5000,a⟩
end
noncomputable section
def ash(R:Type):aM R:=bp [(211,bg Ob),(212,bg J6)] [] [] []
def K1(x:au [aC,.bool]):af (au [.sl .byte ae,aq]):=match x with
 |(n,leaf)=>
 (Fg n).bind λx=>
  cond (!x) (
  J ([],2)) (
  let a:=λ(p:Int)=>
   let j:=λ(p1:U UInt8) (p2:Int)=>
   (p_ p1).bind λb=>
    ax (aa (1+I b<=bJ)) (
    J (([(bj (p2:Int).toNat)]++b),0))
   cond (aa ((Int.tmod (I n:Int) 2)=1)) (
   ax (aU 0 (I n)) (
    ax (upto 1 (I n) (I n)) (
    j (n.drop (1:Int).toNat) (iW .u8 p (iW .u8 16 ((at' .byte n 0).toNat:Int)))))) (
   j n p)
  cond (leaf) (
   a 32) (
   a 0))
theorem aqF:aN 173 [aC,.bool] [.sl .byte ae,aq] (K1):=bX (px:=ash _) (n:=0) Tryz.func173 rfl (λ_ H=>⟨br H (c1 H acK (c1 H aac bm)) bo bq,aP⟩) λ(_,_)=>by kernel_rfl
def FA(n:ar)(leaf:Bool):af (ar×Int):=K1 (n,leaf)
def abS:bb [aC,.bool] [.sl .byte ae,aq]:=λx=>FA x.1 x.2
theorem asG:aN 173 [aC,.bool] [.sl .byte ae,aq] abS:=.de aqF λ_ _ _ a=>a
def WO:bt:=⟨93,[(3,.sl .byte ae),(6,.int .i64),(7,.sl .byte ae),(62,.sl .node ai),(63,.int .i64),(64,.int .i64)],[],[],40,40,200,[],[]⟩
abbrev Is:=U UInt8×Int×U UInt8×U bs×Int×Int
def uv{R:Type}(rf:bb [.aI .node] [.sl .byte ae])(a:Is->af R)(kx:bf->Is->af R)(v:Is):af R:=match v with|(v,v1,v2,aD,v4,a')=>cond (aa (a'<v4)) (ax (aU a' (I aD)) (cond (!decide ((at' .node aD a').kind=0)) (ax (aa (0<=(wr .i64 (15-a')))) ((rf (at' .node aD a')).bind λb=>ax (aa (I v2+I b<=bJ)) (a (v,(iW .i64 v1 (js .i64 1 (wr .i64 (15-a')))),(v2++b),aD,v4,(wr .i64 (a'+1)))))) (a (v,v1,v2,aD,v4,(wr .i64 (a'+1)))))) (kx (.exit 1) (v,v1,v2,aD,v4,a'))
def Vb(R:Type)(k:Nat)(rf:bb [.aI .node] [.sl .byte ae]):aM R:=bp [(173,bg abS),(96,bg JM),(83,bg rf)] [] [(16,cq k WO (uv rf))] []
noncomputable def SJ(R:Type)(k:Nat)(rf:bb [.aI .node] [.sl .byte ae]):aM R:=bp [(69,bg mL),(126,bg ac8),(127,eY 40 200 (Vb R k rf) Tryz.f127)] [] [] []
def nZ(k:Nat)(rf:bb [.aI .node] [.sl .byte ae])(x:au [.aI .node]):af (au [.sl .byte ae]):=match x with
 |n=>
 cond (aa (n.kind=4)) (
  (hO n.hash).bind λx=>
  J x) (
  let g:=λ(p:Bool)=>
  cond (p) (
   (FA n.path (aa (n.kind=1))).bind λ(m,_)=>
   (th m).bind λd=>
    ax (aa (1+I d<=bJ)) (
    cond (aa (n.kind=2)) (
     ax (aU 0 (I n.kids)) (
     (rf (at' .node n.kids 0)).bind λh=>
      ax (aa (I ([(bj ((wr .u8 n.kind):Int).toNat)]++d)+I h<=bJ)) (
      (rC [(([(bj ((wr .u8 n.kind):Int).toNat)]++d)++h)]).bind λo=>J o))) (
     (th n.val).bind λi=>
     ax (aa (I ([(bj ((wr .u8 n.kind):Int).toNat)]++d)+I i<=bJ)) (
      (rC [(([(bj ((wr .u8 n.kind):Int).toNat)]++d)++i)]).bind λa=>
      J a)))) (
   cond (aa (n.kind=3)) (
   let j:=λ(p1:U UInt8)=>
    aT (λf=>uv rf f (λe q=>match q with|(v6,bA,b6,_,_,_)=>match e with
    |.exit 1=>
     ax (aa (I v6+2<=bJ)) (
     ax (aa (I (v6++[(bj ((wr .u8 (cK .i64 bA 8)):Int).toNat),(bj ((wr .u8 bA):Int).toNat)])+I b6<=bJ)) (
      (rC [((v6++[(bj ((wr .u8 (cK .i64 bA 8)):Int).toNat),(bj ((wr .u8 bA):Int).toNat)])++b6)]).bind λb=>
      J b))
    |_=>ah)) k (p1,0,[],n.kids,(I n.kids:Int),0)
   cond (n.has) (
    (th n.val).bind λl=>
    ax (aa (2+I l<=bJ)) (
     j ([(bj ((wr .u8 n.kind):Int).toNat),(bj (1:Int).toNat)]++l))) (
    j [(bj ((wr .u8 n.kind):Int).toNat),(bj (0:Int).toNat)])) (
   (rC [[(bj ((wr .u8 n.kind):Int).toNat)]]).bind λc=>J c))
  cond (aa (n.kind=1)) (
  g (aa (n.kind=1))) (
  g (aa (n.kind=2))))
theorem ap2(k:Nat)(rf:bb [.aI .node] [.sl .byte ae])(c:aN 83 [.aI .node] [.sl .byte ae] rf):aN 83 [.aI .node] [.sl .byte ae] (nZ k rf):=bX (px:=SJ _ k rf) (n:=0) Tryz.func83 rfl (λab H=>by have h1:bT ab (Vb (au [.sl .byte ae]) k rf):=br H (c1 H asG (c1 H _P (c1 H c bm))) bo bq;have a:=cC H h1 (b:=b_ Tryz.f127 0) (k:=k) (n:=0) (s:=WO) (step:=uv rf) (λ_ _ _ (_,_,_,_,_,_)=>by kernel_rfl) aP;have h0:bT ab (SJ (au [.sl .byte ae]) k rf):=br H (c1 H ns (c1 H ajS (dY (e8 H h1 Tryz.func127 rfl (n:=1) (cm aP a)) bm))) bo bq;exact⟨h0,aP⟩) λ_=>by kernel_rfl
def NQ(n:bs):af ar:=aT (nZ 100) 500 n
def abO:bb [.aI .node] [.sl .byte ae]:=λx=>NQ x
theorem auf:aN 83 [.aI .node] [.sl .byte ae] abO:=.de (eH.jf (aw.ga Tryz.func83 rfl rfl) (λrf a=>ap2 100 rf a) 500) λ_ _ _ b=>b
def as0(R:Type):aM R:=bp [(68,bg Lx),(83,bg abO)] [] [] []
def QA(x:au [.aI .node]):af (au [.sl .byte ae]):=match x with|n=>(z4 n 0 ai).bind λx=>cond (!x) (J []) ((NQ n).bind λa=>J a)
theorem aof:aN 49 [.aI .node] [.sl .byte ae] (QA):=bX (px:=as0 _) (n:=0) Tryz.func49 rfl (λ_ H=>⟨br H (c1 H Vp (c1 H auf bm)) bo bq,aP⟩) λ_=>by kernel_rfl
def wD(n:bs):af ar:=QA n
def acB:bb [.aI .node] [.sl .byte ae]:=λx=>wD x
theorem atK:aN 49 [.aI .node] [.sl .byte ae] acB:=.de aof λ_ _ _ a=>a
def Nf:bt:=⟨1,[],[(0,.ptr 0 0)],[(0,.cells [aq,aC,.bool,aC,.sl .node ai,aC,.sl .stt ai,aC])],1,1,0,[],[]⟩
def Nk:bt:=⟨1,[(0,.sl .byte ae)],[],[(0,.cells [aq,aC,.bool,aC,.sl .node ai,aC,.sl .stt ai,aC])],1,1,0,[],[]⟩
abbrev acw:=Int×U UInt8×Bool×U UInt8×U bs×U UInt8×U bs×U UInt8
abbrev aaE:=U UInt8×Int×U UInt8×Bool×U UInt8×U bs×U UInt8×U bs×U UInt8
def asJ(R:Type):aM R:=bp [(49,bg acB)] [] [] []
def Qy(x:acw):af (aaE):=match x with|(a,b,c,d,e,f,g,h)=>(wD (bs.mk a b c d e f)).bind λx=>J (x,a,b,c,d,e,f,g,h)
theorem aqZ:fb 19 Nf Nk (Qy):=km (px:=asJ _) (n:=0) Tryz.func19 rfl (λ_ H=>⟨br H (c1 H atK bm) bo bq,aP⟩) λ(_,_,_,_,_,_,_,_)=>by kernel_rfl
def uA:acw->af aaE:=λx=>Qy x
theorem arO:fb 19 Nf Nk (uA):=aqZ
def Mx:bt:=⟨2,[(1,.sl .byte ai)],[(0,.ptr 0 0)],[(0,.cells [aq,aC,.bool,aC,.sl .node ai,aC,.sl .stt ai,aC])],1,1,0,[],[]⟩
def MB:bt:=⟨2,[(0,.bool),(1,.int .i64)],[],[(0,.cells [aq,aC,.bool,aC,.sl .node ai,aC,.sl .stt ai,aC])],1,1,0,[],[]⟩
abbrev acY:=U UInt8×Int×U UInt8×Bool×U UInt8×U bs×U UInt8×U bs×U UInt8
abbrev EE:=Bool×Int×Int×U UInt8×Bool×U UInt8×U bs×U UInt8×U bs×U UInt8
def Wo(R:Type):aM R:=bp [] [] [] []
noncomputable def SG(R:Type):aM R:=bp [(84,bg abJ),(72,eY 80 400 (Wo R) Tryz.f72)] [] [] []
def Ld(x:acY):af (EE):=match x with|(k,a,b,c,d,e,f,g,h)=>(FL (bs.mk a b c d e f) k).bind λ(x,j,_,i)=>cond (aa (i=0)) (cond (aa (i=80)) (J (j,i,x.kind,x.path,x.has,x.val,x.kids,x.hash,g,[])) (J (j,i,x.kind,x.path,x.has,x.val,x.kids,x.hash,g,h))) (cond (aa (i=80)) (J (j,i,a,b,c,d,e,f,g,[])) (J (j,i,a,b,c,d,e,f,g,h)))
theorem aoV:fb 50 Mx MB (Ld):=km (px:=SG _) (n:=0) Tryz.func50 rfl (λab H=>by have h1:bT ab (Wo (EE)):=br H bm bo bq;have h0:bT ab (SG (EE)):=br H (c1 H auO (dY (e8 H h1 Tryz.func72 rfl (n:=0) (aP)) bm)) bo bq;exact⟨h0,aP⟩) λ(_,_,_,_,_,_,_,_,_)=>by kernel_rfl
def Ac:acY->af EE:=λx=>Ld x
theorem arW:fb 50 Mx MB (Ac):=aoV
def EA:bt:=⟨3,[(1,.aI .tbl),(2,.sl .val ai)],[(0,.ptr 0 0)],[(0,.cells [aq,aC,.bool,aC,.sl .node ai,aC,.sl .stt ai,aC])],1,1,0,[],[]⟩
def Ew:bt:=⟨1,[(0,.int .i64)],[],[(0,.cells [aq,aC,.bool,aC,.sl .node ai,aC,.sl .stt ai,aC])],1,1,0,[],[]⟩
abbrev adN:=bU×U aH×Int×U UInt8×Bool×U UInt8×U bs×U UInt8×U bs×U UInt8
abbrev O3:=Int×Int×U UInt8×Bool×U UInt8×U bs×U UInt8×U bs×U UInt8
def XM:bt:=⟨68,[(6,.int .i64),(51,.sl .kv ae),(52,.int .i64),(53,.int .i64)],[(0,.ptr 0 0)],[(0,.cells [aq,aC,.bool,aC,.sl .node ai,aC,.sl .stt ai,aC])],1,1,0,[],[]⟩
abbrev DI:=Int×U b7×Int×Int×Int×U UInt8×Bool×U UInt8×U bs×U UInt8×U bs×U UInt8
def vS{R:Type}(j:DI->af R)(kx:bf->DI->af R)(v:DI):af R:=match v with|(v,v1,v2,aD,w,w1,w2,w3,c9,c7,dC,dO)=>cond (aa (aD<v2)) (ax (aU aD (I v1)) ((Ac ((at' .kv v1 aD).key,w,w1,w2,w3,c9,c7,dC,dO)).bind λ(_,a,b,c,d,e,f,g,h,i)=>cond (!decide (a=0)) (kx .ret (a,v1,v2,aD,b,c,d,e,f,g,h,i)) (j (v,v1,v2,(wr .i64 (aD+1)),b,c,d,e,f,g,h,i)))) (kx (.exit 0) (v,v1,v2,aD,w,w1,w2,w3,c9,c7,dC,dO))
def acy(R:Type)(k:Nat):aM R:=bp [(9,bg OG),(32,fS zN zS oa),(50,fS Mx MB Ac)] [] [(12,cq k XM (vS))] []
def xJ(k:Nat)(x:adN):af (O3):=match x with
 |(t,r,a,b,c,d,e,f,g,h)=>
 (E_ t r).bind λ(x,ln)=>
  cond (!decide (ln=0)) (
  J (ln,a,b,c,d,e,f,g,h)) (
  ax (aU 0 (I x)) (
   (oa ((at' .kv x 0).key,a,b,c,d,e,f,g,h)).bind λ(j_,lp,kV,u,v,w,y,z,i,j,l)=>
   cond (!decide (kV=0)) (
    J (kV,u,v,w,y,z,i,j,l)) (
    cond (!lp) (
    J (4,u,v,w,y,z,i,j,l)) (
    ax (aU 0 (I x)) (
     cond (!decide (j_=((at' .kv x 0).val))) (
     J (4,u,v,w,y,z,i,j,l)) (
     aT (λaJ=>vS aJ (λe fu=>match fu with|(v4,_,_,_,b6,cw,m,n,o,p,q,s)=>match e with
      |.ret=>
      J (v4,b6,cw,m,n,o,p,q,s)
      |.exit 0=>
      J (0,b6,cw,m,n,o,p,q,s)
      |_=>ah)) k (0,x,(I x:Int),0,u,v,w,y,z,i,j,l)))))))
theorem auJ(k:Nat):fb 22 EA Ew (xJ k):=km (px:=acy _ k) (n:=1) Tryz.func22 rfl (λab H=>by have h0:bT ab (acy (O3) k):=br H (c1 H aaD (eO H Ke (eO H arW bm))) bo bq;have a:=cC H h0 (b:=b_ Tryz.f22 0) (k:=k) (n:=0) (s:=XM) (step:=vS) (λ_ _ _ (_,_,_,_,_,_,_,_,_,_,_,_)=>by kernel_rfl) aP;exact⟨h0,(cm aP a)⟩) λ(_,_,_,_,_,_,_,_,_,_)=>by kernel_rfl
def sY:adN->af O3:=λx=>xJ (5000) x
theorem alF:fb 22 EA Ew (sY):=gj.fin (ι:=Nat) (aQ:=EA) (bG:=Ew) 0 (F:=λk=>xJ k) (λk=>auJ k) λ_ _ _ a=>⟨5000,a⟩
end
theorem abX{R:Type}{kx:bf->Bu->af R}{p:ar}(b:I p<=100000):∀(k i:Nat) (acc:ar),I p-i<k->I acc<=i->∃s j,I s<=I acc+(I p-i)/\aT (λa=>qC a kx) k (p,acc,((i+1:Nat):Int))=kx (.exit 0) (p,s,j)
 |0,_,_,h,_=>by omega
 |k+1,i,acc,aV,cI=>by
  rw[cQ];by_cases c:i+1<I p
  .have c1:aa (((i+1:Nat):Int)<(I p:Int))=true:=aY ag;have w1:wr .i64 (((i+1:Nat):Int)-1)=(i:Int):=gg
   have w2:wr .i64 (((i+1:Nat):Int)+2)=((i+2+1:Nat):Int):=gg
   have d:aa (I acc+1<=bJ)=true:=aY gW;obtain⟨s,j,f,e⟩:=abX (kx:=kx) b k (i+2) (acc++[(bj ((iW .u8 (js .u8 ((at' .byte p (i:Int)).toNat:Int) 4) ((at' .byte p ((i+1:Nat):Int)).toNat:Int)):Int).toNat)]) ag oU;refine⟨s,j,by simp only[dc,List.length_singleton]at f;omega,?_⟩;simp only[qC,c1,a8,w1,bY (show i<I p by omega),bY c,ax,d,w2];exact e
  .have c1:aa (((i+1:Nat):Int)<(I p:Int))=false:=bl ag;refine⟨acc,((i+1:Nat):Int),by omega,?_⟩;simp only[qC,c1,a_]
theorem alL{p:ar}(c:I p<=1900)(k:Nat)(d : 1900<k):∃s,I s<=I p/\He k p=J s:=by
 obtain⟨s,j,a,e⟩:=abX (kx:=λe b=>match b with|(_,v4,_)=>match e with
  |.exit 0=>
  J v4
  |_=>ah) (p:=p) ag k 0 [] ag (b2 _)
 exact⟨s,by simp only[hn]at a;omega,e⟩
theorem apm{p:ar}(a:I p<=1900):∃s,I s<=I p/\p_ p=J s:=alL a 2000 ag
theorem Xg{p:ar}{leaf:Bool}(b:I p<=1900)(h:aE p):∃s,I s<=1+I p/\FA p leaf=J (s,0):=by
 have main:∀(p2:Int) (q:ar),I q<=I p->∃s,I s<=1+I p/\((p_ q).bind λa=>ax (aa (1+I a<=bJ)) (J (([(bj (p2:Int).toNat)]++a),(0:Int))))=J (s,0):=λp2 q f=>by obtain⟨s,g,e⟩:=apm (p:=q) ag;have c:aa (1+I s<=bJ)=true:=aY gW;refine⟨[(bj (p2:Int).toNat)]++s,by simp only[dc,List.length_singleton];omega,?_⟩;rw[e];simp only[bZ,c,ax,a8]
 have two:∀p2:Int,∃s,I s<=1+I p/\cond (aa ((Int.tmod (I p:Int) 2)=1)) (ax (aU 0 (I p)) (ax (upto 1 (I p) (I p)) ((p_ (p.drop (1:Int).toNat)).bind λa=>ax (aa (1+I a<=bJ)) (J (([(bj ((iW .u8 p2 (iW .u8 16 ((at' .byte p 0).toNat:Int))):Int).toNat)]++a),(0:Int)))))) ((p_ p).bind λa=>ax (aa (1+I a<=bJ)) (J (([(bj (p2:Int).toNat)]++a),(0:Int))))=J (s,0):=λp2=>by
  cases an:aa ((Int.tmod (I p:Int) 2)=1)with
  |false=>exact main p2 p (b2 _)
  |true=>
   have h1 : 0<I p:=by have:=of_decide_eq_true an;have e:Int.tmod (I p:Int) 2=((I p % 2:Nat):Int):=rfl;omega
   have i1:aU 0 (I p)=true:=Gt
   have d:upto 1 (I p:Int) (I p)=true:=Gg
   simp only[a8,i1,d,ax];exact main _ (p.drop (1:Int).toNat) (by rw[iu];omega)
 simp only[FA,K1,aa2 b h,bZ,dj,a_];cases leaf with|true=>exact two 32|false=>exact two 0
theorem J5{R:Type}{rf:bb [.aI .node] [.sl .byte ae]}{kx:bf->Is->af R}{k:Nat->T}{v:ar}(a:∀i,i<16->∃s,I s=32/\rf (k i).node=J s):∀(f i:Nat) (m:Int) (acc:ar),i<=16->16-i<f->I acc<=32*i->∃aR s,I s<=512/\aT (λd=>uv rf d kx) f (v,m,acc,db k,16,(i:Int))=kx (.exit 1) (v,aR,s,db k,16,16)
 |0,_,_,_,_,h,_=>by omega
 |f+1,i,m,acc,hi,bO,cI=>by
  rw[cQ];by_cases b:i<16
  .have g:i<I (db k):=by rw[hf];exact b
   have c1:aa ((i:Int)<16)=true:=aY ag;have w1:wr .i64 ((i:Int)+1)=((i+1:Nat):Int):=gg
   have w2:wr .i64 (15-(i:Int))=15-(i:Int):=ht w7;have c2:aa (0<=15-(i:Int))=true:=aY ag;obtain⟨s,l,e⟩:=a i b;have j:aa (I acc+I s<=bJ)=true:=aY gW;simp only[uv,c1,a8,bY g,ax,cb (c:=.node) g,o4,Jo,w1,w2,c2,e,bZ,j];cases (k i).e1 with|true=>exact J5 a f (i+1) m acc ag ag ag|false=>exact J5 a f (i+1) _ (acc++s) ag ag tA
  .obtain rfl:i=16:=ag
   have c1:aa (((16:Nat):Int)<16)=false:=rfl;refine⟨m,acc,by omega,?_⟩;simp only[uv,c1,a_];rfl
section
variable {rf:bb [.aI .node] [.sl .byte ae]}{d m:Nat}
theorem avO:∃s,I s=32/\nZ m rf T.no.node=J s:=by obtain⟨s,a,e⟩:=DS (b:=[(bj ((wr .u8 0):Int).toNat)]) (by simp);refine⟨s,a,?_⟩;simp only[nZ,T.node,iq,show ¬((0:Int)=4) by omega,show ¬((0:Int)=1) by omega,show ¬((0:Int)=2) by omega,show ¬((0:Int)=3) by omega,decide_false,a_,e,bZ]
theorem avN{q u:ar}(h:(T.cv q u).cz d):∃s,I s=32/\nZ m rf (T.cv q u).node=J s:=by have i:=h.2.1;have j:=h.2.2.2;obtain⟨x,k,ex⟩:=Xg (leaf:=ae) (p:=q) ag h.1;have eO:=(mc 5 (I x)).2;have l:=(mc 5 (I u)).2;have vx:=Br (s:=x) ag;have a:=Br (s:=u) ag;have c:aa (1+I (ee 5 (I x)++x)<=bJ)=true:=aY PL;have f:aa (I ([(bj ((wr .u8 1):Int).toNat)]++(ee 5 (I x)++x))+I (ee 5 (I u)++u)<=bJ)=true:=aY PC;obtain⟨s,g,e⟩:=DS (b:=([(bj ((wr .u8 1):Int).toNat)]++(ee 5 (I x)++x))++(ee 5 (I u)++u)) oU;refine⟨s,g,?_⟩;simp only[nZ,T.node,iq,ki,mD,show ¬((1:Int)=4) by omega,show ¬((1:Int)=2) by omega,decide_false,decide_true,a_,a8,ex,vx,a,bZ,c,f,ax,e]
theorem amb{q:ar}{k:T}(h:(T.dr q k).cz d)(a:∃z,I z=32/\rf k.node=J z):∃s,I s=32/\nZ m rf (T.dr q k).node=J s:=by have h4:=cz.le h.2.2.2;have c:I q≠0:=λe=>h.2.1 (List.length_eq_zero_iff.1 e);obtain⟨x,n,ex⟩:=Xg (leaf:=ai) (p:=q) ag h.1;have eO:=(mc 5 (I x)).2;have vx:=Br (s:=x) ag;obtain⟨z,a,f⟩:=a;have k0:at' .node [k.node] 0=k.node:=rfl;have g:aU 0 (I [k.node])=true:=rfl;have i:aa (1+I (ee 5 (I x)++x)<=bJ)=true:=aY PL;have j:aa (I ([(bj ((wr .u8 2):Int).toNat)]++(ee 5 (I x)++x))+I z<=bJ)=true:=aY PC;obtain⟨s,l,e⟩:=DS (b:=([(bj ((wr .u8 2):Int).toNat)]++(ee 5 (I x)++x))++z) oU;refine⟨s,l,?_⟩;simp only[nZ,T.node,iq,ki,g9,show ¬((2:Int)=4) by omega,show ¬((2:Int)=1) by omega,decide_false,decide_true,a_,a8,ex,vx,bZ,i,k0,g,f,j,ax,e]
theorem avH{o:af ar}{k:Nat->T}(hm : 20<m)(h:(T.cY o k).cz d)(n:∀i,i<16->∃s,I s=32/\rf (k i).node=J s):∃s,I s=32/\nZ m rf (T.cY o k).node=J s:=by
 have f:(I (db k):Int)=16:=by rw[hf];rfl
 have go:∀p1:ar,I p1<=4100->∃s,I s=32/\aT (λg=>uv rf g (λe j=>match j with|(v6,bA,b6,_,_,_)=>match e with
  |.exit 1=>
   ax (aa (I v6+2<=bJ)) (
   ax (aa (I (v6++[(bj ((wr .u8 (cK .i64 bA 8)):Int).toNat),(bj ((wr .u8 bA):Int).toNat)])+I b6<=bJ)) (
    (rC [((v6++[(bj ((wr .u8 (cK .i64 bA 8)):Int).toNat),(bj ((wr .u8 bA):Int).toNat)])++b6)]).bind λc=>
    J c))
  |_=>ah)) m (p1,0,[],db k,16,0)=J s:=λp1 p=>by
  obtain⟨aR,a,q,r⟩:=J5 (kx:=λe j=>match j with|(v6,bA,b6,_,_,_)=>match e with
   |.exit 1=>
    ax (aa (I v6+2<=bJ)) (
    ax (aa (I (v6++[(bj ((wr .u8 (cK .i64 bA 8)):Int).toNat),(bj ((wr .u8 bA):Int).toNat)])+I b6<=bJ)) (
     (rC [((v6++[(bj ((wr .u8 (cK .i64 bA 8)):Int).toNat),(bj ((wr .u8 bA):Int).toNat)])++b6)]).bind λc=>
     J c))
   |_=>ah) (v:=p1) n m 0 0 [] (cp _) ag (by simp)
  have l:aa (I p1+2<=bJ)=true:=aY gW;have t:aa (I (p1++[(bj ((wr .u8 (cK .i64 aR 8)):Int).toNat),(bj ((wr .u8 aR):Int).toNat)])+I a<=bJ)=true:=aY (by simp only[bJ,dc,dm,hn];omega);obtain⟨s,w,e⟩:=DS (b:=(p1++[(bj ((wr .u8 (cK .i64 aR 8)):Int).toNat),(bj ((wr .u8 aR):Int).toNat)])++a) (by simp only[dc,dm,hn];omega);refine⟨s,w,r.trans ?_⟩;simp only[l,t,ax,a8,e,bZ]
 simp only[nZ,n6,iq,nf,mD,g9,show ¬((3:Int)=4) by omega,show ¬((3:Int)=1) by omega,show ¬((3:Int)=2) by omega,decide_false,decide_true,a_,a8,f];cases o with|none=>simp only[Option.isSome_none,a_];exact go _ (by simp)|some u=>have y:=(h.2.1 u rfl).2;have z:=(mc 5 (I u)).2;have x:=Br (s:=u) ag;have l:aa (2+I (ee 5 (I u)++u)<=bJ)=true:=aY PL;simp only[Option.isSome_some,Option.getD_some,a8,x,bZ,l,ax];exact go _ (by simp only[dc,dm,hn];omega)
end
theorem Js{m:Nat}(hm : 20<m):∀(f:Nat) (t:T) (d:Nat),t.cz d->401<=f+d->∃s,I s=32/\aT (nZ m) f t.node=J s
 |0,t,d,h,bO=>by have:=cz.le h;omega
 |f+1,t,d,h,bO=>by rw[cQ];cases t with|no=>exact avO|cv q u=>exact avN h|dr q k=>have a:I q≠0:=λe=>h.2.1 (List.length_eq_zero_iff.1 e);exact amb h (Js hm f k (d+I q) h.2.2.2 ag)|cY o k=>exact avH hm h λi hi=>Js hm f (k i) (d+1) (h.2.2.2 i hi) ag
theorem ajh(t:T)(h:t.cz 0):∃s,I s=32/\NQ t.node=J s:=Js (m:=100) ag 500 t 0 h ag
def Pq(n:bs):ar:=(wD n).getD []
theorem aja{t:T}(h:t.cz 0):wD t.node=J (Pq t.node):=by
 obtain⟨s,_,e⟩:=ajh t h;have aj:z4 t.node 0 ai=J true:=HU ai 500 t 0 h ag;have a:wD t.node=J s:=by simp only[wD,QA,aj,bZ,e,dj,a_]
 rw[Pq,a];rfl
noncomputable section
def WT:bt:=⟨40,[(1,.sl .val ai),(2,.sl .str ai),(6,.sl .val ae),(7,.int .i64),(8,.sl .val ae),(9,.int .i64)],[(3,.ptr 0 0)],[(0,.one (.aI .tbl))],1,0,0,[],[]⟩
abbrev L7:=U aH×U ar×U aH×Int×U aH×Int×bU
def zU{R:Type}(a:L7->af R)(kx:bf->L7->af R)(v:L7):af R:=match v with|(v,v1,v2,aD,v4,a',w)=>cond (aa (a'<(I v1:Int))) (ax (aU a' (I v1)) (cond (aa ((oL w.al (at' .str v1 a'))<0)) (kx .ret (v,v1,[],150,v4,a',w)) (ax (aU (oL w.al (at' .str v1 a')) (I v)) (ax (aa (I v4+1<=bJ)) (a (v,v1,v2,aD,(v4++[(at' .val v (oL w.al (at' .str v1 a')))]),(wr .i64 (a'+1)),w)))))) (kx (.exit 0) (v,v1,v2,aD,v4,a',w))
def Ta(R:Type)(k:Nat):aM R:=bp [(40,bg Aq)] [] [(5,cq k WT (zU))] []
def Hg(k:Nat)(x:au [cu,dA,eU]):af (au [.sl .val ae,aq]):=match x with
 |(t,r,names)=>
 cond (!decide ((I r:Int)=(I t.al:Int))) (
  J ([],2)) (
  aT (λb=>zU b (λe c=>match c with|(_,_,b6,cw,a,_,_)=>match e with
  |.ret=>J (b6,cw)
  |.exit 0=>J (a,0)
  |_=>ah)) k (r,names,[],0,[],0,t))
theorem apj(k:Nat):aN 15 [cu,dA,eU] [.sl .val ae,aq] (Hg k):=bX (px:=Ta _ k) (n:=1) Tryz.func15 rfl (λab H=>by have h0:bT ab (Ta (au [.sl .val ae,aq]) k):=br H (c1 H Jj bm) bo bq;have a:=cC H h0 (b:=b_ Tryz.f15 0) (k:=k) (n:=0) (s:=WT) (step:=zU) (λ_ _ _ (_,_,_,_,_,_,_)=>by kernel_rfl) aP;exact⟨h0,(cm aP a)⟩) λ(_,_,_)=>by kernel_rfl
def zt(t:bU)(r:U aH)(l:U ar):af (U aH×Int):=Hg 5000 (t,r,l)
def Kj:bb [cu,dA,eU] [.sl .val ae,aq]:=λx=>zt x.1 x.2.1 x.2.2
theorem _3:aN 15 [cu,dA,eU] [.sl .val ae,aq] Kj:=.fin 0 apj λ_ _ _ a=>⟨5000,a⟩
def ai3(R:Type):aM R:=bp [] [] [] []
def Ho(x:au [aC,aC]):af (au [.bool]):=match x with|(a,b)=>J (aa (a=b))
theorem arC:aN 20 [aC,aC] [.bool] (Ho):=bX (px:=ai3 _) (n:=0) Tryz.func20 rfl (λ_ H=>⟨br H bm bo bq,aP⟩) λ(_,_)=>by kernel_rfl
def zz(a b:ar):af Bool:=Ho (a,b)
def abe:bb [aC,aC] [.bool]:=λx=>zz x.1 x.2
theorem atT:aN 20 [aC,aC] [.bool] abe:=.de arC λ_ _ _ a=>a
def Wj:bt:=⟨52,[(1,.sl .ep ai),(5,.int .i64),(6,.int .i64),(7,.int .i64)],[],[],0,0,0,[],[]⟩
abbrev H8:=U (U aH)×Int×Int×Int
def zM{R:Type}(a:H8->af R)(kx:bf->H8->af R)(v:H8):af R:=match v with|(aD,v4,a',v6)=>ax (aU a' (I aD)) (cond (aa (v6<(I (at' .ep aD a'):Int))) (ax (aU a' (I aD)) (ax (aU v6 (I (at' .ep aD a'))) (a (aD,(wr .i64 (v4+(wr .i64 (Int.tdiv (I ((at' .val (at' .ep aD a') v6).s):Int) 20)))),a',(wr .i64 (v6+1)))))) (kx (.exit 2) (aD,v4,a',v6)))
def Vh:bt:=⟨52,[(1,.sl .ep ai),(5,.int .i64),(6,.int .i64)],[],[],0,0,0,[],[]⟩
abbrev HW:=U (U aH)×Int×Int
def uJ{R:Type}(k:Nat)(a:HW->af R)(kx:bf->HW->af R)(v:HW):af R:=match v with
 |(v,v1,v2)=>
 cond (aa (v2<(I v:Int))) (
  ax (aU v2 (I v)) (
  aT (λrc=>zM rc (λe b=>match b with|(bA,b6,cw,_)=>match e with
   |.exit 2=>
   a (bA,b6,(wr .i64 (cw+1)))
   |_=>ah)) k (v,(wr .i64 ((wr .i64 (v1+1))+(I (at' .ep v v2):Int))),v2,0))) (
  kx (.exit 0) (v,v1,v2))
def Sg(R:Type)(k:Nat):aM R:=bp [(23,bg L9)] [] [(7,cq k Wj (zM)),(3,cq k Vh (uJ k))] []
def G1(k:Nat)(x:au [cu,.sl .ep ai]):af (au [.bool]):=match x with
 |(t,l)=>
 aT (λc=>uJ k c (λe d=>match d with|(a,b,_)=>match e with
  |.exit 0=>
  cond (aa (250<=b)) (
   J ae) (
   J (aa (24<(I a:Int))))
  |_=>ah)) k (l,(Kk t 200),0)
theorem aq1(k:Nat):aN 7 [cu,.sl .ep ai] [.bool] (G1 k):=bX (px:=Sg _ k) (n:=2) Tryz.func7 rfl (λab H=>by have h0:bT ab (Sg (au [.bool]) k):=br H (c1 H anW bm) bo bq;have a:=cC H h0 (b:=ss (b_ Tryz.f7 0) 0) (k:=k) (n:=0) (s:=Wj) (step:=zM) (λ_ _ _ (_,_,_,_)=>by kernel_rfl) aP;have c:=cC H h0 (b:=b_ Tryz.f7 0) (k:=k) (n:=1) (s:=Vh) (step:=uJ k) (λ_ _ _ (_,_,_)=>by kernel_rfl) (cm aP a);exact⟨h0,(cm (cm aP c) a)⟩) λ(_,_)=>by kernel_rfl
def NR(t:bU)(l:U (U aH)):af Bool:=G1 2000000 (t,l)
def aa7:bb [cu,.sl .ep ai] [.bool]:=λx=>NR x.1 x.2
theorem att:aN 7 [cu,.sl .ep ai] [.bool] aa7:=.fin 0 aq1 λ_ _ _ a=>⟨2000000,a⟩
end
noncomputable section
def Wr:bt:=⟨51,[(0,.sl .byte ai),(1,.int .i64),(4,.str),(5,.int .i64),(6,.sl .byte ae),(7,.int .i64)],[],[],0,0,0,[],[]⟩
abbrev HR:=U UInt8×Int×ar×Int×U UInt8×Int
def uR{R:Type}(a:HR->af R)(kx:bf->HR->af R)(v:HR):af R:=match v with
 |(v,v1,v2,aD,v4,a')=>
 cond (aa (a'<(I v:Int))) (
  ax (aU a' (I v)) (
  let j:=λ(p:Int)=>
   ax (aa (I v4+1<=bJ)) (
   cond (!decide ((hP (aH.mk v1 0 (v4++[(bj (((at' .byte v a').toNat:Int):Int).toNat)])))=0)) (
    kx .ret (v,v1,[],(-1),(v4++[(bj (((at' .byte v a').toNat:Int):Int).toNat)]),p)) (
    a (v,v1,v2,aD,(v4++[(bj (((at' .byte v a').toNat:Int):Int).toNat)]),(wr .i64 (p+1)))))
  cond (aa (((at' .byte v a').toNat:Int)=0)) (
   cond (aa ((wr .i64 (a'+1))=(I v:Int))) (
   kx .ret (v,v1,[],0,v4,(wr .i64 (a'+1)))) (
   ax (aU (wr .i64 (a'+1)) (I v)) (
    cond (aa (((at' .byte v (wr .i64 (a'+1))).toNat:Int)=1)) (
    kx .ret (v,v1,v4,(wr .i64 ((wr .i64 (a'+1))+1)),v4,(wr .i64 (a'+1)))) (
    ax (aU (wr .i64 (a'+1)) (I v)) (
     cond (!decide (((at' .byte v (wr .i64 (a'+1))).toNat:Int)=255)) (
     kx .ret (v,v1,[],(-1),v4,(wr .i64 (a'+1)))) (
     j (wr .i64 (a'+1)))))))) (
   j a'))) (
  kx (.exit 0) (v,v1,v2,aD,v4,a'))
def _X(R:Type)(k:Nat):aM R:=bp [(80,bg Pi)] [] [(3,cq k Wr (uR))] []
def Hp(k:Nat)(x:au [aC,aq]):af (au [.str,aq]):=match x with
 |(b,kind)=>
 aT (λa=>uR a (λe c=>match c with|(_,_,b6,cw,_,_)=>match e with
  |.ret=>
  J (b6,cw)
  |.exit 0=>
  J ([],0)
  |_=>ah)) k (b,kind,[],0,[],0)
theorem arG(k:Nat):aN 125 [aC,aq] [.str,aq] (Hp k):=bX (px:=_X _ k) (n:=1) Tryz.func125 rfl (λab H=>by have h0:bT ab (_X (au [.str,aq]) k):=br H (c1 H BC bm) bo bq;have a:=cC H h0 (b:=b_ Tryz.f125 0) (k:=k) (n:=0) (s:=Wr) (step:=uR) (λ_ _ _ (_,_,_,_,_,_)=>by kernel_rfl) aP;exact⟨h0,(cm aP a)⟩) λ(_,_)=>by kernel_rfl
def O7(b:ar)(kind:Int):af (ar×Int):=Hp 2000 (b,kind)
def abD:bb [aC,aq] [.str,aq]:=λx=>O7 x.1 x.2
theorem aib:aN 125 [aC,aq] [.str,aq] abD:=.fin 0 arG λ_ _ _ a=>⟨2000,a⟩
def XT:bt:=⟨80,[(5,.int .u64),(43,.sl .byte ai),(44,.int .i64),(45,.int .i64)],[(2,.ptr 0 0),(4,.ptr 1 0)],[(0,.one (.aI .val)),(1,.one (.aI .val))],2,0,0,[],[]⟩
abbrev D6:=Int×U UInt8×Int×Int×aH×aH
def wb{R:Type}(a:D6->af R)(kx:bf->D6->af R)(v:D6):af R:=match v with|(v,v1,v2,aD,w,w1)=>cond (aa (aD<v2)) (ax (aU aD (I v1)) (a ((iW .u64 (js .u64 v 8) (wr .u64 ((at' .byte v1 aD).toNat:Int))),v1,v2,(wr .i64 (aD+1)),w,w1))) (kx (.exit 1) (v,v1,v2,aD,w,w1))
def acM(R:Type)(k:Nat):aM R:=bp [] [(125,fa abD)] [(17,cq k XT (wb))] []
def rP(k:Nat)(x:au [aC]):af (au [dt,aq]):=match x with
 |b=>
 ax (aU 0 (I b)) (
  cond (aa ((wr .i64 ((at' .byte b 0).toNat:Int))=1)) (
  J ((aH.mk (wr .i64 ((at' .byte b 0).toNat:Int)) 0 []),1)) (
  cond (aa ((wr .i64 ((at' .byte b 0).toNat:Int))=2)) (
   cond (aa ((I b:Int)=1)) (
   J ((aH.mk (wr .i64 ((at' .byte b 0).toNat:Int)) 0 []),0)) (
   ax (aU 1 (I b)) (
    cond (aa (1<(wr .i64 ((at' .byte b 1).toNat:Int)))) (
    J ((aH.mk (wr .i64 ((at' .byte b 0).toNat:Int)) (wr .i64 ((at' .byte b 1).toNat:Int)) []),(-1))) (
    J ((aH.mk (wr .i64 ((at' .byte b 0).toNat:Int)) (wr .i64 ((at' .byte b 1).toNat:Int)) []),2))))) (
   cond (aa ((wr .i64 ((at' .byte b 0).toNat:Int))=3)) (
   cond (aa ((I b:Int)<9)) (
    J ((aH.mk (wr .i64 ((at' .byte b 0).toNat:Int)) 0 []),0)) (
    ax (upto 1 9 (I b)) (
    aT (λa=>wb a (λe d=>match d with|(v4,_,_,_,_,cw)=>match e with
     |.exit 1=>
     J ((aH.mk cw.kind (wr .i64 (gx .u64 v4 9223372036854775808)) cw.s),9)
     |_=>ah)) k (0,(cut b 1 9),(I (cut b 1 9):Int),0,(aH.mk 0 0 []),(aH.mk (wr .i64 ((at' .byte b 0).toNat:Int)) 0 []))))) (
   let j:=λ(p:Bool)=>
    cond (p) (
    ax (upto 1 (I b) (I b)) (
     (O7 (b.drop (1:Int).toNat) (wr .i64 ((at' .byte b 0).toNat:Int))).bind λ(x,c)=>
     cond (aa (0<c)) (
      J ((aH.mk (wr .i64 ((at' .byte b 0).toNat:Int)) 0 x),(wr .i64 (c+1)))) (
      J ((aH.mk (wr .i64 ((at' .byte b 0).toNat:Int)) 0 x),c)))) (
    J ((aH.mk (wr .i64 ((at' .byte b 0).toNat:Int)) 0 []),(-1)))
   cond (aa ((wr .i64 ((at' .byte b 0).toNat:Int))=4)) (
    j (aa ((wr .i64 ((at' .byte b 0).toNat:Int))=4))) (
    j (aa ((wr .i64 ((at' .byte b 0).toNat:Int))=5)))))))
theorem asP(k:Nat):aN 82 [aC] [dt,aq] (rP k):=bX (px:=acM _ k) (n:=1) Tryz.func82 rfl (λab H=>by have h0:bT ab (acM (au [dt,aq]) k):=br H bm (bd H aib bo) bq;have a:=cC H h0 (b:=b_ Tryz.f82 0) (k:=k) (n:=0) (s:=XT) (step:=wb) (λ_ _ _ (_,_,_,_,_,_)=>by kernel_rfl) aP;exact⟨h0,(cm aP a)⟩) λ_=>by kernel_rfl
def Fa(b:ar):af (aH×Int):=rP 2000 b
def adG:bb [aC] [dt,aq]:=λx=>Fa x
theorem alj:aN 82 [aC] [dt,aq] adG:=.fin 0 asP λ_ _ _ a=>⟨2000,a⟩
def XB:bt:=⟨33,[(0,.sl .byte ai),(2,.sl .val ae),(3,.int .i64),(4,.sl .val ae),(5,.int .i64)],[],[],0,0,0,[],[]⟩
abbrev DV:=U UInt8×U aH×Int×U aH×Int
def vI{R:Type}(b:DV->af R)(kx:bf->DV->af R)(v:DV):af R:=match v with|(v,v1,v2,aD,a)=>cond (aa (a<(I v:Int))) (ax (upto a (I v) (I v)) ((Fa (v.drop (a:Int).toNat)).bind λ(x,c)=>cond (aa (0<c)) (ax (aa (I aD+1<=bJ)) (b (v,v1,v2,(aD++[x]),(wr .i64 (a+c))))) (cond (aa (c=0)) (kx .ret (v,[],10,aD,a)) (kx .ret (v,[],11,aD,a))))) (kx (.exit 0) (v,v1,v2,aD,a))
def abA(R:Type)(k:Nat):aM R:=bp [(82,bg adG)] [] [(3,cq k XB (vI))] []
def HK(k:Nat)(x:au [aC]):af (au [.sl .val ae,aq]):=match x with
 |b=>
 aT (λa=>vI a (λe c=>match c with|(_,v6,bA,b6,_)=>match e with
  |.ret=>
  J (v6,bA)
  |.exit 0=>
  J (b6,0)
  |_=>ah)) k (b,[],0,[],0)
theorem air(k:Nat):aN 48 [aC] [.sl .val ae,aq] (HK k):=bX (px:=abA _ k) (n:=1) Tryz.func48 rfl (λab H=>by have h0:bT ab (abA (au [.sl .val ae,aq]) k):=br H (c1 H alj bm) bo bq;have a:=cC H h0 (b:=b_ Tryz.f48 0) (k:=k) (n:=0) (s:=XB) (step:=vI) (λ_ _ _ (_,_,_,_,_)=>by kernel_rfl) aP;exact⟨h0,(cm aP a)⟩) λ_=>by kernel_rfl
def Ay(b:ar):af (U aH×Int):=HK 2000 b
def adE:bb [aC] [.sl .val ae,aq]:=λx=>Ay x
theorem aj9:aN 48 [aC] [.sl .val ae,aq] adE:=.fin 0 air λ_ _ _ a=>⟨2000,a⟩
def C8:bt:=⟨4,[(1,.aI .tbl),(2,.str),(3,.aI .val)],[(0,.ptr 0 0)],[(0,.cells [aq,aC,.bool,aC,.sl .node ai,aC,.sl .stt ai,aC])],1,1,0,[],[]⟩
def C':bt:=⟨2,[(0,.sl .ep ae),(1,.int .i64)],[],[(0,.cells [aq,aC,.bool,aC,.sl .node ai,aC,.sl .stt ai,aC])],1,1,0,[],[]⟩
abbrev _m:=bU×ar×aH×Int×U UInt8×Bool×U UInt8×U bs×U UInt8×U bs×U UInt8
abbrev wk:=U (U aH)×Int×Int×U UInt8×Bool×U UInt8×U bs×U UInt8×U bs×U UInt8
def aaq:bt:=⟨123,[(8,.sl .ep ae),(9,.int .i64),(18,.sl .ep ae),(19,.int .i64),(76,.sl .kv ai),(77,.int .i64),(78,.int .i64)],[(0,.ptr 0 0),(5,.ptr 1 0)],[(0,.cells [aq,aC,.bool,aC,.sl .node ai,aC,.sl .stt ai,aC]),(1,.one (.aI .tbl))],2,1,0,[],[]⟩
abbrev EY:=U (U aH)×Int×U (U aH)×Int×U b7×Int×Int×Int×U UInt8×Bool×U UInt8×U bs×U UInt8×U bs×U UInt8×bU
def wm{R:Type}(aJ:EY->af R)(kx:bf->EY->af R)(v:EY):af R:=match v with|(x,y,e,a,c,f,b,ie,g,h,i,j,k,l,m,d)=>cond (aa (b<f)) (ax (aU b (I c)) ((Ay ((at' .kv c b).key)).bind λ(n,a0)=>cond (!decide (a0=0)) (kx .ret ([],11,e,a,c,f,b,ie,g,h,i,j,k,l,m,d)) (cond (!decide ((I n:Int)=(wr .i64 (a+(I d.key:Int))))) (kx .ret ([],11,e,a,c,f,b,ie,g,h,i,j,k,l,m,d)) (ax (upto a (I n) (I n)) ((uu (d,(n.drop (a:Int).toNat),ie,g,h,i,j,k,l,m)).bind λ(a1,a2,z,o,p,q,r,s,t,u,w)=>cond (!decide (z=0)) (kx .ret ([],z,e,a,c,f,b,o,p,q,r,s,t,u,w,d)) (cond (!a2) (kx .ret ([],11,e,a,c,f,b,o,p,q,r,s,t,u,w,d)) (ax (aa (I e+1<=bJ)) (aJ (x,y,(e++[a1]),a,c,f,(wr .i64 (b+1)),o,p,q,r,s,t,u,w,d))))))))) (kx (.exit 0) (x,y,e,a,c,f,b,ie,g,h,i,j,k,l,m,d))
def SP:bt:=⟨19,[(0,.sl .idx ai),(4,.int .i64),(7,.int .i64),(8,.int .i64)],[(1,.fn 47 [.ptr 2 0])],[(0,.cells [aq,aC,.bool,aC,.sl .node ai,aC,.sl .stt ai,aC]),(1,.one (.aI .tbl)),(2,.cells [.str]),(3,.one (.aI .val))],120,120,600,[],[]⟩
abbrev Et:=U c3×Int×Int×Int×Int×U UInt8×Bool×U UInt8×U bs×U UInt8×U bs×U UInt8×bU×ar×aH
def wi{R:Type}(b:Et->af R)(kx:bf->Et->af R)(v:Et):af R:=match v with|(v1,v2,aD,v4,w,w1,w2,w3,c9,c7,dC,dO,dX,fy,a)=>cond (aa (v4<aD)) (ax (aU v4 (I v1)) (cond (aa (((at' .idx v1 v4).name)=fy)) (kx .ret (v1,v4,aD,v4,w,w1,w2,w3,c9,c7,dC,dO,dX,fy,a)) (b (v1,v2,aD,(wr .i64 (v4+1)),w,w1,w2,w3,c9,c7,dC,dO,dX,fy,a)))) (kx (.exit 0) (v1,v2,aD,v4,w,w1,w2,w3,c9,c7,dC,dO,dX,fy,a))
def Tp(R:Type)(kK:Nat):aM R:=bp [(52,bg xO)] [] [] []
def VX(R:Type)(kK:Nat):aM R:=bp [] [] [] []
noncomputable def _6(R:Type)(k:Nat):aM R:=bp [(47,eY 120 800 (VX R k) Tryz.f47)] [] [(2,cq k SP (wi))] []
noncomputable def adl(R:Type)(k:Nat):aM R:=bp [(45,bg C4),(38,bg zR),(37,fS H7 Ii ud),(48,bg adE),(34,eY 80 400 (Tp R k) Tryz.f34),(46,eY 120 600 (_6 R k) Tryz.f46)] [(36,fa xM),(35,fa vL)] [(17,cq k aaq (wm))] [(21,o7 DN DX uu)]
def BM(k:Nat)(x:_m):af (wk):=match x with
 |(t,axZ,v,a,b,c,d,e,f,g,h)=>
 (kX t).bind λx=>
  cond (!decide (x=0)) (
  J ([],x,a,b,c,d,e,f,g,h)) (
  (q_ [v]).bind λ(_,j_)=>
   cond (!decide (j_=0)) (
   J ([],j_,a,b,c,d,e,f,g,h)) (
   aT (λbL=>wi bL (λe fu=>match fu with|(_,v6,_,_,cw,i,j,l,m,n,o,p,q,aZ,bk)=>match e with
    |.ret=>
    cond (aa (v6<0)) (
     J ([],150,cw,i,j,l,m,n,o,p)) (
     (mP [[105],aZ]).bind λlp=>
     (lC [lp,[bk]]).bind λ(kV,_)=>
      (rr kV).bind λnR=>
      (ud (kV,nR,9223372036854775807,cw,i,j,l,m,n,o,p)).bind λ(nS,vo,vp,r,s,u,w,y,z,a0)=>
       cond (!decide (vo=0)) (
       J ([],vo,vp,r,s,u,w,y,z,a0)) (
       ax (aU v6 (I q.idx)) (
        aT (λbL=>wm bL (λe fu=>match fu with|(bz,ac,ad,_,_,_,_,a1,a2,a3,a4,a5,a6,a7,aJ,_)=>match e with
        |.ret=>J (bz,ac,a1,a2,a3,a4,a5,a6,a7,aJ)
        |.exit 0=>J (ad,0,a1,a2,a3,a4,a5,a6,a7,aJ)
        |_=>ah)) k ([],0,[],(wr .i64 (2+(I ((at' .idx q.idx v6).al):Int))),nS,(I nS:Int),0,vp,r,s,u,w,y,z,a0,q))))
    |.exit 0=>
    J ([],150,cw,i,j,l,m,n,o,p)
    |_=>ah)) k (t.idx,0,(I t.idx:Int),0,a,b,c,d,e,f,g,h,t,axZ,v)))
theorem alw(k:Nat):fb 18 C8 C' (BM k):=km (px:=adl _ k) (n:=1) Tryz.func18 rfl (λab H=>by have h1:bT ab (Tp (wk) k):=br H (c1 H Hu bm) bo bq;have h3:bT ab (VX (wk) k):=br H bm bo bq;have h2:bT ab (_6 (wk) k):=br H (dY (e8 H h3 Tryz.func47 rfl (n:=0) (aP)) bm) bo bq;have a:=cC H h2 (b:=b_ Tryz.f46 0) (k:=k) (n:=0) (s:=SP) (step:=wi) (λ_ _ _ (_,_,_,_,_,_,_,_,_,_,_,_,_,_,_)=>by kernel_rfl) aP;have h0:bT ab (adl (wk) k):=br H (c1 H aaY (c1 H M5 (eO H Ye (c1 H aj9 (dY (e8 H h1 Tryz.func34 rfl (n:=0) (aP)) (dY (e8 H h2 Tryz.func46 rfl (n:=1) (cm aP a)) bm)))))) (bd H Bf (bd H zZ bo)) (w1 H aai bq);have c:=cC H h0 (b:=b_ Tryz.f18 0) (k:=k) (n:=0) (s:=aaq) (step:=wm) (λ_ _ _ (_,_,_,_,_,_,_,_,_,_,_,_,_,_,_,_)=>by kernel_rfl) aP;exact⟨h0,(cm aP c)⟩) λ(_,_,_,_,_,_,_,_,_,_,_)=>by kernel_rfl
def F':_m->af wk:=λx=>BM (5000) x
theorem al6:fb 18 C8 C' (F'):=gj.fin (ι:=Nat) (aQ:=C8) (bG:=C') 0 (F:=λk=>BM k) (λk=>alw k) λ_ _ _ a=>⟨5000,a⟩
end
noncomputable section
def WW:bt:=⟨59,[(0,.sl .val ai),(1,.sl .val ai),(5,.int .i64)],[],[],0,0,0,[],[]⟩
abbrev Mu:=U aH×U aH×Int
def yt{R:Type}(a:Mu->af R)(kx:bf->Mu->af R)(v:Mu):af R:=match v with
 |(v,v1,v2)=>
 let j:=λ(p:Bool)=>
  cond (p) (
  ax (aU v2 (I v)) (
   ax (aU v2 (I v1)) (
   cond (aa ((at' .val v v2)=(at' .val v1 v2))) (
    a (v,v1,(wr .i64 (v2+1)))) (
    kx (.exit 0) (v,v1,v2))))) (
  kx (.exit 0) (v,v1,v2))
 cond (aa (v2<(I v:Int))) (
  j (aa (v2<(I v1:Int)))) (
  j ai)
def RT(R:Type)(k:Nat):aM R:=bp [(41,bg adF)] [] [(2,cq k WW (yt))] []
def Wv(k:Nat)(x:au [dA,dA]):af (au [aq]):=match x with
 |(a,b)=>
 aT (λc=>yt c (λe f=>match f with|(aD,v4,a')=>match e with
  |.exit 0=>
  let d:=λ(hs:Bool)=>
   cond (hs) (
   ax (aU a' (I aD)) (
    ax (aU a' (I v4)) (
    J (tm (at' .val aD a') (at' .val v4 a'))))) (
   cond (aa (a'<(I v4:Int))) (
    J (-1)) (
    cond (aa (a'<(I aD:Int))) (
    J 1) (
    J 0)))
  cond (aa (a'<(I aD:Int))) (
   d (aa (a'<(I v4:Int)))) (
   d ai)
  |_=>ah)) k (a,b,0)
theorem aoE(k:Nat):aN 16 [dA,dA] [aq] (Wv k):=bX (px:=RT _ k) (n:=1) Tryz.func16 rfl (λab H=>by have h0:bT ab (RT (au [aq]) k):=br H (c1 H akn bm) bo bq;have a:=cC H h0 (b:=b_ Tryz.f16 0) (k:=k) (n:=0) (s:=WW) (step:=yt) (λ_ _ _ (_,_,_)=>by kernel_rfl) aP;exact⟨h0,(cm aP a)⟩) λ(_,_)=>by kernel_rfl
def wH(a b:U aH):af Int:=Wv 5000 (a,b)
def aci:bb [dA,dA] [aq]:=λx=>wH x.1 x.2
theorem ajk:aN 16 [dA,dA] [aq] aci:=.fin 0 aoE λ_ _ _ a=>⟨5000,a⟩
end
def cn(s:ar):aH:=⟨4,0,s⟩
theorem aiL{l:U ar}(h:I l<=4000)(k:Nat)(f : 4000<k):GZ k l=J (l.map cn):=by
 have b:b5 (I l):=lr
 simp only[GZ];refine(kd (β:=U aH) (I l) (λi acc=>(acc,l,(I l:Int),(i:Int))) (λi acc=>I acc=i) (λi acc=>J (acc++(l.drop i).map cn)) (λi hi acc d a e=>?_) (λacc _ a=>?_) k 0 [] (cp _) ag rfl).trans xh
 .simp only[BW,ez hi,a8,bY hi,ax,cb (c:=.str) hi,cV hi b,dn hi,e0];rw[aY gW,a8,e _ (by simp[d])];simp[cn,zp]
 .simp only[BW,eG,a_];simp
theorem rK{l:U ar}(h:I l<=4000):mP l=J (l.map cn):=aiL h 5000 ag
theorem LY{l:U (U α)}(h:i<I l):(l.take (i+1)).flatten=(l.take i).flatten++l[i]:=by have e:=congrArg List.flatten (List.take_append_getElem h);rw[List.flatten_append]at e;rw[<-e];simp only[mX,List.flatten_nil,List.append_nil]
theorem acm(l:U (U α))(i:Nat):I (l.take i).flatten<=I l.flatten:=by have:=congrArg (λq=>I q.flatten) (List.take_append_drop i l);simp only[List.flatten_append,dc]at this;omega
theorem avc{l:U (U aH)}(h:I l<=4000)(j:I l.flatten<=1000000)(k:Nat)(m : 4000<k):HN k l=J l.flatten:=by
 have g:b5 (I l):=lr
 simp only[HN];refine(kd (β:=Nat) (I l) (λi a=>(l,(a:Int),l,(I l:Int),(i:Int))) (λi a=>a=I (l.take i).flatten) (λ_ _=>J l.flatten) (λi hi a d b f=>?_) (λa d b=>?_) k 0 0 (cp _) ag (by simp)).trans rfl
 .have h1:=acm l (i+1);have h2:=congrArg List.length (LY hi);rw[dc]at h2;have e:wr .i64 ((a:Int)+(I l[i]:Int))=((a+I l[i]:Nat):Int):=PG
  simp only[Ae,ez hi,a8,bY hi,ax,cb (c:=.ep) hi,cV hi g,e];rw[bl ag,a_];exact f _ ag
 .rw[List.take_length]at d;subst d;simp only[Ae,eG,a_,ax];rw[aY (show(0:Int)<=(I l.flatten:Int) by omega),aY (show(I l.flatten:Int)<=2000000 by omega),Bool.and_true,a8];refine(kd (β:=U aH) (I l) (λi acc=>(acc,l,(I l:Int),(i:Int))) (λi acc=>acc=(l.take i).flatten) (λi acc=>J (acc++(l.drop i).flatten)) (λi hi acc d b f=>?_) (λacc _ b=>?_) k 0 [] (cp _) ag (by simp)).trans xh
  .have h1:=acm l (i+1);have h2:=congrArg List.length (LY hi);rw[dc]at h2;subst d;simp only[Ah,ez hi,a8,bY hi,ax,cb (c:=.ep) hi,cV hi g,dn hi,mX];rw[aY gW,a8,f _ (LY hi).symm,fI]
  .simp only[Ah,eG,a_];simp
theorem akk{l:U (U aH)}(h:I l<=4000)(a:I l.flatten<=1000000):NW l=J l.flatten:=avc h a 5000 ag
theorem ahr{v:aH}(h:cS v=ae):I v.s<=1000:=by rcases nm.1 h with ⟨_,_,h⟩|⟨_,_,h⟩|⟨_,h⟩|⟨_,_,h,_⟩|⟨_,_,h⟩<;>first|exact h|(rw[h];simp)
theorem XZ:∀{l:U aH},(∀v,v∈l->cS v=ae)->j9 l<=1001*I l
 |[],_=>by simp[j9]
 |v::l,h=>by have h1:=ahr (h v (by simp));have h2:=XZ (l:=l) λq a=>h q rH;simp only[j9,dm];omega
theorem amY{l:U aH}(h:∀v,v∈l->cS v=ae)(a:I l<=900):q_ l=J (dK l,0):=by have:=XZ h;rw[q_,aY ag,a8,cX.2 h];rfl
theorem xm{l:U (U aH)}(a:I l<=4000)(h:∀v,v∈l.flatten->cS v=ae)(b:I l.flatten<=900):lC l=J (dK l.flatten,0):=by rw[lC,L0,akk a ag,bZ,amY h b];rfl
variable{r:U aH}
theorem aba{l:U ar}(h:I l<=4000)(m:I r=I t.al)(k:Nat)(n : 4000<k):Hg k (t,r,l)=J (eF t.al r l []):=by
 have d:b5 (I l):=lr
 simp only[Hg];rw[aY ag,dj,a_];refine(kd (β:=U aH) (I l) (λi acc=>(r,l,[],0,acc,(i:Int),t)) (λi acc=>I acc=i) (λi acc=>J (eF t.al r (l.drop i) acc)) (λi hi acc f a g=>?_) (λacc _ a=>?_) k 0 [] (cp _) ag rfl).trans iy
 .simp only[zU,ez hi,a8,bY hi,ax,cb (c:=.str) hi,cV hi d,dn hi,eF,oL];by_cases b:dR t.al l[i]<0
  .rw[aY b];rfl
  .obtain⟨j,o,e,_⟩:=M4 b;rw[bl b,a_,a_,e,bY ag,a8,aY gW,a8,g _ (by simp[f])]
 .simp only[zU,eG,a_];exact jz
theorem aas{l:U ar}(b:I l<=4000)(a:I r=I t.al):tj t r l=J (eF t.al r l []):=by rw[tj,aY ag,a8,aY a,a8]
theorem abE(h:(k6 s).2=0):(aa (s.kind=1)&&fX s)=ae/\iN ⟨s.name,s.al,s.names,[],[]⟩ s.names=ae/\kh s.al s.l=0:=by
 simp only[k6]at h;generalize (aa (s.kind=1)&&fX s)=du at h ⊢;generalize iN ⟨s.name,s.al,s.names,[],[]⟩ s.names=dF at h ⊢;cases du with
 |false=>simp at h
 |true=>
  cases dF with
  |false=>simp at h
  |true=>
   by_cases an:kh s.al s.l=0
   .exact⟨rfl,rfl,an⟩
   .simp[an]at h
theorem mN(h:hT t=ae):(k6 (iM t)).2=0/\fN t.idx=ae/\I t.idx<=100/\∀x,x∈t.idx->k5 t x=true:=by simp only[hT,bx,dM,cX]at h;exact h
theorem uP(h:hS t row=0):hT t=ae/\mM t.al row=true:=by
 simp only[hS]at h;cases h1:hT t with
 |false=>rw[h1]at h;simp at h
 |true=>cases h2:mM t.al row with|false=>rw[h1,h2]at h;simp at h|true=>exact⟨rfl,rfl⟩
theorem Te:∀{l seen:U ar},mT seen l=ae->∀s,s∈l->fC s=ae
 |[],_,_,s,a=>by cases a
 |x::l,seen,h,s,a=>by
  simp only[mT,bx]at h;rcases ek.1 a with rfl|a
  .exact h.1.1
  .exact Te h.2 s a
theorem DO{l:U ar}(h:gF l=ae):I l<=100/\∀s,s∈l->fC s=true:=by simp only[gF,bx,dM]at h;exact⟨h.2,Te h.1⟩
theorem aqu:((dy 256).all λn=> !fk.kp (n:Int)||sH (bj n))=true:=b0
theorem Sc{p:UInt8->Bool}:∀{l:ar},I (l.takeWhile p)=I l->∀b,b∈l->p b=ae
 |[],_,b,h=>by cases h
 |c::l,h,b,aj=>by
  cases an:p c with
  |false=>rw[List.takeWhile_cons,an]at h;simp at h
  |true=>
   rw[List.takeWhile_cons,an]at h;rcases ek.1 aj with rfl|aj
   .exact an
   .exact Sc (l:=l) n1 b aj
theorem qm{s:ar}(h:fC s=ae):cS (cn s)=true:=by
 simp only[fk.y9,bx,dM,fk.m9]at h;have h2:=h.2;simp at h2;refine nm.2 (.inr (.inr (.inr (.inl ⟨rfl,rfl,by simp only[cn];omega,?_⟩))));simp only[cn,n7,cX];intro c an;have h1:=cX.1 aqu c.toNat (List.mem_range.2 c.toNat_lt);have h3:fk.kp (c.toNat:Int)=true:=by
  first
   |exact Sc (p:=λb=>fk.kp (b.toNat:Int)) ag c an
   |exact h2 c an
 rw[UInt8.ofNat_toNat,h3]at h1;simpa using h1
structure lY (t:bU) (r:List aH):Prop where
 name:fC t.name=ae
 al:∀c,c∈t.al->fC c.name=ae/\(c.ref=[]\/fC c.ref=ae)
 Cu:I t.al<=100
 IT:I t.key<=100
 afF:I t.idx<=100
 key:∀s,s∈t.key->¬dR t.al s<0
 idx:∀x,x∈t.idx->fC x.name=ae/\I x.al<=100/\∀s,s∈x.al->¬dR t.al s<0
 len:I r=I t.al
 right:∀v,v∈r->cS v=ae
theorem yg(h:hT t=ae):I t.al<=100/\I t.key<=100/\I t.e9<=100/\fC t.name=ae/\(∀c,c∈t.al->fC c.name=ae/\(c.ref=[]\/fC c.ref=ae)):=by
 have a:=(abE (mN h).1).1;simp only[iM,fX,if_true,decide_true,Bool.true_and,bx]at a;obtain⟨⟨d,_⟩,⟨⟨⟨⟨e,_⟩,uW⟩,_⟩,f⟩,b⟩:=a;have c1:=DO uW;have c2:=DO f;have g:I t.e9<=100:=by simp only[l0,bx,dM]at b;exact b.1
 refine⟨by simpa using c1.1,c2.1,g,d,λc an=>⟨c1.2 _ (List.mem_map.2 ⟨c,an,rfl⟩),?_⟩⟩;have h3:=cX.1 e c an;simp only[kz,bx,k_,dM]at h3;exact h3.2
theorem jX(h:hS t r=0):lY t r:=by
 obtain⟨a,e⟩:=uP h;obtain⟨h1,h2,_,h4,h5⟩:=yg a;have g:=Bd e;refine⟨h4,h5,h1,h2,(mN a).2.2.1,λs b=>?_,λx j=>?_,g.symm,λv aE=>?_⟩
 .have h6:(!decide (dR t.al s<0))=true:=cX.1 (abE (mN a).1).2.1 s b;simpa using h6
 .have h6:=(mN a).2.2.2 x j;simp only[k5,bx]at h6;obtain⟨h7,k⟩:=h6;simp only[fX,gT,bx]at h7;have f:(fC t.name&&gu (I x.al:Int)&&gF x.al)=true:=h7.2;simp only[bx]at f;obtain⟨c,_⟩:=DO f.2;refine⟨h7.1.1,c,λs b=>?_⟩;have d:(!decide (dR t.al s<0))=true:=cX.1 k s b;simpa using d
 .obtain⟨i,hi,rfl⟩:=List.getElem_of_mem aE;exact(Xk.1 (K7 e i ag hi)).1
theorem G8(f:lY t r){l:U ar}(b:∀s,s∈l->¬dR t.al s<0)(P:aH->Prop)(g:∀v,v∈r->P v):∀v,v∈(eF t.al r l []).1->P v:=by
 refine(acI (P:=P) (λs d=>⟨b s d,?_⟩) (λv aE=>by cases aE)).2;obtain⟨i,hi,e,_⟩:=M4 (b s d);have a:i<I r:=by rw[f.len];exact hi
 rw[e,cb (c:=.val) a];exact g _ (fo a)
theorem Vl{al:U cW}{l:U ar}(h:I l<=100):I (eF al row l []).1<=100:=by have:=Sj (al:=al) (row:=row) (l:=l) (acc:=[]);simp only[hn,Nat.zero_add]at this;omega
def nW(p:b7):Bool:=aa (I p.key<=200)&&aa (I p.val<=4000)
def sn(p:b7):Int:=cond (nW p) 0 3
def l5(e:Int)(p:b7):Int:=cond (aa (e=0)) (sn p) e
def hD:Int->U b7->Int|e,[]=>e|e,p::l=>hD (l5 e p) l
def eo(t:bU)(r:U aH):U aH:=(eF t.al r t.key []).1
def dk(t:bU)(r:U aH):b7:=⟨dK (cn [114]::cn t.name::eo t r),(hX r).1⟩
def gw(t:bU)(r:U aH)(x:c3):b7:=⟨dK (cn [105]::cn x.name::((eF t.al r x.al []).1++eo t r)),[]⟩
def mE(t:bU)(r:U aH)(c:cW)(v:aH):b7:=⟨dK [cn [117],cn t.name,cn c.name,v],(hX (eo t r)).1⟩
def lU(t:bU)(r:U aH)(c:cW)(v:aH):b7:=⟨dK (cn [102]::cn c.ref::v::cn t.name::cn c.name::eo t r),[]⟩
def fD(t:bU)(r:U aH):U cW->U aH->U b7|c::cs,v::vs=>cond (c.unique && !decide (v.kind=1)) (mE t r c v::fD t r cs vs) (fD t r cs vs)|_,_=>[]
def g8(t:bU)(r:U aH):U cW->U aH->U b7|c::cs,v::vs=>cond (!decide (c.ref=[]) && !decide (v.kind=1)) (lU t r c v::g8 t r cs vs) (g8 t r cs vs)|_,_=>[]
theorem NM(e:Int)(k v:ar):l5 e ⟨k,v⟩=cond (aa (e=0)) (cond (aa (200<(I k:Int))) 3 (cond (aa (4000<(I v:Int))) 3 0)) e:=by simp only[l5,sn,nW];rw[show aa (I k<=200) = !decide (200<(I k:Int)) by rw[<-decide_not];exact hH.2 ag,show aa (I v<=4000) = !decide (4000<(I v:Int)) by rw[<-decide_not];exact hH.2 ag];cases aa (e=0)<;>cases aa (200<(I k:Int))<;>cases aa (4000<(I v:Int))<;>rfl
theorem adg(e:Int)(k:ar):l5 e ⟨k,[]⟩=cond (aa (e=0)) (cond (aa (200<(I k:Int))) 3 0) e:=by rw[NM];rfl
section
variable {t:bU}{r:U aH}
theorem Iw(f:lY t r):∀v,v∈eo t r->cS v=true:=G8 f f.key _ f.right
theorem Hz(f:lY t r):I (eo t r)<=100:=Vl f.IT
theorem xA:cS (cn [114])=ae/\cS (cn [105])=ae/\cS (cn [117])=ae/\cS (cn [102])=true:=⟨by kernel_rfl,by kernel_rfl,by kernel_rfl,by kernel_rfl⟩
theorem _M(f:lY t r):lC [[cn [114],cn t.name],eo t r]=J ((dk t r).key,0):=by
 have:=Hz f;have e:[[cn [114],cn t.name],eo t r].flatten=cn [114]::cn t.name::eo t r:=by simp
 rw[xm (by simp) (λv aE=>?_) (by rw[e];simp;omega),e]
 .rfl
 .rw[e]at aE;rcases ek.1 aE with rfl|aE
  .exact xA.1
  rcases ek.1 aE with rfl|aE
  .exact qm f.name
  .exact Iw f v aE
variable{x:c3}
theorem YO(f:lY t r)(a:x∈t.idx):(∀v,v∈cn [105]::cn x.name::((eF t.al r x.al []).1++eo t r)->cS v=ae)/\I (cn [105]::cn x.name::((eF t.al r x.al []).1++eo t r))<=900:=by
 obtain⟨h1,h2,h3⟩:=f.idx x a;have:=Hz f;have:=Vl (al:=t.al) (row:=r) h2;refine⟨λv aE=>?_,by simp;omega⟩;rcases ek.1 aE with rfl|aE
 .exact xA.2.1
 rcases ek.1 aE with rfl|aE
 .exact qm h1
 rcases fM.1 aE with aE|aE
 .exact G8 f h3 _ f.right v aE
 .exact Iw f v aE
theorem atk(f:lY t r)(a:x∈t.idx):lC [[cn [105],cn x.name],(eF t.al r x.al []).1,eo t r]=J ((gw t r x).key,0):=by
 obtain⟨h1,h2⟩:=YO f a;have e:[[cn [105],cn x.name],(eF t.al r x.al []).1,eo t r].flatten=cn [105]::cn x.name::((eF t.al r x.al []).1++eo t r):=by simp
 rw[xm (by simp) (by rw[e];exact h1) (by rw[e];exact h2),e];rfl
theorem aor(f:lY t r){c:cW}(an:c∈t.al){v:aH}(aE:v∈r):∀q,q∈[cn [117],cn t.name,cn c.name,v]->cS q=true:=by
 intro q a;simp only[ek,List.not_mem_nil,or_false]at a;rcases a with rfl|rfl|rfl|rfl
 .exact xA.2.2.1
 .exact qm f.name
 .exact qm (f.al c an).1
 .exact f.right _ aE
theorem ati(f:lY t r){c:cW}(an:c∈t.al){v:aH}(aE:v∈r):lC [[cn [117],cn t.name,cn c.name],[v]]=J ((mE t r c v).key,0):=by have e:[[cn [117],cn t.name,cn c.name],[v]].flatten=[cn [117],cn t.name,cn c.name,v]:=rfl;rw[xm (by simp) (by rw[e];exact aor f an aE) (by rw[e];simp),e];rfl
theorem YV(f:lY t r){c:cW}(an:c∈t.al)(b:¬c.ref=[]){v:aH}(aE:v∈r):(∀q,q∈cn [102]::cn c.ref::v::cn t.name::cn c.name::eo t r->cS q=ae)/\I (cn [102]::cn c.ref::v::cn t.name::cn c.name::eo t r)<=900:=by
 have:=Hz f;refine⟨λq a=>?_,by simp;omega⟩;simp only[ek]at a;rcases a with rfl|rfl|rfl|rfl|rfl|a
 .exact xA.2.2.2
 .exact qm ((f.al c an).2.resolve_left b)
 .exact f.right _ aE
 .exact qm f.name
 .exact qm (f.al c an).1
 .exact Iw f q a
theorem atO(f:lY t r){c:cW}(an:c∈t.al)(a:¬c.ref=[]){v:aH}(aE:v∈r):lC [[cn [102],cn c.ref],[v],[cn t.name,cn c.name],eo t r]=J ((lU t r c v).key,0):=by
 obtain⟨h1,h2⟩:=YV f an a aE;have e:[[cn [102],cn c.ref],[v],[cn t.name,cn c.name],eo t r].flatten=cn [102]::cn c.ref::v::cn t.name::cn c.name::eo t r:=by simp
 rw[xm (by simp) (by rw[e];exact h1) (by rw[e];exact h2),e];rfl
variable{w2:Int}
theorem agx{kx:bf->Iv->af R}(f:lY t r){w1 c7 dO:U b7}{dC dX:Int}{c:U b7->Int->af R}(h2:∀l e,kx (.exit 0) (r,eo t r,t.idx,(I t.idx:Int),(I t.idx:Int),t,w1,w2,l,e,c7,dC,dO,dX)=c l e)(k:Nat)(o : 200<k) :
  aT (λb=>uH b kx) k (r,eo t r,t.idx,(I t.idx:Int),0,t,w1,w2,[],0,c7,dC,dO,dX)=c (t.idx.map (gw t r)) (hD 0 (t.idx.map (gw t r))):=by
 have p:=f.afF;have g:b5 (I t.idx):=lr
 refine(kd (β:=U b7×Int) (I t.idx) (λi a=>(r,eo t r,t.idx,(I t.idx:Int),(i:Int),t,w1,w2,a.1,a.2,c7,dC,dO,dX)) (λi a=>I a.1=i) (λi a=>c (a.1++(t.idx.drop i).map (gw t r)) (hD a.2 ((t.idx.drop i).map (gw t r)))) (λi hi a j b m=>?_) (λa _ b=>?_) k 0 ([],0) (cp _) ag rfl).trans xh
 .have h:=fo hi;have d:=m (a.1++[gw t r t.idx[i]],l5 a.2 (gw t r t.idx[i])) (by simp[j]);have n:=(f.idx _ h).2.1;simp only[uH,ez hi,a8,bY hi,ax,cb (c:=.idx) hi,cV hi g,aas (show I t.idx[i].al<=4000 by omega) f.len,bZ,rK (show I [[105],t.idx[i].name]<=4000 by simp),e0,List.map_nil,atk f h,dn hi,hD,decide_true];rw[aY (show I a.1+1<=bJ by simp only[bJ];omega)];have e:l5 a.2 (gw t r t.idx[i])=cond (aa (a.2=0)) (cond (aa (200<(I (gw t r t.idx[i]).key:Int))) 3 0) a.2:=adg _ _;rw[fI,List.singleton_append]at d;rw[<-d,e];have aS:gw t r t.idx[i]=⟨(gw t r t.idx[i]).key,[]⟩:=rfl;rw[<-aS];cases aa (a.2=0)<;>cases aa (200<(I (gw t r t.idx[i]).key:Int))<;>rfl
 .simp only[uH,eG,a_,h2];rw[g0 (b2 _),List.map_nil,List.append_nil];rfl
theorem agD{kx:bf->HO->af R}(f:lY t r){w1 w3:U b7}{c9:Int}{c:U b7->Int->U b7->Int->af R}(h2:∀l e m g,kx (.exit 2) (r,eo t r,(hX (eo t r)).1,t.al,(I t.al:Int),(I t.al:Int),t,w1,w2,w3,c9,l,e,m,g)=c l e m g)(k:Nat)(y : 200<k) :
  aT (λh=>uy h kx) k (r,eo t r,(hX (eo t r)).1,t.al,(I t.al:Int),0,t,w1,w2,w3,c9,[],0,[],0)=c (fD t r t.al r) (hD 0 (fD t r t.al r)) (g8 t r t.al r) (hD 0 (g8 t r t.al r)):=by
 have z:=f.Cu;have n:b5 (I t.al):=lr
 refine(kd (β:=(U b7×Int)×(U b7×Int)) (I t.al) (λi a=>(r,eo t r,(hX (eo t r)).1,t.al,(I t.al:Int),(i:Int),t,w1,w2,w3,c9,a.1.1,a.1.2,a.2.1,a.2.2)) (λi a=>I a.1.1<=i/\I a.2.1<=i) (λi a=>c (a.1.1++fD t r (t.al.drop i) (r.drop i)) (hD a.1.2 (fD t r (t.al.drop i) (r.drop i))) (a.2.1++g8 t r (t.al.drop i) (r.drop i)) (hD a.2.2 (g8 t r (t.al.drop i) (r.drop i)))) (λi hi a o h j=>?_) (λa _ h=>?_) k 0 (([],0),([],0)) (cp _) ag ⟨by simp,by simp⟩).trans (by rw[gH,gH];rfl)
 .have d:i<I r:=by rw[f.len];exact hi
  have p:=fo hi;have aE:=fo d;have q:∀l:U b7,I l<=i->aa (I l+1<=bJ)=true:=λl bB=>aY gW;have w:cut r (i:Int) ((i+1:Nat):Int)=[r[i]]:=by simp[cut,List.take_one,d]
  have x:upto (i:Int) ((i+1:Nat):Int) (I r)=true:=Gs
  simp only[uy,ez hi,a8,bY hi,bY d,ax,cb (c:=.cO) hi,cb (c:=.val) d,cV hi n,dn hi,dn d,fD,g8,w,x];by_cases h1:r[i].kind=1
  .rw[aY h1];simp only[a8,dj,Bool.and_false,a_];exact j a ⟨by omega,by omega⟩
  .rw[bl h1];simp only[a_,jd,Bool.and_true];have s:l5 a.1.2 (mE t r t.al[i] r[i])=cond (aa (a.1.2=0)) (cond (aa (200<(I (mE t r t.al[i] r[i]).key:Int))) 3 (cond (aa (4000<(I (hX (eo t r)).1:Int))) 3 0)) a.1.2:=NM _ _ _;have u:l5 a.2.2 (lU t r t.al[i] r[i])=cond (aa (a.2.2=0)) (cond (aa (200<(I (lU t r t.al[i] r[i]).key:Int))) 3 0) a.2.2:=adg _ _;have aS:mE t r t.al[i] r[i]=⟨(mE t r t.al[i] r[i]).key,(hX (eo t r)).1⟩:=rfl;have v:lU t r t.al[i] r[i]=⟨(lU t r t.al[i] r[i]).key,[]⟩:=rfl;simp only[q _ o.1,q _ o.2,rK (show I [[117],t.name,t.al[i].name]<=4000 by simp),rK (show I [[102],t.al[i].ref]<=4000 by simp),rK (show I [t.name,t.al[i].name]<=4000 by simp),bZ,e0,List.map_nil,ati f p aE,decide_true,a8];by_cases h3:t.al[i].ref=[]
   .rw[aY h3];simp only[dj,a_];cases t.al[i].unique with|false=>exact j a ⟨by omega,by omega⟩|true=>have b:=j ((a.1.1++[mE t r t.al[i] r[i]],l5 a.1.2 (mE t r t.al[i] r[i])),a.2) ⟨by simp;omega,by simp only;omega⟩;simp only[fI,List.singleton_append]at b;simp only[a8,hD];rw[<-b,s,<-aS];cases aa (a.1.2=0)<;>cases aa (200<(I (mE t r t.al[i] r[i]).key:Int))<;>cases aa (4000<(I (hX (eo t r)).1:Int))<;>rfl
   .rw[bl h3];simp only[jd,a8,atO f p h3 aE,bZ,decide_true];cases t.al[i].unique with|false=>have b:=j (a.1,(a.2.1++[lU t r t.al[i] r[i]],l5 a.2.2 (lU t r t.al[i] r[i]))) ⟨by simp only;omega,by simp;omega⟩;simp only[fI,List.singleton_append]at b;simp only[a_,hD];rw[<-b,u,<-v];cases aa (a.2.2=0)<;>cases aa (200<(I (lU t r t.al[i] r[i]).key:Int))<;>rfl|true=>have b:=j ((a.1.1++[mE t r t.al[i] r[i]],l5 a.1.2 (mE t r t.al[i] r[i])),(a.2.1++[lU t r t.al[i] r[i]],l5 a.2.2 (lU t r t.al[i] r[i]))) ⟨by simp;omega,by simp;omega⟩;simp only[fI,List.singleton_append]at b;simp only[a8,hD];rw[<-b,s,u,<-aS,<-v];cases aa (a.1.2=0)<;>cases aa (200<(I (mE t r t.al[i] r[i]).key:Int))<;>cases aa (4000<(I (hX (eo t r)).1:Int))<;>cases aa (a.2.2=0)<;>cases aa (200<(I (lU t r t.al[i] r[i]).key:Int))<;>rfl
 .simp only[uy,eG,a_,h2];rw[g0 (b2 _)];simp only[fD,g8,List.append_nil,hD]
end
theorem We:∀l:U b7,hD 3 l=3
 |[]=>rfl
 |_::l=>We l
theorem H_:∀l:U b7,hD 0 l=cond (l.all nW) 0 3
 |[]=>rfl
 |p::l=>by simp only[hD,l5,sn,decide_true,a8,et];cases nW p with|true=>exact H_ l|false=>exact We l
section
variable {t:bU}{r:U aH}
theorem EK:∀(cs:U cW) (vs:U aH),I (fD t r cs vs)<=I cs
 |[],_=>by simp[fD]
 |_::_,[]=>by simp[fD]
 |c::cs,v::vs=>by have:=EK cs vs;simp only[fD,dm];cases c.unique && !decide (v.kind=1)<;>simp<;>omega
theorem EL:∀(cs:U cW) (vs:U aH),I (g8 t r cs vs)<=I cs
 |[],_=>by simp[g8]
 |_::_,[]=>by simp[g8]
 |c::cs,v::vs=>by have:=EL cs vs;simp only[g8,dm];cases !decide (c.ref=[]) && !decide (v.kind=1)<;>simp<;>omega
def lX(r:U aH):Prop:=∀v,v∈r->da v.n=ae
theorem aaV(f:lY t r)(aj:lX r)(k:Nat)(aV : 200<k):Hi k (t,r)=J (⟨[dk t r],sn (dk t r)⟩,⟨t.idx.map (gw t r),hD 0 (t.idx.map (gw t r))⟩,⟨fD t r t.al r,hD 0 (fD t r t.al r)⟩,⟨g8 t r t.al r,hD 0 (g8 t r t.al r)⟩):=by
 have h1:=f.IT;have h2:=f.Cu;have h3:=f.len;have h4:=Hz f;have w1:ra r=J (hX r):=ab5 ag aj;have w2:ra (eo t r)=J (hX (eo t r)):=ab5 ag (G8 f f.key _ aj);have j:∀q:Int,aT (λaJ=>uH aJ (λe fu=>match fu with|(a',v6,_,_,_,a,b,d,g,h,i,m,n,o)=>match e with
    |.exit 0=>
     (ra v6).bind λ(p,_)=>
     aT (λaJ=>uy aJ (λe fu=>match fu with|(_,_,_,_,_,_,_,s,u,v,w,x,y,z,a0)=>match e with
      |.exit 2=>
      J ((iO.mk s u),(iO.mk v w),(iO.mk x y),(iO.mk z a0))
      |_=>ah)) k (a',v6,p,a.al,(I a.al:Int),0,a,b,d,g,h,i,m,n,o)
    |_=>ah)) k (r,eo t r,t.idx,(I t.idx:Int),0,t,[dk t r],q,[],0,[],0,[],0)=J (⟨[dk t r],q⟩,⟨t.idx.map (gw t r),hD 0 (t.idx.map (gw t r))⟩,⟨fD t r t.al r,hD 0 (fD t r t.al r)⟩,⟨g8 t r t.al r,hD 0 (g8 t r t.al r)⟩):=λq=>by
  refine agx f (c:=λl e=>J (iO.mk [dk t r] q,iO.mk l e,iO.mk (fD t r t.al r) (hD 0 (fD t r t.al r)),iO.mk (g8 t r t.al r) (hD 0 (g8 t r t.al r)))) (λl e=>?_) k aV;simp only[w2,bZ];exact agD f (c:=λy8 aS ax3 e_=>J (iO.mk [dk t r] q,iO.mk l e,iO.mk y8 aS,iO.mk ax3 e_)) (λ_ _ _ _=>rfl) k aV
 have cF:tj t r t.key=J (eo t r,(eF t.al r t.key []).2):=aas ag h3;have aS:dk t r=⟨(dk t r).key,(hX r).1⟩:=rfl;have e_:sn (dk t r)=l5 0 (dk t r):=rfl;have kM:l5 0 (dk t r)=cond (aa ((0:Int)=0)) (cond (aa (200<(I (dk t r).key:Int))) 3 (cond (aa (4000<(I (hX r).1:Int))) 3 0)) 0:=NM _ _ _;rw[e_,kM];simp only[Hi,cF,bZ,w1,rK (show I [[114],t.name]<=4000 by simp),e0,List.map_nil,_M f,decide_true,a8];rw[<-aS];cases aa (200<(I (dk t r).key:Int))with
 |true=>exact j 3
 |false=>cases aa (4000<(I (hX r).1:Int))with|true=>exact j 3|false=>exact j 0
def dZ(t:bU)(r:U aH):U b7:=dk t r::(t.idx.map (gw t r)++(fD t r t.al r++g8 t r t.al r))
def lG(t:bU)(r:U aH):U b7×Int:=cond (aa (hS t r=0)) (cond ((dZ t r).all nW) (dZ t r,0) ([],3)) ([],hS t r)
def wQ:U iO->U b7->af (U b7×Int)|[],acc=>J (acc,0)|y::l,acc=>cond (aa (y.e=0)) (wQ l (acc++y.l)) (J ([],y.e))
theorem asX(a:b7)(x y z:U b7)(b c d uW:Bool):wQ [⟨[a],cond b 0 3⟩,⟨x,cond c 0 3⟩,⟨y,cond d 0 3⟩,⟨z,cond uW 0 3⟩] []=J (cond (b&&(c&&(d&&uW))) (a::(x++(y++z)),0) ([],3)):=by cases b<;>cases c<;>cases d<;>cases uW<;>simp[wQ]
theorem aoG{l:U iO}(g:I l<=100)(d:∀y,y∈l->I y.l<=200){kx:bf->El->af (U b7×Int)}(h1:∀e acc i,kx .ret ([],e,acc,l,(I l:Int),i)=J ([],e))(h2:∀acc,kx (.exit 0) ([],0,acc,l,(I l:Int),(I l:Int))=J (acc,0))(k:Nat)(h : 200<k) :
  aT (λa=>vZ a kx) k ([],0,[],l,(I l:Int),0)=wQ l []:=by
 have b:b5 (I l):=lr
 refine(kd (β:=U b7) (I l) (λi acc=>([],0,acc,l,(I l:Int),(i:Int))) (λi acc=>I acc<=200*i) (λi acc=>wQ (l.drop i) acc) (λi hi acc j a f=>?_) (λacc _ a=>?_) k 0 [] (cp _) ag (by simp)).trans iy
 .have m:=d _ (fo hi);simp only[vZ,ez hi,a8,bY hi,ax,cb (c:=.lay) hi,cV hi b,dn hi,wQ];rw[aY (show I acc+I l[i].l<=bJ by simp only[bJ];omega),a8];cases aa (l[i].e=0)with|true=>exact f _ (by rw[dc];omega)|false=>exact h1 _ _ _
 .simp only[vZ,eG,a_,h2];exact jz
theorem alP(b:nC t r=J (hS t r))(aj:lX r)(k:Nat)(c : 200<k):Hv k (t,r)=J (lG t r):=by
 simp only[Hv,b,bZ,lG];by_cases h0:hS t r=0
 .have f:=jX h0;have eO:=f.afF;have d:=EK (t:=t) (r:=r) t.al r;have g:=EL (t:=t) (r:=r) t.al r;have h:=f.Cu;rw[aY h0,dj,a_,a8,zo,aaV f aj 5000 ag,bZ];refine(aoG (l:=[⟨[dk t r],sn (dk t r)⟩,⟨t.idx.map (gw t r),hD 0 (t.idx.map (gw t r))⟩,⟨fD t r t.al r,hD 0 (fD t r t.al r)⟩,⟨g8 t r t.al r,hD 0 (g8 t r t.al r)⟩]) (by simp) (λy a=>?_) (λ_ _ _=>rfl) (λ_=>rfl) k c).trans ?_
  .simp only[ek,List.not_mem_nil,or_false]at a;rcases a with rfl|rfl|rfl|rfl
   .simp
   .simp only[List.length_map];omega
   .simp only;omega
   .simp only;omega
  .have e:sn (dk t r)=cond (nW (dk t r)) 0 3:=rfl;rw[e,H_,H_,H_,asX,dZ,et,List.all_append,List.all_append]
 .rw[bl h0];rfl
theorem Kg(a:nC t r=J (hS t r))(aj:lX r):E_ t r=J (lG t r):=alP a aj 5000 ag
end
end Go.Proofs.YtcoaaebppfbbnaaGreatDoor
