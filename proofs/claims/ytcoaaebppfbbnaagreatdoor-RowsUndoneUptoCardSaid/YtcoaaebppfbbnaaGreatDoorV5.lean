/- Texts of the proof,one behind the other: AxRn,Pf,Lo,AxIn,SxL,SxM,AxTh,Cg,AxOw,AxYl,Co,Cp,AxRy,Ta,AxMe,Tw,Dig,Dit,Diu,Dtt,Si,Sk,Pa,Lc,Na. -/
import Derived.Test.YtcoaaebppfbbnaaGreatDoorV4
import Derived.KernelRfl
import Derived.Laws.Cover3
import Derived.Lib.Overlaps
import Derived.Lib.AppendZerosOnto
import Derived.Test.YtcoaaebppfbbnaaGreatDoorProg
import Derived.Lib.Bytealg
set_option linter.all false
open List renaming length->I,replicate->eK,range->dy,mem_append->fM,getElem?_take->fQ,mem_cons->ek
open Option renaming some->J,none->ah
open Bool renaming true->ae,false->ai
open Decidable renaming decide->aa
open Go.Sem renaming run_bind->dG,run_pure->eW
open UInt8 renaming ofNat->bj
open Nat renaming ble->dz,blt->ec,le_trans->e2,zero_le->cp
open Go.Result renaming andThen_ok->fg
open Go.Fence renaming wide->gK
open Go renaming Value->aA,run_underlying->eX,IntKind->b',Operand->ct,Builtin->fP,Oper->bw,World->aK,TypeId->bD,maxLen->c5,Program->cx,execOp->cl
open Go.Builtin renaming zeroCells->gf
namespace Go
theorem b0{p:Prop}(h:p:=by kernel_rfl):p:=h
theorem dT{p:Prop}(h:p:=by dsimp only;decide +kernel):p:=h
theorem gg{p:Prop}(h:p:=by rw[ht (by simp only[da];omega)];omega):p:=h
theorem gW{p:Prop}(h:p:=by simp only[bJ];omega):p:=h
theorem hA{p:Prop}(h:p:=by decide +kernel):p:=h
theorem oU{p:Prop}(h:p:=by simp only[dc,List.length_singleton];omega):p:=h
theorem tz{p:Prop}(h:p:=by rw[H.p];exact follows):p:=h
theorem tA{p:Prop}(h:p:=by simp only[dc];omega):p:=h
theorem xa{p:Prop}(h:p:=by simp only[c5];omega):p:=h
theorem aeu{p:Prop}(h:p:=by rw[s];show eP _ _ _ (cs'.take ((I xs+1)*2));rw[b9];exact cZ):p:=h
theorem AS{p:Prop}(h:p:=by rw[H.p,H.e,H.g];exact h):p:=h
theorem Gg{p:Prop}(h:p:=by simp only[upto,bx,dM];omega):p:=h
theorem Gh{p:Prop}(h:p:=by simp[aw.eA,aw.e7.dI]):p:=h
theorem Gl{p:Prop}(h:p:=by rw[H.p,H.e];exact h):p:=h
theorem PI{p:Prop}(h:p:=by simpa[aw.eA]using cG.dV):p:=h
theorem aeC{p:Prop}(h:p:=by simp only[List.length_singleton];omega):p:=h
end Go
namespace Go
theorem sJ{p:Prop}(h:p:=by exact awI (awR (by assumption)) rfl):p:=h
theorem vC{p:Prop}(h:p:=by exact kc ⟨_,rfl⟩):p:=h
theorem Dn{p:Prop}(h:p:=by rw[if_neg ag,g0 ag];rfl):p:=h
theorem _o{p:Prop}(h:p:=by rw[s]at eJ;exact⟨_,rfl,_,_,aR,m4,⟨rfl,rfl,rfl,rfl,rfl⟩,dN,eJ⟩):p:=h
theorem _t{p:Prop}(h:p:=by rw[k,show Nat.min 1 _=1 from Nat.min_eq_left ag]):p:=h
theorem _F{p:Prop}(h:p:=by simp[cl,resolve,invoke,builtin,he.aF aW,he.aF bN,c];congr 3;apply Array.ext';simp):p:=h
theorem ad8{p:Prop}(h:p:=by rw[if_neg a1,if_neg ag,if_neg ag,if_neg a1]):p:=h
end Go
namespace Go.dS
structure ku (P:cx) (el:b1->bD) (bM:Nat->Option h_) (aO:Nat->ds) (ab:cB):Prop where
 p:ab.P=P
 e:ab.el=el
 g:ab.bM=bM
 t:∀t,eL P el aO t=ae
 m:P.follows .mixedOrders=ae
structure bT {R:Type}(ab:cB) (px:aM R):Prop where
 p:eR ab px
 c:hy ab px
 q:ik ab px
section
variable {R:Type}{P:cx}{el:b1->bD}{bM:Nat->af h_}{aO:Nat->ds}{ab:cB}
theorem br{px:aM R}{l:U (Nat×iD R)}{a:U (Nat×kf R)}{b:U (Nat×mg R)}(H:ku P el bM aO ab)(h:∀g f,(g,f)∈l->hk ab g f)(c:∀g f,(g,f)∈a->mV ab g f)(d:∀g f,(g,f)∈b->kZ ab g f)(h1:px.aO=aO:=by rfl)(h2:px.bM=bM:=by rfl)(h3:px.call=FP l:=by rfl)(h4:px.u0=Dd a:=by rfl)(h5:px.u1=tbl b:=by rfl)(h6:IV px:=by exactλ_ _ _ _=>rfl):bT ab px:=⟨⟨λt=>by rw[h1,H.p,H.e];exact H.t t,by rw[h2,H.g],h6.ok⟩,ar1 h3 h,aqr h4 h5 c d⟩
variable{bH:U ck}{sa:U ck}{F:au sa->af (au bH)}{g:Nat}
theorem axi(H:ku P el bM aO ab)(h:eH P el bM g sa bH F)(a:im (c8 0 sa) []=true:=by kernel_rfl):hk (R:=R) ab g (pb sa bH F):=avL AS a
variable{aQ:bt}{bG:bt}
theorem axh(H:ku P el bM aO ab){F:n4 aQ bG}(h:gj P el bM g aQ bG F)(a:qV aQ bG=true:=by kernel_rfl):hk (R:=R) ab g (fS aQ bG F):=avV AS a
variable{c:b1}
theorem afb(H:ku P el bM aO ab){F:au sa->af (au [.sl c ae])}(h:eH P el bM g sa [.sl c ae] F)(a:im (c8 0 sa) []=true:=by kernel_rfl)(b:AQ c=true:=by rfl):hk (R:=R) ab g (xS sa c F):=ak8 AS a b
variable{fn:Func}
theorem e8(H:ku P el bM aO ab){nb ba:Nat}{d:aM R}{c:Code}{n:Nat}(h:bT ab d)(e:P.funcs[g]? = J fn)(aj:fn.body=J c)(f:∀i,i<n->fR ab d (b_ fn i))(a:(fn.name == "runtime.NumGoroutine")=false:=by kernel_rfl)(b:oj fn=true:=by kernel_rfl)(j:ph fn=n:=by kernel_rfl):hk ab g (eY nb ba d fn):=alZ h.p h.c h.q (by rw[H.p];exact H.m) (by rw[H.p];exact e) aj a b j f
theorem c1(H:ku P el bM aO ab){l:U (Nat×iD R)}(h:eH P el bM g sa bH F)(c:∀g f,(g,f)∈l->hk ab g f)(a:im (c8 0 sa) []=true:=by kernel_rfl):∀b fl,(b,fl)∈(g,pb sa bH F)::l->hk ab b fl:=dY (axi H h a) c
theorem eO(H:ku P el bM aO ab){F:n4 aQ bG}{l:U (Nat×iD R)}(h:gj P el bM g aQ bG F)(c:∀g f,(g,f)∈l->hk ab g f)(a:qV aQ bG=true:=by kernel_rfl):∀b fl,(b,fl)∈(g,fS aQ bG F)::l->hk ab b fl:=dY (axh H h a) c
theorem bd(H:ku P el bM aO ab){l:U (Nat×kf R)}(h:eH P el bM g sa bH F)(c:∀g f,(g,f)∈l->mV ab g f)(a:im (c8 0 sa) []=true:=by kernel_rfl):∀b fl,(b,fl)∈(g,qB sa bH F)::l->mV ab b fl:=aqv (avu AS a) c
theorem w1(H:ku P el bM aO ab){F:au aQ.b3->af (au bG.b3)}{l:U (Nat×mg R)}(h:gj P el bM g aQ bG F)(c:∀g f,(g,f)∈l->kZ ab g f)(a:qV aQ bG=true:=by kernel_rfl):∀b fl,(b,fl)∈(g,o7 aQ bG F)::l->kZ ab b fl:=Y' (ZZ AS a) c
variable{k:Nat}
theorem cC{px:aM R}(H:ku P el bM aO ab)(h:bT ab px){b:Code}{n:Nat}{s:bt}{step:oQ (au s.b3) R}(a:∀bI d kx v,round px s b bI d kx v=step d kx v)(e:∀i,i<n->fR ab px (ss b i))(f:∀st K,px.loop b st K=cq k s step st K:=by exactλ_ _=>by kernel_rfl)(g:lT s=true:=by kernel_rfl)(j:I (gr b)=n:=by kernel_rfl):fR ab px b:=akH h.p h.c h.q (by rw[H.p];exact H.m) f g a (BH j e)
variable{f:FuncId}
theorem axC{c:Code}{px:aM (au bH)}{F:bb sa bH}{n:Nat}(g:∀t,eL P el aO t=ae)(hm:P.follows .mixedOrders=ae)(j:P.funcs[f]? = J fn)(aj:fn.body=J c)(d:(fn.name == "runtime.NumGoroutine")=ai)(e:(oj fn&&dz (I sa) fn.ntmps&&im (c8 0 sa) [])=ae)(k:ph fn=n)
  (h:∀ab,ku P el bM aO ab->bT ab px/\∀i,i<n->fR ab px (b_ fn i)) (l:∀x,mF px fn sa bH x J=F x):eH P el bM f sa bH F:=
 atf j aj d hm e k (λab a b c _=>by obtain⟨h1,h2⟩:=h ab ⟨a,b,c,g,hm⟩;exact⟨h1.p,h1.c,h1.q,h2⟩) l
theorem axB{c:Code}{px:aM (au bG.b3)}{F:n4 aQ bG}{n:Nat}(g:∀t,eL P el aO t=ae)(hm:P.follows .mixedOrders=ae)(j:P.funcs[f]? = J fn)(aj:fn.body=J c)(d:(fn.name == "runtime.NumGoroutine")=ai)(e:(oj fn&&dz aQ.n fn.ntmps)=ae)(k:ph fn=n)
  (h:∀ab,ku P el bM aO ab->bT ab px/\∀i,i<n->fR ab px (b_ fn i)) (l:∀x,ky px fn aQ bG x J=F x):gj P el bM f aQ bG F:=
 ajc j aj d hm e k (λab a b c=>by obtain⟨h1,h2⟩:=h ab ⟨a,b,c,g,hm⟩;exact⟨h1.p,h1.c,h1.q,h2⟩) l
end
variable{i:Nat}
theorem zL{s:ar}(h:i<I s):lI s (i:Int)=((s[i]'h).toNat:Int):=by simp[lI,List.getD_eq_getElem?_getD,h]
variable{c:b1}{xs:U (cL c)}
theorem cb(h:i<I xs):at' c xs (i:Int)=xs[i]'h:=by simp[at',List.getD_eq_getElem?_getD,h]
theorem adm{n:Nat}(h:b5 n):wr .i64 (n:Int)=(n:Int):=ht (by simp only[b5,da]at *;omega)
theorem cV{n:Nat}(h:i<n)(a:b5 n):wr .i64 ((i:Int)+1)=((i+1:Nat):Int):=by rw[ht (by simp only[b5,da]at *;omega)];rfl
variable{α:Type}
theorem dn{l:U α}(h:i<I l):l.drop i=l[i]'h::l.drop (i+1):=List.drop_eq_getElem_cons h
theorem bY{n:Nat}(h:i<n):aU (i:Int) n=true:=by simp[ak9,h]
variable{R:Type}{V:Type}{k:Nat}
theorem cQ{step:(V->af R)->V->af R}{v:V}:aT step (k+1) v=step (aT step k) v:=rfl
variable{a:α}
theorem a8{b:α}:cond ae a b=a:=rfl
theorem a_{b:α}:cond ai a b=b:=rfl
theorem fA{c:Bool}{b:α}:cond c (J a) (J b)=J (cond c a b):=Gy
theorem Y1{px:aM R}{ab:cB}{b:Code}(h:∀st K,px.loop b st K=ah):fR ab px b:=λst K r a=>by rw[h]at a;cases a
theorem kd{V R β:Type}{step:(V->af R)->V->af R}(n:Nat)(st:Nat->β->V)(Inv:Nat->β->Prop)(F:Nat->β->af R)
  (d:∀i,i<n->∀a,Inv i a->∀b,(∀bC,Inv (i+1) bC->b (st (i+1) bC)=F (i+1) bC)->step b (st i a)=F i a)
  (e:∀a,Inv n a->∀b,step b (st n a)=F n a):∀(k i:Nat) (a : β),i<=n->n-i<k->Inv i a->aT step k (st i a)=F i a
 |0,_,_,_,h,_=>absurd h (pv _)
 |k+1,i,a,hi,h,cI=>by
  rw[cQ];by_cases f:i<n
  .exact d i f a cI _ λbC c=>kd n st Inv F d e k (i+1) bC ag ag c
  .obtain rfl:i=n:=ag
   exact e a cI _
theorem gS{step:(V->af R)->V->af R}(n:Nat)(st:Nat->V)(F:Nat->af R)
  (b:∀i,i<n->∀a,a (st (i+1))=F (i+1)->step a (st i)=F i) (c:∀a,step a (st n)=F n):∀(k i:Nat),i<=n->n-i<k->aT step k (st i)=F i:=λk i hi d=>
 kd n (λi (_:Unit)=>st i) (λ_ _=>True) (λi _=>F i) (λi hi _ _ a h=>b i hi a (h () trivial)) (λ_ _ a=>c a) k i () hi d trivial
theorem ez{n:Nat}(h:i<n):aa ((i:Int)<(n:Int))=true:=aY ag
theorem eG(n:Nat):aa ((n:Int)<(n:Int))=false:=bl ag
def ia(e:bh):bh:=bh.mk e.kind ⟨e.v.kind,e.v.n,e.v.s⟩ e.name e.l
theorem n8(e:bh):ia e=e:=by cases e;rfl
open Go.RowKit
structure mI (P:cx) (f:FuncId) (t:bD) (bP:Nat):Prop where
 enters:aw.jE P f
 Cb:∀(a:Option Addr) (n c:Nat) (xs:List aA),xs.all aw.one=ae->n<=2000000->aw.hg P f [.slice a n c] [] (aw.mr (.slice a n c) bP n xs) (λv L _=>L=[.row v t bP n xs])
def s9(P:cx)(f:FuncId):Prop:=∀(a:af Addr) (c:Nat),aw.hg P f [.slice a 0 c] [] (λ_=>True) (λv _ _=>∃bC,v = .slice bC 0 0)
variable{x:cM}{ys:U (cL c)}
theorem avF{v:aA}(h:eI x.S x.w (.sl c ys .no) v):∃a cap vs,v = .slice a (I ys) cap/\eP x c ys vs/\∀w':aK,(∀k,k<x.w.heap.size->w'.heap[k]? = x.w.heap[k]?)->aw.mr v (aL c) (I ys) vs w':=by
 obtain⟨a,cap,vs,rfl,d,f⟩:=qn h;refine⟨a,cap,vs,rfl,d,λw' aj=>⟨d.1,a,cap,rfl,?_⟩⟩;obtain⟨bC,f',g,i⟩:=lV h;simp only[aA.slice.injEq]at g;rcases i with rfl|⟨b,o,e,hle,_⟩
 .exact .inl rfl
 .by_cases h0:ys=[]
  .grind
  .refine .inr ⟨b,o,g.1.trans e,by rw[g.2.2];exact hle.1,λj u l=>?_⟩;have an:=f b o (g.1.trans e) h0 j u l;rw[aK.cell?_of_block (a:=⟨b,o+j,ah⟩) (aj b (Ab an))];exact an
variable{P:cx}{w:aK}
theorem wj{Pre:aK->Prop}(h:∀w':aK,(∀k,k<w.heap.size->w'.heap[k]? = w.heap[k]?)->Pre w'):aw.dx ⟨P,0,w,aw.eA [],[]⟩ [] Pre w:=⟨aw.bF.refl _ _,by simp,by simp[aw.eA],by simp[aw.eA],by simp,λw' an=>h w' λk a=>an.block k a (by simp[aw.eA])⟩
variable{w':aK}
theorem yL(h:aw.bF [] w w'):bF er w w':=.y' h.os h.tape h.output h.size λk a=>h.block k a (by simp)
variable{f:FuncId}
theorem P6{v:aA}(h:mI P f (x.el c) (aL c))(d:eI x.S x.w (.sl c ys .no) v)(n:I ys<=2000000) :
  ∃vs,eP x c ys vs/\Calls P f #[v] x.w λdv w'=>∃u,dv = .returned u/\bF er x.w w'/\((u = .slice ah 0 0/\ys=[])\/∃g cap cur,u = .slice (J ⟨g,0,ah⟩) (I ys) cap/\(x.w.heap.size<=g/\g<w'.heap.size)/\w'.heap[g]? = J (.cells cur (x.el c) (0,0))/\cur.size=cap*aL c/\I ys<=cap/\cap<=c5/\cur.toList.take (I ys*aL c)=vs):=by
 obtain⟨a,cap,vs,rfl,b,e⟩:=avF d;refine⟨vs,b,((h.Cb a (I ys) cap vs (cX.2 b.one) n).run x.w [] (wj e)).mono ?_⟩;rintro dv w' ⟨u,L',dP,rfl,rfl,i⟩;refine⟨u,rfl,yL (by simpa[aw.eA]using i.dV),?_⟩;have j:w'.ownsRow 0 (x.el c) (aL c) u (I ys) vs:=i.ok (.row u (x.el c) (aL c) (I ys) vs) (by simp);rcases j.2 with ⟨rfl,h0⟩|⟨g,f',cur,rfl,_,m,hle,hm,k,l⟩
 .grind
 .refine .inr ⟨g,f',cur,rfl,⟨?_,(gG.1 m).1⟩,m,k,hle,hm,l⟩;rcases i.own g Gh with h1|h1
  .cases h1
  .exact h1
def Oc(c:b1):bb [.sl c ai] [.sl c ae]:=λ(ys:U (cL c))=>cond (aa (I ys<=2000000)) (J ys) ah
theorem D'{el:b1->bD}{bM:Nat->af h_}(h:mI P f (el c) (aL c)):eH P el bM f [.sl c ai] [.sl c ae] (Oc c):=by
 refine⟨h.enters,λx r l w M vs e4 _ ay=>?_⟩;have l:cond (aa (List.length (α:=cL c) x<=2000000)) (J x) ah=J r:=l;cases ao:aa (List.length (α:=cL c) x<=2000000)with
 |false=>rw[ao]at l;cases l
 |true=>
  rw[ao]at l;simp at l;subst l;simp at ao;simp[en,eT]at ay;obtain⟨v,_,rfl,aE,rfl⟩:=ay;obtain⟨us,k,an⟩:=P6 (x:=v0 el M w) h aE.1 ao;refine an.mono ?_;rintro dv w' ⟨u,rfl,n,hu⟩;rcases hu with ⟨rfl,h0⟩|⟨g,cap,cur,rfl,⟨a,aJ⟩,cf,aZ,hle,hm,bz⟩
  .refine⟨_,⟨λ_=>0,λ_=>ah⟩,rfl,n,λp g o _ cP=>by simp at cP,λp q g o o' _ _ cP=>by simp at cP,?_⟩;subst h0;exact⟨λ_ _=>.nil _ _ _ _ trivial,by simp[m'],λ_=>.inl ⟨rfl,rfl,rfl⟩⟩
  .let m:dg:=⟨λ_=>0,λp=>if p=0 then J (g,List.length (α:=cL c) x*aL c)else ah⟩;have e:∀p b o,m.a9 p=J (b,o)->p=0/\b=g/\o=List.length (α:=cL c) x*aL c:=λp b o s=>by grind
   refine⟨_,m,rfl,n,λp b o _ s=>?_,λp q b o o' _ _ s cA=>by rw[(e p b o s).1,(e q b o' cA).1],?_⟩
   .obtain⟨_,rfl,_⟩:=e p b o s;exact⟨a,aJ⟩
   .simp[hl,aB];have t:eP (m' el M m [.sl c ae] w') c x us:=⟨k.1,λi y j d bN ao=>by
     obtain⟨z,dB,bO⟩:=k.2 i y j d bN ao;refine⟨z,dB,eI.later bO (n.mono λ_ _ h=>h.elim) λb i hi=>?_⟩;rcases hi with hi|⟨p,o,_,s,_⟩
     .exact .inl hi
     .obtain⟨_,rfl,_⟩:=e p b o s;exact .inr a⟩
    refine⟨Au t ⟨hle,hm⟩ (λj z cN=>?_) (λi hi=>?_),by simp[m'],λ_=>.inr ⟨g,cap,cur,rfl,by simp[m',m],cf,aZ,hle,hm⟩⟩
    .show w'.cell? _=_;simp[aK.cell?,cf]
     grind
    .rintro(bk|⟨p,o,_,s,bK⟩)
     .have:=e4 g i bk;have a:w.heap.size<=g:=a;omega
     .grind
section
variable {R:Type}{ab:cB}
def sc(c:b1)(args:U D)(st:bc)(K:U D->bc->af R):af R:=match args with
 |[.sl cj xs _]=>match aa (cj = c)&&aa (I xs<=2000000)with|true=>cond (List.isEmpty xs) (K [.sl cj [] .z] st) (K [.gB st.nb cj 0 ((I xs:Nat):Int)] (hE st (.dyn cj xs)))|false=>ah
 |_=>ah
variable{cur:Array aA}{g:Nat}{vs:U aA}
theorem EO{cap:Nat}(a:eP x c ys vs)(k:x.w.heap[g]? = J (.cells cur (x.el c) (0,0)))(e:cur.size=cap*aL c)(hle:I ys<=cap)(hm:cap<=c5)(f:cur.toList.take (I ys*aL c)=vs):gX x g (.dyn c ys):=by
 refine⟨e2 hle hm,cur.toList,x.el c,by rw[Array.toArray_toList];exact k,(by have h:=Nat.mul_le_mul_right (aL c) hle;rw[<-e]at h;simpa using h),λi y j d l ao=>?_⟩;obtain⟨u,b,m⟩:=a.2 i y j d l ao;refine⟨u,?_,m⟩;rw[<-f,fQ]at b;split at b
 .exact b
 .cases b
variable{args:U D}{st:bc}
theorem ape(h:mI ab.P g (ab.el c) (aL c))(h0:s9 ab.P g){K:U D->bc->af R}{r:R}(an:sc c args st K=J r):o8 ab g args st K r:=by
 unfold sc at an;split at an
 .rename_i cj xs a9;split at an
  .rename_i f;simp at f;obtain⟨rfl,cJ⟩:=f;refine⟨h.enters,λm a as_ w vs ay b=>?_⟩;simp only[aX]at b;obtain⟨v,_,rfl,⟨i,_⟩,rfl⟩:=b;by_cases o:xs=[]
   .subst o;obtain⟨ad,cap,rfl,_⟩:=i.here.slice;refine((h0 ad cap).run w [] (wj λ_ _=>trivial)).mono ?_;rintro dv w' ⟨u,L',dP,rfl,⟨bC,rfl⟩,cG⟩;have d:bF er w w':=yL PI;refine⟨_,rfl,_,st,m,an,⟨rfl,rfl,rfl,rfl,rfl⟩,ay.quiet d,?_⟩;simp[hl];exact⟨λ_ _=>.nil _ _ _ _ trivial,rfl,bC,rfl⟩
   .have p:List.isEmpty xs=false:=by cases xs with|nil=>exact absurd rfl o|cons _ _=>rfl
    rw[p]at an;obtain⟨us,j,q⟩:=P6 (x:=vx ab m (az st) w) h i cJ;refine q.mono ?_;rintro dv w' ⟨u,rfl,d,hu⟩;rcases hu with ⟨_,e⟩|⟨s,cap,cur,rfl,⟨t,y⟩,cf,l,hle,hm,z⟩
    .exact absurd e o
    .obtain⟨aR,h1,h2⟩:=ay.newAt (k:=.dyn cj xs) (g:=s) d t y (λx' e5 hw=>EO (j.later e5) (by rw[hw,e5.el];exact cf) l hle hm z);rw[<-Oa]at h1 h2;refine⟨_,rfl,_,_,aR,an,⟨rfl,rfl,rfl,rfl,rfl⟩,h1,?_⟩;simp only[aB]at h2;simp[hl];obtain⟨dN,eJ⟩:=h2;simp at eJ;have n:(vx ab aR (az (hE st (.dyn cj xs))) w').m.ak st.nb=s:=eJ.symm;refine⟨dN,Int.le_refl _,Int.natCast_nonneg _,by have:=e2 hle hm;omega,J ⟨s,0,ah⟩,cap,by simp,.inr (by rw[n];simp),by simpa using hle,hm,cur,(0,0),by rw[n];exact cf,by simpa using l⟩
  .cases an
 .cases an
def EN(c:b1)(args:U D)(st:bc)(K:D->U Nat->bc->af R):af R:=match args with
 |[.sl cj xs _]=>match aa (cj = c)&&aa (I xs<=2000000)with
  |true=>cond (List.isEmpty xs) (K (.sl cj [] .z) [] st) (match bu st.ak st.nb with
   |none=>K (.gB st.nb cj 0 ((I xs:Nat):Int)) [] (hE st (.dyn cj xs))
   |some _=>ah)
  |false=>ah
 |_=>ah
theorem apg(k:c_)(h:bu st.ak st.nb=ah):∀b,b∉([]:U Nat)->ja (az st) (az (hE st k)) b:=λb _=>by
 have e:∀q,(az (hE st k)).ak q=if q=st.nb then J k else(az st).ak q:=λq=>fi st.ak st.nb q k
 refine⟨λq a=>?_,λq a c=>?_⟩
 .rw[e];by_cases aj:b=st.nb
  .subst aj;have a:bu st.ak st.nb=J q:=a;rw[h]at a;cases a
  .rw[if_neg aj];exact a
 .have c:b<st.nb:=c;rw[e,if_neg ag]at a;exact a
theorem amC(h:mI ab.P g (ab.el c) (aL c))(h0:s9 ab.P g):kZ (R:=R) ab g (EN c):=by
 intro args st K r an;unfold EN at an;split at an
 .rename_i t xs a9;split at an
  .rename_i l;simp at l;obtain⟨rfl,cJ⟩:=l;by_cases y:xs=[]
   .subst y;refine⟨_,[],st,an,⟨rfl,rfl,rfl,rfl,rfl⟩,b2 _,λb _=>ja.ve rfl b,h.enters,λs m a as_ w vs q z d=>?_⟩;simp only[aX]at d;obtain⟨v,_,rfl,⟨f,_⟩,rfl⟩:=d;obtain⟨ad,cap,rfl,_⟩:=f.here.slice;refine((h0 ad cap).run w [] (wj λ_ _=>trivial)).mono ?_;rintro dv w' ⟨u,L',dP,rfl,⟨bC,rfl⟩,cG⟩;have i:bF er w w':=yL PI;rw[xE q];refine⟨_,rfl,m,z.quiet i,?_⟩;simp[aB];exact⟨λ_ _=>.nil _ _ _ _ trivial,rfl,bC,rfl⟩
   .have aJ:List.isEmpty xs=false:=by cases xs with|nil=>exact absurd rfl y|cons _ _=>rfl
    rw[aJ]at an;cases j:bu st.ak st.nb with
    |some k=>rw[j]at an;cases an
    |none=>
    rw[j]at an;refine⟨_,[],hE st (.dyn t xs),an,⟨rfl,rfl,rfl,rfl,rfl⟩,Nat.le_succ _,apg _ j,h.enters,λs m a as_ w vs q z d=>?_⟩;simp only[aX]at d;obtain⟨v,_,rfl,⟨f,_⟩,rfl⟩:=d;obtain⟨us,n,aZ⟩:=P6 (x:=vx ab m s w) h f cJ;refine aZ.mono ?_;rintro dv w' ⟨u,rfl,i,hu⟩;rcases hu with ⟨_,e⟩|⟨fm,cap,cur,rfl,⟨bk,bz⟩,cf,o,hle,hm,ac⟩
    .exact absurd e y
    .obtain⟨aR,h1,h2⟩:=z.newAt (k:=.dyn t xs) (g:=fm) i bk bz (λx' e5 hw=>EO (n.later e5) (by rw[hw,e5.el];exact cf) o hle hm ac);rw[uw st _ s q];refine⟨_,rfl,aR,h1,?_⟩;simp only[aB]at h2 ⊢;obtain⟨dN,eJ⟩:=h2;simp at eJ;have bL:st.nb=s.nb:=q.2.1.symm;rw[bL];have p:(vx ab aR { s with ak:=λb=>if b=s.nb then J (.dyn t xs)else s.ak b,nb:=s.nb+1 } w').m.ak s.nb=fm:=eJ.symm;refine⟨dN,Int.le_refl _,Int.natCast_nonneg _,by have:=e2 hle hm;omega,J ⟨fm,0,ah⟩,cap,by simp,.inr (by rw[p];simp),by simpa using hle,hm,cur,(0,0),by rw[p];exact cf,by simpa using o⟩
  .cases an
 .cases an
theorem acV(l:U α):cut l 0 (0+((I l:Nat):Int))=l:=by simp[cut]
variable{as_:U Act}{m:dg}
theorem aaK{a:Act}(h:Rel ab m a as_ (az st) w){b cap:Nat}(aj:bu st.ak b=J (.dyn c xs))(j:w.heap[m.ak b]? = J (.cells cur (ab.el c) (0,0)))(g:cur.size=cap*aL c)(hle:I xs<=cap)(hm:cap<=c5) :
  Rel ab m a as_ (az { st with ak:=fc st.ak b }) w/\aB (vx ab m (az { st with ak:=fc st.ak b }) w) (.sl c xs .no) (.slice (J ⟨m.ak b,0,ah⟩) (I xs) cap):=by
 have ao:aB (vx ab m (az st) w) (.gB b c 0 ((I xs:Nat):Int)) (.slice (J ⟨m.ak b,0,ah⟩) (I xs) cap):=by simp only[aB];exact⟨(h.eb b _ aj).1,Int.le_refl _,Int.natCast_nonneg _,by have:=e2 hle hm;omega,J ⟨m.ak b,0,ah⟩,cap,by simp,.inr (by simp[vx]),by simpa using hle,hm,cur,(0,0),j,by simpa using g⟩
 have k:w6 st.ak (.gB b c 0 ((I xs:Nat):Int)) (λd ak=>J (d,ak))=J (.sl c xs .no,fc st.ak b):=by simp only[w6,aj];rw[acV];refine(awl ?_);simp
 obtain⟨n,l,i,e,_,f,_⟩:=Ko h ao k;simp at i;obtain⟨rfl,rfl⟩:=i;exact⟨e,f⟩
variable{xs':U (cL c)}
theorem ah9{a:Act}(o:Rel ab m a as_ (az st) w){b cap:Nat}{e:U aA}(aj:bu st.ak b=J (.dyn c xs))(h:bF (λq _=>q=m.ak b) w w')(j:w'.heap[m.ak b]? = J (.cells e.toArray (ab.el c) (0,0)))(l:I e=cap*aL c)(f:eP (vx ab m (az st) w) c xs' (e.take (I xs'*aL c)))(hle:I xs'<=cap)(hm:cap<=c5) :
  ∃aR,Rel ab aR a as_ (az { st with ak:=fc st.ak b,nb:=st.nb+1 }) w'/\aB (vx ab aR (az { st with ak:=fc st.ak b,nb:=st.nb+1 }) w') (.sl c xs' .no) (.slice (J ⟨m.ak b,0,ah⟩) (I xs') cap):=by
 have d:=o.write (k:=.dyn c xs') (b:=b) aj h (λx' n p=>EO (f.later n) (by rw[p,n.el];exact j) (by simpa using l) hle hm (by simp));have r:az { st with ak:=eZ st.ak b (.dyn c xs') }={ az st with ak:=λq=>if q=b then J (.dyn c xs')else(az st).ak q }:=by
  refine FS.eq rfl rfl rfl rfl rfl ?_ rfl rfl rfl;funext q;show bu (eZ st.ak b _) q=_;rw[oW];by_cases g:q=b
  .subst g;simp[aj]
  .simp[g];rfl
 rw[<-r]at d;have i:bu (eZ st.ak b (.dyn c xs')) b=J (.dyn c xs'):=by rw[oW,if_pos rfl,aj];rfl
 obtain⟨h1,h2⟩:=aaK (st:={ st with ak:=eZ st.ak b (.dyn c xs') }) d i j (by simpa using l) hle hm;have aS:az { st with ak:=fc (eZ st.ak b (.dyn c xs')) b }=az { st with ak:=fc st.ak b }:=by refine FS.eq rfl rfl rfl rfl rfl ?_ rfl rfl rfl;funext q;show bu (fc (eZ st.ak b _) b) q=bu (fc st.ak b) q;rw[n3,n3,oW];by_cases g:q=b<;>simp[g]
 have h1:Rel ab m a as_ (az { st with ak:=fc st.ak b }) w':=by rw[<-aS];exact h1
 have h3:=Rel.raise (st:={ st with ak:=fc st.ak b }) (nb:=st.nb+1) (ba:=st.ba) (Nat.le_succ _) (b2 _) h1;refine⟨m,h3,?_⟩;simp at h2 ⊢;refine⟨?_,trivial⟩;have s:(vx ab m (az { st with ak:=fc (eZ st.ak b (.dyn c xs')) b }) w').S=(vx ab m (az { st with ak:=fc st.ak b,nb:=st.nb+1 }) w').S:=by show(vx ab m (az { st with ak:=fc (eZ st.ak b (.dyn c xs')) b }) w').S=(vx ab m (az { st with ak:=fc st.ak b }) w').S;rw[aS]
 rw[<-s];exact h2.1
theorem asZ{a:Act}(t:Rel ab m a as_ (az st) w){b cap:Nat}{d:U aA}(n:bF er w w')(o:w.heap.size<=g)(p:w'.heap[g]? = J (.cells d.toArray (ab.el c) (0,0)))(u:I d=cap*aL c)(h:eP (vx ab m (az st) w) c xs' (d.take (I xs'*aL c)))(hle:I xs'<=cap)(hm:cap<=c5) :
  ∃aR,Rel ab aR a as_ (az { st with ak:=fc st.ak b,nb:=st.nb+1 }) w'/\aB (vx ab aR (az { st with ak:=fc st.ak b,nb:=st.nb+1 }) w') (.sl c xs' .no) (.slice (J ⟨g,0,ah⟩) (I xs') cap):=by
 obtain⟨aR,h1,h2⟩:=t.newAt (k:=.dyn c xs') (g:=g) n o (gG.1 p).1 (λx' j x=>EO (h.later j) (by rw[x,j.el];exact p) (by simpa using u) hle hm (by simp));rw[<-Oa]at h1 h2;simp only[aB]at h2;have v:=h2.2;simp at v;have i:aR.ak st.nb=g:=v.symm;have r:bu (hE st (.dyn c xs')).ak st.nb=J (.dyn c xs'):=by show bu ((st.nb,_)::st.ak) st.nb=_;rw[fi,if_pos rfl]
 obtain⟨h3,h4⟩:=aaK (st:=hE st (.dyn c xs')) h1 r (by rw[i];exact p) (by simpa using u) hle hm;rw[i]at h4;obtain⟨h5,j⟩:=h3.drop b;have h6:=aB.later j _ _ h4;have f:bu st.ak st.nb=none:=by cases y:bu st.ak st.nb with|none=>rfl|some k=>exact absurd (t.eb st.nb k y).1 (Nat.lt_irrefl _)
 have e:az { { hE st (.dyn c xs')with ak:=fc (hE st (.dyn c xs')).ak st.nb }with ak:=fc (fc (hE st (.dyn c xs')).ak st.nb) b }=az { st with ak:=fc st.ak b,nb:=st.nb+1 }:=by
  refine FS.eq rfl rfl rfl rfl rfl ?_ rfl rfl rfl;funext q;show bu (fc (fc ((st.nb,_)::st.ak) st.nb) b) q=bu (fc st.ak b) q;rw[n3,n3,n3,fi];by_cases s:q=b
  .simp[s]
  .rw[if_neg s,if_neg s];by_cases l:q=st.nb
   .rw[if_pos l,l,f]
   .rw[if_neg l,if_neg l]
 rw[e]at h5 h6;exact⟨aR,h5,h6⟩
theorem ab6(b:I xs*aL c<=I vs)(h:∀i y j d,xs[i]? = J y->(enc c y)[j]? = J d->∃u,vs[i*aL c+j]? = J u/\eI x.S x.w d u):eP x c xs (vs.take (I xs*aL c)):=by
 refine⟨by rw[List.length_take];exact Nat.min_eq_left b,λi y j d a ao=>?_⟩;obtain⟨u,e,f⟩:=h i y j d a ao;refine⟨u,?_,f⟩;have hi:i<I xs:=(hG.1 a).1;have g:j<aL c:=EQ
 have:i*aL c+j<I xs*aL c:=by have h1:(i+1)*aL c<=I xs*aL c:=Nat.mul_le_mul_right _ hi;rw[Nat.add_mul]at h1;omega
 rw[List.getElem?_take_of_lt this];exact e
theorem eP.take(h:eP x c xs vs)(k:Nat)(e:k<=I xs):eP x c (xs.take k) (vs.take (k*aL c)):=by
 have a:I (xs.take k)=k:=by rw[List.length_take];exact Nat.min_eq_left e
 have:=ab6 (x:=x) (c:=c) (xs:=xs.take k) (vs:=vs) (by rw[a,h.1];exact Nat.mul_le_mul_right _ e) (λi y j d b ao=>by
  rw[fQ]at b;split at b
  .exact h.2 i y j d b ao
  .cases b)
 rwa[a]at this
theorem eP.drop(h:eP x c xs vs)(k:Nat):eP x c (xs.drop k) (vs.drop (k*aL c)):=by refine⟨by rw[iu,iu,h.1,Nat.sub_mul],λi y j d a ao=>?_⟩;rw[List.getElem?_drop]at a;obtain⟨u,b,e⟩:=h.2 (k+i) y j d a ao;refine⟨u,?_,e⟩;rw[List.getElem?_drop,<-b];congr 1;rw[Nat.add_mul,Nat.add_assoc]
theorem ar3{d:D}(h:i' w d (.tuple #[])):False:=jU
theorem ai2{y:cL c}{b o n cap:Nat}{cs:Array aA}{t:bD}(h:eI x.S x.w (.sl c (y::ys) .no) (.slice (J ⟨b,o,ah⟩) n cap))(s:∀i,x.S g i)(d:x.w.heap[g]? = J (.cells cs t (0,0))):b≠g:=by
 intro e;subst e;have f:bF x.S x.w (x.w.setRow b (eK cs.size (.tuple #[])).toArray):=by have j:aw.bF [b] x.w (x.w.setRow b (eK cs.size (.tuple #[])).toArray):=⟨rfl,rfl,rfl,by simp,λk _ v=>setRow_other x.w b k _ (by simpa using v)⟩;refine(uf j (vs:=cs.toList) (us:=eK cs.size (.tuple #[])) (t:=t) (by rw[Array.toArray_toList];exact d) (setRow_heap _ b _ _ t (0,0) d) (by simp)).mono λq i r=>?_;subst r;exact s i
 obtain⟨bC,f',e,z⟩:=(h _ f).slice;rcases z with la|⟨bQ,o',rfl,_,l⟩
 .cases la
 .simp at e;obtain⟨⟨rfl,rfl⟩,_⟩:=e;have m : 0<I (enc c y):=by rw[ij];exact EH c
  obtain⟨u,a,p⟩:=l 0 y rfl 0 _ (ho m);simp only[aK.cell?,(setRow_heap x.w b _ (eK cs.size (aA.tuple #[])).toArray t (0,0) d)]at a;simp at a;have:u = .tuple #[]:=by obtain⟨r,a⟩:=gG.1 a;simp at a;exact a.symm
  subst this;exact ar3 p
structure PQ (P:cx) (f:FuncId) (t:bD):Prop where
 enters:aw.jE P f
 Cb:∀(g n i cap gE g4 lR:Nat) (cs ys:List aA),0<n->i<=n->n<=cap->I cs=cap*2->(∀v,v∈cs.take (n*2)->aw.one v=ae)->I ys=2->(∀v,v∈ys->aw.one v=ae)->gE≠g->n<=2000000 ->
  aw.hg P f [.slice (J ⟨g,0,ah⟩) n cap,.int .i64 i,.slice (J ⟨gE,g4,ah⟩) 1 lR] [.bu g cs t] (λw=>∀(j:Nat) v,ys[j]? = J v->w.cell? ⟨gE,g4+j,ah⟩=J v) (λv L _=>
   (∃cs',v = .slice (J ⟨g,0,ah⟩) (n+1) cap/\n+1<=cap/\L=[.bu g cs' t]/\I cs'=I cs/\cs'.take ((n+1)*2)=cs.take (i*2)++ys++(cs.drop (i*2)).take ((n-i)*2)) \/
   (∃b f' cs',v = .slice (J ⟨b,0,ah⟩) (n+1) f'/\n+1<=f'/\f'<=c5/\L=[.bu b cs' t,.bu g cs t]/\I cs'=f'*2/\cs'.take ((n+1)*2)=cs.take (i*2)++ys++(cs.drop (i*2)).take ((n-i)*2)))
 QG:∀(a:Option Addr) (gE g4 lR:Nat) (ys:List aA),I ys=2->(∀v,v∈ys->aw.one v=ae) ->
  aw.hg P f [.slice a 0 0,.int .i64 0,.slice (J ⟨gE,g4,ah⟩) 1 lR] [] (λw=>∀(j:Nat) v,ys[j]? = J v->w.cell? ⟨gE,g4+j,ah⟩=J v) (λv L _=>∃b f' cs',v = .slice (J ⟨b,0,ah⟩) 1 f'/\1<=f'/\f'<=c5/\L=[.bu b cs' t]/\I cs'=f'*2/\cs'.take 2=ys)
def E5(args:U D)(st:bc)(K:U D->bc->af R):af R:=match args with
 |[.gB b .idx p n,.int .i64 i,.sl .idx [y] _]=>match bu st.ak b with
  |some (.dyn .idx xs)=>ax (aa (p=0)&&aa (0<n)&&aa (n=(I xs:Int))&&aa (0<=i)&&aa (i<=n)&&aa (n<=2000000)) (K [.sl .idx (xs.take i.toNat++y::xs.drop i.toNat) .no] { st with ak:=fc st.ak b,nb:=st.nb+1 })
  |_=>ah
 |[.sl .idx [] .z,.int .i64 i,.sl .idx [y] _]=>ax (aa (i=0)) (K [.sl .idx [y] .no] st)
 |_=>ah
theorem XR{y:cL .idx}{v:aA}(h:eI x.S x.w (.sl .idx [y] .no) v):∃gE g4 lR us,v = .slice (J ⟨gE,g4,ah⟩) 1 lR/\eP x .idx [y] us/\I us=2/\(∀z,z∈us->aw.one z=ae)/\∀(j:Nat) u,us[j]? = J u->x.w.cell? ⟨gE,g4+j,ah⟩=J u:=by
 obtain⟨a,cap,us,rfl,c,d⟩:=qn h;obtain⟨bC,f',e,f⟩:=lV h;simp at e;rcases f with g|⟨b,o,i,_⟩
 .cases g
 .have k:=e.1.trans i;subst k;exact⟨b,o,cap,us,rfl,c,by rw[c.1];rfl,c.one,d b o rfl (by simp)⟩
theorem anj(h:PQ ab.P g (ab.el .idx)){K:U D->bc->af R}{r:R}(an:E5 args st K=J r):o8 ab g args st K r:=by
 unfold E5 at an;split at an
 .rename_i b p n i y a9;split at an
  .rename_i xs aj;obtain⟨aV,m4⟩:=fz an;simp at aV;obtain⟨⟨⟨⟨⟨bn,cJ⟩,s⟩,be⟩,iR⟩,hJ⟩:=aV;subst bn s;obtain⟨i,rfl⟩:∃k:Nat,i=k:=⟨i.toNat,by omega⟩;refine⟨h.enters,λm a as_ w vs ay d=>?_⟩;simp only[aX]at d;obtain⟨v1,_,rfl,⟨jt,_,_,_,ad,cap,rfl,ea,hle,c0,cur,f,aJ,du⟩,v2,_,rfl,⟨rfl,_⟩,aD,_,rfl,⟨cE,_⟩,rfl⟩:=d;obtain⟨_,iQ,vs,t,bL,dF,ff⟩:=ay.eb b _ aj;have aJ:w.heap[m.ak b]? = J (.cells cur (ab.el .idx) f):=aJ;have bL:w.heap[m.ak b]? = J (.cells vs.toArray t (0,0)):=bL;rw[aJ]at bL;simp at bL;obtain⟨rfl,rfl,rfl⟩:=bL;obtain rfl:=ea.resolve_left ag;have am:I vs=cap*2:=by simpa[aL]using du
   simp at hle;have aZ:=ab6 (x:=vx ab m (az st) w) dF ff;obtain⟨gE,g4,lR,us,rfl,bk,dp,ap,l⟩:=XR cE;have fF:(az st).ak b≠none:=PD
   have dL:gE≠m.ak b:=ai2 (x:=vx ab m (az st) w) cE (λ_=>.inr (.inl ⟨b,fF,rfl⟩)) aJ;have fG:∀v,v∈vs.take (I xs*2)->aw.one v=true:=aZ.one;have fr:aw.dx ⟨ab.P,0,w,aw.eA [.bu (m.ak b) vs (ab.el .idx)],[]⟩ [.bu (m.ak b) vs (ab.el .idx)] (λw=>∀(j:Nat) v,us[j]? = J v->w.cell? ⟨gE,g4+j,ah⟩=J v) w:=by
    refine⟨aw.bF.refl _ _,λq cA=>?_,by simp[aw.eA,aw.e7.dI],λq cA=>.inl cA,by simp,λw' gk j v cN=>?_⟩
    .simp at cA;subst cA;exact aJ
    .refine gk.cell (l j v cN) ?_;simpa[aw.eA,aw.e7.dI]using dL
   have d:([.slice (J ⟨m.ak b,(0:Int).toNat*aL .idx,ah⟩) ((I xs:Nat):Int).toNat cap,.int .i64 (i:Int),.slice (J ⟨gE,g4,ah⟩) 1 lR]:U aA)=[.slice (J ⟨m.ak b,0,ah⟩) (I xs) cap,.int .i64 i,.slice (J ⟨gE,g4,ah⟩) 1 lR]:=by simp
   show Calls ab.P g ([.slice (J ⟨m.ak b,(0:Int).toNat*aL .idx,ah⟩) ((I xs:Nat):Int).toNat cap,.int .i64 (i:Int),.slice (J ⟨gE,g4,ah⟩) 1 lR]:U aA).toArray w _;rw[d];refine((h.Cb (m.ak b) (I xs) i cap gE g4 lR vs us ag ag hle am fG dp ap dL ag).run w [] fr).mono ?_;rintro dv w' ⟨u,L',dP,rfl,dH,cG⟩;have bz:aw.bF [m.ak b] w w':=by simpa[aw.eA,aw.e7.dI]using cG.dV
   have d_:i<=I xs:=ag
   have cZ:eP (vx ab m (az st) w) .idx (xs.take i++y::xs.drop i) (vs.take (i*2)++us++(vs.drop (i*2)).take ((I xs-i)*2)):=by
    have e_:=((aZ.take i d_).append bk).append (aZ.drop i);rw[fI,List.singleton_append]at e_;have bd:(vs.take (I xs*aL .idx)).take (i*aL .idx)=vs.take (i*2):=by rw[List.take_take,Nat.min_eq_left (Nat.mul_le_mul_right _ d_)];rfl
    have ei:(vs.take (I xs*aL .idx)).drop (i*aL .idx)=(vs.drop (i*2)).take ((I xs-i)*2):=by rw[List.drop_take];show(vs.drop (i*2)).take (I xs*2-i*2)=_;rw[<-Nat.sub_mul]
    rw[bd,ei]at e_;exact e_
   have s:I (xs.take i++y::xs.drop i)=I xs+1:=dh
   simp at m4;rcases dH with ⟨cs',rfl,e,rfl,bW,b9⟩|⟨bQ,f',cs',rfl,e,ch,rfl,bW,b9⟩
   .have ac:w'.heap[m.ak b]? = J (.cells cs'.toArray (ab.el .idx) (0,0)):=cG.ok (.bu (m.ak b) cs' (ab.el .idx)) (by simp);obtain⟨aR,dN,eJ⟩:=ah9 (c:=.idx) (xs':=xs.take i++y::xs.drop i) ay aj (uf bz aJ ac bW) ac (cap:=cap) (by rw[bW];exact am) aeu (by rw[s];exact e) c0;exact _o
   .have ac:w'.heap[bQ]? = J (.cells cs'.toArray (ab.el .idx) (0,0)):=cG.ok (.bu bQ cs' (ab.el .idx)) (by simp);have gz:w'.heap[m.ak b]? = J (.cells vs.toArray (ab.el .idx) (0,0)):=cG.ok (.bu (m.ak b) vs (ab.el .idx)) (by simp);have gN:bQ≠m.ak b:=by have:=cG.nodup;simpa[aw.eA,aw.e7.dI]using this
    have dE:w.heap.size<=bQ:=by
     rcases cG.own bQ Gh with h1|h1
     .exact absurd (by simpa[aw.eA,aw.e7.dI]using h1) gN
     .exact h1
    have cy:bF er w w':=.y' bz.os bz.tape bz.output bz.size λk aV=>by
     by_cases d':k=m.ak b
     .rw[d',gz,aJ]
     .exact bz.block k aV (by simpa using d')
    obtain⟨aR,dN,eJ⟩:=asZ (b:=b) (c:=.idx) (xs':=xs.take i++y::xs.drop i) ay cy dE ac (cap:=f') bW aeu (by rw[s];exact e) ch;exact _o
  .cases an
 .rename_i i y a9;obtain⟨aV,m4⟩:=fz an;simp at aV;subst aV;refine⟨h.enters,λm a as_ w vs ay d=>?_⟩;simp only[aX]at d;obtain⟨v1,_,rfl,⟨_,_,ad,rfl⟩,v2,_,rfl,⟨rfl,_⟩,aD,_,rfl,⟨cE,_⟩,rfl⟩:=d;obtain⟨gE,g4,lR,us,rfl,bk,dp,ap,l⟩:=XR cE;refine((h.QG ad gE g4 lR us dp ap).run w [] (wj λw' aj j v cN=>?_)).mono ?_
  .have ef:=l j v cN;rw[aK.cell?_of_block (a:=⟨gE,g4+j,ah⟩) (aj gE (Ab ef))];exact ef
  .rintro dv w' ⟨u,L',dP,rfl,⟨bQ,f',cs',rfl,e,ch,rfl,bW,b9⟩,cG⟩;have cy:bF er w w':=yL PI;have ac:w'.heap[bQ]? = J (.cells cs'.toArray (ab.el .idx) (0,0)):=cG.ok (.bu bQ cs' (ab.el .idx)) (by simp);have dE:w.heap.size<=bQ:=by
    rcases cG.own bQ Gh with h1|h1
    .cases h1
    .exact h1
   have e5:eD (vx ab m (az st) w) (vx ab m (az st) w'):=⟨cy.mono (λ_ _ h=>h.elim),λb i hi=>.inl hi,rfl,λ_ _=>rfl,b2 _,b2 _,λt _ cI=>⟨cI,rfl,λg o cP=>cy.block g (ay.kr cI cP) (λ_ h=>h)⟩⟩;refine⟨_,rfl,_,st,m,m4,⟨rfl,rfl,rfl,rfl,rfl⟩,ay.quiet cy,?_⟩;simp[hl];refine⟨Au (x:=vx ab m (az st) w') (bk.later e5) ⟨e,ch⟩ (λj z cN=>?_) (λi _=>Yt ay dE i),trivial⟩;show w'.cell? _=_;simp[aK.cell?,ac];rw[<-b9,fQ]at cN;split at cN
   .simpa using cN
   .cases cN
 .cases an
end
section
variable {R:Type}{P:cx}{el:b1->bD}{bM:Nat->af h_}{aO:Nat->ds}{ab:cB}
variable{g:Nat}
theorem B_(H:ku P el bM aO ab)(h:mI P g (el c) (aL c))(h0:s9 P g):hk (R:=R) ab g (sc c):=λ_ _ _ _ an=>ape Gl (by rw[H.p];exact h0) an
theorem awe(H:ku P el bM aO ab)(h:mI P g (el c) (aL c))(h0:s9 P g):kZ (R:=R) ab g (EN c):=amC Gl (by rw[H.p];exact h0)
theorem awB(H:ku P el bM aO ab)(h:PQ P g (el .idx)):hk (R:=R) ab g E5:=λ_ _ _ _ an=>anj Gl an
end
end Go.dS
namespace Go.aw
open Go.RowKit
section
variable {ab:cB}{k:U k7}{e:Env}{L:Loc}{F:aK->Prop}{Q:Exit->Act->aK->Prop}{ops:Array bw}{l:U bw}{w:aK}
theorem dx.swap{x y:e7}(h:dx ab (x::L) F w)(b:y.dI=x.dI)(c:y.ok w):dx ab (y::L) F w:=by
 have d:eA (y::L)=eA (x::L):=by simp[eA,b]
 refine⟨h.dV,?_,by rw[d];exact h.nodup,by rw[d];exact h.own,h.fE,by rw[d];exact h.nP⟩;intro z a;simp at a;rcases a with rfl|a
 .exact c
 .exact h.ok z (nE _ a)
variable{u:bD}
theorem dx.axc{b:Nat}(bP:Nat)(h:dx ab (.bu b [] u::L) F w):dx ab (.row (.slice (J ⟨b,0,ah⟩) 0 0) u bP 0 []::L) F w:=h.swap rfl ⟨by simp,.inr ⟨b,0, #[],rfl,cp _,h.ok _ ot,b2 _,cp _,by simp,by simp⟩⟩
theorem ur{b:Nat}(bP:Nat)(h:O ab ops l k e (.row (.slice (J ⟨b,0,ah⟩) 0 0) u bP 0 []::L) F Q):O ab ops l k e (.bu b [] u::L) F Q:=.mk λa w c d=>h.run a w c (d.axc bP)
variable{P:cx}{a:af Addr}{c:Nat}{t:bD}{t':bD}{x:ct}{y:ct}
theorem o9{n:Nat}(bP:Nat)(b:(nI P t == J bP)=ae)(d:Env.aF e x=J (.slice a n c))(f:Env.aF e y=J (.slice ah 0 0)):Pure P e (.binOp .eql t x y t') (.bool a.isNone):=by obtain⟨u,g,_⟩:=Bn (n:=bP) qi;refine gR d f (λw=>rfl) λw=>?_;have:=run_equal_slice_nil (P:=P) w t u a n c g;simp[binOp,this]
end
variable{P:cx}
theorem agV(w:aK)(k l ty elem:bD)(i0:TypeInfo)(g o c e:Nat)(a:Addr)(b d:Nat)(cur:Array aA)(t:bD)(cs:U aA)(m:P.underlying k=J (.slice elem))(hi:P.info? elem=J i0)
  (n:w.heap[g]? = J (.cells cur t (0,0))) (p:I cs=Nat.min b c*i0.size) (f:∀j v,cs[j]? = J v->w.cell? (a.add j)=J v) (h:o+I cs<=cur.size) (h1:∀v∈cs,v.oneCell' = ae) :
  (fP.copy_ #[k,l] ty #[.slice (J ⟨g,o,ah⟩) c e,.slice (J a) b d]).run P w =
   .ok (goInt (Nat.min b c)) (w.setRow g (cur.toList.take o++cs++cur.toList.drop (o+I cs)).toArray):=by
 have q:=run_firstCells_some (P:=P) w i0.size (Nat.min b c) a b d cs p f;have i:=run_storeCells_at P g o t cs 0 cur w n n1 h1;simp at i;simp[fP.copy_,eX m,fP.lenOf,sizeOf,typeInfo,hi,q,i]
section
variable {ab:cB}{k:U k7}{e:Env}{L:Loc}{F:aK->Prop}{Q:Exit->Act->aK->Prop}{ops:Array bw}{rest:U bw}
def zT(ab:cB)(L:Loc)(F:aK->Prop)(b off:Nat)(zs:U aA):Prop:=∀w,dx ab L F w->∀(j:Nat) v,zs[j]? = J v->w.cell? ⟨b,off+j,ah⟩=J v
variable{cs:U aA}{t:bD}
theorem X1{b off n:Nat}(i:Nat)(hi:L[i]? = J (.bu b cs t)):zT ab L F b off ((cs.drop off).take n):=λw c j v a=>by
 refine MF (c.ok _ (List.mem_of_getElem? hi)) ?_;rw[fQ]at a;split at a
 .grind
 .cases a
theorem ak4(w:aK)(g:Nat)(cs:Array aA):bF [g] w (w.setRow g cs):=⟨rfl,rfl,rfl,by simp,λk _ a=>setRow_other w g k cs n2⟩
variable{g:Nat}
theorem dx.setRow{w:aK}{cs':U aA}(h:dx ab L F w)(i:Nat)(hi:L[i]? = J (.bu g cs t)):dx ab (L.set i (.bu g cs' t)) F (w.setRow g cs'.toArray):=h.agf i hi (ak4 w g _) (setRow_heap w g _ _ t (0,0) (h.ok _ (List.mem_of_getElem? hi))) GT (λb aj=>.inl aj)
variable{by_:Nat}{dst:Nat}{iU:af (Nat×Bool)}{m:Nat}{pos:String}{s:ct}{zf:Nat}{bP:Nat}{t':bD}{ty:bD}{u:bD}{zs:U aA}
theorem Dl{d:ct}{l:bD}{c:Array Edge}{o aff b off sl:Nat}(i:Nat)(cP:k1 ops e iU = J ae)(ao:ec dst ab.n=ae)(eg:iZ ab.P t u bP by_)
  (aW:Env.aF e d=J (.slice (J ⟨g,o,ah⟩) m aff)) (bN:Env.aF e s=J (.slice (J ⟨b,off,ah⟩) sl zf)) (hi:L[i]? = J (.bu g cs l)) (p:zT ab L F b off zs) (bB:I zs=Nat.min sl m*bP) (q:o+I zs<=I cs) (h1:∀v,v∈zs->one v=ae)
  (h:O ab ops rest k ((dst,goInt (Nat.min sl m))::e) (L.set i (.bu g (cs.take o++zs++cs.drop (o+I zs)) l)) F Q) :
  O ab ops (⟨J dst,.call ⟨.builtin .copy, #[d,s], #[t,t']⟩,ty,pos,c,iU⟩::rest) k e L F Q:=by
 refine ps (λr L' dP=>r=goInt (Nat.min sl m)/\L' = L.set i (.bu g (cs.take o++zs++cs.drop (o+I zs)) l)/\dP = F) cP ao (λa w he f=>?_) (λr L' dP ⟨ay,iV,eu⟩=>by rw[ay,iV,eu];exact h);obtain⟨hu,i0,z,y,dB,aJ,bz,ac,bk⟩:=eg;have aZ:w.heap[g]? = J (.cells cs.toArray l (0,0)):=f.ok _ (List.mem_of_getElem? hi);have x:=agV (P:=ab.P) w t t' ty u i0 g o m aff ⟨b,off,ah⟩ sl zf cs.toArray l zs hu y aZ (by rw[aJ];exact bB) (λj v cN=>by rw[hI];exact p w f j v cN) (by simpa using q) (λv aE=>vf (h1 v aE));refine⟨_,_,_,F,?_,f.setRow (cs':=cs.take o++zs++cs.drop (o+I zs)) i hi,rfl,rfl,rfl⟩;simp[cl,resolve,invoke,builtin,he.aF aW,he.aF bN,x]
variable{f:Array Edge}{iK:bD}
theorem apL{d:ct}{n cap b off:Nat}(i:Nat)(cP:k1 ops e iU = J ae)(ao:ec dst ab.n=ae)(eg:iZ ab.P t u bP by_)
  (aW:Env.aF e d=J (.slice (J ⟨g,0,ah⟩) n cap)) (bN:Env.aF e s=J (.slice (J ⟨b,off,ah⟩) m zf)) (hi:L[i]? = J (.bu g cs u)) (q:zT ab L F b off zs) (bB:I zs=m*bP) (l:n+m<=cap) (x:n*bP+I zs<=I cs) (h1:∀v,v∈zs->one v=ae) (ay3:iK = u)
  (h:O ab ops rest k ((dst,.slice (J ⟨g,0,ah⟩) (n+m) cap)::e) (L.set i (.bu g (cs.take (n*bP)++zs++cs.drop (n*bP+I zs)) u)) F Q) :
  O ab ops (⟨J dst,.call ⟨.builtin .append, #[d,s], #[t,t]⟩,ty,pos,f,iU⟩::rest) k e L F Q:=by
 refine ps (λr L' dP=>r = .slice (J ⟨g,0,ah⟩) (n+m) cap/\L' = L.set i (.bu g (cs.take (n*bP)++zs++cs.drop (n*bP+I zs)) u)/\dP = F) cP ao (λa w he o=>?_) (λr L' dP ⟨ay,iV,eu⟩=>by rw[ay,iV,eu];exact h);obtain⟨hu,i0,z,y,dB,p,bk,bz,aZ⟩:=eg;have aJ:w.heap[g]? = J (.cells cs.toArray u (0,0)):=o.ok _ (List.mem_of_getElem? hi);have c:=run_append_room (P:=ab.P) w t ty u i0 hu y g n cap cs.toArray aJ ⟨b,off,ah⟩ m zf zs (by rw[p];exact bB) (λj v cN=>by rw[hI];exact q w o j v cN) (λv aE=>vf (h1 v aE)) l (by rw[p];simpa using x);rw[p]at c;refine⟨_,_,_,F,?_,o.setRow (cs':=cs.take (n*bP)++zs++cs.drop (n*bP+I zs)) i hi,rfl,rfl,rfl⟩;simp[cl,resolve,invoke,builtin,he.aF aW,he.aF bN,c]
theorem aox{d:ct}{n cap b off:Nat}(i:Nat)(cP:k1 ops e iU = J ae)(ao:ec dst ab.n=ae)(eg:iZ ab.P t u bP by_)
  (aW:Env.aF e d=J (.slice (J ⟨g,0,ah⟩) n cap)) (bN:Env.aF e s=J (.slice (J ⟨b,off,ah⟩) m zf)) (hi:L[i]? = J (.bu g cs iK)) (x:zT ab L F b off zs) (bB:I zs=m*bP) (cJ:n*bP<=I cs) (c:cap<n+m) (y:n+m<=c5) (aJ:(n+m)*by_<=140737488355328)
  (h:∀bQ q l,n+m<=q->q<=c5->I l=(q-(n+m))*bP->O ab ops rest k ((dst,.slice (J ⟨bQ,0,ah⟩) (n+m) q)::e) (.bu bQ (cs.take (n*bP)++zs++l) u::L) F Q) :
  O ab ops (⟨J dst,.call ⟨.builtin .append, #[d,s], #[t,t]⟩,ty,pos,f,iU⟩::rest) k e L F Q:=by
 refine ps (λr L' dP=>∃bQ q l,n+m<=q/\q<=c5/\I l=(q-(n+m))*bP/\r = .slice (J ⟨bQ,0,ah⟩) (n+m) q/\L' = .bu bQ (cs.take (n*bP)++zs++l) u::L/\dP = F) cP ao (λa w he o=>?_) (λr L' dP ⟨bQ,q,l,a1,a2,a3,ay,iV,eu⟩=>by rw[ay,iV,eu];exact h bQ q l a1 a2 a3);obtain⟨hu,i0,z,bz,dB,aZ,ac,bL,b9⟩:=eg;have bW:(e7.bu g cs iK).ok w:=o.ok _ (List.mem_of_getElem? hi);have bk:=run_append_grow (P:=ab.P) w t ty u i0 z hu bz dB ⟨g,0,ah⟩ n cap (cs.take (n*bP)) (by rw[aZ,List.length_take];exact Nat.min_eq_left cJ) (λj v p=>by
  rw[hI,Nat.zero_add];refine MF bW ?_;rw[fQ]at p;split at p
  .exact p
  .cases p) ⟨b,off,ah⟩ m zf zs (by rw[aZ];exact bB) (λj v p=>by rw[hI];exact x w o j v p) c (by simp[c5]at y;omega) (by rw[ac];exact growslice_fits c aJ)
 refine⟨_,_,_,F,?_,(o.quiet (bF.drew [] w)).alloc (cs.take (n*bP)++zs++(gf z.cells (grownCap w (n+m) cap u-(n+m))).toList) u,w.heap.size,grownCap w (n+m) cap u,_,(grownCap_ge w (n+m) cap u),grownCap_le_maxLen w _ _ _ y,?_,rfl,rfl,rfl⟩
 .simp[cl,resolve,invoke,builtin,he.aF aW,he.aF bN,bk];congr 3;apply Array.ext';simp
 .simp[gf,bL]
theorem amV{d:ct}{a0:af Addr}{b off y:Nat}(cP:k1 ops e iU = J ae)(ao:ec dst ab.n=ae)(eg:iZ ab.P t u bP by_)
  (aW:Env.aF e d=J (.slice a0 0 0)) (bN:Env.aF e s=J (.slice (J ⟨b,off,ah⟩) m y)) (i:zT ab L F b off zs) (bB:I zs=m*bP) (hm : 0<m) (l:m<=c5) (o:m*by_<=140737488355328) (h1:∀v,v∈zs->one v=ae)
  (h:∀bQ q g,m<=q->q<=c5->I g=(q-m)*bP->O ab ops rest k ((dst,.slice (J ⟨bQ,0,ah⟩) m q)::e) (.bu bQ (zs++g) u::L) F Q) :
  O ab ops (⟨J dst,.call ⟨.builtin .append, #[d,s], #[t,t]⟩,ty,pos,f,iU⟩::rest) k e L F Q:=by
 refine ps (λr L' dP=>∃bQ q g,m<=q/\q<=c5/\I g=(q-m)*bP/\r = .slice (J ⟨bQ,0,ah⟩) m q/\L' = .bu bQ (zs++g) u::L/\dP = F) cP ao (λa w he x=>?_) (λr L' dP ⟨bQ,q,g,a1,a2,a3,ay,iV,eu⟩=>by rw[ay,iV,eu];exact h bQ q g a1 a2 a3);obtain⟨hu,i0,z,aJ,dB,aZ,bk,bz,bL⟩:=eg;have ac:Src ab.P i0.size t (.slice (J ⟨b,off,ah⟩) m y) m zs w:=Src.ofSlice w hu ⟨b,off,ah⟩ m y zs (by rw[aZ];exact bB) (λj v cN=>by rw[hI];exact i w x j v cN) (λv aE=>vf (h1 v aE));have hold:(fP.firstCells i0.size 0 (.slice a0 0 0)).run ab.P w.drew = .ok ([]:U aA).toArray w.drew:=by cases a0 with|none=>exact run_firstCells_none w.drew i0.size 0 0 0|some p=>exact run_firstCells_some w.drew i0.size 0 p 0 0 [] (by simp) (by simp)
 have c:=run_append_grow_src (P:=ab.P) w t t ty u i0 z hu aJ dB a0 0 0 [] hold _ m zs ac ag (by simp[c5]at l;omega) (by rw[bk];exact growslice_fits ag (by simpa using o));rw[Nat.zero_add]at c;refine⟨_,_,_,F,?_,(x.quiet (bF.drew [] w)).alloc (zs++(gf z.cells (grownCap w m 0 u-m)).toList) u,w.heap.size,grownCap w m 0 u,_,(grownCap_ge w m 0 u),grownCap_le_maxLen w _ _ _ l,?_,rfl,rfl,rfl⟩
 .exact _F
 .simp[gf,bz]
variable{c:Nat}{x:ct}{y:ct}
theorem LX{ad:af Addr}(h:iZ P t u bP by_)(i:Env.aF e x=J (.slice (J ⟨g,0,ah⟩) 0 0))(j:Env.aF e y=J (.slice ad 0 c)):Pure P e (.call ⟨.builtin .append, #[x,y], #[t,t]⟩) (.slice (J ⟨g,0,ah⟩) 0 0):=λn a w o d k=>by
 obtain⟨l,i0,z,b,s,m,p,q,f⟩:=h;have r:∀ty,(fP.append_ #[t,t] ty #[.slice (J ⟨g,0,ah⟩) 0 0,.slice ad 0 c]).run P w = .ok (.slice (J ⟨g,0,ah⟩) 0 0) w:=λty=>by cases ad<;>simp[ eX l,go_sem,sizeOf,typeInfo,b,loadCells]
 simp[cl,k,resolve,invoke,builtin,d.aF i,d.aF j,r]
theorem amW{d:ct}{I4:bD}{kn Ct:b'}{n cap:Nat}{m:Int}(i:Nat)(cP:k1 ops e iU = J ae)(ao:ec dst ab.n=ae)(eg:iZ ab.P t u bP by_)(bW:(match ab.P.underlying I4 with|some (.int eh)=>aa (eh = kn)|_=>ai)=ae)
  (aW:Env.aF e d=J (.slice (J ⟨g,0,ah⟩) n cap)) (bN:Env.aF e s=J (.int Ct m)) (hi:L[i]? = J (.bu g cs iK)) (hm : 0<m) (cJ:n*bP<=I cs) (b:cap<n+m.toNat) (l:n+m.toNat<=c5) (c:(n+m.toNat)*by_<=140737488355328)
  (h:∀bQ q o,n+m.toNat<=q->q<=c5->I o=(q-n)*bP->O ab ops rest k ((dst,.slice (J ⟨bQ,0,ah⟩) (n+m.toNat) q)::e) (.bu bQ (cs.take (n*bP)++o) u::L) F Q) :
  O ab ops (⟨J dst,.call ⟨.builtin .append, #[d,s], #[t,I4]⟩,ty,pos,f,iU⟩::rest) k e L F Q:=by
 obtain⟨j,rfl⟩:∃j:Nat,m=j:=⟨m.toNat,by omega⟩;simp at b l c h;refine ps (λr L' dP=>∃bQ q o,n+j<=q/\q<=c5/\I o=(q-n)*bP/\r = .slice (J ⟨bQ,0,ah⟩) (n+j) q/\L' = .bu bQ (cs.take (n*bP)++o) u::L/\dP = F) cP ao (λa w he p=>?_) (λr L' dP ⟨bQ,q,o,a1,a2,a3,ay,iV,eu⟩=>by rw[ay,iV,eu];exact h bQ q o a1 a2 a3);obtain⟨hu,i0,z,aZ,dB,bk,x,b9,bL⟩:=eg;have y:ab.P.underlying I4=J (.int kn):=jk
 have bz:(e7.bu g cs iK).ok w:=p.ok _ (List.mem_of_getElem? hi);have hold:(fP.firstCells i0.size n (.slice (J ⟨g,0,ah⟩) n cap)).run ab.P w.drew = .ok (cs.take (n*bP)).toArray w.drew:=run_firstCells_some (P:=ab.P) w.drew i0.size n ⟨g,0,ah⟩ n cap (cs.take (n*bP)) (by rw[bk,List.length_take];exact Nat.min_eq_left cJ) (λj v cN=>by
  rw[hI,Nat.zero_add];have an:w.cell? ⟨g,j,ah⟩=J v:=by
   refine MF bz ?_;rw[fQ]at cN;split at cN
   .exact cN
   .cases cN
  simpa using an)
 have aJ:=Lib.run_append_grow_zeros (P:=ab.P) w t I4 ty u i0 z Ct kn hu y aZ dB (J ⟨g,0,ah⟩) n cap (cs.take (n*bP)) hold j ag ag b (by simp[c5]at l;omega) (by rw[x];have:j*by_<=(n+j)*by_:=Nat.mul_le_mul_right _ ag;omega) (by rw[x];exact growslice_fits b c)
 have ac:=grownCap_ge w (n+j) cap u;refine⟨_,_,_,F,?_,(p.quiet (bF.drew [] w)).alloc (cs.take (n*bP)++((gf z.cells j).toList++(gf z.cells (grownCap w (n+j) cap u-(n+j))).toList)) u,w.heap.size,grownCap w (n+j) cap u,_,ac,grownCap_le_maxLen w _ _ _ l,?_,rfl,rfl,rfl⟩
 .simp[cl,resolve,invoke,builtin,he.aF aW,he.aF bN,aJ];congr 3;apply Array.ext';simp
 .simp[ gf];rw[<-Nat.add_mul];congr 1;omega
variable{a:af Addr}
theorem s7{n:Nat}(bP:Nat)(b:(nI P t == J bP)=ae)(d:Env.aF e x=J (.slice a n c)):Pure P e (.call ⟨.builtin .cap, #[x], #[t]⟩) (.int .i64 c):=λm bC w o f g=>by obtain⟨u,h,i⟩:=Bn (n:=bP) qi;simp[cl,g,resolve,invoke,builtin,f.aF d,fP.cap_,eX h,goInt]
variable{j:Int}{z:ct}
theorem Oh{n:Nat}{b:b'}(bP:Nat)(f:(nI P t == J bP)=ae)(g:Env.aF e x=J (.slice a n c))(i:Env.aF e z=J (.int b j))(h : 0<=j/\j<=n) :
  Pure P e (.slice t x (J z) ah ah) (.slice (if c=j.toNat then a else a.map (λp=>p.add (j.toNat*bP))) (n-j.toNat) (c-j.toNat)):=λr bC w o d k=>by
 obtain⟨u,l,m⟩:=Bn (n:=bP) (by simpa using f);have q:(Instr.sliceAt t (.slice a n c) (J (.int b j)) ah ah).run P w = .ok (.slice (if c=j.toNat then a else a.map (λp=>p.add (j.toNat*bP))) (n-j.toNat) (c-j.toNat)) w:=by simp[Instr.sliceAt,Instr.slice,dG,eX l,fg,Instr.sliceBounds,Instr.sliceBound,asIntOf,eW,if_pos h,run_sizeOf m]
 simp[cl,k,dG,d.aF g,d.aF i,yZ,Option.map_none,q,fg,eW]
theorem uC{off n:Nat}{a:b'}(bP:Nat)(b:(nI P t == J bP)=ae)(d:Env.aF e x=J (.slice (J ⟨g,off,ah⟩) n c))(f:Env.aF e z=J (.int a j))(h : 0<=j/\j<=n/\j<c) :
  Pure P e (.slice t x (J z) ah ah) (.slice (J ⟨g,off+j.toNat*bP,ah⟩) (n-j.toNat) (c-j.toNat)):=by
 have:=Oh (P:=P) bP b d f ⟨h.1,h.2.1⟩;rw[if_neg ag,yZ,hI]at this;exact this
end
end Go.aw
namespace Go.dS
open Go.RowKit
section
variable {R:Type}{px azv:aM R}{ab:cB}
end
end Go.dS
namespace Go.aw
open Go.RowKit
section
variable {ab:cB}{k:U k7}{e:Env}{L:Loc}{F:aK->Prop}{Q:Exit->Act->aK->Prop}{ops:Array bw}{rest:U bw}
theorem JB{dst:Nat}{d s:ct}{t v ty u:bD}{kn Ct:b'}{pos:String}{f:Array Edge}{iU:af (Nat×Bool)}{bP by_:Nat}{m:Int}(cP:k1 ops e iU = J ae)(ao:ec dst ab.n=ae)(eg:iZ ab.P t u bP by_)(aZ:(match ab.P.underlying v with|some (.int eh)=>aa (eh = kn)|_=>ai)=ae)
  (aW:Env.aF e d=J (.slice ah 0 0)) (bN:Env.aF e s=J (.int Ct m)) (hm : 0<m) (g:m.toNat<=c5) (b:m.toNat*by_<=140737488355328)
  (h:∀bQ q cs,m.toNat<=q->q<=c5->List.length cs=q*bP->O ab ops rest k ((dst,.slice (J ⟨bQ,0,ah⟩) m.toNat q)::e) (.bu bQ cs u::L) F Q) :
  O ab ops (⟨J dst,.call ⟨.builtin .append, #[d,s], #[t,v]⟩,ty,pos,f,iU⟩::rest) k e L F Q:=by
 obtain⟨j,rfl⟩:∃j:Nat,m=j:=⟨m.toNat,by omega⟩;simp at g b h;refine ps (λr L' dP=>∃bQ q cs,j<=q/\q<=c5/\List.length cs=q*bP/\r = .slice (J ⟨bQ,0,ah⟩) j q/\L' = .bu bQ cs u::L/\dP = F) cP ao (λa w he x=>?_) (λr L' dP ⟨bQ,q,cs,a1,a2,a3,ay,iV,eu⟩=>by rw[ay,iV,eu];exact h bQ q cs a1 a2 a3);obtain⟨hu,i0,z,y,dB,bk,i,bz,aJ⟩:=eg;have l:ab.P.underlying v=J (.int kn):=jk
 have hold:(fP.firstCells i0.size 0 (.slice ah 0 0)).run ab.P w.drew = .ok ([]:U aA).toArray w.drew:=by simp[fP.firstCells,eW]
 have c:=Lib.run_append_grow_zeros (P:=ab.P) w t v ty u i0 z Ct kn hu l y dB ah 0 0 [] hold j ag ag ag (by simp[c5]at g;omega) (by rw[i];omega) (by rw[i];exact growslice_fits ag qi)
 have o:=grownCap_ge w (0+j) 0 u;have p:=grownCap_le_maxLen w (0+j) 0 u xg;rw[Nat.zero_add]at o p c;refine⟨_,_,_,F,?_,(x.quiet (bF.drew [] w)).alloc ((gf z.cells j).toList++(gf z.cells (grownCap w j 0 u-j)).toList) u,w.heap.size,grownCap w j 0 u,_,o,p,?_,rfl,rfl,rfl⟩
 .exact _F
 .simp[gf];rw[<-Nat.add_mul];congr 1;omega
end
end Go.aw
namespace Go.dS
open Go.RowKit
structure AY (P:cx) (f:FuncId) (t:bD) (bP:Nat):Prop where
 enters:aw.jE P f
 Cb:∀n:Int,0<n->n<=2000000->aw.hg P f [.slice ah 0 0,.int .i64 n] [] (λ_=>True) (λv L _=>∃b q cs,v = .slice (J ⟨b,0,ah⟩) 0 q/\q<=c5/\List.length cs=q*bP/\L=[.bu b cs t])
 QG:aw.hg P f [.slice ah 0 0,.int .i64 0] [] (λ_=>True) (λv _ _=>v = .slice ah 0 0)
section
variable {R:Type}{ab:cB}
def p0(c:b1)(args:U D)(st:bc)(K:U D->bc->af R):af R:=match args with
 |[.sl cj [] .nil,.int .i64 n]=>match aa (cj = c)&&aa (0<=n)&&aa (n<=2000000)with|true=>K [.sl cj [] (.id st.ba)] (hV st)|false=>ah
 |_=>ah
theorem _j(st:bc):az (hV st)={ az st with cc:=λt=>((az st).cc t/\(ah:af Nat)≠J t)\/t=(az st).ba,ba:=(az st).ba+1 }:=by refine FS.eq rfl rfl rfl rfl rfl rfl rfl ?_ rfl;funext t;simp[az,hV];exact or_comm
variable{c:b1}{g:Nat}
theorem auL(h:AY ab.P g (ab.el c) (aL c)){args:U D}{st:bc}{K:U D->bc->af R}{r:R}(an:p0 c args st K=J r):o8 ab g args st K r:=by
 unfold p0 at an;split at an
 .rename_i x n;split at an
  .rename_i i;simp at i;obtain⟨⟨rfl,aJ⟩,cJ⟩:=i;refine⟨h.enters,λm a as_ w vs y e=>?_⟩;simp only[aX]at e;obtain⟨v1,_,rfl,⟨aZ,s⟩,v2,_,rfl,j,rfl⟩:=e;obtain⟨rfl,_⟩:=s;simp only[aB]at j;obtain⟨rfl,_⟩:=j;obtain rfl|axT:n=0\/0<n:=ag
   .refine(h.QG.run w [] (wj λ_ _=>trivial)).mono ?_;rintro dv w' ⟨u,L',dP,rfl,rfl,k⟩;have f:bF er w w':=yL (by simpa[aw.eA]using k.dV);obtain⟨d,t⟩:=y.right (t0:=ah) (p:=ah) (f.mono (λ_ _ h=>h.elim)) (λg o l=>by simp at l);rw[<-_j st]at d t;refine⟨_,rfl,_,_,_,an,⟨rfl,rfl,rfl,rfl,rfl⟩,d,?_⟩;simp[hl,aB];exact⟨λ_ _=>.nil _ _ _ _ trivial,by simp[vx,az,hV],λ_=>.inl ⟨rfl,by simp[vx,az],rfl⟩⟩
   .refine((h.Cb n axT cJ).run w [] (wj λ_ _=>trivial)).mono ?_;rintro dv w' ⟨u,L',dP,rfl,⟨b,q,cs,rfl,cA,bB,rfl⟩,k⟩;have f:bF er w w':=yL (by simpa[aw.eA]using k.dV);have z:w'.heap[b]? = J (.cells cs.toArray (ab.el x) (0,0)):=k.ok (.bu b cs (ab.el x)) (by simp);have v:w.heap.size<=b:=by
     rcases k.own b Gh with h1|h1
     .cases h1
     .exact h1
    obtain⟨d,t⟩:=y.right (t0:=ah) (p:=J (b,0)) (f.mono (λ_ _ h=>h.elim)) (λg o l=>by simp at l;obtain⟨rfl,rfl⟩:=l;exact⟨(gG.1 z).1,.inl v⟩)
    rw[<-_j st]at d t;refine⟨_,rfl,_,_,_,an,⟨rfl,rfl,rfl,rfl,rfl⟩,d,?_⟩;simp[hl,aB];exact⟨λ_ _=>.nil _ _ _ _ trivial,by simp[vx,az,hV],λ_=>.inr ⟨b,q,cs.toArray,rfl,by simp[vx,az],z,by simpa using bB,by simp,cA⟩⟩
  .cases an
 .cases an
theorem vA{P:cx}{el:b1->bD}{bM:Nat->af h_}{aO:Nat->ds}(H:ku P el bM aO ab)(h:AY P g (el c) (aL c)):hk (R:=R) ab g (p0 c):=λ_ _ _ _ an=>auL Gl an
end
end Go.dS
namespace Go.dS
section
variable {R:Type}{ab:cB}
end
section
variable {R:Type}{P:cx}{el:b1->bD}{bM:Nat->af h_}{aO:Nat->ds}{ab:cB}
end
open Go.RowKit
section
variable {R:Type}{ab:cB}
theorem X4{k:Nat}{d:D}:∀{bE:U Nat}{av:U D}{e a:Env},oo bE av e=J a->get a k=J d->(∃i,bE[i]? = J k/\av[i]? = J d/\∀j:Nat,i<j->bE[j]? ≠ J k)\/(k∉bE/\get e k=J d)
 |[],[],e,a,h,ao=>by simp only[oo,c4]at h;subst h;exact .inr ⟨by simp,ao⟩
 |p::bE,x::av,e,a,h,ao=>by
  simp only[oo]at h;rcases X4 h ao with ⟨i,h1,h2,h3⟩|⟨h1,h2⟩
  .refine .inl ⟨i+1,by simpa using h1,by simpa using h2,λj c=>?_⟩;cases j with|zero=>omega|succ j=>simpa using h3 j ag
  .rw[ix]at h2;by_cases b:k=p
   .rw[if_pos b]at h2;subst b;refine .inl ⟨0,by simp,by simpa using h2,λj c=>?_⟩;cases j with|zero=>omega|succ j=>simpa using λh=>h1 (List.mem_of_getElem? h)
   .rw[if_neg b]at h2;exact .inr ⟨by simp[b,h1],h2⟩
 |[],_::_,_,_,h,_=>by simp[oo]at h
 |_::_,[],_,_,h,_=>by simp[oo]at h
theorem Zl:∀{bE:U Nat}{av:U D}{e a:Env},oo bE av e=J a->I bE=I av
 |[],[],_,_,_=>rfl
 |p::bE,x::av,e,a,h=>by simp only[oo]at h;simp[Zl h]
 |[],_::_,_,_,h=>by simp[oo]at h
 |_::_,[],_,_,h=>by simp[oo]at h
theorem _N:∀(bE:U Nat) (vs:U aA) (a:Array aA),I bE=I vs->((bE.zip vs).foldl (λt (p:Nat×aA)=>t.setIfInBounds p.1 p.2) a).size=a.size/\∀k,(k∉bE->((bE.zip vs).foldl (λt (p:Nat×aA)=>t.setIfInBounds p.1 p.2) a)[k]? = a[k]?)/\∀i v,bE[i]? = J k->vs[i]? = J v->(∀j:Nat,i<j->bE[j]? ≠ J k)->k<a.size->((bE.zip vs).foldl (λt (p:Nat×aA)=>t.setIfInBounds p.1 p.2) a)[k]? = J v
 |[],[],a,_=>⟨rfl,λk=>⟨λ_=>rfl,λi v h=>by simp at h⟩⟩
 |p::bE,x::vs,a,h=>by
  simp only[dm,Nat.add_right_cancel_iff]at h;obtain⟨h1,h2⟩:=_N bE vs (a.setIfInBounds p x) h;simp only[List.zip_cons_cons,List.foldl_cons];refine⟨by rw[h1];simp,λk=>⟨λc=>?_,λi v hi aE f b=>?_⟩⟩
  .simp only[ek,not_or]at c;rw[(h2 k).1 c.2,Array.getElem?_setIfInBounds_ne (Ne.symm c.1)]
  .cases i with
   |zero=>
    simp only[List.getElem?_cons_zero,c4]at hi aE;subst hi;subst aE;have g:p∉bE:=λhm=>by obtain⟨j,d,e⟩:=List.getElem_of_mem hm;exact f (j+1) ag (by simp[d,e])
    rw[(h2 p).1 g];simp[b]
   |succ i=>refine(h2 k).2 i v (by simpa using hi) Gu (λj l=>?_) qi;have:=f (j+1) ag;simpa using this
 |[],_::_,_,h=>by simp at h
 |_::_,[],_,h=>by simp at h
theorem aX.at{x:cM}{i:Nat}{d:D}:∀{av:U D}{vs:U aA},aX x av vs->av[i]? = J d->∃v,vs[i]? = J v/\aB x d v
 |[],vs,_,h=>by simp at h
 |e::av,vs,ay,h=>by simp only[aX]at ay;obtain⟨u,us,rfl,h1,h2⟩:=ay;cases i with|zero=>simp at h;subst h;exact⟨u,by simp,h1⟩|succ i=>obtain⟨v,h3,h4⟩:=aX.at (i:=i) h2 n1;exact⟨v,by simpa using h3,h4⟩
variable{a:Act}{as_:U Act}{k:c_}{k0:c_}{m:dg}{st:bc}{w:aK}
theorem Rel.af3(h:Rel ab m a as_ (az st) w){b:Nat}{o o':Obj}(aj:bu st.ak b=J k0)(d:w.heap[m.ak b]? = J o)(an:∀cs t f,o ≠ .cells cs t f)(g:∀x',eD (vx ab m (az st) w) x'->x'.w=w.putObj (m.ak b) o'->gX x' (m.ak b) k):Rel ab m a as_ (az { st with ak:=eZ st.ak b k }) (w.putObj (m.ak b) o'):=by
 have h1:=h.write (k:=k) (b:=b) aj (w':=w.putObj (m.ak b) o') (bF.putObj (λ_=>rfl) d an) g;have e:az { st with ak:=eZ st.ak b k }={ az st with ak:=λc=>if c=b then J k else(az st).ak c }:=PB
 rw[e];exact h1
variable{bI:U Fr}{g:Nat}
theorem Rel.pinned{b nb ba:Nat}(h:Rel ab m a ({ tmps:= #[.pointer (J ⟨g,0,ah⟩)],defers:=[] }::as_) (az st) w)(e:st.bI=⟨1,[(0,.ptr b 0)],nb,ba,[]⟩::bI):m.ak b=g:=by have c:=h.gI;rw[show(az st).bI=⟨1,[(0,.ptr b 0)],nb,ba,[]⟩::bI from e]at c;obtain⟨a0,f,d,_,_,h1,_⟩:=c;simp only[gZ]at d;obtain⟨rfl,rfl⟩:=d;obtain⟨v,v1,v2⟩:=h1.get 0 (.ptr b 0) rfl;simp only[aB]at v2;obtain⟨_,v2⟩:=v2;simp at v1;rw[<-v1]at v2;simp at v2;exact v2.symm
variable{K:D->bc->af R}{P:Code->Code->Nat->Prop}{av:U D}{r:R}
theorem R4{nO:aM R}(bn:eR ab nO)(ap:hy ab nO)(dH:ik ab nO)(hm:ab.P.follows .mixedOrders=ae)(IK:∀bS body n,P bS body n->fe n bS=ae/\fe n body=ae/\(∀l,fv (J l) bS=ae/\fv (J l) body=ae)/\(∀b,b∈gr bS->fR ab nO b)/\∀b,b∈gr body->fR ab nO b){b:Nat}(dE:∀s n bE bS body env,bu st.ak b=J (.hc s n bE bS body env)->P bS body n)(h:F3 nO b av st K=J r)(m:dg)(a:Act)(as_:U Act)(w:aK)(vs:U aA)(g:Rel ab m a as_ (az st) w)(dL:aX (vx ab m (az st) w) av vs) :
  ∃fn tmps bS body,(Instr.yield (m.ak b) vs.toArray).run ab.P w = .ok (.round (m.ak b) fn tmps bS body) w/\RoundIn gK 0 ab.P (m.ak b) fn tmps bS body w λdv w'=>∃v,dv = .returned v/\∃d aG aR,K d aG = J r/\mG st aG/\Rel ab aR a as_ (az aG) w'/\aB (vx ab aR (az aG) w') d v:=by
 unfold F3 at h;split at h
 .rename_i n bE bS body env aj;obtain⟨c1,c2,iI,j5,m0⟩:=IK _ _ _ (dE _ _ _ _ _ _ aj);split at h
  .rename_i d_ d' ef;obtain⟨rc,gJ,fm,ko,lK,mv,nJ⟩:=(g.eb b _ aj).2;obtain⟨bd,ei⟩:=nJ rfl;have jt:=Zl d';have lJ:=dL.len;have gJ:w.heap[m.ak b]? = J (.loop rc):=gJ;refine⟨_,_,_,_,run_yield gJ (by rw[fm];simp;omega),?_⟩;have b9:((rc.params.zip vs.toArray).foldl (λtmps (x:Tmp×aA)=>tmps.setIfInBounds x.1 x.2) rc.tmps)=((bE.zip vs).foldl (λt (p:Nat×aA)=>t.setIfInBounds p.1 p.2) rc.tmps):=by rw[fm];simp
   obtain⟨f1,f2⟩:=_N bE vs rc.tmps ag;have ea:rc.tmps.size=n:=mv.size;have fr:b<st.nb:=(g.eb b _ aj).1;have c0:Rel ab m { tmps:=(bE.zip vs).foldl (λt (p:Nat×aA)=>t.setIfInBounds p.1 p.2) rc.tmps,defers:=[] } ({ tmps:= #[.pointer (J ⟨m.ak b,0,ah⟩)],defers:=[] }::a::as_) (az { st with n:=n,env:=d_,cd:=st.nb,lt:=st.ba,bI:=⟨1,[(0,.ptr b 0)],st.nb,st.ba,[]⟩::⟨st.n,st.env,st.cd,st.lt,st.df⟩::st.bI,df:=[] }) w:=by
    refine⟨g.dV,⟨rfl,by rw[f1];exact ea,λk d aV=>?_⟩,⟨_,_,rfl,b2 _,b2 _,⟨rfl,rfl,λk d aV=>?_⟩,⟨a,as_,rfl,g.cd,g.lt,g.env,g.gI⟩⟩,b2 _,b2 _,g.eb,g.hZ,g.inj,g.gb,g.fH,g.own,g.fE,g.g1⟩
    rotate_left
    .rw[ix]at aV;split at aV
     .rename_i gk;simp only[c4]at aV;subst aV;subst gk;exact⟨_,rfl,by simp only[aB];exact⟨fr,rfl⟩⟩
     .simp[get]at aV
    rcases X4 d' aV with ⟨i,i1,i2,i3⟩|⟨i1,i2⟩
    .obtain⟨v,v1,v2⟩:=aX.at dL i2;have gz:k<rc.tmps.size:=by have:=cX.1 ef k (List.mem_of_getElem? i1);rw[ea];simpa[Nat.blt_eq]using this
     exact⟨v,(f2 k).2 i v i1 v1 i3 gz,v2⟩
    .obtain⟨v,v1,v2⟩:=mv.get k d i2;exact⟨v,by rw[(f2 k).1 i1];exact v1,v2⟩
   rw[b9,ko,lK];refine roundIn_of_wpIn (F:=gK) trivial (ql (ro:=J (m.ak b)) bn ap dH hm bS _ _ r c1 (iI _).1 j5 h _ m _ _ w c0 ?_);intro e cD gn a1 w1 ch cy j;split at ch
   .rename_i pH du ac z bL dF;have cF:gn.ak b=m.ak b:=j.pinned cy.2;obtain⟨cE,dN,eJ,gl,sr,y7,IP⟩:=(j.eb b _ dF).2;have dN:w1.heap[gn.ak b]? = J (.loop cE):=dN;obtain⟨fK,jw⟩:=IP rfl;refine⟨_,run_beginRound (by rw[<-cF];exact dN) fK,?_⟩;rw[<-cF];have am:=j.af3 (k:=.hc 1 pH du ac z bL) (o':=.loop { cE with state:=.busy }) dF dN (by simp) (λx' aW hw=>⟨{ cE with state:=.busy },by rw[hw];exact aK.putObj_heap_same (gG.1 dN).1,eJ,gl,sr,y7.later aW,nofun⟩);have gN:cD.n=n:=cy.1;refine ql (ro:=J (gn.ak b)) bn ap dH hm body _ _ r (by rw[show(bc.mk cD.n cD.env cD.cd cD.lt cD.bI (eZ cD.ak b (.hc 1 pH du ac z bL)) cD.nb cD.a9 cD.ba cD.df).n=n from gN];exact c2) (iI _).2 m0 ch _ gn _ _ _ am ?_;intro aS cH q a2 w2 aJ hJ o;have aZ:cH.bI=⟨1,[(0,.ptr b 0)],st.nb,st.ba,[]⟩::⟨st.n,st.env,st.cd,st.lt,st.df⟩::st.bI:=hJ.2.trans cy.2;have bz:q.ak b=gn.ak b:=(o.pinned aZ).trans cF.symm;split at aJ
    .rename_i mY f bI vb mZ kk iQ bi nH cZ ff;rw[aZ]at cZ;simp only[gZ]at cZ;obtain⟨rfl,rfl,rfl⟩:=cZ;obtain⟨dp,kP,lg,kQ,m5,lM,_⟩:=(o.eb b _ ff).2;have kP:w2.heap[q.ak b]? = J (.loop dp):=kP;have fin:∀(m6:c_) (o':Obj),(∀x',eD (vx ab q (az cH) w2) x'->x'.w=w2.putObj (q.ak b) o'->gX x' (q.ak b) m6)->Rel ab q a as_ (az { cH with n:=st.n,env:=st.env,cd:=st.cd,lt:=st.lt,bI:=st.bI,df:=st.df,ak:=eZ cH.ak b m6 }) (w2.putObj (q.ak b) o'):=λm6 o' be=>by have y:=o.af3 (k:=m6) (o':=o') ff kP (by simp) be;have bW:=y.gI;rw[show(az { cH with ak:=eZ cH.ak b m6 }).bI=⟨1,[(0,.ptr b 0)],st.nb,st.ba,[]⟩::⟨st.n,st.env,st.cd,st.lt,st.df⟩::st.bI from aZ]at bW;obtain⟨a0,iY,fF,p1,p2,_,⟨a3,jx,fG,p3,hs,ayd,Q2⟩⟩:=bW;simp only[gZ]at fF;obtain⟨_,rfl⟩:=fF;simp only[gZ]at fG;obtain⟨rfl,rfl⟩:=fG;have eO:st.nb<=cH.nb:=e2 p1 y.cd;have y8:st.ba<=cH.ba:=e2 p2 y.lt;have aW:eD { vx ab q (az { cH with ak:=eZ cH.ak b m6 }) (w2.putObj (q.ak b) o')with nb:=st.nb,ba:=st.ba } (vx ab q (az { cH with ak:=eZ cH.ak b m6 }) (w2.putObj (q.ak b) o')):=⟨bF.refl _ _,λ_ _ h=>.inl h,rfl,λ_ _=>rfl,eO,y8,λt _ cI=>⟨cI,rfl,λ_ _ _=>rfl⟩⟩;exact⟨y.dV,ayd.later aW,Q2,e2 p3 eO,e2 hs y8,y.eb,y.hZ,y.inj,y.gb,y.fH,y.own,y.fE,y.g1⟩
     split at aJ
     .refine⟨_,_,run_endRound ah (by rw[<-bz];exact kP),_,rfl,_,_,q,aJ,⟨rfl,rfl,rfl,rfl,rfl⟩,?_,by simp[aB]⟩;rw[<-bz];exact fin _ _ λx' aW hw=>⟨{ dp with state:=.ready,pending:=ah },by rw[hw];exact aK.putObj_heap_same (gG.1 kP).1,lg,kQ,m5,lM.later aW,λ_=>⟨rfl,rfl⟩⟩
     .rename_i iR;have bk:∀c,pd aS=pd aS->c=Oi aS->∃v w',(Instr.endRound (gn.ak b) (J c)).run ab.P w2 = .ok v w'/\∃u,Ending.returned v = .returned u/\∃d aG aR,K d aG = J r/\mG st aG/\Rel ab aR a as_ (az aG) w'/\aB (vx ab aR (az aG) w') d u:=λc _ an=>by refine⟨_,_,run_endRound (J c) (by rw[<-bz];exact kP),_,rfl,_,_,q,aJ,⟨rfl,rfl,rfl,rfl,rfl⟩,?_,by simp[aB]⟩;rw[<-bz];exact fin _ _ λx' aW hw=>⟨{ dp with state:=.done,pending:=J c },by rw[hw];exact aK.putObj_heap_same (gG.1 kP).1,rfl,by rw[an]⟩
      cases aS with|normal=>exact absurd rfl iR|exit id=>exact bk _ rfl rfl|ret=>exact bk _ rfl rfl
    .cases aJ
   .cases ch
  .cases h
 .cases h
theorem Rel.ayE(h:Rel ab m a as_ (az st) w){b:Nat}(aj:bu st.ak b=J k0)(d:gX (vx ab m (az st) w) (m.ak b) k):Rel ab m a as_ (az { st with ak:=eZ st.ak b k }) w:=by
 have h1:=h.write (k:=k) (b:=b) aj (w':=w) (bF.refl _ _) (λx' f g=>d.later f (by rw[g];rfl));have e:az { st with ak:=eZ st.ak b k }={ az st with ak:=λc=>if c=b then J k else(az st).ak c }:=PB
 rw[e];exact h1
theorem _L{f:aM R}(bn:eR ab f)(g:hy ab f)(o:ik ab f)(hm:ab.P.follows .mixedOrders=ae)(IK:∀bS body n,P bS body n->fe n bS=ae/\fe n body=ae/\(∀l,fv (J l) bS=ae/\fv (J l) body=ae)/\(∀b,b∈gr bS->fR ab f b)/\∀b,b∈gr body->fR ab f b){b:Nat}(u:∀s n bE bS body env,bu st.ak b=J (.hc s n bE bS body env)->P bS body n)(x:∀j n bE bS body env q,bu st.ak b=J (.lj j n bE bS body env q)->P bS body n)(h:F1 f b av st K=J r)(m:dg)(a:Act)(as_:U Act)(w:aK)(vs:U aA)(ay:Rel ab m a as_ (az st) w)(y:aX (vx ab m (az st) w) av vs) :
  ∃fn tmps bS body,(Instr.yield (m.ak b) vs.toArray).run ab.P w = .ok (.round (m.ak b) fn tmps bS body) w/\RoundIn gK 0 ab.P (m.ak b) fn tmps bS body w λdv w'=>∃v,dv = .returned v/\∃d aG aR,K d aG = J r/\mG st aG/\Rel ab aR a as_ (az aG) w'/\aB (vx ab aR (az aG) w') d v:=by
 unfold F1 at h;split at h
 .rename_i j n bE bS body env q aj;obtain⟨h0,h⟩:=fz h;have h0:=of_decide_eq_true h0;obtain⟨rc,gJ,fm,ko,lK,mv,nJ⟩:=(ay.eb b _ aj).2.2.1 h0;have aJ:=ay.ayE aj (k:=.hc 0 n bE bS body env) ⟨rc,gJ,fm,ko,lK,mv,λ_=>nJ⟩;have aZ:bu (eZ st.ak b (.hc 0 n bE bS body env)) b=J (.hc 0 n bE bS body env):=by simp[oW,aj]
  refine R4 bn g o hm IK (λs pH bW ac bk bL h1=>?_) h m a as_ w vs aJ ?_
  .simp only at h1;rw[aZ]at h1;simp only[c4,c_.hc.injEq]at h1;obtain⟨rfl,rfl,rfl,rfl,rfl,rfl⟩:=h1;exact x _ _ _ _ _ _ _ aj
  .refine aX.later ?_ _ _ y;exact⟨bF.refl _ _,λc i hi=>.inl (by
    rcases hi with e4|⟨p,bz,rfl⟩|cf
    .exact .inl e4
    .refine .inr (.inl ⟨p,λe=>?_,rfl⟩);have e:bu st.ak p=none:=e;by_cases z:p=b
     .subst z;rw[aj]at e;cases e
     .apply bz;show bu (eZ st.ak b _) p=ah;simp[oW,z,e]
    .exact .inr (.inr cf)),rfl,λ_ _=>rfl,b2 _,b2 _,λt _ cI=>⟨cI,rfl,λ_ _ _=>rfl⟩⟩
 .exact R4 bn g o hm IK u h m a as_ w vs ay y
theorem qp(l:Nat):∀c:Code,fv (J l) c=fv (J 0) c
 |.region _ os _=>by
  have h:∀o,ng (J l) o=ng (J 0) o:=λo=>by unfold ng;cases o.op<;>rfl
  simp only[fv,h]
 |.seq a b=>by simp only[fv,qp l a,qp l b]
 |.cond _ a b=>by simp only[fv,qp l a,qp l b]
 |.block _ b=>by simp only[fv,qp l b]
 |.loop _|.scope _|.rangeFunc _ _ _ _|.skip|.ret|.exit _|.label _|.goto _|.refuse _=>by simp only[fv]
theorem qj:∀c:Code,fv (J 0) c=ae->gr c=[]
 |.seq a b,h=>by simp only[fv,bx]at h;simp[gr,qj a h.1,qj b h.2]
 |.cond _ a b,h=>by simp only[fv,bx]at h;simp[gr,qj a h.1,qj b h.2]
 |.block _ b,h=>by simp only[fv]at h;simp[gr,qj b h]
 |.loop _,h|.scope _,h|.rangeFunc _ _ _ _,h=>by cases h
 |.region _ _ _,_|.skip,_|.ret,_|.exit _,_|.label _,_|.goto _,_|.refuse _,_=>rfl
def C2(a:aM R)(b:Nat)(av:U D)(st:bc)(K:D->bc->af R):af R:=match bu st.ak b with
 |some (.hc _ n _ bS body _)=>match fe n bS&&fe n body&&fv (J 0) bS&&fv (J 0) body with|true=>F1 a b av st K|false=>ah
 |some (.lj _ n _ bS body _ _)=>match fe n bS&&fe n body&&fv (J 0) bS&&fv (J 0) body with|true=>F1 a b av st K|false=>ah
 |_=>ah
variable{px:aM R}
theorem Rq{p:aM R}(u:eR ab p)(i:hy ab p)(k:ik ab p)(hm:ab.P.follows .mixedOrders=ae)(x:px.zj=C2 p):NU ab px:=by
 intro b av st K r h m a as_ w vs v o;rw[x]at h;unfold C2 at h;split at h
 .rename_i s n bE bS body env aj;split at h
  .rename_i an;simp only[bx]at an;refine _L u i k hm (P:=λbS body n=>fe n bS=ae/\fe n body=ae/\fv (J 0) bS=ae/\fv (J 0) body=ae) (λbS body n ⟨h1,h2,h3,h4⟩=>⟨h1,h2,λl=>⟨by rw[qp];exact h3,by rw[qp];exact h4⟩,(λb aj=>by rw[qj _ h3]at aj;cases aj),(λb aj=>by rw[qj _ h4]at aj;cases aj)⟩) (λs' t g e d f c=>?_) (λy t g e d f z c=>by rw[aj]at c;cases c) h m a as_ w vs v o;rw[aj]at c;simp only[c4,c_.hc.injEq]at c;obtain⟨rfl,rfl,rfl,rfl,rfl,rfl⟩:=c;exact⟨an.1.1.1,an.1.1.2,an.1.2,an.2⟩
  .cases h
 .rename_i j n bE bS body env q aj;split at h
  .rename_i an;simp only[bx]at an;refine _L u i k hm (P:=λbS body n=>fe n bS=ae/\fe n body=ae/\fv (J 0) bS=ae/\fv (J 0) body=ae) (λbS body n ⟨h1,h2,h3,h4⟩=>⟨h1,h2,λl=>⟨by rw[qp];exact h3,by rw[qp];exact h4⟩,(λb aj=>by rw[qj _ h3]at aj;cases aj),(λb aj=>by rw[qj _ h4]at aj;cases aj)⟩) (λs' t g e d f c=>by rw[aj]at c;cases c) (λy t g e d f z c=>?_) h m a as_ w vs v o;rw[aj]at c;simp only[c4,c_.lj.injEq]at c;obtain⟨rfl,rfl,rfl,rfl,rfl,rfl,rfl⟩:=c;exact⟨an.1.1.1,an.1.1.2,an.1.2,an.2⟩
  .cases h
 .cases h
end
def trim(n:Nat)(e:Env):Env:=(dy n).filterMap λk=>match get e k with|some d=>J (k,d)|none=>ah
section
variable {R:Type}
def rv(a:Nat->af Func)(px:aM R):U D->bc->(bc->af R)->af R
 |[],st,K=>K st
 |.ptr b _::l,st,K=>match bu st.ak b with
  |some (.e' 0)=>rv a px l { st with ak:=eZ st.ak b (.e' 2),df:=l } K
  |_=>ah
 |.fn f hp::l,st,K=>match a f with
  |some fn=>match fn.body with
   |some c=>match dz (I hp) fn.ntmps with
    |true=>hj px c { st with n:=fn.ntmps,env:=hh 0 hp,cd:=st.nb,lt:=st.ba,bI:=⟨st.n,st.env,st.cd,st.lt,l⟩::st.bI,df:=[] } λe aG=>match e with
     |.exit _=>ah
     |_=>match aG.df,results px aG fn.results.toList,aG.bI with
      |[],J _,Cj::bI=>rv a px l { aG with n:=Cj.n,env:=Cj.env,cd:=Cj.cd,lt:=Cj.lt,bI:=bI,df:=Cj.df } K
      |_,_,_=>ah
    |false=>ah
   |none=>ah
  |none=>ah
 |_,_,_=>ah
def q8(ak:U (Nat×c_)):U D->(U D->U (Nat×c_)->af R)->af R|[],K=>K [] ak|.agg av::l,K=>Az ak av λb c=>q8 c l λe a=>K (.agg b::e) a|d::l,K=>q8 ak l λe a=>K (d::e) a
def OC(b:Nat->af Func)(px:aM R)(fn:Func)(args:U D)(st:bc)(K:U D->bc->af R):af R:=match fn.body,dz (I args) fn.ntmps with
 |some c,ae=>q8 st.ak args λa d=>hj px c { st with n:=fn.ntmps,env:=hh 0 a,cd:=st.nb,lt:=st.ba,bI:=⟨st.n,st.env,st.cd,st.lt,st.df⟩::st.bI,ak:=d,df:=[] } λe aG=>match e with
  |.exit _=>ah
  |_=>rv b px aG.df aG λcH=>match results px cH fn.results.toList,cH.bI with
   |some rs,f::bI=>q8 cH.ak rs λg h=>K g { cH with n:=f.n,env:=f.env,cd:=f.cd,lt:=f.lt,bI:=bI,ak:=h,df:=f.df }
   |_,_=>ah
 |_,_=>ah
def Fz:D->Bool
 |.bool _|.int _ _|.str _|.kS|.lf _|.oC|.lb _ _ _=>ae
 |.sl _ _ t=>match t with|.id _=>ai|_=>ae
 |_=>ai
def F0:D->Bool|.aI _ _|.undef=>ae|.agg av=>av.all Fz|d=>Fz d
def mO:D->D|.agg av=>.agg (av.map dw)|d=>dw d
def N0(b:Nat->af Func)(px:aM (U D))(fn:Func)(args:U D):af (U D):=match fn.body,(args.map mO).all F0&&dz (I args) fn.ntmps with
 |some c,ae=>hj px c ⟨fn.ntmps,hh 0 (args.map mO),0,0,[],[],0,[],0,[]⟩ λe st=>match e with
  |.exit _=>ah
  |_=>rv b px st.df st λcH=>match results px cH fn.results.toList with
   |some rs=>wT cH.ak rs λa _=>match(a.map mO).all F0 with|true=>J (a.map mO)|false=>ah
   |none=>ah
 |_,_=>ah
end
def co(aO:Nat->ds)(bM:Nat->af h_)(a:Nat->af Func)(tb:(R:Type)->Nat->af (iD R))(c:(R:Type)->Nat->af (kf R))(d:Nat->af (bt×bt)):Nat->(R:Type)->aM R
 |0,_=>⟨aO,bM,λ_ _ _ _=>ah,λ_ _ _=>ah,λ_ _ _=>ah,λ_=>ah,λ_ _ _ _=>ah⟩
 |n+1,R=>⟨aO,bM,
  λg args st K=>match tb R g with
   |some f=>f args st K
   |none=>match a g with
    |some fn=>OC a (co aO bM a tb c d n R) fn args st K
    |none=>ah,
  λg args K=>match c R g with
   |some f=>f args K
   |none=>match a g with
    |some fn=>match N0 a (co aO bM a tb c d n (U D)) fn args with|some rs=>K rs|none=>ah
    |none=>ah,
  λb st K=>hj (co aO bM a tb c d n R) b { st with env:=trim st.n st.env } λe aG=>match e with
   |.normal=>(co aO bM a tb c d n R).loop b aG K
   |e=>K e aG,
  λg=>match d g,a g with
   |some (CF,bG),J fn=>match dz CF.n fn.ntmps with|true=>J (o7 CF bG (λx=>ky (co aO bM a tb c d n (au bG.b3)) fn CF bG x J))|false=>ah
   |_,_=>ah,
  C2 (co aO bM a tb c d n R)⟩
theorem aso{e:Env}{n k:Nat}{d:D}(h:get (trim n e) k=J d):get e k=J d:=by
 have key:∀l:Env,(∀p,p∈l->get e p.1=J p.2)->get l k=J d->get e k=J d:=by
  intro l;induction l with
  |nil=>intro _ h;simp[get]at h
  |cons p l i=>
   intro a h;obtain⟨k0,v0⟩:=p;rw[ix]at h;by_cases g:k=k0
   .subst g;simp at h;subst h;exact a _ ot
   .rw[if_neg g]at h;exact i (λp c=>a p (nE _ c)) h
 refine key _ (λp a=>?_) h;unfold trim at a;obtain⟨q,_,b⟩:=List.mem_filterMap.1 a;cases f:get e q with|none=>rw[f]at b;cases b|some v=>rw[f]at b;simp at b;subst b;exact f
section
variable {R:Type}{ab:cB}
theorem Rel.trim{m:dg}{a:Act}{as_:U Act}{st:bc}{w:aK}(b:Rel ab m a as_ (az st) w):Rel ab m a as_ (az { st with env:=trim st.n st.env }) w:=⟨b.dV,⟨b.env.defers,b.env.size,λk d c=>b.env.get k d (aso c)⟩,b.gI,b.cd,b.lt,b.eb,b.hZ,b.inj,b.gb,b.fH,b.own,b.fE,b.g1⟩
variable{x:cM}{x':cM}
theorem Zf(e:∀b j,x'.S b j->x.S b j)(f:x'.w=x.w){d:D}{v:aA}(aj:Fz d=ae)(h:aB x d v):aB x' d v:=by
 have a:∀{d:D}{v:aA},eI x.S x.w d v->eI x'.S x'.w d v:=λh=>by rw[f];exact h.later (bF.refl _ _) (λk j i=>.inl (e k j i))
 cases d with
 |sl c xs t=>simp only[aB]at h ⊢;refine⟨a h.1,?_⟩;cases t with|id t=>cases aj|_=>exact h.2
 |lb c y off=>simp only[aB]at h ⊢;obtain⟨b,o,aE,m⟩:=h;exact⟨b,o,aE,λw' an=>m w' (by rw[<-f];exact an.mono e)⟩
 |bool b=>simpa only[aB]using h
 |int k n=>simpa only[aB]using h
 |str l=>simpa only[aB]using h
 |kS=>simpa only[aB]using h
 |lf g=>simpa only[aB]using h
 |oC=>simpa only[aB]using h
 |_=>cases aj
theorem Vr{x x':cM}(a:∀b j,x'.S b j->x.S b j)(c:x'.w=x.w):∀{av:U D}{vs:U aA},av.all Fz=ae->aX x av vs->aX x' av vs
 |[],_,_,h=>by simpa[aX]using h
 |d::av,vs,aj,h=>by simp only[et,bx]at aj;obtain⟨u,us,e,h1,h2⟩:=h;exact⟨u,us,e,Zf a c aj.1 h1,Vr a c aj.2 h2⟩
theorem arI(a:∀b j,x'.S b j->x.S b j)(e:x'.w=x.w){d:D}{v:aA}(aj:F0 d=ae)(h:aB x d v):aB x' d v:=by
 have f:∀{d:D}{v:aA},eI x.S x.w d v->eI x'.S x'.w d v:=λh=>by rw[e];exact h.later (bF.refl _ _) (λk j g=>.inl (a k j g))
 cases d with|aI c y=>simp only[aB]at h ⊢;obtain⟨i,vs,aE,l,m⟩:=h;exact⟨i,vs,aE,l,λj d ao=>by obtain⟨u,n,o⟩:=m j d ao;exact⟨u,n,f o⟩⟩|undef=>simpa only[aB]using h|agg av=>simp only[aB]at h ⊢;obtain⟨h1,vs,aE,h2⟩:=h;exact⟨h1,vs,aE,Vr a e aj h2⟩|_=>exact Zf a e aj h
theorem Lc{x x':cM}(a:∀b j,x'.S b j->x.S b j)(c:x'.w=x.w):∀{av:U D}{vs:U aA},av.all F0=ae->aX x av vs->aX x' av vs
 |[],_,_,h=>by simpa[aX]using h
 |d::av,vs,aj,h=>by simp only[et,bx]at aj;obtain⟨u,us,e,h1,h2⟩:=h;exact⟨u,us,e,arI a c aj.1 h1,Lc a c aj.2 h2⟩
theorem Yw{d:D}{v:aA}(h:aB x d v):aB x (dw d) v:=by cases d<;>first|exact h|exact _K h
theorem Wm{x:cM}:∀{av:U D}{vs:U aA},aX x av vs->aX x (av.map dw) vs
 |[],_,h=>h
 |_::_,_,⟨u,us,e,h1,h2⟩=>⟨u,us,e,Yw h1,Wm h2⟩
theorem anG{d:D}{v:aA}(h:aB x d v):aB x (mO d) v:=by
 cases d with
 |agg av=>simp only[mO,aB]at h ⊢;obtain⟨h1,vs,e,h2⟩:=h;refine⟨?_,vs,e,Wm h2⟩;rw[List.all_map];refine cX.2 λd ao=>?_;have:=cX.1 h1 d ao;cases d<;>first|rfl|exact this
 |_=>exact Yw h
theorem Qi{x:cM}:∀{av:U D}{vs:U aA},aX x av vs->aX x (av.map mO) vs
 |[],_,h=>h
 |_::_,_,⟨u,us,e,h1,h2⟩=>⟨u,us,e,anG h1,Qi h2⟩
theorem agF(d:D):dw (mO d)=mO d:=by cases d with|sl c xs t=>cases t<;>rfl|_=>rfl
variable{av:U D}{vs:U aA}
theorem M6{n:Nat}(b:aX x av vs)(e:I vs<=n):∀k d,get (hh 0 av) k=J d->∃v,(vs.toArray++Array.replicate (n-vs.toArray.size) undef)[k]? = J v/\aB x d v:=λk d c=>by obtain⟨v,_,h2,h3⟩:=tR 0 k d b c;rw[Nat.sub_zero]at h2;refine⟨v,?_,h3⟩;have a:k<I vs:=(hG.1 h2).1;simp only[Array.getElem?_append,List.size_toArray,a];simpa using h2
theorem LZ{n:Nat}(a:I vs<=n):(vs.toArray++Array.replicate (n-vs.toArray.size) undef).size=n:=dh
variable{fn:Func}{w:aK}
theorem E2{tmps:Array aA}{us:U aA}(a:Sem.run ab.P (fn.results.toList.mapM (aw.rdv tmps)) w=Result.ok us w):(_root_.Go.results fn tmps).run ab.P w = .ok (aw.lO us) w:=by obtain⟨c⟩:∃c,fn.results=List.toArray c:=⟨fn.results.toList,by simp⟩;rename_i b;rw[aw.CC,b];rw[b]at a;simp only[List.mapM_toArray,dG,map_eq_pure_bind,a];congr 1;match us with|[]=>rfl|[v]=>rfl|_::_::_=>simp[aw.lO]
variable{a:Act}{as_:U Act}{bI:U Fr}{m:dg}{st:bc}
theorem Rel.pop{a0:Act}{f:Fr}(b:Rel ab m a (a0::as_) (az st) w)(e:st.bI=f::bI):Rel ab m a0 as_ (az { st with n:=f.n,env:=f.env,cd:=f.cd,lt:=f.lt,bI:=bI,df:=f.df }) w:=by have c:=b.gI;rw[show(az st).bI=f::bI from e]at c;obtain⟨a1,j,d,h1,h2,h3,h4⟩:=c;simp at d;obtain⟨rfl,rfl⟩:=d;have g:eD { vx ab m (az st) w with nb:=(az st).cd,ba:=(az st).lt } (vx ab m (az st) w):=⟨bF.refl _ _,λ_ _ h=>.inl h,rfl,λ_ _=>rfl,b.cd,b.lt,λt _ i=>⟨i,rfl,λ_ _ _=>rfl⟩⟩;exact⟨b.dV,h3.later g,h4,e2 h1 b.cd,e2 h2 b.lt,b.eb,b.hZ,b.inj,b.gb,b.fH,b.own,b.fE,b.g1⟩
def A'(ab:cB)(px:aM R):Prop:=eR ab px/\hy ab px/\ik ab px/\∀b,fR ab px b
def rq(P:cx)(a:Nat->af Func):Prop:=∀g fn,a g=J fn->P.funcs[g]? = J fn/\(fn.name == "runtime.NumGoroutine")=ai/\∃c,fn.body=J c/\fe fn.ntmps c=ae
theorem rq.all{P:cx}{a:Nat->af Func}(h:rq P a)(g:Nat)(fn:Func)(b:a g=J fn):P.funcs[g]? = J fn/\(fn.name == "runtime.NumGoroutine")=ai/\∀c,fn.body=J c->fe fn.ntmps c=true:=by obtain⟨h1,h2,dd,h3,h4⟩:=h g fn b;exact⟨h1,h2,λc an=>by rw[h3]at an;simp only[c4]at an;rw[<-an];exact h4⟩
theorem BX{x:Nat->af Func}(o:rq ab.P x){px:aM R}(g:A' ab px)(hm:ab.P.follows .mixedOrders=ae){fn:Func}{as_:U Act}{K:bc->af R}{r:R}{P3:Ending->aK->Prop}{tmps:Array aA} :
  ∀(df:U D) (st:bc),st.df=df->rv x px df st K=J r->∀(m:dg) (p:U Deferred) (w:aK),Rel ab m ⟨tmps,p⟩ as_ (az st) w ->
   (∀cH y w2,K cH=J r->(cH.n=st.n/\cH.bI=st.bI)->Rel ab y ⟨tmps,[]⟩ as_ (az cH) w2->∃v,(_root_.Go.results fn tmps).run ab.P w2 = .ok v w2/\P3 (.returned v) w2) ->
   LeavesInM gK 0 ab.P fn tmps P3 p .returning w
 |[],st,IL,h,m,p,w,ay,IM=>by have ao:p=[]:=ay.y_ IL;subst ao;exact IM st m w h ⟨rfl,rfl⟩ ay
 |d::l,st,IL,h,m,p,w,ay,IM=>by
  have ao:=ay.env.defers;rw[show(az st).df=d::l from IL]at ao;obtain⟨u2,rest,e,h1,h2⟩:=ao;simp only at e;subst e;refine⟨by simp,?_⟩;cases d with
  |ptr b c=>
   left;simp only[rv]at h;split at h
   .rename_i aj;obtain⟨_,_,_,rfl⟩:=h1;have j:=(ay.eb b (.e' 0) aj).2 rfl;have j:w.heap[m.ak b]? = J (.deferred (J [])):=j;have a:=ay.served (o':=.deferred ah) aj j (by simp);have bL:Rel ab m ⟨tmps,rest⟩ as_ (az { st with ak:=eZ st.ak b (.e' 2),df:=l }) (w.putObj (m.ak b) (.deferred ah)):=by have z:=a.env.defers;rw[show(az { st with ak:=eZ st.ak b (.e' 2) }).df = .ptr b c::l from IL]at z;obtain⟨_,_,aS,_,h4⟩:=z;simp only[gZ]at aS;obtain⟨_,rfl⟩:=aS;exact⟨a.dV,⟨h4,a.env.size,a.env.get⟩,a.gI,a.cd,a.lt,a.eb,a.hZ,a.inj,a.gb,a.fH,a.own,a.fE,a.g1⟩
    exact⟨m.ak b,_,rfl,run_takeDeferred j,BX o g hm l _ rfl h m rest _ bL (λcH y w2 dN eJ gl=>IM cH y w2 dN eJ gl)⟩
   .cases h
  |fn f hp=>
   right;simp only[rv]at h;split at h
   .rename_i s bW;split at h
    .rename_i c aj;obtain⟨k,rfl,q⟩:=h1;obtain⟨f1,f2,f3⟩:=o.all f s bW;have aJ:=aw.ga f1 rG f2;split at h
     .rename_i hle;have hle:I k<=s.ntmps:=by rw[q.len];simpa using hle
      have a:Rel ab m ⟨tmps,rest⟩ as_ (az { st with df:=l }) w:=⟨ay.dV,⟨h2,ay.env.size,ay.env.get⟩,ay.gI,ay.cd,ay.lt,ay.eb,ay.hZ,ay.inj,ay.gb,ay.fH,ay.own,ay.fE,ay.g1⟩;have aZ:Rel ab m { tmps:=k.toArray++Array.replicate (s.ntmps-k.toArray.size) undef,defers:=[] } (⟨tmps,rest⟩::as_) (az { st with n:=s.ntmps,env:=hh 0 hp,cd:=st.nb,lt:=st.ba,bI:=⟨st.n,st.env,st.cd,st.lt,l⟩::st.bI,df:=[] }) w:=⟨ay.dV,⟨rfl,LZ hle,M6 q hle⟩,⟨_,as_,rfl,a.cd,a.lt,a.env,a.gI⟩,b2 _,b2 _,ay.eb,ay.hZ,ay.inj,ay.gb,ay.fH,ay.own,ay.fE,ay.g1⟩
      refine⟨(λe=>nomatch e),.func f,k.toArray,f,k.toArray,rfl,?_,λ_ _=>trivial,?_⟩
      .have l3:=aJ k.toArray w;simp[invoke,go_sem];simpa using l3
      .refine CallsDIn.mono (callsDIn_of_wp (R:=λe w'=>∃v,e = .returned v/\LeavesInM gK 0 ab.P fn tmps P3 rest .returning w') f1 aj trivial (wpIn_wide.2 (n0 g.1 g.2.1 g.2.2.1 hm c _ _ r (f3 c aj) (λb _=>g.2.2.2 b) h _ m _ _ w aZ ?_))) ?_
       .intro e aG aR bC w' aV u i;cases e
        case exit=>cases aV
        all_goals
         simp only at aV;split at aV
         .rename_i cy cE bI b9 ch t;have bk:aG.bI=⟨st.n,st.env,st.cd,st.lt,l⟩::st.bI:=u.2;obtain⟨us,bz,_⟩:=qk g.1 i ch;have ac:=i.pop t;rw[bk]at t;simp only[gZ]at t;obtain⟨rfl,rfl⟩:=t;exact⟨i.y_ b9,_,E2 bz,_,rfl,BX o g hm l _ rfl aV aR rest w' ac (λcH y w2 dN eJ gl=>IM cH y w2 dN eJ gl)⟩
         .cases aV
       .rintro e iK w' ⟨rfl,v,rfl,bB⟩;exact bB
     .cases h
    .cases h
   .cases h
  |_=>exact h1.elim
theorem ET{m:dg}{a:Act}{as_:U Act}{w:aK}{r:R}:∀{av:U D}{st:bc}{vs:U aA}{K:U D->U (Nat×c_)->af R},Rel ab m a as_ (az st) w->aX (vx ab m (az st) w) av vs->q8 st.ak av K=J r->∃b g,K b g = J r/\Rel ab m a as_ (az { st with ak:=g }) w/\eD (vx ab m (az st) w) (vx ab m (az { st with ak:=g }) w)/\aX (vx ab m (az { st with ak:=g }) w) b vs
 |[],st,vs,K,ay,ao,h=>⟨[],st.ak,h,ay,⟨bF.refl _ _,λ_ _ h=>.inl h,rfl,λ_ _=>rfl,b2 _,b2 _,λt _ y=>⟨y,rfl,λ_ _ _=>rfl⟩⟩,by simpa using ao⟩
 |d::av,st,vs,K,ay,ao,h=>by
  obtain⟨u,us,rfl,h1,h2⟩:=ao;by_cases l:∃es,d = .agg es
  .obtain⟨es,rfl⟩:=l;simp only[q8]at h;simp only[aB]at h1;obtain⟨z,o,rfl,h3⟩:=h1;obtain⟨p,q,aV,s,n,v,x⟩:=JT ay h3 h;obtain⟨b,c,i,j,f,k⟩:=ET (st:={ st with ak:=q }) s (aX.later n _ _ h2) aV;exact⟨.agg p::b,c,i,j,n.trans f,⟨_,us,rfl,by simp only[aB];exact⟨x z,o,rfl,aX.later f _ _ v⟩,k⟩⟩
  .have e:q8 st.ak (d::av) K=q8 st.ak av λkR c=>K (d::kR) c:=by cases d<;>first|rfl|exact absurd ⟨_,rfl⟩ l
   rw[e]at h;obtain⟨b,c,i,j,f,k⟩:=ET ay h2 h;exact⟨d::b,c,i,j,f,⟨u,us,rfl,aB.later f _ _ h1,k⟩⟩
variable{args:U D}{g:Nat}{px:aM R}{r:R}
theorem aq6{p:Nat->af Func}(l:rq ab.P p)(h:A' ab px)(hm:ab.P.follows .mixedOrders=ae)(aJ:p g=J fn){K:U D->bc->af R}(an:OC p px fn args st K=J r):o8 ab g args st K r:=by
 obtain⟨f1,f2,f3⟩:=l.all g fn aJ;unfold OC at an;split at an
 .rename_i c aj hle;refine⟨aw.ga f1 rG f2,λm a as_ w vs ay i=>?_⟩;have o:I vs<=fn.ntmps:=by rw[i.len];simpa using hle
  obtain⟨q,aZ,an,d,_,j⟩:=ET ay i an;have u:Rel ab m { tmps:=vs.toArray++Array.replicate (fn.ntmps-vs.toArray.size) undef,defers:=[] } (a::as_) (az { st with n:=fn.ntmps,env:=hh 0 q,cd:=st.nb,lt:=st.ba,bI:=⟨st.n,st.env,st.cd,st.lt,st.df⟩::st.bI,ak:=aZ,df:=[] }) w:=⟨d.dV,⟨rfl,LZ o,M6 j o⟩,⟨a,as_,rfl,d.cd,d.lt,d.env,d.gI⟩,b2 _,b2 _,d.eb,d.hZ,d.inj,d.gb,d.fH,d.own,d.fE,d.g1⟩
  refine callsIn_wide.1 (callsIn_of_wp_marks (n:=0) f1 aj trivial (wpIn_wide.2 (n0 h.1 h.2.1 h.2.2.1 hm c _ _ r (f3 c aj) (λb _=>h.2.2.2 b) an _ m _ (a::as_) w u ?_)));intro e aG aR bC w' aV s t;cases e
  case exit=>cases aV
  all_goals
   simp only at aV;have v:aG.bI=⟨st.n,st.env,st.cd,st.lt,st.df⟩::st.bI:=s.2;refine BX l h hm (tmps:=bC.tmps) aG.df aG rfl aV aR bC.defers w' t (λcH fV w2 dN eJ gl=>?_);split at dN
   .rename_i rs f bI bk k;obtain⟨us,x,y⟩:=qk h.1 gl bk;have z:=gl.pop k;rw[eJ.2,v]at k;simp only[gZ]at k;obtain⟨rfl,rfl⟩:=k;obtain⟨bz,ac,sr,y7,_,IP⟩:=ET z y dN;exact⟨_,E2 x,_,rfl,bz,_,fV,sr,⟨rfl,rfl,rfl,rfl,rfl⟩,y7,H1 IP⟩
   .cases dN
 .cases an
theorem alo{u:Nat->af Func}(q:rq ab.P u){px:aM (U D)}(bL:∀i:cB,i.P=ab.P->i.el=ab.el->i.bM=ab.bM->A' i px)(hm:ab.P.follows .mixedOrders=ae)(bW:u g=J fn){rs:U D}(h:N0 u px fn args=J rs):aw.jE ab.P g/\∀(s:FS) (m:dg) (a:Act) (as_:U Act) (w:aK) (vs:U aA),Rel ab m a as_ s w->aX (vx ab m s w) args vs->Calls ab.P g vs.toArray w λdv w'=>∃v,dv = .returned v/\Rel ab m a as_ s w'/\aB (vx ab m s w') (hl (rs.map dw)) v:=by
 obtain⟨f1,f2,f3⟩:=q.all g fn bW;unfold N0 at h;split at h
 .rename_i c aj d;simp only[bx]at d;refine⟨aw.ga f1 rG f2,λs m a as_ w vs ay f=>?_⟩;have r:I vs<=fn.ntmps:=by rw[f.len];simpa using d.2
  obtain⟨e4,b9⟩:=Bb ay;have base:=Jm (P:=ab.P) (el:=ab.el) (bM:=ab.bM) (sa:=[]) rfl (x:=()) (n:=fn.ntmps) (cp _) e4 b9 (vs:=[]) (by simp[en,aX]);have l:aX (vx ⟨ab.P,w,er,(vx ab m s w).S,ab.el,ab.bM⟩ ⟨λ_=>0,λ_=>ah⟩ (az (gD fn.ntmps [] ())) w) (args.map mO) vs:=by
   refine Lc (x:=vx ab m s w) (x':=vx ⟨ab.P,w,er,(vx ab m s w).S,ab.el,ab.bM⟩ ⟨λ_=>0,λ_=>ah⟩ (az (gD fn.ntmps [] ())) w) (λb j gQ=>?_) rfl d.1 (Qi f);rcases gQ with gQ|⟨k,aV,_⟩|⟨t,o,cg,_⟩
   .exact gQ
   .exact absurd rfl aV
   .cases cg
  have bk:Rel ⟨ab.P,w,er,(vx ab m s w).S,ab.el,ab.bM⟩ ⟨λ_=>0,λ_=>ah⟩ { tmps:=vs.toArray++Array.replicate (fn.ntmps-vs.toArray.size) undef,defers:=[] } [] (az ⟨fn.ntmps,hh 0 (args.map mO),0,0,[],[],0,[],0,[]⟩) w:=⟨base.dV,⟨rfl,LZ r,M6 l r⟩,base.gI,base.cd,base.lt,base.eb,base.hZ,base.inj,base.gb,base.fH,base.own,base.fE,base.g1⟩
  obtain⟨p1,p2,p3,hs⟩:=bL ⟨ab.P,w,er,(vx ab m s w).S,ab.el,ab.bM⟩ rfl rfl rfl;refine callsIn_wide.1 (callsIn_of_wp_marks (n:=0) f1 aj trivial (wpIn_wide.2 (n0 p1 p2 p3 hm c _ _ rs (f3 c aj) (λb _=>hs b) h _ _ _ [] w bk ?_)));intro e aG aR bC w' aV ch y;cases e
  case exit=>cases aV
  all_goals
   simp only at aV;refine BX (ab:=⟨ab.P,w,er,(vx ab m s w).S,ab.el,ab.bM⟩) q ⟨p1,p2,p3,hs⟩ hm (tmps:=bC.tmps) aG.df aG rfl aV aR bC.defers w' y (λcH fV w2 dN eJ gl=>?_);split at dN
   .rename_i am cy;obtain⟨us,bz,ac⟩:=qk p1 gl cy;obtain⟨cZ,cE,p,z,_,aJ⟩:=E8 gl ac dN;split at p
    .rename_i aZ;simp only[c4]at p;subst p;refine⟨_,E2 (ab:=ab) bz,_,rfl,ay.quiet z.dV,?_⟩;have l3:=Lc (x:=vx ⟨ab.P,w,er,(vx ab m s w).S,ab.el,ab.bM⟩ fV (az { cH with ak:=cE }) w2) (x':=vx ab m s w2) (λb j gQ=>.inl gQ) rfl aZ (Qi aJ);rw[List.map_map,show dw∘mO=mO from funext agF];exact H1 l3
    .cases p
   .cases dN
 .cases h
def awv(ab:cB)(px:aM R)(b:Code):Prop:=∀(st:bc) (K:bf->bc->af R) (r:R),px.loop b st K=J r->∀(Q:Exit->Act->aK->Prop) (m:dg) (a:Act) (as_:U Act) (w:aK),fe st.n b=ae->Rel ab m a as_ (az st) w->(∀e aG aR bC w',K e aG = J r->(aG.n=st.n/\aG.bI=st.bI)->Rel ab aR bC as_ (az aG) w'->Q (pd e) bC w')->aw.uc ab.P b Q a w
def oc(ab:cB)(px:aM R):Prop:=eR ab px/\hy ab px/\ik ab px/\∀b,awv ab px b
theorem oc.sA(h:oc ab px):A' ab px:=⟨h.1,h.2.1,h.2.2.1,λb st K r h1 Q m a as_ w h2 h3 h4=>aw.I9 (h.2.2.2 b st K r h1 Q m a as_ w h2 h3 h4)⟩
end
theorem zl{P:cx}{el:b1->bD}(hm:P.follows .mixedOrders=ae){aO:Nat->ds}{bM:Nat->af h_}{y:Nat->af Func}{tb:(R:Type)->Nat->af (iD R)}{Rd:(R:Type)->Nat->af (kf R)}(q:∀t,eL P el aO t=ae)(i:rq P y)
  (u:∀(R:Type) (ab:cB),ab.P=P->ab.el=el->ab.bM=bM->∀g f,tb R g=J f->hk ab g f) (v:∀(R:Type) (ab:cB),ab.P=P->ab.el=el->ab.bM=bM->∀g f,Rd R g=J f->mV ab g f) {Ra:Nat->af (bt×bt)}(x:∀g p,Ra g=J p->qV p.1 p.2=ae) :
  ∀(n:Nat) (R:Type) (ab:cB),ab.P=P->ab.el=el->ab.bM=bM->oc ab (co aO bM y tb Rd Ra n R)
 |0,R,ab,cF,aS,e_=>by subst cF aS e_;exact⟨⟨q,rfl,IV.ok λ_ _ _ _=>rfl⟩,(λ_ _ _ _ _ h=>nomatch h),⟨(λ_ _ _ _ h=>nomatch h),(λ_ _ h=>nomatch h)⟩,(λ_ _ _ _ h=>nomatch h)⟩
 |n+1,R,ab,cF,aS,e_=>by
  have iw:=zl hm q i u v x n R ab cF aS e_;have ac:∀k:cB,k.P=ab.P->k.el=ab.el->k.bM=ab.bM->A' k (co aO bM y tb Rd Ra n (U D)):=λk h1 h2 h3=>(zl hm q i u v x n (U D) k (h1.trans cF) (h2.trans aS) (h3.trans e_)).sA;have aZ:=u R ab cF aS e_;have bk:=v R ab cF aS e_;subst cF aS e_;have l:=iw.sA;refine⟨⟨q,rfl,Rq l.1 l.2.1 l.2.2.1 hm rfl⟩,λg args st K r j=>?_,⟨λg args K r j=>?_,λg F z=>?_⟩,λb st K r j Q m a as_ w bz ay ew=>?_⟩
  .simp only[co]at j;split at j
   .rename_i f bO;exact aZ g f bO args st K r j
   .split at j
    .rename_i fn s;exact aq6 i l hm s j
    .cases j
  .simp only[co]at j;split at j
   .rename_i f bO;exact bk g f bO args K r j
   .split at j
    .rename_i fn s;split at j
     .rename_i rs bL;exact⟨rs,j,alo i ac hm s bL⟩
     .cases j
    .cases j
  .simp only[co]at z;split at z
   .rename_i CF bG fn bW s;split at z
    .rename_i hle;simp only[c4]at z;subst z;obtain⟨f1,f2,c,aj,f3⟩:=i g fn s;exact ZZ (z5 f1 aj f2 hm (by rw[f3];simpa using hle) (λk h1 h2 h3=>by obtain⟨bd,ei,fK,jw⟩:=(zl hm q i u v x n (au bG.b3) k h1 h2 h3).sA;exact⟨bd,ei,fK,λb _=>jw b⟩) (λ_=>rfl)) (x g (CF,bG) bW)
    .cases z
   .cases z
  .simp only[co]at j;refine aw.GO (n0 l.1 l.2.1 l.2.2.1 hm b { st with env:=trim st.n st.env } _ r bz (λbQ _=>l.2.2.2 bQ) j _ m a as_ w ay.trim ?_);intro e aG aR bC w' aJ d o;cases e with|normal=>exact iw.2.2.2 b aG K r aJ Q aR bC as_ w' (by rw[d.1];exact bz) o (λaS cH fV a2 w2 dN eJ gl=>ew aS cH fV a2 w2 dN ⟨eJ.1.trans d.1,eJ.2.trans d.2⟩ gl)|exit id=>exact ew (.exit id) aG aR bC w' aJ d o|ret=>exact ew .ret aG aR bC w' aJ d o
end Go.dS
namespace Go.dS
section
variable {R:Type}{P:cx}{el:b1->bD}{bM:Nat->af h_}{aO:Nat->ds}{ab:cB}
def I8(px a:aM R):aM R:=⟨px.aO,px.bM,px.call,px.u0,px.loop,px.u1,C2 a⟩
theorem bT.I8{px b:aM R}(h:bT ab px)(an:bT ab b)(hm:ab.P.follows .mixedOrders=ae):bT ab (I8 px b):=⟨⟨h.p.1,h.p.2,Rq an.p an.c an.q hm rfl⟩,λg args st K r a=>h.c g args st K r a,⟨λg args K r a=>h.q.1 g args K r a,λg f d=>h.q.2 g f d⟩⟩
end
section
def F7{R:Type}(px:aM R)(fn:Func)(sa bH:U ck)(x:au sa)(fin:au bH->af R):af R:=match fn.body with
 |some c=>hj px c (gD fn.ntmps sa x) λe st=>match e with
  |.exit _=>ah
  |_=>rv (λ_=>ah) px st.df st λcH=>match results px cH fn.results.toList with
   |some rs=>nc bH cH rs λa aG=>match j3 bH aG.a9 a with|some r=>fin r|none=>ah
   |none=>ah
 |none=>ah
variable{P:cx}{c:Code}{el:b1->bD}{f:FuncId}{fn:Func}{bM:Nat->af h_}{bH:U ck}{px:aM (au bH)}{sa:U ck}
theorem aiT{F:au sa->af (au bH)}(bO:P.funcs[f]? = J fn)(aj:fn.body=J c)(v:(fn.name == "runtime.NumGoroutine")=ai)(hm:P.follows .mixedOrders=ae)(k:(fe fn.ntmps c&&dz (I sa) fn.ntmps&&im (c8 0 sa) [])=ae)
  (bL:∀ab:cB,ab.P=P->ab.el=el->ab.bM=bM->ab.g'=er->eR ab px/\hy ab px/\ik ab px/\∀b,fR ab px b) (eu:∀x,F7 px fn sa bH x J=F x):eH P el bM f sa bH F:=by
 refine⟨aw.ga bO rG v,λx r y w M vs e4 bW ay=>?_⟩;simp at k;have cJ:I sa<=fn.ntmps:=by simpa using k.1.2
 have aJ:=Jm (P:=P) (rM k.2) cJ e4 bW ay;rw[<-eu]at y;unfold F7 at y;rw[aj]at y;simp only at y;obtain⟨h1,h2,h3,h4⟩:=bL ⟨P,w,er,M,el,bM⟩ rfl rfl rfl rfl;have aZ:rq P (λ_=>(ah:af Func)):=λg iT y=>by cases y
 refine callsIn_wide.1 (callsIn_of_wp_marks (n:=0) bO aj trivial (wpIn_wide.2 (n0 h1 h2 h3 hm c _ _ r k.1.1 (λb _=>h4 b) y _ _ _ [] w aJ ?_)));intro e cD gn bC w1 m _ s;cases e
 case exit=>cases m
 all_goals
  simp only at m;refine BX (ab:=⟨P,w,er,M,el,bM⟩) aZ ⟨h1,h2,h3,h4⟩ hm (tmps:=bC.tmps) cD.df cD rfl m gn bC.defers w1 s (λaG aR w' m _ d=>?_);split at m
  .rename_i am b9;obtain⟨us,bk,l⟩:=qk h1 d b9;obtain⟨rs,cH,fV,m,j,_,z⟩:=zO d l m;clear l d;split at m
   .rename_i Cy bz;simp at m;subst m;obtain⟨ch,cy⟩:=BV 0 bz;let lN:dg:=⟨λ_=>0,λp=>(bS 0 bH rs p).bind fV.a9⟩;have a:∀p g o,lN.a9 p=J (g,o)->∃t,bS 0 bH rs p=J t/\t∈cH.a9/\fV.a9 t=J (g,o):=λp g o u=>by cases cI:bS 0 bH rs p with|none=>simp only[lN,cI]at u;cases u|some t=>simp[lN,cI]at u;exact⟨t,rfl,(ch p t cI).1,u⟩
    have gQ:∀b i,(m' el M lN bH w').S b i->(vx ⟨P,w,er,M,el,bM⟩ fV (az cH) w').S b i:=by
     rintro b i (h|⟨p,o,_,h2,h3⟩)
     .exact .inl h
     .obtain⟨t,_,ei,fK⟩:=a p b o h2;exact .inr (.inr ⟨t,o,ei,fK,h3⟩)
    have ac:=o3 (X:=vx ⟨P,w,er,M,el,bM⟩ fV (az cH) w') (X':=m' el M lN bH w') gQ rfl rfl 0 bz (λt cg=>cg) z (λp bn=>by have:=(o1 _ _ _ bn).2;exact⟨by simpa[m']using this,rfl⟩)
    refine⟨_,E2 (ab:=⟨P,w,er,M,el,bM⟩) bk,aw.lO us,lN,rfl,j.dV,λp g o bn u=>?_,λp q g o o' _ _ u cE=>?_,H1 ac⟩
    .obtain⟨t,_,ei,fK⟩:=a p g o u;exact _B
    .obtain⟨t,bd,ei,fK⟩:=a p g o u;obtain⟨t',p1,p2,p3⟩:=a q g o' cE;have:=j.gb t t' g o o' ei p2 fK p3;subst this;exact cy p q t bd p1
   .cases m
  .cases m
theorem axD{aO:Nat->ds}{F:bb sa bH}(i:∀t,eL P el aO t=ae)(hm:P.follows .mixedOrders=ae)(j:P.funcs[f]? = J fn)(aj:fn.body=J c)(d:(fn.name == "runtime.NumGoroutine")=ai)(e:(fe fn.ntmps c&&dz (I sa) fn.ntmps&&im (c8 0 sa) [])=ae)
  (k:∀b st K,px.loop b st K=ah) (h:∀ab,ku P el bM aO ab->bT ab px) (l:∀x,F7 px fn sa bH x J=F x):eH P el bM f sa bH F:=
 aiT j aj d hm e (λab a b c _=>by have h1:=h ab ⟨a,b,c,i,hm⟩;exact⟨h1.p,h1.c,h1.q,λb st K r g=>by rw[k]at g;cases g⟩) l
end
end Go.dS
namespace Go.Proofs.YtcoaaebppfbbnaaGreatDoor
open Go.dS
inductive T where
 |no
 |cv (p v:ar)
 |dr (p:ar) (k:T)
 |cY (o:Option ar) (k:Nat->T)
namespace T
def qT:T->Bool|.cY _ _=>ae|_=>ai
def e1:T->Bool|.no=>ae|_=>ai
end T
def dw:ar->ar->af ar|[],p=>J p|_::_,[]=>ah|x::q,y::p=>if x=y then dw q p else ah
theorem iL:∀{q p r:ar},dw q p=J r↔p=q++r
 |[],p,r=>by simp[dw]
 |x::q,[],r=>by simp[dw]
 |x::q,y::p,r=>by
  simp only[dw];split
  .rename_i h;subst h;simp[iL (q:=q)]
  .rename_i h;simp;intro h2;exact absurd h2.symm h
theorem jB(q r:ar):dw q (q++r)=J r:=iL.2 rfl
def hQ:ar->ar->ar×ar×ar|x::a,y::b=>if x=y then(x::(hQ a b).1,(hQ a b).2)else([],x::a,y::b)|a,b=>([],a,b)
theorem qq:∀a b:ar,a=(hQ a b).1++(hQ a b).2.1/\b=(hQ a b).1++(hQ a b).2.2
 |[],b=>by simp[hQ]
 |_::_,[]=>by simp[hQ]
 |x::a,y::b=>by
  simp only[hQ];split
  .rename_i h;have c:=qq a b;subst h;exact⟨by rw[gY,<-c.1],by rw[gY,<-c.2]⟩
  .simp
theorem rL:∀{a b:ar}{x y:UInt8}{bC bQ:ar},(hQ a b).2.1=x::bC->(hQ a b).2.2=y::bQ->x≠y
 |[],b,x,y,bC,bQ,h,_=>by simp[hQ]at h
 |_::_,[],_,_,_,_,_,h=>by simp[hQ]at h
 |x::a,y::b,x',ayX,bC,bQ,h,h2=>by
  simp only[hQ]at h h2;split at h
  .rename_i e;simp only[e,if_true]at h2;exact rL h h2
  .rename_i e;simp only[e,if_false]at h2;simp at h h2;rw[<-h.1,<-h2.1];exact e
def jg(k:Nat->T)(i:Nat)(t:T):Nat->T:=λj=>if j=i then t else k j
theorem mj(k:Nat->T)(i:Nat)(t:T):jg k i t i=t:=by simp[jg]
variable{i:Nat}{k:Nat->T}{t:T}
theorem mR{j:Nat}(h:j≠i):jg k i t j=k j:=by simp[jg,h]
def mm:ar->T->T|[],t=>t|x::p,t=>.dr (x::p) t
def m7:Nat->T:=λ_=>.no
def hold(o:af ar)(k:Nat->T):ar->ar->T|[],v=>.cY (J v) k|x::p,v=>.cY o (jg k x.toNat (.cv p v))
def p9(q u p v:ar):T:=match hQ q p with|(s,[],b)=>mm s (hold (J u) m7 b v)|(s,x::a,b)=>mm s (hold ah (jg m7 x.toNat (.cv a u)) b v)
def p5(q:ar)(k:T)(p v:ar):T:=match hQ q p with|(_,[],_)=>.no|(s,x::a,b)=>mm s (hold ah (jg m7 x.toNat (mm a k)) b v)
namespace T
def put:T->ar->ar->T
 |.no,p,v=>.cv p v
 |.cv q u,p,v=>if q=p then .cv p v else p9 q u p v
 |.dr q k,p,v=>match dw q p with|some r=>.dr q (k.put r v)|none=>p5 q k p v
 |.cY _ k,[],v=>.cY (J v) k
 |.cY o k,x::p,v=>.cY o (jg k x.toNat ((k x.toNat).put p v))
def look:T->ar->af ar
 |.no,_=>ah
 |.cv q v,p=>if q=p then J v else ah
 |.dr q k,p=>match dw q p with|some r=>k.look r|none=>ah
 |.cY o _,[]=>o
 |.cY _ k,x::p=>(k x.toNat).look p
end T
theorem xr:∀(s:ar) (t:T) (r:ar),(mm s t).look r=match dw s r with|some a=>t.look a|none=>ah
 |[],t,r=>by simp[mm,dw]
 |x::s,t,r=>by simp[mm,T.look]
variable{x:UInt8}
theorem qs{y:UInt8}(h:x≠y):x.toNat≠y.toNat:=λe=>h (UInt8.toNat_inj.1 e)
theorem L2(o:af ar)(k:Nat->T)(v:ar):∀(b:ar),(∀x bQ,b=x::bQ->k x.toNat = .no)->∀r,(hold o k b v).look r=if r=b then J v else(T.cY o k).look r
 |[],_,[]=>by simp[hold,T.look]
 |[],_,y::r=>by simp[hold,T.look]
 |x::b,h,[]=>by simp[hold,T.look]
 |x::b,h,y::r=>by
  simp only[hold,T.look];by_cases e:y=x
  .subst e;rw[mj,h y b rfl];simp only[T.look,gZ,true_and];by_cases aS:r=b
   .simp[aS]
   .simp[aS,Ne.symm aS]
  .rw[mR (qs e)];simp[e]
variable{a:ar}
theorem zI{s b:ar}:s++a=s++b↔a=b:=by simp
variable{q:ar}{u:ar}
theorem anK{p v:ar}(h:q≠p)(r:ar):(p9 q u p v).look r=if r=p then J v else if r=q then J u else none:=by
 have g:=qq q p;have i:=@rL q p;unfold p9;generalize hQ q p=z at g i;obtain⟨s,a,b⟩:=z;simp only at g i;obtain⟨rfl,rfl⟩:=g;have j:a≠b:=λe=>h (by rw[e]);cases d:dw s r with
 |none=>
  have h1:∀c,r≠s++c:=λc e=>by rw[e,jB]at d;cases d
  cases a<;>simp[xr,d,h1,show r≠s fromλe=>h1 [] GA]
 |some f=>
  have e:=iL.1 d;subst e;cases a with
  |nil=>
   simp only[xr,d];rw[L2 _ _ _ _ (λ_ _ _=>rfl)];have:(s++f = s++[])↔f = []:=by simp
   simp only[zI,this];cases f<;>simp[T.look,m7]
  |cons x a=>
   simp only[xr,d];rw[L2 _ _ _ _ (λy bQ e=>by rw[mR (qs (Ne.symm (i (x:=x) rfl e)))];rfl)];simp only[zI];cases f with
   |nil=>simp[T.look]
   |cons y f=>
    simp only[T.look];by_cases e:y=x
    .subst e;rw[mj];simp only[T.look,gZ,true_and];by_cases aS:f = a
     .simp[aS]
     .simp[aS,Ne.symm aS]
    .rw[mR (qs e)];simp[T.look,m7,e]
theorem anP{k:T}{p v:ar}(h:dw q p=ah)(r:ar):(p5 q k p v).look r=if r=p then J v else(T.dr q k).look r:=by
 have i:=qq q p;have j:=@rL q p;unfold p5;generalize hQ q p=z at i j;obtain⟨s,a,b⟩:=z;simp only at i j;obtain⟨rfl,rfl⟩:=i;cases a with
 |nil=>simp[jB]at h
 |cons x a=>
  simp only[xr,T.look];cases l:dw s r with
  |none=>
   have h1:∀c,r≠s++c:=λc e=>by rw[e,jB]at l;cases l
   have h2:dw (s++x::a) r=none:=by cases g:dw (s++x::a) r with|none=>rfl|some z=>have:=iL.1 g;rw[fI]at this;exact absurd this (h1 _)
   simp[h1,h2]
  |some f=>
   have e:=iL.1 l;subst e;simp only;rw[L2 _ _ _ _ (λy bQ e=>by rw[mR (qs (Ne.symm (j (x:=x) rfl e)))];rfl)];simp only[zI];by_cases m:f = b
   .simp[m]
   .simp only[m,if_false];cases f with
    |nil=>
     have:dw (s++x::a) (s++[])=none:=by cases g:dw (s++x::a) (s++[])with|none=>rfl|some z=>have:=iL.1 g;simp at this
     simp only[this,T.look]
    |cons y f=>
     simp only[T.look];by_cases e:y=x
     .subst e;rw[mj,xr];have:dw (s++y::a) (s++y::f)=dw a f:=by
       cases g:dw a f with
       |some z=>rw[iL]at g ⊢;rw[g];simp
       |none=>cases d:dw (s++y::a) (s++y::f)with|none=>rfl|some z=>rw[iL]at d;simp at d;rw[d,jB]at g;cases g
      rw[this]
     .rw[mR (qs e)];have:dw (s++x::a) (s++y::f)=none:=by cases d:dw (s++x::a) (s++y::f)with|none=>rfl|some z=>rw[iL]at d;simp at d;exact absurd d.1 e
      simp[T.look,m7,this]
theorem M1:∀(t:T) (p v r:ar),(t.put p v).look r=if r=p then J v else t.look r
 |.no,p,v,r=>by simp only[T.put,T.look];by_cases e:r=p<;>simp[e,Ne.symm,eq_comm (a:=p)]
 |.cv q u,p,v,r=>by
  simp only[T.put];split
  .rename_i e;subst e;simp only[T.look];by_cases e:r=q
   .simp[e]
   .simp[e,Ne.symm e]
  .rename_i e;rw[anK e];simp only[T.look];by_cases c:r=p
   .simp[c]
   .simp only[c,if_false];by_cases aS:r=q
    .simp[aS]
    .simp[aS,Ne.symm aS]
 |.dr q k,p,v,r=>by
  simp only[T.put];split
  .rename_i d e;have f:=iL.1 e;subst f;simp only[T.look];cases b:dw q r with
   |none=>
    have:r≠q++d:=λe=>by rw[e,jB]at b;cases b
    simp[this]
   |some g=>have:=iL.1 b;subst this;simp only[M1 k,zI]
  .rename_i e;exact anP e r
 |.cY o k,[],v,r=>by cases r<;>simp[T.put,T.look]
 |.cY o k,x::p,v,r=>by
  cases r with
  |nil=>simp[T.put,T.look]
  |cons y r=>
   simp only[T.put,T.look];by_cases e:y=x
   .subst e;rw[mj,M1];simp
   .rw[mR (qs e)];simp[e]
def aE(p:ar):Prop:=∀x,x∈p->x.toNat<16
theorem ny:aE []:=λ_ h=>by cases h
theorem hx{b:ar}:aE (a++b)↔aE a/\aE b:=by simp only[aE,fM];exact⟨λh=>⟨λx c=>h x (.inl c),λx c=>h x (.inr c)⟩,λh x c=>c.elim (h.1 x) (h.2 x)⟩
theorem hN:aE (x::a)↔x.toNat<16/\aE a:=by simp[aE]
def h'(o:af ar)(k:Nat->T):Nat:=(if o.isSome then 1 else 0)+(dy 16).countP λi=> !(k i).e1
def T.cz:T->Nat->Prop|.no,d=>d<=400|.cv p v,d=>aE p/\d+I p<=400/\(d+I p) % 2=0/\I v<=4000|.dr p k,d=>aE p/\p≠[]/\k.qT=ae/\k.cz (d+I p)|.cY o k,d=>d+1<=400/\(∀v,o=J v->d % 2=0/\I v<=4000)/\2<=h' o k/\∀i,i<16->(k i).cz (d+1)
theorem cz.le:∀{d:Nat},t.cz d->d<=400:=by
 cases t with
 |no=>exactλh=>h
 |cv p v=>intro d h;have:=h.2.1;omega
 |dr p k=>intro d h;cases k with|cY o k=>have:=h.2.2.2.1;omega|_=>cases h.2.2.1
 |cY o k=>intro d h;have:=h.1;omega
theorem two:∀x y:Fin 16,x≠y->2<=(dy 16).countP (λi=>i == x.val||i == y.val):=dU
variable{o:af ar}
theorem Zo{o':af ar}{a:Nat->T}(b:o.isSome=ae->o'.isSome=ae)(c:∀i,i<16->(k i).e1=ai->(a i).e1=ai):h' o k<=h' o' a:=by
 have h1:(dy 16).countP (λi=> !(k i).e1)<=(dy 16).countP λi=> !(a i).e1:=List.countP_mono_left λi hi h=>by have:=c i (List.mem_range.1 hi);simp at h ⊢;exact this h
 unfold h';cases h:o.isSome with|true=>simp[b h];exact h1|false=>simp;omega
theorem auc{x y:Nat}(a:x<16)(b:y<16)(h:x≠y)(h1:(k x).e1=ai)(h2:(k y).e1=ai) : 2<=h' o k:=by
 have h3:=two ⟨x,a⟩ ⟨y,b⟩ λe=>h GA;have h4:(dy 16).countP (λi=>i == x||i == y)<=(dy 16).countP λi=> !(k i).e1:=List.countP_mono_left λi hi h=>by
  simp at h ⊢;rcases h with rfl|rfl
  .exact h1
  .exact h2
 unfold h';simp at h3;omega
theorem aab{v:ar}{x:Nat}(a:x<16)(h1:(k x).e1=ai) : 2<=h' (J v) k:=by have : 0<(dy 16).countP λi=> !(k i).e1:=List.countP_pos_iff.2 ⟨x,List.mem_range.2 a,by simp[h1]⟩;unfold h';simp;omega
theorem BR:∀{s:ar}{t:T}{d:Nat},aE s->t.qT=ae->t.cz (d+I s)->(mm s t).cz d/\(mm s t).e1=ai
 |[],t,d,_,h,h2=>⟨h2,by cases t<;>first|rfl|cases h⟩
 |x::s,t,d,h,h1,h2=>⟨⟨h,by simp,h1,h2⟩,rfl⟩
theorem J8(o:af ar)(k:Nat->T)(b v:ar):(hold o k b v).qT=true:=by cases b<;>rfl
def Fv(o:af ar)(k:Nat->T)(d:Nat):Prop:=d+1<=400/\(∀v,o=J v->d % 2=0/\I v<=4000)/\∀i,i<16->(k i).cz (d+1)
theorem vK{d:Nat}(h:∀i,i<16->(k i).cz d)(a:t.cz d):∀j,j<16->(jg k i t j).cz d:=λj b=>by
 unfold jg;split
 .exact a
 .exact h j b
theorem Jd{b v:ar}{d:Nat}(h:Fv o k d)(aj:aE b)(ao:d+I b<=400)(g:(d+I b) % 2=0)(i:I v<=4000)
  (hm:(b=[]/\∃x,x<16/\(k x).e1=ai)\/(∃y bQ,b=y::bQ/\(o.isSome=ae\/∃x,x<16/\x≠y.toNat/\(k x).e1=ai))):(hold o k b v).cz d:=by
 rcases hm with ⟨rfl,x,c,f⟩|⟨y,bQ,rfl,hm⟩
 .exact⟨h.1,λw e=>by cases e;exact⟨by simpa using g,i⟩,aab c f,h.2.2⟩
 .have aj:=hN.1 aj;simp only[dm]at ao g;refine⟨h.1,h.2.1,?_,vK h.2.2 ⟨aj.2,by omega,by omega,i⟩⟩;rcases hm with j|⟨x,c,a,f⟩
  .obtain⟨w,rfl⟩:=Option.isSome_iff_exists.1 j;exact aab aj.1 (by rw[mj];rfl)
  .exact auc c aj.1 a (by rw[mR a];exact f) (by rw[mj];rfl)
theorem Og{d:Nat}(h:d<=400):∀i,i<16->(m7 i).cz d:=λ_ _=>h
theorem ah5{p v:ar}{d:Nat}(h:q≠p)(l:(T.cv q u).cz d)(c:aE p)(ao:d+I p<=400)(j:(d+I p) % 2=0)(k:I v<=4000):(p9 q u p v).cz d/\(p9 q u p v).e1=false:=by
 have f:=qq q p;have g:=@rL q p;unfold p9;generalize hQ q p=z at f g;obtain⟨s,a,b⟩:=z;simp only at f g;obtain⟨rfl,rfl⟩:=f;obtain⟨h1,h2,h3,h4⟩:=l;have h1:=hx.1 h1;have c:=hx.1 c;simp only[dc]at h2 h3 ao j;cases a with
 |nil=>cases b with|nil=>exact absurd rfl h|cons y b=>simp only[dm,hn]at h2 h3 ao j;exact BR h1.1 (J8 ..) (Jd ⟨by omega,λw e=>by cases e;exact⟨by omega,h4⟩,Og ag⟩ c.2 dh dh k (.inr ⟨y,b,rfl,.inl rfl⟩))
 |cons x a=>simp only[dm]at h2 h3;have i:=hN.1 h1.2;refine BR h1.1 (J8 ..) (Jd ⟨by omega,λw e=>(by cases e),vK (Og ag) ⟨i.2,by omega,by omega,h4⟩⟩ c.2 ag ag k ?_);cases b with|nil=>exact .inl ⟨rfl,x.toNat,i.1,by rw[mj];rfl⟩|cons y b=>exact .inr ⟨y,b,rfl,.inr ⟨x.toNat,i.1,qs (g rfl rfl),by rw[mj];rfl⟩⟩
theorem aih{k:T}{p v:ar}{d:Nat}(h:dw q p=ah)(j:(T.dr q k).cz d)(c:aE p)(ao:d+I p<=400)(l:(d+I p) % 2=0)(m:I v<=4000):(p5 q k p v).cz d/\(p5 q k p v).e1=false:=by
 have f:=qq q p;have g:=@rL q p;unfold p5;generalize hQ q p=z at f g;obtain⟨s,a,b⟩:=z;simp only at f g;obtain⟨rfl,rfl⟩:=f;obtain⟨h1,_,h3,h4⟩:=j;have h1:=hx.1 h1;have c:=hx.1 c;have hle:=cz.le h4;simp only[dc]at hle h4 ao l;cases a with
 |nil=>simp[jB]at h
 |cons x a=>simp only[dm]at h4 hle;have i:=hN.1 h1.2;have h5:=BR (s:=a) (t:=k) (d:=d+I s+1) i.2 h3 (by rw[show d+I s+1+I a=d+(I s+(I a+1)) by omega];exact h4);refine BR h1.1 (J8 ..) (Jd ⟨by omega,λw e=>(by cases e),vK (Og ag) h5.1⟩ c.2 ag ag m ?_);cases b with|nil=>exact .inl ⟨rfl,x.toNat,i.1,by rw[mj];exact h5.2⟩|cons y b=>exact .inr ⟨y,b,rfl,.inr ⟨x.toNat,i.1,qs (g rfl rfl),by rw[mj];exact h5.2⟩⟩
theorem OO:∀{t:T}{p v:ar}{d:Nat},t.cz d->aE p->d+I p<=400->(d+I p) % 2=0->I v<=4000->(t.put p v).cz d/\(t.put p v).e1=ai/\(t.qT=ae->(t.put p v).qT=ae)
 |.no,p,v,d,h,bn,ao,he,bB=>⟨⟨bn,ao,he,bB⟩,rfl,λh=>by cases h⟩
 |.cv q u,p,v,d,h,bn,ao,he,bB=>by
  simp only[T.put];split
  .exact⟨⟨bn,ao,he,bB⟩,rfl,λh=>by cases h⟩
  .rename_i e;have:=ah5 e h bn ao he bB;exact⟨this.1,this.2,λh=>by cases h⟩
 |.dr q k,p,v,d,h,bn,ao,he,bB=>by
  simp only[T.put];split
  .rename_i r e;have e:=iL.1 e;subst e;simp only[dc]at ao he;have:=OO (p:=r) (v:=v) h.2.2.2 (hx.1 bn).2 ag ag bB;exact⟨⟨h.1,h.2.1,this.2.2 h.2.2.1,this.1⟩,rfl,λh=>by cases h⟩
  .rename_i e;have:=aih e h bn ao he bB;exact⟨this.1,this.2,λh=>by cases h⟩
 |.cY o k,[],v,d,h,bn,ao,he,bB=>⟨⟨h.1,λw e=>by cases e;exact⟨by simpa using he,bB⟩,e2 h.2.2.1 (Zo (λ_=>rfl) λ_ _ h=>h),h.2.2.2⟩,rfl,λ_=>rfl⟩
 |.cY o k,x::p,v,d,h,bn,ao,he,bB=>by
  have a:=hN.1 bn;simp only[dm]at ao he;have:=OO (p:=p) (v:=v) (h.2.2.2 x.toNat a.1) a.2 ag ag bB;refine⟨⟨h.1,h.2.1,e2 h.2.2.1 (Zo (λh=>h) λi _ hi=>?_),vK h.2.2.2 this.1⟩,rfl,λ_=>rfl⟩;unfold jg;split
  .exact this.2.1
  .exact hi
theorem zW:∀{t:T}{r v:ar}{d:Nat},t.cz d->aE r->t.look r=J v->d+I r<=400/\(d+I r) % 2=0/\I v<=4000
 |.no,r,v,d,h,ay,e=>by cases e
 |.cv q u,r,v,d,h,ay,e=>by
  simp only[T.look]at e;split at e
  .rename_i aS;subst aS;cases e;exact h.2
  .cases e
 |.dr q k,r,v,d,h,ay,e=>by
  simp only[T.look]at e;split at e
  .rename_i b aS;have aS:=iL.1 aS;subst aS;have:=zW h.2.2.2 (hx.1 ay).2 e;simp only[dc];omega
  .cases e
 |.cY o k,[],v,d,h,ay,e=>by have:=h.2.1 v e;have:=h.1;simp;omega
 |.cY o k,x::r,v,d,h,ay,e=>by have a:=hN.1 ay;have:=zW (h.2.2.2 x.toNat a.1) a.2 e;simp only[dm];omega
def T.items:T->ar->U (ar×ar)|.no,_=>[]|.cv p v,w=>[(w++p,v)]|.dr p k,w=>k.items (w++p)|.cY o k,w=>(match o with|some v=>[(w,v)]|none=>[])++(dy 16).flatMap λi=>(k i).items (w++[bj i])
theorem qo:∀{t:T}{w q v:ar}{d:Nat},t.cz d->((q,v)∈t.items w↔∃r,q=w++r/\aE r/\t.look r=J v)
 |.no,w,q,v,d,h=>by simp[T.items,T.look]
 |.cv p u,w,q,v,d,h=>by
  simp only[T.items,T.look,List.mem_singleton,iH];constructor
  .rintro⟨rfl,rfl⟩;exact⟨p,rfl,h.1,by simp⟩
  .rintro⟨r,rfl,a,e⟩;split at e
   .rename_i aS;subst aS;cases e;exact⟨rfl,rfl⟩
   .cases e
 |.dr p k,w,q,v,d,h=>by
  simp only[T.items,T.look];rw[qo h.2.2.2];constructor
  .rintro⟨r,rfl,a,e⟩;exact⟨p++r,by simp,hx.2 ⟨h.1,a⟩,by rw[jB];exact e⟩
  .rintro⟨r,rfl,a,e⟩;split at e
   .rename_i c aS;have aS:=iL.1 aS;subst aS;exact⟨c,by simp,(hx.1 a).2,e⟩
   .cases e
 |.cY o k,w,q,v,d,h=>by
  simp only[T.items,fM,List.mem_flatMap,List.mem_range];constructor
  .rintro(e|⟨i,hi,e⟩)
   .cases o with|none=>cases e|some u=>simp at e;obtain⟨rfl,rfl⟩:=e;exact⟨[],by simp,ny,rfl⟩
   .obtain⟨r,rfl,a,e⟩:=(qo (h.2.2.2 i hi)).1 e;have f:(bj i).toNat=i:=by simp[UInt8.toNat_ofNat'];omega
    exact⟨bj i::r,by simp,hN.2 ⟨by omega,a⟩,by simp only[T.look,f];exact e⟩
  .rintro⟨r,rfl,a,e⟩;cases r with|nil=>simp only[T.look]at e;subst e;exact .inl (by simp)|cons x r=>have b:=hN.1 a;refine .inr ⟨x.toNat,b.1,(qo (h.2.2.2 _ b.1)).2 ⟨r,by simp,b.2,e⟩⟩
theorem OX:∀(w:ar) {a b:ar},a<b->w++a<w++b
 |[],_,_,h=>h
 |x::w,_,_,h=>by simp only[gY];exact List.cons_lt_cons_iff.2 (.inr ⟨rfl,OX w h⟩)
theorem P2:∀{t:T}{w:ar}{d:Nat},t.cz d->(t.items w).Pairwise λa b=>a.1<b.1
 |.no,w,d,h=>by simp[T.items]
 |.cv p v,w,d,h=>by simp[T.items]
 |.dr p k,w,d,h=>P2 (t:=k) h.2.2.2
 |.cY o k,w,d,h=>by
  simp only[T.items];rw[List.pairwise_append];refine⟨by cases o<;>simp,?_,?_⟩
  .rw[List.pairwise_flatMap];refine⟨λi hi=>P2 (h.2.2.2 i (List.mem_range.1 hi)),?_⟩;refine List.Pairwise.imp_of_mem ?_ (List.pairwise_lt_range (n:=16));intro i j hi e f a c b aj;have hi:=List.mem_range.1 hi;have e:=List.mem_range.1 e;obtain⟨r,h1,_⟩:=(qo (h.2.2.2 i hi)).1 (show(a.1,a.2)∈_ from c);obtain⟨s,h2,_⟩:=(qo (h.2.2.2 j e)).1 (show(b.1,b.2)∈_ from aj);rw[h1,h2,fI,fI];refine OX w (List.cons_lt_cons_iff.2 (.inl ?_));rw[UInt8.lt_iff_toNat_lt];simp[UInt8.toNat_ofNat'];omega
  .intro a c b aj;cases o with|none=>cases c|some v=>simp at c;subst c;obtain⟨i,hi,aj⟩:=List.mem_flatMap.1 aj;obtain⟨s,h2,_⟩:=(qo (h.2.2.2 i (List.mem_range.1 hi))).1 (show(b.1,b.2)∈_ from aj);rw[h2,fI];simpa using OX w (a:=[]) (List.nil_lt_cons (bj i) s)
end Go.Proofs.YtcoaaebppfbbnaaGreatDoor
namespace Go.dS
def pL:U c3->U c3->Bool|[],[]=>ae|a::l,b::m=>aa (a.name=b.name)&&aa (a.al=b.al)&&pL l m|_,_=>ai
theorem Tf:∀{l m:U c3},pL l m=ae->l=m
 |[],[],_=>rfl
 |⟨_,_⟩::l,⟨_,_⟩::m,h=>by simp only[pL,bx,dM]at h;have h1:=Tf h.2;have h2:=h.1.1;have h3:=h.1.2;subst h1 h2 h3;rfl
 |[],_::_,h=>by cases h
 |_::_,[],h=>by cases h
def Pa(a b:bU):Bool:=aa (a.name=b.name)&&aa (a.al=b.al)&&aa (a.key=b.key)&&pL a.idx b.idx&&a.e9.isEmpty&&b.e9.isEmpty
theorem arV{a b:bU}(h:Pa a b=ae):a=b:=by obtain⟨n,c,k,x,i⟩:=a;obtain⟨d,e,f,x',g⟩:=b;simp only[Pa,bx,dM]at h;obtain⟨⟨⟨⟨⟨h1,h2⟩,h3⟩,h4⟩,h5⟩,h6⟩:=h;subst h1 h2 h3;rw[Tf h4];rw[List.isEmpty_iff.1 h5,List.isEmpty_iff.1 h6]
mutual
def zn:bs->bs->Bool|.mk k p h v l s,.mk eh sv jv sG kR s'=>aa (k=eh)&&aa (p=sv)&&aa (h=jv)&&aa (v=sG)&&aa (s=s')&&ze l kR
def ze:U bs->U bs->Bool|[],[]=>ae|a::l,b::m=>zn a b&&ze l m|_,_=>ai
end
mutual
theorem NA:∀{a b:bs},zn a b=ae->a=b
 |.mk k p h v l s,.mk eh sv jv sG kR s',e=>by simp only[zn,bx,dM]at e;obtain⟨⟨⟨⟨⟨h1,h2⟩,h3⟩,h4⟩,h5⟩,h6⟩:=e;have h7:=af2 h6;subst h1 h2 h3 h4 h5 h7;rfl
theorem af2:∀{l m:U bs},ze l m=ae->l=m
 |[],[],_=>rfl
 |a::l,b::m,h=>by simp only[ze,bx]at h;rw[NA h.1,af2 h.2]
 |[],_::_,h=>by simp[ze]at h
 |_::_,[],h=>by simp[ze]at h
end
def zm:(c:b1)->cL c->cL c->Bool|.byte,a,b=>aa (a=b)|.int,a,b=>aa (a=b)|.u64,a,b=>aa (a=b)|.u32,a,b=>aa (a=b)|.str,a,b=>aa (a=b)|.bool,a,b=>aa (a=b)|.val,a,b=>aa (a=b)|.tok,a,b=>aa (a=b)|.cO,a,b=>aa (a=b)|.ep,a,b=>aa (a=b)|.strs,a,b=>aa (a=b)|.bytes,a,b=>aa (a=b)|.idx,a,b=>aa (a.name=b.name)&&aa (a.al=b.al)|.tbl,a,b=>Pa a b|.node,a,b=>zn a b|.stt,a,b=>zn a b|.kv,a,b=>aa (a.key=b.key)&&aa (a.val=b.val)|_,_,_=>ai
theorem _':∀{c:b1}{a b:cL c},zm c a b=ae->a=b:=by
 intro c a b h;cases c
 case idx=>cases a;cases b;simp only[zm,bx,dM]at h;simp only[h.1,h.2]
 case kv=>cases a;cases b;simp only[zm,bx,dM]at h;simp only[h.1,h.2]
 case tbl=>exact arV h
 case node=>exact NA h
 case stt=>exact NA h
 all_goals first
  |exact of_decide_eq_true h
  |exact absurd h Bool.false_ne_true
def vF(c:b1):U (cL c)->U (cL c)->Bool|[],[]=>ae|a::l,b::m=>zm c a b&&vF c l m|_,_=>ai
theorem X0{c:b1}:∀{l m:U (cL c)},vF c l m=ae->l=m
 |[],[],_=>rfl
 |a::l,b::m,h=>by simp only[vF,bx]at h;rw[_' h.1,X0 h.2]
 |[],_::_,h=>by cases h
 |_::_,[],h=>by cases h
def Pb:(s:ck)->den s->den s->Bool|.int _,a,b=>aa (a=b)|.bool,a,b=>aa (a=b)|.str,a,b=>aa (a=b)|.sl c _,a,b=>vF c a b|.aI c,a,b=>zm c a b|.rw c _,a,b=>vF c a b|.e3 c,a,b=>vF c a b|.nl _,_,_=>ae
theorem R':∀{s:ck}{a b:den s},Pb s a b=ae->a=b:=by
 intro s a b h;cases s<;>first
  |exact of_decide_eq_true h
  |exact X0 h
  |exact _' h
  |rfl
def CP:(l:U ck)->au l->au l->Bool|[],_,_=>ae|[a],x,y=>Pb a x y|a::b::l,x,y=>Pb a x.1 y.1&&CP (b::l) x.2 y.2
theorem XE:∀{l:U ck}{x y:au l},CP l x y=ae->x=y
 |[],_,_,_=>rfl
 |[a],_,_,h=>R' h
 |a::b::l,x,y,h=>by simp only[CP,bx]at h;exact Prod.ext (R' h.1) (XE (l:=b::l) h.2)
def hF(sa bH:U ck):U (au sa×au bH)->au sa->af (au bH)|[],_=>ah|(a,r)::l,x=>match CP sa x a with|true=>J r|false=>hF sa bH l x
theorem zY{sa bH:U ck}{F:au sa->af (au bH)}:∀{l:U (au sa×au bH)}(_:∀q,q∈l->F q.1=J q.2) (x:au sa) (r:au bH),hF sa bH l x=J r->F x=J r
 |[],_,_,_,h=>by cases h
 |(a,Cy)::l,bB,x,r,h=>by
  unfold hF at h;split at h
  .rename_i e;injection h with h;subst h;rw[XE e];exact bB _ (ot ..)
  .exact zY (λq b=>bB q (nE _ b)) x r h
variable{P:cx}{el:b1->bD}{f:FuncId}{bM:Nat->af h_}
theorem eH.le{sa bH:U ck}{F G:au sa->af (au bH)}(h:eH P el bM f sa bH F)(a:∀x r,G x=J r->F x=J r):eH P el bM f sa bH G:=⟨h.enters,λx r b=>h.run x r (a x r b)⟩
theorem gj.le{aQ bG:bt}{F G:au aQ.b3->af (au bG.b3)}(h:gj P el bM f aQ bG F)(a:∀x r,G x=J r->F x=J r):gj P el bM f aQ bG G:=⟨h.enters,λx r b=>h.run x r (a x r b)⟩
def Po{R:Type}(px:aM R)(w:Nat->af (mg R)):aM R:=⟨px.aO,px.bM,px.call,px.u0,px.loop,λg=>match w g with|some f=>J f|none=>px.u1 g,px.zj⟩
variable{R:Type}{ab:cB}{px:aM R}{w:Nat->af (mg R)}
theorem akS(h:oc ab px)(e:∀g f,w g=J f->kZ ab g f):oc ab (Po px w):=by
 refine⟨⟨h.1.1,h.1.2,h.1.3⟩,λg args st K r a=>h.2.1 g args st K r a,⟨λg args K r a=>h.2.2.1.1 g args K r a,λg f c=>?_⟩,λb st K r a=>h.2.2.2 b st K r a⟩;simp only[Po]at c;split at c
 .rename_i fl d;cases c;exact e g _ d
 .exact h.2.2.1.2 g f c
def NK{R:Type}(px:aM R)(c:Nat->af (iD R))(w:Nat->af (mg R)):aM R:=⟨px.aO,px.bM,λg=>match c g with
 |some f=>f
 |none=>px.call g,px.u0,px.loop,λg=>match w g with
 |some f=>J f
 |none=>px.u1 g,px.zj⟩
theorem ajd{c:Nat->af (iD R)}(h:oc ab px)(an:∀g f,c g=J f->hk ab g f)(j:∀g f,w g=J f->kZ ab g f):oc ab (NK px c w):=by
 refine⟨⟨h.1.1,h.1.2,h.1.3⟩,λg args st K r a=>?_,⟨λg args K r a=>h.2.2.1.1 g args K r a,λg f d=>?_⟩,λb st K r a=>h.2.2.2 b st K r a⟩
 .have a:(match c g with|some f=>f|none=>px.call g) args st K=J r:=a;cases e:c g with|none=>rw[e]at a;exact h.2.1 g args st K r a|some f=>rw[e]at a;exact an g f e args st K r a
 .simp only[NK]at d;split at d
  .rename_i fl i;cases d;exact j g _ i
  .exact h.2.2.1.2 g f d
end Go.dS
namespace Go.Proofs.YtcoaaebppfbbnaaGreatDoor
open Go.dS
def oG:U (Int×ar):=[(4,[65,78,68]),(5,[79,82]),(6,[61]),(7,[60,62]),(8,[60]),(9,[60,61]),(10,[62]),(11,[62,61]),(12,[43]),(13,[45]),(14,[42])]
def ZN:U Int:=[1779033703,3144134277,1013904242,2773480762,1359893119,2600822924,528734635,1541459225]
def CS:U Int:=[1116352408,1899447441,3049323471,3921009573,961987163,1508970993,2453635748,2870763221,3624381080,310598401,607225278,1426881987,1925078388,2162078206,2614888103,3248222580,3835390401,4022224774,264347078,604807628,770255983,1249150122,1555081692,1996064986,2554220882,2821834349,2952996808,3210313671,3336571891,3584528711,113926993,338241895,666307205,773529912,1294757372,1396182291,1695183700,1986661051,2177026350,2456956037,2730485921,2820302411,3259730800,3345764771,3516065817,3600352804,4094571909,275423344,430227734,506948616,659060556,883997877,958139571,1322822218,1537002063,1747873779,1955562222,2024104815,2227730452,2361852424,2428436474,2756734187,3204031479,3329325298]
def q2:U (Nat×dS.ds):=[(3,.int .i64),(4,.bool),(5,.int .u8),(9,.str),(21,.int .i32),(22,.sl .cO),(23,.sl .str),(24,.sl .expr),(25,.sl .idx),(27,.st (J .tbl) [(0,9),(1,22),(2,23),(3,24),(4,25)] [.str [],.sl .cO [] .nil,.sl .str [] .nil,.sl .expr [] .nil,.sl .idx [] .nil]),(28,.sl .val),(30,.sl .ep),(31,.fn),(32,.sl .kv),(33,.int .i64),(40,.ptr),(43,.sl .byte),(44,.sl .node),(46,.st (J .node) [(0,3),(1,43),(2,4),(3,43),(4,44),(5,43)] [.int .i64 0,.sl .byte [] .nil,.bool ai,.sl .byte [] .nil,.sl .node [] .nil,.sl .byte [] .nil]),(54,.st (J .cO) [(0,9),(1,3),(2,4),(3,4),(4,9)] [.str [],.int .i64 0,.bool ai,.bool ai,.str []]),(56,.st (J .val) [(0,3),(1,3),(2,9)] [.int .i64 0,.int .i64 0,.str []]),(59,.st (J .idx) [(0,9),(1,23)] [.str [],.sl .str [] .nil]),(60,.int .u64),(72,.st (J .lay) [(0,32),(1,33)] [.sl .kv [] .nil,.int .i64 0]),(75,.sl .lay),(77,.sl .ow),(80,.st (J .kv) [(0,43),(1,43)] [.sl .byte [] .nil,.sl .byte [] .nil]),(82,.st (J .ow) [(0,3),(1,80)] [.int .i64 0,.sl .byte [] .nil,.sl .byte [] .nil]),(86,.st (J .stt) [(0,46)] [.int .i64 0,.sl .byte [] .nil,.bool ai,.sl .byte [] .nil,.sl .node [] .nil,.sl .byte [] .nil]),(87,.sl .stt),(89,.st ah [(0,86),(6,87),(7,43)] [.int .i64 0,.sl .byte [] .nil,.bool ai,.sl .byte [] .nil,.sl .node [] .nil,.sl .byte [] .nil,.sl .stt [] .nil,.sl .byte [] .nil]),(106,.sl .exprs),(107,.sl .set),(109,.st (J .expr) [(0,3),(1,56),(4,9),(5,24)] [.int .i64 0,.int .i64 0,.int .i64 0,.str [],.str [],.sl .expr [] .nil]),(110,.sl .bool),(112,.st (J .stmt) [(0,3),(1,9),(2,9),(3,22),(4,23),(5,24),(6,106),(7,107),(8,4),(9,109),(15,23),(16,110),(17,3)] [.int .i64 0,.str [],.str [],.sl .cO [] .nil,.sl .str [] .nil,.sl .expr [] .nil,.sl .exprs [] .nil,.sl .set [] .nil,.bool ai,.int .i64 0,.int .i64 0,.int .i64 0,.str [],.str [],.sl .expr [] .nil,.sl .str [] .nil,.sl .bool [] .nil,.int .i64 0]),(117,.fn),(140,.sl .jM),(154,.int .u64),(161,.st (J .set) [(0,9),(1,109)] [.str [],.int .i64 0,.int .i64 0,.int .i64 0,.str [],.str [],.sl .expr [] .nil]),(173,.ptr),(189,.st (J .span) [(0,43),(1,43),(2,4)] [.sl .byte [] .nil,.sl .byte [] .nil,.bool ai]),(193,.ptr),(195,.st ah [(0,43),(1,3),(2,33)] [.sl .byte [] .nil,.int .i64 0,.int .i64 0]),(197,.fn),(212,.arr 2 .int),(221,.fn),(225,.fn),(228,.st ah [(0,80),(2,43)] [.sl .byte [] .nil,.sl .byte [] .nil,.sl .byte [] .nil]),(234,.fn),(236,.fn),(238,.sl .bytes),(239,.ptr),(253,.fn),(258,.fn),(266,.ptr),(267,.fn),(275,.int .u32),(276,.arr 8 .u32),(278,.st ah [(0,276),(8,43),(9,3)] [.int .u32 0,.int .u32 0,.int .u32 0,.int .u32 0,.int .u32 0,.int .u32 0,.int .u32 0,.int .u32 0,.sl .byte [] .nil,.int .i64 0]),(283,.fn),(292,.map),(299,.sl .int),(301,.st (J .num) [(0,4),(1,299)] [.bool ai,.sl .int [] .nil]),(307,.arr 64 .u32),(315,.fn),(319,.fn),(326,.arr 256 .byte),(328,.st ah [(0,5),(1,5)] [.int .u8 0,.int .u8 0])]
def gP:b1->bD|.byte=>5|.int=>3|.u64=>154|.u32=>275|.str=>9|.bool=>4|.val=>56|.cO=>54|.expr=>109|.num=>301|.set=>161|.stmt=>112|.idx=>59|.tbl=>27|.node=>46|.stt=>86|.kv=>80|.jM=>32|.lay=>72|.ow=>82|.span=>189|.ep=>28|.exprs=>24|.strs=>23|.bytes=>43|_=>0
theorem sU:(q2.all λp=>eL Tryz.prog gP (nV q2) p.1)=true:=b0
def mw:Nat->af h_:=tbl [(0,.num .i64),(1,.arr .u32 ZN),(2,.map oG),(3,.arr .u32 CS)]
theorem follows:Tryz.prog.follows .mixedOrders=true:=b0
abbrev aN:=eH Tryz.prog gP mw
abbrev fb:=gj Tryz.prog gP mw
abbrev nw:=ku Tryz.prog gP mw (nV q2)
def bp{R:Type}(c:U (Nat×iD R))(q:U (Nat×kf R))(l:U (Nat×zE R))(w:U (Nat×mg R)):aM R:=⟨nV q2,mw,FP c,Dd q,avk l,tbl w,λ_ _ _ _=>ah⟩
abbrev bg{R:Type}{sa bH:U ck}(F:bb sa bH):iD R:=pb sa bH F
abbrev fa{R:Type}{sa bH:U ck}(F:bb sa bH):kf R:=qB sa bH F
variable{c:Code}{f:FuncId}{fn:Func}
theorem bX{sa bH:U ck}{px:aM (au bH)}{F:bb sa bH}{n:Nat}(d:Tryz.prog.funcs[f]? = J fn)(aj:fn.body=J c)(h:∀ab,nw ab->bT ab px/\∀i,i<n->fR ab px (b_ fn i))(e:∀x,mF px fn sa bH x J=F x)(a:(fn.name == "runtime.NumGoroutine")=false:=by kernel_rfl)(b:(oj fn&&dz (I sa) fn.ntmps&&im (c8 0 sa) [])=true:=by kernel_rfl)(g:ph fn=n:=by kernel_rfl):aN f sa bH F:=axC (ta sU) follows d aj a b g h e
theorem km{aQ bG:bt}{px:aM (au bG.b3)}{F:n4 aQ bG}{n:Nat}(d:Tryz.prog.funcs[f]? = J fn)(aj:fn.body=J c)(h:∀ab,nw ab->bT ab px/\∀i,i<n->fR ab px (b_ fn i))(e:∀x,ky px fn aQ bG x J=F x)(a:(fn.name == "runtime.NumGoroutine")=false:=by kernel_rfl)(b:(oj fn&&dz aQ.n fn.ntmps)=true:=by kernel_rfl)(g:ph fn=n:=by kernel_rfl):fb f aQ bG F:=axB (ta sU) follows d aj a b g h e
noncomputable section
def ajD(R:Type):aM R:=bp [] [] [] []
def LL(x:au [.int .u32,aq]):af (au [.int .u32]):=match x with|(x,k)=>ax (aa (0<=(fp .u64 (wr .u64 k) 31))) (ax (aa (0<=(wr .u64 (32-(fp .u64 (wr .u64 k) 31))))) (J (iW .u32 (js .u32 x (fp .u64 (wr .u64 k) 31)) (cK .u32 x (wr .u64 (32-(fp .u64 (wr .u64 k) 31)))))))
theorem ass:aN 276 [.int .u32,aq] [.int .u32] (LL):=bX (px:=ajD _) (n:=0) Tryz.func276 rfl (λ_ H=>⟨br H bm bo bq,aP⟩) λ(_,_)=>by kernel_rfl
def Fs(x k:Int):af Int:=LL (x,k)
def Zs:bb [.int .u32,aq] [.int .u32]:=λx=>Fs x.1 x.2
theorem ajK:aN 276 [.int .u32,aq] [.int .u32] Zs:=.de ass λ_ _ _ a=>a
def as1(R:Type):aM R:=bp [(276,bg Zs)] [] [] []
def Le(x:au [.int .u32,aq]):af (au [.int .u32]):=match x with|(x,n)=>(Fs x (wr .i64 (0-n))).bind λa=>J a
theorem aqH:aN 250 [.int .u32,aq] [.int .u32] (Le):=bX (px:=as1 _) (n:=0) Tryz.func250 rfl (λ_ H=>⟨br H (c1 H ajK bm) bo bq,aP⟩) λ(_,_)=>by kernel_rfl
def mU(x n:Int):af Int:=Le (x,n)
def ER:bb [.int .u32,aq] [.int .u32]:=λx=>mU x.1 x.2
theorem Nu:aN 250 [.int .u32,aq] [.int .u32] ER:=.de aqH λ_ _ _ a=>a
def T0:bt:=⟨89,[(0,.sl .byte ai),(8,.int .i64)],[(2,.ptr 0 0)],[(0,.one (.rw .u32 64))],1,0,0,[],[]⟩
abbrev G5:=U UInt8×Int×U Int
def uo{R:Type}(a:G5->af R)(kx:bf->G5->af R)(v:G5):af R:=match v with|(v,v1,w)=>cond (aa (v1<64)) (cond (aa (v1<16)) (ax (aU (wr .i64 (4*v1)) (I v)) (ax (aU (wr .i64 ((wr .i64 (4*v1))+1)) (I v)) (ax (aU (wr .i64 ((wr .i64 (4*v1))+2)) (I v)) (ax (aU (wr .i64 ((wr .i64 (4*v1))+3)) (I v)) (ax (aU v1 64) (a (v,(wr .i64 (v1+1)),(w.set (v1:Int).toNat (iW .u32 (iW .u32 (iW .u32 (js .u32 (wr .u32 ((at' .byte v (wr .i64 (4*v1))).toNat:Int)) 24) (js .u32 (wr .u32 ((at' .byte v (wr .i64 ((wr .i64 (4*v1))+1))).toNat:Int)) 16)) (js .u32 (wr .u32 ((at' .byte v (wr .i64 ((wr .i64 (4*v1))+2))).toNat:Int)) 8)) (wr .u32 ((at' .byte v (wr .i64 ((wr .i64 (4*v1))+3))).toNat:Int))))))))))) (ax (aU (wr .i64 (v1-15)) 64) (ax (aU (wr .i64 (v1-2)) 64) ((mU (at' .u32 w (wr .i64 (v1-15))) 7).bind λx=>(mU (at' .u32 w (wr .i64 (v1-15))) 18).bind λb=>(mU (at' .u32 w (wr .i64 (v1-2))) 17).bind λc=>(mU (at' .u32 w (wr .i64 (v1-2))) 19).bind λd=>ax (aU (wr .i64 (v1-7)) 64) (ax (aU (wr .i64 (v1-16)) 64) (ax (aU v1 64) (a (v,(wr .i64 (v1+1)),(w.set (v1:Int).toNat (wr .u32 ((wr .u32 ((wr .u32 ((gx .u32 (gx .u32 c d) (cK .u32 (at' .u32 w (wr .i64 (v1-2))) 10))+(at' .u32 w (wr .i64 (v1-7)))))+(gx .u32 (gx .u32 x b) (cK .u32 (at' .u32 w (wr .i64 (v1-15))) 3))))+(at' .u32 w (wr .i64 (v1-16)))))))))))))) (kx (.exit 0) (v,v1,w))
def Xf(R:Type)(k:Nat):aM R:=bp [(250,bg ER)] [] [(2,cq k T0 (uo))] []
def Qb(k:Nat)(x:au [aC]):af (au [.rw .u32 64]):=match x with
 |b=>
 aT (λa=>uo a (λe c=>match c with|(_,_,v4)=>match e with
  |.exit 0=>
  J v4
  |_=>ah)) k (b,0,[0,0,0,0,0,0,0,0,0,0,0,0,0,0,0,0,0,0,0,0,0,0,0,0,0,0,0,0,0,0,0,0,0,0,0,0,0,0,0,0,0,0,0,0,0,0,0,0,0,0,0,0,0,0,0,0,0,0,0,0,0,0,0,0])
theorem amv(k:Nat):aN 249 [aC] [.rw .u32 64] (Qb k):=bX (px:=Xf _ k) (n:=1) Tryz.func249 rfl (λab H=>by have h0:bT ab (Xf (au [.rw .u32 64]) k):=br H (c1 H Nu bm) bo bq;have a:=cC H h0 (b:=b_ Tryz.f249 0) (k:=k) (n:=0) (s:=T0) (step:=uo) (λ_ _ _ (_,_,_)=>by kernel_rfl) aP;exact⟨h0,(cm aP a)⟩) λ_=>by kernel_rfl
def O6(b:ar):af (U Int):=Qb 65 b
def MD:bb [aC] [.rw .u32 64]:=λx=>O6 x
theorem Xt:aN 249 [aC] [.rw .u32 64] MD:=.fin 0 amv λ_ _ _ a=>⟨65,a⟩
end
noncomputable section
def Es:bt:=⟨2,[(1,.sl .byte ai)],[(0,.ptr 0 0)],[(0,.cells [.int .u32,.int .u32,.int .u32,.int .u32,.int .u32,.int .u32,.int .u32,.int .u32,aC,aq])],1,1,0,[],[]⟩
def Ef:bt:=⟨0,[],[],[(0,.cells [.int .u32,.int .u32,.int .u32,.int .u32,.int .u32,.int .u32,.int .u32,.int .u32,aC,aq])],1,1,0,[],[]⟩
abbrev abn:=U UInt8×Int×Int×Int×Int×Int×Int×Int×Int×U UInt8×Int
abbrev z_:=Int×Int×Int×Int×Int×Int×Int×Int×U UInt8×Int
def U6:bt:=⟨116,[(17,.rw .u32 64),(18,.int .i64)],[(0,.ptr 0 0),(4,.ptr 1 0)],[(0,.cells [.int .u32,.int .u32,.int .u32,.int .u32,.int .u32,.int .u32,.int .u32,.int .u32,aC,aq]),(1,.one (.rw .u32 8))],2,1,0,[],[]⟩
abbrev Ie:=U Int×Int×Int×Int×Int×Int×Int×Int×Int×Int×U UInt8×Int×U Int
def yH{R:Type}(b:Ie->af R)(kx:bf->Ie->af R)(v:Ie):af R:=match v with|(v,v1,w,w1,w2,w3,c9,c7,dC,dO,dX,fy,a)=>cond (aa (v1<64)) (ax (aU v1 64) ((mU (at' .u32 a 4) 6).bind λc=>(mU (at' .u32 a 4) 11).bind λd=>(mU (at' .u32 a 4) 25).bind λe=>ax (aU v1 64) ((mU (at' .u32 a 0) 2).bind λf=>(mU (at' .u32 a 0) 13).bind λg=>(mU (at' .u32 a 0) 22).bind λh=>b (v,(wr .i64 (v1+1)),w,w1,w2,w3,c9,c7,dC,dO,dX,fy,[(wr .u32 ((wr .u32 ((wr .u32 ((wr .u32 ((wr .u32 ((at' .u32 a 7)+(gx .u32 (gx .u32 c d) e)))+(gx .u32 (fp .u32 (at' .u32 a 4) (at' .u32 a 5)) (fp .u32 (gx .u32 (b'.max .u32) (at' .u32 a 4)) (at' .u32 a 6)))))+(at' .u32 CS v1)))+(at' .u32 v v1)))+(wr .u32 ((gx .u32 (gx .u32 f g) h)+(gx .u32 (gx .u32 (fp .u32 (at' .u32 a 0) (at' .u32 a 1)) (fp .u32 (at' .u32 a 0) (at' .u32 a 2))) (fp .u32 (at' .u32 a 1) (at' .u32 a 2))))))),(at' .u32 a 0),(at' .u32 a 1),(at' .u32 a 2),(wr .u32 ((at' .u32 a 3)+(wr .u32 ((wr .u32 ((wr .u32 ((wr .u32 ((at' .u32 a 7)+(gx .u32 (gx .u32 c d) e)))+(gx .u32 (fp .u32 (at' .u32 a 4) (at' .u32 a 5)) (fp .u32 (gx .u32 (b'.max .u32) (at' .u32 a 4)) (at' .u32 a 6)))))+(at' .u32 CS v1)))+(at' .u32 v v1))))),(at' .u32 a 4),(at' .u32 a 5),(at' .u32 a 6)])))) (kx (.exit 0) (v,v1,w,w1,w2,w3,c9,c7,dC,dO,dX,fy,a))
noncomputable def XF(R:Type)(kK:Nat):aM R:=bp [(249,bg MD)] [(250,fa ER)] [] []
noncomputable def ML(R:Type)(k:Nat):aM R:=bp [(249,bg MD)] [(250,fa ER)] [(2,cq k U6 (yH)),(10,AM (XF R k) (b_ Tryz.f210 1) 9)] []
def Ba(k:Nat)(x:abn):af (z_):=match x with
 |(b,h0,h1,h2,h3,h4,h5,h6,h7,rest,n)=>
 (O6 b).bind λx=>
  aT (λh=>yH h (λe i=>match i with|(_,_,v4,a',v6,bA,b6,cw,c,d,f,g,a)=>match e with
  |.exit 0=>J ((wr .u32 (v4+(at' .u32 a 0))),(wr .u32 (a'+(at' .u32 a 1))),(wr .u32 (v6+(at' .u32 a 2))),(wr .u32 (bA+(at' .u32 a 3))),(wr .u32 (b6+(at' .u32 a 4))),(wr .u32 (cw+(at' .u32 a 5))),(wr .u32 (c+(at' .u32 a 6))),(wr .u32 (d+(at' .u32 a 7))),f,g)
  |_=>ah)) k (x,0,h0,h1,h2,h3,h4,h5,h6,h7,rest,n,[h0,h1,h2,h3,h4,h5,h6,h7])
set_option maxHeartbeats 8000000 in
theorem aqb(k:Nat):fb 210 Es Ef (Ba k):=km (px:=ML _ k) (n:=2) Tryz.func210 rfl (λab H=>by have h0:bT ab (ML (z_) k):=br H (c1 H Xt bm) (bd H Nu bo) bq;have e:bT ab (XF (z_) k):=br H (c1 H Xt bm) (bd H Nu bo) bq;have d:fR ab (ML (z_) k) (b_ Tryz.f210 1):=J1 (λ_ _=>by kernel_rfl) (X_ (n:=9) tz e.p e.c e.q (λ_ _ _=>rfl));have a:=cC H h0 (b:=b_ Tryz.f210 0) (k:=k) (n:=0) (s:=U6) (step:=yH) (λ_ _ _ (_,_,_,_,_,_,_,_,_,_,_,_,_)=>by kernel_rfl) aP;exact⟨h0,(cm (cm aP a) d)⟩) λ(_,_,_,_,_,_,_,_,_,_,_)=>by kernel_rfl
def EI:abn->af z_:=λx=>Ba (65) x
theorem asB:fb 210 Es Ef (EI):=gj.fin (ι:=Nat) (aQ:=Es) (bG:=Ef) 0 (F:=λk=>Ba k) (λk=>aqb k) λ_ _ _ a=>⟨65,a⟩
end
noncomputable section
def xv:bt:=⟨2,[(1,.sl .byte ai)],[(0,.ptr 0 0)],[(0,.cells [.int .u32,.int .u32,.int .u32,.int .u32,.int .u32,.int .u32,.int .u32,.int .u32,aC,aq])],1,1,0,[],[]⟩
def xz:bt:=⟨0,[],[],[(0,.cells [.int .u32,.int .u32,.int .u32,.int .u32,.int .u32,.int .u32,.int .u32,.int .u32,aC,aq])],1,1,0,[],[]⟩
abbrev SH:=U UInt8×Int×Int×Int×Int×Int×Int×Int×Int×U UInt8×Int
abbrev Dz:=Int×Int×Int×Int×Int×Int×Int×Int×U UInt8×Int
def Ut:bt:=⟨56,[],[(0,.ptr 0 0)],[(0,.cells [.int .u32,.int .u32,.int .u32,.int .u32,.int .u32,.int .u32,.int .u32,.int .u32,aC,aq])],1,1,0,[],[]⟩
abbrev G3:=Int×Int×Int×Int×Int×Int×Int×Int×U UInt8×Int
def tZ{R:Type}(a:G3->af R)(kx:bf->G3->af R)(v:G3):af R:=match v with|(w,w1,w2,w3,c9,c7,dC,dO,dX,fy)=>cond (aa (64<=(I dX:Int))) (ax (upto 0 64 (I dX)) ((EI ((dX.take (64:Int).toNat),w,w1,w2,w3,c9,c7,dC,dO,dX,fy)).bind λ(x,c,d,e,f,g,h,i,b,j)=>ax (upto 64 (I b) (I b)) (a (x,c,d,e,f,g,h,i,(b.drop (64:Int).toNat),j)))) (kx (.exit 0) (w,w1,w2,w3,c9,c7,dC,dO,dX,fy))
def Xj(R:Type)(k:Nat):aM R:=bp [(210,fS Es Ef EI)] [] [(3,cq k Ut (tZ))] []
def A2(k:Nat)(x:SH):af (Dz):=match x with
 |(b,h0,h1,h2,h3,h4,h5,h6,h7,rest,n)=>
 let j:=λ(q:U UInt8)=>
  aT (λa=>tZ a (λe c=>match c with|(v,v1,v2,aD,v4,a',v6,bA,b6,cw)=>match e with
  |.exit 0=>J (v,v1,v2,aD,v4,a',v6,bA,b6,cw)
  |_=>ah)) k (h0,h1,h2,h3,h4,h5,h6,h7,q,(wr .i64 (n+(I b:Int))))
 ax (aa (((I rest:Int):Int)=(I rest:Int))) (
  ax (upto 0 (I rest:Int) (I rest)) (
  cond (List.isEmpty b) (
   j (rest.take ((I rest:Int):Int).toNat)) (
   ax (aa (I (rest.take ((I rest:Int):Int).toNat)+I b<=bJ)) (
   j ((rest.take ((I rest:Int):Int).toNat)++b)))))
theorem ano(k:Nat):fb 171 xv xz (A2 k):=km (px:=Xj _ k) (n:=1) Tryz.func171 rfl (λab H=>by have h0:bT ab (Xj (Dz) k):=br H (eO H asB bm) bo bq;have a:=cC H h0 (b:=b_ Tryz.f171 0) (k:=k) (n:=0) (s:=Ut) (step:=tZ) (λ_ _ _ (_,_,_,_,_,_,_,_,_,_)=>by kernel_rfl) aP;exact⟨h0,(cm aP a)⟩) λ(_,_,_,_,_,_,_,_,_,_,_)=>by kernel_rfl
def rX:SH->af Dz:=λx=>A2 (10000) x
theorem L4:fb 171 xv xz (rX):=gj.fin (ι:=Nat) (aQ:=xv) (bG:=xz) 0 (F:=λk=>A2 k) (λk=>ano k) λ_ _ _ a=>⟨10000,a⟩
def EM:bt:=⟨1,[],[(0,.ptr 0 0)],[(0,.cells [.int .u32,.int .u32,.int .u32,.int .u32,.int .u32,.int .u32,.int .u32,.int .u32,aC,aq])],1,1,0,[],[]⟩
def EG:bt:=⟨1,[(0,.sl .byte ae)],[],[(0,.cells [.int .u32,.int .u32,.int .u32,.int .u32,.int .u32,.int .u32,.int .u32,.int .u32,aC,aq])],1,1,0,[],[]⟩
abbrev Zz:=Int×Int×Int×Int×Int×Int×Int×Int×U UInt8×Int
abbrev wh:=U UInt8×Int×Int×Int×Int×Int×Int×Int×Int×U UInt8×Int
def W_:bt:=⟨68,[(4,.sl .byte ae),(5,.int .u64),(6,.int .i64)],[(3,.ptr 1 0)],[(0,.cells [.int .u32,.int .u32,.int .u32,.int .u32,.int .u32,.int .u32,.int .u32,.int .u32,aC,aq]),(1,.cells [.int .u32,.int .u32,.int .u32,.int .u32,.int .u32,.int .u32,.int .u32,.int .u32,aC,aq])],2,1,0,[],[]⟩
abbrev D3:=U UInt8×Int×Int×Int×Int×Int×Int×Int×Int×Int×Int×U UInt8×Int×Int×Int×Int×Int×Int×Int×Int×Int×U UInt8×Int
def wa{R:Type}(y:D3->af R)(kx:bf->D3->af R)(v:D3):af R:=match v with|(b,c,a,d,e,f,g,h,i,j,k,l,m,n,o,p,q,r,s,t,u,w,x)=>cond (aa (0<=a)) (ax (aa (0<=a)) (ax (aa (I b+1<=bJ)) (y ((b++[(bj ((wr .u8 (cK .u64 c a)):Int).toNat)]),c,(wr .i64 (a-8)),d,e,f,g,h,i,j,k,l,m,n,o,p,q,r,s,t,u,w,x)))) (kx (.exit 2) (b,c,a,d,e,f,g,h,i,j,k,l,m,n,o,p,q,r,s,t,u,w,x))
def Yi:bt:=⟨68,[(4,.sl .byte ae)],[(3,.ptr 1 0)],[(0,.cells [.int .u32,.int .u32,.int .u32,.int .u32,.int .u32,.int .u32,.int .u32,.int .u32,aC,aq]),(1,.cells [.int .u32,.int .u32,.int .u32,.int .u32,.int .u32,.int .u32,.int .u32,.int .u32,aC,aq])],2,1,0,[],[]⟩
abbrev DR:=U UInt8×Int×Int×Int×Int×Int×Int×Int×Int×U UInt8×Int×Int×Int×Int×Int×Int×Int×Int×Int×U UInt8×Int
def vY{R:Type}(j:DR->af R)(kx:bf->DR->af R)(v:DR):af R:=match v with|(v,w,w1,w2,w3,c9,c7,dC,dO,dX,fy,b,ie,c,d,e,f,g,h,i,a)=>cond (!decide ((Int.tmod (wr .i64 ((wr .i64 (a+(I v:Int)))+8)) 64)=0)) (ax (aa (I v+1<=bJ)) (j ((v++[(bj (0:Int).toNat)]),w,w1,w2,w3,c9,c7,dC,dO,dX,fy,b,ie,c,d,e,f,g,h,i,a))) (kx (.exit 0) (v,w,w1,w2,w3,c9,c7,dC,dO,dX,fy,b,ie,c,d,e,f,g,h,i,a))
noncomputable def RQ(R:Type)(kK:Nat):aM R:=bp [(171,fS xv xz rX)] [] [] []
noncomputable def Jp(R:Type)(k:Nat):aM R:=bp [(171,fS xv xz rX)] [] [(5,cq k Yi (vY)),(9,cq k W_ (wa)),(15,AM (RQ R k) (b_ Tryz.f172 2) 9)] []
def Bo(k:Nat)(x:Zz):af (wh):=match x with
 |(h0,h1,h2,h3,h4,h5,h6,h7,rest,n)=>
 aT (λbz=>vY bz (λe fu=>match fu with|(v1,v2,aD,v4,a',v6,bA,b6,cw,b,c,d,f,g,h,i,j,l,m,o,a)=>match e with
  |.exit 0=>
  aT (λbz=>wa bz (λe fu=>match fu with|(p,_,_,q,r,s,t,u,v,w,y,z,a0,a1,a2,a3,a4,a5,a6,a7,aJ,aZ,bk)=>match e with
   |.exit 2=>
   (rX (p,a1,a2,a3,a4,a5,a6,a7,aJ,aZ,bk)).bind λ(x,ln,j_,lp,kV,pP,nR,nS,_,_)=>J ([(bj ((wr .u8 (cK .u32 x 24)):Int).toNat),(bj ((wr .u8 (cK .u32 x 16)):Int).toNat),(bj ((wr .u8 (cK .u32 x 8)):Int).toNat),(bj ((wr .u8 x):Int).toNat),(bj ((wr .u8 (cK .u32 ln 24)):Int).toNat),(bj ((wr .u8 (cK .u32 ln 16)):Int).toNat),(bj ((wr .u8 (cK .u32 ln 8)):Int).toNat),(bj ((wr .u8 ln):Int).toNat),(bj ((wr .u8 (cK .u32 j_ 24)):Int).toNat),(bj ((wr .u8 (cK .u32 j_ 16)):Int).toNat),(bj ((wr .u8 (cK .u32 j_ 8)):Int).toNat),(bj ((wr .u8 j_):Int).toNat),(bj ((wr .u8 (cK .u32 lp 24)):Int).toNat),(bj ((wr .u8 (cK .u32 lp 16)):Int).toNat),(bj ((wr .u8 (cK .u32 lp 8)):Int).toNat),(bj ((wr .u8 lp):Int).toNat),(bj ((wr .u8 (cK .u32 kV 24)):Int).toNat),(bj ((wr .u8 (cK .u32 kV 16)):Int).toNat),(bj ((wr .u8 (cK .u32 kV 8)):Int).toNat),(bj ((wr .u8 kV):Int).toNat),(bj ((wr .u8 (cK .u32 pP 24)):Int).toNat),(bj ((wr .u8 (cK .u32 pP 16)):Int).toNat),(bj ((wr .u8 (cK .u32 pP 8)):Int).toNat),(bj ((wr .u8 pP):Int).toNat),(bj ((wr .u8 (cK .u32 nR 24)):Int).toNat),(bj ((wr .u8 (cK .u32 nR 16)):Int).toNat),(bj ((wr .u8 (cK .u32 nR 8)):Int).toNat),(bj ((wr .u8 nR):Int).toNat),(bj ((wr .u8 (cK .u32 nS 24)):Int).toNat),(bj ((wr .u8 (cK .u32 nS 16)):Int).toNat),(bj ((wr .u8 (cK .u32 nS 8)):Int).toNat),(bj ((wr .u8 nS):Int).toNat)],q,r,s,t,u,v,w,y,z,a0)
   |_=>ah)) k (v1,(wr .u64 ((wr .u64 a)*8)),56,v2,aD,v4,a',v6,bA,b6,cw,b,c,d,f,g,h,i,j,l,m,o,a)
  |_=>ah)) k ([(bj (128:Int).toNat)],h0,h1,h2,h3,h4,h5,h6,h7,rest,n,h0,h1,h2,h3,h4,h5,h6,h7,rest,n)
theorem aiP(k:Nat):fb 172 EM EG (Bo k):=km (px:=Jp _ k) (n:=3) Tryz.func172 rfl (λab H=>by have h0:bT ab (Jp (wh) k):=br H (eO H L4 bm) bo bq;have f:bT ab (RQ (wh) k):=br H (eO H L4 bm) bo bq;have e:fR ab (Jp (wh) k) (b_ Tryz.f172 2):=J1 (λ_ _=>by kernel_rfl) (X_ (n:=9) tz f.p f.c f.q (λ_ _ _=>rfl));have a:=cC H h0 (b:=b_ Tryz.f172 0) (k:=k) (n:=0) (s:=Yi) (step:=vY) (λ_ _ _ (_,_,_,_,_,_,_,_,_,_,_,_,_,_,_,_,_,_,_,_,_)=>by kernel_rfl) aP;have d:=cC H h0 (b:=b_ Tryz.f172 1) (k:=k) (n:=0) (s:=W_) (step:=wa) (λ_ _ _ (_,_,_,_,_,_,_,_,_,_,_,_,_,_,_,_,_,_,_,_,_,_,_)=>by kernel_rfl) aP;exact⟨h0,(cm (cm (cm aP a) d) e)⟩) λ(_,_,_,_,_,_,_,_,_,_)=>by kernel_rfl
def Dh:Zz->af wh:=λx=>Bo (200) x
theorem aji:fb 172 EM EG (Dh):=gj.fin (ι:=Nat) (aQ:=EM) (bG:=EG) 0 (F:=λk=>Bo k) (λk=>aiP k) λ_ _ _ a=>⟨200,a⟩
def Zk:bt:=⟨19,[(7,.sl .bytes ai),(8,.int .i64),(9,.int .i64)],[(3,.ptr 40 0)],[(40,.cells [.int .u32,.int .u32,.int .u32,.int .u32,.int .u32,.int .u32,.int .u32,.int .u32,aC,aq])],41,0,0,[],[]⟩
abbrev MO:=U (U UInt8)×Int×Int×Int×Int×Int×Int×Int×Int×Int×Int×U UInt8×Int
def Ap{R:Type}(a:MO->af R)(kx:bf->MO->af R)(v:MO):af R:=match v with|(v,v1,v2,w,w1,w2,w3,c9,c7,dC,dO,dX,fy)=>cond (aa (v2<v1)) (ax (aU v2 (I v)) ((rX ((at' .bytes v v2),w,w1,w2,w3,c9,c7,dC,dO,dX,fy)).bind λ(x,b,c,d,e,f,g,h,i,j)=>a (v,v1,(wr .i64 (v2+1)),x,b,c,d,e,f,g,h,i,j))) (kx (.exit 0) (v,v1,v2,w,w1,w2,w3,c9,c7,dC,dO,dX,fy))
def Zh(R:Type)(kK:Nat):aM R:=bp [] [] [] []
noncomputable def acs(R:Type)(k:Nat):aM R:=bp [(171,fS xv xz rX),(172,fS EM EG Dh),(170,eY 40 200 (Zh R k) Tryz.f170)] [] [(3,cq k Zk (Ap))] []
def HM(k:Nat)(x:au [.sl .bytes ai]):af (au [.sl .byte ae]):=match x with
 |l=>
 aT (λi=>Ap i (λe j=>match j with|(_,_,_,v6,bA,b6,cw,a,b,c,d,f,g)=>match e with
  |.exit 0=>
  (Dh (v6,bA,b6,cw,a,b,c,d,f,g)).bind λ(h,_,_,_,_,_,_,_,_,_,_)=>J h
  |_=>ah)) k (l,(I l:Int),0,1779033703,3144134277,1013904242,2773480762,1359893119,2600822924,528734635,1541459225,[],0)
theorem atl(k:Nat):aN 126 [.sl .bytes ai] [.sl .byte ae] (HM k):=bX (px:=acs _ k) (n:=1) Tryz.func126 rfl (λab H=>by have h1:bT ab (Zh (au [.sl .byte ae]) k):=br H bm bo bq;have h0:bT ab (acs (au [.sl .byte ae]) k):=br H (eO H L4 (eO H aji (dY (e8 H h1 Tryz.func170 rfl (n:=0) (aP)) bm))) bo bq;have a:=cC H h0 (b:=b_ Tryz.f126 0) (k:=k) (n:=0) (s:=Zk) (step:=Ap) (λ_ _ _ (_,_,_,_,_,_,_,_,_,_,_,_,_)=>by kernel_rfl) aP;exact⟨h0,(cm aP a)⟩) λ_=>by kernel_rfl
def rC(l:U ar):af ar:=HM 100 l
def ac8:bb [.sl .bytes ai] [.sl .byte ae]:=λx=>rC x
theorem ajS:aN 126 [.sl .bytes ai] [.sl .byte ae] ac8:=.fin 0 atl λ_ _ _ a=>⟨100,a⟩
end
theorem aag(x:Int) : 0<=wr .u64 x:=by simp only[wr,b'.wrap,b'.bits,b'.signed,Bool.false_and,mW,if_false];omega
theorem ajq(x y:Int) : 0<=fp .u64 x y:=aag _
theorem ata(x k:Int):∃y,Fs x k=J y:=by have c1:aa (0<=(fp .u64 (wr .u64 k) 31))=true:=aY (ajq _ _);have c2:aa (0<=(wr .u64 (32-(fp .u64 (wr .u64 k) 31))))=true:=aY (aag _);simp only[Fs,LL,c1,c2,ax,a8];exact⟨_,rfl⟩
theorem o0(x n:Int):∃y,mU x n=J y:=by obtain⟨y,h⟩:=ata x (wr .i64 (0-n));exact⟨y,by simp only[mU,Le,h,bZ]⟩
theorem ND{R:Type}{kx:bf->G5->af R}{b:ar}(aj:I b=64):∀(k i:Nat) (w:U Int),i<=64->64-i<k->∃w',aT (λa=>uo a kx) k (b,(i:Int),w)=kx (.exit 0) (b,64,w')
 |0,_,_,_,h=>by omega
 |k+1,i,w,hi,aV=>by
  rw[cQ];by_cases j:i<64
  .have dd:aa ((i:Int)<64)=true:=aY ag;have w1:wr .i64 ((i:Int)+1)=((i+1:Nat):Int):=gg
   have i1:aU (i:Int) 64=true:=bY j;by_cases l:i<16
   .have c1:aa ((i:Int)<16)=true:=aY ag;have c:wr .i64 (4*(i:Int))=((4*i:Nat):Int):=gg
    have m:wr .i64 (((4*i:Nat):Int)+1)=((4*i+1:Nat):Int):=gg
    have n:wr .i64 (((4*i:Nat):Int)+2)=((4*i+2:Nat):Int):=gg
    have o:wr .i64 (((4*i:Nat):Int)+3)=((4*i+3:Nat):Int):=gg
    simp only[uo,dd,c1,a8,c,m,n,o,bY (show 4*i<I b by omega),bY (show 4*i+1<I b by omega),bY (show 4*i+2<I b by omega),bY (show 4*i+3<I b by omega),ax,i1,w1];exact ND aj k (i+1) _ ag ag
   .have c1:aa ((i:Int)<16)=false:=bl ag;have p:wr .i64 ((i:Int)-15)=((i-15:Nat):Int):=gg
    have aS:wr .i64 ((i:Int)-2)=((i-2:Nat):Int):=gg
    have q:wr .i64 ((i:Int)-7)=((i-7:Nat):Int):=gg
    have c:wr .i64 ((i:Int)-16)=((i-16:Nat):Int):=gg
    obtain⟨x,r⟩:=o0 (at' .u32 w ((i-15:Nat):Int)) 7;obtain⟨s,d⟩:=o0 (at' .u32 w ((i-15:Nat):Int)) 18;obtain⟨t,f⟩:=o0 (at' .u32 w ((i-2:Nat):Int)) 17;obtain⟨u,g⟩:=o0 (at' .u32 w ((i-2:Nat):Int)) 19;simp only[uo,dd,c1,a8,a_,p,aS,q,c,r,d,f,g,bZ,bY (show i-15<64 by omega),bY (show i-2<64 by omega),bY (show i-7<64 by omega),bY (show i-16<64 by omega),ax,i1,w1];exact ND aj k (i+1) _ ag ag
  .have e:i=64:=ag
   subst e;have dd:aa (((64:Nat):Int)<64)=false:=rfl;refine⟨w,?_⟩;simp only[uo,dd,a_];rfl
theorem asu{b:ar}(aj:I b=64)(k:Nat)(c : 64<k):∃w,Qb k b=J w:=by
 obtain⟨w,h⟩:=ND (kx:=λe a=>match a with|(_,_,v4)=>match e with
  |.exit 0=>
  J v4
  |_=>ah) aj k 0 [0,0,0,0,0,0,0,0,0,0,0,0,0,0,0,0,0,0,0,0,0,0,0,0,0,0,0,0,0,0,0,0,0,0,0,0,0,0,0,0,0,0,0,0,0,0,0,0,0,0,0,0,0,0,0,0,0,0,0,0,0,0,0,0] (cp _) ag
 exact⟨w,h⟩
theorem ane{b:ar}(aj:I b=64):∃w,O6 b=J w:=asu aj 65 ag
theorem acg{R:Type}{kx:bf->Ie->af R}{x:U Int}{h0 h1 h2 h3 h4 h5 h6 h7 n:Int}{rest:ar}:∀(k i:Nat) (v:U Int),i<=64->64-i<k->∃b,aT (λa=>yH a kx) k (x,(i:Int),h0,h1,h2,h3,h4,h5,h6,h7,rest,n,v)=kx (.exit 0) (x,64,h0,h1,h2,h3,h4,h5,h6,h7,rest,n,b)
 |0,_,_,_,h=>by omega
 |k+1,i,v,hi,aV=>by
  rw[cQ];by_cases c:i<64
  .have dd:aa ((i:Int)<64)=true:=aY ag;have w1:wr .i64 ((i:Int)+1)=((i+1:Nat):Int):=gg
   have i1:aU (i:Int) 64=true:=bY c;obtain⟨m,d⟩:=o0 (at' .u32 v 4) 6;obtain⟨o,aS⟩:=o0 (at' .u32 v 4) 11;obtain⟨p,f⟩:=o0 (at' .u32 v 4) 25;obtain⟨q,g⟩:=o0 (at' .u32 v 0) 2;obtain⟨r,j⟩:=o0 (at' .u32 v 0) 13;obtain⟨s,l⟩:=o0 (at' .u32 v 0) 22;simp only[yH,dd,a8,i1,ax,d,aS,f,g,j,l,bZ,w1];exact acg k (i+1) _ ag ag
  .have e:i=64:=ag
   subst e;have dd:aa (((64:Nat):Int)<64)=false:=rfl;refine⟨v,?_⟩;simp only[yH,dd,a_];rfl
theorem alO{b:ar}(aj:I b=64)(h0 h1 h2 h3 h4 h5 h6 h7:Int)(rest:ar)(n:Int)(k:Nat)(t : 64<k):∃h i j l m o p q,Ba k (b,h0,h1,h2,h3,h4,h5,h6,h7,rest,n)=J (h,i,j,l,m,o,p,q,rest,n):=by
 obtain⟨w,r⟩:=ane aj;obtain⟨v,aE⟩:=acg (kx:=λe s=>match s with|(_,_,v4,a',v6,bA,b6,cw,c,d,f,g,a)=>match e with
  |.exit 0=>J ((wr .u32 (v4+(at' .u32 a 0))),(wr .u32 (a'+(at' .u32 a 1))),(wr .u32 (v6+(at' .u32 a 2))),(wr .u32 (bA+(at' .u32 a 3))),(wr .u32 (b6+(at' .u32 a 4))),(wr .u32 (cw+(at' .u32 a 5))),(wr .u32 (c+(at' .u32 a 6))),(wr .u32 (d+(at' .u32 a 7))),f,g)
  |_=>ah) (x:=w) (h0:=h0) (h1:=h1) (h2:=h2) (h3:=h3) (h4:=h4) (h5:=h5) (h6:=h6) (h7:=h7) (rest:=rest) (n:=n) k 0 [h0,h1,h2,h3,h4,h5,h6,h7] (cp _) ag
 refine⟨wr .u32 (h0+at' .u32 v 0),wr .u32 (h1+at' .u32 v 1),wr .u32 (h2+at' .u32 v 2),wr .u32 (h3+at' .u32 v 3),wr .u32 (h4+at' .u32 v 4),wr .u32 (h5+at' .u32 v 5),wr .u32 (h6+at' .u32 v 6),wr .u32 (h7+at' .u32 v 7),?_⟩;simp only[Ba,r,bZ];exact aE
theorem aqP{b:ar}(aj:I b=64)(h0 h1 h2 h3 h4 h5 h6 h7:Int)(rest:ar)(n:Int):∃a c d e f g h i,EI (b,h0,h1,h2,h3,h4,h5,h6,h7,rest,n)=J (a,c,d,e,f,g,h,i,rest,n):=alO aj h0 h1 h2 h3 h4 h5 h6 h7 rest n 65 ag
theorem Sn{R:Type}{kx:bf->G3->af R}:∀(k:Nat) (h0 h1 h2 h3 h4 h5 h6 h7:Int) (rest:ar) (n:Int),I rest<k->∃b c d f g i j l a,I a<=I rest/\aT (λm=>tZ m kx) k (h0,h1,h2,h3,h4,h5,h6,h7,rest,n)=kx (.exit 0) (b,c,d,f,g,i,j,l,a,n)
 |0,_,_,_,_,_,_,_,_,_,_,h=>by omega
 |k+1,h0,h1,h2,h3,h4,h5,h6,h7,rest,n,aV=>by
  rw[cQ];by_cases y : 64<=I rest
  .have dd:aa ((64:Int)<=(I rest:Int))=true:=aY ag;have o:upto 0 64 (I rest)=true:=Gg
   have p:upto 64 (I rest:Int) (I rest)=true:=Gg
   have t1:I (rest.take (64:Int).toNat)=64:=by rw[show(64:Int).toNat=64 from rfl,List.length_take];omega
   have t2:I (rest.drop (64:Int).toNat)=I rest-64:=by rw[show(64:Int).toNat=64 from rfl,iu]
   obtain⟨q,f1,r,s,t,u,v,w,e⟩:=aqP t1 h0 h1 h2 h3 h4 h5 h6 h7 rest n;obtain⟨b,c,d,f,g,i,j,l,x,z,aS⟩:=Sn (kx:=kx) k q f1 r s t u v w (rest.drop (64:Int).toNat) n (by rw[t2];omega);refine⟨b,c,d,f,g,i,j,l,x,by omega,?_⟩;simp only[tZ,dd,a8,o,ax,e,bZ,p];exact aS
  .have dd:aa ((64:Int)<=(I rest:Int))=false:=bl ag;refine⟨h0,h1,h2,h3,h4,h5,h6,h7,rest,b2 _,?_⟩;simp only[tZ,dd,a_]
variable{rest:ar}
theorem atg{b:ar}(aj:I b+I rest<=9000)(h0 h1 h2 h3 h4 h5 h6 h7 n:Int)(k:Nat)(t : 9000<k):∃c d f g h i j l a,I a<=I b+I rest/\A2 k (b,h0,h1,h2,h3,h4,h5,h6,h7,rest,n)=J (c,d,f,g,h,i,j,l,a,wr .i64 (n+(I b:Int))):=by
 have a9:rest.take ((I rest:Int):Int).toNat=rest:=by rw[Int.toNat_natCast,List.take_length]
 have p:upto 0 (I rest:Int) (I rest)=true:=Gg
 have r:aa (I rest+I b<=bJ)=true:=aY gW;have go:∀q:ar,I q<=I b+I rest->∃c d f g h i j l a,I a<=I b+I rest/\aT (λm=>tZ m (λe o=>match o with|(v,v1,v2,aD,v4,a',v6,bA,b6,cw)=>match e with
  |.exit 0=>J (v,v1,v2,aD,v4,a',v6,bA,b6,cw)
  |_=>ah)) k (h0,h1,h2,h3,h4,h5,h6,h7,q,wr .i64 (n+(I b:Int)))=J (c,d,f,g,h,i,j,l,a,wr .i64 (n+(I b:Int))):=λq u=>by
  obtain⟨c,d,f,g,h,i,j,l,s,w,e⟩:=Sn (kx:=λe o=>match o with|(v,v1,v2,aD,v4,a',v6,bA,b6,cw)=>match e with
   |.exit 0=>J (v,v1,v2,aD,v4,a',v6,bA,b6,cw)
   |_=>ah) k h0 h1 h2 h3 h4 h5 h6 h7 q (wr .i64 (n+(I b:Int))) ag
  exact⟨c,d,f,g,h,i,j,l,s,by omega,e⟩
 simp only[A2,a9,p,ax,a8,r];cases List.isEmpty b with|true=>exact go rest ag|false=>exact go (rest++b) tA
theorem WQ{b:ar}(aj:I b+I rest<=9000)(h0 h1 h2 h3 h4 h5 h6 h7 n:Int):∃c d e f g h i j a,I a<=I b+I rest/\rX (b,h0,h1,h2,h3,h4,h5,h6,h7,rest,n)=J (c,d,e,f,g,h,i,j,a,wr .i64 (n+(I b:Int))):=atg aj h0 h1 h2 h3 h4 h5 h6 h7 n 10000 ag
section
variable {R:Type}{h0 h1 h2 h3 h4 h5 h6 h7 n a0 a1 a2 a3 a4 a5 a6 a7:Int}{rest zb:ar}
theorem acb{kx:bf->DR->af R}{m:Nat}(hm:m<=9000):∀(k:Nat) (v:ar),I v+(64-(m+I v+8) % 64) % 64<=100->(64-(m+I v+8) % 64) % 64<k->∃a,I a<=100/\aT (λb=>vY b kx) k (v,a0,a1,a2,a3,a4,a5,a6,a7,zb,n,h0,h1,h2,h3,h4,h5,h6,h7,rest,(m:Int))=kx (.exit 0) (a,a0,a1,a2,a3,a4,a5,a6,a7,zb,n,h0,h1,h2,h3,h4,h5,h6,h7,rest,(m:Int))
 |0,_,_,h=>by omega
 |k+1,v,aE,aV=>by
  rw[cQ];have w1:wr .i64 ((m:Int)+(I v:Int))=((m+I v:Nat):Int):=gg
  have w2:wr .i64 (((m+I v:Nat):Int)+8)=((m+I v+8:Nat):Int):=gg
  have t1:Int.tmod ((m+I v+8:Nat):Int) 64=(((m+I v+8) % 64:Nat):Int):=rfl;by_cases g:(m+I v+8) % 64=0
  .have dd:aa ((((m+I v+8) % 64:Nat):Int)=0)=true:=aY ag;refine⟨v,by omega,?_⟩;simp only[vY,w1,w2,t1,dd,dj,a_]
  .have dd:aa ((((m+I v+8) % 64:Nat):Int)=0)=false:=bl ag;have f:aa (I v+1<=bJ)=true:=aY gW;have d:I (v++[bj (0:Int).toNat])=I v+1:=by simp
   obtain⟨a,c,e⟩:=acb (kx:=kx) hm k (v++[bj (0:Int).toNat]) (by rw[d];omega) (by rw[d];omega);refine⟨a,c,?_⟩;simp only[vY,w1,w2,t1,dd,jd,a8,f,ax];exact e
theorem aaT{kx:bf->D3->af R}{x m:Int}:∀(c k:Nat) (v:ar),c<k->c<=8->I v+c<=1000->∃a b,I a=I v+c/\aT (λd=>wa d kx) k (v,x,8*(c:Int)-8,a0,a1,a2,a3,a4,a5,a6,a7,zb,n,h0,h1,h2,h3,h4,h5,h6,h7,rest,m)=kx (.exit 2) (a,x,b,a0,a1,a2,a3,a4,a5,a6,a7,zb,n,h0,h1,h2,h3,h4,h5,h6,h7,rest,m)
 |_,0,_,h,_,_=>by omega
 |0,k+1,v,aV,an,aE=>by rw[cQ];have dd:aa ((0:Int)<=8*((0:Nat):Int)-8)=false:=rfl;refine⟨v,8*((0:Nat):Int)-8,rfl,?_⟩;simp only[wa,dd,a_]
 |c+1,k+1,v,aV,an,aE=>by
  rw[cQ];have dd:aa ((0:Int)<=8*((c+1:Nat):Int)-8)=true:=aY ag;have f:aa (I v+1<=bJ)=true:=aY gW;have w1:wr .i64 (8*((c+1:Nat):Int)-8-8)=8*(c:Int)-8:=gg
  obtain⟨a,b,g,e⟩:=aaT (kx:=kx) (x:=x) (m:=m) c k (v++[(bj ((wr .u8 (cK .u64 x (8*((c+1:Nat):Int)-8))):Int).toNat)]) ag ag oU;refine⟨a,b,by rw[g];simp only[dc,List.length_singleton];omega,?_⟩;simp only[wa,dd,a8,f,ax,w1];exact e
end
variable{m:Nat}
theorem alW(h0 h1 h2 h3 h4 h5 h6 h7:Int)(hm:m<=9000)(ay:I rest<=8000)(k:Nat)(aV : 100<k):∃s,I s=32/\Bo k (h0,h1,h2,h3,h4,h5,h6,h7,rest,(m:Int))=J (s,h0,h1,h2,h3,h4,h5,h6,h7,rest,(m:Int)):=by
 simp only[Bo];obtain⟨v,aE,e⟩:=acb (kx:=_) (a0:=h0) (a1:=h1) (a2:=h2) (a3:=h3) (a4:=h4) (a5:=h5) (a6:=h6) (a7:=h7) (zb:=rest) (n:=(m:Int)) (h0:=h0) (h1:=h1) (h2:=h2) (h3:=h3) (h4:=h4) (h5:=h5) (h6:=h6) (h7:=h7) (rest:=rest) hm k [bj (128:Int).toNat] aeC aeC;obtain⟨j,azg,bB,aS⟩:=aaT (kx:=_) (x:=wr .u64 (wr .u64 (m:Int)*8)) (a0:=h0) (a1:=h1) (a2:=h2) (a3:=h3) (a4:=h4) (a5:=h5) (a6:=h6) (a7:=h7) (zb:=rest) (n:=(m:Int)) (h0:=h0) (h1:=h1) (h2:=h2) (h3:=h3) (h4:=h4) (h5:=h5) (h6:=h6) (h7:=h7) (rest:=rest) (m:=(m:Int)) 8 k v ag ag ag;obtain⟨l,o,p,q,r,t,u,w,y,_,z⟩:=WQ (b:=j) (rest:=rest) ag h0 h1 h2 h3 h4 h5 h6 h7 (m:Int);have fin:∀F:Dz->af wh,(∃s,I s=32/\F (l,o,p,q,r,t,u,w,y,wr .i64 ((m:Int)+(I j:Int)))=J (s,h0,h1,h2,h3,h4,h5,h6,h7,rest,(m:Int)))->∃s,I s=32/\(rX (j,h0,h1,h2,h3,h4,h5,h6,h7,rest,(m:Int))).bind F=J (s,h0,h1,h2,h3,h4,h5,h6,h7,rest,(m:Int)):=λF eu=>by rw[z];exact eu
 obtain⟨s,cG,kM⟩:=fin (λ(x,a,c,d,f,g,h,i,_,_)=>J ([(bj ((wr .u8 (cK .u32 x 24)):Int).toNat),(bj ((wr .u8 (cK .u32 x 16)):Int).toNat),(bj ((wr .u8 (cK .u32 x 8)):Int).toNat),(bj ((wr .u8 x):Int).toNat),(bj ((wr .u8 (cK .u32 a 24)):Int).toNat),(bj ((wr .u8 (cK .u32 a 16)):Int).toNat),(bj ((wr .u8 (cK .u32 a 8)):Int).toNat),(bj ((wr .u8 a):Int).toNat),(bj ((wr .u8 (cK .u32 c 24)):Int).toNat),(bj ((wr .u8 (cK .u32 c 16)):Int).toNat),(bj ((wr .u8 (cK .u32 c 8)):Int).toNat),(bj ((wr .u8 c):Int).toNat),(bj ((wr .u8 (cK .u32 d 24)):Int).toNat),(bj ((wr .u8 (cK .u32 d 16)):Int).toNat),(bj ((wr .u8 (cK .u32 d 8)):Int).toNat),(bj ((wr .u8 d):Int).toNat),(bj ((wr .u8 (cK .u32 f 24)):Int).toNat),(bj ((wr .u8 (cK .u32 f 16)):Int).toNat),(bj ((wr .u8 (cK .u32 f 8)):Int).toNat),(bj ((wr .u8 f):Int).toNat),(bj ((wr .u8 (cK .u32 g 24)):Int).toNat),(bj ((wr .u8 (cK .u32 g 16)):Int).toNat),(bj ((wr .u8 (cK .u32 g 8)):Int).toNat),(bj ((wr .u8 g):Int).toNat),(bj ((wr .u8 (cK .u32 h 24)):Int).toNat),(bj ((wr .u8 (cK .u32 h 16)):Int).toNat),(bj ((wr .u8 (cK .u32 h 8)):Int).toNat),(bj ((wr .u8 h):Int).toNat),(bj ((wr .u8 (cK .u32 i 24)):Int).toNat),(bj ((wr .u8 (cK .u32 i 16)):Int).toNat),(bj ((wr .u8 (cK .u32 i 8)):Int).toNat),(bj ((wr .u8 i):Int).toNat)],h0,h1,h2,h3,h4,h5,h6,h7,rest,(m:Int))) ⟨_,by exact(rfl:List.length (_::_::_::_::_::_::_::_::_::_::_::_::_::_::_::_::_::_::_::_::_::_::_::_::_::_::_::_::_::_::_::[_])=32),rfl⟩
 exact⟨s,cG,e.trans (aS.trans kM)⟩
theorem atD(h0 h1 h2 h3 h4 h5 h6 h7:Int)(hm:m<=9000)(a:I rest<=8000):∃s,I s=32/\Dh (h0,h1,h2,h3,h4,h5,h6,h7,rest,(m:Int))=J (s,h0,h1,h2,h3,h4,h5,h6,h7,rest,(m:Int)):=alW h0 h1 h2 h3 h4 h5 h6 h7 hm a 200 ag
theorem auY{b:ar}(aj:I b<=8000)(k:Nat):∃s,I s=32/\HM (k+2) [b]=J s:=by
 obtain⟨a,c,d,f,g,h,i,j,l,n,e⟩:=WQ (b:=b) (rest:=[]) (by simpa using (by omega:I b<=9000)) 1779033703 3144134277 1013904242 2773480762 1359893119 2600822924 528734635 1541459225 0;have w1:wr .i64 (0+(I b:Int))=(I b:Int):=gg
 rw[w1]at e;obtain⟨s,o,aS⟩:=atD a c d f g h i j (rest:=l) (m:=I b) ag (by simp only[hn]at n;omega);refine⟨s,o,?_⟩;have dd:aa ((0:Int)<(I ([b]:U ar):Int))=true:=rfl;have c1:aa ((1:Int)<(I ([b]:U ar):Int))=false:=rfl;have i0:aU 0 (I ([b]:U ar))=true:=rfl;have a0:at' .bytes [b] 0=b:=rfl;have w2:wr .i64 (0+1)=1:=dU
 simp only[HM];rw[cQ];simp only[Ap,dd,a8,i0,ax,a0,e,bZ,w2];rw[cQ];simp only[Ap,c1,a_,aS,bZ]
theorem DS{b:ar}(aj:I b<=8000):∃s,I s=32/\rC [b]=J s:=auY aj 98
end Go.Proofs.YtcoaaebppfbbnaaGreatDoor
namespace Go.Proofs.YtcoaaebppfbbnaaGreatDoor
open Go.aw Go.RowKit
theorem ZT:iZ Tryz.prog 23 9 1 16:=ov b0
theorem _i:iZ Tryz.prog 22 54 5 48:=ov b0
theorem F5:iZ Tryz.prog 24 109 6 80:=ov b0
theorem nA:iZ Tryz.prog 25 59 2 40:=ov b0
def mb(t:bD)(bP n:Nat)(xs:U aA):aA->aw.Loc->(aK->Prop)->Prop:=λv L _=>L=[.row v t bP n xs]
theorem awI{ab:aw.cB}{L:aw.Loc}{F:aK->Prop}{t:bD}{bP n:Nat}{xs:U aA}{pR:aw.Loc->(aK->Prop)->Prop}(b:∀w,F w->n=0/\xs=[])(h : pR (.row (.slice ah 0 0) t bP n xs::L) F):x_ ab L F pR:=.mk λw a=>by obtain⟨h1,h2⟩:=b w a.here;subst h1 h2;exact⟨_,_,h,a.newRow t bP⟩
theorem awR{a:af Addr}{n c bP:Nat}{xs:U aA}(d:a.isNone=ae)(w:aK)(h:mr (.slice a n c) bP n xs w):n=0/\xs=[]:=by
 obtain⟨g,bC,j,f,i⟩:=h;have h0:n=0:=by
  rcases i with h0|⟨b,off,e,_⟩
  .exact h0
  .simp only[aA.slice.injEq]at f;rw[f.1,e]at d;cases d
 subst h0;exact⟨rfl,List.eq_nil_of_length_eq_zero xg⟩
set_option maxRecDepth 20000 in
theorem agS(a:af Addr)(n c:Nat)(xs:U aA)(h1:xs.all one=ae)(d:n<=2000000):hg Tryz.prog 178 [.slice a n c] [] (mr (.slice a n c) 1 n xs) (mb 9 1 n xs):=by
 refine jT Tryz.func178 Tryz.ntmps178 rfl b0 rfl λw M=>?_
 repeat' (first|(refine fY ?_;(first|refine fT ?_|(apply dD rfl rfl;(first|exact gd rfl|exact gq rfl))|(apply dD rfl rfl;exact o9 1 dT rfl rfl)|(refine o6 rfl rfl ZT rfl rfl rfl rfl ?_;intro b)))|(refine fZ ?_;(first|refine hU ?_|refine ih ?_|refine kg ?_|(refine mQ rfl ?_ ?_<;>intro an<;>try contradiction)|refine hz rfl rfl ?_))|(refine f_ ?_;(first|refine fU ?_))|fail)
 .exact sJ
 .refine ur 1 ?_;refine uh 0 rfl rfl ZT rfl rfl rfl (ui (λw h=>h)) h1 ag ag ?_;intro e
  repeat' (first|(refine fY ?_;(first|refine fT ?_|(apply dD rfl rfl;(first|exact gq rfl))))|(refine fZ ?_;(first|refine hz rfl rfl ?_))|(refine f_ ?_;(first|refine fU ?_))|fail)
  refine kc ?_;simp[mb]
set_option maxRecDepth 20000 in
theorem agL(a:af Addr)(n c:Nat)(xs:U aA)(h1:xs.all one=ae)(d:n<=2000000):hg Tryz.prog 177 [.slice a n c] [] (mr (.slice a n c) 5 n xs) (mb 54 5 n xs):=by
 refine jT Tryz.func177 Tryz.ntmps177 rfl b0 rfl λw M=>?_
 repeat' (first|(refine fY ?_;(first|refine fT ?_|(apply dD rfl rfl;(first|exact gd rfl|exact gq rfl))|(apply dD rfl rfl;exact o9 5 dT rfl rfl)|(refine o6 rfl rfl _i rfl rfl rfl rfl ?_;intro b)))|(refine fZ ?_;(first|refine hU ?_|refine ih ?_|refine kg ?_|(refine mQ rfl ?_ ?_<;>intro an<;>try contradiction)|refine hz rfl rfl ?_))|(refine f_ ?_;(first|refine fU ?_))|fail)
 .exact sJ
 .refine ur 5 ?_;refine uh 0 rfl rfl _i rfl rfl rfl (ui (λw h=>h)) h1 ag ag ?_;intro e
  repeat' (first|(refine fY ?_;(first|refine fT ?_|(apply dD rfl rfl;(first|exact gq rfl))))|(refine fZ ?_;(first|refine hz rfl rfl ?_))|(refine f_ ?_;(first|refine fU ?_))|fail)
  refine kc ?_;simp[mb]
set_option maxRecDepth 20000 in
theorem agG(a:af Addr)(n c:Nat)(xs:U aA)(h1:xs.all one=ae)(d:n<=2000000):hg Tryz.prog 225 [.slice a n c] [] (mr (.slice a n c) 6 n xs) (mb 109 6 n xs):=by
 refine jT Tryz.func225 Tryz.ntmps225 rfl b0 rfl λw M=>?_
 repeat' (first|(refine fY ?_;(first|refine fT ?_|(apply dD rfl rfl;(first|exact gd rfl|exact gq rfl))|(apply dD rfl rfl;exact o9 6 dT rfl rfl)|(refine o6 rfl rfl F5 rfl rfl rfl rfl ?_;intro b)))|(refine fZ ?_;(first|refine hU ?_|refine ih ?_|refine kg ?_|(refine mQ rfl ?_ ?_<;>intro an<;>try contradiction)|refine hz rfl rfl ?_))|(refine f_ ?_;(first|refine fU ?_))|fail)
 .exact sJ
 .refine ur 6 ?_;refine uh 0 rfl rfl F5 rfl rfl rfl (ui (λw h=>h)) h1 ag ag ?_;intro e
  repeat' (first|(refine fY ?_;(first|refine fT ?_|(apply dD rfl rfl;(first|exact gq rfl))))|(refine fZ ?_;(first|refine hz rfl rfl ?_))|(refine f_ ?_;(first|refine fU ?_))|fail)
  refine kc ?_;simp[mb]
set_option maxRecDepth 20000 in
theorem agH(a:af Addr)(n c:Nat)(xs:U aA)(h1:xs.all one=ae)(d:n<=2000000):hg Tryz.prog 185 [.slice a n c] [] (mr (.slice a n c) 2 n xs) (mb 59 2 n xs):=by
 refine jT Tryz.func185 Tryz.ntmps185 rfl b0 rfl λw M=>?_
 repeat' (first|(refine fY ?_;(first|refine fT ?_|(apply dD rfl rfl;(first|exact gd rfl|exact gq rfl))|(apply dD rfl rfl;exact o9 2 dT rfl rfl)|(refine o6 rfl rfl nA rfl rfl rfl rfl ?_;intro b)))|(refine fZ ?_;(first|refine hU ?_|refine ih ?_|refine kg ?_|(refine mQ rfl ?_ ?_<;>intro an<;>try contradiction)|refine hz rfl rfl ?_))|(refine f_ ?_;(first|refine fU ?_))|fail)
 .exact sJ
 .refine ur 2 ?_;refine uh 0 rfl rfl nA rfl rfl rfl (ui (λw h=>h)) h1 ag ag ?_;intro e
  repeat' (first|(refine fY ?_;(first|refine fT ?_|(apply dD rfl rfl;(first|exact gq rfl))))|(refine fZ ?_;(first|refine hz rfl rfl ?_))|(refine f_ ?_;(first|refine fU ?_))|fail)
  refine kc ?_;simp[mb]
set_option maxRecDepth 20000 in
theorem ahX(a:af Addr)(c:Nat):hg Tryz.prog 225 [.slice a 0 c] [] (λ_=>True) (λv _ _=>∃bC,v = .slice bC 0 0):=by
 refine jT Tryz.func225 Tryz.ntmps225 rfl b0 rfl λw M=>?_
 repeat' (first|(refine fY ?_;(first|refine fT ?_|(apply dD rfl rfl;(first|exact gd rfl|exact gq rfl))|(apply dD rfl rfl;exact o9 6 dT rfl rfl)|(refine o6 rfl rfl F5 rfl rfl rfl rfl ?_;intro b)|(apply dD rfl rfl;exact LX F5 rfl rfl)))|(refine fZ ?_;(first|refine hU ?_|refine ih ?_|refine kg ?_|(refine mQ rfl ?_ ?_<;>intro an<;>try contradiction)|refine hz rfl rfl ?_))|(refine f_ ?_;(first|refine fU ?_))|fail)
 .exact vC
 .exact vC
set_option maxRecDepth 20000 in
theorem ah4(a:af Addr)(c:Nat):hg Tryz.prog 185 [.slice a 0 c] [] (λ_=>True) (λv _ _=>∃bC,v = .slice bC 0 0):=by
 refine jT Tryz.func185 Tryz.ntmps185 rfl b0 rfl λw M=>?_
 repeat' (first|(refine fY ?_;(first|refine fT ?_|(apply dD rfl rfl;(first|exact gd rfl|exact gq rfl))|(apply dD rfl rfl;exact o9 2 dT rfl rfl)|(refine o6 rfl rfl nA rfl rfl rfl rfl ?_;intro b)|(apply dD rfl rfl;exact LX nA rfl rfl)))|(refine fZ ?_;(first|refine hU ?_|refine ih ?_|refine kg ?_|(refine mQ rfl ?_ ?_<;>intro an<;>try contradiction)|refine hz rfl rfl ?_))|(refine f_ ?_;(first|refine fU ?_))|fail)
 .exact vC
 .exact vC
theorem ahM{P:cx}(w:aK)(c p e:bD)(l:P.underlying c=J (.slice e))(size:Nat)(m:∀w,(Go.sizeOf e).run P w = .ok size w)
  (a b:Addr) (qU q cd r:Nat) (d:a.block≠b.block) (c1 c2:Array aA) (t1 t2:bD) (f1:Nat×Nat)
  (s:w.heap[a.block]? = J (.cells c1 t1 f1)) (aj:w.heap[b.block]? = J (.cells c2 t2 (0,0))) (h1:c1.size≠0) :
  (Extern.SlicesOverlaps.overlaps #[c,c] #[p] #[.slice (J a) qU q,.slice (J b) cd r]).run P w = .ok (.bool ai) w:=by
 have g:(a.block != b.block)=true:=tB
 have f:(a.block == b.block)=false:=tB
 have h:w.shape? a.block=J (t1,c1.size):=by simp[aK.shape?,s]
 have i:w.shape? b.block=J (t2,c2.size):=by simp[aK.shape?,aj]
 have j:∀o sp,w.frozen? ⟨b.block,o,sp⟩=false:=λo sp=>by simp[aK.frozen?,aj]
 change Sem.run P (α:=aA) (do
  let J t:=(#[c,c]:Array bD)[0]? | stuck "slices.overlaps: no parameter types"
  let .slice elem <-underlying t|stuck "slices.overlaps: slice type expected"
  let size <-sizeOf elem;match(J a:af Addr),(J b:af Addr)with
  |some a,J b=>
   if qU=0\/cd=0\/size=0 then pure (aA.bool ai)
   else if a.block != b.block&&(<-frozen a)&&(<-frozen b)then unsupported .addressObserved
   else do
    if a.block != b.block then do
     noView a;noView b
     if <-mayBeOne a b then return aA.bool ((<-choose (.extern "sameAddr.stringBytes" 2)) == 1)
    pure (aA.bool (a.block == b.block&&a.off<b.off+cd*size&&b.off<a.off+qU*size))
  |_,_=>pure (aA.bool ai)) w=_
 by_cases h0:qU=0\/cd=0\/size=0
 .simp[eX l,m,h0]
 .obtain⟨n,axS⟩:∃n,c1.size=n+1:=⟨c1.size-1,by omega⟩;cases k:w.frozen? a<;>simp[eX l,m,h0,g,f,frozen,noView,viewAt,mayBeOne,stringish,shape,Sem.run,h,i,j,k,axS]
section
variable {ab:aw.cB}{k:U k7}{e:aw.Env}{L:aw.Loc}{F:aK->Prop}{Q:Exit->Act->aK->Prop}{ops:Array bw}{rest:U bw}
theorem ajI{dst:Nat}{gA x y:ct}{hd:Array bD}{t o af7 elem s:bD}{pos:String}{b:Array Edge}{iU:af (Nat×Bool)}{f:FuncId}{g go cd p gE g4 qU q bP:Nat}{cs:U aA}(i:Nat)(cP:k1 ops e iU = J ae)(ao:ec dst ab.n=ae)
  (bO:Env.aF e gA=J (.func (.func f) #[] #[])) (aW:Env.aF e x=J (.slice (J ⟨gE,g4,ah⟩) qU q)) (bN:Env.aF e y=J (.slice (J ⟨g,go,ah⟩) cd p)) (hi:L[i]? = J (.bu g cs s)) (z:gE≠g) (j:∀w,F w->∃u,w.cell? ⟨gE,g4,ah⟩=J u)
  (l:∀args w,(callFunc f args).run ab.P w=((Extern.SlicesOverlaps.overlaps #[o,o] #[af7] args).run ab.P w).andThen λv w'=>.ok (.value v) w') (cg:ab.P.underlying o=J (.slice elem)) (dB:ft ab.P elem=J bP)
  (h:O ab ops rest k ((dst,.bool ai)::e) L F Q):O ab ops (⟨J dst,.call ⟨.value gA, #[x,y],hd⟩,t,pos,b,iU⟩::rest) k e L F Q:=by
 refine ps (λr L' dP=>r = .bool ai/\L' = L/\dP = F) cP ao (λa w he d=>⟨.bool ai,w,L,F,?_,d,rfl,rfl,rfl⟩) (λr L' dP ⟨ay,iV,eu⟩=>by rw[ay,iV,eu];exact h);have aJ:w.heap[g]? = J (.cells cs.toArray s (0,0)):=d.ok _ (List.mem_of_getElem? hi);obtain⟨u,m⟩:=j w d.here;obtain⟨c1,t1,f1,cf,axN⟩:∃c1 t1 f1,w.heap[gE]? = J (.cells c1 t1 f1)/\c1.size≠0:=by
  unfold aK.cell? at m;split at m
  .rename_i c t' fl cf;refine⟨c,t',fl,cf,λh0=>?_⟩;simp only[Option.isSome_none,mW,if_false]at m;have:=(gG.1 m).1;omega
  .cases m
 have aZ:=ahM (P:=ab.P) w o af7 elem cg bP (λw=>aw.run_sizeOf dB w) ⟨gE,g4,ah⟩ ⟨g,go,ah⟩ qU q cd p z c1 _ t1 s f1 cf aJ axN;simp only[cl,resolve,he.aF bO,he.aF aW,he.aF bN,Deferred.ofValue,dG,eW,fg,invoke,List.map_toArray,e0,List.map_nil];rw[show(#[] ++ #[aA.slice (J ⟨gE,g4,ah⟩) qU q,aA.slice (J ⟨g,go,ah⟩) cd p] ++ #[]:Array aA) = #[aA.slice (J ⟨gE,g4,ah⟩) qU q,aA.slice (J ⟨g,go,ah⟩) cd p] by simp,l,aZ];rfl
end
def put(c z:U aA)(o:Nat):U Value:=c.take o++z++c.drop (o+I z)
theorem uO{c z:U aA}{o:Nat}(h:o+I z<=I c):I (put c z o)=I c:=by simp only[put,dc,List.length_take,iu];omega
theorem EP{c z:U aA}{o:Nat}(h:o+I z<=I c)(q:Nat):(put c z o)[q]? = if o<=q/\q<o+I z then z[q-o]? else c[q]? :=by
 have a:I (c.take o)=o:=dh
 simp only[put,fI];by_cases h1:q<o
 .rw[List.getElem?_append_left ag,if_neg ag,fQ,if_pos h1]
 .rw[List.getElem?_append_right ag,a];by_cases h2:q<o+I z
  .rw[List.getElem?_append_left ag,if_pos ag]
  .rw[List.getElem?_append_right ag,if_neg ag,List.getElem?_drop];congr 1;omega
def q9(cs ys:U aA)(i n:Nat):U Value:=cs.take (i*2)++ys++(cs.drop (i*2)).take ((n-i)*2)
theorem R5{cs ys:U aA}{i n:Nat}(a:i<=n)(d:n*2<=I cs)(b:I ys=2)(q:Nat):(q9 cs ys i n)[q]? = if q<i*2 then cs[q]? else if q<i*2+2 then ys[q-i*2]? else if q<(n+1)*2 then cs[q-2]? else none:=by
 have c:I (cs.take (i*2))=i*2:=dh
 have ao:I ((cs.drop (i*2)).take ((n-i)*2))=(n-i)*2:=dh
 simp only[q9,fI];by_cases h1:q<i*2
 .rw[List.getElem?_append_left ag,if_pos h1,fQ,if_pos h1]
 .rw[List.getElem?_append_right ag,c,if_neg h1];by_cases h2:q<i*2+2
  .rw[List.getElem?_append_left ag,if_pos h2]
  .rw[List.getElem?_append_right ag,if_neg h2,b,fQ,List.getElem?_drop];by_cases h3:q<(n+1)*2
   .rw[if_pos h3,if_pos ag];congr 1;omega
   .rw[if_neg h3,if_neg ag]
theorem aut{cs ys Z:U aA}{i n:Nat}(a:i<=n)(e:(n+1)*2<=I cs)(c:I ys=2)(d:Z=(cs.drop (i*2)).take ((n-i)*2)):I (put (put cs Z ((i+1)*2)) ys (i*2))=I cs/\(put (put cs Z ((i+1)*2)) ys (i*2)).take ((n+1)*2)=q9 cs ys i n:=by
 have b:I Z=(n-i)*2:=by rw[d];simp;omega
 have h1:(i+1)*2+I Z<=I cs:=ag
 have h2:i*2+I ys<=I (put cs Z ((i+1)*2)):=by rw[uO h1];omega
 refine⟨by rw[uO h2,uO h1],List.ext_getElem? λq=>?_⟩;rw[fQ,R5 a ag c,EP h2,EP h1,b,c,d,fQ,List.getElem?_drop];by_cases a1:q<(n+1)*2
 .rw[if_pos a1];by_cases a2:q<i*2
  .rw[if_neg ag,if_neg ag,if_pos a2]
  .rw[if_neg a2];by_cases a3:q<i*2+2
   .rw[if_pos ag,if_pos a3]
   .rw[if_neg ag,if_neg a3,if_pos a1,if_pos ag,if_pos ag];congr 1;omega
 .exact ad8
theorem ajj{cs ys c1 Z:U aA}{i n q:Nat}(a:i<=n)(h:n*2<=I cs)(f:I ys=2)(g:Z=(cs.drop (i*2)).take ((n-i)*2))(b:c1.take (i*2)=cs.take (i*2))(l:n+1<=q)(c:I c1=q*2):I (put (put c1 ys (i*2)) Z ((i+1)*2))=q*2/\(put (put c1 ys (i*2)) Z ((i+1)*2)).take ((n+1)*2)=q9 cs ys i n:=by
 have d:I Z=(n-i)*2:=by rw[g];simp;omega
 have h2:i*2+I ys<=I c1:=ag
 have h1:(i+1)*2+I Z<=I (put c1 ys (i*2)):=by rw[uO h2];omega
 refine⟨by rw[uO h1,uO h2,c],List.ext_getElem? λk=>?_⟩;rw[fQ,R5 a h f,EP h1,EP h2,d,f,g,fQ,List.getElem?_drop];have e:k<i*2->c1[k]? = cs[k]? :=λj=>by have:=congrArg (·[k]?) b;simpa[fQ,j]using this
 by_cases a1:k<(n+1)*2
 .rw[if_pos a1];by_cases a2:k<i*2
  .rw[if_neg ag,if_neg ag,if_pos a2,e a2]
  .rw[if_neg a2];by_cases a3:k<i*2+2
   .rw[if_neg ag,if_pos ag,if_pos a3]
   .rw[if_pos ag,if_pos ag,if_neg a3,if_pos a1];congr 1;omega
 .exact ad8
def aj5(t:bD)(g n i cap:Nat)(cs ys:U aA):aA->aw.Loc->(aK->Prop)->Prop:=λv L _=>(∃cs',v = .slice (J ⟨g,0,ah⟩) (n+1) cap/\n+1<=cap/\L=[.bu g cs' t]/\I cs'=I cs/\cs'.take ((n+1)*2)=q9 cs ys i n) \/ (∃b f' cs',v = .slice (J ⟨b,0,ah⟩) (n+1) f'/\n+1<=f'/\f'<=c5/\L=[.bu b cs' t,.bu g cs t]/\I cs'=f'*2/\cs'.take ((n+1)*2)=q9 cs ys i n)
theorem avw(args:Array aA)(w:aK):(callFunc 226 args).run Tryz.prog w=((Extern.SlicesOverlaps.overlaps #[25,25] #[4] args).run Tryz.prog w).andThen λv w'=>.ok (.value v) w':=run_callFunc_extern Tryz.func226 b0 rfl b0 (e:=Extern.SlicesOverlaps.overlaps #[25,25] #[4]) b0 args w
theorem ZU{cs:U aA}{n i:Nat}(h1:∀v,v∈cs.take (n*2)->one v=ae)(b:i<=n){v:aA}(aE:v∈(cs.drop (i*2)).take ((n-i)*2)):one v=true:=by
 refine h1 v ?_;obtain⟨q,a⟩:=List.getElem?_of_mem aE;rw[fQ]at a;split at a
 .rw[List.getElem?_drop]at a;exact List.mem_of_getElem? ((List.getElem?_take_of_lt ag).trans a)
 .cases a
set_option maxRecDepth 20000 in
theorem ak6(g n i cap gE g4 lR:Nat)(cs ys:U aA)(x : 0<n)(b:i<=n)(u:n<=cap)(y:I cs=cap*2)(h1:∀v,v∈cs.take (n*2)->one v=ae)(k:I ys=2)(d:∀v,v∈ys->one v=ae)(m:gE≠g)(r:n<=2000000) :
  hg Tryz.prog 184 [.slice (J ⟨g,0,ah⟩) n cap,.int .i64 i,.slice (J ⟨gE,g4,ah⟩) 1 lR] [.bu g cs 59] (λw=>∀(j:Nat) v,ys[j]? = J v->w.cell? ⟨gE,g4+j,ah⟩=J v) (aj5 59 g n i cap cs ys):=by
 refine jT Tryz.func184 Tryz.ntmps184 rfl b0 rfl λw M=>?_
 repeat' (first|(refine fY ?_;(first|refine fT ?_|(apply dD rfl rfl;(first|exact gd rfl|exact gq rfl|exact mA dT rfl|exact IZ rfl rfl|exact qY rfl rfl|exact EB rfl rfl ag|exact r3 rfl rfl ag))|(apply dD rfl rfl;exact pa 2 dT rfl rfl ag)|(apply dD rfl rfl;exact s7 2 dT rfl)|(apply dD rfl rfl;exact uC 2 dT rfl rfl ag)|(apply dD rfl rfl;exact Oh 2 dT rfl rfl ag)))|(refine fZ ?_;(first|refine hU ?_|refine ih ?_|refine kg ?_|(refine qz rfl ?_ ?_<;>intro an<;>try (first|contradiction))))|(refine f_ ?_;(first|refine fU ?_))|fail)
 .obtain rfl:i=n:=ag
  have c:cs.take (i*2)++ys=q9 cs ys i i:=by simp[q9]
  by_cases s:i+1<=cap
  .refine apL (zs:=ys) 0 rfl rfl nA rfl rfl rfl (λw e=>e.here) (by rw[k]) s ag d rfl ?_
   repeat' (first|(refine fY ?_;(first|refine fT ?_|(apply dD rfl rfl;(first|exact gq rfl))))|(refine fZ ?_;(first|refine hz rfl rfl ?_))|(refine f_ ?_;(first|refine fU ?_))|fail)
   refine kc (.inl ⟨_,rfl,s,rfl,uO (z:=ys) (o:=i*2) ag,?_⟩);rw[<-c];exact List.take_left' dh
  .refine aox (zs:=ys) 0 rfl rfl nA rfl rfl rfl (λw e=>e.here) (by rw[k]) ag ag xa ag ?_;intro bQ q t a f l
   repeat' (first|(refine fY ?_;(first|refine fT ?_|(apply dD rfl rfl;(first|exact gq rfl))))|(refine fZ ?_;(first|refine hz rfl rfl ?_))|(refine f_ ?_;(first|refine fU ?_))|fail)
   refine kc (.inr ⟨_,_,_,rfl,a,f,rfl,by simp;omega,?_⟩);rw[<-c];exact List.take_left' dh
 .refine amW (kn:=.i64) 0 rfl rfl nA dT rfl rfl rfl ag ag ag xa ag ?_;intro bQ q t a f l
  repeat' (first|(refine fY ?_;(first|refine fT ?_|(apply dD rfl rfl;(first|exact gd rfl|exact gq rfl))|(apply dD rfl rfl;exact uC 2 dT rfl rfl ag)))|(refine fZ ?_;(first|refine hU ?_|refine ih ?_))|(refine f_ ?_;(first|refine fU ?_))|fail)
  refine Dl (zs:=ys) 0 rfl rfl nA rfl rfl rfl (λw e=>e.here) ?_ ?_ d ?_
  .exact _t
  .simp only[dc,List.length_take];omega
  .repeat' (first|(refine fY ?_;(first|refine fT ?_))|(refine fZ ?_;(first|refine hU ?_|refine aby dT GL ?_))|(refine f_ ?_;(first|refine fU ?_))|(refine E' ?_;(first|(apply lu 0 rfl rfl rfl hA;(first|exact gd rfl))|(apply lu 1 rfl rfl rfl hA;(first|exact gd rfl))|(apply lu 2 rfl rfl rfl hA;(first|exact gd rfl))|(apply lu 3 rfl rfl rfl hA;(first|exact EB rfl rfl ag))|(apply lu 5 rfl rfl rfl hA;(first|exact gd rfl))|(apply lu 6 rfl rfl rfl hA;(first|exact gd rfl))))|fail)
   apply lu 4 rfl rfl rfl hA (uC 2 dT rfl rfl ag);apply lu 7 rfl rfl rfl hA (uC 2 dT rfl rfl ag);refine _h 8 rfl hA ?_;refine Dl 0 rfl rfl nA rfl rfl rfl (X1 (n:=(n-i)*2) 1 rfl) ?_ ?_ ?_ ?_
   .have:Nat.min (n-(i:Int).toNat) ((i:Int).toNat+((n:Int)+((1:Nat):Int)-(i:Int)).toNat-((i:Int)+((1:Nat):Int)).toNat)=n-i:=(Nat.min_eq_left ag).trans ag;rw[this,List.length_take,iu];omega
   .simp only[dc,List.length_take,iu];omega
   .intro v aE;exact ZU h1 b Gu
   .repeat' (first|(refine fY ?_;(first|refine fT ?_|(apply dD rfl rfl;(first|exact gd rfl|exact gq rfl))))|(refine fZ ?_;(first|refine hU ?_|refine ih ?_|refine hz rfl rfl ?_))|(refine f_ ?_;(first|refine fU ?_|(refine ab9 GL ?_)))|(refine E' ?_;(first|refine Z4 hA ?_))|fail)
    have p:i+((n:Int)+((1:Nat):Int)-(i:Int)).toNat=n+1:=ag
    have aS:((i:Int)+((1:Nat):Int)).toNat=i+1:=ag
    simp only[p,aS,Int.toNat_natCast,Nat.zero_add]at a l ⊢;have ao:=ajj (c1:=cs.take (i*2)++t) (q:=q) b ag k rfl (List.take_left' dh) a dh;refine kc (.inr ⟨_,_,_,rfl,a,f,rfl,ao.1,ao.2⟩)
 .refine ajI 0 rfl rfl rfl rfl rfl rfl m (λw h=>⟨_,h 0 _ (ho ag)⟩) avw rfl rfl ?_
  repeat' (first|(refine fY ?_;(first|refine fT ?_|(apply dD rfl rfl;(first|exact Q4 rfl))))|(refine fZ ?_;(first|refine hU ?_|refine aby dT GL ?_|(refine mQ rfl ?_ ?_<;>intro an<;>try contradiction)))|(refine f_ ?_;(first|refine fU ?_))|(refine E' ?_;(first|(apply lu 0 rfl rfl rfl hA;(first|exact gd rfl))|(apply lu 1 rfl rfl rfl hA;(first|exact gd rfl))|(apply lu 2 rfl rfl rfl hA;(first|exact gd rfl))|(apply lu 3 rfl rfl rfl hA;(first|exact EB rfl rfl ag))|(apply lu 5 rfl rfl rfl hA;(first|exact gd rfl))|(apply lu 6 rfl rfl rfl hA;(first|exact gd rfl))))|fail)
  apply lu 4 rfl rfl rfl hA (uC 2 dT rfl rfl ag);apply lu 7 rfl rfl rfl hA (uC 2 dT rfl rfl ag);refine _h 8 rfl hA ?_;refine Dl 0 rfl rfl nA rfl rfl rfl (X1 (n:=(n-i)*2) 0 rfl) ?_ ?_ ?_ ?_
  .have:Nat.min (((n:Int)+((1:Nat):Int)).toNat-(i:Int).toNat) (((n:Int)+((1:Nat):Int)).toNat-((i:Int)+((1:Nat):Int)).toNat)=n-i:=(Nat.min_eq_right ag).trans ag;rw[this,List.length_take,iu];omega
  .simp only[List.length_take,iu];omega
  .intro v aE;exact ZU h1 b Gu
  .repeat' (first|(refine fY ?_;(first|refine fT ?_|(apply dD rfl rfl;(first|exact gd rfl))|(apply dD rfl rfl;exact uC 2 dT rfl rfl ag)))|(refine fZ ?_;(first|refine hU ?_|refine ih ?_))|(refine f_ ?_;(first|refine fU ?_|(refine ab9 GL ?_)))|(refine E' ?_;(first|refine Z4 hA ?_))|fail)
   refine Dl (zs:=ys) 0 rfl rfl nA rfl rfl rfl (λw e=>e.here) ?_ ?_ d ?_
   .exact _t
   .simp only[dc,List.length_take,iu];omega
   .repeat' (first|(refine fY ?_;(first|refine fT ?_|(apply dD rfl rfl;(first|exact gd rfl|exact gq rfl))))|(refine fZ ?_;(first|refine hU ?_|refine ih ?_|refine hz rfl rfl ?_))|(refine f_ ?_;(first|refine fU ?_))|fail)
    have p:((n:Int)+((1:Nat):Int)).toNat=n+1:=ag
    have aS:((i:Int)+((1:Nat):Int)).toNat=i+1:=ag
    simp only[p,aS,Int.toNat_natCast,Nat.zero_add];have ao:=aut (cs:=cs) b ag k rfl;exact kc (.inl ⟨_,rfl,by omega,rfl,ao.1,ao.2⟩)
set_option maxRecDepth 20000 in
theorem atX(a:af Addr)(gE g4 lR:Nat)(ys:U aA)(f:I ys=2)(c:∀v,v∈ys->one v=ae) :
  hg Tryz.prog 184 [.slice a 0 0,.int .i64 0,.slice (J ⟨gE,g4,ah⟩) 1 lR] [] (λw=>∀(j:Nat) v,ys[j]? = J v->w.cell? ⟨gE,g4+j,ah⟩=J v) (λv L _=>∃b f' cs',v = .slice (J ⟨b,0,ah⟩) 1 f'/\1<=f'/\f'<=c5/\L=[.bu b cs' 59]/\I cs'=f'*2/\cs'.take 2=ys):=by
 refine jT Tryz.func184 Tryz.ntmps184 rfl b0 rfl λw M=>?_
 repeat' (first|(refine fY ?_;(first|refine fT ?_|(apply dD rfl rfl;(first|exact gd rfl|exact gq rfl|exact mA dT rfl|exact IZ rfl rfl))|(apply dD rfl rfl;exact Oh 2 dT rfl rfl ag)))|(refine fZ ?_;(first|refine hU ?_|refine ih ?_|refine kg ?_|(refine qz rfl ?_ ?_<;>intro an<;>try (first|contradiction))))|(refine f_ ?_;(first|refine fU ?_))|fail)
 refine amV (zs:=ys) rfl rfl nA rfl rfl (λw g=>g.here) (by rw[f]) ag xa ag c ?_;intro bQ q i d e h
 repeat' (first|(refine fY ?_;(first|refine fT ?_|(apply dD rfl rfl;(first|exact gq rfl))))|(refine fZ ?_;(first|refine hz rfl rfl ?_))|(refine f_ ?_;(first|refine fU ?_))|fail)
 refine kc ⟨_,_,_,rfl,d,e,rfl,by simp;omega,?_⟩;exact List.take_left' f
end Go.Proofs.YtcoaaebppfbbnaaGreatDoor
namespace Go.Proofs.YtcoaaebppfbbnaaGreatDoor
open Go.dS
theorem amt:mI Tryz.prog 178 (gP .str) (aL .str):=⟨aw.ga Tryz.func178 rfl b0,agS⟩
def xN(l:U (ar)):af (U (ar)):=cond (aa (I l<=2000000)) (J l) ah
def KG:bb [eU] [.sl .str ae]:=λx=>xN x
theorem Ui:aN 178 [eU] [.sl .str ae] KG:=D' amt
theorem ag0:mI Tryz.prog 177 (gP .cO) (aL .cO):=⟨aw.ga Tryz.func177 rfl b0,agL⟩
def M8(l:U (cW)):af (U (cW)):=cond (aa (I l<=2000000)) (J l) ah
def Vf:bb [dJ] [.sl .cO ae]:=λx=>M8 x
theorem ag3:aN 177 [dJ] [.sl .cO ae] Vf:=D' ag0
theorem Uq:mI Tryz.prog 225 (gP .expr) (aL .expr):=⟨aw.ga Tryz.func225 rfl b0,agG⟩
theorem ag6:mI Tryz.prog 185 (gP .idx) (aL .idx):=⟨aw.ga Tryz.func185 rfl b0,agH⟩
theorem Tr:s9 Tryz.prog 225:=ahX
theorem agN:s9 Tryz.prog 185:=ah4
theorem al0:PQ Tryz.prog 184 (gP .idx):=⟨aw.ga Tryz.func184 rfl b0,λ_ _ _ _ _ _ _ _ _ h1 h2 h3 h4 h5 h6 h7 a b=>ak6 _ _ _ _ _ _ _ _ _ h1 h2 h3 h4 h5 h6 h7 a b,λ_ _ _ _ _ h1 h2=>atX _ _ _ _ _ h1 h2⟩
end Go.Proofs.YtcoaaebppfbbnaaGreatDoor
namespace Go.Proofs.YtcoaaebppfbbnaaGreatDoor.fk
open Go.aw Go.RowKit
def da(n:Int):Prop:= -9223372036854775808<=n/\n<=9223372036854775807
instance (n:Int):Decidable (da n):=by unfold da;infer_instance
def awC(c:Int):Bool:=aa (65<=c)&&aa (c<=90)
def oA(c:Int):Bool:=aa (97<=c)&&aa (c<=122)
def Cq(c:Int):Bool:=aa (48<=c)&&aa (c<=57)
def kp(c:Int):Bool:=oA c||Cq c||c == 95
def m9(p:Int->Bool)(l:U UInt8)(i:Int):Int:=i+I ((l.drop i.toNat).takeWhile λb=>p b.toNat)
theorem abT(l:U UInt8)(j:Int)(h : 0<=j/\j<I l):l.drop j.toNat=l.getD j.toNat 0::l.drop (j+1).toNat:=by
 have h1:j.toNat<I l:=ag
 have h2:(j+1).toNat=j.toNat+1:=ag
 rw[h2,List.drop_eq_getElem_cons h1];simp[ h1]
variable{j:Int}
theorem ayH{p:Int->Bool}{l:U UInt8}(h : 0<=j/\j<I l)(a:p (pB l j)=ae):m9 p l (j+1)=m9 p l j:=by unfold m9;rw[abT l j h];have:p ((l.getD j.toNat 0).toNat:Int)=true:=a;simp only[List.takeWhile_cons,this,if_true,dm];omega
theorem ayG{p:Int->Bool}{l:U UInt8}(h : 0<=j/\j<I l)(a:p (pB l j)=ai):m9 p l j=j:=by unfold m9;rw[abT l j h];have:p ((l.getD j.toNat 0).toNat:Int)=false:=a;simp only[List.takeWhile_cons,this,mW,if_false,hn];omega
theorem ayF{p:Int->Bool}{l:U UInt8}(h:(I l:Int)<=j):m9 p l j=j:=by unfold m9;rw[g0 ag];simp
def idx(x:U UInt8):U (U UInt8)->Int->Int|[],_=> -1|l::r,i=>if x=l then i else idx x r (i+1)
theorem afz(x:U UInt8):∀(a:U (U UInt8)) (i:Int),0<=i->(0<=idx x a i↔x∈a)
 |[],i,_=>by simp[idx]
 |l::r,i,h=>by
  by_cases b:x=l
  .simp[idx,b,h]
  .simp[idx,b,afz x r (i+1) ag]
def y9(l:U UInt8):Bool:= !decide (l=[])&&aa ((I l:Int)<=30)&&oA (pB l 0)&&(m9 kp l 0 == I l)
def ayK:U Int:=[40,41,44,42,61,60,62,43,45,59]
def m2(c:Int):Int:=if awC c then 1 else if oA c then 2 else if Cq c then 3 else if c=95 then 4 else if c=39 then 5 else if c=32\/c=9\/c=10\/c=13 then 6 else if ayK.contains c then 7 else 0
def IU(j c:Int):Bool:=aa (m2 c=2)||(!decide (j=0)&&(aa (m2 c=3)||decide (m2 c=4)))
def pJ:U UInt8->Int->Bool|[],_=>ae|c::r,j=>IU j c.toNat&&pJ r (j+1)
def I1(l:U UInt8):Bool:=pJ l 0&&(aa (1<=(I l:Int))&&aa ((I l:Int)<=30))
theorem ZX{p:Int->Prop}(h:∀n:Fin 256,p (n.val:Int))(c:Int)(an : 0<=c/\c<=255):p c:=by have:=h ⟨c.toNat,by omega⟩;simpa[Int.toNat_of_nonneg an.1]using this
theorem rS(b:UInt8) : 0<=(b.toNat:Int)/\(b.toNat:Int)<=255:=by have:=b.toNat_lt;omega
def I6(p:Int->Bool)(m:U UInt8):U UInt8:=m.takeWhile λb=>p b.toNat
theorem auo(p:Int->Bool)(l:U UInt8)(i:Int):m9 p l i=i+I (I6 p (l.drop i.toNat)):=rfl
theorem aj2(l:U UInt8):∀j:Int,0<j->pJ l j=l.all λb=>kp b.toNat:=by
 induction l with
 |nil=>intro j _;rfl
 |cons c l a=>
  intro j e;have an:=rS c;have key:∀n:Fin 256,(aa (m2 (n.val:Int)=2)||(aa (m2 (n.val:Int)=3)||decide (m2 (n.val:Int)=4)))=kp (n.val:Int):=hA
  have d:=ZX (p:=λc=>(aa (m2 c=2)||(aa (m2 c=3)||decide (m2 c=4)))=kp c) key c.toNat an;simp[pJ,a (j+1) ag,IU,show aa (j=0)=ai by simp;omega,d]
theorem ap1(c:UInt8)(l:U UInt8):pJ (c::l) 0=(oA c.toNat&&l.all λb=>kp b.toNat):=by
 have an:=rS c;have key:∀n:Fin 256,aa (m2 (n.val:Int)=2)=oA (n.val:Int):=hA
 have a:=ZX (p:=λc=>aa (m2 c=2)=oA c) key c.toNat an;simp only[pJ,IU,decide_true,dj,Bool.false_and,Bool.or_false,a];rw[aj2 l (0+1) ag]
theorem abq{p:Int->Bool}:∀m:U UInt8,I (I6 p m)=I m↔m.all (λb=>p b.toNat)=ae
 |[]=>by simp[I6]
 |x::m=>by have c:=abq (p:=p) m;unfold I6 at *;cases a:p x.toNat with|true=>simp[ a,<-c]|false=>simp[a]
theorem avj{c:Int}(h:oA c=ae):kp c=true:=by simp[kp,h]
theorem ax8(x:U UInt8):y9 x=I1 x:=by
 cases x with
 |nil=>rfl
 |cons c x=>
  have a:(m9 kp (c::x) 0 == (I (c::x):Int))=(c::x).all λb=>kp b.toNat:=by rw[Bool.eq_iff_iff,<-abq,beq_iff_eq,auo];simp[Int.toNat_zero,gH];omega
  have aj:pB (c::x) 0=(c.toNat:Int):=rfl;simp only[y9,I1,ap1,a,aj];rw[Bool.eq_iff_iff];simp only[bx,dM,et,dm];constructor
  .rintro⟨⟨⟨_,h1⟩,h2⟩,h3⟩;exact⟨⟨h2,h3.2⟩,by omega,h1⟩
  .rintro⟨⟨h2,h3⟩,_,h1⟩;exact⟨⟨⟨by simp,h1⟩,h2⟩,avj h2,h3⟩
end Go.Proofs.YtcoaaebppfbbnaaGreatDoor.fk
namespace Go.dS
theorem eH.aya{P:cx}{el:b1->bD}{bM:Nat->af h_}{f:FuncId}{sa bH:U ck}{F:bb sa bH}(d:aw.jE P f)(b:c8 0 bH=[])(h:∀x r,F x=J r->∃(us:U aA) (v:aA),(∀X vs,aX X (en 0 sa x) vs->vs=us)/\aw.hg P f us [] (λ_=>True) (aw.GD v)/\∀X,oS sa x->aB X (hl (en 0 bH r)) v):eH P el bM f sa bH F:=by
 refine⟨d,λx r e w M vs j i c=>?_⟩;obtain⟨us,v,h1,h2,h3⟩:=h x r e;obtain rfl:=h1 _ _ c;refine(h2.calls w (λ_ _=>trivial)).mono ?_;rintro dv w' ⟨u,L',dP,rfl,⟨rfl,_,_⟩,_,aj⟩;refine⟨u,⟨λ_=>0,λ_=>Option.none⟩,rfl,bF.ayb aj,λp g o a=>?_,λp q g o o' a=>?_,h3 _ (zV c)⟩
 .rw[b]at a;cases a
 .rw[b]at a;cases a
end Go.dS
namespace Go.Proofs.YtcoaaebppfbbnaaGreatDoor
open Go.dS
open Go.aw (hg S GD jT ZY)
theorem amn(a b:ar)(w:aK):(callFunc 193 #[S a,S b]).run Tryz.prog w = .ok (.value (.int .i64 (Lib.compareBytes a b))) w:=by rw[run_callFunc_extern Tryz.func193 b0 rfl b0 (e:=Extern.BytealgCompare.compare) b0];simp[Lib.run_compareString]
set_option maxRecDepth 20000 in
open Go.aw in
theorem T5(a b:ar):hg Tryz.prog 140 [S a,S b] [] (λ_=>True) (GD (.int .i64 (Lib.compareBytes a b))):=by
 refine jT Tryz.func140 Tryz.ntmps140 rfl b0 rfl λw M=>?_
 repeat' (first|refine hU ?_|refine ih ?_|refine fT ?_|refine fU ?_|refine azn ?_|refine ay8 ?_|refine kg ?_|refine ay9 ?_|refine azB ?_|refine azE ?_|refine azC ?_|refine azA rfl ?_|refine azd ?_|refine azo ?_|refine azD ?_|refine aza ?_|(apply dD rfl rfl;(first|exact gd rfl|exact gq rfl|exact afQ dT rfl|exact mA dT rfl|exact afM rfl rfl|exact afV rfl rfl|exact afU rfl rfl|exact IZ rfl rfl|exact afS rfl rfl|exact sw rfl rfl|exact afR rfl rfl|exact qY rfl rfl|exact afN rfl rfl|exact Q4 rfl|exact afL rfl rfl|exact afT rfl rfl|exact EB rfl rfl ag|exact r3 rfl rfl ag|exact afP dT rfl rfl ag|exact afI dT rfl rfl rfl ag|exact afK dT rfl rfl ag|exact afJ dT rfl rfl ag|exact vg (gA:=0) dT rfl|exact vg (gA:=1) dT rfl|exact vg (gA:=2) dT rfl|exact vg (gA:=3) dT rfl|exact azu rfl))|refine azr rfl rfl ?_|refine azs rfl ?_|(apply dD rfl rfl (alM rfl rfl (amn _ _)))|(refine azq rfl rfl ?_ ?_<;>intro an)|(refine i rfl rfl ?_ ?_<;>intro an)|(refine j rfl rfl ?_ ?_<;>intro an)|(refine h rfl rfl ?_ ?_<;>intro an)|(refine k rfl rfl ?_ ?_<;>intro an)|(refine l rfl rfl ?_ ?_<;>intro an)|refine c rfl rfl ?_|refine axH rfl rfl ?_|refine c rfl (aY ag) ?_|refine axH rfl (bl ag) ?_|(refine qz rfl ?_ ?_<;>intro an)|(refine e rfl ?_ ?_<;>intro an)|(refine f rfl ?_ ?_<;>intro an)|(refine d rfl ?_ ?_<;>intro an)|(refine g rfl ?_ ?_<;>intro an)|(refine mQ rfl ?_ ?_<;>intro an)|refine hz rfl rfl ?_|refine azb rfl rfl rfl ?_|refine azc rfl rfl rfl rfl ?_|fail)
 exact ZY rfl
def eM(a b:ar):Int:=Lib.compareBytes a b
def N9:bb [.str,.str] [aq]:=λx=>J (eM x.1 x.2)
theorem KV:∀(a b:ar),eM a b = -1\/eM a b=0\/eM a b=1
 |[],[]=>by simp[eM,Lib.compareBytes]
 |[],_::_=>by simp[eM,Lib.compareBytes]
 |_::_,[]=>by simp[eM,Lib.compareBytes]
 |a::l,b::m=>by
  have c:=KV l m;simp only[eM,Lib.compareBytes]at c ⊢;split
  .simp
  .grind
theorem ajU:aN 140 [.str,.str] [aq] N9:=by
 refine eH.aya (T5 [] []).enters rfl λx r c=>?_;obtain⟨a,b⟩:=x;simp only[N9,c4]at c;subst c;refine⟨[S a,S b],_,λX vs h=>?_,T5 a b,λX aj=>?_⟩
 .simp only[en,eT,aX,aB]at h;obtain⟨u,us,rfl,⟨rfl,_⟩,e,d,rfl,⟨rfl,_⟩,rfl⟩:=h;rfl
 .simp only[hl,en,eT];have h:=KV a b;refine jV (zF ?_);simp only[b'.min,b'.max,b'.signed,b'.bits];simp only[if_true];omega
end Go.Proofs.YtcoaaebppfbbnaaGreatDoor
namespace Go.Proofs.YtcoaaebppfbbnaaGreatDoor
open Go.dS
def TG:bt:=⟨20,[(0,.str),(2,.bool),(5,.int .i64),(6,.int .i64)],[],[],0,0,0,[],[]⟩
abbrev GP:=ar×Bool×Int×Int
def xy{R:Type}(a:GP->af R)(kx:bf->GP->af R)(v:GP):af R:=match v with|(v,v1,v2,aD)=>cond (aa (aD<v2)) (ax (aU aD (I v)) (cond (aa ((lI v aD)<32)) (kx .ret (v,ai,v2,aD)) (ax (aU aD (I v)) (cond (aa (126<(lI v aD))) (kx .ret (v,ai,v2,aD)) (a (v,v1,v2,(wr .i64 (aD+1)))))))) (kx (.exit 0) (v,v1,v2,aD))
def WI(R:Type)(k:Nat):aM R:=bp [] [] [(2,cq k TG (xy))] []
def agu(k:Nat)(x:au [.str]):af (au [.bool]):=match x with
 |s=>
 aT (λa=>xy a (λe b=>match b with|(_,a',_,_)=>match e with
  |.ret=>
  J a'
  |.exit 0=>
  J ae
  |_=>ah)) k (s,ai,(I s:Int),0)
theorem ahl(k:Nat):aN 168 [.str] [.bool] (agu k):=bX (px:=WI _ k) (n:=1) Tryz.func168 rfl (λab H=>by have h0:bT ab (WI (au [.bool]) k):=br H bm bo bq;have a:=cC H h0 (b:=b_ Tryz.f168 0) (k:=k) (n:=0) (s:=TG) (step:=xy) (λ_ _ _ (_,_,_,_)=>by kernel_rfl) aP;exact⟨h0,(cm aP a)⟩) λ_=>by kernel_rfl
def sH(b:UInt8):Bool:=aa (32<=b.toNat)&&aa (b.toNat<=126)
def n7(s:ar):Bool:=s.all sH
def LH:bb [.str] [.bool]:=λx=>J (n7 x)
theorem TH{R:Type}{kx:bf->GP->af R}{s:ar}{a b:af R}(e:b5 (I s))(h1:∀r j,kx .ret (s,ai,r,j)=a)(h2:∀q r j,kx (.exit 0) (s,q,r,j)=b):∀(k i:Nat) q,i<=I s->I s-i<k->aT (λd=>xy d kx) k (s,q,(I s:Int),(i:Int))=cond ((s.drop i).all sH) b a
 |0,i,q,_,h=>by omega
 |k+1,i,q,hi,h=>by
  rw[cQ];by_cases c:i<I s
  .simp only[xy,cV c e,(TH e h1 h2 k (i+1) q ag ag),h1,dn c,zL c,bY c,et,Bool.cond_decide];rw[if_pos ag];simp only[sH];split
   .rw[bl ag];rfl
   .split
    .rw[aY ag,bl ag];rfl
    .rw[aY ag,aY ag];rfl
  .simp[xy,h2,Bool.cond_decide];exact Dn
theorem amA:aN 168 [.str] [.bool] LH:=.fin 0 ahl λx r aj c=>⟨I x+1,by simp only[LH,c4]at c;have:=TH (a:=J ai) (b:=J ae) aj (kx:=λe v=>match v with|(_,a',_,_)=>match e with|.ret=>J a'|.exit 0=>J ae|_=>ah) (λ_ _=>rfl) (λ_ _ _=>rfl) (I x+1) 0 ai (cp _) ag;refine Eq.trans this ?_;rw[<-c,gH,n7];cases x.all sH<;>rfl⟩
def aoN(R:Type):aM R:=bp [(168,bg LH)] [] [] []
def P7(x:au [dt]):af (au [.bool]):=match x with|v=>cond (aa (v.kind=1)) (cond (aa (v.n=0)) (J (aa (v.s=[]))) (J ai)) (cond (aa (v.kind=2)) (cond (aa (v.n=0)) (J (aa (v.s=[]))) (cond (aa (v.n=1)) (J (aa (v.s=[]))) (J ai))) (cond (aa (v.kind=3)) (J (aa (v.s=[]))) (cond (aa (v.kind=4)) (cond (aa (v.n=0)) (cond (aa ((I v.s:Int)<=1000)) (J (n7 v.s)) (J ai)) (J ai)) (cond (aa (v.kind=5)) (cond (aa (v.n=0)) (J (aa ((I v.s:Int)<=1000))) (J ai)) (J ai)))))
theorem amu:aN 123 [dt] [.bool] (P7):=bX (px:=aoN _) (n:=0) Tryz.func123 rfl (λ_ H=>⟨br H (c1 H amA bm) bo bq,aP⟩) λ_=>by kernel_rfl
def cS(v:aH):Bool:=cond (aa (v.kind=1)) (cond (aa (v.n=0)) (aa (v.s=[])) (ai)) (cond (aa (v.kind=2)) (cond (aa (v.n=0)) (aa (v.s=[])) (cond (aa (v.n=1)) (aa (v.s=[])) (ai))) (cond (aa (v.kind=3)) (aa (v.s=[])) (cond (aa (v.kind=4)) (cond (aa (v.n=0)) (cond (aa ((I v.s:Int)<=1000)) (n7 v.s) (ai)) (ai)) (cond (aa (v.kind=5)) (cond (aa (v.n=0)) (aa ((I v.s:Int)<=1000)) (ai)) (ai)))))
theorem amB(x:au [dt]):P7 x=J (cS x):=by
 first
  |exact rfl
  |simp only[P7,cS,fA]
def Nc:bb [dt] [.bool]:=λx=>J (cS x)
theorem Xm:aN 123 [dt] [.bool] Nc:=.de amu λx _ _ a=>(amB x).trans a
def arA(R:Type):aM R:=bp [(123,bg Nc)] [] [] []
def Qs(x:au [dt]):af (au [aq]):=match x with|v=>cond (!(cS v)) (J 2) (J 0)
theorem anD:aN 80 [dt] [aq] (Qs):=bX (px:=arA _) (n:=0) Tryz.func80 rfl (λ_ H=>⟨br H (c1 H Xm bm) bo bq,aP⟩) λ_=>by kernel_rfl
def hP(v:aH):Int:=cond (!(cS v)) (2) (0)
theorem amJ(x:au [dt]):Qs x=J (hP x):=by
 first
  |exact rfl
  |simp only[Qs,hP,fA]
def Pi:bb [dt] [aq]:=λx=>J (hP x)
theorem BC:aN 80 [dt] [aq] Pi:=.de anD λx _ _ a=>(amJ x).trans a
def ajm(R:Type):aM R:=bp [(123,bg Nc)] [] [] []
def KB(x:au [dt,aq]):af (au [.bool]):=match x with|(v,kind)=>cond (cS v) (cond (aa (v.kind=1)) (J ae) (J (aa (v.kind=kind)))) (J ai)
theorem apy:aN 87 [dt,aq] [.bool] (KB):=bX (px:=ajm _) (n:=0) Tryz.func87 rfl (λ_ H=>⟨br H (c1 H Xm bm) bo bq,aP⟩) λ(_,_)=>by kernel_rfl
def qa(v:aH)(kind:Int):Bool:=cond (cS v) (cond (aa (v.kind=1)) (ae) (aa (v.kind=kind))) (ai)
theorem apc(x:au [dt,aq]):KB x=J (qa x.1 x.2):=by
 first
  |exact rfl
  |simp only[KB,qa,fA]
def aaH:bb [dt,aq] [.bool]:=λx=>J (qa x.1 x.2)
theorem aiG:aN 87 [dt,aq] [.bool] aaH:=.de apy λx _ _ a=>(apc x).trans a
def arl(R:Type):aM R:=bp [] [] [] []
def K9(x:au [aq,aq]):af (au [aq]):=match x with|(a,b)=>cond (aa (a<b)) (J (-1)) (cond (aa (b<a)) (J 1) (J 0))
theorem apK:aN 92 [aq,aq] [aq] (K9):=bX (px:=arl _) (n:=0) Tryz.func92 rfl (λ_ H=>⟨br H bm bo bq,aP⟩) λ(_,_)=>by kernel_rfl
def gV(a:Int)(b:Int):Int:=cond (aa (a<b)) (-1) (cond (aa (b<a)) (1) (0))
theorem apx(x:au [aq,aq]):K9 x=J (gV x.1 x.2):=by
 first
  |exact rfl
  |simp only[K9,gV,fA]
def ac3:bb [aq,aq] [aq]:=λx=>J (gV x.1 x.2)
theorem ajb:aN 92 [aq,aq] [aq] ac3:=.de apK λx _ _ a=>(apx x).trans a
def alD(R:Type):aM R:=bp [] [] [] []
def Mt(x:au [aq,aq]):af (au [aq,aq]):=match x with|(a,b)=>cond (!decide ((aa (a<(wr .i64 (a+b))))=(aa (0<b)))) (J (0,20)) (J ((wr .i64 (a+b)),0))
theorem as4:aN 190 [aq,aq] [aq,aq] (Mt):=bX (px:=alD _) (n:=0) Tryz.func190 rfl (λ_ H=>⟨br H bm bo bq,aP⟩) λ(_,_)=>by kernel_rfl
def ni(a:Int)(b:Int):Int×Int:=cond (!decide ((aa (a<(wr .i64 (a+b))))=(aa (0<b)))) (0,20) ((wr .i64 (a+b)),0)
theorem asb(x:au [aq,aq]):Mt x=J (ni x.1 x.2):=by
 first
  |exact rfl
  |simp only[Mt,ni,fA]
def ac9:bb [aq,aq] [aq,aq]:=λx=>J (ni x.1 x.2)
theorem ak7:aN 190 [aq,aq] [aq,aq] ac9:=.de as4 λx _ _ a=>(asb x).trans a
def ajf(R:Type):aM R:=bp [] [] [] []
def Mw(x:au [aq,aq]):af (au [aq,aq]):=match x with|(a,b)=>cond (!decide ((aa ((wr .i64 (a-b))<a))=(aa (0<b)))) (J (0,20)) (J ((wr .i64 (a-b)),0))
theorem ar6:aN 191 [aq,aq] [aq,aq] (Mw):=bX (px:=ajf _) (n:=0) Tryz.func191 rfl (λ_ H=>⟨br H bm bo bq,aP⟩) λ(_,_)=>by kernel_rfl
def kG(a:Int)(b:Int):Int×Int:=cond (!decide ((aa ((wr .i64 (a-b))<a))=(aa (0<b)))) (0,20) ((wr .i64 (a-b)),0)
theorem at2(x:au [aq,aq]):Mw x=J (kG x.1 x.2):=by
 first
  |exact rfl
  |simp only[Mw,kG,fA]
def adQ:bb [aq,aq] [aq,aq]:=λx=>J (kG x.1 x.2)
theorem ajT:aN 191 [aq,aq] [aq,aq] adQ:=.de ar6 λx _ _ a=>(at2 x).trans a
def aus(R:Type):aM R:=bp [] [] [] []
def Lr(x:au [aq]):af (au [.int .u64]):=match x with|n=>cond (aa (n<0)) (J (wr .u64 (0-(wr .u64 n)))) (J (wr .u64 n))
theorem aom:aN 233 [aq] [.int .u64] (Lr):=bX (px:=aus _) (n:=0) Tryz.func233 rfl (λ_ H=>⟨br H bm bo bq,aP⟩) λ_=>by kernel_rfl
def hB(n:Int):Int:=cond (aa (n<0)) (wr .u64 (0-(wr .u64 n))) (wr .u64 n)
theorem aqL(x:au [aq]):Lr x=J (hB x):=by
 first
  |exact rfl
  |simp only[Lr,hB,fA]
def abW:bb [aq] [.int .u64]:=λx=>J (hB x)
theorem ato:aN 233 [aq] [.int .u64] abW:=.de aom λx _ _ a=>(aqL x).trans a
def ahm(R:Type):aM R:=bp [(140,bg N9)] [] [] []
def PS(x:au [.str,.str]):af (au [aq]):=match x with|(a,b)=>J (eM a b)
theorem agQ:aN 93 [.str,.str] [aq] (PS):=bX (px:=ahm _) (n:=0) Tryz.func93 rfl (λ_ H=>⟨br H (c1 H ajU bm) bo bq,aP⟩) λ(_,_)=>by kernel_rfl
def o2(a:ar)(b:ar):Int:=(eM a b)
theorem ago(x:au [.str,.str]):PS x=J (o2 x.1 x.2):=by
 first
  |exact rfl
  |simp only[PS,o2,fA]
def Ll:bb [.str,.str] [aq]:=λx=>J (o2 x.1 x.2)
theorem T6:aN 93 [.str,.str] [aq] Ll:=.de agQ λx _ _ a=>(ago x).trans a
def ajg(R:Type):aM R:=bp [(92,bg ac3),(93,bg Ll)] [] [] []
def L1(x:au [dt,dt]):af (au [aq]):=match x with|(a,b)=>cond (!decide ((gV a.kind b.kind)=0)) (J (gV a.kind b.kind)) (cond (!decide ((gV a.n b.n)=0)) (J (gV a.n b.n)) (J (o2 a.s b.s)))
theorem aid:aN 56 [dt,dt] [aq] (L1):=bX (px:=ajg _) (n:=0) Tryz.func56 rfl (λ_ H=>⟨br H (c1 H ajb (c1 H T6 bm)) bo bq,aP⟩) λ(_,_)=>by kernel_rfl
def g_(a:aH)(b:aH):Int:=cond (!decide ((gV a.kind b.kind)=0)) (gV a.kind b.kind) (cond (!decide ((gV a.n b.n)=0)) (gV a.n b.n) (o2 a.s b.s))
theorem aiC(x:au [dt,dt]):L1 x=J (g_ x.1 x.2):=by
 first
  |exact rfl
  |simp only[L1,g_,fA]
def OU:bb [dt,dt] [aq]:=λx=>J (g_ x.1 x.2)
theorem abG:aN 56 [dt,dt] [aq] OU:=.de aid λx _ _ a=>(aiC x).trans a
def ar5(R:Type):aM R:=bp [] [] [] []
def KI(x:au [.int .u64,.int .u64]):af (au [.int .u64,.int .u64]):=match x with|(a,b)=>J ((wr .u64 ((wr .u64 ((wr .u64 ((cK .u64 a 32)*(cK .u64 b 32)))+(cK .u64 (wr .u64 ((wr .u64 ((cK .u64 a 32)*(fp .u64 b 4294967295)))+(cK .u64 (wr .u64 ((fp .u64 a 4294967295)*(fp .u64 b 4294967295))) 32))) 32)))+(cK .u64 (wr .u64 ((fp .u64 (wr .u64 ((wr .u64 ((cK .u64 a 32)*(fp .u64 b 4294967295)))+(cK .u64 (wr .u64 ((fp .u64 a 4294967295)*(fp .u64 b 4294967295))) 32))) 4294967295)+(wr .u64 ((fp .u64 a 4294967295)*(cK .u64 b 32))))) 32))),(wr .u64 (a*b)))
theorem apI:aN 232 [.int .u64,.int .u64] [.int .u64,.int .u64] (KI):=bX (px:=ar5 _) (n:=0) Tryz.func232 rfl (λ_ H=>⟨br H bm bo bq,aP⟩) λ(_,_)=>by kernel_rfl
def lx(a:Int)(b:Int):Int×Int:=((wr .u64 ((wr .u64 ((wr .u64 ((cK .u64 a 32)*(cK .u64 b 32)))+(cK .u64 (wr .u64 ((wr .u64 ((cK .u64 a 32)*(fp .u64 b 4294967295)))+(cK .u64 (wr .u64 ((fp .u64 a 4294967295)*(fp .u64 b 4294967295))) 32))) 32)))+(cK .u64 (wr .u64 ((fp .u64 (wr .u64 ((wr .u64 ((cK .u64 a 32)*(fp .u64 b 4294967295)))+(cK .u64 (wr .u64 ((fp .u64 a 4294967295)*(fp .u64 b 4294967295))) 32))) 4294967295)+(wr .u64 ((fp .u64 a 4294967295)*(cK .u64 b 32))))) 32))),(wr .u64 (a*b)))
theorem apA(x:au [.int .u64,.int .u64]):KI x=J (lx x.1 x.2):=by
 first
  |exact rfl
  |simp only[KI,lx,fA]
def abV:bb [.int .u64,.int .u64] [.int .u64,.int .u64]:=λx=>J (lx x.1 x.2)
theorem arS:aN 232 [.int .u64,.int .u64] [.int .u64,.int .u64] abV:=.de apI λx _ _ a=>(apA x).trans a
def alB(R:Type):aM R:=bp [(233,bg abW),(232,bg abV)] [] [] []
def LG(x:au [aq,aq]):af (au [aq,aq]):=match x with
 |(a,b)=>
 let c:=λ(p3:Bool)=>
  cond (p3) (
  J (0,20)) (
  cond (!decide ((aa (a<0))=(aa (b<0)))) (
   J ((wr .i64 (wr .u64 (0-(lx (hB a) (hB b)).2))),0)) (
   J ((wr .i64 ((lx (hB a) (hB b)).2)),0)))
 let j:=λ(p:Bool)=>
  cond (p) (
  c ae) (
  cond (aa ((lx (hB a) (hB b)).2=9223372036854775808)) (
   c (!(!decide ((aa (a<0))=(aa (b<0)))))) (
   c ai))
 cond (aa (0<(lx (hB a) (hB b)).1)) (
  j ae) (
  j (aa (9223372036854775808<(lx (hB a) (hB b)).2)))
theorem aiZ:aN 192 [aq,aq] [aq,aq] (LG):=bX (px:=alB _) (n:=0) Tryz.func192 rfl (λ_ H=>⟨br H (c1 H ato (c1 H arS bm)) bo bq,aP⟩) λ(_,_)=>by kernel_rfl
def nd(a:Int)(b:Int):Int×Int:=
 let c:=λ(p3:Bool)=>
  cond (p3) (
  (0,20)) (
  cond (!decide ((aa (a<0))=(aa (b<0)))) (
   ((wr .i64 (wr .u64 (0-(lx (hB a) (hB b)).2))),0)) (
   ((wr .i64 ((lx (hB a) (hB b)).2)),0)))
 let j:=λ(p:Bool)=>
  cond (p) (
  c ae) (
  cond (aa ((lx (hB a) (hB b)).2=9223372036854775808)) (
   c (!(!decide ((aa (a<0))=(aa (b<0)))))) (
   c ai))
 cond (aa (0<(lx (hB a) (hB b)).1)) (
  j ae) (
  j (aa (9223372036854775808<(lx (hB a) (hB b)).2)))
theorem asE(x:au [aq,aq]):LG x=J (nd x.1 x.2):=by
 first
  |exact rfl
  |simp only[LG,nd,fA]
def adn:bb [aq,aq] [aq,aq]:=λx=>J (nd x.1 x.2)
theorem alf:aN 192 [aq,aq] [aq,aq] adn:=.de aiZ λx _ _ a=>(asE x).trans a
end Go.Proofs.YtcoaaebppfbbnaaGreatDoor
